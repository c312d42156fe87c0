/- part. -/
import Derived.Test.YtglpihajimhekaaGreatDoorZ6
import Derived.Laws.BytesString
namespace Go.Ev
variable {P : Program} {φ : Phi} {H : Heap} {w : World} {T : Tr AV} {a : Act}
theorem sub2a {x y : Operand} {T : Tr AV} {tm : Array Value} (h : TRelAt P φ T tm (· ∈ tmpsOf [x, y])) : TRelAt P φ T tm (· ∈ tmpsOf [x]) :=
 h.sub fun t h => by simp only [tmpsOf, List.filterMap_cons, List.filterMap_nil] at h ⊢; split at h <;> simp_all
theorem sub2b {x y : Operand} {T : Tr AV} {tm : Array Value} (h : TRelAt P φ T tm (· ∈ tmpsOf [x, y])) : TRelAt P φ T tm (· ∈ tmpsOf [y]) :=
 h.sub fun t h => by simp only [tmpsOf, List.filterMap_cons, List.filterMap_nil] at h ⊢; (split at h <;> split) <;> simp_all
inductive Cv where
 | no | int (k : IntKind) | id | s2b (e : TypeId) | b2s
def isU8 (P : Program) (e : TypeId) : Bool := match P.underlying e with
 | some (.int .u8) => true
 | _ => false
def cvOf (P : Program) (src dst : TypeId) : Cv := match P.underlying src, P.underlying dst with
 | some _, some (.int k) => .int k
 | some .string, some .string => .id
 | some .string, some (.slice e) => if isU8 P e then .s2b e else .no
 | some (.slice e), some .string => if isU8 P e then .b2s else .no
 | _, _ => .no
section
variable {β : Type}
noncomputable def wrapC (k : IntKind) (n : Int) (c : Int → β) : β := Int.rec (motive := fun _ => β) (fun m => natC k m c) (fun m => fI (k.wrap (.negSucc m)) c) n
theorem wrapC_eq (k : IntKind) (n : Int) (c : Int → β) : wrapC k n c = c (k.wrap n) := by
 cases n with
 | ofNat m => exact natC_eq k m c
 | negSucc m => exact fI_eq _ _
noncomputable def bytesC (l : List AV) (f : β) : (List Nat → β) → β :=
 List.rec (motive := fun _ => (List Nat → β) → β) (fun c => c [])
  (fun v _ ih c => asIntC v f fun k n => bif' (Nat.beq (kn k) 4) (Int.rec (motive := fun _ => β) (fun m => bif' (Nat.ble m 255) (ih fun r => c (m :: r)) f) (fun _ => f) n) f) l
theorem bytesC_sound (f : β) : ∀ (l : List AV) (vs : List Value) (c : List Nat → β), VRels P φ l vs → bytesC l f c = f ∨ ∃ ns : List Nat, bytesC l f c = c ns ∧ vs = (ns.map Int.ofNat).map (Value.int .u8) ∧ ∀ n ∈ ns, n < 256
 | [], _, c, .nil => .inr ⟨[], rfl, rfl, by simp⟩
 | v :: l, _, c, .cons _ _ v' vs hv hs => by
  cases hv <;> try exact .inl rfl
  rename_i k n
  show bif' (Nat.beq (kn k) 4) (Int.rec (motive := fun _ => β) (fun m => bif' (Nat.ble m 255) (bytesC l f fun r => c (m :: r)) f) (fun _ => f) n) f = f ∨ _
  by_cases hk : Nat.beq (kn k) 4 = true
  case neg => left; rw [eq_false_of_ne_true hk]; rfl
  have : k = .u8 := kn_inj (k := .u8) hk
  subst this
  cases n with
  | negSucc m => left; rw [hk]; rfl
  | ofNat m =>
   by_cases hm : Nat.ble m 255 = true
   case neg =>
    left; rw [hk, bif_true]
    show bif' (Nat.ble m 255) _ f = f
    rw [eq_false_of_ne_true hm]; rfl
   rcases bytesC_sound f l vs (fun r => c (m :: r)) hs with e | ⟨ns, e, h1, h2⟩
   ·left
    rw [hk, bif_true]
    show bif' (Nat.ble m 255) _ f = f
    rw [hm, bif_true, e]
   ·right
    refine ⟨m :: ns, ?_, by simp [h1], ?_⟩
    ·show bif' (Nat.beq (kn .u8) 4) (bif' (Nat.ble m 255) (bytesC l f fun r => c (m :: r)) f) f = _
     rw [hk, hm, bif_true, bif_true, e]
    ·intro n hn
     simp only [List.mem_cons] at hn
     rcases hn with rfl | hn
     ·have := Nat.le_of_ble_eq_true hm; omega
     ·exact h2 n hn
end
theorem push_bytes : ∀ (ns : List Nat) (s : ByteArray), (∀ n ∈ ns, n < 256) → ((ns.map Int.ofNat).foldl (fun r n => r.push (UInt8.ofNat n.toNat)) s).data.toList.map (·.toNat) = s.data.toList.map (·.toNat) ++ ns
 | [], s, _ => by simp
 | n :: ns, s, h => by
  simp only [List.map_cons, List.foldl_cons]
  rw [push_bytes ns _ (fun m hm => h m (by simp [hm]))]
  have hn := h n (by simp)
  simp [ByteArray.push, Nat.mod_eq_of_lt hn]
noncomputable def byteV (l : List Nat) : List (List AV) := List.rec (motive := fun _ => List (List AV)) [] (fun x _ ih => [.int .u8 (.ofNat x)] :: ih) l
theorem byteV_flat : ∀ l : List Nat, (byteV l).flatten = l.map fun x => .int .u8 (.ofNat x)
 | [] => rfl
 | x :: l => by show [_] ++ (byteV l).flatten = _; rw [byteV_flat l]; rfl
theorem byteV_len : ∀ (l : List Nat), ∀ r ∈ byteV l, r.length = 1
 | [], r, h => by simp [byteV] at h
 | x :: l, r, h => by
  have : r ∈ [AV.int .u8 (.ofNat x)] :: byteV l := h
  simp only [List.mem_cons] at this
  rcases this with rfl | h
  ·rfl
  ·exact byteV_len l r h
noncomputable def convR (cv : Cv) (x : X) (T : Tr AV) (H : Heap) : R1 := withX T x .fail fun v =>
 Cv.rec (motive := fun _ => R1) .fail (fun k => asIntC v .fail fun _ n => wrapC k n fun n => .val (.int k n) H) (asStrC v .fail fun l => .val (.str l) H)
  (fun _ => asStrC v .fail fun l => H.addC (.row true 1 (byteV l)) fun k G => fN l.length fun n => .val (.slice k 0 n 1 false n) G)
  (asSliceC v .fail (.val (.str []) H) fun k off len _ _ _ => loadC H k off len .fail fun l => bytesC l .fail fun ns => .val (.str ns) H) cv
theorem isU8_of {e : TypeId} (h : isU8 P e = true) : P.underlying e = some (.int .u8) := by
 unfold isU8 at h
 split at h
 ·assumption
 ·cases h
theorem vrels_bytes (l : List UInt8) : VRels P φ ((l.map (·.toNat)).map fun x => .int .u8 (.ofNat x)) (l.map fun b => .int .u8 b.toNat) := by
 induction l with
 | nil => exact .nil
 | cons x l ih => exact .cons _ _ _ _ (.int _ _) ih
theorem conv_sound (hw : WRel P φ H w) {src dst : TypeId} {o : Operand} {x : X} (hx : cX o = some x) (ht : TRelAt P φ T a.tmps (· ∈ tmpsOf [o])) :
  Ran P φ H w (do return Next.value (← convert src dst (a.eval o))) (convR (cvOf P src dst) x T H) := by
 unfold convR
 rcases withX_eq T x R1.fail (fun v => Cv.rec (motive := fun _ => R1) .fail (fun k => asIntC v .fail fun _ n => wrapC k n fun n => .val (.int k n) H) (asStrC v .fail fun l => .val (.str l) H)
  (fun _ => asStrC v .fail fun l => H.addC (.row true 1 (byteV l)) fun k G => fN l.length fun n => .val (.slice k 0 n 1 false n) G)
  (asSliceC v .fail (.val (.str []) H) fun k off len _ _ _ => loadC H k off len .fail fun l => bytesC l .fail fun ns => .val (.str ns) H) (cvOf P src dst)) with ⟨_, e⟩ | ⟨v, hv, e⟩ <;> rw [e]
 ·exact .fail
 have hv' := evX_sound ht hx hv
 generalize a.eval o = y at *
 unfold cvOf
 split
 ·rename_i hs hd
  show Ran P φ H w _ (asIntC v .fail fun _ n => wrapC _ n fun n => .val (.int _ n) H)
  cases hv' <;> try exact .fail
  rename_i k n
  show Ran P φ H w _ (wrapC _ n fun n => .val (.int _ n) H)
  rw [wrapC_eq]
  exact .pure hw (run_v (by simp [convert, run_underlying hs, run_underlying hd, Conv.intToInt])) (.int _ _)
 ·rename_i hs hd
  show Ran P φ H w _ (asStrC v .fail fun l => .val (.str l) H)
  cases hv' <;> try exact .fail
  rename_i l s h
  exact .pure hw (run_v (by simp [convert, run_underlying hs, run_underlying hd])) (.str _ _ h)
 ·rename_i e' hs hd
  split
  case isFalse => exact .fail
  rename_i h8
  have h8 := isU8_of h8
  show Ran P φ H w _ (asStrC v .fail fun l => H.addC (.row true 1 (byteV l)) fun k G => fN l.length fun n => .val (.slice k 0 n 1 false n) G)
  cases hv' <;> try exact .fail
  rename_i l s h
  show Ran P φ H w _ (H.addC (.row true 1 (byteV l)) fun k G => fN l.length fun n => .val (.slice k 0 n 1 false n) G)
  rw [Heap.addC_eq, fN_eq]
  subst h
  let cap := (Question.appendCap s.size 0 e').cut (w.tape w.drawn (.appendCap s.size 0 e'))
  have hcap : s.size ≤ cap := by show s.size ≤ s.size + _; omega
  let post : List Value := List.replicate (cap - s.size) (.int .u8 0)
  let vs : List Value := s.data.toList.map fun b => .int .u8 b.toNat
  have hvl : vs.length = s.size := by simp only [vs, List.length_map]; rfl
  have hn : (vs ++ post).length = cap := by simp [post]; rw [hvl]; omega
  have hrow := newRow_sound (P := P) (hw.drew (w.drawn + 1)) (esz := 1) (rows := byteV (s.data.toList.map (·.toNat))) (by omega) (byteV_len _) (vs := vs) (post := post)
   (by rw [byteV_flat]; exact vrels_bytes _) (by intro v hv; simp [vs] at hv; obtain ⟨b, _, rfl⟩ := hv; rfl) (by intro v hv; rw [List.eq_of_mem_replicate hv]; rfl) e' (vs ++ post).length ((vs ++ post).length + 1) (.inr ⟨Nat.le_refl _, rfl⟩)
  refine .val _ _ _ (.slice (some ⟨w.heap.size, 0, none⟩) s.size cap) _ _ (run_v ?_) (.inl rfl) hrow.1 (Ext.drew0 _ hrow.2) ?_
  ·have harr : (s.data.map fun b => Value.int .u8 b.toNat) ++ Array.replicate (cap - s.size) (Value.int .u8 0) = (vs ++ post).toArray := by
    apply Array.ext'; simp [vs, post]
   have hsz : ((vs ++ post).toArray).size = (vs ++ post).length := by simp
   simp only [convert, Sem.run_bind, run_underlying hs, run_underlying hd, run_underlying h8, Result.andThen_ok, Conv.stringToBytes, run_choose, Question.forced, Bool.false_eq_true, if_false, newRow, run_newObj, Sem.run_pure]
   have harr' : (s.data.map fun b => Value.int .u8 b.toNat) ++ Array.replicate ((Question.appendCap s.size 0 e').cut (w.tape w.drawn (.appendCap s.size 0 e')) - s.size) (Value.int .u8 0) = (vs ++ post).toArray := harr
   rw [harr']
   simp only [markStringish, Sem.run_bind, run_shape, Result.andThen_ok, World.shape?, Array.getElem?_push_size, run_freeze, hsz]
   congr 1
   simp only [World.freeze, Nat.one_ne_zero, if_false]
   congr 1
   apply Array.ext
   ·simp
   ·intro i h1 h2
    simp only [Array.getElem_modify, Array.getElem_push]
    split
    ·rename_i hi
     subst hi
     simp
    ·rename_i hi
     split
     ·rfl
     ·rename_i h3; simp at h1; omega
  ·have hl : (List.map (fun x => x.toNat) s.data.toList).length = s.size := by rw [List.length_map]; rfl
   have := VRel.slice (P := P) (φ := Phi.put φ H.nx ⟨w.heap.size, 0, (vs ++ post).length⟩) H.nx 0 (s.data.toList.map (·.toNat)).length 1 false (s.data.toList.map (·.toNat)).length ⟨w.heap.size, 0, (vs ++ post).length⟩ cap (Phi.put_same _ _ _) (by simp) (by rw [hl]; exact hcap) (Nat.le_refl _) (by simp only; omega)
   rw [hl] at this ⊢
   exact this
 ·rename_i e' hs hd
  split
  case isFalse => exact .fail
  rename_i h8
  have h8 := isU8_of h8
  show Ran P φ H w _ (asSliceC v .fail (.val (.str []) H) fun k off len _ _ _ => loadC H k off len .fail fun l => bytesC l .fail fun ns => .val (.str ns) H)
  cases hv' <;> try exact .fail
  ·exact .pure hw (run_v (by rw [run_convert_bytes_string w src dst e' none 0 0 hs h8 hd]; rfl)) (.str _ _ rfl)
  ·rename_i k off len esz ex cap at_ c hk hx hc hl hn
   show Ran P φ H w _ (loadC H k off len .fail fun l => bytesC l .fail fun ns => .val (.str ns) H)
   rcases loadC_sound hw hk off len R1.fail (fun l => bytesC l .fail fun ns => .val (.str ns) H) with e | ⟨l, vs, e, _, h1, _, hr, _⟩ <;> rw [e]
   ·exact .fail
   rcases bytesC_sound R1.fail l vs (fun ns => .val (.str ns) H) h1 with e | ⟨ns, e, h2, h3⟩ <;> rw [e]
   ·exact .fail
   rw [h2] at hr
   refine .pure hw (run_v (by rw [run_convert_bytes_string w src dst e' _ _ _ hs h8 hd, run_bytesToString w _ len c _ hr])) (.str _ _ ?_)
   rw [push_bytes ns _ h3]; rfl
  ·rename_i k off esz ex at_ x' hk
   show Ran P φ H w _ (loadC H k off 0 .fail fun l => bytesC l .fail fun ns => .val (.str ns) H)
   rcases loadC_sound hw hk off 0 R1.fail (fun l => bytesC l .fail fun ns => .val (.str ns) H) with e | ⟨l, vs, e, hl, _⟩ <;> rw [e]
   ·exact .fail
   match l, hl with
   | [], _ =>
    exact .pure hw (run_v (by rw [run_convert_bytes_string w src dst e' _ _ _ hs h8 hd, run_bytesToString w _ 0 0 [] rfl])) (.str _ _ rfl)
 ·exact .fail
noncomputable def mvR (x : X) (T : Tr AV) (H : Heap) : R1 := withX T x .fail fun v => .val v H
theorem mv_sound (hw : WRel P φ H w) {o : Operand} {x : X} (hx : cX o = some x) (ht : TRelAt P φ T a.tmps (· ∈ tmpsOf [o])) (s : Sem Next) (hs : s.run P w = .ok (.value (a.eval o)) w) : Ran0 P φ H w s (mvR x T H) := by
 unfold mvR
 rcases withX_eq T x R1.fail (fun v => .val v H) with ⟨_, e⟩ | ⟨v, hv, e⟩ <;> rw [e]
 ·exact .fail
 exact .pure hw hs (evX_sound ht hx hv)
noncomputable def pickR (c x y : X) (T : Tr AV) (H : Heap) : R1 := withX T c .fail fun v => asBoolC v .fail fun b => bif' b (mvR x T H) (mvR y T H)
theorem pick_sound (hw : WRel P φ H w) {o1 o2 o3 : Operand} {c x y : X} (hc : cX o1 = some c) (hx : cX o2 = some x) (hy : cX o3 = some y) (ht : TRelAt P φ T a.tmps (· ∈ tmpsOf [o1, o2, o3])) :
  Ran0 P φ H w (do pure (.value (if ← asBool (a.eval o1) then a.eval o2 else a.eval o3))) (pickR c x y T H) := by
 have h1 : TRelAt P φ T a.tmps (· ∈ tmpsOf [o1]) := ht.sub fun t h => by simp only [tmpsOf, List.filterMap_cons, List.filterMap_nil] at h ⊢; split at h <;> simp_all
 have h2 : TRelAt P φ T a.tmps (· ∈ tmpsOf [o2]) := ht.sub fun t h => by simp only [tmpsOf, List.filterMap_cons, List.filterMap_nil] at h ⊢; (split at h <;> (split <;> split)) <;> simp_all
 have h3 : TRelAt P φ T a.tmps (· ∈ tmpsOf [o3]) := ht.sub fun t h => by simp only [tmpsOf, List.filterMap_cons, List.filterMap_nil] at h ⊢; (split at h <;> (split <;> split)) <;> simp_all
 unfold pickR
 rcases withX_eq T c R1.fail (fun v => asBoolC v .fail fun b => bif' b (mvR x T H) (mvR y T H)) with ⟨_, e⟩ | ⟨v, hv, e⟩ <;> rw [e]
 ·exact .fail
 have hv' := evX_sound h1 hc hv
 generalize a.eval o1 = q at *
 cases hv' <;> try exact .fail
 rename_i b
 show Ran0 P φ H w _ (bif' b (mvR x T H) (mvR y T H))
 cases b
 ·exact mv_sound hw hy h3 _ rfl
 ·exact mv_sound hw hx h2 _ rfl
noncomputable def mkiR (t : TypeId) (x : X) (T : Tr AV) (H : Heap) : R1 := withX T x .fail fun v => .val (.iface t v) H
theorem mki_sound (hw : WRel P φ H w) {t : TypeId} {d : TypeDesc} (hu : P.underlying t = some d) (hd : ∀ m, d ≠ .interface m) {o : Operand} {x : X} (hx : cX o = some x) (ht : TRelAt P φ T a.tmps (· ∈ tmpsOf [o])) :
  Ran0 P φ H w (do return Next.value (← Instr.makeInterface t (a.eval o))) (mkiR t x T H) := by
 unfold mkiR
 rcases withX_eq T x R1.fail (fun v => .val (.iface t v) H) with ⟨_, e⟩ | ⟨v, hv, e⟩ <;> rw [e]
 ·exact .fail
 refine .pure hw (run_v ?_) (.iface _ _ _ (evX_sound ht hx hv))
 simp only [Instr.makeInterface, Sem.run_bind, run_underlying hu, Result.andThen_ok]
 cases d <;> first | rfl | exact absurd rfl (hd _)
noncomputable def extR (x : X) (i : Nat) (T : Tr AV) (H : Heap) : R1 := withX T x .fail fun v => asTupC v .fail fun l => Option.rec (motive := fun _ => R1) .fail (fun u => .val u H) (nthL i l)
theorem ext_sound (hw : WRel P φ H w) {o : Operand} {x : X} (hx : cX o = some x) (ht : TRelAt P φ T a.tmps (· ∈ tmpsOf [o])) (i : Nat) :
  Ran0 P φ H w (do return Next.value (← Instr.extract (a.eval o) i)) (extR x i T H) := by
 unfold extR
 rcases withX_eq T x R1.fail (fun v => asTupC v .fail fun l => Option.rec (motive := fun _ => R1) .fail (fun u => .val u H) (nthL i l)) with ⟨_, e⟩ | ⟨v, hv, e⟩ <;> rw [e]
 ·exact .fail
 have hv' := evX_sound ht hx hv
 generalize a.eval o = y at *
 cases hv' <;> try exact .fail
 rename_i l c h
 show Ran0 P φ H w _ (Option.rec (motive := fun _ => R1) .fail (fun u => .val u H) (nthL i l))
 rw [nthL_eq]
 cases hi : l[i]? with
 | none => exact .fail
 | some u =>
  obtain ⟨u', h1, h2⟩ := h.nth i hi
  refine .pure hw (run_v ?_) h2
  have : c[i]? = some u' := by simpa using h1
  simp [Instr.extract, this]
noncomputable def partC {β : Type} (agg : Bool) (n : Nat) (l : List AV) (off : Nat) (f : β) (c : AV → β) : β :=
 bif' agg (takeC f n (dropL off l) fun r => c (.agg r)) (Option.rec (motive := fun _ => β) f (fun v => c v) (nthL off l))
theorem partC_sound {β : Type} {t : TypeId} {b : Bool} {n : Nat} (hb : aggT P t = some b) (hn : szT P t = some n) {l : List AV} {cs : Array Value} (h : VRels P φ l cs.toList) (h1 : ∀ v ∈ cs.toList, v.oneCell' = true) (off : Nat) (f : β) (c : AV → β) (w : World) :
  partC b n l off f c = f ∨ ∃ v v', partC b n l off f c = c v ∧ (part t cs off).run P w = .ok v' w ∧ VRel P φ v v' := by
 unfold partC
 cases b
 ·rw [bif_false, nthL_eq]
  cases hi : l[off]? with
  | none => exact .inl rfl
  | some v =>
   obtain ⟨v', h2, h3⟩ := h.nth off hi
   have : cs[off]? = some v' := by simpa using h2
   exact .inr ⟨v, v', rfl, by simp [part, run_isAgg' hb, this], h3⟩
 ·rw [bif_true, takeC_eq, dropL_eq]
  split
  ·refine .inr ⟨_, .agg (cs.extract off (off + n)), rfl, by simp [part, run_isAgg' hb, run_sizeOf' hn], .agg _ _ ?_ ?_⟩
   ·simp only [Array.toList_extract, List.extract_eq_take_drop]
    rw [show off + n - off = n by omega]
    exact (h.drop off).take n
   ·intro v hv
    simp only [Array.toList_extract, List.extract_eq_take_drop] at hv
    exact h1 v (List.mem_of_mem_drop (List.mem_of_mem_take hv))
  ·exact .inl rfl
noncomputable def fldR (agg : Bool) (n off : Nat) (x : X) (T : Tr AV) (H : Heap) : R1 := withX T x .fail fun v => asAggC v .fail fun l => partC agg n l off .fail fun u => .val u H
theorem fld_sound (hw : WRel P φ H w) {t : TypeId} {fs : Array Field} {fd : Field} {i : Nat} (hu : P.underlying t = some (.struct fs)) (hi : fs[i]? = some fd) {b : Bool} {n : Nat} (hb : aggT P fd.type = some b) (hn : szT P fd.type = some n)
  {o : Operand} {x : X} (hx : cX o = some x) (ht : TRelAt P φ T a.tmps (· ∈ tmpsOf [o])) :
  Ran0 P φ H w (do return Next.value (← Instr.field t (a.eval o) i)) (fldR b n fd.offset x T H) := by
 unfold fldR
 rcases withX_eq T x R1.fail (fun v => asAggC v .fail fun l => partC b n l fd.offset .fail fun u => .val u H) with ⟨_, e⟩ | ⟨v, hv, e⟩ <;> rw [e]
 ·exact .fail
 have hv' := evX_sound ht hx hv
 generalize a.eval o = y at *
 cases hv' <;> try exact .fail
 rename_i l c h h1
 show Ran0 P φ H w _ (partC b n l fd.offset .fail fun u => .val u H)
 rcases partC_sound hb hn h h1 fd.offset R1.fail (fun u => .val u H) w with e | ⟨v, v', e, hr, hvr⟩ <;> rw [e]
 ·exact .fail
 exact .pure hw (run_v (by simp [Instr.field, run_underlying hu, hi, asAgg, hr])) hvr
noncomputable def faR (off : Nat) (x : X) (T : Tr AV) (H : Heap) : R1 := withX T x .fail fun v => asPtrC v .fail fun k i => fN (i + off) fun i => .val (.ptr k i) H
theorem fa_sound (hw : WRel P φ H w) {t : TypeId} {fs : Array Field} {fd : Field} {i : Nat} (hu : P.underlying t = some (.struct fs)) (hi : fs[i]? = some fd) {n : Nat} (hn : szT P fd.type = some n) (h0 : n ≠ 0)
  {o : Operand} {x : X} (hx : cX o = some x) (ht : TRelAt P φ T a.tmps (· ∈ tmpsOf [o])) :
  Ran0 P φ H w (do return Next.value (← Instr.fieldAt t (a.eval o) i)) (faR fd.offset x T H) := by
 unfold faR
 rcases withX_eq T x R1.fail (fun v => asPtrC v .fail fun k i => fN (i + fd.offset) fun i => .val (.ptr k i) H) with ⟨_, e⟩ | ⟨v, hv, e⟩ <;> rw [e]
 ·exact .fail
 have hv' := evX_sound ht hx hv
 generalize a.eval o = y at *
 cases hv' <;> try exact .fail
 rename_i k off at_ hk
 show Ran0 P φ H w _ (fN (off + fd.offset) fun i => .val (.ptr k i) H)
 rw [fN_eq]
 refine .pure hw (run_v ?_) (.ptr _ _ at_ hk)
 simp only [Instr.fieldAt, Sem.run_bind, run_underlying hu, Result.andThen_ok, hi, Instr.sureAddr, Sem.run_pure, fieldPlace, run_sizeOf' hn, if_neg h0, add_at]
 rw [Nat.add_assoc]
noncomputable def ixC {β : Type} (v : AV) (f : β) (c : Nat → β) : β := asIntC v f fun _ n => Int.rec (motive := fun _ => β) (fun m => c m) (fun _ => f) n
theorem ixC_sound {β : Type} {v : AV} {v' : Value} (h : VRel P φ v v') (f : β) (c : Nat → β) : ixC v f c = f ∨ ∃ k n, v' = .int k (.ofNat n) ∧ ixC v f c = c n := by
 cases h <;> try exact .inl rfl
 rename_i k n
 cases n with
 | ofNat m => exact .inr ⟨k, m, rfl, rfl⟩
 | negSucc m => exact .inl rfl
noncomputable def iaS (esz : Nat) (x i : X) (T : Tr AV) (H : Heap) : R1 := withX T x .fail fun v => withX T i .fail fun j => ixC j .fail fun j => asSliceC v .fail .fail fun k off len _ _ _ =>
 bif' (Nat.ble (j + 1) len) (fN (off + j * esz) fun o => .val (.ptr k o) H) .fail
theorem iaS_sound (hw : WRel P φ H w) {t e : TypeId} {esz : Nat} (hu : P.underlying t = some (.slice e)) (hn : szT P e = some esz) {o1 o2 : Operand} {x i : X} (hx : cX o1 = some x) (hi : cX o2 = some i) (ht : TRelAt P φ T a.tmps (· ∈ tmpsOf [o1, o2])) :
  Ran0 P φ H w (do return Next.value (← Instr.indexAt t (a.eval o1) (a.eval o2))) (iaS esz x i T H) := by
 unfold iaS
 rcases withX_eq T x R1.fail (fun v => withX T i .fail fun j => ixC j .fail fun j => asSliceC v .fail .fail fun k off len _ _ _ => bif' (Nat.ble (j + 1) len) (fN (off + j * esz) fun o => .val (.ptr k o) H) .fail) with ⟨_, e⟩ | ⟨v, hv, e⟩ <;> rw [e] <;> clear e
 ·exact .fail
 rcases withX_eq T i R1.fail (fun j => ixC j .fail fun j => asSliceC v .fail .fail fun k off len _ _ _ => bif' (Nat.ble (j + 1) len) (fN (off + j * esz) fun o => .val (.ptr k o) H) .fail) with ⟨_, e⟩ | ⟨j, hj, e⟩ <;> rw [e] <;> clear e
 ·exact .fail
 have hv' := evX_sound (sub2a ht) hx hv
 have hj' := evX_sound (sub2b ht) hi hj
 rcases ixC_sound hj' R1.fail (fun j => asSliceC v .fail .fail fun k off len _ _ _ => bif' (Nat.ble (j + 1) len) (fN (off + j * esz) fun o => .val (.ptr k o) H) .fail) with e | ⟨kd, n, hje, e⟩ <;> rw [e] <;> clear e
 ·exact .fail
 rw [hje]
 generalize a.eval o1 = y at *
 cases hv' <;> try exact .fail
 rename_i k off len es ex cap at_ c hk hx hc hl hlen
 show Ran0 P φ H w _ (bif' (Nat.ble (n + 1) len) (fN (off + n * esz) fun o => .val (.ptr k o) H) .fail)
 by_cases hb : Nat.ble (n + 1) len = true
 case neg => rw [eq_false_of_ne_true hb]; exact .fail
 rw [hb, bif_true, fN_eq]
 have hlt := Nat.le_of_ble_eq_true hb
 refine .pure hw (run_v ?_) (.ptr _ _ at_ hk)
 have hlt' : (0 : Int) ≤ (n : Int) ∧ (n : Int) < (len : Int) := by omega
 simp only [Instr.indexAt, asIntOf, Sem.run_bind, Sem.run_pure, Result.andThen_ok, run_underlying hu]
 simp only [Int.ofNat_eq_natCast, hlt', and_self, if_true, Sem.run_bind, run_sizeOf' hn, Result.andThen_ok, Sem.run_pure, Int.toNat_natCast, add_at]
 rw [Nat.add_assoc]
noncomputable def iaA (len esz : Nat) (x i : X) (T : Tr AV) (H : Heap) : R1 := withX T x .fail fun v => withX T i .fail fun j => ixC j .fail fun j => asPtrC v .fail fun k off =>
 bif' (Nat.ble (j + 1) len) (fN (off + j * esz) fun o => .val (.ptr k o) H) .fail
theorem iaA_sound (hw : WRel P φ H w) {t e : TypeId} {len esz : Nat} (hu : P.underlying t = some (.array len e)) (hn : szT P e = some esz) {o1 o2 : Operand} {x i : X} (hx : cX o1 = some x) (hi : cX o2 = some i) (ht : TRelAt P φ T a.tmps (· ∈ tmpsOf [o1, o2])) :
  Ran0 P φ H w (do return Next.value (← Instr.indexAt t (a.eval o1) (a.eval o2))) (iaA len esz x i T H) := by
 unfold iaA
 rcases withX_eq T x R1.fail (fun v => withX T i .fail fun j => ixC j .fail fun j => asPtrC v .fail fun k off => bif' (Nat.ble (j + 1) len) (fN (off + j * esz) fun o => .val (.ptr k o) H) .fail) with ⟨_, e⟩ | ⟨v, hv, e⟩ <;> rw [e] <;> clear e
 ·exact .fail
 rcases withX_eq T i R1.fail (fun j => ixC j .fail fun j => asPtrC v .fail fun k off => bif' (Nat.ble (j + 1) len) (fN (off + j * esz) fun o => .val (.ptr k o) H) .fail) with ⟨_, e⟩ | ⟨j, hj, e⟩ <;> rw [e] <;> clear e
 ·exact .fail
 have hv' := evX_sound (sub2a ht) hx hv
 have hj' := evX_sound (sub2b ht) hi hj
 rcases ixC_sound hj' R1.fail (fun j => asPtrC v .fail fun k off => bif' (Nat.ble (j + 1) len) (fN (off + j * esz) fun o => .val (.ptr k o) H) .fail) with e | ⟨kd, n, hje, e⟩ <;> rw [e] <;> clear e
 ·exact .fail
 rw [hje]
 generalize a.eval o1 = y at *
 cases hv' <;> try exact .fail
 rename_i k off at_ hk
 show Ran0 P φ H w _ (bif' (Nat.ble (n + 1) len) (fN (off + n * esz) fun o => .val (.ptr k o) H) .fail)
 by_cases hb : Nat.ble (n + 1) len = true
 case neg => rw [eq_false_of_ne_true hb]; exact .fail
 rw [hb, bif_true, fN_eq]
 have hlt := Nat.le_of_ble_eq_true hb
 refine .pure hw (run_v ?_) (.ptr _ _ at_ hk)
 have hlt' : (0 : Int) ≤ (n : Int) ∧ (n : Int) < (len : Int) := by omega
 simp only [Instr.indexAt, asIntOf, Sem.run_bind, Sem.run_pure, Result.andThen_ok, run_underlying hu, Instr.sureAddr]
 simp only [Int.ofNat_eq_natCast, hlt', and_self, if_true, Sem.run_bind, run_sizeOf' hn, Result.andThen_ok, Sem.run_pure, Int.toNat_natCast, add_at]
 rw [Nat.add_assoc]
noncomputable def ixR (str agg : Bool) (len esz : Nat) (x i : X) (T : Tr AV) (H : Heap) : R1 := withX T x .fail fun v => withX T i .fail fun j => ixC j .fail fun j =>
 bif' str (asStrC v .fail fun l => Option.rec (motive := fun _ => R1) .fail (fun b => fN b fun b => .val (.int .u8 (.ofNat b)) H) (nthL j l))
  (asAggC v .fail fun l => bif' (Nat.ble (j + 1) len) (partC agg esz l (j * esz) .fail fun u => .val u H) .fail)
theorem ixA_sound (hw : WRel P φ H w) {t e : TypeId} {len esz : Nat} {b : Bool} (hu : P.underlying t = some (.array len e)) (hb : aggT P e = some b) (hn : szT P e = some esz) {o1 o2 : Operand} {x i : X} (hx : cX o1 = some x) (hi : cX o2 = some i) (ht : TRelAt P φ T a.tmps (· ∈ tmpsOf [o1, o2])) :
  Ran0 P φ H w (do return Next.value (← Instr.index t (a.eval o1) (a.eval o2))) (ixR false b len esz x i T H) := by
 unfold ixR
 rcases withX_eq T x R1.fail (fun v => withX T i .fail fun j => ixC j .fail fun j => bif' false (asStrC v .fail fun l => Option.rec (motive := fun _ => R1) .fail (fun b => fN b fun b => .val (.int .u8 (.ofNat b)) H) (nthL j l)) (asAggC v .fail fun l => bif' (Nat.ble (j + 1) len) (partC b esz l (j * esz) .fail fun u => .val u H) .fail)) with ⟨_, e⟩ | ⟨v, hv, e⟩ <;> rw [e] <;> clear e
 ·exact .fail
 rcases withX_eq T i R1.fail (fun j => ixC j .fail fun j => bif' false (asStrC v .fail fun l => Option.rec (motive := fun _ => R1) .fail (fun b => fN b fun b => .val (.int .u8 (.ofNat b)) H) (nthL j l)) (asAggC v .fail fun l => bif' (Nat.ble (j + 1) len) (partC b esz l (j * esz) .fail fun u => .val u H) .fail)) with ⟨_, e⟩ | ⟨j, hj, e⟩ <;> rw [e] <;> clear e
 ·exact .fail
 have hv' := evX_sound (sub2a ht) hx hv
 have hj' := evX_sound (sub2b ht) hi hj
 rcases ixC_sound hj' R1.fail (fun j => bif' false (asStrC v .fail fun l => Option.rec (motive := fun _ => R1) .fail (fun b => fN b fun b => .val (.int .u8 (.ofNat b)) H) (nthL j l)) (asAggC v .fail fun l => bif' (Nat.ble (j + 1) len) (partC b esz l (j * esz) .fail fun u => .val u H) .fail)) with e | ⟨kd, n, hje, e⟩ <;> rw [e] <;> clear e
 ·exact .fail
 rw [hje, bif_false]
 generalize a.eval o1 = y at *
 cases hv' <;> try exact .fail
 rename_i l c h h1
 show Ran0 P φ H w _ (bif' (Nat.ble (n + 1) len) (partC b esz l (n * esz) .fail fun u => .val u H) .fail)
 by_cases hle : Nat.ble (n + 1) len = true
 case neg => rw [eq_false_of_ne_true hle]; exact .fail
 rw [hle, bif_true]
 have hlt := Nat.le_of_ble_eq_true hle
 have hlt' : (0 : Int) ≤ (n : Int) ∧ (n : Int) < (len : Int) := by omega
 rcases partC_sound hb hn h h1 (n * esz) R1.fail (fun u => .val u H) w with e | ⟨v, v', e, hr, hvr⟩ <;> rw [e]
 ·exact .fail
 refine .pure hw (run_v ?_) hvr
 simp only [Instr.index, asIntOf, Sem.run_bind, Sem.run_pure, Result.andThen_ok, run_underlying hu]
 simp only [Int.ofNat_eq_natCast, hlt', and_self, if_true, Sem.run_bind, run_sizeOf' hn, Result.andThen_ok, Int.toNat_natCast]
 exact hr
theorem ixS_sound (hw : WRel P φ H w) {t : TypeId} (hu : P.underlying t = some .string) {o1 o2 : Operand} {x i : X} (hx : cX o1 = some x) (hi : cX o2 = some i) (ht : TRelAt P φ T a.tmps (· ∈ tmpsOf [o1, o2])) :
  Ran0 P φ H w (do return Next.value (← Instr.index t (a.eval o1) (a.eval o2))) (ixR true false 0 0 x i T H) := by
 unfold ixR
 rcases withX_eq T x R1.fail (fun v => withX T i .fail fun j => ixC j .fail fun j => bif' true (asStrC v .fail fun l => Option.rec (motive := fun _ => R1) .fail (fun b => fN b fun b => .val (.int .u8 (.ofNat b)) H) (nthL j l)) (asAggC v .fail fun l => bif' (Nat.ble (j + 1) 0) (partC false 0 l (j * 0) .fail fun u => .val u H) .fail)) with ⟨_, e⟩ | ⟨v, hv, e⟩ <;> rw [e] <;> clear e
 ·exact .fail
 rcases withX_eq T i R1.fail (fun j => ixC j .fail fun j => bif' true (asStrC v .fail fun l => Option.rec (motive := fun _ => R1) .fail (fun b => fN b fun b => .val (.int .u8 (.ofNat b)) H) (nthL j l)) (asAggC v .fail fun l => bif' (Nat.ble (j + 1) 0) (partC false 0 l (j * 0) .fail fun u => .val u H) .fail)) with ⟨_, e⟩ | ⟨j, hj, e⟩ <;> rw [e] <;> clear e
 ·exact .fail
 have hv' := evX_sound (sub2a ht) hx hv
 have hj' := evX_sound (sub2b ht) hi hj
 rcases ixC_sound hj' R1.fail (fun j => bif' true (asStrC v .fail fun l => Option.rec (motive := fun _ => R1) .fail (fun b => fN b fun b => .val (.int .u8 (.ofNat b)) H) (nthL j l)) (asAggC v .fail fun l => bif' (Nat.ble (j + 1) 0) (partC false 0 l (j * 0) .fail fun u => .val u H) .fail)) with e | ⟨kd, n, hje, e⟩ <;> rw [e] <;> clear e
 ·exact .fail
 rw [hje, bif_true]
 generalize a.eval o1 = y at *
 cases hv' <;> try exact .fail
 rename_i l s h
 show Ran0 P φ H w _ (Option.rec (motive := fun _ => R1) .fail (fun b => fN b fun b => .val (.int .u8 (.ofNat b)) H) (nthL n l))
 rw [nthL_eq]
 cases hn : l[n]? with
 | none => exact .fail
 | some b =>
  show Ran0 P φ H w _ (fN b fun b => .val (.int .u8 (.ofNat b)) H)
  rw [fN_eq]
  subst h
  simp only [List.getElem?_map, Option.map_eq_some_iff] at hn
  obtain ⟨u, hu1, hu2⟩ := hn
  subst hu2
  refine .pure hw (run_v ?_) (.int _ _)
  have hb : s[n]? = some u := by
   have h1 : n < s.data.size := by have := (List.getElem?_eq_some_iff.1 hu1).1; simpa using this
   have h2 : s.data[n] = u := by have := (List.getElem?_eq_some_iff.1 hu1).2; simpa using this
   have h3 : n < s.size := h1
   rw [getElem?_pos s n h3]
   congr 1
  simp only [Instr.index, asIntOf, Sem.run_bind, Sem.run_pure, Result.andThen_ok, run_underlying hu]
  simp only [Int.ofNat_eq_natCast, Int.natCast_nonneg, if_true, Int.toNat_natCast, hb, Sem.run_pure]
end Go.Ev
namespace Go.Ev
variable {P : Program} {φ : Phi} {H : Heap} {w : World} {T : Tr AV} {a : Act}
theorem fold_put (off : Nat) : ∀ (l : List Value) (k : Nat) (cs : Array Value), off + k + l.length ≤ cs.size →
  (l.zipIdx k).foldl (fun cs x => cs.setIfInBounds (off + x.2) x.1) cs = (cs.toList.take (off + k) ++ l ++ cs.toList.drop (off + k + l.length)).toArray
 | [], k, cs, _ => by simp
 | v :: l, k, cs, h => by
  simp only [List.zipIdx_cons, List.foldl_cons]
  rw [fold_put off l (k + 1) _ (by simp at h ⊢; omega)]
  have e := list_seg_step cs.toList (off + k) v l (by simp at h ⊢; omega)
  congr 1
  simpa [Array.toList_setIfInBounds, Nat.add_assoc] using e
theorem fill_cons (place : Nat → Option (Nat × Nat)) (cells : Array Value) (i : Nat) (v : Value) (rest : List (Nat × Value)) (off size : Nat) (hp : place i = some (off, size)) (hs : v.cells.size = size) (hf : off + size ≤ cells.size) :
  Instr.fill place cells ((i, v) :: rest) = Instr.fill place (cells.toList.take off ++ v.cells.toList ++ cells.toList.drop (off + size)).toArray rest := by
 simp only [Instr.fill, hp]
 have h1 : (v.cells.size != size || decide (off + v.cells.size > cells.size)) = false := by simp [hs]; omega
 rw [if_neg (by simpa [hs] using hf)]
 congr 1
 have := fold_put off v.cells.toList 0 cells (by simp [hs]; omega)
 simp only [Nat.add_zero, Array.length_toList, hs] at this
 rw [← this]
 rw [← Array.foldl_toList]
 simp
noncomputable def fillC {β : Type} (T : Tr AV) (f : β) (parts : List (Nat × Nat × X)) : List AV → (List AV → β) → β :=
 List.rec (motive := fun _ => List AV → (List AV → β) → β) (fun l c => c l)
  (fun p _ ih l c => withX T p.2.2 f fun v => cellsC v f fun r => bif' (Nat.beq r.length p.2.1) (putC f r p.1 l fun l => ih l c) f) parts
noncomputable def cParts (place : Nat → Option (Nat × Nat)) : List (Nat × Operand) → Option (List (Nat × Nat × X))
 | [] => some []
 | (i, o) :: l => (place i).bind fun p => (cX o).bind fun x => (cParts place l).map fun r => (p.1, p.2, x) :: r
def opsOf (l : List (Nat × Operand)) : List Operand := l.map (·.2)
theorem fillC_sound {β : Type} (f : β) (place : Nat → Option (Nat × Nat)) : ∀ (l : List (Nat × Operand)) (ps : List (Nat × Nat × X)) (cells : List AV) (cs : Array Value) (c : List AV → β), cParts place l = some ps → TRelAt P φ T a.tmps (· ∈ tmpsOf (opsOf l)) →
  VRels P φ cells cs.toList → (∀ v ∈ cs.toList, v.oneCell' = true) →
  fillC T f ps cells c = f ∨ ∃ r cr, fillC T f ps cells c = c r ∧ Instr.fill place cs (l.map fun x => (x.1, a.eval x.2)) = some cr ∧ VRels P φ r cr.toList ∧ (∀ v ∈ cr.toList, v.oneCell' = true) ∧ r.length = cells.length
 | [], ps, cells, cs, c, h, _, hv, h1 => by cases h; exact .inr ⟨cells, cs, rfl, rfl, hv, h1, rfl⟩
 | (i, o) :: l, ps, cells, cs, c, h, ht, hv, h1 => by
  simp only [cParts] at h
  cases hp : place i with
  | none => simp [hp] at h
  | some p =>
   cases hx : cX o with
   | none => simp [hp, hx] at h
   | some x =>
    cases hr : cParts place l with
    | none => simp [hp, hx, hr] at h
    | some ps' =>
     simp [hp, hx, hr] at h
     subst h
     obtain ⟨off, size⟩ := p
     show withX T x f (fun v => cellsC v f fun r => bif' (Nat.beq r.length size) (putC f r off cells fun l => fillC T f ps' l c) f) = f ∨ _
     have hc : ∀ z, withX T x f (fun v => cellsC v f fun r => bif' (Nat.beq r.length size) (putC f r off cells fun l => fillC T f ps' l c) f) = z → fillC T f ((off, size, x) :: ps') cells c = z := fun z h => h
     rcases withX_eq T x f (fun v => cellsC v f fun r => bif' (Nat.beq r.length size) (putC f r off cells fun l => fillC T f ps' l c) f) with ⟨_, e⟩ | ⟨v, hvv, e⟩
     ·exact .inl e
     have hv' := evX_sound (P := P) (φ := φ) (a := a) (ht.sub fun t h => by simp only [opsOf, tmpsOf, List.map_cons, List.filterMap_cons, List.filterMap_nil] at h ⊢; split at h <;> simp_all) hx hvv
     rcases cellsC_eq hv' f (fun r => bif' (Nat.beq r.length size) (putC f r off cells fun l => fillC T f ps' l c) f) with e2 | ⟨r, e2, hr1, hr2⟩
     ·exact .inl (e.trans e2)
     by_cases hsz : Nat.beq r.length size = true
     case neg => exact .inl (by rw [e, e2, eq_false_of_ne_true hsz]; rfl)
     rw [hsz, bif_true, putC_eq] at e2
     split at e2
     case isFalse => exact .inl (e.trans e2)
     rename_i hfit
     have hszv : (a.eval o).cells.size = size := by
      have := hr1.length
      rw [Nat.beq_eq] at hsz
      simp at this; omega
     have hlen := hv.length
     have hcells : (a.eval o).cells.toList.length = size := by simpa using hszv
     have hrl : r.length = size := by simpa using hsz
     have hval : VRels P φ (cells.take off ++ r ++ cells.drop (off + r.length)) ((cs.toList.take off ++ (a.eval o).cells.toList ++ cs.toList.drop (off + size)).toArray).toList := by
      rw [hrl]; exact ((hv.take off).append hr1).append (hv.drop _)
     have hone : ∀ v ∈ ((cs.toList.take off ++ (a.eval o).cells.toList ++ cs.toList.drop (off + size)).toArray).toList, v.oneCell' = true := by
      intro v hv
      simp only [List.mem_append] at hv
      rcases hv with (hv | hv) | hv
      ·exact h1 v (List.mem_of_mem_take hv)
      ·exact hr2 v hv
      ·exact h1 v (List.mem_of_mem_drop hv)
     have hlen2 : (cells.take off ++ r ++ cells.drop (off + r.length)).length = cells.length := by simp; omega
     rcases fillC_sound f place l ps' _ _ c hr (ht.sub fun t h => by simp only [opsOf, tmpsOf, List.map_cons, List.filterMap_cons] at h ⊢; split <;> simp_all) hval hone with e3 | ⟨q, cq, e3, hq1, hq2, hq3, hq4⟩
     ·exact .inl (e.trans (e2.trans e3))
     ·refine .inr ⟨q, cq, e.trans (e2.trans e3), ?_, hq2, hq3, hq4.trans hlen2⟩
      rw [List.map_cons, fill_cons place cs i (a.eval o) _ off size hp hszv (by simp at hlen; omega)]
      exact hq1
def placeOf (P : Program) (t : TypeId) : Option (Nat → Option (Nat × Nat)) := match P.underlying t with
 | some (.array _ e) => (szT P e).map fun n => fun i => some (i * n, n)
 | some (.struct fs) => (fs.toList.mapM fun f => (P.info? f.type).map fun i => (f.offset, i.size)).map fun l => fun i => l[i]?
 | _ => none
noncomputable def buildR (zero : List AV) (parts : List (Nat × Nat × X)) (T : Tr AV) (H : Heap) : R1 := fillC T .fail parts zero fun l => .val (.agg l) H
theorem build_sound (hw : WRel P φ H w) {t : TypeId} {zero : List AV} (hz : zeroL P t = some zero) {place : Nat → Option (Nat × Nat)} (hpl : placeOf P t = some place) {parts : Array (Nat × Operand)} {ps : List (Nat × Nat × X)}
  (hps : cParts place parts.toList = some ps) (ht : TRelAt P φ T a.tmps (· ∈ tmpsOf (opsOf parts.toList))) :
  Ran0 P φ H w (do return Next.value (← Instr.build t (parts.map fun (i, x) => (i, a.eval x)))) (buildR zero ps T H) := by
 unfold buildR
 unfold zeroL at hz
 cases hi : P.info? t with
 | none => simp [hi] at hz
 | some it =>
  cases hzz : it.zero with
  | none => simp [hi, hzz] at hz
  | some z =>
   simp only [hi, hzz, Option.bind_some] at hz
   have hs := ofScalars_sound (P := P) (φ := φ) hz
   rcases fillC_sound (P := P) (φ := φ) (T := T) (a := a) R1.fail place parts.toList ps zero z.cells (fun l => .val (.agg l) H) hps ht hs.1 hs.2 with e | ⟨r, cr, e, h1, h2, h3, _⟩ <;> rw [e]
   ·exact .fail
   refine .pure hw (run_v (run_build w t _ cr ?_)) (.agg _ _ h2 h3)
   have hmap : (parts.map fun (i, x) => (i, a.eval x)).toList = parts.toList.map fun x => (x.1, a.eval x.2) := by simp
   rw [hmap]
   unfold placeOf at hpl
   unfold Program.built
   rw [hi]
   split at hpl
   ·rename_i n e' hu
    rw [hu]
    cases hie : P.info? e' with
    | none => simp [szT, hie] at hpl
    | some ie =>
     simp only [szT, hie, Option.map_some, Option.some.injEq] at hpl
     subst hpl
     simp only [hzz, hie]
     exact h1
   ·rename_i fs hu
    rw [hu]
    cases hp : fs.toList.mapM fun f => (P.info? f.type).map fun i => (f.offset, i.size) with
    | none => simp [hp] at hpl
    | some places =>
     simp only [hp, Option.map_some, Option.some.injEq] at hpl
     subst hpl
     simp only [hzz, hp]
     simpa using h1
   ·cases hpl
noncomputable def repL {α : Type} (n : Nat) (x : α) : List α := Nat.rec (motive := fun _ => List α) [] (fun _ ih => x :: ih) n
theorem repL_eq {α : Type} (x : α) : ∀ n, repL n x = List.replicate n x
 | 0 => rfl
 | n + 1 => by show x :: repL n x = _; rw [repL_eq x n]; rfl
noncomputable def fillRows {β : Type} (T : Tr AV) (f : β) (esz : Nat) (parts : List (Nat × X)) : List (List AV) → (List (List AV) → β) → β :=
 List.rec (motive := fun _ => List (List AV) → (List (List AV) → β) → β) (fun l c => c l)
  (fun p _ ih l c => withX T p.2 f fun v => cellsC v f fun r => bif' (Nat.beq r.length esz) (putC f [r] p.1 l fun l => ih l c) f) parts
noncomputable def cPairs : List (Nat × Operand) → Option (List (Nat × X))
 | [] => some []
 | (i, o) :: l => (cX o).bind fun x => (cPairs l).map fun r => (i, x) :: r
theorem fillRows_sound {β : Type} (f : β) (esz : Nat) : ∀ (l : List (Nat × Operand)) (ps : List (Nat × X)) (rows : List (List AV)) (cs : Array Value) (c : List (List AV) → β), cPairs l = some ps → TRelAt P φ T a.tmps (· ∈ tmpsOf (opsOf l)) →
  (∀ r ∈ rows, r.length = esz) → VRels P φ rows.flatten cs.toList → (∀ v ∈ cs.toList, v.oneCell' = true) →
  fillRows T f esz ps rows c = f ∨ ∃ r cr, fillRows T f esz ps rows c = c r ∧ Instr.fill (fun i => some (i * esz, esz)) cs (l.map fun x => (x.1, a.eval x.2)) = some cr ∧ (∀ x ∈ r, x.length = esz) ∧ VRels P φ r.flatten cr.toList ∧ (∀ v ∈ cr.toList, v.oneCell' = true)
 | [], ps, rows, cs, c, h, _, hl, hv, h1 => by cases h; exact .inr ⟨rows, cs, rfl, rfl, hl, hv, h1⟩
 | (i, o) :: l, ps, rows, cs, c, h, ht, hl, hv, h1 => by
  simp only [cPairs] at h
  cases hx : cX o with
  | none => simp [hx] at h
  | some x =>
   cases hr : cPairs l with
   | none => simp [hx, hr] at h
   | some ps' =>
    simp [hx, hr] at h
    subst h
    show withX T x f (fun v => cellsC v f fun r => bif' (Nat.beq r.length esz) (putC f [r] i rows fun l => fillRows T f esz ps' l c) f) = f ∨ _
    rcases withX_eq T x f (fun v => cellsC v f fun r => bif' (Nat.beq r.length esz) (putC f [r] i rows fun l => fillRows T f esz ps' l c) f) with ⟨_, e⟩ | ⟨v, hvv, e⟩
    ·exact .inl e
    have hv' := evX_sound (P := P) (φ := φ) (a := a) (ht.sub fun t h => by simp only [opsOf, tmpsOf, List.map_cons, List.filterMap_cons, List.filterMap_nil] at h ⊢; split at h <;> simp_all) hx hvv
    rcases cellsC_eq hv' f (fun r => bif' (Nat.beq r.length esz) (putC f [r] i rows fun l => fillRows T f esz ps' l c) f) with e2 | ⟨r, e2, hr1, hr2⟩
    ·exact .inl (e.trans e2)
    by_cases hsz : Nat.beq r.length esz = true
    case neg => exact .inl (by rw [e, e2, eq_false_of_ne_true hsz]; rfl)
    rw [hsz, bif_true, putC_eq] at e2
    split at e2
    case isFalse => exact .inl (e.trans e2)
    rename_i hfit
    have hrl : r.length = esz := by simpa using hsz
    have hszv : (a.eval o).cells.size = esz := by have := hr1.length; simp at this; omega
    have hw := put_rows esz rows [r] i hl (by simpa using hrl) hfit
    have hlen := hv.length
    have hflat := hw.flat
    simp only [List.flatten_cons, List.flatten_nil, List.append_nil] at hflat
    have hfl := hw.fits
    simp only [List.flatten_cons, List.flatten_nil, List.append_nil] at hfl
    have hval : VRels P φ (rows.take i ++ [r] ++ rows.drop (i + [r].length)).flatten ((cs.toList.take (i * esz) ++ (a.eval o).cells.toList ++ cs.toList.drop (i * esz + esz)).toArray).toList := by
     rw [hflat, hrl]; exact ((hv.take _).append hr1).append (hv.drop _)
    have hone : ∀ v ∈ ((cs.toList.take (i * esz) ++ (a.eval o).cells.toList ++ cs.toList.drop (i * esz + esz)).toArray).toList, v.oneCell' = true := by
     intro v hv
     simp only [List.mem_append] at hv
     rcases hv with (hv | hv) | hv
     ·exact h1 v (List.mem_of_mem_take hv)
     ·exact hr2 v hv
     ·exact h1 v (List.mem_of_mem_drop hv)
    rcases fillRows_sound f esz l ps' _ _ c hr (ht.sub fun t h => by simp only [opsOf, tmpsOf, List.map_cons, List.filterMap_cons] at h ⊢; split <;> simp_all) hw.len hval hone with e3 | ⟨q, cq, e3, hq1, hq2, hq3, hq4⟩
    ·exact .inl (e.trans (e2.trans e3))
    ·refine .inr ⟨q, cq, e.trans (e2.trans e3), ?_, hq2, hq3, hq4⟩
     rw [List.map_cons, fill_cons _ cs i (a.eval o) _ (i * esz) esz rfl hszv (by simp only [Array.length_toList] at hlen; omega)]
     exact hq1
theorem range_rep (z : Array Value) (h : 0 < z.size) : ∀ n, ((Array.range (n * z.size)).map fun i => z[i % z.size]!).toList = (List.replicate n z.toList).flatten
 | 0 => by simp
 | n + 1 => by
  have ih := range_rep z h n
  simp only [Array.toList_map, Array.toList_range] at ih ⊢
  rw [Nat.add_mul, Nat.one_mul, List.range_add, List.map_append, ih, List.replicate_succ', List.flatten_append]
  congr 1
  simp only [List.map_map, List.flatten_cons, List.flatten_nil, List.append_nil]
  apply List.ext_getElem?
  intro i
  by_cases hi : i < z.size
  ·simp [hi, Nat.add_mod, Nat.mod_eq_of_lt hi]
  ·simp [hi]
theorem foldl_set_size (g : Value × Nat → Nat) : ∀ (q : List (Value × Nat)) (cs : Array Value), (q.foldl (fun cs x => cs.setIfInBounds (g x) x.1) cs).size = cs.size
 | [], _ => rfl
 | x :: q, cs => by rw [List.foldl_cons, foldl_set_size g q]; simp
theorem fill_size (place : Nat → Option (Nat × Nat)) : ∀ (l : List (Nat × Value)) (cs cr : Array Value), Instr.fill place cs l = some cr → cr.size = cs.size
 | [], cs, cr, h => by simp [Instr.fill] at h; rw [h]
 | (i, v) :: l, cs, cr, h => by
  simp only [Instr.fill] at h
  split at h
  ·cases h
  ·split at h
   ·cases h
   ·rw [fill_size place l _ _ h, ← Array.foldl_toList]
    exact foldl_set_size (fun x => _ + x.2) _ _
noncomputable def bslR (esz len : Nat) (zero : List AV) (parts : List (Nat × X)) (T : Tr AV) (H : Heap) : R1 :=
 fillRows T .fail esz parts (repL len zero) fun rows => H.addC (.row true esz rows) fun k G => .val (.slice k 0 len esz true len) G
theorem bsl_sound (w : World) {t e : TypeId} (hu : P.underlying t = some (.slice e)) {zero : List AV} (hz : zeroL P e = some zero) {esz : Nat} (hn : szT P e = some esz) (hlz : zero.length = esz) (hp : 0 < esz) (len : Nat) (hlen : len * esz ≤ 16777216)
  {parts : Array (Nat × Operand)} {ps : List (Nat × X)} (hps : cPairs parts.toList = some ps) (ht : TRelAt P φ T a.tmps (· ∈ tmpsOf (opsOf parts.toList))) :
  RanA P φ H w (do return Next.value (← Instr.buildSlice t len (parts.map fun (i, x) => (i, a.eval x)))) (bslR esz len zero ps T H) := by
 unfold bslR
 rw [repL_eq]
 obtain ⟨z, hz1, hz2⟩ := run_zeroValue' hz w
 have hs := ofScalars_sound (P := P) (φ := φ) hz2
 have hzs : z.cells.size = esz := by have := hs.1.length; simp at this; omega
 let cs : Array Value := (Array.range (len * esz)).map fun i => z.cells[i % z.cells.size]!
 have hcs : cs.toList = (List.replicate len z.cells.toList).flatten := by
  have := range_rep z.cells (by omega) len
  rw [hzs] at this
  show ((Array.range (len * esz)).map fun i => z.cells[i % z.cells.size]!).toList = _
  rw [hzs]; exact this
 have hrep : ∀ n, VRels P φ (List.replicate n zero).flatten (List.replicate n z.cells.toList).flatten := by
  intro n
  induction n with
  | zero => exact .nil
  | succ n ih => rw [List.replicate_succ, List.replicate_succ, List.flatten_cons, List.flatten_cons]; exact hs.1.append ih
 rcases fillRows_sound (P := P) (φ := φ) (T := T) (a := a) R1.fail esz parts.toList ps (List.replicate len zero) cs (fun rows => H.addC (.row true esz rows) fun k G => .val (.slice k 0 len esz true len) G) hps ht
  (by intro r hr; rw [List.eq_of_mem_replicate hr]; exact hlz) (by rw [hcs]; exact hrep len)
  (by rw [hcs]; intro v hv; simp only [List.mem_flatten, List.mem_replicate] at hv; obtain ⟨l, ⟨_, rfl⟩, hv⟩ := hv; exact hs.2 v hv) with e' | ⟨rows, cr, e', h1, h2, h3, h4⟩ <;> rw [e']
 ·exact .fail
 rw [Heap.addC_eq]
 have hcl : cr.toList.length = len * esz := by
  have h5 := fill_size _ _ _ _ h1
  have : cs.size = len * esz := by simp [cs]
  simp; omega
 have harr : cr.toList.toArray = cr := by simp
 refine .new (some len) esz rows cr.toList e ⟨hp, h2, h3, h4, fun m hm => by cases hm; omega, run_v ?_⟩
 rw [harr]
 ·have hmap : (parts.map fun (i, x) => (i, a.eval x)).toList = parts.toList.map fun x => (x.1, a.eval x.2) := by simp
  simp only [Instr.buildSlice, Sem.run_bind, run_underlying hu, Result.andThen_ok, run_sizeOf' hn]
  rw [if_neg (by omega)]
  by_cases h0 : len * esz = 0
  ·have hl0 : len = 0 := by
    rcases Nat.mul_eq_zero.1 h0 with h | h
    ·exact h
    ·omega
   subst hl0
   have hcs0 : cs = #[] := by simp [cs]
   rw [hcs0] at h1
   simp only [h0, if_true, Sem.run_bind, Sem.run_pure, Result.andThen_ok, hmap]
   have hr : Array.map (fun x => (#[] : Array Value)[x % (#[] : Array Value).size]!) (Array.range 0) = #[] := by simp
   simp only [hr, h1, newRow, Sem.run_bind, run_newObj, Sem.run_pure, Result.andThen_ok]
   rfl
  ·simp only [h0, if_false, Sem.run_bind, hz1, Sem.run_pure, Result.andThen_ok, hmap]
   have h1' : Instr.fill (fun i => some (i * esz, esz)) (Array.map (fun x => z.cells[x % z.cells.size]!) (Array.range (len * esz))) (parts.toList.map fun x => (x.1, a.eval x.2)) = some cr := h1
   simp only [h1', newRow, Sem.run_bind, run_newObj, Sem.run_pure, Result.andThen_ok]
   rfl
end Go.Ev
namespace Go.Ev
variable {P : Program} {φ : Phi} {H : Heap} {w : World} {T : Tr AV} {a : Act}
inductive Bd : Option Value → Option Nat → Prop
 | no : Bd none none
 | yes (k : IntKind) (n : Nat) : Bd (some (.int k (n : Int))) (some n)
theorem run_sliceBound {k : IntKind} {n y : Nat} (h : n ≤ y) (code : BoundsCode) (w : World) : (Instr.sliceBound (.int k (n : Int)) y code).run P w = .ok n w := by
 have h' : (0 : Int) ≤ (n : Int) ∧ (n : Int) ≤ (y : Int) := by omega
 simp only [Instr.sliceBound, asIntOf, Sem.run_bind, Sem.run_pure, Result.andThen_ok]
 rw [if_pos h']; simp
theorem run_sliceBounds (b : Bool) {len cap l h m : Nat} {lo hi mx : Option Value} {lo' hi' mx' : Option Nat} (hl : Bd lo lo') (hh : Bd hi hi') (hm : Bd mx mx')
  (h1 : mx' = none → m = cap) (h2 : ∀ x, mx' = some x → x = m ∧ m ≤ cap) (h3 : hi' = none → h = len ∧ mx' = none) (h4 : ∀ x, hi' = some x → x = h ∧ h ≤ m) (h5 : lo' = none → l = 0) (h6 : ∀ x, lo' = some x → x = l ∧ l ≤ h) (w : World) :
  (Instr.sliceBounds b len cap lo hi mx).run P w = .ok (l, h, m) w := by
 cases hm with
 | no =>
  have := h1 rfl; subst this
  cases hh with
  | no =>
   obtain ⟨rfl, _⟩ := h3 rfl
   cases hl with
   | no => have := h5 rfl; subst this; rfl
   | yes k n =>
    obtain ⟨rfl, hle⟩ := h6 _ rfl
    simp [Instr.sliceBounds, run_sliceBound hle]
  | yes k n =>
   obtain ⟨rfl, hle⟩ := h4 _ rfl
   cases hl with
   | no => have := h5 rfl; subst this; simp [Instr.sliceBounds, run_sliceBound hle]
   | yes k' n' =>
    obtain ⟨rfl, hle'⟩ := h6 _ rfl
    simp [Instr.sliceBounds, run_sliceBound hle, run_sliceBound hle']
 | yes km nm =>
  obtain ⟨rfl, hlm⟩ := h2 _ rfl
  cases hh with
  | no => have := (h3 rfl).2; cases this
  | yes k n =>
   obtain ⟨rfl, hle⟩ := h4 _ rfl
   cases hl with
   | no => have := h5 rfl; subst this; simp [Instr.sliceBounds, run_sliceBound hle, run_sliceBound hlm]
   | yes k' n' =>
    obtain ⟨rfl, hle'⟩ := h6 _ rfl
    simp [Instr.sliceBounds, run_sliceBound hle, run_sliceBound hle', run_sliceBound hlm]
noncomputable def cXo : Option Operand → Option (Option X)
 | none => some none
 | some o => (cX o).map some
noncomputable def bdC {β : Type} (T : Tr AV) (x : Option X) (f : β) (c : Option Nat → β) : β :=
 Option.rec (motive := fun _ => β) (c none) (fun x => withX T x f fun v => ixC v f fun n => fN n fun n => c (some n)) x
theorem bdC_sound {β : Type} {o : Option Operand} {x : Option X} (hx : cXo o = some x) (ht : TRelAt P φ T a.tmps (· ∈ tmpsOf o.toList)) (f : β) (c : Option Nat → β) :
  bdC T x f c = f ∨ ∃ n, bdC T x f c = c n ∧ Bd (o.map a.eval) n := by
 cases o with
 | none => simp only [cXo, Option.some.injEq] at hx; subst hx; exact .inr ⟨none, rfl, .no⟩
 | some o =>
  simp only [cXo] at hx
  cases hc : cX o with
  | none => rw [hc] at hx; cases hx
  | some y =>
   rw [hc] at hx; cases hx
   show withX T y f (fun v => ixC v f fun n => fN n fun n => c (some n)) = f ∨ _
   rcases withX_eq T y f (fun v => ixC v f fun n => fN n fun n => c (some n)) with ⟨_, e⟩ | ⟨v, hv, e⟩
   ·exact .inl e
   have hv' := evX_sound ht hc hv
   rcases ixC_sound hv' f (fun n => fN n fun n => c (some n)) with e2 | ⟨k, n, h1, e2⟩
   ·exact .inl (e.trans e2)
   ·refine .inr ⟨some n, e.trans (e2.trans (fN_eq _ _)), ?_⟩
    show Bd (some (a.eval o)) _
    rw [h1]; exact .yes k n
noncomputable def orN (x : Option Nat) (d : Nat) : Nat := Option.rec (motive := fun _ => Nat) d (fun n => n) x
theorem orN_none (d : Nat) : orN none d = d := rfl
theorem orN_some (n d : Nat) : orN (some n) d = n := rfl
noncomputable def isS (x : Option Nat) : Bool := Option.rec (motive := fun _ => Bool) false (fun _ => true) x
noncomputable def dropC {β : Type} (f : β) (n : Nat) : List Nat → (List Nat → β) → β :=
 Nat.rec (motive := fun _ => List Nat → (List Nat → β) → β) (fun l c => c l) (fun _ ih l c => List.rec (motive := fun _ => β) f (fun _ r _ => ih r c) l) n
theorem dropC_eq {β : Type} (f : β) : ∀ (n : Nat) (l : List Nat) (c : List Nat → β), dropC f n l c = if n ≤ l.length then c (l.drop n) else f
 | 0, l, c => by show c l = _; simp
 | n + 1, [], c => by show f = _; simp
 | n + 1, x :: l, c => by show dropC f n l c = _; rw [dropC_eq f n l c]; simp
noncomputable def slsR (x : X) (lo hi : Option X) (T : Tr AV) (H : Heap) : R1 := withX T x .fail fun v => bdC T lo .fail fun lo => bdC T hi .fail fun hi => asStrC v .fail fun l =>
 dropC .fail (orN lo 0) l fun r => Option.rec (motive := fun _ => R1) (.val (.str r) H) (fun h => bif' (Nat.ble (orN lo 0) h) (takeC .fail (h - orN lo 0) r fun r => .val (.str r) H) .fail) hi
theorem tm3a {x : Operand} {l : List Operand} {T : Tr AV} {tm : Array Value} (h : TRelAt P φ T tm (· ∈ tmpsOf (x :: l))) : TRelAt P φ T tm (· ∈ tmpsOf [x]) :=
 h.sub fun t h => by simp only [tmpsOf, List.filterMap_cons, List.filterMap_nil] at h ⊢; split at h <;> simp_all
theorem tm3b {x : Operand} {l m : List Operand} {T : Tr AV} {tm : Array Value} (h : TRelAt P φ T tm (· ∈ tmpsOf (x :: l))) (hm : ∀ y ∈ m, y ∈ l) : TRelAt P φ T tm (· ∈ tmpsOf m) :=
 h.sub fun t h => by
  simp only [tmpsOf, List.mem_filterMap] at h ⊢
  obtain ⟨y, h1, h2⟩ := h
  exact ⟨y, List.mem_cons_of_mem _ (hm y h1), h2⟩
theorem sls_sound (hw : WRel P φ H w) {t : TypeId} (hu : P.underlying t = some .string) {o : Operand} {lo hi : Option Operand} {x : X} {xl xh : Option X} (hx : cX o = some x) (hl : cXo lo = some xl) (hh : cXo hi = some xh)
  (ht : TRelAt P φ T a.tmps (· ∈ tmpsOf (o :: (lo.toList ++ hi.toList)))) :
  Ran0 P φ H w (do return Next.value (← Instr.sliceAt t (a.eval o) (lo.map a.eval) (hi.map a.eval) (none : Option Value))) (slsR x xl xh T H) := by
 unfold slsR
 rcases withX_eq T x R1.fail _ with ⟨_, e⟩ | ⟨v, hv, e⟩ <;> rw [e] <;> clear e
 ·exact .fail
 have hv' := evX_sound (tm3a ht) hx hv
 rcases bdC_sound (P := P) (φ := φ) (a := a) hl (tm3b ht (by intro y h; simp only [List.mem_append]; simp [h])) R1.fail _ with e | ⟨nl, e, hbl⟩ <;> rw [e] <;> clear e
 ·exact .fail
 rcases bdC_sound (P := P) (φ := φ) (a := a) hh (tm3b ht (by intro y h; simp only [List.mem_append]; simp [h])) R1.fail _ with e | ⟨nh, e, hbh⟩ <;> rw [e] <;> clear e
 ·exact .fail
 generalize a.eval o = y at *
 generalize hi.map a.eval = vh at *
 generalize lo.map a.eval = vl at *
 cases hv' <;> try exact .fail
 rename_i l s hs
 show Ran0 P φ H w _ (dropC .fail (orN nl 0) l fun r => Option.rec (motive := fun _ => R1) (.val (.str r) H) (fun h => bif' (Nat.ble (orN nl 0) h) (takeC .fail (h - orN nl 0) r fun r => .val (.str r) H) .fail) nh)
 rw [dropC_eq]
 split
 case isFalse => exact .fail
 rename_i hlo
 have hsz : l.length = s.size := by rw [← hs, List.length_map]; rfl
 have hext : ∀ i j, j ≤ s.size → (s.extract i j).data.toList.map (·.toNat) = (l.drop i).take (j - i) := by
  intro i j hj
  rw [← hs]
  have : (s.extract i j).data.toList = (s.data.toList.drop i).take (j - i) := by simp [List.extract_eq_take_drop]
  rw [this, List.map_take, List.map_drop]
 cases hbh with
 | no =>
  refine .pure hw (run_v ?_) (.str _ (s.extract (orN nl 0) s.size) (by rw [hext _ _ (Nat.le_refl _), List.take_of_length_le (by simp; omega)]))
  have hb := run_sliceBounds (P := P) false (len := s.size) (cap := s.size) (l := orN nl 0) (h := s.size) (m := s.size) hbl Bd.no Bd.no (by simp) (by simp) (by simp) (by simp) (by intro h; subst h; rfl) (by intro x h; subst h; exact ⟨rfl, by rw [orN_some] at hlo ⊢; omega⟩) w
  simp [Instr.sliceAt, Instr.slice, run_underlying hu, hb]
 | yes k n =>
  show Ran0 P φ H w _ (bif' (Nat.ble (orN nl 0) n) (takeC .fail (n - orN nl 0) _ fun r => .val (.str r) H) .fail)
  by_cases hle : Nat.ble (orN nl 0) n = true
  case neg => rw [eq_false_of_ne_true hle]; exact .fail
  rw [hle, bif_true, takeC_eq]
  split
  case isFalse => exact .fail
  rename_i hn
  have hle' := Nat.le_of_ble_eq_true hle
  rw [List.length_drop] at hn
  refine .pure hw (run_v ?_) (.str _ (s.extract (orN nl 0) n) (hext _ _ (by omega)))
  have hb := run_sliceBounds (P := P) false (len := s.size) (cap := s.size) (l := orN nl 0) (h := n) (m := s.size) hbl (Bd.yes k n) Bd.no (by simp) (by simp) (by simp) (by intro x h; cases h; exact ⟨rfl, by omega⟩) (by intro h; subst h; rfl) (by intro x h; subst h; exact ⟨rfl, by rw [orN_some] at hle' ⊢; exact hle'⟩) w
  simp [Instr.sliceAt, Instr.slice, run_underlying hu, hb]
noncomputable def slvR (esz : Nat) (x : X) (lo hi mx : Option X) (T : Tr AV) (H : Heap) : R1 := withX T x .fail fun v => bdC T lo .fail fun lo => bdC T hi .fail fun hi => bdC T mx .fail fun mx =>
 asSliceC v .fail
  (bif' (Bool.and (Nat.beq (orN lo 0) 0) (Bool.and (Nat.beq (orN hi 0) 0) (Bool.and (Nat.beq (orN mx 0) 0) (Bool.or (isS hi) (Bool.not (isS mx)))))) (.val .nils H) .fail)
  fun k off len es ex cap =>
   bif' (Bool.and (Nat.beq es esz) (Bool.and (Nat.ble (orN lo 0) (orN hi len)) (Bool.and (Nat.ble (orN hi len) (orN mx cap)) (Bool.and (Nat.ble (orN mx cap) cap) (Bool.or (isS hi) (Bool.not (isS mx)))))))
    (fB (Bool.or ex (isS mx)) fun ex => fN (orN mx cap - orN lo 0) fun cp => fN (orN hi len - orN lo 0) fun ln =>
     bif' (Bool.and ex (Nat.beq cp 0)) (.val (.slice k off ln es ex cp) H) (fN (off + orN lo 0 * es) fun o => .val (.slice k o ln es ex cp) H)) .fail
theorem slv_sound (hw : WRel P φ H w) {t e : TypeId} (hu : P.underlying t = some (.slice e)) {esz : Nat} (hn : szT P e = some esz) {o : Operand} {lo hi mx : Option Operand} {x : X} {xl xh xm : Option X} (hx : cX o = some x) (hl : cXo lo = some xl) (hh : cXo hi = some xh) (hm : cXo mx = some xm)
  (ht : TRelAt P φ T a.tmps (· ∈ tmpsOf (o :: (lo.toList ++ (hi.toList ++ mx.toList))))) :
  Ran0 P φ H w (do return Next.value (← Instr.sliceAt t (a.eval o) (lo.map a.eval) (hi.map a.eval) (mx.map a.eval))) (slvR esz x xl xh xm T H) := by
 unfold slvR
 rcases withX_eq T x R1.fail _ with ⟨_, e⟩ | ⟨v, hv, e⟩ <;> rw [e] <;> clear e
 ·exact .fail
 have hv' := evX_sound (tm3a ht) hx hv
 rcases bdC_sound (P := P) (φ := φ) (a := a) hl (tm3b ht (by intro y h; simp only [List.mem_append]; simp [h])) R1.fail _ with e | ⟨nl, e, hbl⟩ <;> rw [e] <;> clear e
 ·exact .fail
 rcases bdC_sound (P := P) (φ := φ) (a := a) hh (tm3b ht (by intro y h; simp only [List.mem_append]; simp [h])) R1.fail _ with e | ⟨nh, e, hbh⟩ <;> rw [e] <;> clear e
 ·exact .fail
 rcases bdC_sound (P := P) (φ := φ) (a := a) hm (tm3b ht (by intro y h; simp only [List.mem_append]; simp [h])) R1.fail _ with e | ⟨nm, e, hbm⟩ <;> rw [e] <;> clear e
 ·exact .fail
 generalize a.eval o = y at *
 cases hv' <;> try exact .fail
 ·-- nil
  show Ran0 P φ H w _ (bif' (Bool.and (Nat.beq (orN nl 0) 0) (Bool.and (Nat.beq (orN nh 0) 0) (Bool.and (Nat.beq (orN nm 0) 0) (Bool.or (isS nh) (Bool.not (isS nm)))))) (.val .nils H) .fail)
  by_cases hb : Bool.and (Nat.beq (orN nl 0) 0) (Bool.and (Nat.beq (orN nh 0) 0) (Bool.and (Nat.beq (orN nm 0) 0) (Bool.or (isS nh) (Bool.not (isS nm))))) = true
  case neg => rw [eq_false_of_ne_true hb]; exact .fail
  rw [hb, bif_true]
  simp only [Bool.and_eq_true, Nat.beq_eq, Bool.or_eq_true, Bool.not_eq_true'] at hb
  obtain ⟨b1, b2, b3, b4⟩ := hb
  have hsb := run_sliceBounds (P := P) true (len := 0) (cap := 0) (l := 0) (h := 0) (m := 0) hbl hbh hbm (by simp) (by intro x h; subst h; exact ⟨b3, Nat.le_refl _⟩)
   (by intro h; subst h; refine ⟨rfl, ?_⟩; cases nm with | none => rfl | some _ => simp [isS] at b4) (by intro x h; subst h; exact ⟨b2, Nat.le_refl _⟩) (by simp) (by intro x h; subst h; exact ⟨b1, Nat.le_refl _⟩) w
  refine .pure hw (run_v ?_) .nils
  simp only [Instr.sliceAt, Sem.run_bind, run_underlying hu, Result.andThen_ok, Instr.slice, hsb, run_sizeOf' hn, if_true, Sem.run_pure]
 ·rename_i k off len es ex cap at_ c hk hxc hc hlc hlen
  show Ran0 P φ H w _ (bif' (Bool.and (Nat.beq es esz) (Bool.and (Nat.ble (orN nl 0) (orN nh len)) (Bool.and (Nat.ble (orN nh len) (orN nm cap)) (Bool.and (Nat.ble (orN nm cap) cap) (Bool.or (isS nh) (Bool.not (isS nm)))))))
    (fB (Bool.or ex (isS nm)) fun ex => fN (orN nm cap - orN nl 0) fun cp => fN (orN nh len - orN nl 0) fun ln =>
     bif' (Bool.and ex (Nat.beq cp 0)) (.val (.slice k off ln es ex cp) H) (fN (off + orN nl 0 * es) fun o => .val (.slice k o ln es ex cp) H)) .fail)
  by_cases hb : Bool.and (Nat.beq es esz) (Bool.and (Nat.ble (orN nl 0) (orN nh len)) (Bool.and (Nat.ble (orN nh len) (orN nm cap)) (Bool.and (Nat.ble (orN nm cap) cap) (Bool.or (isS nh) (Bool.not (isS nm)))))) = true
  case neg => rw [eq_false_of_ne_true hb]; exact .fail
  rw [hb, bif_true]
  simp only [fB_eq, fN_eq]
  simp only [Bool.and_eq_true, Nat.beq_eq, Bool.or_eq_true, Bool.not_eq_true'] at hb
  obtain ⟨b1, b2, b3, b4, b5⟩ := hb
  have b2 := Nat.le_of_ble_eq_true b2
  have b3 := Nat.le_of_ble_eq_true b3
  have b4 := Nat.le_of_ble_eq_true b4
  subst b1
  have hsb : (Instr.sliceBounds true len c (lo.map a.eval) (hi.map a.eval) (mx.map a.eval)).run P w = .ok (orN nl 0, orN nh len, orN nm c) w := by
   refine run_sliceBounds (P := P) true hbl hbh hbm ?_ ?_ ?_ ?_ ?_ ?_ w
   ·intro h; subst h; rfl
   ·intro x h; subst h; rw [orN_some] at b4; exact ⟨rfl, by rw [orN_some]; omega⟩
   ·intro h; subst h; refine ⟨rfl, ?_⟩; cases nm with | none => rfl | some _ => simp [isS] at b5
   ·intro x h; subst h; refine ⟨rfl, ?_⟩
    cases nm with
    | none => simp only [orN_none, orN_some] at b3 ⊢; omega
    | some m => simp only [orN_some] at b3 ⊢; omega
   ·intro h; subst h; rfl
   ·intro x h; subst h; exact ⟨rfl, b2⟩
  have hmul : ∀ l m : Nat, l ≤ m → l * es + (m - l) * es = m * es := fun l m h => by rw [← Nat.add_mul]; congr 1; omega
  have hrun : (Instr.sliceAt t (.slice (some ⟨at_.b, at_.o + off, none⟩) len c) (lo.map a.eval) (hi.map a.eval) (mx.map a.eval)).run P w =
    .ok (.slice (if orN nm c = orN nl 0 then some ⟨at_.b, at_.o + off, none⟩ else some ⟨at_.b, at_.o + off + orN nl 0 * es, none⟩) (orN nh len - orN nl 0) (orN nm c - orN nl 0)) w := by
   simp only [Instr.sliceAt, Sem.run_bind, run_underlying hu, Result.andThen_ok, Instr.slice, hsb, run_sizeOf' hn, Sem.run_pure, Option.map_some, add_at]
  cases hex : Bool.or ex (isS nm)
  ·-- not known
   simp only [Bool.or_eq_false_iff] at hex
   obtain ⟨rfl, hnm⟩ := hex
   have : nm = none := by cases nm with | none => rfl | some _ => simp [isS] at hnm
   subst this
   simp only [orN_none] at b3 b4
   rw [Bool.false_and, bif_false]
   by_cases hcl : c = orN nl 0
   ·rw [if_pos (show orN none c = orN nl 0 from hcl)] at hrun
    refine .pure hw (run_v hrun) ?_
    have h1 : orN none cap - orN nl 0 = 0 := by rw [orN_none]; omega
    have h2 : orN nh len - orN nl 0 = 0 := by omega
    have h3 : orN none c - orN nl 0 = 0 := by rw [orN_none]; omega
    rw [h1, h2, h3]
    exact .sliceE _ _ _ _ at_ _ hk
   ·rw [if_neg (show ¬ orN none c = orN nl 0 from hcl), Nat.add_assoc] at hrun
    refine .pure hw (run_v hrun) ?_
    have := hmul (orN nl 0) c (by omega)
    rw [orN_none, orN_none]
    exact .slice _ _ _ _ _ _ at_ _ hk (by simp) (by omega) (by omega) (by omega)
  ·-- known
   have hm : orN nm cap = orN nm c := by
    cases nm with
    | none =>
     simp only [isS, Bool.or_false] at hex
     rw [orN_none, orN_none]; exact hxc hex
    | some m => rfl
   have hmc : orN nm c ≤ c := by rw [← hm]; omega
   rw [Bool.true_and, hm]
   rw [hm] at b3
   by_cases h0 : Nat.beq (orN nm c - orN nl 0) 0 = true
   ·rw [h0, bif_true]
    rw [Nat.beq_eq] at h0
    rw [if_pos (by omega)] at hrun
    refine .pure hw (run_v hrun) (.slice _ _ _ _ _ _ at_ _ hk (fun _ => rfl) (Nat.le_refl _) (by omega) (by rw [h0]; omega))
   ·rw [eq_false_of_ne_true h0, bif_false]
    have h0' : ¬ orN nm c = orN nl 0 := by
     intro h; apply h0; rw [h]; simp
    rw [if_neg h0', Nat.add_assoc] at hrun
    have h1 := hmul (orN nl 0) (orN nm c) (by omega)
    have h2 : orN nm c * es ≤ c * es := Nat.mul_le_mul_right _ hmc
    refine .pure hw (run_v hrun) (.slice _ _ _ _ _ _ at_ _ hk (fun _ => rfl) (Nat.le_refl _) (by omega) (by omega))
 ·rename_i k off es ex at_ x' hk
  show Ran0 P φ H w _ (bif' (Bool.and (Nat.beq es esz) (Bool.and (Nat.ble (orN nl 0) (orN nh 0)) (Bool.and (Nat.ble (orN nh 0) (orN nm 0)) (Bool.and (Nat.ble (orN nm 0) 0) (Bool.or (isS nh) (Bool.not (isS nm)))))))
    (fB (Bool.or ex (isS nm)) fun ex => fN (orN nm 0 - orN nl 0) fun cp => fN (orN nh 0 - orN nl 0) fun ln =>
     bif' (Bool.and ex (Nat.beq cp 0)) (.val (.slice k off ln es ex cp) H) (fN (off + orN nl 0 * es) fun o => .val (.slice k o ln es ex cp) H)) .fail)
  by_cases hb : Bool.and (Nat.beq es esz) (Bool.and (Nat.ble (orN nl 0) (orN nh 0)) (Bool.and (Nat.ble (orN nh 0) (orN nm 0)) (Bool.and (Nat.ble (orN nm 0) 0) (Bool.or (isS nh) (Bool.not (isS nm)))))) = true
  case neg => rw [eq_false_of_ne_true hb]; exact .fail
  rw [hb, bif_true]
  simp only [fB_eq, fN_eq]
  simp only [Bool.and_eq_true, Nat.beq_eq, Bool.or_eq_true, Bool.not_eq_true'] at hb
  obtain ⟨b1, b2, b3, b4, b5⟩ := hb
  have b2 := Nat.le_of_ble_eq_true b2
  have b3 := Nat.le_of_ble_eq_true b3
  have b4 := Nat.le_of_ble_eq_true b4
  have hm0 : orN nm 0 = 0 := by omega
  have hh0 : orN nh 0 = 0 := by omega
  have hl0 : orN nl 0 = 0 := by omega
  have hsb : (Instr.sliceBounds true 0 0 (lo.map a.eval) (hi.map a.eval) (mx.map a.eval)).run P w = .ok (0, 0, 0) w := by
   refine run_sliceBounds (P := P) true hbl hbh hbm ?_ ?_ ?_ ?_ ?_ ?_ w
   ·intro h; rfl
   ·intro x h; subst h; exact ⟨hm0, Nat.le_refl _⟩
   ·intro h; subst h; refine ⟨rfl, ?_⟩; cases nm with | none => rfl | some _ => simp [isS] at b5
   ·intro x h; subst h; exact ⟨hh0, Nat.le_refl _⟩
   ·intro h; rfl
   ·intro x h; subst h; exact ⟨hl0, Nat.le_refl _⟩
  have hrun : (Instr.sliceAt t (.slice (some x') 0 0) (lo.map a.eval) (hi.map a.eval) (mx.map a.eval)).run P w = .ok (.slice (some x') 0 0) w := by
   simp only [Instr.sliceAt, Sem.run_bind, run_underlying hu, Result.andThen_ok, Instr.slice, hsb, run_sizeOf' hn, Sem.run_pure, if_true]
  rw [hm0, hh0, hl0]
  by_cases h : Bool.and (Bool.or ex (isS nm)) (Nat.beq (0 - 0) 0) = true
  ·rw [h, bif_true]; exact .pure hw (run_v hrun) (.sliceE _ _ _ _ at_ _ hk)
  ·rw [eq_false_of_ne_true h, bif_false]; exact .pure hw (run_v hrun) (.sliceE _ _ _ _ at_ _ hk)
noncomputable def slaR (n esz : Nat) (x : X) (lo hi : Option X) (T : Tr AV) (H : Heap) : R1 := withX T x .fail fun v => bdC T lo .fail fun lo => bdC T hi .fail fun hi => asPtrC v .fail fun k off =>
 blkC H k .fail fun _ _ rows => bif' (Bool.and (Nat.ble (off + n * esz) (flatL rows).length) (Bool.and (Nat.ble (orN lo 0) (orN hi n)) (Nat.ble (orN hi n) n)))
  (fN (n - orN lo 0) fun cp => fN (orN hi n - orN lo 0) fun ln => bif' (Nat.beq cp 0) (.val (.slice k off ln esz true cp) H) (fN (off + orN lo 0 * esz) fun o => .val (.slice k o ln esz true cp) H)) .fail
theorem sla_sound (hw : WRel P φ H w) {t e : TypeId} {n : Nat} (hu : P.underlying t = some (.array n e)) {esz : Nat} (hn : szT P e = some esz) {o : Operand} {lo hi : Option Operand} {x : X} {xl xh : Option X} (hx : cX o = some x) (hl : cXo lo = some xl) (hh : cXo hi = some xh)
  (ht : TRelAt P φ T a.tmps (· ∈ tmpsOf (o :: (lo.toList ++ hi.toList)))) :
  Ran0 P φ H w (do return Next.value (← Instr.sliceAt t (a.eval o) (lo.map a.eval) (hi.map a.eval) (none : Option Value))) (slaR n esz x xl xh T H) := by
 unfold slaR
 rcases withX_eq T x R1.fail _ with ⟨_, e⟩ | ⟨v, hv, e⟩ <;> rw [e] <;> clear e
 ·exact .fail
 have hv' := evX_sound (tm3a ht) hx hv
 rcases bdC_sound (P := P) (φ := φ) (a := a) hl (tm3b ht (by intro y h; simp only [List.mem_append]; simp [h])) R1.fail _ with e | ⟨nl, e, hbl⟩ <;> rw [e] <;> clear e
 ·exact .fail
 rcases bdC_sound (P := P) (φ := φ) (a := a) hh (tm3b ht (by intro y h; simp only [List.mem_append]; simp [h])) R1.fail _ with e | ⟨nh, e, hbh⟩ <;> rw [e] <;> clear e
 ·exact .fail
 generalize a.eval o = y at *
 cases hv' <;> try exact .fail
 rename_i k off at_ hk
 show Ran0 P φ H w _ (blkC H k .fail fun _ _ rows => bif' (Bool.and (Nat.ble (off + n * esz) (flatL rows).length) (Bool.and (Nat.ble (orN nl 0) (orN nh n)) (Nat.ble (orN nh n) n)))
  (fN (n - orN nl 0) fun cp => fN (orN nh n - orN nl 0) fun ln => bif' (Nat.beq cp 0) (.val (.slice k off ln esz true cp) H) (fN (off + orN nl 0 * esz) fun o => .val (.slice k o ln esz true cp) H)) .fail)
 rcases blkC_eq H k R1.fail (fun _ _ rows => bif' (Bool.and (Nat.ble (off + n * esz) (flatL rows).length) (Bool.and (Nat.ble (orN nl 0) (orN nh n)) (Nat.ble (orN nh n) n)))
  (fN (n - orN nl 0) fun cp => fN (orN nh n - orN nl 0) fun ln => bif' (Nat.beq cp 0) (.val (.slice k off ln esz true cp) H) (fN (off + orN nl 0 * esz) fun o => .val (.slice k o ln esz true cp) H)) .fail) with e | ⟨wr, es, rows, hg, e⟩ <;> rw [e] <;> clear e
 ·exact .fail
 by_cases hb : Bool.and (Nat.ble (off + n * esz) (flatL rows).length) (Bool.and (Nat.ble (orN nl 0) (orN nh n)) (Nat.ble (orN nh n) n)) = true
 case neg => rw [eq_false_of_ne_true hb]; exact .fail
 rw [hb, bif_true]
 simp only [fN_eq]
 simp only [Bool.and_eq_true] at hb
 obtain ⟨b1, b2, b3⟩ := hb
 have b1 := Nat.le_of_ble_eq_true b1
 have b2 := Nat.le_of_ble_eq_true b2
 have b3 := Nat.le_of_ble_eq_true b3
 rw [flatL_eq] at b1
 obtain ⟨_, _, pre, vs, post, e', lo', hi', g1, g2, g3, _, g5, _⟩ := hw.blk k _ at_ hg hk
 have hlen := g5.length
 have hfit : at_.o + off + n * esz ≤ at_.n := by simp at g3; omega
 have hsb : (Instr.sliceBounds false n n (lo.map a.eval) (hi.map a.eval) none).run P w = .ok (orN nl 0, orN nh n, n) w := by
  refine run_sliceBounds (P := P) false hbl hbh Bd.no ?_ ?_ ?_ ?_ ?_ ?_ w
  ·intro _; rfl
  ·intro x h; cases h
  ·intro h; subst h; exact ⟨rfl, rfl⟩
  ·intro x h; subst h; exact ⟨rfl, b3⟩
  ·intro h; subst h; rfl
  ·intro x h; subst h; exact ⟨rfl, b2⟩
 have hrun : (Instr.sliceAt t (.pointer (some ⟨at_.b, at_.o + off, none⟩)) (lo.map a.eval) (hi.map a.eval) none).run P w =
   .ok (.slice (some (if n = orN nl 0 then ⟨at_.b, at_.o + off, none⟩ else ⟨at_.b, at_.o + off + orN nl 0 * esz, none⟩)) (orN nh n - orN nl 0) (n - orN nl 0)) w := by
  simp only [Instr.sliceAt, Sem.run_bind, run_underlying hu, Result.andThen_ok, Instr.sureAddr, hsb, run_sizeOf' hn, Sem.run_pure, add_at]
 by_cases h0 : Nat.beq (n - orN nl 0) 0 = true
 ·rw [h0, bif_true]
  rw [Nat.beq_eq] at h0
  rw [if_pos (by omega)] at hrun
  exact .pure hw (run_v hrun) (.slice _ _ _ _ _ _ at_ _ hk (fun _ => rfl) (Nat.le_refl _) (by omega) (by rw [h0]; omega))
 ·rw [eq_false_of_ne_true h0, bif_false]
  have h0' : ¬ n = orN nl 0 := by intro h; apply h0; rw [← h]; simp
  rw [if_neg h0', Nat.add_assoc] at hrun
  have h1 : orN nl 0 * esz + (n - orN nl 0) * esz = n * esz := by rw [← Nat.add_mul]; congr 1; omega
  exact .pure hw (run_v hrun) (.slice _ _ _ _ _ _ at_ _ hk (fun _ => rfl) (Nat.le_refl _) (by omega) (by omega))
end Go.Ev
namespace Go.Ev
variable {P : Program} {φ : Phi} {H : Heap} {w u : World} {T : Tr AV} {a : Act}
theorem shift_sound (hw : WRel P φ H w) {k : K} {b b' : Blk} {x x' : At} (hk : H.get k = some b) (hφ : φ k = some x) (hb : b.mayWrite) (hx : x'.b = x.b)
  (hs : u.heap.size = w.heap.size) (ho : ∀ i, i ≠ x.b → u.heap[i]? = w.heap[i]?) (hos : u.os = w.os) (htape : u.tape = w.tape) (hout : u.output = w.output)
  (hn : BlkRel P (φ.put H.nx x') u x' b') :
  WRel P (φ.put H.nx x') ((H.set k .dead).add b') u ∧ Ext φ H w (φ.put H.nx x') ((H.set k .dead).add b') u := by
 have hnone := hw.nx_none
 have hle := Phi.put_le φ H.nx x' hnone
 have hsucc : H.nx.toNat < ((H.set k .dead).add b').nx.toNat := K.lt_succ _
 have hkn : k ≠ H.nx := by intro e; rw [e, hnone] at hφ; cases hφ
 have hlive : b.live := by cases b <;> simp_all [Blk.mayWrite, Blk.live]
 have hput : ∀ j y, j ≠ H.nx → φ.put H.nx x' j = some y → φ j = some y := by
  intro j y hj hy
  unfold Phi.put at hy
  rwa [if_neg hj] at hy
 have hne : ∀ j c y, j ≠ k → H.get j = some c → φ j = some y → c.live → y.b ≠ x.b := by
  intro j c y hj hc hy hl e
  exact hw.inj k j b c x y (Ne.symm hj) hk hc hφ hy hlive hl e.symm hb
 have hget : ∀ j, ((H.set k .dead).add b').get j = if H.nx = j then some b' else if k = j then some .dead else H.get j := by
  intro j; rw [Heap.get_add, Heap.nx_set, Heap.get_set]
 refine WRel.pack hw ⟨?_, ?_, ?_, ?_, ?_⟩ ⟨?_, Nat.le_of_lt hsucc, Nat.le_of_eq hs.symm, ?_, ?_, ?_, hos, htape, hout⟩
 ·intro j y hy
  by_cases e : j = H.nx
  ·subst e; exact hsucc
  ·exact Nat.lt_trans (hw.dom j y (hput j y e hy)) hsucc
 ·intro j c hj
  rw [hget] at hj
  split at hj
  ·rename_i e; subst e; exact hsucc
  ·split at hj
   ·rename_i e; subst e; exact Nat.lt_trans (hw.top k b hk) hsucc
   ·exact Nat.lt_trans (hw.top j c hj) hsucc
 ·intro j c y hj hy
  rw [hget] at hj
  split at hj
  ·rename_i e; subst e
   simp only [Option.some.injEq] at hj; subst hj
   rw [Phi.put_same] at hy; simp only [Option.some.injEq] at hy; subst hy
   exact hn
  ·rename_i e
   split at hj
   ·simp only [Option.some.injEq] at hj; subst hj; trivial
   ·rename_i e2
    have hy' := hput j y (fun h => e h.symm) hy
    have := hw.blk j c y hj hy'
    by_cases hl : c.live
    ·exact BlkRel.congr (w := w) (ho _ (hne j c y (fun h => e2 h.symm) hj hy' hl)) (this.mono hle)
    ·cases c <;> simp_all [Blk.live, BlkRel]
 ·intro i j c d y z hij hi hj hy hz hc hd hyz
  rw [hget] at hi hj
  by_cases e1 : i = H.nx
  ·subst e1
   rw [Phi.put_same] at hy; simp only [Option.some.injEq] at hy; subst hy
   rw [if_neg hij] at hj
   split at hj
   ·simp only [Option.some.injEq] at hj; subst hj; exact absurd hd (by simp [Blk.live])
   ·rename_i e2
    exact absurd (hyz.symm.trans hx) (hne j d z (fun h => e2 h.symm) hj (hput j z (Ne.symm hij) hz) hd)
  ·rw [if_neg (fun h => e1 h.symm)] at hi
   split at hi
   ·simp only [Option.some.injEq] at hi; subst hi; exact absurd hc (by simp [Blk.live])
   ·rename_i e2
    by_cases e3 : j = H.nx
    ·subst e3
     rw [Phi.put_same] at hz; simp only [Option.some.injEq] at hz; subst hz
     exact absurd (hyz.trans hx) (hne i c y (fun h => e2 h.symm) hi (hput i y e1 hy) hc)
    ·rw [if_neg (fun h => e3 h.symm)] at hj
     split at hj
     ·simp only [Option.some.injEq] at hj; subst hj; exact absurd hd (by simp [Blk.live])
     ·exact hw.inj i j c d y z hij hi hj (hput i y e1 hy) (hput j z e3 hz) hc hd hyz
 ·intro j y hy
  by_cases e : j = H.nx
  ·subst e; rw [Phi.put_same] at hy; simp only [Option.some.injEq] at hy; subst hy; rw [hx, hs]; exact hw.size k x hφ
  ·rw [hs]; exact hw.size j y (hput j y e hy)
 ·intro j hj
  unfold Phi.put
  rw [if_neg]
  intro e; subst e; exact Nat.lt_irrefl _ hj
 ·intro i _ hi
  exact ho i (fun e => hi ⟨k, b, x, hk, hb, hφ, e.symm⟩)
 ·intro j hj hn'
  rw [hget, if_neg (fun e => by subst e; exact Nat.lt_irrefl _ hj), if_neg]
  intro e; subst e; rw [hφ] at hn'; cases hn'
 ·rintro i _ ⟨j, c, y, hj, hc, hy, e⟩
  rw [hget] at hj
  by_cases e1 : j = H.nx
  ·subst e1; rw [Phi.put_same] at hy; simp only [Option.some.injEq] at hy; subst hy
   exact ⟨k, b, x, hk, hb, hφ, by rw [← e, hx]⟩
  ·rw [if_neg (fun h => e1 h.symm)] at hj
   split at hj
   ·simp only [Option.some.injEq] at hj; subst hj; exact absurd hc (by simp [Blk.mayWrite])
   ·exact ⟨j, c, y, hj, hc, hput j y e1 hy, e⟩
noncomputable def rowsC {β : Type} (H : Heap) (k : K) (off n esz : Nat) (f : β) (c : Bool → List (List AV) → List (List AV) → β) : β :=
 blkC H k f fun wr es rows => bif' (Bool.and (Nat.beq es esz) (Nat.beq (off % esz) 0)) (takeC f n (dropL (off / esz) rows) fun r => c wr rows r) f
theorem rowsC_sound {β : Type} (hw : WRel P φ H w) {k : K} {at_ : At} (hk : φ k = some at_) (off n esz : Nat) (f : β) (c : Bool → List (List AV) → List (List AV) → β) :
  rowsC H k off n esz f c = f ∨ ∃ wr rows r vs, rowsC H k off n esz f c = c wr rows r ∧ H.get k = some (.row wr esz rows) ∧ r = (rows.drop (off / esz)).take n ∧ off % esz = 0 ∧ (n ≠ 0 → off / esz + n ≤ rows.length) ∧ r.length = n ∧
   (∀ x ∈ r, x.length = esz) ∧ VRels P φ r.flatten vs ∧ (∀ v ∈ vs, v.oneCell' = true) ∧ (∀ m, (loadCells ⟨at_.b, at_.o + off, none⟩ (n * esz)).run P { w with drawn := m } = .ok vs.toArray { w with drawn := m }) ∧ vs.length = n * esz ∧ 0 < esz := by
 unfold rowsC
 rcases blkC_eq H k f (fun wr es rows => bif' (Bool.and (Nat.beq es esz) (Nat.beq (off % esz) 0)) (takeC f n (dropL (off / esz) rows) fun r => c wr rows r) f) with e | ⟨wr, es, rows, hg, e⟩ <;> rw [e] <;> clear e
 ·exact .inl rfl
 by_cases hb : Bool.and (Nat.beq es esz) (Nat.beq (off % esz) 0) = true
 case neg => left; rw [eq_false_of_ne_true hb]; rfl
 rw [hb, bif_true, takeC_eq, dropL_eq]
 simp only [Bool.and_eq_true, Nat.beq_eq] at hb
 obtain ⟨rfl, h0⟩ := hb
 split
 case isFalse => exact .inl rfl
 rename_i hn
 have hrel := hw.blk k _ at_ hg hk
 have hdm : off / es * es = off := by have := Nat.div_add_mod off es; rw [h0, Nat.add_zero, Nat.mul_comm] at this; exact this
 have hfl := flatten_length_of es rows hrel.len
 rw [List.length_drop] at hn
 have hpos := hrel.pos
 by_cases hn0 : n = 0
 ·subst hn0
  exact .inr ⟨wr, rows, _, [], rfl, hg, rfl, h0, fun h => absurd rfl h, by simp, by simp, by simpa using VRels.nil, by simp, fun m => by simp [loadCells, loadCellsFrom], by simp, hpos⟩
 have hle : off / es + n ≤ rows.length := by omega
 have hle2 : off + n * es ≤ rows.flatten.length := by
  rw [hfl]
  have := Nat.mul_le_mul_right es hle
  rw [Nat.add_mul, hdm] at this
  exact this
 obtain ⟨vs, h1, h2, h3⟩ := loadCells_drew hw hg hk off (n * es) hle2
 have heq : (rows.flatten.drop off).take (n * es) = ((rows.drop (off / es)).take n).flatten := by
  rw [← hdm, drop_flatten es _ rows hrel.len, take_flatten es n _ (fun x hx => hrel.len x (List.mem_of_mem_drop hx)), hdm]
 rw [heq] at h2
 refine .inr ⟨wr, rows, _, vs, rfl, hg, rfl, h0, fun _ => hle, by simp; omega, fun x hx => hrel.len x (List.mem_of_mem_drop (List.mem_of_mem_take hx)), h2, h3, h1, ?_, hpos⟩
 rw [← h2.length, ← heq, List.length_take, List.length_drop]; omega
theorem growBy_le (need : Nat) : ∀ (r c : Nat), c ≤ 2 * need + 192 → Builtin.growBy need r c ≤ 2 * need + 192
 | 0, c, h => h
 | r + 1, c, h => by
  unfold Builtin.growBy
  split
  ·exact h
  ·exact growBy_le need r _ (by omega)
theorem nextcap_le (need old : Nat) (h : old ≤ need) : Builtin.nextslicecap need old ≤ 2 * need + 192 := by
 unfold Builtin.nextslicecap
 split
 ·omega
 ·split
  ·omega
  ·exact growBy_le need 4 old (by omega)
theorem grow_new (hw : WRel P φ H w) {esz : Nat} (hp : 0 < esz) {r1 r2 : List (List AV)} (h1 : ∀ x ∈ r1, x.length = esz) (h2 : ∀ x ∈ r2, x.length = esz) {v1 v2 : List Value} (hv1 : VRels P φ r1.flatten v1) (hv2 : VRels P φ r2.flatten v2)
  (ho1 : ∀ v ∈ v1, v.oneCell' = true) (ho2 : ∀ v ∈ v2, v.oneCell' = true) (post : List Value) (hpo : ∀ v ∈ post, v.oneCell' = true) (e : TypeId) (n : Nat) :
  WRel P (φ.put H.nx ⟨w.heap.size, 0, (v1 ++ v2 ++ post).length⟩) (H.add (.row true esz (r1 ++ r2))) { w with heap := w.heap.push (.cells (v1 ++ v2 ++ post).toArray e), drawn := n } ∧
  Ext φ H w (φ.put H.nx ⟨w.heap.size, 0, (v1 ++ v2 ++ post).length⟩) (H.add (.row true esz (r1 ++ r2))) { w with heap := w.heap.push (.cells (v1 ++ v2 ++ post).toArray e), drawn := n } := by
 have := newRow_sound (P := P) (hw.drew n) hp (rows := r1 ++ r2) (by intro r hr; rcases List.mem_append.1 hr with h | h; exact h1 r h; exact h2 r h) (vs := v1 ++ v2) (post := post) (by rw [List.flatten_append]; exact hv1.append hv2)
  (by intro v hv; rcases List.mem_append.1 hv with h | h; exact ho1 v h; exact ho2 v h) hpo e 0 0 (.inl (Nat.le_refl _))
 exact ⟨this.1, Ext.drew0 _ this.2⟩
theorem grow_there (hw : WRel P φ H w) {k : K} {at_ : At} (hk : φ k = some at_) {esz : Nat} {rows r1 r2 : List (List AV)} (hg : H.get k = some (.row true esz rows)) {off len n : Nat} (hr1 : r1 = (rows.drop (off / esz)).take len) (hoff : off % esz = 0) (hl1 : r1.length = len)
  (h1 : ∀ x ∈ r1, x.length = esz) (h2 : ∀ x ∈ r2, x.length = esz) (hl2 : r2.length = n) {v2 : List Value} (hv2 : VRels P φ r2.flatten v2) (ho2 : ∀ v ∈ v2, v.oneCell' = true) (hfit : at_.o + off + (len + n) * esz ≤ at_.n) (hlen : len ≠ 0 → off / esz + len ≤ rows.length) :
  ∃ u, (storeCells ⟨at_.b, at_.o + off + len * esz, none⟩ v2).run P w = .ok () u ∧ WRel P (φ.put H.nx ⟨at_.b, at_.o + off, at_.n⟩) ((H.set k .dead).add (.row true esz (r1 ++ r2))) u ∧
   Ext φ H w (φ.put H.nx ⟨at_.b, at_.o + off, at_.n⟩) ((H.set k .dead).add (.row true esz (r1 ++ r2))) u := by
 obtain ⟨hp, hrl, pre, vs, post, e, lo, hi, g1, g2, g3, g4, g5, g6⟩ := hw.blk k _ at_ hg hk
 let L := pre ++ vs ++ post
 have hdm : off / esz * esz = off := by have := Nat.div_add_mod off esz; rw [hoff, Nat.add_zero, Nat.mul_comm] at this; exact this
 have hLn : L.length = at_.n := g3
 have hlv2 : v2.length = n * esz := by rw [← hv2.length, flatten_length_of esz r2 h2, hl2]
 rw [Nat.add_mul] at hfit
 have hst := run_storeCells_fz (P := P) (o := at_.o + off + len * esz) v2 0 L.toArray w g1 (by simp only [List.size_toArray]; rw [hLn]; exact (g4 rfl).imp id And.left) (by simp only [List.size_toArray]; rw [hLn]; omega) ho2
 refine ⟨_, hst, ?_⟩
 simp only [Nat.add_zero]
 obtain ⟨v1, hv1, ho1, hL1⟩ : ∃ v1, VRels P φ r1.flatten v1 ∧ (∀ v ∈ v1, v.oneCell' = true) ∧ L = L.take (at_.o + off) ++ v1 ++ L.drop (at_.o + off + len * esz) ∧ v1.length = len * esz := by
  by_cases h0 : len = 0
  ·subst h0
   have : r1 = [] := List.eq_nil_of_length_eq_zero hl1
   subst this
   refine ⟨[], .nil, by simp, by simp, by simp⟩
  ·have hle := hlen h0
   have hfl := flatten_length_of esz rows hrl
   have hle2 : off + len * esz ≤ rows.flatten.length := by
    rw [hfl]
    have := Nat.mul_le_mul_right esz hle
    rw [Nat.add_mul, hdm] at this
    exact this
   have hg5 := g5.length
   refine ⟨(vs.drop off).take (len * esz), ?_, fun v hv => g6.1 v (List.mem_of_mem_drop (List.mem_of_mem_take hv)), ?_, by rw [List.length_take, List.length_drop]; omega⟩
   ·have : r1.flatten = (rows.flatten.drop off).take (len * esz) := by
     rw [hr1, ← hdm, drop_flatten esz _ rows hrl, take_flatten esz len _ (fun x hx => hrl x (List.mem_of_mem_drop hx)), hdm]
    rw [this]
    exact (g5.drop _).take _
   ·have e1 : L.take (at_.o + off) = pre ++ vs.take off := by
     show (pre ++ vs ++ post).take _ = _
     rw [← g2, List.append_assoc, List.take_length_add_append, List.take_append_of_le_length (by omega)]
    have e2 : L.drop (at_.o + off + len * esz) = vs.drop (off + len * esz) ++ post := by
     show (pre ++ vs ++ post).drop _ = _
     rw [← g2, List.append_assoc, Nat.add_assoc, List.drop_length_add_append, List.drop_append_of_le_length (by omega)]
    rw [e1, e2]
    show pre ++ vs ++ post = _
    have e3 : vs = vs.take off ++ ((vs.drop off).take (len * esz) ++ vs.drop (off + len * esz)) := by
     rw [← List.drop_drop, List.take_append_drop, List.take_append_drop]
    conv => lhs; rw [e3]
    simp
 obtain ⟨hL1, hlv1⟩ := hL1
 have htl : (L.take (at_.o + off)).length = at_.o + off := by rw [List.length_take]; omega
 have hnew : L.toArray.toList.take (at_.o + off + len * esz) ++ v2 ++ L.toArray.toList.drop (at_.o + off + len * esz + v2.length) = L.take (at_.o + off) ++ (v1 ++ v2) ++ L.drop (at_.o + off + len * esz + v2.length) := by
  have : L.take (at_.o + off + len * esz) = L.take (at_.o + off) ++ v1 := by
   conv => lhs; rw [hL1]
   rw [List.take_append_of_le_length (by rw [List.length_append]; omega), List.take_of_length_le (by rw [List.length_append]; omega)]
  simp only [this]
  simp
 rw [hnew]
 have hnone := hw.nx_none
 have hle := Phi.put_le φ H.nx ⟨at_.b, at_.o + off, at_.n⟩ hnone
 refine shift_sound hw hg hk rfl rfl (setRow_size _ _ _) (fun i hi => setRow_other w at_.b i _ hi) rfl rfl rfl ?_
 refine ⟨hp, by intro r hr; rcases List.mem_append.1 hr with h | h; exact h1 r h; exact h2 r h, L.take (at_.o + off), v1 ++ v2, L.drop (at_.o + off + len * esz + v2.length), e, lo, hi, setRow_heap w at_.b _ _ e _ g1, htl, ?_, fun _ => g4 rfl, ?_, ?_, ?_⟩
 ·simp only [List.length_append, htl, List.length_drop]; omega
 ·rw [List.flatten_append]; exact (hv1.mono hle).append (hv2.mono hle)
 ·intro v hv; rcases List.mem_append.1 hv with h | h; exact ho1 v h; exact ho2 v h
 ·intro _ v hv
  have : L.drop (at_.o + off + len * esz + v2.length) = (vs ++ post).drop (off + len * esz + v2.length) := by
   show (pre ++ vs ++ post).drop _ = _
   rw [List.append_assoc, ← g2, show pre.length + off + len * esz + v2.length = pre.length + (off + len * esz + v2.length) by omega, List.drop_length_add_append]
  rw [this] at hv
  rcases List.mem_append.1 (List.mem_of_mem_drop hv) with h | h
  ·exact g6.1 v h
  ·exact g6.2 rfl v h
end Go.Ev
