/- part. -/
import Derived.Test.YtglpihajimhekaaGreatDoorZ7
namespace Go.Ev
variable {P : Program} {φ : Phi} {H : Heap} {w u : World} {T : Tr AV} {a : Act}
def isSl (P : Program) (t : TypeId) : Bool := match P.underlying t with
 | some (.slice _) => true
 | _ => false
theorem isSl_of {t : TypeId} (h : isSl P t = true) : ∃ d, P.underlying t = some (.slice d) := by
 unfold isSl at h
 split at h
 ·exact ⟨_, by assumption⟩
 ·cases h
structure Src (P : Program) (w : World) (esz n : Nat) (x : Value) (vs : List Value) : Prop where
 len : (Builtin.lenOf x).run P w = .ok n w
 cells : ∀ m, (Builtin.firstCells esz n x).run P { w with drawn := m } = .ok vs.toArray { w with drawn := m }
theorem run_append_fits {sT xT e ty : TypeId} (hu : P.underlying sT = some (.slice e)) (hx : isSl P xT = true) {esz : Nat} (hn : szT P e = some esz) {n len cap : Nat} {b o : Nat} {x : Value} {vs : List Value} (hs : Src P w esz n x vs) (hfit : len + n ≤ cap)
  (hst : (storeCells ⟨b, o + len * esz, none⟩ vs).run P w = .ok () u) :
  (Builtin.append_ #[sT, xT] ty #[.slice (some ⟨b, o, none⟩) len cap, x]).run P w = .ok (.slice (some ⟨b, o, none⟩) (len + n) cap) u := by
 obtain ⟨d, hd⟩ := isSl_of hx
 unfold Builtin.append_
 simp [run_underlying hu, run_underlying hd, run_sizeOf' hn, hs.len, hs.cells w.drawn, hfit, add_at, hst]
theorem run_append_none {sT xT e ty : TypeId} (hu : P.underlying sT = some (.slice e)) (hx : isSl P xT = true) {esz : Nat} (hn : szT P e = some esz) {b : Addr} {x : Value} (hs : Src P w esz 0 x []) :
  (Builtin.append_ #[sT, xT] ty #[.slice (some b) 0 0, x]).run P w = .ok (.slice (some b) 0 0) w := by
 obtain ⟨d, hd⟩ := isSl_of hx
 unfold Builtin.append_
 simp [run_underlying hu, run_underlying hd, run_sizeOf' hn, hs.len, hs.cells w.drawn, storeCells]
theorem run_append_nil {sT xT e ty : TypeId} (hu : P.underlying sT = some (.slice e)) (hx : isSl P xT = true) {esz : Nat} (hn : szT P e = some esz) {x : Value} {vs : List Value} (hs : Src P w esz 0 x vs) :
  (Builtin.append_ #[sT, xT] ty #[.slice none 0 0, x]).run P w = .ok (.slice none 0 0) w := by
 obtain ⟨d, hd⟩ := isSl_of hx
 unfold Builtin.append_
 simp [run_underlying hu, run_underlying hd, run_sizeOf' hn, hs.len, hs.cells w.drawn]
theorem run_append_grows {sT xT e ty : TypeId} (hu : P.underlying sT = some (.slice e)) (hx : isSl P xT = true) {i : TypeInfo} (hi : P.info? e = some i) {z : Value} (hz : i.zero = some z) (hb : i.bytes ≠ 0) {n len cap : Nat} {base : Option Addr} {x : Value} {v1 vs : List Value}
  (hs : Src P w i.size n x vs) (hfit : ¬ len + n ≤ cap) (hbig : Builtin.nextslicecap (len + n) cap * i.bytes ≤ 281474976710656) (h1 : (Builtin.firstCells i.size len (.slice base len cap)).run P { w with drawn := w.drawn + 1 } = .ok v1.toArray { w with drawn := w.drawn + 1 }) :
  ∃ m, len + n ≤ m ∧ (Builtin.append_ #[sT, xT] ty #[.slice base len cap, x]).run P w =
   .ok (.slice (some ⟨w.heap.size, 0, none⟩) (len + n) m) { w with heap := w.heap.push (.cells (v1 ++ vs ++ (Builtin.zeroCells z.cells (m - (len + n))).toList).toArray e), drawn := w.drawn + 1 } := by
 obtain ⟨d, hd⟩ := isSl_of hx
 have hsz : szT P e = some i.size := by simp [szT, hi]
 refine ⟨(Question.appendCap (len + n) cap e).cut (w.tape w.drawn (.appendCap (len + n) cap e)), ?_, ?_⟩
 ·show len + n ≤ len + n + _; omega
 unfold Builtin.append_
 have hbig' : ¬ (Builtin.nextslicecap (len + n) cap * i.bytes > 2 ^ 48) := by
  have : (2 : Nat) ^ 48 = 281474976710656 := by decide
  omega
 have hng : ¬ (((len + n : Nat) : Int) > IntKind.i64.max ∧ ((false : Bool) = true ∨ i.bytes = 0)) := by
  intro h; rcases h.2 with h | h
  ·cases h
  ·exact hb h
 simp only [List.getElem?_toArray, List.getElem?_cons_zero, List.getElem?_cons_succ, Sem.run_bind, run_underlying hu, Result.andThen_ok, run_sizeOf' hsz, run_underlying hd, Sem.run_pure, hs.len, Bool.false_eq_true, if_false]
 rw [if_neg hfit]
 rw [Sem.run_bind, typeInfo_of hi, Result.andThen_ok]
 rw [if_neg (by intro h; rcases h.2 with h | h; exact h; exact hb h), Sem.run_bind, typeInfo_of hi, Result.andThen_ok]
 rw [if_neg hbig']
 simp only [Sem.run_bind, run_choose, Question.forced, Bool.false_eq_true, if_false, Result.andThen_ok, typeInfo_of hi, run_askRoom, h1, Bool.not_false, if_true, hs.cells, zeroValue, hz, Sem.run_pure, newRow, run_newObj]
 have harr : v1.toArray ++ vs.toArray ++ Builtin.zeroCells z.cells ((Question.appendCap (len + n) cap e).cut (w.tape w.drawn (Question.appendCap (len + n) cap e)) - (len + n)) =
   (v1 ++ vs ++ (Builtin.zeroCells z.cells ((Question.appendCap (len + n) cap e).cut (w.tape w.drawn (Question.appendCap (len + n) cap e)) - (len + n))).toList).toArray := by
  apply Array.ext'; simp
 rw [harr]
noncomputable def srcC {β : Type} (H : Heap) (esz : Nat) (v : AV) (f : β) (c : Nat → List (List AV) → β) : β :=
 asSliceC v f (c 0 []) fun k off len es _ _ => bif' (Nat.beq len 0) (c 0 []) (bif' (Nat.beq es esz) (rowsC H k off len esz f fun _ _ r => c len r) f)
theorem srcC_sound {β : Type} (hw : WRel P φ H w) {esz : Nat} {v : AV} {v' : Value} (hv : VRel P φ v v') (f : β) (c : Nat → List (List AV) → β) :
  srcC H esz v f c = f ∨ ∃ n r vs, srcC H esz v f c = c n r ∧ r.length = n ∧ (∀ x ∈ r, x.length = esz) ∧ VRels P φ r.flatten vs ∧ (∀ x ∈ vs, x.oneCell' = true) ∧ Src P w esz n v' vs := by
 unfold srcC
 cases hv <;> try exact .inl rfl
 ·exact .inr ⟨0, [], [], rfl, rfl, by simp, by simpa using VRels.nil, by simp, rfl, fun m => rfl⟩
 ·rename_i k off len es ex cap at_ c' hk hx hc hl hn
  show bif' (Nat.beq len 0) (c 0 []) (bif' (Nat.beq es esz) (rowsC H k off len esz f fun _ _ r => c len r) f) = f ∨ _
  by_cases h0 : Nat.beq len 0 = true
  ·rw [Nat.beq_eq] at h0; subst h0
   exact .inr ⟨0, [], [], rfl, rfl, by simp, by simpa using VRels.nil, by simp, rfl, fun m => by simp [Builtin.firstCells, loadCells, loadCellsFrom]⟩
  ·rw [eq_false_of_ne_true h0, bif_false]
   by_cases he : Nat.beq es esz = true
   case neg => left; rw [eq_false_of_ne_true he]; rfl
   rw [he, bif_true]
   rcases rowsC_sound hw hk off len esz f (fun _ _ r => c len r) with e | ⟨wr, rows, r, vs, e, hg, hr, hoff, hle, hrl, hlen, hvs, ho, hload, hvl, hpos⟩
   ·exact .inl e
   ·right
    refine ⟨len, r, vs, ?_, hrl, hlen, hvs, ho, rfl, hload⟩
    show bif' (Nat.beq len 0) (c 0 []) (bif' (Nat.beq es esz) (rowsC H k off len esz f fun _ _ r => c len r) f) = _
    rw [eq_false_of_ne_true h0, bif_false, he, bif_true, e]
 ·exact .inr ⟨0, [], [], rfl, rfl, by simp, by simpa using VRels.nil, by simp, rfl, fun m => by simp [Builtin.firstCells, loadCells, loadCellsFrom]⟩
noncomputable def okBig (need bytes : Nat) : Bool := Nat.ble ((2 * need + 192) * bytes) 281474976710656
noncomputable def appR (esz bytes : Nat) (x y : X) (T : Tr AV) (H : Heap) : R1 := withX T x .fail fun v => withX T y .fail fun u => srcC H esz u .fail fun n r2 =>
 bif' (Nat.beq n 0) (asSliceC v .fail (.val .nils H) fun k off len es ex cap => .val (.slice k off len es ex cap) H)
  (asSliceC v .fail (bif' (okBig n bytes) (H.addC (.row true esz r2) fun k G => .val (.slice k 0 n esz false n) G) .fail)
   fun k off len es ex cap => bif' (Nat.beq es esz) (fN (len + n) fun need => rowsC H k off len esz .fail fun wr rows r1 =>
    bif' (Nat.ble need cap)
     (bif' wr (putC .fail r2 (off / esz + len) rows fun rows => H.setC k (.row true esz rows) fun G => .val (.slice k off need es ex cap) G) .fail)
     (bif' (okBig need bytes) (appC r1 r2 fun r => fB ex fun ex => bif' ex (H.addC (.row true esz r) fun k G => .val (.slice k 0 need esz false need) G)
      (bif' wr (H.setC k .dead fun H => H.addC (.row true esz r) fun k G => .val (.slice k 0 need esz false need) G) .fail)) .fail)) .fail)
theorem zero_ones {c : Array Value} (hp : 0 < c.size) (h : ∀ v ∈ c.toList, v.oneCell' = true) (m : Nat) : ∀ v ∈ (Builtin.zeroCells c m).toList, v.oneCell' = true := by
 intro v hv
 simp only [Builtin.zeroCells, Array.toList_map, List.mem_map] at hv
 obtain ⟨i, _, rfl⟩ := hv
 apply h
 have : i % c.size < c.size := Nat.mod_lt _ hp
 rw [getElem!_pos c (i % c.size) this]
 simp
theorem app_sound (hw : WRel P φ H w) {sT xT e ty : TypeId} (hu : P.underlying sT = some (.slice e)) (hxT : isSl P xT = true) {i : TypeInfo} (hi : P.info? e = some i) {z : Value} (hz : i.zero = some z) (hb : i.bytes ≠ 0)
  (hzs : z.cells.size = i.size) (hzo : ∀ v ∈ z.cells.toList, v.oneCell' = true) (hpos : 0 < i.size) {o1 o2 : Operand} {x y : X} (hx : cX o1 = some x) (hy : cX o2 = some y) (ht : TRelAt P φ T a.tmps (· ∈ tmpsOf [o1, o2])) :
  Ran P φ H w (do return Next.value (← Builtin.append_ #[sT, xT] ty #[a.eval o1, a.eval o2])) (appR i.size i.bytes x y T H) := by
 have hsz : szT P e = some i.size := by simp [szT, hi]
 have hpow : (2 : Nat) ^ 48 = 281474976710656 := by decide
 unfold appR
 rcases withX_eq T x R1.fail _ with ⟨_, e'⟩ | ⟨v, hv, e'⟩ <;> rw [e'] <;> clear e'
 ·exact .fail
 rcases withX_eq T y R1.fail _ with ⟨_, e'⟩ | ⟨q, hq, e'⟩ <;> rw [e'] <;> clear e'
 ·exact .fail
 have hv' := evX_sound (sub2a ht) hx hv
 have hq' := evX_sound (sub2b ht) hy hq
 rcases srcC_sound hw hq' R1.fail _ with e' | ⟨n, r2, v2, e', hr2, hl2, hv2, ho2, hsrc⟩ <;> rw [e'] <;> clear e'
 ·exact .fail
 generalize a.eval o1 = y1 at *
 generalize a.eval o2 = y2 at *
 by_cases h0 : Nat.beq n 0 = true
 ·rw [h0, bif_true]
  rw [Nat.beq_eq] at h0
  subst h0
  have hv20 : v2 = [] := by
   have : r2 = [] := List.eq_nil_of_length_eq_zero hr2
   subst this; cases hv2; rfl
  subst hv20
  cases hv' <;> try exact .fail
  ·exact .pure hw (run_v (run_append_nil hu hxT hsz hsrc)) .nils
  ·rename_i k off len es ex cap at_ c hk hxc hc hl hn
   refine .pure hw (run_v (run_append_fits hu hxT hsz hsrc (by omega) (u := w) rfl)) ?_
   rw [Nat.add_zero]; exact .slice _ _ _ _ _ _ at_ _ hk hxc hc hl hn
  ·rename_i k off es ex at_ x' hk
   exact .pure hw (run_v (run_append_none hu hxT hsz hsrc)) (.sliceE _ _ _ _ at_ _ hk)
 rw [eq_false_of_ne_true h0, bif_false]
 have hn0 : n ≠ 0 := by intro h; apply h0; rw [h]; rfl
 have hzz : ∀ m, ∀ v ∈ (Builtin.zeroCells z.cells m).toList, v.oneCell' = true := zero_ones (by omega) hzo
 have hzl : ∀ m, (Builtin.zeroCells z.cells m).toList.length = m * i.size := by intro m; simp [Builtin.zeroCells, hzs]
 have hlv2 : v2.length = n * i.size := by rw [← hv2.length, flatten_length_of i.size r2 hl2, hr2]
 cases hv' <;> try exact .fail
 ·-- nil
  show Ran P φ H w _ (bif' (okBig n i.bytes) (H.addC (.row true i.size r2) fun k G => .val (.slice k 0 n i.size false n) G) .fail)
  by_cases hbig : okBig n i.bytes = true
  case neg => rw [eq_false_of_ne_true hbig]; exact .fail
  rw [hbig, bif_true, Heap.addC_eq]
  have hbig := Nat.le_of_ble_eq_true hbig
  obtain ⟨m, hm, hr⟩ := run_append_grows hu hxT hi hz hb (len := 0) (cap := 0) (base := none) (v1 := []) (ty := ty) hsrc (by omega)
   (Nat.le_trans (Nat.mul_le_mul_right _ (nextcap_le _ _ (by omega))) (by rw [Nat.zero_add]; exact hbig)) rfl
  have hg := grow_new hw hpos (r1 := []) (v1 := []) (by simp) hl2 VRels.nil hv2 (by simp) ho2 (Builtin.zeroCells z.cells (m - (0 + n))).toList (hzz _) e (w.drawn + 1)
  rw [Nat.zero_add] at hr hg
  refine .val _ _ _ _ _ _ (run_v hr) (.inl rfl) hg.1 hg.2 ?_
  refine .slice _ 0 n i.size false n ⟨w.heap.size, 0, _⟩ m (Phi.put_same _ _ _) (by simp) (by omega) (Nat.le_refl _) ?_
  simp only [List.nil_append, List.length_append, hlv2, hzl]
  rw [← Nat.add_mul]
  have : n + (m - n) = m := by omega
  rw [this]; simp
 ·rename_i k off len es ex cap at_ c hk hxc hc hl hlen
  show Ran P φ H w _ (bif' (Nat.beq es i.size) (fN (len + n) fun need => rowsC H k off len i.size .fail fun wr rows r1 =>
    bif' (Nat.ble need cap)
     (bif' wr (putC .fail r2 (off / i.size + len) rows fun rows => H.setC k (.row true i.size rows) fun G => .val (.slice k off need es ex cap) G) .fail)
     (bif' (okBig need i.bytes) (appC r1 r2 fun r => fB ex fun ex => bif' ex (H.addC (.row true i.size r) fun k G => .val (.slice k 0 need i.size false need) G)
      (bif' wr (H.setC k .dead fun H => H.addC (.row true i.size r) fun k G => .val (.slice k 0 need i.size false need) G) .fail)) .fail)) .fail)
  by_cases hes : Nat.beq es i.size = true
  case neg => rw [eq_false_of_ne_true hes]; exact .fail
  rw [hes, bif_true, fN_eq]
  rw [Nat.beq_eq] at hes
  subst hes
  rcases rowsC_sound hw hk off len i.size R1.fail (fun wr rows r1 =>
    bif' (Nat.ble (len + n) cap)
     (bif' wr (putC .fail r2 (off / i.size + len) rows fun rows => H.setC k (.row true i.size rows) fun G => .val (.slice k off (len + n) i.size ex cap) G) .fail)
     (bif' (okBig (len + n) i.bytes) (appC r1 r2 fun r => fB ex fun ex => bif' ex (H.addC (.row true i.size r) fun k G => .val (.slice k 0 (len + n) i.size false (len + n)) G)
      (bif' wr (H.setC k .dead fun H => H.addC (.row true i.size r) fun k G => .val (.slice k 0 (len + n) i.size false (len + n)) G) .fail)) .fail)) with e' | ⟨wr, rows, r1, v1, e', hg, hr1, hoff, hle, hrl, hl1, hv1, ho1, hload, hvl, _⟩ <;> rw [e'] <;> clear e'
  ·exact .fail
  have hdm : off / i.size * i.size = off := by have := Nat.div_add_mod off i.size; rw [hoff, Nat.add_zero, Nat.mul_comm] at this; exact this
  by_cases hfit : Nat.ble (len + n) cap = true
  ·-- there is room that is known
   rw [hfit, bif_true]
   have hfit := Nat.le_of_ble_eq_true hfit
   cases wr
   ·exact .fail
   rw [bif_true, putC_eq]
   split
   case isFalse => exact .fail
   rename_i hput
   rw [Heap.setC_eq]
   have hrel := hw.blk k _ at_ hg hk
   have hwr := put_rows i.size rows r2 (off / i.size + len) hrel.len hl2 hput
   obtain ⟨u, hst, hw', he⟩ := storeCells_sound hw hg hk hv2 ho2 hwr
   have hadd : (off / i.size + len) * i.size = off + len * i.size := by rw [Nat.add_mul, hdm]
   rw [hadd, ← Nat.add_assoc] at hst
   refine .val _ _ _ _ _ _ (run_v (run_append_fits hu hxT hsz hsrc (by omega) hst)) (.inl rfl) hw' he ?_
   exact .slice _ _ _ _ _ _ at_ _ hk hxc hc hfit hlen
  ·rw [eq_false_of_ne_true hfit, bif_false]
   have hfit : ¬ len + n ≤ cap := fun h => hfit (Nat.ble_eq_true_of_le h)
   by_cases hbig : okBig (len + n) i.bytes = true
   case neg => rw [eq_false_of_ne_true hbig]; exact .fail
   rw [hbig, bif_true, appC_eq, fB_eq]
   have hbig := Nat.le_of_ble_eq_true hbig
   have anew : ¬ len + n ≤ c → ∃ m, len + n ≤ m ∧ Ran P φ H w (do return Next.value (← Builtin.append_ #[sT, xT] ty #[.slice (some ⟨at_.b, at_.o + off, none⟩) len c, y2])) (H.addC (.row true i.size (r1 ++ r2)) fun k G => .val (.slice k 0 (len + n) i.size false (len + n)) G) ∧
     (Builtin.append_ #[sT, xT] ty #[.slice (some ⟨at_.b, at_.o + off, none⟩) len c, y2]).run P w = .ok (.slice (some ⟨w.heap.size, 0, none⟩) (len + n) m) { w with heap := w.heap.push (.cells (v1 ++ v2 ++ (Builtin.zeroCells z.cells (m - (len + n))).toList).toArray e), drawn := w.drawn + 1 } := by
    intro hnc
    obtain ⟨m, hm, hr⟩ := run_append_grows hu hxT hi hz hb (len := len) (cap := c) (base := some ⟨at_.b, at_.o + off, none⟩) (v1 := v1) (ty := ty) hsrc hnc
     (Nat.le_trans (Nat.mul_le_mul_right _ (nextcap_le _ _ (by omega))) hbig) (hload (w.drawn + 1))
    refine ⟨m, hm, ?_, hr⟩
    have hg' := grow_new hw hpos hl1 hl2 hv1 hv2 ho1 ho2 (Builtin.zeroCells z.cells (m - (len + n))).toList (hzz _) e (w.drawn + 1)
    rw [Heap.addC_eq]
    refine .val _ _ _ _ _ _ (run_v hr) (.inl rfl) hg'.1 hg'.2 ?_
    refine .slice _ 0 (len + n) i.size false (len + n) ⟨w.heap.size, 0, _⟩ m (Phi.put_same _ _ _) (by simp) (by omega) (Nat.le_refl _) ?_
    simp only [List.length_append, hvl, hlv2, hzl]
    rw [← Nat.add_mul, ← Nat.add_mul]
    have : len + n + (m - (len + n)) = m := by omega
    rw [this]; simp
   cases ex
   ·rw [bif_false]
    cases wr
    ·exact .fail
    rw [bif_true, Heap.setC_eq, Heap.addC_eq]
    by_cases hcc : len + n ≤ c
    ·-- the model has room
     obtain ⟨u, hst, hw', he⟩ := grow_there hw hk hg hr1 hoff hrl hl1 hl2 hr2 hv2 ho2 (by
      have := Nat.mul_le_mul_right i.size hcc
      omega) hle
     refine .val _ _ _ _ _ _ (run_v (run_append_fits hu hxT hsz hsrc hcc hst)) (.inl rfl) hw' he ?_
     refine .slice _ 0 (len + n) i.size false (len + n) ⟨at_.b, at_.o + off, at_.n⟩ c (Phi.put_same _ _ _) (by simp) hcc (Nat.le_refl _) ?_
     simpa using hlen
    ·obtain ⟨m, hm, _, hr⟩ := anew hcc
     have hkn : k.toNat < H.nx.toNat := hw.dom k at_ hk
     obtain ⟨hwd, hed⟩ := dead_sound hw k hkn (by rw [hk]; simp)
     have hg' := grow_new hwd hpos hl1 hl2 hv1 hv2 ho1 ho2 (Builtin.zeroCells z.cells (m - (len + n))).toList (hzz _) e (w.drawn + 1)
     refine .val _ _ _ _ _ _ (run_v hr) (.inl rfl) hg'.1 (hed.trans hg'.2) ?_
     refine .slice _ 0 (len + n) i.size false (len + n) ⟨w.heap.size, 0, _⟩ m (Phi.put_same _ _ _) (by simp) (by omega) (Nat.le_refl _) ?_
     simp only [List.length_append, hvl, hlv2, hzl]
     rw [← Nat.add_mul, ← Nat.add_mul]
     have : len + n + (m - (len + n)) = m := by omega
     rw [this]; simp
   ·rw [bif_true]
    have := hxc rfl
    subst this
    obtain ⟨_, _, h, _⟩ := anew hfit
    exact h
 ·-- an empty one, wherever it lies
  rename_i k off es ex at_ x' hk
  show Ran P φ H w _ (bif' (Nat.beq es i.size) (fN (0 + n) fun need => rowsC H k off 0 i.size .fail fun wr rows r1 =>
    bif' (Nat.ble need 0)
     (bif' wr (putC .fail r2 (off / i.size + 0) rows fun rows => H.setC k (.row true i.size rows) fun G => .val (.slice k off need es ex 0) G) .fail)
     (bif' (okBig need i.bytes) (appC r1 r2 fun r => fB ex fun ex => bif' ex (H.addC (.row true i.size r) fun k G => .val (.slice k 0 need i.size false need) G)
      (bif' wr (H.setC k .dead fun H => H.addC (.row true i.size r) fun k G => .val (.slice k 0 need i.size false need) G) .fail)) .fail)) .fail)
  by_cases hes : Nat.beq es i.size = true
  case neg => rw [eq_false_of_ne_true hes]; exact .fail
  rw [hes, bif_true, fN_eq, Nat.zero_add]
  rcases rowsC_sound hw hk off 0 i.size R1.fail (fun wr rows r1 =>
    bif' (Nat.ble n 0)
     (bif' wr (putC .fail r2 (off / i.size + 0) rows fun rows => H.setC k (.row true i.size rows) fun G => .val (.slice k off n es ex 0) G) .fail)
     (bif' (okBig n i.bytes) (appC r1 r2 fun r => fB ex fun ex => bif' ex (H.addC (.row true i.size r) fun k G => .val (.slice k 0 n i.size false n) G)
      (bif' wr (H.setC k .dead fun H => H.addC (.row true i.size r) fun k G => .val (.slice k 0 n i.size false n) G) .fail)) .fail)) with e' | ⟨wr, rows, r1, v1, e', hg, hr1, hoff, hle, hrl, hl1, hv1, ho1, hload, hvl, _⟩ <;> rw [e'] <;> clear e'
  ·exact .fail
  have : r1 = [] := List.eq_nil_of_length_eq_zero hrl
  subst this
  have hnf : Nat.ble n 0 = false := by cases n with | zero => exact absurd rfl hn0 | succ n => rfl
  rw [hnf, bif_false]
  by_cases hbig : okBig n i.bytes = true
  case neg => rw [eq_false_of_ne_true hbig]; exact .fail
  rw [hbig, bif_true, appC_eq, fB_eq, List.nil_append]
  have hbig := Nat.le_of_ble_eq_true hbig
  obtain ⟨m, hm, hr⟩ := run_append_grows hu hxT hi hz hb (len := 0) (cap := 0) (base := some x') (v1 := []) (ty := ty) hsrc (by omega)
   (Nat.le_trans (Nat.mul_le_mul_right _ (nextcap_le _ _ (by omega))) (by rw [Nat.zero_add]; exact hbig)) (by simp [Builtin.firstCells, loadCells, loadCellsFrom])
  rw [Nat.zero_add] at hr
  have last : ∀ (ψ : Phi) (G : Heap), Ext φ H w ψ G w → WRel P ψ G w → (∀ k a, φ k = some a → ψ k = some a) → Ran P φ H w (do return Next.value (← Builtin.append_ #[sT, xT] ty #[.slice (some x') 0 0, y2])) (G.addC (.row true i.size r2) fun k G => .val (.slice k 0 n i.size false n) G) := by
   intro ψ G hext hwr hle
   have hg' := grow_new hwr hpos (r1 := []) (v1 := []) (by simp) hl2 VRels.nil (hv2.mono hle) (by simp) ho2 (Builtin.zeroCells z.cells (m - n)).toList (hzz _) e (w.drawn + 1)
   rw [Heap.addC_eq]
   refine .val _ _ _ _ _ _ (run_v hr) (.inl rfl) hg'.1 (hext.trans hg'.2) ?_
   refine .slice _ 0 n i.size false n ⟨w.heap.size, 0, _⟩ m (Phi.put_same _ _ _) (by simp) (by omega) (Nat.le_refl _) ?_
   simp only [List.nil_append, List.length_append, hlv2, hzl]
   rw [← Nat.add_mul]
   have : n + (m - n) = m := by omega
   rw [this]; simp
  cases ex
  ·rw [bif_false]
   cases wr
   ·exact .fail
   rw [bif_true, Heap.setC_eq]
   obtain ⟨hwd, hed⟩ := dead_sound hw k (hw.dom k at_ hk) (by rw [hk]; simp)
   exact last _ _ hed hwd (fun _ _ h => h)
  ·exact last _ _ (Ext.refl _ _ _) hw (fun _ _ h => h)
def isInt (P : Program) (t : TypeId) : Bool := match P.underlying t with
 | some (.int _) => true
 | _ => false
theorem isInt_of {t : TypeId} (h : isInt P t = true) : ∃ k, P.underlying t = some (.int k) := by
 unfold isInt at h
 split at h
 ·exact ⟨_, by assumption⟩
 ·cases h
theorem run_appz_grows {sT xT e ty : TypeId} (hu : P.underlying sT = some (.slice e)) (hx : isInt P xT = true) {i : TypeInfo} (hi : P.info? e = some i) {z : Value} (hz : i.zero = some z) (hb : i.bytes ≠ 0) (hs : 0 < i.size) {n len cap : Nat} (hn : 0 < n) {base : Option Addr} {v1 : List Value}
  (hfit : ¬ len + n ≤ cap) (hbig : Builtin.nextslicecap (len + n) cap * i.bytes ≤ 281474976710656) (hbn : (len + n) * i.bytes ≤ 281474976710656) (h1 : (Builtin.firstCells i.size len (.slice base len cap)).run P { w with drawn := w.drawn + 1 } = .ok v1.toArray { w with drawn := w.drawn + 1 }) :
  ∃ m, len + n ≤ m ∧ (Builtin.append_ #[sT, xT] ty #[.slice base len cap, .int .i64 n]).run P w =
   .ok (.slice (some ⟨w.heap.size, 0, none⟩) (len + n) m) { w with heap := w.heap.push (.cells (v1 ++ (Builtin.zeroCells z.cells n).toList ++ (Builtin.zeroCells z.cells (m - (len + n))).toList).toArray e), drawn := w.drawn + 1 } := by
 obtain ⟨d, hd⟩ := isInt_of hx
 have hsz : szT P e = some i.size := by simp [szT, hi]
 have hpow : (2 : Nat) ^ 48 = 281474976710656 := by decide
 have hpow' : (2 : Int) ^ 48 = 281474976710656 := by decide
 have hle : len + n ≤ 281474976710656 := Nat.le_trans (Nat.le_mul_of_pos_right _ (Nat.pos_of_ne_zero hb)) hbn
 have hnb : n * i.bytes ≤ 281474976710656 := Nat.le_trans (Nat.mul_le_mul_right _ (Nat.le_add_left _ _)) hbn
 refine ⟨(Question.appendCap (len + n) cap e).cut (w.tape w.drawn (.appendCap (len + n) cap e)), ?_, ?_⟩
 ·show len + n ≤ len + n + _; omega
 have hwrap : IntKind.i64.wrap (n : Int) = n := wrap_nat .i64 n (by simp only [mx]; omega)
 have hasi : ∀ w, (asIntOf (.int .i64 (n : Int))).run P w = .ok (.i64, (n : Int)) w := fun w => rfl
 unfold Builtin.append_
 have hbig' : ¬ (Builtin.nextslicecap (len + n) cap * i.bytes > 2 ^ 48) := by omega
 have hmax : ¬ ((len + n : Nat) : Int) > IntKind.i64.max := by
  have : IntKind.i64.max = 9223372036854775807 := by decide
  omega
 have hn0 : ¬ ((n : Int) < 0) := by omega
 have hnb' : ¬ ((n : Int) * (i.bytes : Int) > 2 ^ 48) := by
  rw [hpow']
  have h := Int.ofNat_le.2 hnb
  rw [Int.natCast_mul] at h
  omega
 have hnz : ¬ (n * i.size = 0) := by
  intro h
  rcases Nat.mul_eq_zero.1 h with h | h <;> omega
 simp only [List.getElem?_toArray, List.getElem?_cons_zero, List.getElem?_cons_succ, Sem.run_bind, run_underlying hu, Result.andThen_ok, run_sizeOf' hsz, run_underlying hd, Sem.run_pure, if_true, asInt, hasi, hwrap, hn0, if_false, typeInfo_of hi, hnb', Int.toNat_natCast]
 rw [if_neg hfit]
 rw [Sem.run_bind, typeInfo_of hi, Result.andThen_ok]
 rw [if_neg (show ¬ (((len + n : Nat) : Int) > IntKind.i64.max ∧ (True ∨ i.bytes = 0)) from fun h => hmax h.1), Sem.run_bind, typeInfo_of hi, Result.andThen_ok]
 rw [if_neg hbig']
 simp only [Sem.run_bind, run_choose, Question.forced, Bool.false_eq_true, if_false, Result.andThen_ok, typeInfo_of hi, run_askRoom, h1, Bool.not_true, hnz, zeroValue, hz, Sem.run_pure, newRow, run_newObj]
 have harr : v1.toArray ++ Builtin.zeroCells z.cells n ++ Builtin.zeroCells z.cells ((Question.appendCap (len + n) cap e).cut (w.tape w.drawn (Question.appendCap (len + n) cap e)) - (len + n)) =
   (v1 ++ (Builtin.zeroCells z.cells n).toList ++ (Builtin.zeroCells z.cells ((Question.appendCap (len + n) cap e).cut (w.tape w.drawn (Question.appendCap (len + n) cap e)) - (len + n))).toList).toArray := by
  apply Array.ext'; simp
 rw [harr]
noncomputable def apzR (esz bytes : Nat) (zero : List AV) (x y : X) (T : Tr AV) (H : Heap) : R1 := withX T x .fail fun v => withX T y .fail fun u => asIntC u .fail fun kd n => bif' (Nat.beq (kn kd) (kn .i64)) (Int.rec (motive := fun _ => R1) (fun n =>
 bif' (Nat.beq n 0) .fail
  (asSliceC v .fail (bif' (okBig n bytes) (H.addC (.row true esz (repL n zero)) fun k G => .val (.slice k 0 n esz false n) G) .fail)
   fun k off len es ex cap => bif' ex (bif' (Nat.beq es esz) (fN (len + n) fun need => rowsC H k off len esz .fail fun _ _ r1 =>
    bif' (Nat.ble need cap) .fail
     (bif' (okBig need bytes) (appC r1 (repL n zero) fun r => H.addC (.row true esz r) fun k G => .val (.slice k 0 need esz false need) G) .fail)) .fail) .fail)) (fun _ => .fail) n) .fail
theorem apz_sound (hw : WRel P φ H w) {sT xT e ty : TypeId} (hu : P.underlying sT = some (.slice e)) (hxT : isInt P xT = true) {i : TypeInfo} (hi : P.info? e = some i) {z : Value} (hz : i.zero = some z) (hb : i.bytes ≠ 0)
  (hzs : z.cells.size = i.size) (hzo : ∀ v ∈ z.cells.toList, v.oneCell' = true) (hpos : 0 < i.size) {zero : List AV} (hzl : ofScalars z.cells.toList = some zero) {o1 o2 : Operand} {x y : X} (hx : cX o1 = some x) (hy : cX o2 = some y) (ht : TRelAt P φ T a.tmps (· ∈ tmpsOf [o1, o2])) :
  Ran P φ H w (do return Next.value (← Builtin.append_ #[sT, xT] ty #[a.eval o1, a.eval o2])) (apzR i.size i.bytes zero x y T H) := by
 have hsz : szT P e = some i.size := by simp [szT, hi]
 have hpow : (2 : Nat) ^ 48 = 281474976710656 := by decide
 have hzz : ∀ m, ∀ v ∈ (Builtin.zeroCells z.cells m).toList, v.oneCell' = true := zero_ones (by omega) hzo
 have hzn : ∀ m, (Builtin.zeroCells z.cells m).toList.length = m * i.size := by intro m; simp [Builtin.zeroCells, hzs]
 have hzr := ofScalars_sound (P := P) (φ := φ) hzl
 have hzlen : zero.length = i.size := by have := hzr.1.length; simp at this; omega
 have hrep : ∀ n, VRels P φ (List.replicate n zero).flatten (Builtin.zeroCells z.cells n).toList := by
  intro n
  have : (Builtin.zeroCells z.cells n).toList = (List.replicate n z.cells.toList).flatten := range_rep z.cells (by omega) n
  rw [this]
  induction n with
  | zero => exact .nil
  | succ n ih => rw [List.replicate_succ, List.replicate_succ, List.flatten_cons, List.flatten_cons]; exact hzr.1.append (ih (range_rep z.cells (by omega) n))
 have hrl : ∀ n, ∀ x ∈ List.replicate n zero, x.length = i.size := fun n x hx => by rw [List.eq_of_mem_replicate hx]; exact hzlen
 unfold apzR
 rcases withX_eq T x R1.fail _ with ⟨_, e'⟩ | ⟨v, hv, e'⟩ <;> rw [e'] <;> clear e'
 ·exact .fail
 rcases withX_eq T y R1.fail _ with ⟨_, e'⟩ | ⟨q, hq, e'⟩ <;> rw [e'] <;> clear e'
 ·exact .fail
 have hv' := evX_sound (sub2a ht) hx hv
 have hq' := evX_sound (sub2b ht) hy hq
 generalize a.eval o1 = y1 at *
 generalize a.eval o2 = y2 at *
 cases hq' <;> try exact .fail
 rename_i kd n
 show Ran P φ H w _ (bif' (Nat.beq (kn kd) (kn .i64)) _ .fail)
 by_cases hkd : Nat.beq (kn kd) (kn .i64) = true
 case neg => rw [eq_false_of_ne_true hkd]; exact .fail
 rw [hkd, bif_true]
 have := kn_inj hkd; subst this
 cases n with
 | negSucc n => exact .fail
 | ofNat n =>
 show Ran P φ H w _ (bif' (Nat.beq n 0) .fail _)
 by_cases h0 : Nat.beq n 0 = true
 ·rw [h0]; exact .fail
 rw [eq_false_of_ne_true h0, bif_false]
 have hn0 : 0 < n := by
  rcases Nat.eq_zero_or_pos n with h | h
  ·subst h; exact absurd rfl h0
  ·exact h
 rw [repL_eq]
 have hbn : ∀ need, okBig need i.bytes = true → need * i.bytes ≤ 281474976710656 := fun need h => by
  have := Nat.le_of_ble_eq_true h
  exact Nat.le_trans (Nat.mul_le_mul_right _ (by omega)) this
 cases hv' <;> try exact .fail
 ·show Ran P φ H w _ (bif' (okBig n i.bytes) (H.addC (.row true i.size (List.replicate n zero)) fun k G => .val (.slice k 0 n i.size false n) G) .fail)
  by_cases hbig : okBig n i.bytes = true
  case neg => rw [eq_false_of_ne_true hbig]; exact .fail
  rw [hbig, bif_true, Heap.addC_eq]
  obtain ⟨m, hm, hr⟩ := run_appz_grows hu hxT hi hz hb hpos hn0 (len := 0) (cap := 0) (base := none) (v1 := []) (ty := ty) (w := w) (by omega)
   (Nat.le_trans (Nat.mul_le_mul_right _ (nextcap_le _ _ (by omega))) (by rw [Nat.zero_add]; exact Nat.le_of_ble_eq_true hbig)) (by rw [Nat.zero_add]; exact hbn _ hbig) rfl
  have hg := grow_new hw hpos (r1 := []) (v1 := []) (by simp) (hrl n) VRels.nil (hrep n) (by simp) (hzz n) (Builtin.zeroCells z.cells (m - (0 + n))).toList (hzz _) e (w.drawn + 1)
  rw [Nat.zero_add] at hr hg
  refine .val _ _ _ _ _ _ (run_v hr) (.inl rfl) hg.1 hg.2 ?_
  refine .slice _ 0 n i.size false n ⟨w.heap.size, 0, _⟩ m (Phi.put_same _ _ _) (by simp) (by omega) (Nat.le_refl _) ?_
  simp only [List.nil_append, List.length_append, hzn]
  rw [← Nat.add_mul]
  have : n + (m - n) = m := by omega
  rw [this]; simp
 ·rename_i k off len es ex cap at_ c hk hxc hcc hl hlen
  show Ran P φ H w _ (bif' ex (bif' (Nat.beq es i.size) (fN (len + n) fun need => rowsC H k off len i.size .fail fun _ _ r1 =>
    bif' (Nat.ble need cap) .fail (bif' (okBig need i.bytes) (appC r1 (List.replicate n zero) fun r => H.addC (.row true i.size r) fun k G => .val (.slice k 0 need i.size false need) G) .fail)) .fail) .fail)
  cases ex
  ·exact .fail
  have := hxc rfl; subst this
  rw [bif_true]
  by_cases he : Nat.beq es i.size = true
  case neg => rw [eq_false_of_ne_true he]; exact .fail
  rw [he, bif_true, fN_eq]
  rcases rowsC_sound hw hk off len i.size R1.fail (fun _ _ r1 => bif' (Nat.ble (len + n) cap) .fail (bif' (okBig (len + n) i.bytes) (appC r1 (List.replicate n zero) fun r => H.addC (.row true i.size r) fun k G => .val (.slice k 0 (len + n) i.size false (len + n)) G) .fail)) with e' | ⟨wr, rows, r1, v1, e', hg, hr1, hoff, hle, hrl1, hl1, hv1, ho1, hload, hvl, _⟩ <;> rw [e'] <;> clear e'
  ·exact .fail
  by_cases hfit : Nat.ble (len + n) cap = true
  ·rw [hfit]; exact .fail
  rw [eq_false_of_ne_true hfit, bif_false]
  have hfit : ¬ len + n ≤ cap := fun h => hfit (by rw [Nat.ble_eq]; exact h)
  by_cases hbig : okBig (len + n) i.bytes = true
  case neg => rw [eq_false_of_ne_true hbig]; exact .fail
  rw [hbig, bif_true, appC_eq, Heap.addC_eq]
  obtain ⟨m, hm, hr⟩ := run_appz_grows hu hxT hi hz hb hpos hn0 (len := len) (cap := cap) (base := some ⟨at_.b, at_.o + off, none⟩) (v1 := v1) (ty := ty) (w := w) hfit
   (Nat.le_trans (Nat.mul_le_mul_right _ (nextcap_le _ _ (by omega))) (Nat.le_of_ble_eq_true hbig)) (hbn _ hbig) (hload (w.drawn + 1))
  have hg' := grow_new hw hpos hl1 (hrl n) hv1 (hrep n) ho1 (hzz n) (Builtin.zeroCells z.cells (m - (len + n))).toList (hzz _) e (w.drawn + 1)
  refine .val _ _ _ _ _ _ (run_v hr) (.inl rfl) hg'.1 hg'.2 ?_
  refine .slice _ 0 (len + n) i.size false (len + n) ⟨w.heap.size, 0, _⟩ m (Phi.put_same _ _ _) (by simp) (by omega) (Nat.le_refl _) ?_
  simp only [List.length_append, hvl, hzn]
  rw [← Nat.add_mul, ← Nat.add_mul]
  have : len + n + (m - (len + n)) = m := by omega
  rw [this]; simp
 ·rename_i k off es ex at_ x' hk
  show Ran P φ H w _ (bif' ex (bif' (Nat.beq es i.size) (fN (0 + n) fun need => rowsC H k off 0 i.size .fail fun _ _ r1 =>
    bif' (Nat.ble need 0) .fail (bif' (okBig need i.bytes) (appC r1 (List.replicate n zero) fun r => H.addC (.row true i.size r) fun k G => .val (.slice k 0 need i.size false need) G) .fail)) .fail) .fail)
  cases ex
  ·exact .fail
  rw [bif_true]
  by_cases he : Nat.beq es i.size = true
  case neg => rw [eq_false_of_ne_true he]; exact .fail
  rw [he, bif_true, fN_eq, Nat.zero_add]
  rcases rowsC_sound hw hk off 0 i.size R1.fail (fun _ _ r1 => bif' (Nat.ble n 0) .fail (bif' (okBig n i.bytes) (appC r1 (List.replicate n zero) fun r => H.addC (.row true i.size r) fun k G => .val (.slice k 0 n i.size false n) G) .fail)) with e' | ⟨wr, rows, r1, v1, e', hg, hr1, hoff, hle, hrl1, hl1, hv1, ho1, hload, hvl, _⟩ <;> rw [e'] <;> clear e'
  ·exact .fail
  have : r1 = [] := List.eq_nil_of_length_eq_zero hrl1
  subst this
  by_cases hfit : Nat.ble n 0 = true
  ·rw [hfit]; exact .fail
  rw [eq_false_of_ne_true hfit, bif_false]
  by_cases hbig : okBig n i.bytes = true
  case neg => rw [eq_false_of_ne_true hbig]; exact .fail
  rw [hbig, bif_true, appC_eq, Heap.addC_eq, List.nil_append]
  obtain ⟨m, hm, hr⟩ := run_appz_grows hu hxT hi hz hb hpos hn0 (len := 0) (cap := 0) (base := some x') (v1 := []) (ty := ty) (w := w) (by omega)
   (Nat.le_trans (Nat.mul_le_mul_right _ (nextcap_le _ _ (by omega))) (by rw [Nat.zero_add]; exact Nat.le_of_ble_eq_true hbig)) (by rw [Nat.zero_add]; exact hbn _ hbig) (by simp [Builtin.firstCells, loadCells, loadCellsFrom])
  have hg := grow_new hw hpos (r1 := []) (v1 := []) (by simp) (hrl n) VRels.nil (hrep n) (by simp) (hzz n) (Builtin.zeroCells z.cells (m - (0 + n))).toList (hzz _) e (w.drawn + 1)
  rw [Nat.zero_add] at hr hg
  refine .val _ _ _ _ _ _ (run_v hr) (.inl rfl) hg.1 hg.2 ?_
  refine .slice _ 0 n i.size false n ⟨w.heap.size, 0, _⟩ m (Phi.put_same _ _ _) (by simp) (by omega) (Nat.le_refl _) ?_
  simp only [List.nil_append, List.length_append, hzn]
  rw [← Nat.add_mul]
  have : n + (m - n) = m := by omega
  rw [this]; simp
end Go.Ev
namespace Go.Ev
variable {P : Program} {φ : Phi} {H : Heap} {w u : World} {T : Tr AV} {a : Act}
noncomputable def minN (a b : Nat) : Nat := bif' (Nat.ble a b) a b
theorem minN_eq (a b : Nat) : minN a b = Nat.min a b := by
 unfold minN
 rw [bif_eq]
 split
 ·rename_i h; have := Nat.le_of_ble_eq_true h; exact (Nat.min_eq_left this).symm
 ·rename_i h
  have : b ≤ a := by
   rcases Nat.le_total a b with h' | h'
   ·exact absurd (Nat.ble_eq_true_of_le h') h
   ·exact h'
  exact (Nat.min_eq_right this).symm
noncomputable def goI (n : Nat) (H : Heap) : R1 := .val (.int .i64 (.ofNat n)) H
noncomputable def cpyR (esz : Nat) (x y : X) (T : Tr AV) (H : Heap) : R1 := withX T x .fail fun v => withX T y .fail fun u =>
 asSliceC v .fail (asSliceC u .fail (goI 0 H) fun _ _ _ _ _ _ => goI 0 H) fun k off len es _ _ => asSliceC u .fail (goI 0 H) fun k2 off2 len2 es2 _ _ => fN (minN len2 len) fun n =>
  bif' (Nat.beq n 0) (goI 0 H) (bif' (Bool.and (Nat.beq es esz) (Nat.beq es2 esz))
   (rowsC H k2 off2 n esz .fail fun _ _ r2 => rowsC H k off n esz .fail fun wr rows _ => bif' wr (putC .fail r2 (off / esz) rows fun rows => H.setC k (.row true esz rows) fun G => goI n G) .fail) .fail)
theorem run_copy {dT sT e ty : TypeId} (hu : P.underlying dT = some (.slice e)) {esz : Nat} (hn : szT P e = some esz) {base : Option Addr} {dl dc sl : Nat} {x : Value} {vs : List Value} (hl : (Builtin.lenOf x).run P w = .ok sl w)
  (hc : (Builtin.firstCells esz (Nat.min sl dl) x).run P w = .ok vs.toArray w) (hst : ∀ b, base = some b → (storeCells b vs).run P w = .ok () u) (hb : base = none → u = w) :
  (Builtin.copy_ #[dT, sT] ty #[.slice base dl dc, x]).run P w = .ok (goInt (Nat.min sl dl)) u := by
 unfold Builtin.copy_
 cases base with
 | none => simp [run_underlying hu, run_sizeOf' hn, hl, hc, hb rfl]
 | some b => simp [run_underlying hu, run_sizeOf' hn, hl, hc, hst b rfl]
theorem goI_rel (n : Nat) : VRel P φ (.int .i64 (.ofNat n)) (goInt (n : Int)) := .int _ _
theorem cpy_sound (hw : WRel P φ H w) {dT sT e ty : TypeId} (hu : P.underlying dT = some (.slice e)) {esz : Nat} (hn : szT P e = some esz) {o1 o2 : Operand} {x y : X} (hx : cX o1 = some x) (hy : cX o2 = some y) (ht : TRelAt P φ T a.tmps (· ∈ tmpsOf [o1, o2])) :
  Ran P φ H w (do return Next.value (← Builtin.copy_ #[dT, sT] ty #[a.eval o1, a.eval o2])) (cpyR esz x y T H) := by
 unfold cpyR
 rcases withX_eq T x R1.fail _ with ⟨_, e'⟩ | ⟨v, hv, e'⟩ <;> rw [e'] <;> clear e'
 ·exact .fail
 rcases withX_eq T y R1.fail _ with ⟨_, e'⟩ | ⟨q, hq, e'⟩ <;> rw [e'] <;> clear e'
 ·exact .fail
 have hv' := evX_sound (sub2a ht) hx hv
 have hq' := evX_sound (sub2b ht) hy hq
 generalize a.eval o1 = y1 at *
 generalize a.eval o2 = y2 at *
 have zero : ∀ (base : Option Addr) (dl dc sl : Nat) (b2 : Option Addr) (c2 : Nat), Nat.min sl dl = 0 → Ran P φ H w (do return Next.value (← Builtin.copy_ #[dT, sT] ty #[.slice base dl dc, .slice b2 sl c2])) (goI 0 H) := by
  intro base dl dc sl b2 c2 h0
  refine .pure hw (run_v ?_) (goI_rel 0)
  have := run_copy (P := P) (w := w) (u := w) (ty := ty) (sT := sT) (base := base) (dl := dl) (dc := dc) (sl := sl) (x := .slice b2 sl c2) (vs := []) hu hn rfl (by rw [h0]; cases b2 <;> simp [Builtin.firstCells, loadCells, loadCellsFrom]) (fun b _ => rfl) (fun _ => rfl)
  rw [h0] at this
  exact this
 cases hv' <;> try exact .fail
 ·-- nil
  cases hq' <;> try exact .fail
  ·exact zero _ _ _ _ _ _ rfl
  ·exact zero _ _ _ _ _ _ (Nat.min_zero _)
  ·exact zero _ _ _ _ _ _ rfl
 ·rename_i k off len es ex cap at_ c hk hxc hc hl hlen
  cases hq' <;> try exact .fail
  ·exact zero _ _ _ _ _ _ (Nat.zero_min _)
  ·rename_i k2 off2 len2 es2 ex2 cap2 at2 c2 hk2 hxc2 hc2 hl2 hlen2
   show Ran P φ H w _ (fN (minN len2 len) fun n =>
    bif' (Nat.beq n 0) (goI 0 H) (bif' (Bool.and (Nat.beq es esz) (Nat.beq es2 esz))
     (rowsC H k2 off2 n esz .fail fun _ _ r2 => rowsC H k off n esz .fail fun wr rows _ => bif' wr (putC .fail r2 (off / esz) rows fun rows => H.setC k (.row true esz rows) fun G => goI n G) .fail) .fail))
   rw [fN_eq, minN_eq]
   generalize hnm : Nat.min len2 len = n
   by_cases h0 : Nat.beq n 0 = true
   ·rw [h0, bif_true]; rw [Nat.beq_eq] at h0; subst h0; exact zero _ _ _ _ _ _ hnm
   rw [eq_false_of_ne_true h0, bif_false]
   by_cases hes : Bool.and (Nat.beq es esz) (Nat.beq es2 esz) = true
   case neg => rw [eq_false_of_ne_true hes]; exact .fail
   rw [hes, bif_true]
   rcases rowsC_sound hw hk2 off2 n esz R1.fail (fun _ _ r2 => rowsC H k off n esz .fail fun wr rows _ => bif' wr (putC .fail r2 (off / esz) rows fun rows => H.setC k (.row true esz rows) fun G => goI n G) .fail) with e' | ⟨_, _, r2, v2, e', _, _, _, _, hrl2, hrr2, hv2, ho2, hload2, hvl2, _⟩ <;> rw [e'] <;> clear e'
   ·exact .fail
   rcases rowsC_sound hw hk off n esz R1.fail (fun wr rows _ => bif' wr (putC .fail r2 (off / esz) rows fun rows => H.setC k (.row true esz rows) fun G => goI n G) .fail) with e' | ⟨wr, rows, r1, v1, e', hg, _, hoff, hle, _, _, _, _, _, _, _⟩ <;> rw [e'] <;> clear e'
   ·exact .fail
   cases wr
   ·exact .fail
   rw [bif_true, putC_eq]
   split
   case isFalse => exact .fail
   rename_i hput
   rw [Heap.setC_eq]
   have hrel := hw.blk k _ at_ hg hk
   have hwr := put_rows esz rows r2 (off / esz) hrel.len hrr2 hput
   obtain ⟨u, hst, hw', he⟩ := storeCells_sound hw hg hk hv2 ho2 hwr
   have hdm : off / esz * esz = off := by have := Nat.div_add_mod off esz; rw [hoff, Nat.add_zero, Nat.mul_comm] at this; exact this
   rw [hdm] at hst
   have hrun := run_copy (P := P) (w := w) (u := u) (ty := ty) (sT := sT) (base := some ⟨at_.b, at_.o + off, none⟩) (dl := len) (dc := c) (sl := len2) (x := .slice (some ⟨at2.b, at2.o + off2, none⟩) len2 c2) (vs := v2) hu hn rfl
    (by rw [hnm]; exact hload2 w.drawn) (fun b hb => by cases hb; exact hst) (fun h => by cases h)
   rw [hnm] at hrun
   exact .val _ _ _ _ _ _ (run_v hrun) (.inl rfl) hw' he (goI_rel n)
  ·rename_i k2 off2 es2 ex2 at2 x2 hk2
   show Ran P φ H w _ (fN (minN 0 len) fun n => bif' (Nat.beq n 0) (goI 0 H) (bif' (Bool.and (Nat.beq es esz) (Nat.beq es2 esz)) (rowsC H k2 off2 n esz .fail fun _ _ r2 => rowsC H k off n esz .fail fun wr rows _ => bif' wr (putC .fail r2 (off / esz) rows fun rows => H.setC k (.row true esz rows) fun G => goI n G) .fail) .fail))
   rw [fN_eq, minN_eq, show Nat.min 0 len = 0 from Nat.zero_min _]
   exact zero _ _ _ _ _ _ (Nat.zero_min _)
 ·rename_i k off es ex at_ x' hk
  cases hq' <;> try exact .fail
  ·exact zero _ _ _ _ _ _ rfl
  ·rename_i k2 off2 len2 es2 ex2 cap2 at2 c2 hk2 hxc2 hc2 hl2 hlen2
   show Ran P φ H w _ (fN (minN len2 0) fun n => bif' (Nat.beq n 0) (goI 0 H) (bif' (Bool.and (Nat.beq es esz) (Nat.beq es2 esz)) (rowsC H k2 off2 n esz .fail fun _ _ r2 => rowsC H k off n esz .fail fun wr rows _ => bif' wr (putC .fail r2 (off / esz) rows fun rows => H.setC k (.row true esz rows) fun G => goI n G) .fail) .fail))
   rw [fN_eq, minN_eq, show Nat.min len2 0 = 0 from Nat.min_zero _]
   exact zero _ _ _ _ _ _ (Nat.min_zero _)
  ·exact zero _ _ _ _ _ _ rfl
noncomputable def cpyF (esz : Nat) (x y : X) (T : Tr AV) (H : Heap) : R1 := withX T x .fail fun v => withX T y .fail fun u =>
 asSliceC v .fail (asSliceC u .fail (goI 0 H) fun _ _ _ _ _ _ => goI 0 H) fun k off len _ _ _ => asSliceC u .fail (goI 0 H) fun k2 off2 len2 _ _ _ => fN (minN len2 len) fun n =>
  bif' (Nat.beq n 0) (goI 0 H) (fN (n * esz) fun m => loadC H k2 off2 m .fail fun l => blkC H k .fail fun wr es rows => bif' wr (writeC .fail es rows off l fun rows => H.setC k (.row true es rows) fun G => goI n G) .fail)
theorem cpyF_sound (hw : WRel P φ H w) {dT sT e ty : TypeId} (hu : P.underlying dT = some (.slice e)) {esz : Nat} (hn : szT P e = some esz) {o1 o2 : Operand} {x y : X} (hx : cX o1 = some x) (hy : cX o2 = some y) (ht : TRelAt P φ T a.tmps (· ∈ tmpsOf [o1, o2])) :
  Ran P φ H w (do return Next.value (← Builtin.copy_ #[dT, sT] ty #[a.eval o1, a.eval o2])) (cpyF esz x y T H) := by
 unfold cpyF
 rcases withX_eq T x R1.fail _ with ⟨_, e'⟩ | ⟨v, hv, e'⟩ <;> rw [e'] <;> clear e'
 ·exact .fail
 rcases withX_eq T y R1.fail _ with ⟨_, e'⟩ | ⟨q, hq, e'⟩ <;> rw [e'] <;> clear e'
 ·exact .fail
 have hv' := evX_sound (sub2a ht) hx hv
 have hq' := evX_sound (sub2b ht) hy hq
 generalize a.eval o1 = y1 at *
 generalize a.eval o2 = y2 at *
 have zero : ∀ (base : Option Addr) (dl dc sl : Nat) (b2 : Option Addr) (c2 : Nat), Nat.min sl dl = 0 → Ran P φ H w (do return Next.value (← Builtin.copy_ #[dT, sT] ty #[.slice base dl dc, .slice b2 sl c2])) (goI 0 H) := by
  intro base dl dc sl b2 c2 h0
  refine .pure hw (run_v ?_) (goI_rel 0)
  have := run_copy (P := P) (w := w) (u := w) (ty := ty) (sT := sT) (base := base) (dl := dl) (dc := dc) (sl := sl) (x := .slice b2 sl c2) (vs := []) hu hn rfl (by rw [h0]; cases b2 <;> simp [Builtin.firstCells, loadCells, loadCellsFrom]) (fun b _ => rfl) (fun _ => rfl)
  rw [h0] at this
  exact this
 cases hv' <;> try exact .fail
 ·-- nil
  cases hq' <;> try exact .fail
  ·exact zero _ _ _ _ _ _ rfl
  ·exact zero _ _ _ _ _ _ (Nat.min_zero _)
  ·exact zero _ _ _ _ _ _ rfl
 ·rename_i k off len es ex cap at_ c hk hxc hc hl hlen
  cases hq' <;> try exact .fail
  ·exact zero _ _ _ _ _ _ (Nat.zero_min _)
  ·rename_i k2 off2 len2 es2 ex2 cap2 at2 c2 hk2 hxc2 hc2 hl2 hlen2
   show Ran P φ H w _ (fN (minN len2 len) fun n =>
    bif' (Nat.beq n 0) (goI 0 H) (fN (n * esz) fun m => loadC H k2 off2 m .fail fun l => blkC H k .fail fun wr es rows => bif' wr (writeC .fail es rows off l fun rows => H.setC k (.row true es rows) fun G => goI n G) .fail))
   rw [fN_eq, minN_eq]
   generalize hnm : Nat.min len2 len = n
   by_cases h0 : Nat.beq n 0 = true
   ·rw [h0, bif_true]; rw [Nat.beq_eq] at h0; subst h0; exact zero _ _ _ _ _ _ hnm
   rw [eq_false_of_ne_true h0, bif_false, fN_eq]
   rcases loadC_sound hw hk2 off2 (n * esz) R1.fail (fun l => blkC H k .fail fun wr es rows => bif' wr (writeC .fail es rows off l fun rows => H.setC k (.row true es rows) fun G => goI n G) .fail) with e' | ⟨l, vs, e', _, h1, h2, hload, _⟩ <;> rw [e'] <;> clear e'
   ·exact .fail
   rcases blkC_eq H k R1.fail (fun wr es rows => bif' wr (writeC .fail es rows off l fun rows => H.setC k (.row true es rows) fun G => goI n G) .fail) with e' | ⟨wr, es1, rows, hg, e'⟩ <;> rw [e'] <;> clear e'
   ·exact .fail
   cases wr
   ·exact .fail
   rw [bif_true]
   have hb := hw.blk k _ at_ hg hk
   rcases writeC_eq R1.fail es1 rows off l (fun rows => H.setC k (.row true es1 rows) fun G => goI n G) hb.pos hb.len with e1 | ⟨rows', e1, hwr⟩ <;> rw [e1]
   ·exact .fail
   rw [Heap.setC_eq]
   obtain ⟨u, hst, hw', he⟩ := storeCells_sound hw hg hk h1 h2 hwr
   have hrun := run_copy (P := P) (w := w) (u := u) (ty := ty) (sT := sT) (base := some ⟨at_.b, at_.o + off, none⟩) (dl := len) (dc := c) (sl := len2) (x := .slice (some ⟨at2.b, at2.o + off2, none⟩) len2 c2) (vs := vs) hu hn rfl
    (by rw [hnm]; exact hload) (fun b hb => by cases hb; exact hst) (fun h => by cases h)
   rw [hnm] at hrun
   exact .val _ _ _ _ _ _ (run_v hrun) (.inl rfl) hw' he (goI_rel n)
  ·rename_i k2 off2 es2 ex2 at2 x2 hk2
   show Ran P φ H w _ (fN (minN 0 len) fun n => bif' (Nat.beq n 0) (goI 0 H) (fN (n * esz) fun m => loadC H k2 off2 m .fail fun l => blkC H k .fail fun wr es rows => bif' wr (writeC .fail es rows off l fun rows => H.setC k (.row true es rows) fun G => goI n G) .fail))
   rw [fN_eq, minN_eq, show Nat.min 0 len = 0 from Nat.zero_min _]
   exact zero _ _ _ _ _ _ (Nat.zero_min _)
 ·rename_i k off es ex at_ x' hk
  cases hq' <;> try exact .fail
  ·exact zero _ _ _ _ _ _ rfl
  ·rename_i k2 off2 len2 es2 ex2 cap2 at2 c2 hk2 hxc2 hc2 hl2 hlen2
   show Ran P φ H w _ (fN (minN len2 0) fun n => bif' (Nat.beq n 0) (goI 0 H) (fN (n * esz) fun m => loadC H k2 off2 m .fail fun l => blkC H k .fail fun wr es rows => bif' wr (writeC .fail es rows off l fun rows => H.setC k (.row true es rows) fun G => goI n G) .fail))
   rw [fN_eq, minN_eq, show Nat.min len2 0 = 0 from Nat.min_zero _]
   exact zero _ _ _ _ _ _ (Nat.min_zero _)
  ·exact zero _ _ _ _ _ _ rfl
inductive LnK where
 | no | str | slice | map | arr (n : Nat)
def lnOf (P : Program) (t : TypeId) : LnK := match P.underlying t with
 | some .string => .str
 | some (.slice _) => .slice
 | some (.map _ _) => .map
 | some (.array n _) => .arr n
 | _ => .no
noncomputable def lenR (lk : LnK) (x : X) (T : Tr AV) (H : Heap) : R1 := withX T x .fail fun v => LnK.rec (motive := fun _ => R1) .fail
 (asStrC v .fail fun l => fN l.length fun n => goI n H) (asSliceC v .fail (goI 0 H) fun _ _ len _ _ _ => goI len H)
 (asMapC v .fail (goI 0 H) fun k => Option.rec (motive := fun _ => R1) .fail (fun b => Blk.rec (motive := fun _ => R1) .fail (fun _ _ _ => .fail) (fun es => fN es.length fun n => goI n H) b) (H.get k)) (fun n => goI n H) lk
theorem ERel.length : ∀ {l : List (AV × AV)} {l' : List MapEntry}, ERel P φ l l' → l.length = l'.length
 | _, _, .nil => rfl
 | _, _, .cons _ _ _ _ _ _ _ h => by simp [ERel.length h]
theorem len_sound (hw : WRel P φ H w) {t ty : TypeId} {o : Operand} {x : X} (hx : cX o = some x) (ht : TRelAt P φ T a.tmps (· ∈ tmpsOf [o])) :
  Ran0 P φ H w (do return Next.value (← Builtin.len_ #[t] ty #[a.eval o])) (lenR (lnOf P t) x T H) := by
 unfold lenR
 rcases withX_eq T x R1.fail _ with ⟨_, e'⟩ | ⟨v, hv, e'⟩ <;> rw [e'] <;> clear e'
 ·exact .fail
 have hv' := evX_sound ht hx hv
 generalize a.eval o = y at *
 unfold lnOf
 split <;> try exact .fail
 ·rename_i hu
  show Ran0 P φ H w _ (asStrC v .fail fun l => fN l.length fun n => goI n H)
  cases hv' <;> try exact .fail
  rename_i l s h
  show Ran0 P φ H w _ (fN l.length fun n => goI n H)
  rw [fN_eq]
  have : l.length = s.size := by rw [← h, List.length_map]; rfl
  rw [this]
  exact .pure hw (run_v (by simp [Builtin.len_, run_underlying hu])) (goI_rel _)
 ·rename_i e hu
  show Ran0 P φ H w _ (asSliceC v .fail (goI 0 H) fun _ _ len _ _ _ => goI len H)
  cases hv' <;> try exact .fail
  ·exact .pure hw (run_v (by simp [Builtin.len_, run_underlying hu])) (goI_rel 0)
  ·exact .pure hw (run_v (by simp [Builtin.len_, run_underlying hu])) (goI_rel _)
  ·exact .pure hw (run_v (by simp [Builtin.len_, run_underlying hu])) (goI_rel 0)
 ·rename_i hu
  show Ran0 P φ H w _ (asMapC v .fail (goI 0 H) fun k => Option.rec (motive := fun _ => R1) .fail (fun b => Blk.rec (motive := fun _ => R1) .fail (fun _ _ _ => .fail) (fun es => fN es.length fun n => goI n H) b) (H.get k))
  cases hv' <;> try exact .fail
  ·exact .pure hw (run_v (by simp [Builtin.len_, run_underlying hu])) (goI_rel 0)
  ·rename_i k at_ hk
   show Ran0 P φ H w _ (Option.rec (motive := fun _ => R1) .fail (fun b => Blk.rec (motive := fun _ => R1) .fail (fun _ _ _ => .fail) (fun es => fN es.length fun n => goI n H) b) (H.get k))
   cases hg : H.get k with
   | none => exact .fail
   | some b =>
    cases b with
    | dead => exact .fail
    | row _ _ _ => exact .fail
    | map es =>
     show Ran0 P φ H w _ (fN es.length fun n => goI n H)
     rw [fN_eq]
     obtain ⟨c, clock, h1, h2⟩ := hw.blk k _ at_ hg hk
     have : es.length = c.size := by rw [h2.length]; simp
     rw [this]
     refine .pure hw (run_v ?_) (goI_rel _)
     simp [Builtin.len_, run_underlying hu, getObj, Sem.run, h1]
 ·rename_i n e hu
  show Ran0 P φ H w _ (goI n H)
  refine .pure hw (run_v ?_) (goI_rel n)
  simp only [Builtin.len_, List.getElem?_toArray, List.getElem?_cons_zero, Sem.run_bind, run_underlying hu, Result.andThen_ok, Sem.run_pure]
noncomputable def capR (x : X) (T : Tr AV) (H : Heap) : R1 := withX T x .fail fun v => asSliceC v .fail (goI 0 H) fun _ _ _ _ ex cap => bif' ex (goI cap H) (.val (.geq cap) H)
theorem cap_sound (hw : WRel P φ H w) {t e ty : TypeId} (hu : P.underlying t = some (.slice e)) {o : Operand} {x : X} (hx : cX o = some x) (ht : TRelAt P φ T a.tmps (· ∈ tmpsOf [o])) :
  Ran0 P φ H w (do return Next.value (← Builtin.cap_ #[t] ty #[a.eval o])) (capR x T H) := by
 unfold capR
 rcases withX_eq T x R1.fail _ with ⟨_, e'⟩ | ⟨v, hv, e'⟩ <;> rw [e'] <;> clear e'
 ·exact .fail
 have hv' := evX_sound ht hx hv
 generalize a.eval o = y at *
 cases hv' <;> try exact .fail
 ·exact .pure hw (run_v (by simp [Builtin.cap_, run_underlying hu])) (goI_rel 0)
 ·rename_i k off len es ex cap at_ c hk hxc hc hl hlen
  cases ex
  ·refine .pure hw (v' := .int .i64 c) (run_v (by simp [Builtin.cap_, run_underlying hu]; rfl)) (.geq _ _ (by omega))
  ·have := hxc rfl; subst this
   exact .pure hw (run_v (by simp [Builtin.cap_, run_underlying hu])) (goI_rel _)
 ·rename_i k off es ex at_ x' hk
  cases ex
  ·refine .pure hw (v' := .int .i64 0) (run_v (by simp [Builtin.cap_, run_underlying hu]; rfl)) (.geq _ _ (by omega))
  ·exact .pure hw (run_v (by simp [Builtin.cap_, run_underlying hu])) (goI_rel 0)
noncomputable def mm2 {β : Type} (g : Bool) (v u : AV) (f : β) (c : AV → β) : β :=
 asIntC v (asStrC v f fun a => asStrC u f fun b => bif' (bif' g (Bool.not (ltL a b)) (Bool.or (ltL a b) (eqL a b))) (c (.str a)) (c (.str b)))
  fun k m => asIntC u f fun _ n => bif' g (ltI m n fun z => bif' z (c (.int k n)) (c (.int k m))) (ltI n m fun z => bif' z (c (.int k n)) (c (.int k m)))
theorem mm2_sound {β : Type} {v u : AV} {v' u' : Value} (hv : VRel P φ v v') (hu : VRel P φ u u') (g : Bool) (f : β) (c : AV → β) :
  mm2 g v u f c = f ∨ ∃ r r', mm2 g v u f c = c r ∧ (∀ w, (if g = true then Builtin.max2 v' u' else Builtin.min2 v' u').run P w = .ok r' w) ∧ VRel P φ r r' := by
 unfold mm2
 cases hv <;> try exact .inl rfl
 ·rename_i k m
  cases hu <;> try exact .inl rfl
  rename_i k' n
  right
  show ∃ r r', bif' g (ltI m n fun z => bif' z (c (.int k n)) (c (.int k m))) (ltI n m fun z => bif' z (c (.int k n)) (c (.int k m))) = c r ∧ _
  cases g
  ·rw [bif_false, ltI_eq, bif_eq]
   by_cases h : n < m
   ·exact ⟨.int k n, .int k n, by simp [h], fun w => by simp [Builtin.min2, h], .int _ _⟩
   ·exact ⟨.int k m, .int k m, by simp [h], fun w => by simp [Builtin.min2, h], .int _ _⟩
  ·rw [bif_true, ltI_eq, bif_eq]
   by_cases h : m < n
   ·exact ⟨.int k n, .int k n, by simp [h], fun w => by simp [Builtin.max2, h], .int _ _⟩
   ·exact ⟨.int k m, .int k m, by simp [h], fun w => by simp [Builtin.max2, h], .int _ _⟩
 ·rename_i l s hs
  cases hu <;> try exact .inl rfl
  rename_i l' s' hs'
  right
  show ∃ r r', bif' (bif' g (Bool.not (ltL l l')) (Bool.or (ltL l l') (eqL l l'))) (c (.str l)) (c (.str l')) = c r ∧ _
  have he : eqL l l' = (s.toList == s'.toList) := by rw [← hs, ← hs', eqL_map, ByteArray.toList_eq, ByteArray.toList_eq]
  have hl : ltL l l' = Op.bytesLess s.toList s'.toList := by rw [← hs, ← hs', ltL_eq, ByteArray.toList_eq, ByteArray.toList_eq]
  rw [he, hl]
  cases g
  ·rw [bif_false, bif_eq]
   by_cases h : Bool.or (Op.bytesLess s.toList s'.toList) (s.toList == s'.toList) = true
   ·exact ⟨.str l, .string s, if_pos h, fun w => by simp only [Bool.false_eq_true, if_false, Builtin.min2, Op.stringOp, Sem.run_bind, Sem.run_pure, Result.andThen_ok, asBool]; rw [if_pos h], .str _ _ hs⟩
   ·exact ⟨.str l', .string s', if_neg h, fun w => by simp only [Bool.false_eq_true, if_false, Builtin.min2, Op.stringOp, Sem.run_bind, Sem.run_pure, Result.andThen_ok, asBool]; rw [if_neg h], .str _ _ hs'⟩
  ·rw [bif_true, bif_eq]
   by_cases h : (Bool.not (Op.bytesLess s.toList s'.toList)) = true
   ·exact ⟨.str l, .string s, if_pos h, fun w => by simp only [if_true, Builtin.max2, Op.stringOp, Sem.run_bind, Sem.run_pure, Result.andThen_ok, asBool]; rw [if_pos h], .str _ _ hs⟩
   ·exact ⟨.str l', .string s', if_neg h, fun w => by simp only [if_true, Builtin.max2, Op.stringOp, Sem.run_bind, Sem.run_pure, Result.andThen_ok, asBool]; rw [if_neg h], .str _ _ hs'⟩
noncomputable def mmR (g : Bool) (x y : X) (T : Tr AV) (H : Heap) : R1 := withX T x .fail fun v => withX T y .fail fun u => mm2 g v u .fail fun r => .val r H
theorem mm_sound (hw : WRel P φ H w) (g : Bool) {ts : Array TypeId} {ty : TypeId} {o1 o2 : Operand} {x y : X} (hx : cX o1 = some x) (hy : cX o2 = some y) (ht : TRelAt P φ T a.tmps (· ∈ tmpsOf [o1, o2])) (s : Sem Next)
  (hs : s = if g = true then (do return Next.value (← Builtin.max_ ts ty #[a.eval o1, a.eval o2])) else (do return Next.value (← Builtin.min_ ts ty #[a.eval o1, a.eval o2]))) :
  Ran0 P φ H w s (mmR g x y T H) := by
 unfold mmR
 rcases withX_eq T x R1.fail _ with ⟨_, e'⟩ | ⟨v, hv, e'⟩ <;> rw [e'] <;> clear e'
 ·exact .fail
 rcases withX_eq T y R1.fail _ with ⟨_, e'⟩ | ⟨q, hq, e'⟩ <;> rw [e'] <;> clear e'
 ·exact .fail
 have hv' := evX_sound (sub2a ht) hx hv
 have hq' := evX_sound (sub2b ht) hy hq
 rcases mm2_sound hv' hq' g R1.fail (fun r => .val r H) with e' | ⟨r, r', e', hr, hrel⟩ <;> rw [e']
 ·exact .fail
 refine .pure hw ?_ hrel
 subst hs
 have := hr w
 cases g
 ·simp only [Bool.false_eq_true, if_false] at this ⊢
  exact run_v (by simp [Builtin.min_, this])
 ·simp only [if_true] at this ⊢
  exact run_v (by simp [Builtin.max_, this])
end Go.Ev
set_option linter.all false
namespace Go.Ev
variable {P : Program} {φ : Phi} {H : Heap} {w u : World} {T : Tr AV} {a : Act}
def pureRun (P : Program) {α : Type} : Sem α → Option α
 | .pure a => some a
 | .program k => pureRun P (k P)
 | .mark _ k => pureRun P k
 | _ => none
theorem pureRun_sound {α : Type} : ∀ (s : Sem α) (x : α), pureRun P s = some x → ∀ w, s.run P w = .ok x w
 | .pure a, x, h, w => by simp only [pureRun, Option.some.injEq] at h; subst h; rfl
 | .program k, x, h, w => by simp only [pureRun] at h; exact pureRun_sound (k P) x h w
 | .mark m k, x, h, w => by simp only [pureRun] at h; exact pureRun_sound k x h w
 | .load .., x, h, w => by simp [pureRun] at h
 | .store .., x, h, w => by simp [pureRun] at h
 | .new .., x, h, w => by simp [pureRun] at h
 | .shape .., x, h, w => by simp [pureRun] at h
 | .freeze .., x, h, w => by simp [pureRun] at h
 | .frozen .., x, h, w => by simp [pureRun] at h
 | .getObj .., x, h, w => by simp [pureRun] at h
 | .setObj .., x, h, w => by simp [pureRun] at h
 | .choose .., x, h, w => by simp [pureRun] at h
 | .sys .., x, h, w => by simp [pureRun] at h
 | .halt .., x, h, w => by simp [pureRun] at h
def toV1 (P : Program) : AV → Option Value
 | .bool b => some (.bool b)
 | .int k n => some (.int k n)
 | .str l => some (.string ⟨(l.map UInt8.ofNat).toArray⟩)
 | .nilp => some (.pointer none)
 | .nils => some (.slice none 0 0)
 | .nilf => some .nilFunc
 | .nili => some .nilIface
 | .typ t => some (typeHandle P t)
 | _ => none
def toV1s (P : Program) : List AV → Option (List Value)
 | [] => some []
 | v :: l => (toV1 P v).bind fun x => (toV1s P l).map fun r => x :: r
def toV (P : Program) : AV → Option Value
 | .agg l => (toV1s P l).map fun l => .agg l.toArray
 | .iface t (.agg l) => (toV1s P l).map fun l => .iface t (.agg l.toArray)
 | .iface t v => (toV1 P v).map (.iface t)
 | v => toV1 P v
def toVs (P : Program) : List AV → Option (List Value)
 | [] => some []
 | v :: l => (toV P v).bind fun x => (toVs P l).map fun r => x :: r
theorem bytes_back (s : ByteArray) : (⟨((s.data.toList.map (·.toNat)).map UInt8.ofNat).toArray⟩ : ByteArray) = s := by
 cases s with
 | mk d =>
  congr 1
  apply Array.ext'
  simp only [List.map_map]
  have : (UInt8.ofNat ∘ fun x : UInt8 => x.toNat) = id := by funext b; simp
  rw [this]; simp
theorem toV1_sound {v : AV} {v' x : Value} (h : VRel P φ v v') (hx : toV1 P v = some x) : x = v' := by
 cases h <;> simp only [toV1, Option.some.injEq] at hx <;> first
  | exact hx.symm
  | (cases hx; done)
  | (rename_i l s hs; subst hs; rw [← hx]; congr 1; exact bytes_back s)
theorem toV1s_sound : ∀ {l : List AV} {l' x : List Value}, VRels P φ l l' → toV1s P l = some x → x = l'
 | _, _, x, .nil, h => by simp only [toV1s, Option.some.injEq] at h; exact h.symm
 | _, _, x, .cons v l v' l' hv hl, h => by
  simp only [toV1s] at h
  cases h1 : toV1 P v with
  | none => simp [h1] at h
  | some y =>
   cases h2 : toV1s P l with
   | none => simp [h1, h2] at h
   | some r =>
    simp [h1, h2] at h
    subst h
    rw [toV1_sound hv h1, toV1s_sound hl h2]
theorem toV_sound {v : AV} {v' x : Value} (h : VRel P φ v v') (hx : toV P v = some x) : x = v' := by
 unfold toV at hx
 split at hx
 ·simp only [Option.map_eq_some_iff] at hx
  obtain ⟨r, h3, rfl⟩ := hx
  cases h with
  | agg l c h1 h2 => rw [toV1s_sound h1 h3]
 ·simp only [Option.map_eq_some_iff] at hx
  obtain ⟨r, h3, rfl⟩ := hx
  cases h with
  | iface t v v' h =>
   cases h with
   | agg l c h1 h2 => rw [toV1s_sound h1 h3]
 ·simp only [Option.map_eq_some_iff] at hx
  obtain ⟨r, h3, rfl⟩ := hx
  cases h with
  | iface t v v' h => rw [toV1_sound h h3]
 ·exact toV1_sound h hx
theorem toVs_sound : ∀ {l : List AV} {l' x : List Value}, VRels P φ l l' → toVs P l = some x → x = l'
 | _, _, x, .nil, h => by simp only [toVs, Option.some.injEq] at h; exact h.symm
 | _, _, x, .cons v l v' l' hv hl, h => by
  simp only [toVs] at h
  cases h1 : toV P v with
  | none => simp [h1] at h
  | some y =>
   cases h2 : toVs P l with
   | none => simp [h1, h2] at h
   | some r =>
    simp [h1, h2] at h
    subst h
    rw [toV_sound hv h1, toVs_sound hl h2]
def fromV1 (P : Program) (v : Value) : Option AV := match v with
 | .pointer (some ⟨b, t, none⟩) => if b = P.globals.size then some (.typ t) else none
 | v => ofScalar v
def fromV1s (P : Program) : List Value → Option (List AV)
 | [] => some []
 | v :: l => (fromV1 P v).bind fun x => (fromV1s P l).map fun r => x :: r
def fromV (P : Program) : Value → Option AV
 | .iface t (.agg c) => (fromV1s P c.toList).map fun l => .iface t (.agg l)
 | .iface t v => (fromV1 P v).map (.iface t)
 | v => fromV1 P v
theorem fromV1_sound {v : Value} {x : AV} (h : fromV1 P v = some x) : VRel P φ x v ∧ v.oneCell' = true := by
 unfold fromV1 at h
 split at h
 ·split at h
  ·rename_i hb; subst hb; cases h; exact ⟨.typ _, rfl⟩
  ·cases h
 ·exact ofScalar_sound h
theorem fromV1s_sound : ∀ {l : List Value} {x : List AV}, fromV1s P l = some x → VRels P φ x l ∧ ∀ v ∈ l, v.oneCell' = true
 | [], _, h => by cases h; exact ⟨.nil, by simp⟩
 | v :: l, x, h => by
  simp only [fromV1s] at h
  cases h1 : fromV1 P v with
  | none => simp [h1] at h
  | some y =>
   cases h2 : fromV1s P l with
   | none => simp [h1, h2] at h
   | some r =>
    simp [h1, h2] at h
    subst h
    have a := fromV1_sound (P := P) (φ := φ) h1
    have b := fromV1s_sound h2
    exact ⟨.cons _ _ _ _ a.1 b.1, by simpa using ⟨a.2, b.2⟩⟩
theorem fromV_sound {v : Value} {x : AV} (h : fromV P v = some x) : VRel P φ x v := by
 unfold fromV at h
 split at h
 ·cases h1 : fromV1s P _ with
  | none => rw [h1] at h; cases h
  | some r => rw [h1] at h; cases h; have := fromV1s_sound (P := P) (φ := φ) h1; exact .iface _ _ _ (.agg _ _ this.1 this.2)
 ·cases h1 : fromV1 P _ with
  | none => rw [h1] at h; cases h
  | some r => rw [h1] at h; cases h; exact .iface _ _ _ (fromV1_sound h1).1
 ·exact (fromV1_sound h).1
theorem ovl_typed : Extern.allTypedRows.lookup "slices.overlaps" = some Extern.SlicesOverlaps.overlaps := by kernel_rfl
theorem ovl_generic : Extern.allGenericRows.lookup "slices.overlaps" = none := by kernel_rfl
theorem ovl_next : Extern.allNextRows.lookup "slices.overlaps" = none := by kernel_rfl
def elemOfS (P : Program) (t : TypeId) : Option TypeId := match P.underlying t with
 | some (.slice e) => some e
 | _ => none
def ovlOf (P : Program) (f : FuncId) : Option Nat := (P.funcs[f]?).bind fun fn =>
 if fn.origin = "slices.overlaps" ∧ fn.body.isNone = true ∧ (fn.name == "runtime.NumGoroutine") = false ∧ (Extern.allNextRows.lookup fn.name).isNone = true ∧ (Extern.allGenericRows.lookup fn.name).isNone = true ∧ (Extern.allTypedRows.lookup fn.name).isNone = true ∧ (Extern.allRows.lookup fn.name).isNone = true then
  (fn.params[0]?).bind fun t => (elemOfS P t).bind fun e => szT P e else none
theorem run_overlaps {f : FuncId} {n : Nat} (h : ovlOf P f = some n) : ∃ t e fn, P.funcs[f]? = some fn ∧ fn.params[0]? = some t ∧ P.underlying t = some (.slice e) ∧ szT P e = some n ∧
  ∀ (args : Array Value) (w u : World) (v : Value), (Extern.SlicesOverlaps.overlaps fn.params fn.resultTypes args).run P w = .ok v u → (callFunc f args).run P w = .ok (.value v) u := by
 unfold ovlOf at h
 cases hf : P.funcs[f]? with
 | none => rw [hf] at h; cases h
 | some fn =>
  rw [hf] at h
  simp only [Option.bind_some] at h
  split at h
  case isFalse => cases h
  rename_i hc
  obtain ⟨ho, hb, hng, h1, h2, h3, h4⟩ := hc
  cases hp : fn.params[0]? with
  | none => rw [hp] at h; cases h
  | some t =>
   rw [hp] at h
   simp only [Option.bind_some] at h
   cases he : elemOfS P t with
   | none => rw [he] at h; cases h
   | some e =>
    rw [he] at h
    have hu : P.underlying t = some (.slice e) := by unfold elemOfS at he; split at he <;> cases he; assumption
    refine ⟨t, e, fn, rfl, hp, hu, h, fun args w u v hr => ?_⟩
    have hn : Extern.findNext fn = none := by
     unfold Extern.findNext
     simp only [Option.isNone_iff_eq_none] at h1
     simp [h1, ho, ovl_next]
    have hfind : Extern.find fn = some (Extern.SlicesOverlaps.overlaps fn.params fn.resultTypes) := by
     unfold Extern.find
     simp only [Option.isNone_iff_eq_none] at h2 h3 h4
     simp [h2, h3, h4, ho, ovl_typed, ovl_generic]
    have hb' : fn.body = none := by simpa using hb
    have hng' : ¬ fn.name = "runtime.NumGoroutine" := by simpa using hng
    simp [callFunc, hf, hng', hb', hn, hfind, hr]
theorem ovl_match {motive : Array Value → Sort _} (a b : Option Addr) (la lb c c' : Nat) (h1 : (a : Option Addr) → (la cap : Nat) → (b : Option Addr) → (lb cap_1 : Nat) → motive #[Value.slice a la cap, Value.slice b lb cap_1]) (h2 : (x : Array Value) → motive x) :
  Extern.SlicesOverlaps.overlaps.match_4 motive #[Value.slice a la c, Value.slice b lb c'] h1 h2 = h1 a la c b lb c' := rfl
noncomputable def ovlC (n : Nat) (args : List AV) (H : Heap) : R1 :=
 List.rec (motive := fun _ => R1) .fail (fun v r _ => List.rec (motive := fun _ => R1) .fail (fun u r2 _ => List.rec (motive := fun _ => R1)
  (asSliceC v .fail .fail fun k off len es _ _ => asSliceC u .fail .fail fun k' off' len' es' _ _ =>
   bif' (bif' (Nat.beq len 0) true (Nat.beq len' 0)) (.val (.bool false) H)
    (bif' (k.beq k') (bif' (Nat.beq n 0) .fail (fB (Bool.and (Nat.blt off (off' + len' * n)) (Nat.blt off' (off + len * n))) fun b => .val (.bool b) H))
     (blkC H k .fail fun wr es _ => bif' (Bool.and wr (Bool.not (Nat.beq es 1))) (blkC H k' .fail fun _ _ _ => bif' (Nat.beq n 0) .fail (bif' (Nat.beq es' 0) .fail (.val (.bool false) H))) .fail)))
  (fun _ _ _ => .fail) r2) r) args
theorem ovlC_sound (hw : WRel P φ H w) {f : FuncId} {n : Nat} (hn : ovlOf P f = some n) {args : List AV} {args' : Array Value} (hv : VRels P φ args args'.toList) : Ran P φ H w (callFunc f args') (ovlC n args H) := by
 obtain ⟨t, e, fn, hf, hp, hu, hsz, hrun⟩ := run_overlaps hn
 have hae : args' = args'.toList.toArray := by simp
 rw [hae]
 generalize args'.toList = l at hv
 cases hv with
 | nil => exact .fail
 | cons v r v' r' hv hr =>
 cases hr with
 | nil => exact .fail
 | cons u r2 u' r2' hu' hr2 =>
 cases hr2 with
 | cons _ _ _ _ _ _ => exact .fail
 | nil =>
 cases hv <;> try exact .fail
 ·rename_i k off len es ex cap at_ c hk hx hc hl hlen
  cases hu' <;> try exact .fail
  ·rename_i k' off' len' es' ex' cap' at' c' hk' hx' hc' hl' hlen'
   show Ran P φ H w _ (bif' (bif' (Nat.beq len 0) true (Nat.beq len' 0)) (.val (.bool false) H)
    (bif' (k.beq k') (bif' (Nat.beq n 0) .fail (fB (Bool.and (Nat.blt off (off' + len' * n)) (Nat.blt off' (off + len * n))) fun b => .val (.bool b) H))
     (blkC H k .fail fun wr es _ => bif' (Bool.and wr (Bool.not (Nat.beq es 1))) (blkC H k' .fail fun _ _ _ => bif' (Nat.beq n 0) .fail (bif' (Nat.beq es' 0) .fail (.val (.bool false) H))) .fail)))
   by_cases h0 : bif' (Nat.beq len 0) true (Nat.beq len' 0) = true
   ·rw [h0, bif_true]
    have h0' : len = 0 ∨ len' = 0 := by
     rw [bif_eq] at h0
     split at h0
     ·left; exact Nat.eq_of_beq_eq_true (by assumption)
     ·right; exact Nat.eq_of_beq_eq_true h0
    refine .pure hw (hrun _ _ _ (.bool false) ?_) (.bool false)
    show (Extern.SlicesOverlaps.overlaps fn.params fn.resultTypes #[_, _]).run P w = _
    unfold Extern.SlicesOverlaps.overlaps
    rw [ovl_match]
    rcases h0' with h | h <;> simp [hp, run_underlying hu, run_sizeOf' hsz, h]
   rw [eq_false_of_ne_true h0, bif_false]
   have h0' : len ≠ 0 ∧ len' ≠ 0 := by
    rw [bif_eq] at h0
    refine ⟨fun e => ?_, fun e => ?_⟩ <;> subst e <;> apply h0
    ·rfl
    ·split <;> rfl
   by_cases hkk : k.beq k' = true
   ·rw [hkk, bif_true]
    have := (K.beq_iff _ _).1 hkk; subst this
    rw [hk] at hk'; cases hk'
    by_cases hn0 : Nat.beq n 0 = true
    ·rw [hn0]; exact .fail
    rw [eq_false_of_ne_true hn0, bif_false, fB_eq]
    have hn0' : n ≠ 0 := fun e => hn0 (by rw [e]; rfl)
    refine .pure hw (hrun _ _ _ (.bool _) ?_) (.bool _)
    show (Extern.SlicesOverlaps.overlaps fn.params fn.resultTypes #[_, _]).run P w = _
    unfold Extern.SlicesOverlaps.overlaps
    rw [ovl_match]
    simp only [hp, Sem.run_bind, Result.andThen_ok, run_underlying hu, run_sizeOf' hsz, h0'.1, h0'.2, hn0', or_self, if_false, bne_self_eq_false, Bool.false_and, Bool.false_eq_true, beq_self_eq_true, Bool.true_and, Sem.run_pure]
    simp
    rw [Bool.eq_iff_iff]
    simp only [Bool.and_eq_true, decide_eq_true_eq, Nat.blt_eq]
    omega
   rw [eq_false_of_ne_true hkk, bif_false]
   have hne : k ≠ k' := fun e => hkk ((K.beq_iff _ _).2 e)
   rcases blkC_eq H k R1.fail (fun wr es _ => bif' (Bool.and wr (Bool.not (Nat.beq es 1))) (blkC H k' .fail fun _ _ _ => bif' (Nat.beq n 0) .fail (bif' (Nat.beq es' 0) .fail (.val (.bool false) H))) .fail) with e1 | ⟨wr, es1, rows, hg, e1⟩ <;> rw [e1] <;> clear e1
   ·exact .fail
   by_cases hwe : Bool.and wr (Bool.not (Nat.beq es1 1)) = true
   case neg => rw [eq_false_of_ne_true hwe]; exact .fail
   rw [hwe, bif_true]
   simp only [Bool.and_eq_true, Bool.not_eq_true'] at hwe
   obtain ⟨rfl, hes1⟩ := hwe
   have hes1 : es1 ≠ 1 := fun e => by subst e; cases hes1
   rcases blkC_eq H k' R1.fail (fun _ _ _ => bif' (Nat.beq n 0) .fail (bif' (Nat.beq es' 0) .fail (.val (.bool false) H))) with e1 | ⟨wr', es2, rows', hg', e1⟩ <;> rw [e1] <;> clear e1
   ·exact .fail
   by_cases hn0 : Nat.beq n 0 = true
   ·rw [hn0]; exact .fail
   rw [eq_false_of_ne_true hn0, bif_false]
   by_cases he0 : Nat.beq es' 0 = true
   ·rw [he0]; exact .fail
   rw [eq_false_of_ne_true he0, bif_false]
   have hn0' : n ≠ 0 := fun e => hn0 (by rw [e]; rfl)
   have he0' : es' ≠ 0 := fun e => he0 (by rw [e]; rfl)
   have hb : at_.b ≠ at'.b := fun e => hw.inj k k' _ _ at_ at' hne hg hg' hk hk' trivial trivial e rfl
   obtain ⟨_, _, pre, vs, post, e1, lo, hi, g1, g2, g3, g4, g5, g6⟩ := hw.blk k _ at_ hg hk
   obtain ⟨_, _, pre', vs', post', e1', lo', hi', g1', g2', g3', g4', g5', g6'⟩ := hw.blk k' _ at' hg' hk'
   have hfz : ∀ o, w.frozen? ⟨at_.b, o, none⟩ = false := by
    intro o
    have : hi ≤ lo := (g4 rfl).resolve_right fun h => hes1 h.2
    simp only [World.frozen?, g1]
    rw [Bool.and_eq_false_iff]
    by_cases h : lo ≤ o
    ·right; simp; omega
    ·left; simpa using h
   have hlen0 : (pre' ++ vs' ++ post').toArray.size ≠ 0 := by
    simp only [List.size_toArray]
    rw [g3']
    have : 1 * 1 ≤ c' * es' := Nat.mul_le_mul (by omega) (by omega)
    omega
   have hs1 : w.shape? at_.b = some (e1, (pre ++ vs ++ post).toArray.size) := by simp only [World.shape?, g1]
   have hs2 : w.shape? at'.b = some (e1', (pre' ++ vs' ++ post').toArray.size) := by simp only [World.shape?, g1']
   refine .pure hw (hrun _ _ _ (.bool false) ?_) (.bool false)
   show (Extern.SlicesOverlaps.overlaps fn.params fn.resultTypes #[_, _]).run P w = _
   unfold Extern.SlicesOverlaps.overlaps
   rw [ovl_match]
   have hv1 : (noView ⟨at_.b, at_.o + off, none⟩).run P w = .ok () w := by simp [noView, viewAt, hs1]
   have hv2 : (noView ⟨at'.b, at'.o + off', none⟩).run P w = .ok () w := by simp [noView, viewAt, hs2]
   have hst1 : (stringish ⟨at_.b, at_.o + off, none⟩).run P w = .ok false w := by simp [stringish, hfz, hs1]
   have hst2 : ∃ b, (stringish ⟨at'.b, at'.o + off', none⟩).run P w = .ok b w := by
    unfold stringish
    cases hf2 : w.frozen? ⟨at'.b, at'.o + off', none⟩
    ·exact ⟨_, by simp [hf2, hs2]; rfl⟩
    ·exact ⟨true, by simp [hf2]⟩
   obtain ⟨b2, hst2⟩ := hst2
   have hmb : (mayBeOne ⟨at_.b, at_.o + off, none⟩ ⟨at'.b, at'.o + off', none⟩).run P w = .ok false w := by
    unfold mayBeOne
    simp only [Sem.run_bind, hst1, hst2, Result.andThen_ok, run_shape, hs1, hs2, Sem.run_pure, Bool.false_and, Bool.false_or]
    congr 1
    generalize (pre' ++ vs' ++ post').toArray.size = z at hlen0
    cases z with
    | zero => exact absurd rfl hlen0
    | succ z => simp
   have hbb : (at_.b == at'.b) = false := by simpa using hb
   simp [hp, run_underlying hu, run_sizeOf' hsz, h0'.1, h0'.2, hn0', hb, hfz, hv1, hv2, hmb]
  ·rename_i k' off' es' ex' at' x' hk'
   have e1 : ovlC n [AV.slice k off len es ex cap, AV.slice k' off' 0 es' ex' 0] H = bif' (bif' (Nat.beq len 0) true true) (.val (.bool false) H) (bif' (k.beq k') (bif' (Nat.beq n 0) .fail (fB (Bool.and (Nat.blt off (off' + 0 * n)) (Nat.blt off' (off + len * n))) fun b => .val (.bool b) H))
     (blkC H k .fail fun wr es _ => bif' (Bool.and wr (Bool.not (Nat.beq es 1))) (blkC H k' .fail fun _ _ _ => bif' (Nat.beq n 0) .fail (bif' (Nat.beq es' 0) .fail (.val (.bool false) H))) .fail)) := rfl
   have e2 : bif' (Nat.beq len 0) true true = true := by rw [bif_eq]; split <;> rfl
   rw [e1, e2, bif_true]
   refine .pure hw (hrun _ _ _ (.bool false) ?_) (.bool false)
   show (Extern.SlicesOverlaps.overlaps fn.params fn.resultTypes #[_, _]).run P w = _
   unfold Extern.SlicesOverlaps.overlaps
   rw [ovl_match]
   simp [hp, run_underlying hu, run_sizeOf' hsz]
 ·cases hu' <;> try exact .fail
  ·refine .pure hw (hrun _ _ _ (.bool false) ?_) (.bool false)
   show (Extern.SlicesOverlaps.overlaps fn.params fn.resultTypes #[_, _]).run P w = _
   unfold Extern.SlicesOverlaps.overlaps
   rw [ovl_match]
   simp [hp, run_underlying hu, run_sizeOf' hsz]
  ·refine .pure hw (hrun _ _ _ (.bool false) ?_) (.bool false)
   show (Extern.SlicesOverlaps.overlaps fn.params fn.resultTypes #[_, _]).run P w = _
   unfold Extern.SlicesOverlaps.overlaps
   rw [ovl_match]
   simp [hp, run_underlying hu, run_sizeOf' hsz]
def callOk (P : Program) (f : FuncId) : Bool := match P.funcs[f]? with
 | some fn => fn.body.isSome && !(fn.name == "runtime.NumGoroutine")
 | none => false
theorem run_callFunc {f : FuncId} (h : callOk P f = true) (args : Array Value) (w : World) : (callFunc f args).run P w = .ok (.enter f args) w := by
 unfold callOk at h
 split at h
 ·rename_i fn hf
  simp only [Bool.and_eq_true, Bool.not_eq_true'] at h
  obtain ⟨h1, h2⟩ := h
  have h3 : fn.body.isNone = false := by cases hb : fn.body <;> simp_all
  simp only [callFunc, Sem.run_bind, run_program, Result.andThen_ok, hf, h2, Bool.false_eq_true, if_false, h3, Sem.run_pure]
 ·cases h
def extV (P : Program) (f : FuncId) (args : List Value) : Option AV := match pureRun P (callFunc f args.toArray) with
 | some (.value v) => fromV P v
 | _ => none
noncomputable def callC (P : Program) (f : FuncId) (args : List AV) (H : Heap) : R1 :=
 bif' (callOk P f) (.call f args) (Option.rec (motive := fun _ => R1) (Option.rec (motive := fun _ => R1) .fail (fun l => Option.rec (motive := fun _ => R1) .fail (fun v => .val v H) (extV P f l)) (toVs P args)) (fun n => ovlC n args H) (ovlOf P f))
theorem callC_sound (hw : WRel P φ H w) (f : FuncId) {args : List AV} {args' : Array Value} (hv : VRels P φ args args'.toList) : Ran P φ H w (callFunc f args') (callC P f args H) := by
 unfold callC
 by_cases hc : callOk P f = true
 ·rw [hc, bif_true]
  exact .call f args args' (run_callFunc hc _ _) hv
 ·rw [eq_false_of_ne_true hc, bif_false]
  cases hov : ovlOf P f with
  | some n => exact ovlC_sound hw hov hv
  | none =>
  show Ran P φ H w _ (Option.rec (motive := fun _ => R1) .fail (fun l => Option.rec (motive := fun _ => R1) .fail (fun v => .val v H) (extV P f l)) (toVs P args))
  cases h1 : toVs P args with
  | none => exact .fail
  | some l =>
   show Ran P φ H w _ (Option.rec (motive := fun _ => R1) .fail (fun v => .val v H) (extV P f l))
   cases h2 : extV P f l with
   | none => exact .fail
   | some v =>
    have hl := toVs_sound hv h1
    subst hl
    unfold extV at h2
    split at h2
    ·rename_i x hx
     exact .pure hw (pureRun_sound _ _ (by simpa using hx) w) (fromV_sound h2)
    ·cases h2
noncomputable def callS (P : Program) (f : FuncId) (xs : List X) (T : Tr AV) (H : Heap) : R1 := withXs T xs .fail fun vs => callC P f vs H
theorem callS_sound (hw : WRel P φ H w) {c : Call} {f : FuncId} (hc : c.callee = .value (.func f)) {xs : List X} (hx : cXs c.args.toList = some xs) (ht : TRelAt P φ T a.tmps (· ∈ tmpsOf c.args.toList)) (ty : TypeId) :
  Ran P φ H w (do let d ← resolve a.eval c ty; invoke d.target d.args) (callS P f xs T H) := by
 unfold callS
 rcases withXs_sound (P := P) (φ := φ) (a := a) R1.fail (fun vs => callC P f vs H) ht hx with e | ⟨vs, e, hv⟩ <;> rw [e]
 ·exact .fail
 have h := callC_sound hw f (args := vs) (args' := c.args.map a.eval) (by simpa using hv)
 have hr : (do let d ← resolve a.eval c ty; invoke d.target d.args : Sem Next) = callFunc f (c.args.map a.eval) := by
  simp only [resolve, hc, Act.eval, Deferred.ofValue, pure_bind, invoke, Array.append_empty, Array.empty_append]
 rw [hr]; exact h
noncomputable def callX (P : Program) (x : X) (xs : List X) (T : Tr AV) (H : Heap) : R1 := withX T x .fail fun v => withXs T xs .fail fun vs => asFnC v .fail fun fn first caps =>
 Fn.rec (motive := fun _ => R1) (fun f => appC first vs fun l => appC l caps fun l => callC P f l H) (fun _ => .fail) (fun _ _ => .fail) (fun _ _ _ _ => .fail) (fun _ => .fail) fn
theorem callX_sound (hw : WRel P φ H w) {c : Call} {o : Operand} (hc : c.callee = .value o) {x : X} (hx : cX o = some x) {xs : List X} (hxs : cXs c.args.toList = some xs) (ht : TRelAt P φ T a.tmps (· ∈ tmpsOf (o :: c.args.toList))) (ty : TypeId) :
  Ran P φ H w (do let d ← resolve a.eval c ty; invoke d.target d.args) (callX P x xs T H) := by
 unfold callX
 rcases withX_eq T x R1.fail _ with ⟨_, e⟩ | ⟨v, hv, e⟩ <;> rw [e] <;> clear e
 ·exact .fail
 have hv' := evX_sound (tm3a ht) hx hv
 rcases withXs_sound (P := P) (φ := φ) (a := a) R1.fail (fun vs => asFnC v .fail fun fn first caps =>
  Fn.rec (motive := fun _ => R1) (fun f => appC first vs fun l => appC l caps fun l => callC P f l H) (fun _ => .fail) (fun _ _ => .fail) (fun _ _ _ _ => .fail) (fun _ => .fail) fn) (tm3b ht (fun _ h => h)) hxs with e | ⟨vs, e, hvs⟩ <;> rw [e] <;> clear e
 ·exact .fail
 generalize hy : a.eval o = y at *
 cases hv' <;> try exact .fail
 rename_i fn first caps first' caps' h1 h2
 cases fn <;> try exact .fail
 rename_i f
 show Ran P φ H w _ (appC first vs fun l => appC l caps fun l => callC P f l H)
 rw [appC_eq, appC_eq]
 have h := callC_sound hw f (args := first ++ vs ++ caps) (args' := first' ++ c.args.map a.eval ++ caps') (by
  simp only [Array.toList_append, Array.toList_map]
  exact (h1.append hvs).append h2)
 have hr : (do let d ← resolve a.eval c ty; invoke d.target d.args : Sem Next) = callFunc f (first' ++ c.args.map a.eval ++ caps') := by
  simp only [resolve, hc, hy, Deferred.ofValue, pure_bind, invoke]
 rw [hr]; exact h
def methF (P : Program) (t : TypeId) (name : String) : Option FuncId := match P.info? t with
 | some i => match i.methods.find? (·.name == name) with
  | some m => if m.path.isEmpty then (match m.func, P.underlying t with
    | some (f, true), some (.pointer _) => some f
    | some (f, false), some (.pointer _) => none
    | some (f, false), some _ => some f
    | _, _ => none) else none
  | none => none
 | none => none
noncomputable def callM (P : Program) (x : X) (name : String) (xs : List X) (T : Tr AV) (H : Heap) : R1 := withX T x .fail fun v => withXs T xs .fail fun vs => asIfaceC v .fail (fun t u =>
 Option.rec (motive := fun _ => R1) .fail (fun f => callC P f (u :: vs) H) (methF P t name)) .fail
theorem run_method {t : TypeId} {name : String} {f : FuncId} (h : methF P t name = some f) (n : Nat) (v : Value) (w : World) : (method (n + 1) t v name).run P w = .ok (f, v) w := by
 unfold methF at h
 split at h
 case h_2 => cases h
 rename_i i hi
 split at h
 case h_2 => cases h
 rename_i m hm
 split at h
 case isFalse => cases h
 rename_i hp
 have hpath : m.path.toList = [] := by
  cases hq : m.path with
  | mk l => rw [hq] at hp; simpa using hp
 split at h
 ·rename_i _ e hf hu
  cases h
  unfold method
  simp only [Sem.run_bind, typeInfo_of hi, Result.andThen_ok, hm, hpath, follow, Sem.run_pure, hf, receiverAt, run_underlying hu, Place.get]
 ·cases h
 ·rename_i f' d hne hf hu
  cases h
  unfold method
  simp only [Sem.run_bind, typeInfo_of hi, Result.andThen_ok, hm, hpath, follow, Sem.run_pure, hf, receiverAt, run_underlying hu]
  cases d <;> first
   | exact absurd rfl (hne _)
   | simp [Place.get]
 ·cases h
theorem callM_sound (hw : WRel P φ H w) {c : Call} {o : Operand} {name : String} (hc : c.callee = .invoke o name) {x : X} (hx : cX o = some x) {xs : List X} (hxs : cXs c.args.toList = some xs) (ht : TRelAt P φ T a.tmps (· ∈ tmpsOf (o :: c.args.toList))) (ty : TypeId) :
  Ran P φ H w (do let d ← resolve a.eval c ty; invoke d.target d.args) (callM P x name xs T H) := by
 unfold callM
 rcases withX_eq T x R1.fail _ with ⟨_, e⟩ | ⟨v, hv, e⟩ <;> rw [e] <;> clear e
 ·exact .fail
 have hv' := evX_sound (tm3a ht) hx hv
 rcases withXs_sound (P := P) (φ := φ) (a := a) R1.fail (fun vs => asIfaceC v .fail (fun t u =>
  Option.rec (motive := fun _ => R1) .fail (fun f => callC P f (u :: vs) H) (methF P t name)) .fail) (tm3b ht (fun _ h => h)) hxs with e | ⟨vs, e, hvs⟩ <;> rw [e] <;> clear e
 ·exact .fail
 generalize hy : a.eval o = y at *
 cases hv' <;> try exact .fail
 rename_i t q q' hq
 show Ran P φ H w _ (Option.rec (motive := fun _ => R1) .fail (fun f => callC P f (q :: vs) H) (methF P t name))
 cases hm : methF P t name with
 | none => exact .fail
 | some f =>
  show Ran P φ H w _ (callC P f (q :: vs) H)
  have h := callC_sound hw f (args := q :: vs) (args' := #[q'] ++ c.args.map a.eval) (by
   simp only [Array.toList_append, Array.toList_map, List.singleton_append]
   exact .cons _ _ _ _ hq hvs)
  have hr : (do let d ← resolve a.eval c ty; invoke d.target d.args : Sem Next).run P w = (callFunc f (#[q'] ++ c.args.map a.eval)).run P w := by
   have hinv : invoke (.fn (.method name) #[]) (#[Value.iface t q'] ++ c.args.map a.eval) = callMethod (.iface t q') name (c.args.map a.eval) := by
    have hex : (#[Value.iface t q'] ++ c.args.map a.eval).extract 1 (#[Value.iface t q'] ++ c.args.map a.eval).size = c.args.map a.eval := by
     apply Array.ext'; simp [List.take_of_length_le]
    have h0 : (#[Value.iface t q'] ++ c.args.map a.eval)[0]? = some (.iface t q') := by rw [Array.getElem?_append_left (by simp)]; rfl
    unfold invoke
    simp only [h0, hex]
   simp only [resolve, hc, hy, pure_bind, hinv, callMethod, Sem.run_bind, run_program, Result.andThen_ok]
   have hmm := run_method hm (P.types.size + 99) q' w
   have : P.types.size + Made.depth = P.types.size + 99 + 1 := rfl
   rw [this, hmm]
   rfl
  generalize callC P f (q :: vs) H = r at *
  cases h with
  | fail => exact .fail
  | val v G nx v' u ψ hr' hn hw' he hv => exact .val v G nx v' u ψ (hr.trans hr') hn hw' he hv
  | call g args args' hr' ha => exact .call g args args' (hr.trans hr') ha
end Go.Ev
