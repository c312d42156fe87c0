/- append and copy. -/
import Derived.Test.YtiadcabmonbgiaaEvM
namespace Go.Ev
variable {P : Program} {φ : Phi} {H : Heap} {w u : World} {T : Tr AV} {a : Act}

def isSl (P : Program) (t : TypeId) : Bool := match P.underlying t with
  | some (.slice _) => true
  | _ => false
theorem isSl_of {t : TypeId} (h : isSl P t = true) : ∃ d, P.underlying t = some (.slice d) := by
  unfold isSl at h
  split at h
  · exact ⟨_, by assumption⟩
  · cases h

/-- what is appended: how much, and its cells -/
structure Src (P : Program) (w : World) (esz n : Nat) (x : Value) (vs : List Value) : Prop where
  len : (Builtin.lenOf x).run P w = .ok n w
  cells : ∀ m, (Builtin.firstCells esz n x).run P { w with drawn := m } = .ok vs.toArray { w with drawn := m }

theorem run_append_fits {sT xT e ty : TypeId} (hu : P.underlying sT = some (.slice e)) (hx : isSl P xT = true) {esz : Nat} (hn : szT P e = some esz) {n len cap : Nat} {b o : Nat} {x : Value} {vs : List Value} (hs : Src P w esz n x vs) (hfit : len + n ≤ cap)
    (hst : (storeCells ⟨b, o + len * esz, none⟩ vs).run P w = .ok () u) :
    (Builtin.append_ #[sT, xT] ty #[.slice (some ⟨b, o, none⟩) len cap, x]).run P w = .ok (.slice (some ⟨b, o, none⟩) (len + n) cap) u := by
  obtain ⟨d, hd⟩ := isSl_of hx
  unfold Builtin.append_
  simp [run_underlying hu, run_underlying hd, run_sizeOf' hn, hs.len, hs.cells w.drawn, hfit, add_at, hst]

theorem run_append_nil {sT xT e ty : TypeId} (hu : P.underlying sT = some (.slice e)) (hx : isSl P xT = true) {esz : Nat} (hn : szT P e = some esz) {x : Value} {vs : List Value} (hs : Src P w esz 0 x vs) :
    (Builtin.append_ #[sT, xT] ty #[.slice none 0 0, x]).run P w = .ok (.slice none 0 0) w := by
  obtain ⟨d, hd⟩ := isSl_of hx
  unfold Builtin.append_
  simp [run_underlying hu, run_underlying hd, run_sizeOf' hn, hs.len, hs.cells w.drawn]

theorem run_append_grows {sT xT e ty : TypeId} (hu : P.underlying sT = some (.slice e)) (hx : isSl P xT = true) {i : TypeInfo} (hi : P.info? e = some i) {z : Value} (hz : i.zero = some z) (hb : i.bytes ≠ 0) {n len cap : Nat} {base : Option Addr} {x : Value} {v1 vs : List Value}
    (hs : Src P w i.size n x vs) (hfit : ¬ len + n ≤ cap) (hbig : Builtin.nextslicecap (len + n) cap * i.bytes ≤ 281474976710656) (h1 : (Builtin.firstCells i.size len (.slice base len cap)).run P { w with drawn := w.drawn + 1 } = .ok v1.toArray { w with drawn := w.drawn + 1 }) :
    ∃ m, len + n ≤ m ∧ (Builtin.append_ #[sT, xT] ty #[.slice base len cap, x]).run P w =
      .ok (.slice (some ⟨w.heap.size, 0, none⟩) (len + n) m) { w with heap := w.heap.push (.cells (v1 ++ vs ++ (Builtin.zeroCells z.cells (m - (len + n))).toList).toArray e), drawn := w.drawn + 1 } := by
  obtain ⟨d, hd⟩ := isSl_of hx
  have hsz : szT P e = some i.size := by simp [szT, hi]
  refine ⟨(Question.appendCap (len + n) cap e).cut (w.tape w.drawn (.appendCap (len + n) cap e)), ?_, ?_⟩
  · show len + n ≤ len + n + _; omega
  unfold Builtin.append_
  have hbig' : ¬ (Builtin.nextslicecap (len + n) cap * i.bytes > 2 ^ 48) := by
    have : (2 : Nat) ^ 48 = 281474976710656 := by decide
    omega
  have hng : ¬ (((len + n : Nat) : Int) > IntKind.i64.max ∧ ((false : Bool) = true ∨ i.bytes = 0)) := by
    intro h; rcases h.2 with h | h
    · cases h
    · exact hb h
  simp only [List.getElem?_toArray, List.getElem?_cons_zero, List.getElem?_cons_succ, Sem.run_bind, run_underlying hu, Result.andThen_ok, run_sizeOf' hsz, run_underlying hd, Sem.run_pure, hs.len, Bool.false_eq_true, if_false]
  rw [if_neg hfit]
  rw [Sem.run_bind, typeInfo_of hi, Result.andThen_ok]
  rw [if_neg (by intro h; rcases h.2 with h | h; exact h; exact hb h), Sem.run_bind, typeInfo_of hi, Result.andThen_ok]
  rw [if_neg hbig']
  simp only [Sem.run_bind, run_choose, Question.forced, Bool.false_eq_true, if_false, Result.andThen_ok, typeInfo_of hi, run_askRoom, h1, Bool.not_false, if_true, hs.cells, zeroValue, hz, Sem.run_pure, newRow, run_newObj]
  have harr : v1.toArray ++ vs.toArray ++ Builtin.zeroCells z.cells ((Question.appendCap (len + n) cap e).cut (w.tape w.drawn (Question.appendCap (len + n) cap e)) - (len + n)) =
      (v1 ++ vs ++ (Builtin.zeroCells z.cells ((Question.appendCap (len + n) cap e).cut (w.tape w.drawn (Question.appendCap (len + n) cap e)) - (len + n))).toList).toArray := by
    apply Array.ext'; simp
  rw [harr]

/-! ### append, here -/
/-- the pieces that a slice holds, its length; none of a nil one -/
noncomputable def srcC {β : Type} (H : Heap) (esz : Nat) (v : AV) (f : β) (c : Nat → List (List AV) → β) : β :=
  asSliceC v f (c 0 []) fun k off len es _ _ => bif' (Nat.beq len 0) (c 0 []) (bif' (Nat.beq es esz) (rowsC H k off len esz f fun _ _ r => c len r) f)

theorem srcC_sound {β : Type} (hw : WRel P φ H w) {esz : Nat} {v : AV} {v' : Value} (hv : VRel P φ v v') (f : β) (c : Nat → List (List AV) → β) :
    srcC H esz v f c = f ∨ ∃ n r vs, srcC H esz v f c = c n r ∧ r.length = n ∧ (∀ x ∈ r, x.length = esz) ∧ VRels P φ r.flatten vs ∧ (∀ x ∈ vs, x.oneCell' = true) ∧ Src P w esz n v' vs := by
  unfold srcC
  cases hv <;> try exact .inl rfl
  · exact .inr ⟨0, [], [], rfl, rfl, by simp, by simpa using VRels.nil, by simp, rfl, fun m => rfl⟩
  · rename_i k off len es ex cap at_ c' hk hx hc hl hn
    show bif' (Nat.beq len 0) (c 0 []) (bif' (Nat.beq es esz) (rowsC H k off len esz f fun _ _ r => c len r) f) = f ∨ _
    by_cases h0 : Nat.beq len 0 = true
    · rw [Nat.beq_eq] at h0; subst h0
      exact .inr ⟨0, [], [], rfl, rfl, by simp, by simpa using VRels.nil, by simp, rfl, fun m => by simp [Builtin.firstCells, loadCells, loadCellsFrom]⟩
    · rw [eq_false_of_ne_true h0, bif_false]
      by_cases he : Nat.beq es esz = true
      case neg => left; rw [eq_false_of_ne_true he]; rfl
      rw [he, bif_true]
      rcases rowsC_sound hw hk off len esz f (fun _ _ r => c len r) with e | ⟨wr, rows, r, vs, e, hg, hr, hoff, hle, hrl, hlen, hvs, ho, hload, hvl, hpos⟩
      · exact .inl e
      · right
        refine ⟨len, r, vs, ?_, hrl, hlen, hvs, ho, rfl, hload⟩
        show bif' (Nat.beq len 0) (c 0 []) (bif' (Nat.beq es esz) (rowsC H k off len esz f fun _ _ r => c len r) f) = _
        rw [eq_false_of_ne_true h0, bif_false, he, bif_true, e]
  · exact .inr ⟨0, [], [], rfl, rfl, by simp, by simpa using VRels.nil, by simp, rfl, fun m => by simp [Builtin.firstCells, loadCells, loadCellsFrom]⟩

/-- how much a growing slice may ask for -/
noncomputable def okBig (need bytes : Nat) : Bool := Nat.ble ((2 * need + 192) * bytes) 281474976710656

noncomputable def appR (esz bytes : Nat) (x y : X) (T : Tr AV) (H : Heap) : R1 := withX T x .fail fun v => withX T y .fail fun u => srcC H esz u .fail fun n r2 =>
  bif' (Nat.beq n 0) (asSliceC v .fail (.val .nils H) fun k off len es ex cap => .val (.slice k off len es ex cap) H)
    (asSliceC v .fail (bif' (okBig n bytes) (H.addC (.row true esz r2) fun k G => .val (.slice k 0 n esz false n) G) .fail)
      fun k off len es ex cap => bif' (Nat.beq es esz) (fN (len + n) fun need => rowsC H k off len esz .fail fun wr rows r1 =>
        bif' (Nat.ble need cap)
          (bif' wr (putC .fail r2 (off / esz + len) rows fun rows => H.setC k (.row true esz rows) fun G => .val (.slice k off need es ex cap) G) .fail)
          (bif' (okBig need bytes) (appC r1 r2 fun r => fB ex fun ex => bif' ex (H.addC (.row true esz r) fun k G => .val (.slice k 0 need esz false need) G)
            (bif' wr (H.setC k .dead fun H => H.addC (.row true esz r) fun k G => .val (.slice k 0 need esz false need) G) .fail)) .fail)) .fail)

theorem zero_ones {c : Array Value} (hp : 0 < c.size) (h : ∀ v ∈ c.toList, v.oneCell' = true) (m : Nat) : ∀ v ∈ (Builtin.zeroCells c m).toList, v.oneCell' = true := by
  intro v hv
  simp only [Builtin.zeroCells, Array.toList_map, List.mem_map] at hv
  obtain ⟨i, _, rfl⟩ := hv
  apply h
  have : i % c.size < c.size := Nat.mod_lt _ hp
  rw [getElem!_pos c (i % c.size) this]
  simp

theorem app_sound (hw : WRel P φ H w) {sT xT e ty : TypeId} (hu : P.underlying sT = some (.slice e)) (hxT : isSl P xT = true) {i : TypeInfo} (hi : P.info? e = some i) {z : Value} (hz : i.zero = some z) (hb : i.bytes ≠ 0)
    (hzs : z.cells.size = i.size) (hzo : ∀ v ∈ z.cells.toList, v.oneCell' = true) (hpos : 0 < i.size) {o1 o2 : Operand} {x y : X} (hx : cX o1 = some x) (hy : cX o2 = some y) (ht : TRelAt P φ T a.tmps (· ∈ tmpsOf [o1, o2])) :
    Ran P φ H w (do return Next.value (← Builtin.append_ #[sT, xT] ty #[a.eval o1, a.eval o2])) (appR i.size i.bytes x y T H) := by
  have hsz : szT P e = some i.size := by simp [szT, hi]
  have hpow : (2 : Nat) ^ 48 = 281474976710656 := by decide
  unfold appR
  rcases withX_eq T x R1.fail _ with ⟨_, e'⟩ | ⟨v, hv, e'⟩ <;> rw [e'] <;> clear e'
  · exact .fail
  rcases withX_eq T y R1.fail _ with ⟨_, e'⟩ | ⟨q, hq, e'⟩ <;> rw [e'] <;> clear e'
  · exact .fail
  have hv' := evX_sound (sub2a ht) hx hv
  have hq' := evX_sound (sub2b ht) hy hq
  rcases srcC_sound hw hq' R1.fail _ with e' | ⟨n, r2, v2, e', hr2, hl2, hv2, ho2, hsrc⟩ <;> rw [e'] <;> clear e'
  · exact .fail
  generalize a.eval o1 = y1 at *
  generalize a.eval o2 = y2 at *
  by_cases h0 : Nat.beq n 0 = true
  · rw [h0, bif_true]
    rw [Nat.beq_eq] at h0
    subst h0
    have hv20 : v2 = [] := by
      have : r2 = [] := List.eq_nil_of_length_eq_zero hr2
      subst this; cases hv2; rfl
    subst hv20
    cases hv' <;> try exact .fail
    · exact .pure hw (run_v (run_append_nil hu hxT hsz hsrc)) .nils
    · rename_i k off len es ex cap at_ c hk hxc hc hl hn
      refine .pure hw (run_v (run_append_fits hu hxT hsz hsrc (by omega) (u := w) rfl)) ?_
      rw [Nat.add_zero]; exact .slice _ _ _ _ _ _ at_ _ hk hxc hc hl hn
    · rename_i k off es ex at_ x' hk
      refine .pure hw (run_v (run_append_fits hu hxT hsz hsrc (by omega) (u := w) rfl)) ?_
      exact .sliceE _ _ _ _ at_ _ hk
  rw [eq_false_of_ne_true h0, bif_false]
  have hn0 : n ≠ 0 := by intro h; apply h0; rw [h]; rfl
  have hzz : ∀ m, ∀ v ∈ (Builtin.zeroCells z.cells m).toList, v.oneCell' = true := zero_ones (by omega) hzo
  have hzl : ∀ m, (Builtin.zeroCells z.cells m).toList.length = m * i.size := by intro m; simp [Builtin.zeroCells, hzs]
  have hlv2 : v2.length = n * i.size := by rw [← hv2.length, flatten_length_of i.size r2 hl2, hr2]
  cases hv' <;> try exact .fail
  · -- nil
    show Ran P φ H w _ (bif' (okBig n i.bytes) (H.addC (.row true i.size r2) fun k G => .val (.slice k 0 n i.size false n) G) .fail)
    by_cases hbig : okBig n i.bytes = true
    case neg => rw [eq_false_of_ne_true hbig]; exact .fail
    rw [hbig, bif_true, Heap.addC_eq]
    have hbig := Nat.le_of_ble_eq_true hbig
    obtain ⟨m, hm, hr⟩ := run_append_grows hu hxT hi hz hb (len := 0) (cap := 0) (base := none) (v1 := []) (ty := ty) hsrc (by omega)
      (Nat.le_trans (Nat.mul_le_mul_right _ (nextcap_le _ _ (by omega))) (by rw [Nat.zero_add]; exact hbig)) rfl
    have hg := grow_new hw hpos (r1 := []) (v1 := []) (by simp) hl2 VRels.nil hv2 (by simp) ho2 (Builtin.zeroCells z.cells (m - (0 + n))).toList (hzz _) e (w.drawn + 1)
    rw [Nat.zero_add] at hr hg
    refine .val _ _ _ _ _ _ (run_v hr) (.inl rfl) hg.1 hg.2 ?_
    refine .slice _ 0 n i.size false n ⟨w.heap.size, 0, _⟩ m (Phi.put_same _ _ _) (by simp) (by omega) (Nat.le_refl _) ?_
    simp only [List.nil_append, List.length_append, hlv2, hzl]
    rw [← Nat.add_mul]
    have : n + (m - n) = m := by omega
    rw [this]; simp
  · rename_i k off len es ex cap at_ c hk hxc hc hl hlen
    show Ran P φ H w _ (bif' (Nat.beq es i.size) (fN (len + n) fun need => rowsC H k off len i.size .fail fun wr rows r1 =>
        bif' (Nat.ble need cap)
          (bif' wr (putC .fail r2 (off / i.size + len) rows fun rows => H.setC k (.row true i.size rows) fun G => .val (.slice k off need es ex cap) G) .fail)
          (bif' (okBig need i.bytes) (appC r1 r2 fun r => fB ex fun ex => bif' ex (H.addC (.row true i.size r) fun k G => .val (.slice k 0 need i.size false need) G)
            (bif' wr (H.setC k .dead fun H => H.addC (.row true i.size r) fun k G => .val (.slice k 0 need i.size false need) G) .fail)) .fail)) .fail)
    by_cases hes : Nat.beq es i.size = true
    case neg => rw [eq_false_of_ne_true hes]; exact .fail
    rw [hes, bif_true, fN_eq]
    rw [Nat.beq_eq] at hes
    subst hes
    rcases rowsC_sound hw hk off len i.size R1.fail (fun wr rows r1 =>
        bif' (Nat.ble (len + n) cap)
          (bif' wr (putC .fail r2 (off / i.size + len) rows fun rows => H.setC k (.row true i.size rows) fun G => .val (.slice k off (len + n) i.size ex cap) G) .fail)
          (bif' (okBig (len + n) i.bytes) (appC r1 r2 fun r => fB ex fun ex => bif' ex (H.addC (.row true i.size r) fun k G => .val (.slice k 0 (len + n) i.size false (len + n)) G)
            (bif' wr (H.setC k .dead fun H => H.addC (.row true i.size r) fun k G => .val (.slice k 0 (len + n) i.size false (len + n)) G) .fail)) .fail)) with e' | ⟨wr, rows, r1, v1, e', hg, hr1, hoff, hle, hrl, hl1, hv1, ho1, hload, hvl, _⟩ <;> rw [e'] <;> clear e'
    · exact .fail
    have hdm : off / i.size * i.size = off := by have := Nat.div_add_mod off i.size; rw [hoff, Nat.add_zero, Nat.mul_comm] at this; exact this
    by_cases hfit : Nat.ble (len + n) cap = true
    · -- there is room that is known
      rw [hfit, bif_true]
      have hfit := Nat.le_of_ble_eq_true hfit
      cases wr
      · exact .fail
      rw [bif_true, putC_eq]
      split
      case isFalse => exact .fail
      rename_i hput
      rw [Heap.setC_eq]
      have hrel := hw.blk k _ at_ hg hk
      have hwr := put_rows i.size rows r2 (off / i.size + len) hrel.len hl2 hput
      obtain ⟨u, hst, hw', he⟩ := storeCells_sound hw hg hk hv2 ho2 hwr
      have hadd : (off / i.size + len) * i.size = off + len * i.size := by rw [Nat.add_mul, hdm]
      rw [hadd, ← Nat.add_assoc] at hst
      refine .val _ _ _ _ _ _ (run_v (run_append_fits hu hxT hsz hsrc (by omega) hst)) (.inl rfl) hw' he ?_
      exact .slice _ _ _ _ _ _ at_ _ hk hxc hc hfit hlen
    · rw [eq_false_of_ne_true hfit, bif_false]
      have hfit : ¬ len + n ≤ cap := fun h => hfit (Nat.ble_eq_true_of_le h)
      by_cases hbig : okBig (len + n) i.bytes = true
      case neg => rw [eq_false_of_ne_true hbig]; exact .fail
      rw [hbig, bif_true, appC_eq, fB_eq]
      have hbig := Nat.le_of_ble_eq_true hbig
      -- the model lays it anew
      have anew : ¬ len + n ≤ c → ∃ m, len + n ≤ m ∧ Ran P φ H w (do return Next.value (← Builtin.append_ #[sT, xT] ty #[.slice (some ⟨at_.b, at_.o + off, none⟩) len c, y2])) (H.addC (.row true i.size (r1 ++ r2)) fun k G => .val (.slice k 0 (len + n) i.size false (len + n)) G) ∧
          (Builtin.append_ #[sT, xT] ty #[.slice (some ⟨at_.b, at_.o + off, none⟩) len c, y2]).run P w = .ok (.slice (some ⟨w.heap.size, 0, none⟩) (len + n) m) { w with heap := w.heap.push (.cells (v1 ++ v2 ++ (Builtin.zeroCells z.cells (m - (len + n))).toList).toArray e), drawn := w.drawn + 1 } := by
        intro hnc
        obtain ⟨m, hm, hr⟩ := run_append_grows hu hxT hi hz hb (len := len) (cap := c) (base := some ⟨at_.b, at_.o + off, none⟩) (v1 := v1) (ty := ty) hsrc hnc
          (Nat.le_trans (Nat.mul_le_mul_right _ (nextcap_le _ _ (by omega))) hbig) (hload (w.drawn + 1))
        refine ⟨m, hm, ?_, hr⟩
        have hg' := grow_new hw hpos hl1 hl2 hv1 hv2 ho1 ho2 (Builtin.zeroCells z.cells (m - (len + n))).toList (hzz _) e (w.drawn + 1)
        rw [Heap.addC_eq]
        refine .val _ _ _ _ _ _ (run_v hr) (.inl rfl) hg'.1 hg'.2 ?_
        refine .slice _ 0 (len + n) i.size false (len + n) ⟨w.heap.size, 0, _⟩ m (Phi.put_same _ _ _) (by simp) (by omega) (Nat.le_refl _) ?_
        simp only [List.length_append, hvl, hlv2, hzl]
        rw [← Nat.add_mul, ← Nat.add_mul]
        have : len + n + (m - (len + n)) = m := by omega
        rw [this]; simp
      cases ex
      · rw [bif_false]
        cases wr
        · exact .fail
        rw [bif_true, Heap.setC_eq, Heap.addC_eq]
        by_cases hcc : len + n ≤ c
        · -- the model has room
          obtain ⟨u, hst, hw', he⟩ := grow_there hw hk hg hr1 hoff hrl hl1 hl2 hr2 hv2 ho2 (by
            have := Nat.mul_le_mul_right i.size hcc
            omega) hle
          refine .val _ _ _ _ _ _ (run_v (run_append_fits hu hxT hsz hsrc hcc hst)) (.inl rfl) hw' he ?_
          refine .slice _ 0 (len + n) i.size false (len + n) ⟨at_.b, at_.o + off, at_.n⟩ c (Phi.put_same _ _ _) (by simp) hcc (Nat.le_refl _) ?_
          simpa using hlen
        · obtain ⟨m, hm, _, hr⟩ := anew hcc
          have hkn : k.toNat < H.nx.toNat := hw.dom k at_ hk
          obtain ⟨hwd, hed⟩ := dead_sound hw k hkn (by rw [hk]; simp)
          have hg' := grow_new hwd hpos hl1 hl2 hv1 hv2 ho1 ho2 (Builtin.zeroCells z.cells (m - (len + n))).toList (hzz _) e (w.drawn + 1)
          refine .val _ _ _ _ _ _ (run_v hr) (.inl rfl) hg'.1 (hed.trans hg'.2) ?_
          refine .slice _ 0 (len + n) i.size false (len + n) ⟨w.heap.size, 0, _⟩ m (Phi.put_same _ _ _) (by simp) (by omega) (Nat.le_refl _) ?_
          simp only [List.length_append, hvl, hlv2, hzl]
          rw [← Nat.add_mul, ← Nat.add_mul]
          have : len + n + (m - (len + n)) = m := by omega
          rw [this]; simp
      · rw [bif_true]
        have := hxc rfl
        subst this
        obtain ⟨_, _, h, _⟩ := anew hfit
        exact h
  · -- an empty one, wherever it lies
    rename_i k off es ex at_ x' hk
    show Ran P φ H w _ (bif' (Nat.beq es i.size) (fN (0 + n) fun need => rowsC H k off 0 i.size .fail fun wr rows r1 =>
        bif' (Nat.ble need 0)
          (bif' wr (putC .fail r2 (off / i.size + 0) rows fun rows => H.setC k (.row true i.size rows) fun G => .val (.slice k off need es ex 0) G) .fail)
          (bif' (okBig need i.bytes) (appC r1 r2 fun r => fB ex fun ex => bif' ex (H.addC (.row true i.size r) fun k G => .val (.slice k 0 need i.size false need) G)
            (bif' wr (H.setC k .dead fun H => H.addC (.row true i.size r) fun k G => .val (.slice k 0 need i.size false need) G) .fail)) .fail)) .fail)
    by_cases hes : Nat.beq es i.size = true
    case neg => rw [eq_false_of_ne_true hes]; exact .fail
    rw [hes, bif_true, fN_eq, Nat.zero_add]
    rcases rowsC_sound hw hk off 0 i.size R1.fail (fun wr rows r1 =>
        bif' (Nat.ble n 0)
          (bif' wr (putC .fail r2 (off / i.size + 0) rows fun rows => H.setC k (.row true i.size rows) fun G => .val (.slice k off n es ex 0) G) .fail)
          (bif' (okBig n i.bytes) (appC r1 r2 fun r => fB ex fun ex => bif' ex (H.addC (.row true i.size r) fun k G => .val (.slice k 0 n i.size false n) G)
            (bif' wr (H.setC k .dead fun H => H.addC (.row true i.size r) fun k G => .val (.slice k 0 n i.size false n) G) .fail)) .fail)) with e' | ⟨wr, rows, r1, v1, e', hg, hr1, hoff, hle, hrl, hl1, hv1, ho1, hload, hvl, _⟩ <;> rw [e'] <;> clear e'
    · exact .fail
    have : r1 = [] := List.eq_nil_of_length_eq_zero hrl
    subst this
    have hnf : Nat.ble n 0 = false := by cases n with | zero => exact absurd rfl hn0 | succ n => rfl
    rw [hnf, bif_false]
    by_cases hbig : okBig n i.bytes = true
    case neg => rw [eq_false_of_ne_true hbig]; exact .fail
    rw [hbig, bif_true, appC_eq, fB_eq, List.nil_append]
    have hbig := Nat.le_of_ble_eq_true hbig
    obtain ⟨m, hm, hr⟩ := run_append_grows hu hxT hi hz hb (len := 0) (cap := 0) (base := some ⟨at_.b, x', none⟩) (v1 := []) (ty := ty) hsrc (by omega)
      (Nat.le_trans (Nat.mul_le_mul_right _ (nextcap_le _ _ (by omega))) (by rw [Nat.zero_add]; exact hbig)) (by simp [Builtin.firstCells, loadCells, loadCellsFrom])
    rw [Nat.zero_add] at hr
    have last : ∀ (ψ : Phi) (G : Heap), Ext φ H w ψ G w → WRel P ψ G w → (∀ k a, φ k = some a → ψ k = some a) → Ran P φ H w (do return Next.value (← Builtin.append_ #[sT, xT] ty #[.slice (some ⟨at_.b, x', none⟩) 0 0, y2])) (G.addC (.row true i.size r2) fun k G => .val (.slice k 0 n i.size false n) G) := by
      intro ψ G hext hwr hle
      have hg' := grow_new hwr hpos (r1 := []) (v1 := []) (by simp) hl2 VRels.nil (hv2.mono hle) (by simp) ho2 (Builtin.zeroCells z.cells (m - n)).toList (hzz _) e (w.drawn + 1)
      rw [Heap.addC_eq]
      refine .val _ _ _ _ _ _ (run_v hr) (.inl rfl) hg'.1 (hext.trans hg'.2) ?_
      refine .slice _ 0 n i.size false n ⟨w.heap.size, 0, _⟩ m (Phi.put_same _ _ _) (by simp) (by omega) (Nat.le_refl _) ?_
      simp only [List.nil_append, List.length_append, hlv2, hzl]
      rw [← Nat.add_mul]
      have : n + (m - n) = m := by omega
      rw [this]; simp
    cases ex
    · rw [bif_false]
      cases wr
      · exact .fail
      rw [bif_true, Heap.setC_eq]
      obtain ⟨hwd, hed⟩ := dead_sound hw k (hw.dom k at_ hk) (by rw [hk]; simp)
      exact last _ _ hed hwd (fun _ _ h => h)
    · exact last _ _ (Ext.refl _ _ _) hw (fun _ _ h => h)

/-! ### append of make: so many zero elements -/
def isInt (P : Program) (t : TypeId) : Bool := match P.underlying t with
  | some (.int _) => true
  | _ => false
theorem isInt_of {t : TypeId} (h : isInt P t = true) : ∃ k, P.underlying t = some (.int k) := by
  unfold isInt at h
  split at h
  · exact ⟨_, by assumption⟩
  · cases h

theorem run_appz_grows {sT xT e ty : TypeId} (hu : P.underlying sT = some (.slice e)) (hx : isInt P xT = true) {i : TypeInfo} (hi : P.info? e = some i) {z : Value} (hz : i.zero = some z) (hb : i.bytes ≠ 0) (hs : 0 < i.size) {n len cap : Nat} (hn : 0 < n) {base : Option Addr} {v1 : List Value}
    (hfit : ¬ len + n ≤ cap) (hbig : Builtin.nextslicecap (len + n) cap * i.bytes ≤ 281474976710656) (hbn : (len + n) * i.bytes ≤ 281474976710656) (h1 : (Builtin.firstCells i.size len (.slice base len cap)).run P { w with drawn := w.drawn + 1 } = .ok v1.toArray { w with drawn := w.drawn + 1 }) :
    ∃ m, len + n ≤ m ∧ (Builtin.append_ #[sT, xT] ty #[.slice base len cap, .int .i64 n]).run P w =
      .ok (.slice (some ⟨w.heap.size, 0, none⟩) (len + n) m) { w with heap := w.heap.push (.cells (v1 ++ (Builtin.zeroCells z.cells n).toList ++ (Builtin.zeroCells z.cells (m - (len + n))).toList).toArray e), drawn := w.drawn + 1 } := by
  obtain ⟨d, hd⟩ := isInt_of hx
  have hsz : szT P e = some i.size := by simp [szT, hi]
  have hpow : (2 : Nat) ^ 48 = 281474976710656 := by decide
  have hpow' : (2 : Int) ^ 48 = 281474976710656 := by decide
  have hle : len + n ≤ 281474976710656 := Nat.le_trans (Nat.le_mul_of_pos_right _ (Nat.pos_of_ne_zero hb)) hbn
  have hnb : n * i.bytes ≤ 281474976710656 := Nat.le_trans (Nat.mul_le_mul_right _ (Nat.le_add_left _ _)) hbn
  refine ⟨(Question.appendCap (len + n) cap e).cut (w.tape w.drawn (.appendCap (len + n) cap e)), ?_, ?_⟩
  · show len + n ≤ len + n + _; omega
  have hwrap : IntKind.i64.wrap (n : Int) = n := wrap_nat .i64 n (by simp only [mx]; omega)
  have hasi : ∀ w, (asIntOf (.int .i64 (n : Int))).run P w = .ok (.i64, (n : Int)) w := fun w => rfl
  unfold Builtin.append_
  have hbig' : ¬ (Builtin.nextslicecap (len + n) cap * i.bytes > 2 ^ 48) := by omega
  have hmax : ¬ ((len + n : Nat) : Int) > IntKind.i64.max := by
    have : IntKind.i64.max = 9223372036854775807 := by decide
    omega
  have hn0 : ¬ ((n : Int) < 0) := by omega
  have hnb' : ¬ ((n : Int) * (i.bytes : Int) > 2 ^ 48) := by
    rw [hpow']
    have h := Int.ofNat_le.2 hnb
    rw [Int.natCast_mul] at h
    omega
  have hnz : ¬ (n * i.size = 0) := by
    intro h
    rcases Nat.mul_eq_zero.1 h with h | h <;> omega
  simp only [List.getElem?_toArray, List.getElem?_cons_zero, List.getElem?_cons_succ, Sem.run_bind, run_underlying hu, Result.andThen_ok, run_sizeOf' hsz, run_underlying hd, Sem.run_pure, if_true, asInt, hasi, hwrap, hn0, if_false, typeInfo_of hi, hnb', Int.toNat_natCast]
  rw [if_neg hfit]
  rw [Sem.run_bind, typeInfo_of hi, Result.andThen_ok]
  rw [if_neg (show ¬ (((len + n : Nat) : Int) > IntKind.i64.max ∧ (True ∨ i.bytes = 0)) from fun h => hmax h.1), Sem.run_bind, typeInfo_of hi, Result.andThen_ok]
  rw [if_neg hbig']
  simp only [Sem.run_bind, run_choose, Question.forced, Bool.false_eq_true, if_false, Result.andThen_ok, typeInfo_of hi, run_askRoom, h1, Bool.not_true, hnz, zeroValue, hz, Sem.run_pure, newRow, run_newObj]
  have harr : v1.toArray ++ Builtin.zeroCells z.cells n ++ Builtin.zeroCells z.cells ((Question.appendCap (len + n) cap e).cut (w.tape w.drawn (Question.appendCap (len + n) cap e)) - (len + n)) =
      (v1 ++ (Builtin.zeroCells z.cells n).toList ++ (Builtin.zeroCells z.cells ((Question.appendCap (len + n) cap e).cut (w.tape w.drawn (Question.appendCap (len + n) cap e)) - (len + n))).toList).toArray := by
    apply Array.ext'; simp
  rw [harr]

noncomputable def apzR (esz bytes : Nat) (zero : List AV) (x y : X) (T : Tr AV) (H : Heap) : R1 := withX T x .fail fun v => withX T y .fail fun u => asIntC u .fail fun kd n => bif' (Nat.beq (kn kd) (kn .i64)) (Int.rec (motive := fun _ => R1) (fun n =>
  bif' (Nat.beq n 0) .fail
    (asSliceC v .fail (bif' (okBig n bytes) (H.addC (.row true esz (repL n zero)) fun k G => .val (.slice k 0 n esz false n) G) .fail)
      fun k off len es ex cap => bif' ex (bif' (Nat.beq es esz) (fN (len + n) fun need => rowsC H k off len esz .fail fun _ _ r1 =>
        bif' (Nat.ble need cap) .fail
          (bif' (okBig need bytes) (appC r1 (repL n zero) fun r => H.addC (.row true esz r) fun k G => .val (.slice k 0 need esz false need) G) .fail)) .fail) .fail)) (fun _ => .fail) n) .fail

theorem apz_sound (hw : WRel P φ H w) {sT xT e ty : TypeId} (hu : P.underlying sT = some (.slice e)) (hxT : isInt P xT = true) {i : TypeInfo} (hi : P.info? e = some i) {z : Value} (hz : i.zero = some z) (hb : i.bytes ≠ 0)
    (hzs : z.cells.size = i.size) (hzo : ∀ v ∈ z.cells.toList, v.oneCell' = true) (hpos : 0 < i.size) {zero : List AV} (hzl : ofScalars z.cells.toList = some zero) {o1 o2 : Operand} {x y : X} (hx : cX o1 = some x) (hy : cX o2 = some y) (ht : TRelAt P φ T a.tmps (· ∈ tmpsOf [o1, o2])) :
    Ran P φ H w (do return Next.value (← Builtin.append_ #[sT, xT] ty #[a.eval o1, a.eval o2])) (apzR i.size i.bytes zero x y T H) := by
  have hsz : szT P e = some i.size := by simp [szT, hi]
  have hpow : (2 : Nat) ^ 48 = 281474976710656 := by decide
  have hzz : ∀ m, ∀ v ∈ (Builtin.zeroCells z.cells m).toList, v.oneCell' = true := zero_ones (by omega) hzo
  have hzn : ∀ m, (Builtin.zeroCells z.cells m).toList.length = m * i.size := by intro m; simp [Builtin.zeroCells, hzs]
  have hzr := ofScalars_sound (P := P) (φ := φ) hzl
  have hzlen : zero.length = i.size := by have := hzr.1.length; simp at this; omega
  have hrep : ∀ n, VRels P φ (List.replicate n zero).flatten (Builtin.zeroCells z.cells n).toList := by
    intro n
    have : (Builtin.zeroCells z.cells n).toList = (List.replicate n z.cells.toList).flatten := range_rep z.cells (by omega) n
    rw [this]
    induction n with
    | zero => exact .nil
    | succ n ih => rw [List.replicate_succ, List.replicate_succ, List.flatten_cons, List.flatten_cons]; exact hzr.1.append (ih (range_rep z.cells (by omega) n))
  have hrl : ∀ n, ∀ x ∈ List.replicate n zero, x.length = i.size := fun n x hx => by rw [List.eq_of_mem_replicate hx]; exact hzlen
  unfold apzR
  rcases withX_eq T x R1.fail _ with ⟨_, e'⟩ | ⟨v, hv, e'⟩ <;> rw [e'] <;> clear e'
  · exact .fail
  rcases withX_eq T y R1.fail _ with ⟨_, e'⟩ | ⟨q, hq, e'⟩ <;> rw [e'] <;> clear e'
  · exact .fail
  have hv' := evX_sound (sub2a ht) hx hv
  have hq' := evX_sound (sub2b ht) hy hq
  generalize a.eval o1 = y1 at *
  generalize a.eval o2 = y2 at *
  cases hq' <;> try exact .fail
  rename_i kd n
  show Ran P φ H w _ (bif' (Nat.beq (kn kd) (kn .i64)) _ .fail)
  by_cases hkd : Nat.beq (kn kd) (kn .i64) = true
  case neg => rw [eq_false_of_ne_true hkd]; exact .fail
  rw [hkd, bif_true]
  have := kn_inj hkd; subst this
  cases n with
  | negSucc n => exact .fail
  | ofNat n =>
  show Ran P φ H w _ (bif' (Nat.beq n 0) .fail _)
  by_cases h0 : Nat.beq n 0 = true
  · rw [h0]; exact .fail
  rw [eq_false_of_ne_true h0, bif_false]
  have hn0 : 0 < n := by
    rcases Nat.eq_zero_or_pos n with h | h
    · subst h; exact absurd rfl h0
    · exact h
  rw [repL_eq]
  have hbn : ∀ need, okBig need i.bytes = true → need * i.bytes ≤ 281474976710656 := fun need h => by
    have := Nat.le_of_ble_eq_true h
    exact Nat.le_trans (Nat.mul_le_mul_right _ (by omega)) this
  cases hv' <;> try exact .fail
  · show Ran P φ H w _ (bif' (okBig n i.bytes) (H.addC (.row true i.size (List.replicate n zero)) fun k G => .val (.slice k 0 n i.size false n) G) .fail)
    by_cases hbig : okBig n i.bytes = true
    case neg => rw [eq_false_of_ne_true hbig]; exact .fail
    rw [hbig, bif_true, Heap.addC_eq]
    obtain ⟨m, hm, hr⟩ := run_appz_grows hu hxT hi hz hb hpos hn0 (len := 0) (cap := 0) (base := none) (v1 := []) (ty := ty) (w := w) (by omega)
      (Nat.le_trans (Nat.mul_le_mul_right _ (nextcap_le _ _ (by omega))) (by rw [Nat.zero_add]; exact Nat.le_of_ble_eq_true hbig)) (by rw [Nat.zero_add]; exact hbn _ hbig) rfl
    have hg := grow_new hw hpos (r1 := []) (v1 := []) (by simp) (hrl n) VRels.nil (hrep n) (by simp) (hzz n) (Builtin.zeroCells z.cells (m - (0 + n))).toList (hzz _) e (w.drawn + 1)
    rw [Nat.zero_add] at hr hg
    refine .val _ _ _ _ _ _ (run_v hr) (.inl rfl) hg.1 hg.2 ?_
    refine .slice _ 0 n i.size false n ⟨w.heap.size, 0, _⟩ m (Phi.put_same _ _ _) (by simp) (by omega) (Nat.le_refl _) ?_
    simp only [List.nil_append, List.length_append, hzn]
    rw [← Nat.add_mul]
    have : n + (m - n) = m := by omega
    rw [this]; simp
  · rename_i k off len es ex cap at_ c hk hxc hcc hl hlen
    show Ran P φ H w _ (bif' ex (bif' (Nat.beq es i.size) (fN (len + n) fun need => rowsC H k off len i.size .fail fun _ _ r1 =>
        bif' (Nat.ble need cap) .fail (bif' (okBig need i.bytes) (appC r1 (List.replicate n zero) fun r => H.addC (.row true i.size r) fun k G => .val (.slice k 0 need i.size false need) G) .fail)) .fail) .fail)
    cases ex
    · exact .fail
    have := hxc rfl; subst this
    rw [bif_true]
    by_cases he : Nat.beq es i.size = true
    case neg => rw [eq_false_of_ne_true he]; exact .fail
    rw [he, bif_true, fN_eq]
    rcases rowsC_sound hw hk off len i.size R1.fail (fun _ _ r1 => bif' (Nat.ble (len + n) cap) .fail (bif' (okBig (len + n) i.bytes) (appC r1 (List.replicate n zero) fun r => H.addC (.row true i.size r) fun k G => .val (.slice k 0 (len + n) i.size false (len + n)) G) .fail)) with e' | ⟨wr, rows, r1, v1, e', hg, hr1, hoff, hle, hrl1, hl1, hv1, ho1, hload, hvl, _⟩ <;> rw [e'] <;> clear e'
    · exact .fail
    by_cases hfit : Nat.ble (len + n) cap = true
    · rw [hfit]; exact .fail
    rw [eq_false_of_ne_true hfit, bif_false]
    have hfit : ¬ len + n ≤ cap := fun h => hfit (by rw [Nat.ble_eq]; exact h)
    by_cases hbig : okBig (len + n) i.bytes = true
    case neg => rw [eq_false_of_ne_true hbig]; exact .fail
    rw [hbig, bif_true, appC_eq, Heap.addC_eq]
    obtain ⟨m, hm, hr⟩ := run_appz_grows hu hxT hi hz hb hpos hn0 (len := len) (cap := cap) (base := some ⟨at_.b, at_.o + off, none⟩) (v1 := v1) (ty := ty) (w := w) hfit
      (Nat.le_trans (Nat.mul_le_mul_right _ (nextcap_le _ _ (by omega))) (Nat.le_of_ble_eq_true hbig)) (hbn _ hbig) (hload (w.drawn + 1))
    have hg' := grow_new hw hpos hl1 (hrl n) hv1 (hrep n) ho1 (hzz n) (Builtin.zeroCells z.cells (m - (len + n))).toList (hzz _) e (w.drawn + 1)
    refine .val _ _ _ _ _ _ (run_v hr) (.inl rfl) hg'.1 hg'.2 ?_
    refine .slice _ 0 (len + n) i.size false (len + n) ⟨w.heap.size, 0, _⟩ m (Phi.put_same _ _ _) (by simp) (by omega) (Nat.le_refl _) ?_
    simp only [List.length_append, hvl, hzn]
    rw [← Nat.add_mul, ← Nat.add_mul]
    have : len + n + (m - (len + n)) = m := by omega
    rw [this]; simp
  · rename_i k off es ex at_ x' hk
    show Ran P φ H w _ (bif' ex (bif' (Nat.beq es i.size) (fN (0 + n) fun need => rowsC H k off 0 i.size .fail fun _ _ r1 =>
        bif' (Nat.ble need 0) .fail (bif' (okBig need i.bytes) (appC r1 (List.replicate n zero) fun r => H.addC (.row true i.size r) fun k G => .val (.slice k 0 need i.size false need) G) .fail)) .fail) .fail)
    cases ex
    · exact .fail
    rw [bif_true]
    by_cases he : Nat.beq es i.size = true
    case neg => rw [eq_false_of_ne_true he]; exact .fail
    rw [he, bif_true, fN_eq, Nat.zero_add]
    rcases rowsC_sound hw hk off 0 i.size R1.fail (fun _ _ r1 => bif' (Nat.ble n 0) .fail (bif' (okBig n i.bytes) (appC r1 (List.replicate n zero) fun r => H.addC (.row true i.size r) fun k G => .val (.slice k 0 n i.size false n) G) .fail)) with e' | ⟨wr, rows, r1, v1, e', hg, hr1, hoff, hle, hrl1, hl1, hv1, ho1, hload, hvl, _⟩ <;> rw [e'] <;> clear e'
    · exact .fail
    have : r1 = [] := List.eq_nil_of_length_eq_zero hrl1
    subst this
    by_cases hfit : Nat.ble n 0 = true
    · rw [hfit]; exact .fail
    rw [eq_false_of_ne_true hfit, bif_false]
    by_cases hbig : okBig n i.bytes = true
    case neg => rw [eq_false_of_ne_true hbig]; exact .fail
    rw [hbig, bif_true, appC_eq, Heap.addC_eq, List.nil_append]
    obtain ⟨m, hm, hr⟩ := run_appz_grows hu hxT hi hz hb hpos hn0 (len := 0) (cap := 0) (base := some ⟨at_.b, x', none⟩) (v1 := []) (ty := ty) (w := w) (by omega)
      (Nat.le_trans (Nat.mul_le_mul_right _ (nextcap_le _ _ (by omega))) (by rw [Nat.zero_add]; exact Nat.le_of_ble_eq_true hbig)) (by rw [Nat.zero_add]; exact hbn _ hbig) (by simp [Builtin.firstCells, loadCells, loadCellsFrom])
    have hg := grow_new hw hpos (r1 := []) (v1 := []) (by simp) (hrl n) VRels.nil (hrep n) (by simp) (hzz n) (Builtin.zeroCells z.cells (m - (0 + n))).toList (hzz _) e (w.drawn + 1)
    rw [Nat.zero_add] at hr hg
    refine .val _ _ _ _ _ _ (run_v hr) (.inl rfl) hg.1 hg.2 ?_
    refine .slice _ 0 n i.size false n ⟨w.heap.size, 0, _⟩ m (Phi.put_same _ _ _) (by simp) (by omega) (Nat.le_refl _) ?_
    simp only [List.nil_append, List.length_append, hzn]
    rw [← Nat.add_mul]
    have : n + (m - n) = m := by omega
    rw [this]; simp

end Go.Ev
