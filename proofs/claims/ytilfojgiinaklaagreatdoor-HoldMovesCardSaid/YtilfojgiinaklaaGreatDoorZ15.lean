/- What is given to a law: opened into the evaluator's memory. -/
import Derived.Test.YtilfojgiinaklaaGreatDoorZ14
import Derived.Deep.Slices
set_option linter.all false
namespace Go.Ev
open Go.ChangeShapes Go.WideShapes Go.RowKit
variable {P : Program}
/-- kinds of cells -/
inductive PK where
  | str
  | int (k : IntKind)
  | bool
def PK.ty (P : Program) (t : TypeId) : PK → Prop
  | .str => P.underlying t = some .string
  | .int k => P.underlying t = some (.int k)
  | .bool => P.underlying t = some .bool
section
variable {HH : Type} {enc : TypeId × Value → HH} {w : World} {base : Nat} {sp : Nat → Bool} {held : Bool} {fuel : Nat} {t : TypeId} {cs : List Value} {x : DataW HH × List MemPlace}
end
/-- one more block that is only read -/
theorem WRel.arg {φ : Phi} {H : Heap} {w : World} (hw : WRel P φ H w) (hro : ∀ k b, H.get k = some b → ¬ b.mayWrite) {a : At} {b : Blk} (hb : BlkRel P φ w a b) (ha : a.b < w.heap.size) (hm : ¬ b.mayWrite) :
    WRel P (φ.put H.nx a) (H.add b) w ∧ (∀ k c, (H.add b).get k = some c → ¬ c.mayWrite) ∧ φ.le (φ.put H.nx a) := by
  have hnone := hw.nx_none
  have hle := Phi.put_le φ H.nx a hnone
  have hsucc : H.nx.toNat < (H.add b).nx.toNat := K.lt_succ _
  have hput : ∀ j x, j ≠ H.nx → φ.put H.nx a j = some x → φ j = some x := by
    intro j x hj hx
    unfold Phi.put at hx
    rwa [if_neg hj] at hx
  have hro' : ∀ k c, (H.add b).get k = some c → ¬ c.mayWrite := by
    intro k c hk
    rw [Heap.get_add] at hk
    split at hk
    · cases hk; exact hm
    · exact hro k c hk
  refine ⟨⟨⟨?_, ?_, ?_, ?_, ?_⟩, fun g v hm => ⟨(hw.rom g v hm).1, fun ⟨j, c, y, hj, hc, hy, e⟩ => hro' j c hj hc⟩⟩, hro', hle⟩
  · intro j x hx
    by_cases e : j = H.nx
    · subst e; exact hsucc
    · exact Nat.lt_trans (hw.dom j x (hput j x e hx)) hsucc
  · intro j c hj
    rw [Heap.get_add] at hj
    split at hj
    · rename_i e; subst e; exact hsucc
    · exact Nat.lt_trans (hw.top j c hj) hsucc
  · intro j c x hj hx
    rw [Heap.get_add] at hj
    split at hj
    · rename_i e; subst e
      cases hj
      rw [Phi.put_same] at hx; cases hx
      exact hb.mono hle
    · rename_i e
      exact (hw.blk j c x hj (hput j x (fun h => e h.symm) hx)).mono hle
  · intro i j c d x y _ hi _ _ _ _ _ _
    exact hro' i c hi
  · intro k x hx
    by_cases e : k = H.nx
    · subst e
      rw [Phi.put_same] at hx; cases hx
      exact ha
    · exact hw.size k x (hput k x e hx)
noncomputable def noHeap : Heap := .mk .z .lf
theorem noHeap_rel (w : World) (hr : ∀ g v, (g, v) ∈ romOf → w.cell? ⟨g, 0, none⟩ = some v) : WRel P (fun _ => none) noHeap w :=
  ⟨⟨fun k a h => (by cases h), fun k b h => (by cases k <;> cases h), fun k b a h => (by cases k <;> cases h), fun j k c d x y _ h => (by cases j <;> cases h), fun k a h => (by cases h)⟩, fun g v hm => ⟨hr g v hm, fun ⟨j, c, y, hj, _⟩ => by cases j <;> cases hj⟩⟩
theorem noHeap_ro : ∀ k b, noHeap.get k = some b → ¬ b.mayWrite := fun k b h => by cases k <;> cases h
end Go.Ev
/- A slice that is given to a law, opened. -/

set_option linter.all false
namespace Go.Ev
open Go.ChangeShapes Go.WideShapes Go.RowKit Go.Deep
variable {P : Program}
theorem vrels_flat {φ : Phi} {n : Nat} : ∀ {rows : List (List AV)} {vs : List Value}, (∀ r ∈ rows, r.length = n) → vs.length = rows.length * n → (∀ (i : Nat) (r : List AV), rows[i]? = some r → VRels P φ r ((vs.drop (i * n)).take n)) → VRels P φ rows.flatten vs
  | [], vs, _, hl, _ => by
    obtain rfl : vs = [] := List.length_eq_zero_iff.1 (by simpa using hl)
    exact .nil
  | r :: rows, vs, hr, hl, h => by
    have h0 := h 0 r rfl
    rw [Nat.zero_mul, List.drop_zero] at h0
    have ih := vrels_flat (rows := rows) (vs := vs.drop n) (fun x hx => hr x (by simp [hx])) (by rw [List.length_drop, hl, List.length_cons, Nat.add_mul, Nat.one_mul, Nat.add_sub_cancel]) (fun i x hx => by
      have := h (i + 1) x (by simpa using hx)
      rwa [show (i + 1) * n = n + i * n by rw [Nat.add_mul, Nat.one_mul, Nat.add_comm], ← List.drop_drop] at this)
    rw [List.flatten_cons, ← List.take_append_drop n vs]
    exact h0.append ih
theorem cells_at {W : World} {b o n : Nat} {cs : List Value} (h : W.cells? 0 ⟨b, o, none⟩ n = some cs) (hn : 0 < n) :
    ∃ c ty fr, W.heap[b]? = some (.cells c ty fr) ∧ o + n ≤ c.size ∧ (c.toList.drop o).take n = cs := by
  obtain ⟨_, hl, hc⟩ := World.cells?_some h
  have h0 := hc 0 hn
  rw [List.getElem?_eq_getElem (by omega)] at h0
  have key : ∀ i, (⟨b, o, none⟩ : Addr).add i = ⟨b, o + i, none⟩ := by
    intro i
    unfold Addr.add
    split
    · rename_i e; subst e; rfl
    · rfl
  rw [key] at h0
  unfold World.cell? at h0
  rcases hh : W.heap[b]? with _ | z
  · simp only [hh] at h0; cases h0
  · cases z with
    | cells c ty fr =>
      have hc' : ∀ i, i < n → c[o + i]? = cs[i]? := by
        intro i hi
        rw [← hc i hi, key]
        unfold World.cell?
        simp only [hh, Option.isSome_none, Bool.false_eq_true, if_false]
      have hlast := hc' (n - 1) (by omega)
      rw [List.getElem?_eq_getElem (by omega)] at hlast
      have hsz := (Array.getElem?_eq_some_iff.1 hlast).1
      refine ⟨c, ty, fr, rfl, by omega, ?_⟩
      apply List.ext_getElem?
      intro i
      rcases Nat.lt_or_ge i n with hi | hi
      · rw [List.getElem?_take_of_lt hi, List.getElem?_drop, Array.getElem?_toList, hc' i hi]
      · rw [List.getElem?_eq_none (by rw [List.length_take]; omega), List.getElem?_eq_none (by omega)]
    | _ => simp only [hh] at h0; cases h0
end Go.Ev
/- What is given to a law, opened: slices within structs within slices. -/

set_option linter.all false
namespace Go.Ev
open Go.ChangeShapes Go.WideShapes Go.RowKit Go.Deep
variable {P : Program}
/-- nothing in it may be written -/
def RO (H : Heap) : Prop := ∀ k b, H.get k = some b → ¬ b.mayWrite
section
variable {HH : Type} (P) (enc : TypeId × Value → HH) (W : World)
/-- cells of a type, opened in any memory -/
structure Opens (e : TypeId) (n : Nat) (RR : Heap → List AV → Prop) : Prop where
  cells : P.cellsOf e = n
  mono : ∀ (H : Heap) (row : List AV) (l : List Blk), RR H row → RR (H.ext l) row
  run : ∀ (fuel : Nat) (cs : List Value) (x : DataW HH × List MemPlace), DataW.trod enc P W 0 (fun _ => true) true fuel e cs = some x → ((∃ a len cap, Value.slice (some a) len cap ∈ cs) → 0 < W.heap.size) → ∀ (φ : Phi) (H : Heap), WRel P φ H W → RO H →
    ∃ φ' l row, WRel P φ' (H.ext l) W ∧ RO (H.ext l) ∧ φ.le φ' ∧ VRels P φ' row cs ∧ cs.length = n ∧ (∀ v ∈ cs, v.oneCell' = true) ∧ RR (H.ext l) row
/-- fields one after the other -/
inductive OpF : Nat → List Field → Nat → (Heap → List AV → Prop) → Prop
  | nil (o : Nat) : OpF o [] 0 fun _ row => row = []
  | cons (o : Nat) (f : Field) (fs : List Field) (n m : Nat) (RR SS : Heap → List AV → Prop) (ho : f.offset = o) (h : Opens P enc W f.type n RR) (hs : OpF (o + n) fs m SS) : OpF o (f :: fs) (n + m) fun H row => ∃ a b, row = a ++ b ∧ RR H a ∧ SS H b
variable {P enc W}
theorem OpF.mono {o : Nat} {fs : List Field} {m : Nat} {SS : Heap → List AV → Prop} (h : OpF P enc W o fs m SS) : ∀ (H : Heap) (row : List AV) (l : List Blk), SS H row → SS (H.ext l) row := by
  induction h with
  | nil o => exact fun _ _ _ h => h
  | cons o f fs n m RR SS ho h hs ih =>
    rintro H row l ⟨a, b, rfl, h1, h2⟩
    exact ⟨a, b, rfl, h.mono H a l h1, ih H b l h2⟩
theorem OpF.run {fuel : Nat} {cs : List Value} {o : Nat} {fs : List Field} {m : Nat} {SS : Heap → List AV → Prop} (h : OpF P enc W o fs m SS)
    (hf : ∀ f ∈ fs, ∃ x, DataW.trod enc P W 0 (fun _ => true) true fuel f.type ((cs.drop f.offset).take (P.cellsOf f.type)) = some x) (h0 : (∃ a len cap, Value.slice (some a) len cap ∈ cs) → 0 < W.heap.size) : ∀ (φ : Phi) (H : Heap), WRel P φ H W → RO H →
    ∃ φ' l row, WRel P φ' (H.ext l) W ∧ RO (H.ext l) ∧ φ.le φ' ∧ VRels P φ' row ((cs.drop o).take m) ∧ ((cs.drop o).take m).length = m ∧ (∀ v ∈ (cs.drop o).take m, v.oneCell' = true) ∧ SS (H.ext l) row := by
  induction h with
  | nil o => exact fun φ H hw hro => ⟨φ, [], [], by rw [Heap.ext_nil]; exact hw, by rw [Heap.ext_nil]; exact hro, fun _ _ h => h, by rw [List.take_zero]; exact .nil, by rw [List.take_zero]; rfl, by rw [List.take_zero]; simp, rfl⟩
  | cons o f fs n m RR SS ho h hs ih =>
    intro φ H hw hro
    obtain ⟨x, hx⟩ := hf f (by simp)
    rw [ho, h.cells] at hx
    obtain ⟨φ1, l1, row1, hw1, hro1, hle1, hv1, hl1, ho1, hr1⟩ := h.run _ _ _ hx (fun ⟨a, len, cap, hm⟩ => h0 ⟨a, len, cap, List.mem_of_mem_drop (List.mem_of_mem_take hm)⟩) φ H hw hro
    obtain ⟨φ2, l2, row2, hw2, hro2, hle2, hv2, hl2, ho2, hr2⟩ := ih (fun g hg => hf g (by simp [hg])) φ1 _ hw1 hro1
    rw [Heap.ext_append] at hw2 hro2 hr2
    have hsplit : (cs.drop o).take (n + m) = (cs.drop o).take n ++ (cs.drop (o + n)).take m := by rw [List.take_add, List.drop_drop]
    refine ⟨φ2, l1 ++ l2, row1 ++ row2, hw2, hro2, fun k a h => hle2 _ _ (hle1 _ _ h), ?_, ?_, ?_, row1, row2, rfl, ?_, hr2⟩
    · rw [hsplit]; exact (hv1.mono hle2).append hv2
    · rw [hsplit, List.length_append, hl1, hl2]
    · rw [hsplit]
      intro v hv
      rcases List.mem_append.1 hv with hv | hv
      · exact ho1 v hv
      · exact ho2 v hv
    · have := h.mono _ _ l2 hr1
      rwa [Heap.ext_append] at this
theorem Opens.struct {t : TypeId} {fs : Array Field} {m : Nat} {SS : Heap → List AV → Prop} (ht : P.underlying t = some (.struct fs)) (hc : P.cellsOf t = m) (h : OpF P enc W 0 fs.toList m SS) : Opens P enc W t m SS := by
  refine ⟨hc, h.mono, fun fuel cs x hx h0 φ H hw hro => ?_⟩
  obtain ⟨xs, n, _, _, hcl, hxl, hxs⟩ := DataW.trod_struct ht hx
  have key := h.run (fuel := n) (cs := cs) (fun f hf => by
    obtain ⟨i, hi⟩ := List.mem_iff_getElem?.1 hf
    rw [Array.getElem?_toList] at hi
    have := hxs i f hi
    have hlt := (Array.getElem?_eq_some_iff.1 hi).1
    rw [List.getElem?_eq_getElem (by omega)] at this
    exact ⟨_, this⟩) h0 φ H hw hro
  rw [List.drop_zero, List.take_of_length_le (by omega)] at key
  obtain ⟨φ', l, row, h1, h2, h3, h4, h5, h6, h7⟩ := key
  exact ⟨φ', l, row, h1, h2, h3, h4, h5, h6, h7⟩
/-- elements one after the other -/
theorem Opens.each {e : TypeId} {n : Nat} {RR : Heap → List AV → Prop} (h : Opens P enc W e n RR) (h0 : 0 < W.heap.size) {c : List Value} {o : Nat} : ∀ (m : Nat), (∀ i, i < m → ∃ fuel x, DataW.trod enc P W 0 (fun _ => true) true fuel e ((c.drop (o + i * n)).take n) = some x) →
    ∀ (φ : Phi) (H : Heap), WRel P φ H W → RO H → ∃ φ' l, ∃ rows : List (List AV), WRel P φ' (H.ext l) W ∧ RO (H.ext l) ∧ φ.le φ' ∧ rows.length = m ∧
      ∀ (i : Nat) (row : List AV), rows[i]? = some row → VRels P φ' row ((c.drop (o + i * n)).take n) ∧ ((c.drop (o + i * n)).take n).length = n ∧ (∀ v ∈ (c.drop (o + i * n)).take n, v.oneCell' = true) ∧ RR (H.ext l) row
  | 0, _, φ, H, hw, hro => ⟨φ, [], [], by rw [Heap.ext_nil]; exact hw, by rw [Heap.ext_nil]; exact hro, fun _ _ h => h, rfl, fun i row h => by simp at h⟩
  | m + 1, he, φ, H, hw, hro => by
    obtain ⟨φ1, l1, rows, hw1, hro1, hle1, hl1, hr1⟩ := h.each h0 m (fun i hi => he i (by omega)) φ H hw hro
    obtain ⟨fuel, x, hx⟩ := he m (by omega)
    obtain ⟨φ2, l2, row, hw2, hro2, hle2, hv2, hl2, ho2, hr2⟩ := h.run _ _ _ hx (fun _ => h0) φ1 _ hw1 hro1
    rw [Heap.ext_append] at hw2 hro2 hr2
    refine ⟨φ2, l1 ++ l2, rows ++ [row], hw2, hro2, fun k a h => hle2 _ _ (hle1 _ _ h), by rw [List.length_append, hl1]; rfl, fun i r hi => ?_⟩
    rcases Nat.lt_or_ge i m with hlt | hge
    · rw [List.getElem?_append_left (by omega)] at hi
      obtain ⟨a1, a2, a3, a4⟩ := hr1 i r hi
      have := h.mono _ _ l2 a4
      rw [Heap.ext_append] at this
      exact ⟨a1.mono hle2, a2, a3, this⟩
    · have hlt := (List.getElem?_eq_some_iff.1 hi).1
      rw [List.length_append, hl1] at hlt
      obtain rfl : i = m := by simp at hlt; omega
      rw [List.getElem?_append_right (by omega), hl1, Nat.sub_self] at hi
      cases hi
      exact ⟨hv2, hl2, ho2, hr2⟩
theorem cells_spot {w : World} {a : Addr} {n : Nat} {cs : List Value} (h : w.cells? 0 a n = some cs) (hn : 0 < n) : a.spot = none := by
  obtain ⟨_, hl, hc⟩ := World.cells?_some h
  have h0 := hc 0 hn
  rw [List.getElem?_eq_getElem (by omega)] at h0
  have : a.add 0 = a := by unfold Addr.add; rw [if_pos rfl]
  rw [this] at h0
  unfold World.cell? at h0
  rcases hh : w.heap[a.block]? with _ | z
  · simp only [hh] at h0; cases h0
  · cases z with
    | cells c ty fr =>
      simp only [hh] at h0
      cases hs : a.spot with
      | none => rfl
      | some s => rw [hs] at h0; simp at h0
    | _ => simp only [hh] at h0; cases h0
/-- A SLICE OF WHAT CAN BE OPENED -/
theorem Opens.slice {t e : TypeId} {n : Nat} {RR : Heap → List AV → Prop} (ht : P.underlying t = some (.slice e)) (hc : P.cellsOf t = 1) (hn : 0 < n) (h : Opens P enc W e n RR) :
    Opens P enc W t 1 fun H row => ∃ av xs, row = [av] ∧ Arr H n av xs ∧ (∀ r ∈ xs, RR H r) ∧ xs.length ≤ 9223372036854775807 := by
  refine ⟨hc, ?_, fun fuel cs x hx h0 φ H hw hro => ?_⟩
  · rintro H row l ⟨av, xs, rfl, h1, h2, h3⟩
    exact ⟨av, xs, rfl, h1.ext l, fun r hr => h.mono _ _ _ (h2 r hr), h3⟩
  rcases open_slice ht hx with ⟨rfl, _⟩ | ⟨a, len, cap, m, fu, D, Pl, rfl, _, hlc, hmax, hm, _, hel⟩
  · exact ⟨φ, [], [.nils], by rw [Heap.ext_nil]; exact hw, by rw [Heap.ext_nil]; exact hro, fun _ _ h => h, .cons _ _ _ _ .nils .nil, rfl, by intro v hv; rw [List.mem_singleton.1 hv]; rfl, .nils, [], rfl, .inl ⟨rfl, rfl⟩, by simp, by simp⟩
  simp only [if_true] at hm
  subst hm
  have hone : ∀ v ∈ [Value.slice (some a) len m], v.oneCell' = true := by intro v hv; rw [List.mem_singleton.1 hv]; rfl
  rcases Nat.eq_zero_or_pos m with hm0 | hm0
  · subst hm0
    obtain rfl : len = 0 := by omega
    obtain ⟨hw1, hro1, hle⟩ := WRel.arg hw hro (a := ⟨0, 0, 0⟩) (b := .dead) trivial (h0 ⟨a, 0, 0, List.mem_singleton.2 rfl⟩) (fun h => h)
    refine ⟨_, [.dead], [.slice H.nx 0 0 n true 0], hw1, hro1, hle, .cons _ _ _ _ (.sliceE _ _ _ _ ⟨0, 0, 0⟩ a (Phi.put_same _ _ _)) .nil, rfl, hone, _, [], rfl, .inr ⟨H.nx, 0, true, 0, rfl, ?_, fun h => absurd rfl h⟩, by simp, by simp⟩
    rw [Heap.nx_ext, Heap.toNat_key]; simp
  · obtain ⟨cs0, e0, _⟩ := hel 0 hm0
    have ha0 : a.add (0 * P.cellsOf e) = a := by rw [Nat.zero_mul]; unfold Addr.add; rw [if_pos rfl]
    rw [ha0, h.cells] at e0
    have hsp := cells_spot e0 hn
    obtain ⟨b, o, s⟩ := a
    simp only at hsp
    subst hsp
    have key : ∀ i, (⟨b, o, none⟩ : Addr).add i = ⟨b, o + i, none⟩ := by
      intro i
      unfold Addr.add
      split
      · rename_i e; subst e; rfl
      · rfl
    have hel' : ∀ i, i < m → ∃ c ty fr, W.heap[b]? = some (.cells c ty fr) ∧ o + i * n + n ≤ c.size ∧ ∃ fuel x, DataW.trod enc P W 0 (fun _ => true) true fuel e ((c.toList.drop (o + i * n)).take n) = some x := by
      intro i hi
      obtain ⟨cs', h1, h2⟩ := hel i hi
      rw [h.cells, key] at h1
      obtain ⟨c, ty, fr, hc, hsz, rfl⟩ := cells_at h1 hn
      exact ⟨c, ty, fr, hc, hsz, _, _, h2⟩
    obtain ⟨c, ty, fr, hcc, _⟩ := hel' 0 hm0
    have hel2 : ∀ i, i < m → o + i * n + n ≤ c.size ∧ ∃ fuel x, DataW.trod enc P W 0 (fun _ => true) true fuel e ((c.toList.drop (o + i * n)).take n) = some x := by
      intro i hi
      obtain ⟨c', ty', fr', hc', h⟩ := hel' i hi
      rw [hcc] at hc'; cases hc'
      exact h
    have hb : b < W.heap.size := (Array.getElem?_eq_some_iff.1 hcc).1
    obtain ⟨φ1, l, rows, hw1, hro1, hle1, hrl, hr⟩ := h.each (by omega) m (fun i hi => (hel2 i hi).2) φ H hw hro
    have hrn : ∀ row ∈ rows, row.length = n := by
      intro row hrow
      obtain ⟨i, hi⟩ := List.mem_iff_getElem?.1 hrow
      obtain ⟨h1, h2, _⟩ := hr i row hi
      rw [h1.length, h2]
    have hsz : o + m * n ≤ c.size := by
      have h1 := (hel2 (m - 1) (by omega)).1
      have h2 : m * n = (m - 1) * n + n := by
        rw [show m = m - 1 + 1 by omega, Nat.add_mul, Nat.one_mul, Nat.add_sub_cancel]
      omega
    have hdt : ∀ i, i < m → (((c.toList.drop o).take (m * n)).drop (i * n)).take n = (c.toList.drop (o + i * n)).take n := by
      intro i hi
      have h2 : i * n + n ≤ m * n := by
        have := Nat.mul_le_mul_right n (show i + 1 ≤ m by omega)
        rwa [Nat.add_mul, Nat.one_mul] at this
      rw [List.drop_take, List.take_take, List.drop_drop, Nat.min_eq_left (by omega)]
    have hvl : ((c.toList.drop o).take (m * n)).length = rows.length * n := by
      have hcl : c.toList.length = c.size := Array.length_toList
      rw [List.length_take, List.length_drop, hcl, hrl]; omega
    have hblk : BlkRel P φ1 W ⟨b, o, c.size⟩ (.row false n rows) := by
      refine ⟨hn, hrn, c.toList.take o, (c.toList.drop o).take (m * n), c.toList.drop (o + m * n), ty, fr.1, fr.2, ?_, ?_, ?_, fun h => (by cases h), ?_, ?_, fun h => (by cases h)⟩
      · rw [hcc]
        congr 2
        rw [List.append_assoc, ← List.drop_drop, List.take_append_drop, List.take_append_drop]
      · rw [List.length_take, Array.length_toList]; show min o c.size = o; omega
      · rw [List.append_assoc, ← List.drop_drop, List.take_append_drop, List.take_append_drop, Array.length_toList]
      · refine vrels_flat hrn hvl fun i r hi => ?_
        have hlt : i < m := by rw [← hrl]; exact (List.getElem?_eq_some_iff.1 hi).1
        rw [hdt i hlt]
        exact (hr i r hi).1
      · intro v hv
        obtain ⟨j, hj, rfl⟩ := List.mem_iff_getElem.1 hv
        rw [hvl] at hj
        have hq : j / n < m := by rw [Nat.div_lt_iff_lt_mul hn, ← hrl]; exact hj
        have h3 := (hr (j / n) _ (List.getElem?_eq_getElem (show j / n < rows.length by omega))).2.2.1
        refine h3 _ ?_
        rw [← hdt _ hq]
        refine List.mem_iff_getElem?.2 ⟨j % n, ?_⟩
        have e2 : j / n * n + j % n = j := by rw [Nat.mul_comm]; exact Nat.div_add_mod ..
        rw [List.getElem?_take_of_lt (Nat.mod_lt _ hn), List.getElem?_drop, e2]
        exact List.getElem?_eq_getElem _
    obtain ⟨hw2, hro2, hle2⟩ := WRel.arg hw1 hro1 (a := ⟨b, o, c.size⟩) (b := .row false n rows) hblk hb (fun h => by cases h)
    have hxl : (rows.take len).length = len := by rw [List.length_take]; omega
    have hend : ((H.ext l).add (.row false n rows)) = H.ext (l ++ [.row false n rows]) := by rw [← Heap.ext_append]; rfl
    rw [hend] at hw2 hro2
    refine ⟨_, l ++ [Blk.row false n rows], [.slice (H.ext l).nx 0 len n true m], hw2, hro2, fun k x h => hle2 _ _ (hle1 _ _ h), ?_, rfl, hone, _, rows.take len, rfl, .inr ⟨(H.ext l).nx, 0, true, m, by rw [hxl], ?_, fun _ => ⟨0, false, rows, by simp, ?_, ?_⟩⟩, fun r hrm => ?_, ?_⟩
    · exact .cons _ _ _ _ (VRel.slice (H.ext l).nx 0 len n true m ⟨b, o, c.size⟩ m (Phi.put_same _ _ _) (fun _ => rfl) (Nat.le_refl _) hlc hsz) .nil
    · rw [← hend]; exact K.lt_succ _
    · rw [← hend, Heap.get_add, if_pos rfl]
    · rw [List.drop_zero, hxl]
    · obtain ⟨i, hi⟩ := List.mem_iff_getElem?.1 (List.mem_of_mem_take hrm)
      have := h.mono _ _ [.row false n rows] (hr i r hi).2.2.2
      rwa [Heap.ext_append] at this
    · rw [hxl]; unfold maxLen at hmax; omega
end
end Go.Ev
/- Conversions, as rules. -/

set_option linter.all false
namespace Go.Ev
@[go_sem] theorem convR_int (k : IntKind) (x : X) (T : Tr AV) (H : Heap) : convR (.int k) x T H = withX T x .fail fun v => asIntC v .fail fun _ n => wrapC k n fun n => .val (.int k n) H := rfl
@[go_sem] theorem convR_b2s (x : X) (T : Tr AV) (H : Heap) : convR .b2s x T H = withX T x .fail fun v => asSliceC v .fail (.val (.str []) H) fun k off len _ _ _ => loadC H k off len .fail fun l => bytesC l .fail fun ns => .val (.str ns) H := rfl
end Go.Ev
/- Slices that may be nil, handled as one: rules. -/

set_option linter.all false
namespace Go.Ev
variable {P : Program} {H : Heap}
theorem outV_ren' (ρ : K → K) (k : K) (e n : Nat) : AV.ren ρ (outV k e n) = outV (ρ k) e n := by
  cases n with
  | zero => show AV.ren ρ .nils = .nils; rw [AV.ren]
  | succ n => show AV.ren ρ (.slice k 0 (n + 1) e false (n + 1)) = .slice (ρ k) 0 (n + 1) e false (n + 1); rw [AV.ren]
theorem outB_ren' (ρ : K → K) {e : Nat} {xs : List (List AV)} (h : xs.map (AV.rens ρ) = xs) : Blk.ren ρ (outB e xs) = outB e xs := by
  cases xs with
  | nil => rfl
  | cons x xs => show Blk.row true e ((x :: xs).map (AV.rens ρ)) = Blk.row true e (x :: xs); rw [h]
theorem outB_pos {e : Nat} {xs : List (List AV)} (h : 0 < xs.length) : outB e xs = .row true e xs := by
  cases xs with
  | nil => exact absurd h (by decide)
  | cons x xs => rfl
@[go_sem] theorem len_out (k : K) (e n : Nat) (G : Heap) : asSliceC (outV k e n) R1.fail (R1.val (AV.int IntKind.i64 0) G) (fun _ _ len _ _ _ => R1.val (AV.int IntKind.i64 (len : Int)) G) = R1.val (.int .i64 n) G := by
  cases n with
  | zero => rfl
  | succ n => rfl
theorem Arr.len {v : AV} {esz : Nat} {xs : List (List AV)} (h : Arr H esz v xs) (G : Heap) : asSliceC v R1.fail (R1.val (AV.int IntKind.i64 0) G) (fun _ _ len _ _ _ => R1.val (AV.int IntKind.i64 (len : Int)) G) = R1.val (.int .i64 xs.length) G := by
  rcases h.forms with ⟨rfl, rfl⟩ | ⟨k, off, ex, cap, rfl, _⟩ <;> rfl
theorem Arr.at {v : AV} {esz : Nat} {xs : List (List AV)} (hok : H.ok) (h : Arr H esz v xs) {j : Nat} (hj : j < xs.length) : ∃ k r ex cap wr rows, v = .slice k (r * esz) xs.length esz ex cap ∧ (∀ top σ, rho H top σ k = k) ∧ (∀ L, (H.ext L).get k = some (.row wr esz rows)) ∧ rows[r + j]? = some xs[j] := by
  obtain ⟨k, r, ex, cap, wr, rows, e, hk, hg, _, hat⟩ := h.pick hj
  exact ⟨k, r, ex, cap, wr, rows, e, fun _ _ => rho_old hk, Heap.get_ext_old hok hg, by rw [hat j hj, List.getElem?_eq_getElem hj]⟩
theorem wrap_u8 {m : Nat} (h : m ≤ 255) : IntKind.u8.wrap (m : Int) = m := wrap_nat .u8 m h
/-- one more put behind a list that may be none: the old block is let go -/
theorem appR_out {L : List Blk} {i j n esz bytes : Nat} {xs : List (List AV)} {y : List AV} {x z : X} {T : Tr AV} {wr ex : Bool} {cap : Nat} (hx : evX T x = some (outV (H.key i) esz n)) (hz : evX T z = some (.slice (H.key j) 0 1 esz ex cap))
    (hi : L[i]? = some (outB esz xs)) (hn : xs.length = n) (hj : L[j]? = some (.row wr esz [y])) (hb : okBig (n + 1) bytes = true) :
    appR esz bytes x z T (H.ext L) = .val (outV (H.key L.length) esz (n + 1)) (H.ext (L.set i .dead ++ [outB esz (xs ++ [y])])) := by
  have hxw : ∀ {f : R1} {c : AV → R1}, withX T x f c = c (outV (H.key i) esz n) := by intro f c; unfold withX; rw [hx]
  have hzw : ∀ {f : R1} {c : AV → R1}, withX T z f c = c (.slice (H.key j) 0 1 esz ex cap) := by intro f c; unfold withX; rw [hz]
  have hil := (List.getElem?_eq_some_iff.1 hi).1
  have hjl := (List.getElem?_eq_some_iff.1 hj).1
  have hb1 : (2 * (n + 1) + 192) * bytes ≤ 281474976710656 := by unfold okBig at hb; rwa [Nat.ble_eq] at hb
  unfold appR
  rw [hxw, hzw]
  cases xs with
  | nil =>
    obtain rfl : n = 0 := hn.symm
    have hset : L.set i .dead = L := by
      refine List.ext_getElem? fun m => ?_
      rw [List.getElem?_set]
      split
      · rename_i hm; subst hm; rw [hi]; first | rfl | (rw [if_pos hil]; rfl)
      · rfl
    simp only [go_sem, Heap.get_ext_key _ _ _ hjl, hj, List.drop_zero, List.take_succ_cons, List.take_zero, List.length_cons, List.length_nil, Nat.zero_mod, Nat.zero_div, Nat.reduceAdd, Nat.reduceSub, Nat.reduceMul, Nat.reduceDiv, Nat.reduceMod, Nat.reduceEqDiff, Nat.reduceLeDiff, Nat.reduceLT, reduceIte, hset, List.nil_append]
    rw [if_pos (by simpa using hb1)]
  | cons a xs =>
    subst hn
    rw [outV_pos (by simp)]
    simp only [go_sem, Heap.get_ext_key _ _ _ hjl, Heap.get_ext_key _ _ _ hil, hi, hj, List.drop_zero, List.take_succ_cons, List.take_zero, List.length_cons, List.length_nil, Nat.zero_mod, Nat.zero_div, Nat.reduceAdd, Nat.reduceSub, Nat.reduceMul, Nat.reduceDiv, Nat.reduceMod, Nat.reduceEqDiff, Nat.reduceLeDiff, Nat.reduceLT, reduceIte, List.take_length, List.cons_append]
    rw [if_pos (Nat.le_refl _), if_neg (by omega), if_pos (by simpa using hb1), Heap.setC_ext _ _ _ _ _ hil, Heap.addC_ext, List.length_set]
/-- an append whose operands are seen, left as it is -/
noncomputable def appQ (esz bytes : Nat) (a b : Option AV) (H : Heap) : R1 := match a, b with
  | some v, some w => appR esz bytes (.c v) (.c w) .lf H
  | _, _ => .fail
theorem appR_hide (esz bytes : Nat) (a b : K) (T : Tr AV) (H : Heap) : appR esz bytes (.t a) (.t b) T H = appQ esz bytes (T.get a) (T.get b) H := by
  unfold appR appQ
  simp only [withX_t, withX_c]
  cases T.get a <;> cases T.get b <;> rfl
theorem okBig_le {n bytes : Nat} (h : n ≤ 1000000000) (hb : bytes ≤ 1000) : okBig n bytes = true := by
  unfold okBig
  rw [Nat.ble_eq]
  exact Nat.le_trans (Nat.mul_le_mul (Nat.add_le_add (Nat.mul_le_mul (Nat.le_refl 2) h) (Nat.le_refl _)) hb) (by decide)
/-- the same, ahead of what is still to be done -/
theorem RW_app {E : FuncId → List AV → Heap → RC} {N : Nat} {k : List It} {Q : Ex → Tr AV → Heap → Prop} {d : Option K} {T' : Tr AV} {G : Heap} {L : List Blk} {esz bytes i j n : Nat} (xs : List (List AV)) (y : List AV) {wr ex : Bool} {cap : Nat}
    (hi : L[i]? = some (outB esz xs)) (hn : xs.length = n) (hj : L[j]? = some (.row wr esz [y])) (hb : okBig (n + 1) bytes = true)
    (h : WW P E N H k (putD T' d (outV (H.key L.length) esz (n + 1))) (H.ext (L.set i .dead ++ [outB esz (xs ++ [y])])) Q) : RW P E N H (appQ esz bytes (some (outV (H.key i) esz n)) (some (.slice (H.key j) 0 1 esz ex cap)) (H.ext L)) d k T' G Q := by
  show RW P E N H (appR esz bytes (.c (outV (H.key i) esz n)) (.c (.slice (H.key j) 0 1 esz ex cap)) .lf (H.ext L)) d k T' G Q
  rw [appR_out rfl rfl hi hn hj hb]
  exact h
/-- the blocks that are kept, one after the other -/
def WkB (l : List Blk) (ρ : K → K) : List Blk → List Nat → Prop
  | b :: bs, i :: σ => (b.live → l[i]? = some (b.ren ρ)) ∧ WkB l ρ bs σ
  | _, _ => True
@[go_sem] theorem WkB_nil (l : List Blk) (ρ : K → K) (σ : List Nat) : WkB l ρ [] σ = True := by cases σ <;> rfl
@[go_sem] theorem WkB_cons (l : List Blk) (ρ : K → K) (b bs i σ) : WkB l ρ (b :: bs) (i :: σ) = ((b.live → l[i]? = some (b.ren ρ)) ∧ WkB l ρ bs σ) := rfl
theorem WkB.all {l : List Blk} {ρ : K → K} : ∀ {bs : List Blk} {σ : List Nat}, WkB l ρ bs σ → ∀ p ∈ bs.zip σ, p.1.live → l[p.2]? = some (p.1.ren ρ)
  | [], _, _, p, hp => by simp at hp
  | _ :: _, [], _, p, hp => by simp at hp
  | b :: bs, i :: σ, h, p, hp => by
    rw [List.zip_cons_cons, List.mem_cons] at hp
    rcases hp with rfl | hp
    · exact h.1
    · exact WkB.all h.2 p hp
theorem Wk.of {H : Heap} {T : Tr AV} {l : List Blk} {ts : List (K × AV)} {l2 : List Blk} {σ : List Nat} (h1 : l2.length = σ.length) (h2 : σ.Nodup) (h3 : ∀ p ∈ ts, T.get p.1 = some (p.2.ren (rho H l.length σ))) (h4 : WkB l (rho H l.length σ) l2 σ) : Wk H T l ts l2 σ := .mk' h1 h2 h3 h4.all
end Go.Ev
/- A slice of one's own: nil, empty, or with elements; what makes one, what puts one in. -/


set_option linter.all false
namespace Go.Ev
variable {P : Program} {H : Heap}
/-- a slice of one's own: an empty one is nil, or has room for nothing -/
def zV (z : Bool) (k : K) (esz n : Nat) : AV := match n with
  | 0 => if z then .nils else .slice k 0 0 esz true 0
  | n + 1 => .slice k 0 (n + 1) esz false (n + 1)
def zB (z : Bool) (esz : Nat) (xs : List (List AV)) : Blk := match xs with
  | [] => if z then .dead else .row true esz []
  | x :: xs => .row true esz (x :: xs)
theorem zV_t (k : K) (esz n : Nat) : zV true k esz n = outV k esz n := by cases n <;> rfl
theorem zB_t (esz : Nat) (xs : List (List AV)) : zB true esz xs = outB esz xs := by cases xs <;> rfl
theorem zV_pos {z : Bool} {k : K} {esz n : Nat} (h : 0 < n) : zV z k esz n = .slice k 0 n esz false n := by
  cases n with
  | zero => exact absurd h (by decide)
  | succ n => rfl
theorem zB_pos {z : Bool} {esz : Nat} {xs : List (List AV)} (h : 0 < xs.length) : zB z esz xs = .row true esz xs := by
  cases xs with
  | nil => exact absurd h (by decide)
  | cons x xs => rfl
theorem zV_ren (ρ : K → K) (z : Bool) (k : K) (e n : Nat) : AV.ren ρ (zV z k e n) = zV z (ρ k) e n := by
  cases n with
  | zero => cases z <;> (show AV.ren ρ _ = _) <;> simp only [zV, AV.ren, if_true, Bool.false_eq_true, if_false]
  | succ n => show AV.ren ρ (.slice k 0 (n + 1) e false (n + 1)) = .slice (ρ k) 0 (n + 1) e false (n + 1); rw [AV.ren]
theorem zB_ren (ρ : K → K) {z : Bool} {e : Nat} {xs : List (List AV)} (h : xs.map (AV.rens ρ) = xs) : Blk.ren ρ (zB z e xs) = zB z e xs := by
  cases xs with
  | nil => cases z <;> rfl
  | cons x xs => show Blk.row true e ((x :: xs).map (AV.rens ρ)) = Blk.row true e (x :: xs); rw [h]
@[go_sem] theorem len_z (z : Bool) (k : K) (e n : Nat) (G : Heap) : asSliceC (zV z k e n) R1.fail (R1.val (AV.int IntKind.i64 0) G) (fun _ _ len _ _ _ => R1.val (AV.int IntKind.i64 (len : Int)) G) = R1.val (.int .i64 n) G := by
  cases n with
  | zero => cases z <;> rfl
  | succ n => rfl
theorem zB_arr {z : Bool} {L : List Blk} {esz i : Nat} {xs : List (List AV)} (h : L[i]? = some (zB z esz xs)) : Arr (H.ext L) esz (zV z (H.key i) esz xs.length) xs := by
  have hi := (List.getElem?_eq_some_iff.1 h).1
  cases xs with
  | nil =>
    cases z
    · refine .inr ⟨H.key i, 0, true, 0, rfl, ?_, fun e => absurd rfl e⟩
      rw [Heap.nx_ext, Heap.toNat_key, Heap.toNat_key]; omega
    · exact .inl ⟨rfl, rfl⟩
  | cons x xs =>
    refine .inr ⟨H.key i, 0, false, xs.length + 1, rfl, ?_, fun _ => ⟨0, true, x :: xs, by simp, ?_, by simp⟩⟩
    · rw [Heap.nx_ext, Heap.toNat_key, Heap.toNat_key]; omega
    · rw [Heap.get_ext_key _ _ _ hi, h]; rfl
/-- what a function hands back: a slice of its own, all else let go -/
theorem FnOk.dropZ' {f : FuncId} {args : List AV} {esz : Nat} {xs : List (List AV)} (hx : ∀ top σ, xs.map (AV.rens (rho H top σ)) = xs)
    (h : FnOk P f args H fun v G => ∃ z l i, v = zV z (H.key i) esz xs.length ∧ G = H.ext l ∧ ((zB z esz xs).live → l[i]? = some (zB z esz xs))) :
    FnOk P f args H fun v G => ∃ z, v = zV z H.nx esz xs.length ∧ G = H.ext [zB z esz xs] := by
  refine h.wk ?_
  rintro v G ⟨z, l, i, rfl, rfl, hl⟩
  refine ⟨l, [zB z esz xs], [i], zV z H.nx esz xs.length, rfl, ?_, rfl, by simp, ?_, z, rfl, rfl⟩
  · rw [zV_ren, ← Heap.key_zero, rho_key rfl]
  · intro p hp
    simp only [List.zip_cons_cons, List.zip_nil_left, List.mem_singleton] at hp
    subst hp
    intro hlive
    show l[i]? = some (Blk.ren _ (zB z esz xs))
    rw [zB_ren _ (hx _ _), hl hlive]
/-- the same of one that is nil where it is empty -/
theorem FnOk.dropO' {f : FuncId} {args : List AV} {esz n : Nat} {xs : List (List AV)} (hn : xs.length = n) (hx : ∀ top σ, xs.map (AV.rens (rho H top σ)) = xs)
    (h : FnOk P f args H fun v G => ∃ l i, v = outV (H.key i) esz n ∧ G = H.ext l ∧ ((outB esz xs).live → l[i]? = some (outB esz xs))) :
    FnOk P f args H fun v G => v = outV H.nx esz n ∧ G = H.ext [outB esz xs] := by
  subst hn
  refine h.wk ?_
  rintro v G ⟨l, i, rfl, rfl, hl⟩
  refine ⟨l, [outB esz xs], [i], outV H.nx esz xs.length, rfl, ?_, rfl, by simp, ?_, rfl, rfl⟩
  · rw [outV_ren', ← Heap.key_zero, rho_key rfl]
  · intro p hp
    simp only [List.zip_cons_cons, List.zip_nil_left, List.mem_singleton] at hp
    subst hp
    intro hlive
    show l[i]? = some (Blk.ren _ (outB esz xs))
    rw [outB_ren' _ (hx _ _), hl hlive]
theorem clone_z' {f : FuncId} {esz bytes : Nat} {zero : List AV} (hf : CloFn P f esz bytes zero) {v : AV} {xs : List (List AV)} (hA : Arr H esz v xs) (hb : (2 * xs.length + 192) * bytes ≤ 281474976710656) (hx : ∀ top σ, xs.map (AV.rens (rho H top σ)) = xs) :
    FnOk P f [v] H fun r G => ∃ z, r = zV z H.nx esz xs.length ∧ G = H.ext [zB z esz xs] := by
  refine FnOk.dropZ' hx ?_
  rcases hA with ⟨rfl, rfl⟩ | ⟨k, off, ex, cap, rfl, hk, h⟩
  · refine (clone_nil hf).mono ?_
    rintro v G ⟨rfl, rfl⟩
    exact ⟨true, [], 0, rfl, (Heap.ext_nil _).symm, fun h => h.elim⟩
  · rcases Nat.eq_zero_or_pos xs.length with h0 | h0
    · obtain rfl := List.length_eq_zero_iff.1 h0
      refine (clone_zero hf).mono ?_
      rintro v G ⟨rfl, rfl⟩
      exact ⟨false, _, 0, rfl, rfl, fun _ => rfl⟩
    · obtain ⟨r, wr, rows, rfl, hg, hrow⟩ := h (by intro e; rw [e] at h0; simp at h0)
      have hn : r + xs.length ≤ rows.length := by
        have := congrArg List.length hrow
        rw [List.length_take, List.length_drop] at this
        omega
      have key := clone_arr hf hg hn h0 hb (ex := ex) (cap := cap)
      rw [hrow] at key
      refine key.mono ?_
      rintro v G ⟨rfl, rfl⟩
      exact ⟨true, _, 1, (zV_pos h0).symm, rfl, fun _ => by rw [zB_pos h0]; rfl⟩
theorem FnOk.dropO {f : FuncId} {args : List AV} {esz n : Nat} {xs : List (List AV)} (hn : xs.length = n) (hx : ∀ ρ, xs.map (AV.rens ρ) = xs)
    (h : FnOk P f args H fun v G => ∃ l i, v = outV (H.key i) esz n ∧ G = H.ext l ∧ ((outB esz xs).live → l[i]? = some (outB esz xs))) :
    FnOk P f args H fun v G => v = outV H.nx esz n ∧ G = H.ext [outB esz xs] := FnOk.dropO' hn (fun _ _ => hx _) h
theorem insert_z {f : FuncId} {esz bytes : Nat} {zero : List AV} (hf : InsFn P f esz bytes zero) {L : List Blk} {i j n : Nat} {z : Bool} {x : List AV} {xs : List (List AV)} {m : Nat}
    (hij : j ≠ i) (hj : L[j]? = some (.row true esz [x])) (hi : L[i]? = some (zB z esz xs)) (hn : xs.length = n) (hm : m ≤ n) (hl : n < 4294967296) (hb : (2 * (n + 1) + 192) * bytes ≤ 281474976710656) :
    FnOk P f [zV z (H.key i) esz n, .int .i64 m, .slice (H.key j) 0 1 esz true 1] (H.ext L) fun v G => ∃ b, v = outV (H.key L.length) esz (n + 1) ∧ G = H.ext (L.set i b ++ [outB esz (xs.take m ++ x :: xs.drop m)]) := by
  subst hn
  have hil := (List.getElem?_eq_some_iff.1 hi).1
  have hjl := (List.getElem?_eq_some_iff.1 hj).1
  have hgv : (H.ext L).get (H.key j) = some (.row true esz [x]) := by rw [Heap.get_ext_key _ _ _ hjl, hj]
  have hgk : (H.ext L).get (H.key i) = some (zB z esz xs) := by rw [Heap.get_ext_key _ _ _ hil, hi]
  have hset : L.set i (zB z esz xs) = L := by
    refine List.ext_getElem? fun q => ?_
    rw [List.getElem?_set]
    split
    · rename_i hq; subst hq; rw [hi]
    · rfl
  cases xs with
  | nil =>
    obtain rfl : m = 0 := by simpa using hm
    cases z
    · refine (insert_zero hf hgv hgk (by simpa using hb)).mono ?_
      rintro v G ⟨rfl, rfl⟩
      rw [Heap.nx_ext, Heap.ext_append]
      exact ⟨_, rfl, by rw [hset]; rfl⟩
    · refine (insert_nil hf hgv (by simpa using hb)).mono ?_
      rintro v G ⟨rfl, rfl⟩
      rw [Heap.nx_ext, Heap.ext_append]
      exact ⟨_, rfl, by rw [hset]; rfl⟩
  | cons y ys =>
    have hne : H.key j ≠ H.key i := fun h => hij (by
      have := congrArg K.toNat h
      rw [Heap.toNat_key, Heap.toNat_key] at this
      omega)
    refine (insert_own hf hne hgv hgk (by simp) hm hl hb).mono ?_
    rintro v G ⟨rfl, rfl⟩
    rw [Heap.nx_ext, Heap.set_ext_key _ _ _ _ hil, Heap.ext_append]
    refine ⟨.dead, rfl, ?_⟩
    congr 2
    rw [outB_pos (by simp only [List.length_append, List.length_cons, List.length_drop, List.length_take]; omega)]
@[go_sem] theorem bin_half {β : Type} (ek : EK) (pk : Option (List LK)) (lit : Bool) (a : Int) (f : β) (c : AV → β) : binV P ek pk lit .shr (.int .u64 a) (.int .u64 1) f c = c (.int .u64 (a.fdiv 2)) := bin_shr ek pk lit .u64 a f c .u64 1
@[go_sem] theorem max_int {β : Type} (k : IntKind) (a b : Int) (f : β) (c : AV → β) : mm2 true (.int k a) (.int k b) f c = c (.int k (max a b)) := by
  show bif' true (ltI a b fun z => bif' z (c (.int k b)) (c (.int k a))) (ltI b a fun z => bif' z (c (.int k b)) (c (.int k a))) = _
  rw [bif_true, ltI_eq, bif_eq]
  by_cases h : a < b
  · rw [decide_eq_true h, if_pos rfl, Int.max_eq_right (by omega)]
  · rw [decide_eq_false h, if_neg (by decide), Int.max_eq_left (by omega)]
theorem arr_outV {L : List Blk} {esz i n : Nat} {xs : List (List AV)} (h : L[i]? = some (outB esz xs)) (hn : xs.length = n) : Arr (H.ext L) esz (outV (H.key i) esz n) xs := by
  subst hn
  rw [← zV_t]
  exact zB_arr (by rw [h, zB_t])
theorem arr_zV {z : Bool} {L : List Blk} {esz i n : Nat} {xs : List (List AV)} (h : L[i]? = some (zB z esz xs)) (hn : xs.length = n) : Arr (H.ext L) esz (zV z (H.key i) esz n) xs := by
  subst hn
  exact zB_arr h
@[go_sem low] theorem readC_first {β : Type} (f : β) (esz : Nat) (rows : List (List AV)) (q n : Nat) (c : List AV → β) (hp : q < esz) (hn : q + n ≤ esz) : readC f esz rows q n c = optC rows[0]? f fun row => bif' (Bool.and (Nat.beq q 0) (Nat.beq n esz)) (c row) (takeC f n (dropL q row) c) := by
  have := readC_at f esz rows 0 q n c hp hn
  rwa [Nat.zero_mul, Nat.zero_add] at this
theorem bool_t {p : Prop} [Decidable p] (h : p) : AV.bool true = .bool (decide p) := by rw [decide_eq_true h]
theorem bool_f {p : Prop} [Decidable p] (h : ¬p) : AV.bool false = .bool (decide p) := by rw [decide_eq_false h]
theorem Arr.uniq {v : AV} {esz : Nat} {xs ys : List (List AV)} (hx : Arr H esz v xs) (hy : Arr H esz v ys) (he : 0 < esz) : xs = ys := by
  rcases hx with ⟨rfl, rfl⟩ | ⟨k, off, ex, cap, rfl, _, h1⟩
  · rcases hy with ⟨_, rfl⟩ | ⟨_, _, _, _, h, _⟩
    · rfl
    · cases h
  · rcases hy with ⟨h, _⟩ | ⟨k', off', ex', cap', h, _, h2⟩
    · cases h
    · injection h with e1 e2 e3 e4 e5 e6
      subst e1 e2
      by_cases hn : xs = []
      · subst hn
        exact (List.length_eq_zero_iff.1 (by rw [← e3]; rfl)).symm
      · have hn' : ys ≠ [] := by intro h; subst h; exact hn (List.length_eq_zero_iff.1 (by rw [e3]; rfl))
        obtain ⟨r, wr, rows, e7, e8, e9⟩ := h1 hn
        obtain ⟨r', wr', rows', f7, f8, f9⟩ := h2 hn'
        rw [e8] at f8; cases f8
        have : r = r' := by
          have := e7.symm.trans f7
          exact Nat.eq_of_mul_eq_mul_right he this
        subst this
        rw [← e9, ← f9, e3]
end Go.Ev
/- A contract of the kit's own, as a triple: what a function hands back that lets all old blocks alone. -/


set_option linter.all false
namespace Go.Ev
variable {P : Program} {φ : Phi} {H : Heap} {w u : World}
theorem WRel.grows (hw : WRel P φ H w) (hs : w.heap.size ≤ u.heap.size) (hk : ∀ b, b < w.heap.size → u.heap[b]? = w.heap[b]?) : WRel P φ H u := by
  refine ⟨⟨hw.dom, hw.top, fun k b a hg ha => BlkRel.congr (w := w) (hk _ (hw.size k a ha)) (hw.blk k b a hg ha), hw.inj, fun k a ha => Nat.lt_of_lt_of_le (hw.size k a ha) hs⟩, fun g v hm => ?_⟩
  obtain ⟨h1, h2⟩ := hw.rom g v hm
  refine ⟨?_, h2⟩
  have hlt := cell_in h1
  unfold World.cell? at h1 ⊢
  rw [hk g hlt]; exact h1
/-- old blocks as they were, new ones behind -/
structure Grows (w u : World) : Prop where
  size : w.heap.size ≤ u.heap.size
  old : ∀ b, b < w.heap.size → u.heap[b]? = w.heap[b]?
  os : u.os = w.os
  tape : u.tape = w.tape
  output : u.output = w.output
theorem Grows.refl (w : World) : Grows w w := ⟨Nat.le_refl _, fun _ _ => rfl, rfl, rfl, rfl⟩
theorem Grows.trans {w u v : World} (a : Grows w u) (b : Grows u v) : Grows w v := ⟨Nat.le_trans a.size b.size, fun x hx => by rw [b.old x (Nat.lt_of_lt_of_le hx a.size), a.old x hx], b.os.trans a.os, b.tape.trans a.tape, b.output.trans a.output⟩
theorem Grows.alloc (w : World) (o : Obj) : Grows w (w.alloc o) := by
  refine ⟨?_, fun b hb => ?_, rfl, rfl, rfl⟩
  · simp
  · show (w.heap.push o)[b]? = _
    rw [Array.getElem?_push, if_neg (by omega)]
theorem FnOk.of_calls {f : FuncId} {args : List AV} {v : AV}
    (h : ∀ φ w args', VRels P φ args args'.toList → WRel P φ H w → Calls P f args' w fun e u => (∃ v', e = .returned v' ∧ VRel P φ v v') ∧ Grows w u) : FnOk P f args H fun r G => r = v ∧ G = H := by
  intro φ w args' ha hw
  refine (h φ w args' ha hw).mono ?_
  rintro e u ⟨⟨v', rfl, hv⟩, hg⟩
  refine ⟨v, H, ⟨rfl, rfl⟩, φ, v', rfl, hv, hw.grows hg.size hg.old, ⟨fun _ _ => rfl, Nat.le_refl _, hg.size, fun b hb _ => hg.old b hb, fun _ _ _ => rfl, fun _ _ h => h, hg.os, hg.tape, hg.output⟩⟩
end Go.Ev
/- rules that all steps are reckoned with. -/


set_option linter.all false
attribute [go_sem_proc] Nat.reduceAdd Nat.reduceSub Nat.reduceMul Nat.reduceDiv Nat.reduceMod Nat.reduceEqDiff Nat.reduceLeDiff Nat.reduceLT Int.reduceLT Int.reduceLE Int.reduceEq Int.reduceToNat reduceIte reduceCtorEq
attribute [go_sem] List.length_nil List.map_nil List.length_cons List.map_cons List.replicate_succ List.replicate_zero List.set_cons_zero List.set_cons_succ List.take_succ_cons List.take_zero List.take_nil List.length_append List.map_append List.cons_append List.nil_append List.drop_succ_cons List.drop_zero List.append_nil List.getElem?_cons_zero List.getElem?_cons_succ eq_self true_implies not_true_eq_false not_false_eq_true false_implies and_true true_and decide_true decide_false Bool.not_true Bool.not_false
/- Code laid out by reckoning it where it is wanted. -/

set_option linter.all false
set_option maxRecDepth 100000
namespace Go.Ev
open K
theorem K.inj : ∀ {a b : K}, a.toNat = b.toNat → a = b := by
  intro a
  induction a with
  | z => intro b h; cases b <;> simp [K.toNat] at h ⊢ <;> (have := K.toNat_pos ‹K›; omega)
  | o a ih => intro b h; cases b <;> simp [K.toNat] at h ⊢ <;> first | exact ih (by omega) | (have := K.toNat_pos a; omega) | omega
  | i a ih => intro b h; cases b <;> simp [K.toNat] at h ⊢ <;> first | exact ih (by omega) | (have := K.toNat_pos a; omega) | omega
theorem keyOf_o {n : Nat} (h : n % 2 = 1) : keyOf n = (keyOf ((n - 1) / 2)).o := by
  apply K.inj; rw [toNat_keyOf]; show _ = 2 * (keyOf ((n - 1) / 2)).toNat; rw [toNat_keyOf]; omega
theorem keyOf_i {n : Nat} (h : n % 2 = 0) (h0 : ¬ n = 0) : keyOf n = (keyOf (n / 2 - 1)).i := by
  apply K.inj; rw [toNat_keyOf]; show _ = 2 * (keyOf (n / 2 - 1)).toNat + 1; rw [toNat_keyOf]; omega
theorem keyOf_z : keyOf 0 = z := rfl
def CCz (P : Program) (f : Func) (n : Nat) (o : Option CC) : Prop := ∀ c, o = some c → CCok P f n c
theorem CCz.go {P : Program} {f : Func} {n : Nat} {c : CC} (h : CCz P f n (match f.body with | some code => comp P n code | none => none) → CCz P f n (some c)) : CCok P f n c := h (fun _ h => h) _ rfl
/-- code, reckoned where it stands -/
noncomputable def mkC (P : Program) (f : Func) (n : Nat) {c : CC} (h : CCok P f n c := by
  apply CCz.go
  intro h
  conv at h => arg 4; whnf
  simp only [go_sem, Array.reduceGetElem, Nat.reduceSucc, Option.map_some, Option.map_none, cloD, quietOp, allocOp, bif_true, bif_false, isK, Bool.or_true, Bool.or_false, Bool.true_or, Bool.false_or, List.map_cons, List.map_nil, UInt8.reduceToNat, List.append_eq, List.cons_append, List.nil_append] at h
  repeat (conv at h => pattern (lnOf _ _); whnf)
  repeat (conv at h => pattern (ekOf _ _); whnf)
  repeat (conv at h => pattern (plainK _ _); whnf)
  repeat (conv at h => pattern (cvOf _ _ _); whnf)
  repeat (conv at h => pattern (isArr1 _ _); whnf)
  repeat (conv at h => pattern (TypeInfo.size _); whnf)
  repeat (conv at h => pattern (TypeInfo.bytes _); whnf)
  repeat (conv at h => pattern (Field.offset _); whnf)
  simp only [go_sem, Array.reduceGetElem, Nat.reduceSucc, Option.map_some, Option.map_none, cloD, quietOp, allocOp, bif_true, bif_false, isK, Bool.or_true, Bool.or_false, Bool.true_or, Bool.false_or, List.map_cons, List.map_nil, UInt8.reduceToNat, List.append_eq, List.cons_append, List.nil_append, keyOf_z, keyOf_o, keyOf_i, Nat.reduceMod, Nat.reduceDiv, Nat.reduceSub, Nat.reduceEqDiff, not_false_eq_true] at h
  exact h) : CC := c
@[go_sem] theorem mkC_eq {P : Program} {f : Func} {n : Nat} {c : CC} (h : CCok P f n c) : mkC P f n h = c := rfl
theorem mkC_ok {P : Program} {f : Func} {n : Nat} {c : CC} (h : CCok P f n c) : CCok P f n (mkC P f n h) := h
end Go.Ev
