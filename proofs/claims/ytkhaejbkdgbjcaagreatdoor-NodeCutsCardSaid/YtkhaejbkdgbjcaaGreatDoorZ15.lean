/- What is given to a law: opened into the evaluator's memory. -/
import Derived.Test.YtkhaejbkdgbjcaaGreatDoorZ14
import Derived.Deep.Slices
set_option linter.all false
namespace Go.Ev
open Go.ChangeShapes Go.WideShapes Go.RowKit
variable {P : Program}
/-- kinds of cells -/
inductive PK where
  | str
  | int (k : IntKind)
  | bool
def PK.ty (P : Program) (t : TypeId) : PK → Prop
  | .str => P.underlying t = some .string
  | .int k => P.underlying t = some (.int k)
  | .bool => P.underlying t = some .bool
section
variable {HH : Type} {enc : TypeId × Value → HH} {w : World} {base : Nat} {sp : Nat → Bool} {held : Bool} {fuel : Nat} {t : TypeId} {cs : List Value} {x : DataW HH × List MemPlace}
end
/-- one more block that is only read -/
theorem WRel.arg {φ : Phi} {H : Heap} {w : World} (hw : WRel P φ H w) (hro : ∀ k b, H.get k = some b → ¬ b.mayWrite) {a : At} {b : Blk} (hb : BlkRel P φ w a b) (ha : a.b < w.heap.size) (hm : ¬ b.mayWrite) :
    WRel P (φ.put H.nx a) (H.add b) w ∧ (∀ k c, (H.add b).get k = some c → ¬ c.mayWrite) ∧ φ.le (φ.put H.nx a) := by
  have hnone := hw.nx_none
  have hle := Phi.put_le φ H.nx a hnone
  have hsucc : H.nx.toNat < (H.add b).nx.toNat := K.lt_succ _
  have hput : ∀ j x, j ≠ H.nx → φ.put H.nx a j = some x → φ j = some x := by
    intro j x hj hx
    unfold Phi.put at hx
    rwa [if_neg hj] at hx
  have hro' : ∀ k c, (H.add b).get k = some c → ¬ c.mayWrite := by
    intro k c hk
    rw [Heap.get_add] at hk
    split at hk
    · cases hk; exact hm
    · exact hro k c hk
  refine ⟨⟨⟨?_, ?_, ?_, ?_, ?_⟩, fun g v hm => ⟨(hw.rom g v hm).1, fun ⟨j, c, y, hj, hc, hy, e⟩ => hro' j c hj hc⟩⟩, hro', hle⟩
  · intro j x hx
    by_cases e : j = H.nx
    · subst e; exact hsucc
    · exact Nat.lt_trans (hw.dom j x (hput j x e hx)) hsucc
  · intro j c hj
    rw [Heap.get_add] at hj
    split at hj
    · rename_i e; subst e; exact hsucc
    · exact Nat.lt_trans (hw.top j c hj) hsucc
  · intro j c x hj hx
    rw [Heap.get_add] at hj
    split at hj
    · rename_i e; subst e
      cases hj
      rw [Phi.put_same] at hx; cases hx
      exact hb.mono hle
    · rename_i e
      exact (hw.blk j c x hj (hput j x (fun h => e h.symm) hx)).mono hle
  · intro i j c d x y _ hi _ _ _ _ _ _
    exact hro' i c hi
  · intro k x hx
    by_cases e : k = H.nx
    · subst e
      rw [Phi.put_same] at hx; cases hx
      exact ha
    · exact hw.size k x (hput k x e hx)
noncomputable def noHeap : Heap := .mk .z .lf
theorem noHeap_rel (w : World) (hr : ∀ g v, (g, v) ∈ romOf → w.cell? ⟨g, 0, none⟩ = some v) : WRel P (fun _ => none) noHeap w :=
  ⟨⟨fun k a h => (by cases h), fun k b h => (by cases k <;> cases h), fun k b a h => (by cases k <;> cases h), fun j k c d x y _ h => (by cases j <;> cases h), fun k a h => (by cases h)⟩, fun g v hm => ⟨hr g v hm, fun ⟨j, c, y, hj, _⟩ => by cases j <;> cases hj⟩⟩
theorem noHeap_ro : ∀ k b, noHeap.get k = some b → ¬ b.mayWrite := fun k b h => by cases k <;> cases h
end Go.Ev
/- A slice that is given to a law, opened. -/

set_option linter.all false
namespace Go.Ev
open Go.ChangeShapes Go.WideShapes Go.RowKit Go.Deep
variable {P : Program}
theorem vrels_flat {φ : Phi} {n : Nat} : ∀ {rows : List (List AV)} {vs : List Value}, (∀ r ∈ rows, r.length = n) → vs.length = rows.length * n → (∀ (i : Nat) (r : List AV), rows[i]? = some r → VRels P φ r ((vs.drop (i * n)).take n)) → VRels P φ rows.flatten vs
  | [], vs, _, hl, _ => by
    obtain rfl : vs = [] := List.length_eq_zero_iff.1 (by simpa using hl)
    exact .nil
  | r :: rows, vs, hr, hl, h => by
    have h0 := h 0 r rfl
    rw [Nat.zero_mul, List.drop_zero] at h0
    have ih := vrels_flat (rows := rows) (vs := vs.drop n) (fun x hx => hr x (by simp [hx])) (by rw [List.length_drop, hl, List.length_cons, Nat.add_mul, Nat.one_mul, Nat.add_sub_cancel]) (fun i x hx => by
      have := h (i + 1) x (by simpa using hx)
      rwa [show (i + 1) * n = n + i * n by rw [Nat.add_mul, Nat.one_mul, Nat.add_comm], ← List.drop_drop] at this)
    rw [List.flatten_cons, ← List.take_append_drop n vs]
    exact h0.append ih
theorem cells_at {W : World} {b o n : Nat} {cs : List Value} (h : W.cells? 0 ⟨b, o, none⟩ n = some cs) (hn : 0 < n) :
    ∃ c ty fr, W.heap[b]? = some (.cells c ty fr) ∧ o + n ≤ c.size ∧ (c.toList.drop o).take n = cs := by
  obtain ⟨_, hl, hc⟩ := World.cells?_some h
  have h0 := hc 0 hn
  rw [List.getElem?_eq_getElem (by omega)] at h0
  have key : ∀ i, (⟨b, o, none⟩ : Addr).add i = ⟨b, o + i, none⟩ := by
    intro i
    unfold Addr.add
    split
    · rename_i e; subst e; rfl
    · rfl
  rw [key] at h0
  unfold World.cell? at h0
  rcases hh : W.heap[b]? with _ | z
  · simp only [hh] at h0; cases h0
  · cases z with
    | cells c ty fr =>
      have hc' : ∀ i, i < n → c[o + i]? = cs[i]? := by
        intro i hi
        rw [← hc i hi, key]
        unfold World.cell?
        simp only [hh, Option.isSome_none, Bool.false_eq_true, if_false]
      have hlast := hc' (n - 1) (by omega)
      rw [List.getElem?_eq_getElem (by omega)] at hlast
      have hsz := (Array.getElem?_eq_some_iff.1 hlast).1
      refine ⟨c, ty, fr, rfl, by omega, ?_⟩
      apply List.ext_getElem?
      intro i
      rcases Nat.lt_or_ge i n with hi | hi
      · rw [List.getElem?_take_of_lt hi, List.getElem?_drop, Array.getElem?_toList, hc' i hi]
      · rw [List.getElem?_eq_none (by rw [List.length_take]; omega), List.getElem?_eq_none (by omega)]
    | _ => simp only [hh] at h0; cases h0
end Go.Ev
/- What is given to a law, opened: slices within structs within slices. -/

set_option linter.all false
namespace Go.Ev
open Go.ChangeShapes Go.WideShapes Go.RowKit Go.Deep
variable {P : Program}
/-- nothing in it may be written -/
def RO (H : Heap) : Prop := ∀ k b, H.get k = some b → ¬ b.mayWrite
section
variable {HH : Type} (P) (enc : TypeId × Value → HH) (W : World)
/-- cells of a type, opened in any memory -/
structure Opens (e : TypeId) (n : Nat) (RR : Heap → List AV → Prop) : Prop where
  cells : P.cellsOf e = n
  mono : ∀ (H : Heap) (row : List AV) (l : List Blk), RR H row → RR (H.ext l) row
  run : ∀ (fuel : Nat) (cs : List Value) (x : DataW HH × List MemPlace), DataW.trod enc P W 0 (fun _ => true) true fuel e cs = some x → ((∃ a len cap, Value.slice (some a) len cap ∈ cs) → 0 < W.heap.size) → ∀ (φ : Phi) (H : Heap), WRel P φ H W → RO H →
    ∃ φ' l row, WRel P φ' (H.ext l) W ∧ RO (H.ext l) ∧ φ.le φ' ∧ VRels P φ' row cs ∧ cs.length = n ∧ (∀ v ∈ cs, v.oneCell' = true) ∧ RR (H.ext l) row
/-- fields one after the other -/
inductive OpF : Nat → List Field → Nat → (Heap → List AV → Prop) → Prop
  | nil (o : Nat) : OpF o [] 0 fun _ row => row = []
  | cons (o : Nat) (f : Field) (fs : List Field) (n m : Nat) (RR SS : Heap → List AV → Prop) (ho : f.offset = o) (h : Opens P enc W f.type n RR) (hs : OpF (o + n) fs m SS) : OpF o (f :: fs) (n + m) fun H row => ∃ a b, row = a ++ b ∧ RR H a ∧ SS H b
variable {P enc W}
theorem OpF.mono {o : Nat} {fs : List Field} {m : Nat} {SS : Heap → List AV → Prop} (h : OpF P enc W o fs m SS) : ∀ (H : Heap) (row : List AV) (l : List Blk), SS H row → SS (H.ext l) row := by
  induction h with
  | nil o => exact fun _ _ _ h => h
  | cons o f fs n m RR SS ho h hs ih =>
    rintro H row l ⟨a, b, rfl, h1, h2⟩
    exact ⟨a, b, rfl, h.mono H a l h1, ih H b l h2⟩
theorem OpF.run {fuel : Nat} {cs : List Value} {o : Nat} {fs : List Field} {m : Nat} {SS : Heap → List AV → Prop} (h : OpF P enc W o fs m SS)
    (hf : ∀ f ∈ fs, ∃ x, DataW.trod enc P W 0 (fun _ => true) true fuel f.type ((cs.drop f.offset).take (P.cellsOf f.type)) = some x) (h0 : (∃ a len cap, Value.slice (some a) len cap ∈ cs) → 0 < W.heap.size) : ∀ (φ : Phi) (H : Heap), WRel P φ H W → RO H →
    ∃ φ' l row, WRel P φ' (H.ext l) W ∧ RO (H.ext l) ∧ φ.le φ' ∧ VRels P φ' row ((cs.drop o).take m) ∧ ((cs.drop o).take m).length = m ∧ (∀ v ∈ (cs.drop o).take m, v.oneCell' = true) ∧ SS (H.ext l) row := by
  induction h with
  | nil o => exact fun φ H hw hro => ⟨φ, [], [], by rw [Heap.ext_nil]; exact hw, by rw [Heap.ext_nil]; exact hro, fun _ _ h => h, by rw [List.take_zero]; exact .nil, by rw [List.take_zero]; rfl, by rw [List.take_zero]; simp, rfl⟩
  | cons o f fs n m RR SS ho h hs ih =>
    intro φ H hw hro
    obtain ⟨x, hx⟩ := hf f (by simp)
    rw [ho, h.cells] at hx
    obtain ⟨φ1, l1, row1, hw1, hro1, hle1, hv1, hl1, ho1, hr1⟩ := h.run _ _ _ hx (fun ⟨a, len, cap, hm⟩ => h0 ⟨a, len, cap, List.mem_of_mem_drop (List.mem_of_mem_take hm)⟩) φ H hw hro
    obtain ⟨φ2, l2, row2, hw2, hro2, hle2, hv2, hl2, ho2, hr2⟩ := ih (fun g hg => hf g (by simp [hg])) φ1 _ hw1 hro1
    rw [Heap.ext_append] at hw2 hro2 hr2
    have hsplit : (cs.drop o).take (n + m) = (cs.drop o).take n ++ (cs.drop (o + n)).take m := by rw [List.take_add, List.drop_drop]
    refine ⟨φ2, l1 ++ l2, row1 ++ row2, hw2, hro2, fun k a h => hle2 _ _ (hle1 _ _ h), ?_, ?_, ?_, row1, row2, rfl, ?_, hr2⟩
    · rw [hsplit]; exact (hv1.mono hle2).append hv2
    · rw [hsplit, List.length_append, hl1, hl2]
    · rw [hsplit]
      intro v hv
      rcases List.mem_append.1 hv with hv | hv
      · exact ho1 v hv
      · exact ho2 v hv
    · have := h.mono _ _ l2 hr1
      rwa [Heap.ext_append] at this
theorem Opens.struct {t : TypeId} {fs : Array Field} {m : Nat} {SS : Heap → List AV → Prop} (ht : P.underlying t = some (.struct fs)) (hc : P.cellsOf t = m) (h : OpF P enc W 0 fs.toList m SS) : Opens P enc W t m SS := by
  refine ⟨hc, h.mono, fun fuel cs x hx h0 φ H hw hro => ?_⟩
  obtain ⟨xs, n, _, _, hcl, hxl, hxs⟩ := DataW.trod_struct ht hx
  have key := h.run (fuel := n) (cs := cs) (fun f hf => by
    obtain ⟨i, hi⟩ := List.mem_iff_getElem?.1 hf
    rw [Array.getElem?_toList] at hi
    have := hxs i f hi
    have hlt := (Array.getElem?_eq_some_iff.1 hi).1
    rw [List.getElem?_eq_getElem (by omega)] at this
    exact ⟨_, this⟩) h0 φ H hw hro
  rw [List.drop_zero, List.take_of_length_le (by omega)] at key
  obtain ⟨φ', l, row, h1, h2, h3, h4, h5, h6, h7⟩ := key
  exact ⟨φ', l, row, h1, h2, h3, h4, h5, h6, h7⟩
/-- elements one after the other -/
theorem Opens.each {e : TypeId} {n : Nat} {RR : Heap → List AV → Prop} (h : Opens P enc W e n RR) (h0 : 0 < W.heap.size) {c : List Value} {o : Nat} : ∀ (m : Nat), (∀ i, i < m → ∃ fuel x, DataW.trod enc P W 0 (fun _ => true) true fuel e ((c.drop (o + i * n)).take n) = some x) →
    ∀ (φ : Phi) (H : Heap), WRel P φ H W → RO H → ∃ φ' l, ∃ rows : List (List AV), WRel P φ' (H.ext l) W ∧ RO (H.ext l) ∧ φ.le φ' ∧ rows.length = m ∧
      ∀ (i : Nat) (row : List AV), rows[i]? = some row → VRels P φ' row ((c.drop (o + i * n)).take n) ∧ ((c.drop (o + i * n)).take n).length = n ∧ (∀ v ∈ (c.drop (o + i * n)).take n, v.oneCell' = true) ∧ RR (H.ext l) row
  | 0, _, φ, H, hw, hro => ⟨φ, [], [], by rw [Heap.ext_nil]; exact hw, by rw [Heap.ext_nil]; exact hro, fun _ _ h => h, rfl, fun i row h => by simp at h⟩
  | m + 1, he, φ, H, hw, hro => by
    obtain ⟨φ1, l1, rows, hw1, hro1, hle1, hl1, hr1⟩ := h.each h0 m (fun i hi => he i (by omega)) φ H hw hro
    obtain ⟨fuel, x, hx⟩ := he m (by omega)
    obtain ⟨φ2, l2, row, hw2, hro2, hle2, hv2, hl2, ho2, hr2⟩ := h.run _ _ _ hx (fun _ => h0) φ1 _ hw1 hro1
    rw [Heap.ext_append] at hw2 hro2 hr2
    refine ⟨φ2, l1 ++ l2, rows ++ [row], hw2, hro2, fun k a h => hle2 _ _ (hle1 _ _ h), by rw [List.length_append, hl1]; rfl, fun i r hi => ?_⟩
    rcases Nat.lt_or_ge i m with hlt | hge
    · rw [List.getElem?_append_left (by omega)] at hi
      obtain ⟨a1, a2, a3, a4⟩ := hr1 i r hi
      have := h.mono _ _ l2 a4
      rw [Heap.ext_append] at this
      exact ⟨a1.mono hle2, a2, a3, this⟩
    · have hlt := (List.getElem?_eq_some_iff.1 hi).1
      rw [List.length_append, hl1] at hlt
      obtain rfl : i = m := by simp at hlt; omega
      rw [List.getElem?_append_right (by omega), hl1, Nat.sub_self] at hi
      cases hi
      exact ⟨hv2, hl2, ho2, hr2⟩
theorem cells_spot {w : World} {a : Addr} {n : Nat} {cs : List Value} (h : w.cells? 0 a n = some cs) (hn : 0 < n) : a.spot = none := by
  obtain ⟨_, hl, hc⟩ := World.cells?_some h
  have h0 := hc 0 hn
  rw [List.getElem?_eq_getElem (by omega)] at h0
  have : a.add 0 = a := by unfold Addr.add; rw [if_pos rfl]
  rw [this] at h0
  unfold World.cell? at h0
  rcases hh : w.heap[a.block]? with _ | z
  · simp only [hh] at h0; cases h0
  · cases z with
    | cells c ty fr =>
      simp only [hh] at h0
      cases hs : a.spot with
      | none => rfl
      | some s => rw [hs] at h0; simp at h0
    | _ => simp only [hh] at h0; cases h0
/-- A SLICE OF WHAT CAN BE OPENED -/
theorem Opens.slice {t e : TypeId} {n : Nat} {RR : Heap → List AV → Prop} (ht : P.underlying t = some (.slice e)) (hc : P.cellsOf t = 1) (hn : 0 < n) (h : Opens P enc W e n RR) :
    Opens P enc W t 1 fun H row => ∃ av xs, row = [av] ∧ Arr H n av xs ∧ (∀ r ∈ xs, RR H r) ∧ xs.length ≤ 9223372036854775807 := by
  refine ⟨hc, ?_, fun fuel cs x hx h0 φ H hw hro => ?_⟩
  · rintro H row l ⟨av, xs, rfl, h1, h2, h3⟩
    exact ⟨av, xs, rfl, h1.ext l, fun r hr => h.mono _ _ _ (h2 r hr), h3⟩
  rcases open_slice ht hx with ⟨rfl, _⟩ | ⟨a, len, cap, m, fu, D, Pl, rfl, _, hlc, hmax, hm, _, hel⟩
  · exact ⟨φ, [], [.nils], by rw [Heap.ext_nil]; exact hw, by rw [Heap.ext_nil]; exact hro, fun _ _ h => h, .cons _ _ _ _ .nils .nil, rfl, by intro v hv; rw [List.mem_singleton.1 hv]; rfl, .nils, [], rfl, .inl ⟨rfl, rfl⟩, by simp, by simp⟩
  simp only [if_true] at hm
  subst hm
  have hone : ∀ v ∈ [Value.slice (some a) len m], v.oneCell' = true := by intro v hv; rw [List.mem_singleton.1 hv]; rfl
  rcases Nat.eq_zero_or_pos m with hm0 | hm0
  · subst hm0
    obtain rfl : len = 0 := by omega
    obtain ⟨hw1, hro1, hle⟩ := WRel.arg hw hro (a := ⟨0, 0, 0⟩) (b := .dead) trivial (h0 ⟨a, 0, 0, List.mem_singleton.2 rfl⟩) (fun h => h)
    refine ⟨_, [.dead], [.slice H.nx 0 0 n true 0], hw1, hro1, hle, .cons _ _ _ _ (.sliceE _ _ _ _ ⟨0, 0, 0⟩ a (Phi.put_same _ _ _)) .nil, rfl, hone, _, [], rfl, .inr ⟨H.nx, 0, true, 0, rfl, ?_, fun h => absurd rfl h⟩, by simp, by simp⟩
    rw [Heap.nx_ext, Heap.toNat_key]; simp
  · obtain ⟨cs0, e0, _⟩ := hel 0 hm0
    have ha0 : a.add (0 * P.cellsOf e) = a := by rw [Nat.zero_mul]; unfold Addr.add; rw [if_pos rfl]
    rw [ha0, h.cells] at e0
    have hsp := cells_spot e0 hn
    obtain ⟨b, o, s⟩ := a
    simp only at hsp
    subst hsp
    have key : ∀ i, (⟨b, o, none⟩ : Addr).add i = ⟨b, o + i, none⟩ := by
      intro i
      unfold Addr.add
      split
      · rename_i e; subst e; rfl
      · rfl
    have hel' : ∀ i, i < m → ∃ c ty fr, W.heap[b]? = some (.cells c ty fr) ∧ o + i * n + n ≤ c.size ∧ ∃ fuel x, DataW.trod enc P W 0 (fun _ => true) true fuel e ((c.toList.drop (o + i * n)).take n) = some x := by
      intro i hi
      obtain ⟨cs', h1, h2⟩ := hel i hi
      rw [h.cells, key] at h1
      obtain ⟨c, ty, fr, hc, hsz, rfl⟩ := cells_at h1 hn
      exact ⟨c, ty, fr, hc, hsz, _, _, h2⟩
    obtain ⟨c, ty, fr, hcc, _⟩ := hel' 0 hm0
    have hel2 : ∀ i, i < m → o + i * n + n ≤ c.size ∧ ∃ fuel x, DataW.trod enc P W 0 (fun _ => true) true fuel e ((c.toList.drop (o + i * n)).take n) = some x := by
      intro i hi
      obtain ⟨c', ty', fr', hc', h⟩ := hel' i hi
      rw [hcc] at hc'; cases hc'
      exact h
    have hb : b < W.heap.size := (Array.getElem?_eq_some_iff.1 hcc).1
    obtain ⟨φ1, l, rows, hw1, hro1, hle1, hrl, hr⟩ := h.each (by omega) m (fun i hi => (hel2 i hi).2) φ H hw hro
    have hrn : ∀ row ∈ rows, row.length = n := by
      intro row hrow
      obtain ⟨i, hi⟩ := List.mem_iff_getElem?.1 hrow
      obtain ⟨h1, h2, _⟩ := hr i row hi
      rw [h1.length, h2]
    have hsz : o + m * n ≤ c.size := by
      have h1 := (hel2 (m - 1) (by omega)).1
      have h2 : m * n = (m - 1) * n + n := by
        rw [show m = m - 1 + 1 by omega, Nat.add_mul, Nat.one_mul, Nat.add_sub_cancel]
      omega
    have hdt : ∀ i, i < m → (((c.toList.drop o).take (m * n)).drop (i * n)).take n = (c.toList.drop (o + i * n)).take n := by
      intro i hi
      have h2 : i * n + n ≤ m * n := by
        have := Nat.mul_le_mul_right n (show i + 1 ≤ m by omega)
        rwa [Nat.add_mul, Nat.one_mul] at this
      rw [List.drop_take, List.take_take, List.drop_drop, Nat.min_eq_left (by omega)]
    have hvl : ((c.toList.drop o).take (m * n)).length = rows.length * n := by
      have hcl : c.toList.length = c.size := Array.length_toList
      rw [List.length_take, List.length_drop, hcl, hrl]; omega
    have hblk : BlkRel P φ1 W ⟨b, o, c.size⟩ (.row false n rows) := by
      refine ⟨hn, hrn, c.toList.take o, (c.toList.drop o).take (m * n), c.toList.drop (o + m * n), ty, fr.1, fr.2, ?_, ?_, ?_, fun h => (by cases h), ?_, ?_, fun h => (by cases h)⟩
      · rw [hcc]
        congr 2
        rw [List.append_assoc, ← List.drop_drop, List.take_append_drop, List.take_append_drop]
      · rw [List.length_take, Array.length_toList]; show min o c.size = o; omega
      · rw [List.append_assoc, ← List.drop_drop, List.take_append_drop, List.take_append_drop, Array.length_toList]
      · refine vrels_flat hrn hvl fun i r hi => ?_
        have hlt : i < m := by rw [← hrl]; exact (List.getElem?_eq_some_iff.1 hi).1
        rw [hdt i hlt]
        exact (hr i r hi).1
      · intro v hv
        obtain ⟨j, hj, rfl⟩ := List.mem_iff_getElem.1 hv
        rw [hvl] at hj
        have hq : j / n < m := by rw [Nat.div_lt_iff_lt_mul hn, ← hrl]; exact hj
        have h3 := (hr (j / n) _ (List.getElem?_eq_getElem (show j / n < rows.length by omega))).2.2.1
        refine h3 _ ?_
        rw [← hdt _ hq]
        refine List.mem_iff_getElem?.2 ⟨j % n, ?_⟩
        have e2 : j / n * n + j % n = j := by rw [Nat.mul_comm]; exact Nat.div_add_mod ..
        rw [List.getElem?_take_of_lt (Nat.mod_lt _ hn), List.getElem?_drop, e2]
        exact List.getElem?_eq_getElem _
    obtain ⟨hw2, hro2, hle2⟩ := WRel.arg hw1 hro1 (a := ⟨b, o, c.size⟩) (b := .row false n rows) hblk hb (fun h => by cases h)
    have hxl : (rows.take len).length = len := by rw [List.length_take]; omega
    have hend : ((H.ext l).add (.row false n rows)) = H.ext (l ++ [.row false n rows]) := by rw [← Heap.ext_append]; rfl
    rw [hend] at hw2 hro2
    refine ⟨_, l ++ [Blk.row false n rows], [.slice (H.ext l).nx 0 len n true m], hw2, hro2, fun k x h => hle2 _ _ (hle1 _ _ h), ?_, rfl, hone, _, rows.take len, rfl, .inr ⟨(H.ext l).nx, 0, true, m, by rw [hxl], ?_, fun _ => ⟨0, false, rows, by simp, ?_, ?_⟩⟩, fun r hrm => ?_, ?_⟩
    · exact .cons _ _ _ _ (VRel.slice (H.ext l).nx 0 len n true m ⟨b, o, c.size⟩ m (Phi.put_same _ _ _) (fun _ => rfl) (Nat.le_refl _) hlc hsz) .nil
    · rw [← hend]; exact K.lt_succ _
    · rw [← hend, Heap.get_add, if_pos rfl]
    · rw [List.drop_zero, hxl]
    · obtain ⟨i, hi⟩ := List.mem_iff_getElem?.1 (List.mem_of_mem_take hrm)
      have := h.mono _ _ [.row false n rows] (hr i r hi).2.2.2
      rwa [Heap.ext_append] at this
    · rw [hxl]; unfold maxLen at hmax; omega
end
end Go.Ev
