/- part. -/
import Derived.Test.YtglpihajimhekaaGreatDoorZ14
import Derived.Deep.Slices
set_option linter.all false
namespace Go.Ev
open Go.ChangeShapes Go.WideShapes Go.RowKit
variable {P : Program}
inductive PK where
 | str
 | int (k : IntKind)
 | bool
def PK.ty (P : Program) (t : TypeId) : PK → Prop
 | .str => P.underlying t = some .string
 | .int k => P.underlying t = some (.int k)
 | .bool => P.underlying t = some .bool
inductive KOf : PK → AV → Prop
 | str (l : List Nat) (h : l.length ≤ 9223372036854775807) : KOf .str (.str l)
 | int (k : IntKind) (n : Int) (h : (Lit.int k n).wf = true) : KOf (.int k) (.int k n)
 | bool (b : Bool) : KOf .bool (.bool b)
def RowOf (ks : List PK) (row : List AV) : Prop := row.length = ks.length ∧ ∀ (i : Nat) (k : PK) (v : AV), ks[i]? = some k → row[i]? = some v → KOf k v
section
variable {HH : Type} {enc : TypeId × Value → HH} {w : World} {base : Nat} {sp : Nat → Bool} {held : Bool} {fuel : Nat} {t : TypeId} {cs : List Value} {x : DataW HH × List MemPlace}
theorem open_prim {k : PK} (hk : k.ty P t) (h : DataW.trod enc P w base sp held fuel t cs = some x) : ∃ v av, cs = [v] ∧ (∀ φ, VRel P φ av v) ∧ v.oneCell' = true ∧ KOf k av := by
 cases k with
 | str =>
  obtain ⟨s, rfl, _, hs⟩ := DataW.trod_string hk h
  refine ⟨_, .str (s.data.toList.map (·.toNat)), rfl, fun φ => .str _ _ rfl, rfl, .str _ ?_⟩
  rw [List.length_map]
  exact hs
 | int k =>
  obtain ⟨n, rfl, _, hn⟩ := DataW.trod_int hk h
  exact ⟨_, .int k n, rfl, fun φ => .int _ _, rfl, .int _ _ hn⟩
 | bool =>
  obtain ⟨b, rfl, _⟩ := DataW.trod_bool hk h
  exact ⟨_, .bool b, rfl, fun φ => .bool _, rfl, .bool _⟩
end
theorem WRel.arg {φ : Phi} {H : Heap} {w : World} (hw : WRel P φ H w) (hro : ∀ k b, H.get k = some b → ¬ b.mayWrite) {a : At} {b : Blk} (hb : BlkRel P φ w a b) (ha : a.b < w.heap.size) (hm : ¬ b.mayWrite) :
  WRel P (φ.put H.nx a) (H.add b) w ∧ (∀ k c, (H.add b).get k = some c → ¬ c.mayWrite) ∧ φ.le (φ.put H.nx a) := by
 have hnone := hw.nx_none
 have hle := Phi.put_le φ H.nx a hnone
 have hsucc : H.nx.toNat < (H.add b).nx.toNat := K.lt_succ _
 have hput : ∀ j x, j ≠ H.nx → φ.put H.nx a j = some x → φ j = some x := by
  intro j x hj hx
  unfold Phi.put at hx
  rwa [if_neg hj] at hx
 have hro' : ∀ k c, (H.add b).get k = some c → ¬ c.mayWrite := by
  intro k c hk
  rw [Heap.get_add] at hk
  split at hk
  ·cases hk; exact hm
  ·exact hro k c hk
 refine ⟨⟨⟨?_, ?_, ?_, ?_, ?_⟩, fun g v hm => ⟨(hw.rom g v hm).1, fun ⟨j, c, y, hj, hc, hy, e⟩ => hro' j c hj hc⟩⟩, hro', hle⟩
 ·intro j x hx
  by_cases e : j = H.nx
  ·subst e; exact hsucc
  ·exact Nat.lt_trans (hw.dom j x (hput j x e hx)) hsucc
 ·intro j c hj
  rw [Heap.get_add] at hj
  split at hj
  ·rename_i e; subst e; exact hsucc
  ·exact Nat.lt_trans (hw.top j c hj) hsucc
 ·intro j c x hj hx
  rw [Heap.get_add] at hj
  split at hj
  ·rename_i e; subst e
   cases hj
   rw [Phi.put_same] at hx; cases hx
   exact hb.mono hle
  ·rename_i e
   exact (hw.blk j c x hj (hput j x (fun h => e h.symm) hx)).mono hle
 ·intro i j c d x y _ hi _ _ _ _ _ _
  exact hro' i c hi
 ·intro k x hx
  by_cases e : k = H.nx
  ·subst e
   rw [Phi.put_same] at hx; cases hx
   exact ha
  ·exact hw.size k x (hput k x e hx)
noncomputable def noHeap : Heap := .mk .z .lf
theorem noHeap_rel (w : World) (hr : ∀ g v, (g, v) ∈ romOf → w.cell? ⟨g, 0, none⟩ = some v) : WRel P (fun _ => none) noHeap w :=
 ⟨⟨fun k a h => (by cases h), fun k b h => (by cases k <;> cases h), fun k b a h => (by cases k <;> cases h), fun j k c d x y _ h => (by cases j <;> cases h), fun k a h => (by cases h)⟩, fun g v hm => ⟨hr g v hm, fun ⟨j, c, y, hj, _⟩ => by cases j <;> cases hj⟩⟩
theorem noHeap_ro : ∀ k b, noHeap.get k = some b → ¬ b.mayWrite := fun k b h => by cases k <;> cases h
end Go.Ev
namespace Go.Ev
open Go.ChangeShapes Go.WideShapes Go.RowKit Go.Deep
variable {P : Program}
theorem vrels_flat {φ : Phi} {n : Nat} : ∀ {rows : List (List AV)} {vs : List Value}, (∀ r ∈ rows, r.length = n) → vs.length = rows.length * n → (∀ (i : Nat) (r : List AV), rows[i]? = some r → VRels P φ r ((vs.drop (i * n)).take n)) → VRels P φ rows.flatten vs
 | [], vs, _, hl, _ => by
  obtain rfl : vs = [] := List.length_eq_zero_iff.1 (by simpa using hl)
  exact .nil
 | r :: rows, vs, hr, hl, h => by
  have h0 := h 0 r rfl
  rw [Nat.zero_mul, List.drop_zero] at h0
  have ih := vrels_flat (rows := rows) (vs := vs.drop n) (fun x hx => hr x (by simp [hx])) (by rw [List.length_drop, hl, List.length_cons, Nat.add_mul, Nat.one_mul, Nat.add_sub_cancel]) (fun i x hx => by
   have := h (i + 1) x (by simpa using hx)
   rwa [show (i + 1) * n = n + i * n by rw [Nat.add_mul, Nat.one_mul, Nat.add_comm], ← List.drop_drop] at this)
  rw [List.flatten_cons, ← List.take_append_drop n vs]
  exact h0.append ih
theorem slice_forms {W : World} {r : Reach} {base : Nat} {t e : TypeId} {v : Value} (ht : P.underlying t = some (.slice e)) (hval : Value.okWide P W r base t v) :
  v = .slice none 0 0 ∨ ∃ b o len cap, v = .slice (some ⟨b, o, none⟩) len cap ∧ len ≤ cap ∧ b < W.heap.size := by
 obtain ⟨a, len, cap, rfl⟩ := okWide_slice ht hval
 simp only [Value.okWide, ht, Cell.okWide] at hval
 cases a with
 | none =>
  cases len <;> cases cap <;> simp_all [Cell.ok]
 | some a =>
  simp only [Cell.ok, ht, World.has] at hval
  obtain ⟨h1, _, _, h3, row, cells, h4, _⟩ := hval
  obtain ⟨b, o, s⟩ := a
  simp only at h3
  subst h3
  refine .inr ⟨b, o, len, cap, rfl, h1, ?_⟩
  unfold World.shape? at h4
  rcases hh : W.heap[b]? with _ | z
  ·simp only [hh] at h4; cases h4
  ·exact (Array.getElem?_eq_some_iff.1 hh).1
theorem cells_at {W : World} {b o n : Nat} {cs : List Value} (h : W.cells? 0 ⟨b, o, none⟩ n = some cs) (hn : 0 < n) :
  ∃ c ty fr, W.heap[b]? = some (.cells c ty fr) ∧ o + n ≤ c.size ∧ (c.toList.drop o).take n = cs := by
 obtain ⟨_, hl, hc⟩ := World.cells?_some h
 have h0 := hc 0 hn
 rw [List.getElem?_eq_getElem (by omega)] at h0
 have key : ∀ i, (⟨b, o, none⟩ : Addr).add i = ⟨b, o + i, none⟩ := by
  intro i
  unfold Addr.add
  split
  ·rename_i e; subst e; rfl
  ·rfl
 rw [key] at h0
 unfold World.cell? at h0
 rcases hh : W.heap[b]? with _ | z
 ·simp only [hh] at h0; cases h0
 ·cases z with
  | cells c ty fr =>
   have hc' : ∀ i, i < n → c[o + i]? = cs[i]? := by
    intro i hi
    rw [← hc i hi, key]
    unfold World.cell?
    simp only [hh, Option.isSome_none, Bool.false_eq_true, if_false]
   have hlast := hc' (n - 1) (by omega)
   rw [List.getElem?_eq_getElem (by omega)] at hlast
   have hsz := (Array.getElem?_eq_some_iff.1 hlast).1
   refine ⟨c, ty, fr, rfl, by omega, ?_⟩
   apply List.ext_getElem?
   intro i
   rcases Nat.lt_or_ge i n with hi | hi
   ·rw [List.getElem?_take_of_lt hi, List.getElem?_drop, Array.getElem?_toList, hc' i hi]
   ·rw [List.getElem?_eq_none (by rw [List.length_take]; omega), List.getElem?_eq_none (by omega)]
  | _ => simp only [hh] at h0; cases h0
theorem open_rows {HH : Type} {enc : TypeId × Value → HH} {W : World} {r : Reach} {base : Nat} {t e : TypeId} {v : Value} {d : DataW HH} {p : List MemPlace} {ks : List PK}
  (ht : P.underlying t = some (.slice e)) (hks : 0 < ks.length) (hce : P.cellsOf e = ks.length)
  (hflat : ∀ (n : Nat) (cs : List Value) (x : DataW HH × List MemPlace), DataW.trod enc P W 0 (fun _ => true) true n e cs = some x → ∃ row, (∀ φ, VRels P φ row cs) ∧ cs.length = ks.length ∧ (∀ v ∈ cs, v.oneCell' = true) ∧ RowOf ks row)
  (hval : Value.okWide P W r base t v) (h : DataW.Trod enc P W 0 (fun _ => true) true t v d p)
  {φ : Phi} {H : Heap} (hw : WRel P φ H W) (hro : ∀ k b, H.get k = some b → ¬ b.mayWrite) :
  ∃ φ' l av xs, WRel P φ' (H.ext l) W ∧ (∀ k b, (H.ext l).get k = some b → ¬ b.mayWrite) ∧ φ.le φ' ∧ VRel P φ' av v ∧ Arr (H.ext l) ks.length av xs ∧ (∀ r ∈ xs, RowOf ks r) ∧ xs.length ≤ 9223372036854775807 := by
 rcases slice_forms ht hval with rfl | ⟨b, o, len, cap, rfl, hlc, hb⟩
 ·exact ⟨φ, [], .nils, [], hw, hro, fun _ _ h => h, .nils, .inl ⟨rfl, rfl⟩, by simp, by simp⟩
 obtain ⟨fuel, hf⟩ := h
 rcases open_slice ht hf with ⟨hcs, _⟩ | ⟨a, len', cap', m, n, D, Pl, hcs, _, _, hmax, hm, _, hel⟩
 ·simp [Value.cells] at hcs
 simp [Value.cells] at hcs
 obtain ⟨rfl, rfl, rfl⟩ := hcs
 simp only [if_true] at hm
 subst hm
 rcases Nat.eq_zero_or_pos m with h0 | h0
 ·subst h0
  obtain rfl : len = 0 := by omega
  obtain ⟨hw1, hro1, hle⟩ := WRel.arg hw hro (a := ⟨b, o, 0⟩) (b := .dead) trivial hb (fun h => h)
  refine ⟨_, [.dead], .slice H.nx 0 0 ks.length true 0, [], hw1, hro1, hle, .sliceE _ _ _ _ ⟨b, o, 0⟩ ⟨b, o, none⟩ (Phi.put_same _ _ _), .inr ⟨H.nx, 0, true, 0, rfl, ?_, fun h => absurd rfl h⟩, by simp, by simp⟩
  rw [Heap.nx_ext, Heap.toNat_key]; simp
 ·have key : ∀ i, (⟨b, o, none⟩ : Addr).add i = ⟨b, o + i, none⟩ := by
   intro i
   unfold Addr.add
   split
   ·rename_i e; subst e; rfl
   ·rfl
  have hel' : ∀ i, i < m → ∃ row c ty fr, W.heap[b]? = some (.cells c ty fr) ∧ o + i * ks.length + ks.length ≤ c.size ∧ (∀ φ, VRels P φ row ((c.toList.drop (o + i * ks.length)).take ks.length)) ∧ (∀ v ∈ (c.toList.drop (o + i * ks.length)).take ks.length, v.oneCell' = true) ∧ RowOf ks row := by
   intro i hi
   obtain ⟨cs', h1, h2⟩ := hel i hi
   rw [hce, key] at h1
   obtain ⟨c, ty, fr, hc, hsz, rfl⟩ := cells_at h1 hks
   obtain ⟨row, r1, _, r3, r4⟩ := hflat _ _ _ h2
   exact ⟨row, c, ty, fr, hc, hsz, r1, r3, r4⟩
  obtain ⟨_, c, ty, fr, hc, _⟩ := hel' 0 h0
  have hel2 : ∀ i, i < m → ∃ row, o + i * ks.length + ks.length ≤ c.size ∧ (∀ φ, VRels P φ row ((c.toList.drop (o + i * ks.length)).take ks.length)) ∧ (∀ v ∈ (c.toList.drop (o + i * ks.length)).take ks.length, v.oneCell' = true) ∧ RowOf ks row := by
   intro i hi
   obtain ⟨row, c', ty', fr', hc', h⟩ := hel' i hi
   rw [hc] at hc'; cases hc'
   exact ⟨row, h⟩
  have hrows : ∃ rows : List (List AV), rows.length = m ∧ ∀ (i : Nat) (row : List AV), rows[i]? = some row → o + i * ks.length + ks.length ≤ c.size ∧ (∀ φ, VRels P φ row ((c.toList.drop (o + i * ks.length)).take ks.length)) ∧ (∀ v ∈ (c.toList.drop (o + i * ks.length)).take ks.length, v.oneCell' = true) ∧ RowOf ks row := by
   refine ⟨List.ofFn (n := m) fun i => Classical.choose (hel2 i.1 i.2), by simp, fun i row hi => ?_⟩
   rw [List.getElem?_ofFn] at hi
   split at hi
   ·rename_i hlt
    cases hi
    exact Classical.choose_spec (hel2 i hlt)
   ·cases hi
  obtain ⟨rows, hrl, hr⟩ := hrows
  have hall : ∀ row ∈ rows, RowOf ks row := by
   intro row hrow
   obtain ⟨i, hi, rfl⟩ := List.mem_iff_getElem.1 hrow
   exact (hr i _ (List.getElem?_eq_getElem hi)).2.2.2
  have hsz : o + m * ks.length ≤ c.size := by
   have h1 := (hr (m - 1) _ (List.getElem?_eq_getElem (show m - 1 < rows.length by omega))).1
   have h2 : m * ks.length = (m - 1) * ks.length + ks.length := by
    rw [show m = m - 1 + 1 by omega, Nat.add_mul, Nat.one_mul, Nat.add_sub_cancel]
   omega
  have hdt : ∀ i, i < m → (((c.toList.drop o).take (m * ks.length)).drop (i * ks.length)).take ks.length = (c.toList.drop (o + i * ks.length)).take ks.length := by
   intro i hi
   have h2 : i * ks.length + ks.length ≤ m * ks.length := by
    have := Nat.mul_le_mul_right ks.length (show i + 1 ≤ m by omega)
    rwa [Nat.add_mul, Nat.one_mul] at this
   rw [List.drop_take, List.take_take, List.drop_drop, Nat.min_eq_left (by omega)]
  have hvl : ((c.toList.drop o).take (m * ks.length)).length = rows.length * ks.length := by
   have hcl : c.toList.length = c.size := Array.length_toList
   rw [List.length_take, List.length_drop, hcl, hrl]; omega
  have hblk : BlkRel P φ W ⟨b, o, c.size⟩ (.row false ks.length rows) := by
   refine ⟨hks, fun r hr => (hall r hr).1, c.toList.take o, (c.toList.drop o).take (m * ks.length), c.toList.drop (o + m * ks.length), ty, fr.1, fr.2, ?_, ?_, ?_, fun h => (by cases h), ?_, ?_, fun h => (by cases h)⟩
   ·rw [hc]
    congr 2
    rw [List.append_assoc, ← List.drop_drop, List.take_append_drop, List.take_append_drop]
   ·rw [List.length_take, Array.length_toList]; show min o c.size = o; omega
   ·rw [List.append_assoc, ← List.drop_drop, List.take_append_drop, List.take_append_drop, Array.length_toList]
   ·refine vrels_flat (fun r hr => (hall r hr).1) hvl fun i r hi => ?_
    have hlt : i < m := by rw [← hrl]; exact (List.getElem?_eq_some_iff.1 hi).1
    rw [hdt i hlt]
    exact (hr i r hi).2.1 φ
   ·intro v hv
    obtain ⟨j, hj, rfl⟩ := List.mem_iff_getElem.1 hv
    rw [hvl] at hj
    have hq : j / ks.length < m := by rw [Nat.div_lt_iff_lt_mul hks, ← hrl]; exact hj
    have h3 := (hr (j / ks.length) _ (List.getElem?_eq_getElem (show j / ks.length < rows.length by omega))).2.2.1
    refine h3 _ ?_
    rw [← hdt _ hq]
    refine List.mem_iff_getElem?.2 ⟨j % ks.length, ?_⟩
    have e2 : j / ks.length * ks.length + j % ks.length = j := by rw [Nat.mul_comm]; exact Nat.div_add_mod ..
    rw [List.getElem?_take_of_lt (Nat.mod_lt _ hks), List.getElem?_drop, e2]
    exact List.getElem?_eq_getElem _
  obtain ⟨hw1, hro1, hle⟩ := WRel.arg hw hro (a := ⟨b, o, c.size⟩) (b := .row false ks.length rows) hblk hb (fun h => by cases h)
  have hxl : (rows.take len).length = len := by rw [List.length_take]; omega
  refine ⟨_, [.row false ks.length rows], .slice H.nx 0 len ks.length true m, rows.take len, hw1, hro1, hle, ?_, .inr ⟨H.nx, 0, true, m, by rw [hxl], ?_, fun _ => ⟨0, false, rows, by simp, ?_, ?_⟩⟩, fun r hr => hall r (List.mem_of_mem_take hr), ?_⟩
  ·exact VRel.slice H.nx 0 len ks.length true m ⟨b, o, c.size⟩ m (Phi.put_same _ _ _) (fun _ => rfl) (Nat.le_refl _) hlc hsz
  ·rw [Heap.nx_ext, Heap.toNat_key]; simp
  ·rw [Heap.ext_one, Heap.get_add, if_pos rfl]
  ·rw [List.drop_zero, hxl]
  ·rw [hxl]; unfold maxLen at hmax; omega
end Go.Ev
