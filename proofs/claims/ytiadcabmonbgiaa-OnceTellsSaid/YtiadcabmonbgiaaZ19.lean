/- What is given to a law: opened into the evaluator's memory. -/
import Derived.Test.YtiadcabmonbgiaaZ18
import Derived.Deep.Slices
set_option linter.all false
namespace Go.Ev
open Go.ChangeShapes Go.WideShapes Go.RowKit
variable {P : Program}
/-- kinds of cells -/
inductive PK where
  | str
  | int (k : IntKind)
  | bool
def PK.ty (P : Program) (t : TypeId) : PK → Prop
  | .str => P.underlying t = some .string
  | .int k => P.underlying t = some (.int k)
  | .bool => P.underlying t = some .bool
inductive KOf : PK → AV → Prop
  | str (l : List Nat) (h : l.length ≤ 9223372036854775807) : KOf .str (.str l)
  | int (k : IntKind) (n : Int) (h : (Lit.int k n).wf = true) : KOf (.int k) (.int k n)
  | bool (b : Bool) : KOf .bool (.bool b)
/-- a row of cells of such kinds -/
def RowOf (ks : List PK) (row : List AV) : Prop := row.length = ks.length ∧ ∀ (i : Nat) (k : PK) (v : AV), ks[i]? = some k → row[i]? = some v → KOf k v
section
variable {HH : Type} {enc : TypeId × Value → HH} {w : World} {base : Nat} {sp : Nat → Bool} {held : Bool} {fuel : Nat} {t : TypeId} {cs : List Value} {x : DataW HH × List MemPlace}
theorem open_prim {k : PK} (hk : k.ty P t) (h : DataW.trod enc P w base sp held fuel t cs = some x) : ∃ v av, cs = [v] ∧ (∀ φ, VRel P φ av v) ∧ v.oneCell' = true ∧ KOf k av := by
  cases k with
  | str =>
    obtain ⟨s, rfl, _, hs⟩ := DataW.trod_string hk h
    refine ⟨_, .str (s.data.toList.map (·.toNat)), rfl, fun φ => .str _ _ rfl, rfl, .str _ ?_⟩
    rw [List.length_map]
    exact hs
  | int k =>
    obtain ⟨n, rfl, _, hn⟩ := DataW.trod_int hk h
    exact ⟨_, .int k n, rfl, fun φ => .int _ _, rfl, .int _ _ hn⟩
  | bool =>
    obtain ⟨b, rfl, _⟩ := DataW.trod_bool hk h
    exact ⟨_, .bool b, rfl, fun φ => .bool _, rfl, .bool _⟩
theorem vrels_of_get {φ : Phi} : ∀ {l : List AV} {l' : List Value}, l.length = l'.length → (∀ (i : Nat) (v : AV) (v' : Value), l[i]? = some v → l'[i]? = some v' → VRel P φ v v') → VRels P φ l l'
  | [], [], _, _ => .nil
  | v :: l, v' :: l', hl, h => .cons _ _ _ _ (h 0 v v' rfl rfl) (vrels_of_get (by simpa using hl) fun i a b ha hb => h (i + 1) a b (by simpa using ha) (by simpa using hb))
  | [], _ :: _, h, _ => by simp at h
  | _ :: _, [], h, _ => by simp at h
/-- a struct whose fields are a cell each -/
structure Flat (P : Program) (t : TypeId) (ks : List PK) : Prop where
  st : ∃ fs : Array Field, P.underlying t = some (.struct fs) ∧ fs.size = ks.length ∧ ∀ (i : Nat) (f : Field), fs[i]? = some f → f.offset = i ∧ P.cellsOf f.type = 1 ∧ ∃ k, ks[i]? = some k ∧ k.ty P f.type
  cells : P.cellsOf t = ks.length
theorem open_flat {ks : List PK} (hf : Flat P t ks) (h : DataW.trod enc P w base sp held fuel t cs = some x) :
    ∃ row, (∀ φ, VRels P φ row cs) ∧ cs.length = ks.length ∧ (∀ v ∈ cs, v.oneCell' = true) ∧ RowOf ks row := by
  obtain ⟨fs, ht, hn, hfs⟩ := hf.st
  obtain ⟨xs, n, _, _, hcl, hxl, hx⟩ := DataW.trod_struct ht h
  rw [hf.cells] at hcl
  have each : ∀ i : Nat, i < ks.length → ∃ av, ∃ v, cs[i]? = some v ∧ (∀ φ, VRel P φ av v) ∧ v.oneCell' = true ∧ ∃ k, ks[i]? = some k ∧ KOf k av := by
    intro i hi
    have hfi : fs[i]? = some fs[i] := Array.getElem?_eq_getElem (by omega)
    obtain ⟨h1, h2, k, h3, h4⟩ := hfs i _ hfi
    have hxi := hx i _ hfi
    rw [h1, h2, List.getElem?_eq_getElem (by omega)] at hxi
    obtain ⟨v, av, he, hv, ho, hk⟩ := open_prim h4 hxi
    refine ⟨av, v, ?_, hv, ho, k, h3, hk⟩
    have : (cs.drop i)[0]? = some v := by
      have e : ((cs.drop i).take 1)[0]? = some v := by rw [he]; rfl
      rwa [List.getElem?_take_of_lt (by omega)] at e
    rwa [List.getElem?_drop, Nat.add_zero] at this
  have hrow : ∃ row : List AV, row.length = ks.length ∧ ∀ (i : Nat) (av : AV), row[i]? = some av → ∃ v, cs[i]? = some v ∧ (∀ φ, VRel P φ av v) ∧ v.oneCell' = true ∧ ∃ k, ks[i]? = some k ∧ KOf k av := by
    refine ⟨List.ofFn (n := ks.length) fun i => Classical.choose (each i.1 i.2), by simp, fun i av hi => ?_⟩
    rw [List.getElem?_ofFn] at hi
    split at hi
    · rename_i hlt
      cases hi
      exact Classical.choose_spec (each i hlt)
    · cases hi
  obtain ⟨row, hrl, hr⟩ := hrow
  refine ⟨row, fun φ => vrels_of_get (by omega) ?_, hcl, ?_, hrl, ?_⟩
  · intro i v v' hi hi'
    obtain ⟨u, hu, hv, _⟩ := hr i v hi
    rw [hi'] at hu; cases hu
    exact hv φ
  · intro v hv
    obtain ⟨i, hi, rfl⟩ := List.mem_iff_getElem.1 hv
    obtain ⟨u, hu, _, ho, _⟩ := hr i _ (List.getElem?_eq_getElem (show i < row.length by omega))
    rw [List.getElem?_eq_getElem hi] at hu; cases hu
    exact ho
  · intro i k v hk hi
    obtain ⟨_, _, _, _, k', hk', h⟩ := hr i v hi
    rw [hk] at hk'; cases hk'
    exact h
end
/-- one more block that is only read -/
theorem WRel.arg {φ : Phi} {H : Heap} {w : World} (hw : WRel P φ H w) (hro : ∀ k b, H.get k = some b → ¬ b.mayWrite) {a : At} {b : Blk} (hb : BlkRel P φ w a b) (ha : a.b < w.heap.size) (hm : ¬ b.mayWrite) :
    WRel P (φ.put H.nx a) (H.add b) w ∧ (∀ k c, (H.add b).get k = some c → ¬ c.mayWrite) ∧ φ.le (φ.put H.nx a) := by
  have hnone := hw.nx_none
  have hle := Phi.put_le φ H.nx a hnone
  have hsucc : H.nx.toNat < (H.add b).nx.toNat := K.lt_succ _
  have hput : ∀ j x, j ≠ H.nx → φ.put H.nx a j = some x → φ j = some x := by
    intro j x hj hx
    unfold Phi.put at hx
    rwa [if_neg hj] at hx
  have hro' : ∀ k c, (H.add b).get k = some c → ¬ c.mayWrite := by
    intro k c hk
    rw [Heap.get_add] at hk
    split at hk
    · cases hk; exact hm
    · exact hro k c hk
  refine ⟨⟨?_, ?_, ?_, ?_, ?_⟩, hro', hle⟩
  · intro j x hx
    by_cases e : j = H.nx
    · subst e; exact hsucc
    · exact Nat.lt_trans (hw.dom j x (hput j x e hx)) hsucc
  · intro j c hj
    rw [Heap.get_add] at hj
    split at hj
    · rename_i e; subst e; exact hsucc
    · exact Nat.lt_trans (hw.top j c hj) hsucc
  · intro j c x hj hx
    rw [Heap.get_add] at hj
    split at hj
    · rename_i e; subst e
      cases hj
      rw [Phi.put_same] at hx; cases hx
      exact hb.mono hle
    · rename_i e
      exact (hw.blk j c x hj (hput j x (fun h => e h.symm) hx)).mono hle
  · intro i j c d x y _ hi _ _ _ _ _ _
    exact hro' i c hi
  · intro k x hx
    by_cases e : k = H.nx
    · subst e
      rw [Phi.put_same] at hx; cases hx
      exact ha
    · exact hw.size k x (hput k x e hx)
noncomputable def noHeap : Heap := .mk .z .lf
theorem noHeap_rel (w : World) : WRel P (fun _ => none) noHeap w :=
  ⟨fun k a h => (by cases h), fun k b h => (by cases k <;> cases h), fun k b a h => (by cases k <;> cases h), fun j k c d x y _ h => (by cases j <;> cases h), fun k a h => (by cases h)⟩
theorem noHeap_ro : ∀ k b, noHeap.get k = some b → ¬ b.mayWrite := fun k b h => by cases k <;> cases h
end Go.Ev
/- A slice that is given to a law, opened. -/

set_option linter.all false
namespace Go.Ev
open Go.ChangeShapes Go.WideShapes Go.RowKit Go.Deep
variable {P : Program}
theorem vrels_flat {φ : Phi} {n : Nat} : ∀ {rows : List (List AV)} {vs : List Value}, (∀ r ∈ rows, r.length = n) → vs.length = rows.length * n → (∀ (i : Nat) (r : List AV), rows[i]? = some r → VRels P φ r ((vs.drop (i * n)).take n)) → VRels P φ rows.flatten vs
  | [], vs, _, hl, _ => by
    obtain rfl : vs = [] := List.length_eq_zero_iff.1 (by simpa using hl)
    exact .nil
  | r :: rows, vs, hr, hl, h => by
    have h0 := h 0 r rfl
    rw [Nat.zero_mul, List.drop_zero] at h0
    have ih := vrels_flat (rows := rows) (vs := vs.drop n) (fun x hx => hr x (by simp [hx])) (by rw [List.length_drop, hl, List.length_cons, Nat.add_mul, Nat.one_mul, Nat.add_sub_cancel]) (fun i x hx => by
      have := h (i + 1) x (by simpa using hx)
      rwa [show (i + 1) * n = n + i * n by rw [Nat.add_mul, Nat.one_mul, Nat.add_comm], ← List.drop_drop] at this)
    rw [List.flatten_cons, ← List.take_append_drop n vs]
    exact h0.append ih
theorem slice_forms {W : World} {r : Reach} {base : Nat} {t e : TypeId} {v : Value} (ht : P.underlying t = some (.slice e)) (hval : Value.okWide P W r base t v) :
    v = .slice none 0 0 ∨ ∃ b o len cap, v = .slice (some ⟨b, o, none⟩) len cap ∧ len ≤ cap ∧ b < W.heap.size := by
  obtain ⟨a, len, cap, rfl⟩ := okWide_slice ht hval
  simp only [Value.okWide, ht, Cell.okWide] at hval
  cases a with
  | none =>
    cases len <;> cases cap <;> simp_all [Cell.ok]
  | some a =>
    simp only [Cell.ok, ht, World.has] at hval
    obtain ⟨h1, _, _, h3, row, cells, h4, _⟩ := hval
    obtain ⟨b, o, s⟩ := a
    simp only at h3
    subst h3
    refine .inr ⟨b, o, len, cap, rfl, h1, ?_⟩
    unfold World.shape? at h4
    rcases hh : W.heap[b]? with _ | z
    · simp only [hh] at h4; cases h4
    · exact (Array.getElem?_eq_some_iff.1 hh).1
theorem cells_at {W : World} {b o n : Nat} {cs : List Value} (h : W.cells? 0 ⟨b, o, none⟩ n = some cs) (hn : 0 < n) :
    ∃ c ty fr, W.heap[b]? = some (.cells c ty fr) ∧ o + n ≤ c.size ∧ (c.toList.drop o).take n = cs := by
  obtain ⟨_, hl, hc⟩ := World.cells?_some h
  have h0 := hc 0 hn
  rw [List.getElem?_eq_getElem (by omega)] at h0
  have key : ∀ i, (⟨b, o, none⟩ : Addr).add i = ⟨b, o + i, none⟩ := by
    intro i
    unfold Addr.add
    split
    · rename_i e; subst e; rfl
    · rfl
  rw [key] at h0
  unfold World.cell? at h0
  rcases hh : W.heap[b]? with _ | z
  · simp only [hh] at h0; cases h0
  · cases z with
    | cells c ty fr =>
      have hc' : ∀ i, i < n → c[o + i]? = cs[i]? := by
        intro i hi
        rw [← hc i hi, key]
        unfold World.cell?
        simp only [hh, Option.isSome_none, Bool.false_eq_true, if_false]
      have hlast := hc' (n - 1) (by omega)
      rw [List.getElem?_eq_getElem (by omega)] at hlast
      have hsz := (Array.getElem?_eq_some_iff.1 hlast).1
      refine ⟨c, ty, fr, rfl, by omega, ?_⟩
      apply List.ext_getElem?
      intro i
      rcases Nat.lt_or_ge i n with hi | hi
      · rw [List.getElem?_take_of_lt hi, List.getElem?_drop, Array.getElem?_toList, hc' i hi]
      · rw [List.getElem?_eq_none (by rw [List.length_take]; omega), List.getElem?_eq_none (by omega)]
    | _ => simp only [hh] at h0; cases h0
/-- A SLICE OF FLAT STRUCTS THAT IS GIVEN -/
theorem open_rows {HH : Type} {enc : TypeId × Value → HH} {W : World} {r : Reach} {base : Nat} {t e : TypeId} {v : Value} {d : DataW HH} {p : List MemPlace} {ks : List PK}
    (ht : P.underlying t = some (.slice e)) (hks : 0 < ks.length) (hce : P.cellsOf e = ks.length)
    (hflat : ∀ (n : Nat) (cs : List Value) (x : DataW HH × List MemPlace), DataW.trod enc P W 0 (fun _ => true) true n e cs = some x → ∃ row, (∀ φ, VRels P φ row cs) ∧ cs.length = ks.length ∧ (∀ v ∈ cs, v.oneCell' = true) ∧ RowOf ks row)
    (hval : Value.okWide P W r base t v) (h : DataW.Trod enc P W 0 (fun _ => true) true t v d p)
    {φ : Phi} {H : Heap} (hw : WRel P φ H W) (hro : ∀ k b, H.get k = some b → ¬ b.mayWrite) :
    ∃ φ' l av xs, WRel P φ' (H.ext l) W ∧ (∀ k b, (H.ext l).get k = some b → ¬ b.mayWrite) ∧ φ.le φ' ∧ VRel P φ' av v ∧ Arr (H.ext l) ks.length av xs ∧ (∀ r ∈ xs, RowOf ks r) ∧ xs.length ≤ 9223372036854775807 := by
  rcases slice_forms ht hval with rfl | ⟨b, o, len, cap, rfl, hlc, hb⟩
  · exact ⟨φ, [], .nils, [], hw, hro, fun _ _ h => h, .nils, .inl ⟨rfl, rfl⟩, by simp, by simp⟩
  obtain ⟨fuel, hf⟩ := h
  rcases open_slice ht hf with ⟨hcs, _⟩ | ⟨a, len', cap', m, n, D, Pl, hcs, _, _, hmax, hm, _, hel⟩
  · simp [Value.cells] at hcs
  simp [Value.cells] at hcs
  obtain ⟨rfl, rfl, rfl⟩ := hcs
  simp only [if_true] at hm
  subst hm
  rcases Nat.eq_zero_or_pos m with h0 | h0
  · subst h0
    obtain rfl : len = 0 := by omega
    obtain ⟨hw1, hro1, hle⟩ := WRel.arg hw hro (a := ⟨b, o, 0⟩) (b := .dead) trivial hb (fun h => h)
    refine ⟨_, [.dead], .slice H.nx 0 0 ks.length true 0, [], hw1, hro1, hle, .sliceE _ _ _ _ ⟨b, o, 0⟩ ⟨b, o, none⟩ (Phi.put_same _ _ _), .inr ⟨H.nx, 0, true, 0, rfl, ?_, fun h => absurd rfl h⟩, by simp, by simp⟩
    rw [Heap.nx_ext, Heap.toNat_key]; simp
  · have key : ∀ i, (⟨b, o, none⟩ : Addr).add i = ⟨b, o + i, none⟩ := by
      intro i
      unfold Addr.add
      split
      · rename_i e; subst e; rfl
      · rfl
    have hel' : ∀ i, i < m → ∃ row c ty fr, W.heap[b]? = some (.cells c ty fr) ∧ o + i * ks.length + ks.length ≤ c.size ∧ (∀ φ, VRels P φ row ((c.toList.drop (o + i * ks.length)).take ks.length)) ∧ (∀ v ∈ (c.toList.drop (o + i * ks.length)).take ks.length, v.oneCell' = true) ∧ RowOf ks row := by
      intro i hi
      obtain ⟨cs', h1, h2⟩ := hel i hi
      rw [hce, key] at h1
      obtain ⟨c, ty, fr, hc, hsz, rfl⟩ := cells_at h1 hks
      obtain ⟨row, r1, _, r3, r4⟩ := hflat _ _ _ h2
      exact ⟨row, c, ty, fr, hc, hsz, r1, r3, r4⟩
    obtain ⟨_, c, ty, fr, hc, _⟩ := hel' 0 h0
    have hel2 : ∀ i, i < m → ∃ row, o + i * ks.length + ks.length ≤ c.size ∧ (∀ φ, VRels P φ row ((c.toList.drop (o + i * ks.length)).take ks.length)) ∧ (∀ v ∈ (c.toList.drop (o + i * ks.length)).take ks.length, v.oneCell' = true) ∧ RowOf ks row := by
      intro i hi
      obtain ⟨row, c', ty', fr', hc', h⟩ := hel' i hi
      rw [hc] at hc'; cases hc'
      exact ⟨row, h⟩
    have hrows : ∃ rows : List (List AV), rows.length = m ∧ ∀ (i : Nat) (row : List AV), rows[i]? = some row → o + i * ks.length + ks.length ≤ c.size ∧ (∀ φ, VRels P φ row ((c.toList.drop (o + i * ks.length)).take ks.length)) ∧ (∀ v ∈ (c.toList.drop (o + i * ks.length)).take ks.length, v.oneCell' = true) ∧ RowOf ks row := by
      refine ⟨List.ofFn (n := m) fun i => Classical.choose (hel2 i.1 i.2), by simp, fun i row hi => ?_⟩
      rw [List.getElem?_ofFn] at hi
      split at hi
      · rename_i hlt
        cases hi
        exact Classical.choose_spec (hel2 i hlt)
      · cases hi
    obtain ⟨rows, hrl, hr⟩ := hrows
    have hall : ∀ row ∈ rows, RowOf ks row := by
      intro row hrow
      obtain ⟨i, hi, rfl⟩ := List.mem_iff_getElem.1 hrow
      exact (hr i _ (List.getElem?_eq_getElem hi)).2.2.2
    have hsz : o + m * ks.length ≤ c.size := by
      have h1 := (hr (m - 1) _ (List.getElem?_eq_getElem (show m - 1 < rows.length by omega))).1
      have h2 : m * ks.length = (m - 1) * ks.length + ks.length := by
        rw [show m = m - 1 + 1 by omega, Nat.add_mul, Nat.one_mul, Nat.add_sub_cancel]
      omega
    have hdt : ∀ i, i < m → (((c.toList.drop o).take (m * ks.length)).drop (i * ks.length)).take ks.length = (c.toList.drop (o + i * ks.length)).take ks.length := by
      intro i hi
      have h2 : i * ks.length + ks.length ≤ m * ks.length := by
        have := Nat.mul_le_mul_right ks.length (show i + 1 ≤ m by omega)
        rwa [Nat.add_mul, Nat.one_mul] at this
      rw [List.drop_take, List.take_take, List.drop_drop, Nat.min_eq_left (by omega)]
    have hvl : ((c.toList.drop o).take (m * ks.length)).length = rows.length * ks.length := by
      have hcl : c.toList.length = c.size := Array.length_toList
      rw [List.length_take, List.length_drop, hcl, hrl]; omega
    have hblk : BlkRel P φ W ⟨b, o, c.size⟩ (.row false ks.length rows) := by
      refine ⟨hks, fun r hr => (hall r hr).1, c.toList.take o, (c.toList.drop o).take (m * ks.length), c.toList.drop (o + m * ks.length), ty, fr.1, fr.2, ?_, ?_, ?_, fun h => (by cases h), ?_, ?_, fun h => (by cases h)⟩
      · rw [hc]
        congr 2
        rw [List.append_assoc, ← List.drop_drop, List.take_append_drop, List.take_append_drop]
      · rw [List.length_take, Array.length_toList]; show min o c.size = o; omega
      · rw [List.append_assoc, ← List.drop_drop, List.take_append_drop, List.take_append_drop, Array.length_toList]
      · refine vrels_flat (fun r hr => (hall r hr).1) hvl fun i r hi => ?_
        have hlt : i < m := by rw [← hrl]; exact (List.getElem?_eq_some_iff.1 hi).1
        rw [hdt i hlt]
        exact (hr i r hi).2.1 φ
      · intro v hv
        obtain ⟨j, hj, rfl⟩ := List.mem_iff_getElem.1 hv
        rw [hvl] at hj
        have hq : j / ks.length < m := by rw [Nat.div_lt_iff_lt_mul hks, ← hrl]; exact hj
        have h3 := (hr (j / ks.length) _ (List.getElem?_eq_getElem (show j / ks.length < rows.length by omega))).2.2.1
        refine h3 _ ?_
        rw [← hdt _ hq]
        refine List.mem_iff_getElem?.2 ⟨j % ks.length, ?_⟩
        have e2 : j / ks.length * ks.length + j % ks.length = j := by rw [Nat.mul_comm]; exact Nat.div_add_mod ..
        rw [List.getElem?_take_of_lt (Nat.mod_lt _ hks), List.getElem?_drop, e2]
        exact List.getElem?_eq_getElem _
    obtain ⟨hw1, hro1, hle⟩ := WRel.arg hw hro (a := ⟨b, o, c.size⟩) (b := .row false ks.length rows) hblk hb (fun h => by cases h)
    have hxl : (rows.take len).length = len := by rw [List.length_take]; omega
    refine ⟨_, [.row false ks.length rows], .slice H.nx 0 len ks.length true m, rows.take len, hw1, hro1, hle, ?_, .inr ⟨H.nx, 0, true, m, by rw [hxl], ?_, fun _ => ⟨0, false, rows, by simp, ?_, ?_⟩⟩, fun r hr => hall r (List.mem_of_mem_take hr), ?_⟩
    · exact VRel.slice H.nx 0 len ks.length true m ⟨b, o, c.size⟩ m (Phi.put_same _ _ _) (fun _ => rfl) (Nat.le_refl _) hlc hsz
    · rw [Heap.nx_ext, Heap.toNat_key]; simp
    · rw [Heap.ext_one, Heap.get_add, if_pos rfl]
    · rw [List.drop_zero, hxl]
    · rw [hxl]; unfold maxLen at hmax; omega
end Go.Ev
/- What is given to a law, opened: slices within structs within slices. -/

set_option linter.all false
namespace Go.Ev
open Go.ChangeShapes Go.WideShapes Go.RowKit Go.Deep
variable {P : Program}
/-- nothing in it may be written -/
def RO (H : Heap) : Prop := ∀ k b, H.get k = some b → ¬ b.mayWrite
section
variable {HH : Type} (P) (enc : TypeId × Value → HH) (W : World)
/-- cells of a type, opened in any memory -/
structure Opens (e : TypeId) (n : Nat) (RR : Heap → List AV → Prop) : Prop where
  cells : P.cellsOf e = n
  mono : ∀ (H : Heap) (row : List AV) (l : List Blk), RR H row → RR (H.ext l) row
  run : ∀ (fuel : Nat) (cs : List Value) (x : DataW HH × List MemPlace), DataW.trod enc P W 0 (fun _ => true) true fuel e cs = some x → ((∃ a len cap, Value.slice (some a) len cap ∈ cs) → 0 < W.heap.size) → ∀ (φ : Phi) (H : Heap), WRel P φ H W → RO H →
    ∃ φ' l row, WRel P φ' (H.ext l) W ∧ RO (H.ext l) ∧ φ.le φ' ∧ VRels P φ' row cs ∧ cs.length = n ∧ (∀ v ∈ cs, v.oneCell' = true) ∧ RR (H.ext l) row
theorem Opens.prim {t : TypeId} {k : PK} (hk : k.ty P t) (hc : P.cellsOf t = 1) : Opens P enc W t 1 fun _ row => ∃ a, row = [a] ∧ KOf k a := by
  refine ⟨hc, fun _ _ _ h => h, fun fuel cs x h _ φ H hw hro => ?_⟩
  obtain ⟨v, av, rfl, hv, ho, hk⟩ := open_prim hk h
  exact ⟨φ, [], [av], by rw [Heap.ext_nil]; exact hw, by rw [Heap.ext_nil]; exact hro, fun _ _ h => h, .cons _ _ _ _ (hv φ) .nil, rfl, by simpa using ho, av, rfl, hk⟩
/-- fields one after the other -/
inductive OpF : Nat → List Field → Nat → (Heap → List AV → Prop) → Prop
  | nil (o : Nat) : OpF o [] 0 fun _ row => row = []
  | cons (o : Nat) (f : Field) (fs : List Field) (n m : Nat) (RR SS : Heap → List AV → Prop) (ho : f.offset = o) (h : Opens P enc W f.type n RR) (hs : OpF (o + n) fs m SS) : OpF o (f :: fs) (n + m) fun H row => ∃ a b, row = a ++ b ∧ RR H a ∧ SS H b
variable {P enc W}
theorem OpF.mono {o : Nat} {fs : List Field} {m : Nat} {SS : Heap → List AV → Prop} (h : OpF P enc W o fs m SS) : ∀ (H : Heap) (row : List AV) (l : List Blk), SS H row → SS (H.ext l) row := by
  induction h with
  | nil o => exact fun _ _ _ h => h
  | cons o f fs n m RR SS ho h hs ih =>
    rintro H row l ⟨a, b, rfl, h1, h2⟩
    exact ⟨a, b, rfl, h.mono H a l h1, ih H b l h2⟩
theorem OpF.run {fuel : Nat} {cs : List Value} {o : Nat} {fs : List Field} {m : Nat} {SS : Heap → List AV → Prop} (h : OpF P enc W o fs m SS)
    (hf : ∀ f ∈ fs, ∃ x, DataW.trod enc P W 0 (fun _ => true) true fuel f.type ((cs.drop f.offset).take (P.cellsOf f.type)) = some x) (h0 : (∃ a len cap, Value.slice (some a) len cap ∈ cs) → 0 < W.heap.size) : ∀ (φ : Phi) (H : Heap), WRel P φ H W → RO H →
    ∃ φ' l row, WRel P φ' (H.ext l) W ∧ RO (H.ext l) ∧ φ.le φ' ∧ VRels P φ' row ((cs.drop o).take m) ∧ ((cs.drop o).take m).length = m ∧ (∀ v ∈ (cs.drop o).take m, v.oneCell' = true) ∧ SS (H.ext l) row := by
  induction h with
  | nil o => exact fun φ H hw hro => ⟨φ, [], [], by rw [Heap.ext_nil]; exact hw, by rw [Heap.ext_nil]; exact hro, fun _ _ h => h, by rw [List.take_zero]; exact .nil, by rw [List.take_zero]; rfl, by rw [List.take_zero]; simp, rfl⟩
  | cons o f fs n m RR SS ho h hs ih =>
    intro φ H hw hro
    obtain ⟨x, hx⟩ := hf f (by simp)
    rw [ho, h.cells] at hx
    obtain ⟨φ1, l1, row1, hw1, hro1, hle1, hv1, hl1, ho1, hr1⟩ := h.run _ _ _ hx (fun ⟨a, len, cap, hm⟩ => h0 ⟨a, len, cap, List.mem_of_mem_drop (List.mem_of_mem_take hm)⟩) φ H hw hro
    obtain ⟨φ2, l2, row2, hw2, hro2, hle2, hv2, hl2, ho2, hr2⟩ := ih (fun g hg => hf g (by simp [hg])) φ1 _ hw1 hro1
    rw [Heap.ext_append] at hw2 hro2 hr2
    have hsplit : (cs.drop o).take (n + m) = (cs.drop o).take n ++ (cs.drop (o + n)).take m := by rw [List.take_add, List.drop_drop]
    refine ⟨φ2, l1 ++ l2, row1 ++ row2, hw2, hro2, fun k a h => hle2 _ _ (hle1 _ _ h), ?_, ?_, ?_, row1, row2, rfl, ?_, hr2⟩
    · rw [hsplit]; exact (hv1.mono hle2).append hv2
    · rw [hsplit, List.length_append, hl1, hl2]
    · rw [hsplit]
      intro v hv
      rcases List.mem_append.1 hv with hv | hv
      · exact ho1 v hv
      · exact ho2 v hv
    · have := h.mono _ _ l2 hr1
      rwa [Heap.ext_append] at this
theorem Opens.struct {t : TypeId} {fs : Array Field} {m : Nat} {SS : Heap → List AV → Prop} (ht : P.underlying t = some (.struct fs)) (hc : P.cellsOf t = m) (h : OpF P enc W 0 fs.toList m SS) : Opens P enc W t m SS := by
  refine ⟨hc, h.mono, fun fuel cs x hx h0 φ H hw hro => ?_⟩
  obtain ⟨xs, n, _, _, hcl, hxl, hxs⟩ := DataW.trod_struct ht hx
  have key := h.run (fuel := n) (cs := cs) (fun f hf => by
    obtain ⟨i, hi⟩ := List.mem_iff_getElem?.1 hf
    rw [Array.getElem?_toList] at hi
    have := hxs i f hi
    have hlt := (Array.getElem?_eq_some_iff.1 hi).1
    rw [List.getElem?_eq_getElem (by omega)] at this
    exact ⟨_, this⟩) h0 φ H hw hro
  rw [List.drop_zero, List.take_of_length_le (by omega)] at key
  obtain ⟨φ', l, row, h1, h2, h3, h4, h5, h6, h7⟩ := key
  exact ⟨φ', l, row, h1, h2, h3, h4, h5, h6, h7⟩
/-- elements one after the other -/
theorem Opens.each {e : TypeId} {n : Nat} {RR : Heap → List AV → Prop} (h : Opens P enc W e n RR) (h0 : 0 < W.heap.size) {c : List Value} {o : Nat} : ∀ (m : Nat), (∀ i, i < m → ∃ fuel x, DataW.trod enc P W 0 (fun _ => true) true fuel e ((c.drop (o + i * n)).take n) = some x) →
    ∀ (φ : Phi) (H : Heap), WRel P φ H W → RO H → ∃ φ' l, ∃ rows : List (List AV), WRel P φ' (H.ext l) W ∧ RO (H.ext l) ∧ φ.le φ' ∧ rows.length = m ∧
      ∀ (i : Nat) (row : List AV), rows[i]? = some row → VRels P φ' row ((c.drop (o + i * n)).take n) ∧ ((c.drop (o + i * n)).take n).length = n ∧ (∀ v ∈ (c.drop (o + i * n)).take n, v.oneCell' = true) ∧ RR (H.ext l) row
  | 0, _, φ, H, hw, hro => ⟨φ, [], [], by rw [Heap.ext_nil]; exact hw, by rw [Heap.ext_nil]; exact hro, fun _ _ h => h, rfl, fun i row h => by simp at h⟩
  | m + 1, he, φ, H, hw, hro => by
    obtain ⟨φ1, l1, rows, hw1, hro1, hle1, hl1, hr1⟩ := h.each h0 m (fun i hi => he i (by omega)) φ H hw hro
    obtain ⟨fuel, x, hx⟩ := he m (by omega)
    obtain ⟨φ2, l2, row, hw2, hro2, hle2, hv2, hl2, ho2, hr2⟩ := h.run _ _ _ hx (fun _ => h0) φ1 _ hw1 hro1
    rw [Heap.ext_append] at hw2 hro2 hr2
    refine ⟨φ2, l1 ++ l2, rows ++ [row], hw2, hro2, fun k a h => hle2 _ _ (hle1 _ _ h), by rw [List.length_append, hl1]; rfl, fun i r hi => ?_⟩
    rcases Nat.lt_or_ge i m with hlt | hge
    · rw [List.getElem?_append_left (by omega)] at hi
      obtain ⟨a1, a2, a3, a4⟩ := hr1 i r hi
      have := h.mono _ _ l2 a4
      rw [Heap.ext_append] at this
      exact ⟨a1.mono hle2, a2, a3, this⟩
    · have hlt := (List.getElem?_eq_some_iff.1 hi).1
      rw [List.length_append, hl1] at hlt
      obtain rfl : i = m := by simp at hlt; omega
      rw [List.getElem?_append_right (by omega), hl1, Nat.sub_self] at hi
      cases hi
      exact ⟨hv2, hl2, ho2, hr2⟩
theorem cells_spot {w : World} {a : Addr} {n : Nat} {cs : List Value} (h : w.cells? 0 a n = some cs) (hn : 0 < n) : a.spot = none := by
  obtain ⟨_, hl, hc⟩ := World.cells?_some h
  have h0 := hc 0 hn
  rw [List.getElem?_eq_getElem (by omega)] at h0
  have : a.add 0 = a := by unfold Addr.add; rw [if_pos rfl]
  rw [this] at h0
  unfold World.cell? at h0
  rcases hh : w.heap[a.block]? with _ | z
  · simp only [hh] at h0; cases h0
  · cases z with
    | cells c ty fr =>
      simp only [hh] at h0
      cases hs : a.spot with
      | none => rfl
      | some s => rw [hs] at h0; simp at h0
    | _ => simp only [hh] at h0; cases h0
/-- A SLICE OF WHAT CAN BE OPENED -/
theorem Opens.slice {t e : TypeId} {n : Nat} {RR : Heap → List AV → Prop} (ht : P.underlying t = some (.slice e)) (hc : P.cellsOf t = 1) (hn : 0 < n) (h : Opens P enc W e n RR) :
    Opens P enc W t 1 fun H row => ∃ av xs, row = [av] ∧ Arr H n av xs ∧ (∀ r ∈ xs, RR H r) ∧ xs.length ≤ 9223372036854775807 := by
  refine ⟨hc, ?_, fun fuel cs x hx h0 φ H hw hro => ?_⟩
  · rintro H row l ⟨av, xs, rfl, h1, h2, h3⟩
    exact ⟨av, xs, rfl, h1.ext l, fun r hr => h.mono _ _ _ (h2 r hr), h3⟩
  rcases open_slice ht hx with ⟨rfl, _⟩ | ⟨a, len, cap, m, fu, D, Pl, rfl, _, hlc, hmax, hm, _, hel⟩
  · exact ⟨φ, [], [.nils], by rw [Heap.ext_nil]; exact hw, by rw [Heap.ext_nil]; exact hro, fun _ _ h => h, .cons _ _ _ _ .nils .nil, rfl, by intro v hv; rw [List.mem_singleton.1 hv]; rfl, .nils, [], rfl, .inl ⟨rfl, rfl⟩, by simp, by simp⟩
  simp only [if_true] at hm
  subst hm
  have hone : ∀ v ∈ [Value.slice (some a) len m], v.oneCell' = true := by intro v hv; rw [List.mem_singleton.1 hv]; rfl
  rcases Nat.eq_zero_or_pos m with hm0 | hm0
  · subst hm0
    obtain rfl : len = 0 := by omega
    obtain ⟨hw1, hro1, hle⟩ := WRel.arg hw hro (a := ⟨0, 0, 0⟩) (b := .dead) trivial (h0 ⟨a, 0, 0, List.mem_singleton.2 rfl⟩) (fun h => h)
    refine ⟨_, [.dead], [.slice H.nx 0 0 n true 0], hw1, hro1, hle, .cons _ _ _ _ (.sliceE _ _ _ _ ⟨0, 0, 0⟩ a (Phi.put_same _ _ _)) .nil, rfl, hone, _, [], rfl, .inr ⟨H.nx, 0, true, 0, rfl, ?_, fun h => absurd rfl h⟩, by simp, by simp⟩
    rw [Heap.nx_ext, Heap.toNat_key]; simp
  · obtain ⟨cs0, e0, _⟩ := hel 0 hm0
    have ha0 : a.add (0 * P.cellsOf e) = a := by rw [Nat.zero_mul]; unfold Addr.add; rw [if_pos rfl]
    rw [ha0, h.cells] at e0
    have hsp := cells_spot e0 hn
    obtain ⟨b, o, s⟩ := a
    simp only at hsp
    subst hsp
    have key : ∀ i, (⟨b, o, none⟩ : Addr).add i = ⟨b, o + i, none⟩ := by
      intro i
      unfold Addr.add
      split
      · rename_i e; subst e; rfl
      · rfl
    have hel' : ∀ i, i < m → ∃ c ty fr, W.heap[b]? = some (.cells c ty fr) ∧ o + i * n + n ≤ c.size ∧ ∃ fuel x, DataW.trod enc P W 0 (fun _ => true) true fuel e ((c.toList.drop (o + i * n)).take n) = some x := by
      intro i hi
      obtain ⟨cs', h1, h2⟩ := hel i hi
      rw [h.cells, key] at h1
      obtain ⟨c, ty, fr, hc, hsz, rfl⟩ := cells_at h1 hn
      exact ⟨c, ty, fr, hc, hsz, _, _, h2⟩
    obtain ⟨c, ty, fr, hcc, _⟩ := hel' 0 hm0
    have hel2 : ∀ i, i < m → o + i * n + n ≤ c.size ∧ ∃ fuel x, DataW.trod enc P W 0 (fun _ => true) true fuel e ((c.toList.drop (o + i * n)).take n) = some x := by
      intro i hi
      obtain ⟨c', ty', fr', hc', h⟩ := hel' i hi
      rw [hcc] at hc'; cases hc'
      exact h
    have hb : b < W.heap.size := (Array.getElem?_eq_some_iff.1 hcc).1
    obtain ⟨φ1, l, rows, hw1, hro1, hle1, hrl, hr⟩ := h.each (by omega) m (fun i hi => (hel2 i hi).2) φ H hw hro
    have hrn : ∀ row ∈ rows, row.length = n := by
      intro row hrow
      obtain ⟨i, hi⟩ := List.mem_iff_getElem?.1 hrow
      obtain ⟨h1, h2, _⟩ := hr i row hi
      rw [h1.length, h2]
    have hsz : o + m * n ≤ c.size := by
      have h1 := (hel2 (m - 1) (by omega)).1
      have h2 : m * n = (m - 1) * n + n := by
        rw [show m = m - 1 + 1 by omega, Nat.add_mul, Nat.one_mul, Nat.add_sub_cancel]
      omega
    have hdt : ∀ i, i < m → (((c.toList.drop o).take (m * n)).drop (i * n)).take n = (c.toList.drop (o + i * n)).take n := by
      intro i hi
      have h2 : i * n + n ≤ m * n := by
        have := Nat.mul_le_mul_right n (show i + 1 ≤ m by omega)
        rwa [Nat.add_mul, Nat.one_mul] at this
      rw [List.drop_take, List.take_take, List.drop_drop, Nat.min_eq_left (by omega)]
    have hvl : ((c.toList.drop o).take (m * n)).length = rows.length * n := by
      have hcl : c.toList.length = c.size := Array.length_toList
      rw [List.length_take, List.length_drop, hcl, hrl]; omega
    have hblk : BlkRel P φ1 W ⟨b, o, c.size⟩ (.row false n rows) := by
      refine ⟨hn, hrn, c.toList.take o, (c.toList.drop o).take (m * n), c.toList.drop (o + m * n), ty, fr.1, fr.2, ?_, ?_, ?_, fun h => (by cases h), ?_, ?_, fun h => (by cases h)⟩
      · rw [hcc]
        congr 2
        rw [List.append_assoc, ← List.drop_drop, List.take_append_drop, List.take_append_drop]
      · rw [List.length_take, Array.length_toList]; show min o c.size = o; omega
      · rw [List.append_assoc, ← List.drop_drop, List.take_append_drop, List.take_append_drop, Array.length_toList]
      · refine vrels_flat hrn hvl fun i r hi => ?_
        have hlt : i < m := by rw [← hrl]; exact (List.getElem?_eq_some_iff.1 hi).1
        rw [hdt i hlt]
        exact (hr i r hi).1
      · intro v hv
        obtain ⟨j, hj, rfl⟩ := List.mem_iff_getElem.1 hv
        rw [hvl] at hj
        have hq : j / n < m := by rw [Nat.div_lt_iff_lt_mul hn, ← hrl]; exact hj
        have h3 := (hr (j / n) _ (List.getElem?_eq_getElem (show j / n < rows.length by omega))).2.2.1
        refine h3 _ ?_
        rw [← hdt _ hq]
        refine List.mem_iff_getElem?.2 ⟨j % n, ?_⟩
        have e2 : j / n * n + j % n = j := by rw [Nat.mul_comm]; exact Nat.div_add_mod ..
        rw [List.getElem?_take_of_lt (Nat.mod_lt _ hn), List.getElem?_drop, e2]
        exact List.getElem?_eq_getElem _
    obtain ⟨hw2, hro2, hle2⟩ := WRel.arg hw1 hro1 (a := ⟨b, o, c.size⟩) (b := .row false n rows) hblk hb (fun h => by cases h)
    have hxl : (rows.take len).length = len := by rw [List.length_take]; omega
    have hend : ((H.ext l).add (.row false n rows)) = H.ext (l ++ [.row false n rows]) := by rw [← Heap.ext_append]; rfl
    rw [hend] at hw2 hro2
    refine ⟨_, l ++ [Blk.row false n rows], [.slice (H.ext l).nx 0 len n true m], hw2, hro2, fun k x h => hle2 _ _ (hle1 _ _ h), ?_, rfl, hone, _, rows.take len, rfl, .inr ⟨(H.ext l).nx, 0, true, m, by rw [hxl], ?_, fun _ => ⟨0, false, rows, by simp, ?_, ?_⟩⟩, fun r hrm => ?_, ?_⟩
    · exact .cons _ _ _ _ (VRel.slice (H.ext l).nx 0 len n true m ⟨b, o, c.size⟩ m (Phi.put_same _ _ _) (fun _ => rfl) (Nat.le_refl _) hlc hsz) .nil
    · rw [← hend]; exact K.lt_succ _
    · rw [← hend, Heap.get_add, if_pos rfl]
    · rw [List.drop_zero, hxl]
    · obtain ⟨i, hi⟩ := List.mem_iff_getElem?.1 (List.mem_of_mem_take hrm)
      have := h.mono _ _ [.row false n rows] (hr i r hi).2.2.2
      rwa [Heap.ext_append] at this
    · rw [hxl]; unfold maxLen at hmax; omega
/-- a slice that is given, opened -/
theorem Opens.given {r : Reach} {base : Nat} {t e : TypeId} {v : Value} {d : DataW HH} {p : List MemPlace} {n : Nat} {RR : Heap → List AV → Prop}
    (ht : P.underlying t = some (.slice e)) (hc : P.cellsOf t = 1) (hn : 0 < n) (ho : Opens P enc W e n RR) (hval : Value.okWide P W r base t v) (h : DataW.Trod enc P W 0 (fun _ => true) true t v d p)
    {φ : Phi} {H : Heap} (hw : WRel P φ H W) (hro : RO H) :
    ∃ φ' l av xs, WRel P φ' (H.ext l) W ∧ RO (H.ext l) ∧ φ.le φ' ∧ VRel P φ' av v ∧ Arr (H.ext l) n av xs ∧ (∀ r ∈ xs, RR (H.ext l) r) ∧ xs.length ≤ 9223372036854775807 := by
  rcases slice_forms ht hval with rfl | ⟨b, o, len, cap, rfl, hlc, hb⟩
  · exact ⟨φ, [], .nils, [], by rw [Heap.ext_nil]; exact hw, by rw [Heap.ext_nil]; exact hro, fun _ _ h => h, .nils, .inl ⟨rfl, rfl⟩, by simp, by simp⟩
  obtain ⟨fuel, hf⟩ := h
  obtain ⟨φ', l, row, h1, h2, h3, h4, _, _, av, xs, rfl, h5, h6, h7⟩ := (Opens.slice ht hc hn ho).run fuel _ _ hf (fun _ => by omega) φ H hw hro
  have hv : (Value.slice (some ⟨b, o, none⟩) len cap).cells.toList = [.slice (some ⟨b, o, none⟩) len cap] := by simp [Value.cells]
  rw [hv] at h4
  cases h4 with
  | cons _ _ _ _ h4 _ => exact ⟨φ', l, av, xs, h1, h2, h3, h4, h5, h6, h7⟩
theorem slice_heap {r : Reach} {base : Nat} {u : TypeId} {a : Addr} {len cap : Nat} (h : Cell.okWide P W r base u (.slice (some a) len cap)) : 0 < W.heap.size := by
  unfold Cell.okWide at h
  split at h
  all_goals first | (rename_i h1 h2; cases h2; done) | skip
  all_goals first | (rename_i h2; cases h2; done) | skip
  unfold Cell.ok at h
  split at h
  all_goals first | (rename_i h1 h2; cases h2; done) | skip
  all_goals first | exact h.elim | skip
  rename_i h1 h2
  cases h2
  obtain ⟨_, _, hh⟩ := h
  unfold World.has at hh
  obtain ⟨_, _, row, cells, h4, _⟩ := hh
  unfold World.shape? at h4
  rcases hh : W.heap[a.block]? with _ | z
  · rw [hh] at h4; cases h4
  · have := (Array.getElem?_eq_some_iff.1 hh).1
    omega
/-- a struct that is given, opened -/
theorem Opens.givenS {r : Reach} {base : Nat} {t : TypeId} {fs : Array Field} {v : Value} {d : DataW HH} {p : List MemPlace} {n : Nat} {RR : Heap → List AV → Prop}
    (ht : P.underlying t = some (.struct fs)) (ho : Opens P enc W t n RR) (hval : Value.okWide P W r base t v) (h : DataW.Trod enc P W 0 (fun _ => true) true t v d p)
    {φ : Phi} {H : Heap} (hw : WRel P φ H W) (hro : RO H) :
    ∃ φ' l row, WRel P φ' (H.ext l) W ∧ RO (H.ext l) ∧ φ.le φ' ∧ VRel P φ' (.agg row) v ∧ RR (H.ext l) row := by
  simp only [Value.okWide, ht] at hval
  obtain ⟨cs, rfl, _, ts, _, _, hcell⟩ := hval
  obtain ⟨fuel, hf⟩ := h
  obtain ⟨φ', l, row, h1, h2, h3, h4, _, h6, h7⟩ := ho.run fuel _ _ hf (fun ⟨a, len, cap, hm⟩ => by
    obtain ⟨i, hi⟩ := List.mem_iff_getElem?.1 hm
    have hi' : cs[i]? = some (.slice (some a) len cap) := by rw [← Array.getElem?_toList]; exact hi
    obtain ⟨u, _, hc⟩ := hcell i _ hi'
    exact slice_heap hc) φ H hw hro
  exact ⟨φ', l, row, h1, h2, h3, .agg _ _ h4 h6, h7⟩
end
end Go.Ev
