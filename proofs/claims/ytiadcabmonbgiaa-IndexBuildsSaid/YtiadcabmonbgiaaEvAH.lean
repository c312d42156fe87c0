/- What is given to a law: opened into the evaluator's memory. -/
import Derived.Test.YtiadcabmonbgiaaEvAG
import Derived.Deep.Slices
set_option linter.all false
namespace Go.Ev
open Go.ChangeShapes Go.WideShapes Go.RowKit
variable {P : Program}
/-- kinds of cells -/
inductive PK where
  | str
  | int (k : IntKind)
  | bool
def PK.ty (P : Program) (t : TypeId) : PK → Prop
  | .str => P.underlying t = some .string
  | .int k => P.underlying t = some (.int k)
  | .bool => P.underlying t = some .bool
inductive KOf : PK → AV → Prop
  | str (l : List Nat) (h : l.length ≤ 9223372036854775807) : KOf .str (.str l)
  | int (k : IntKind) (n : Int) (h : (Lit.int k n).wf = true) : KOf (.int k) (.int k n)
  | bool (b : Bool) : KOf .bool (.bool b)
/-- a row of cells of such kinds -/
def RowOf (ks : List PK) (row : List AV) : Prop := row.length = ks.length ∧ ∀ (i : Nat) (k : PK) (v : AV), ks[i]? = some k → row[i]? = some v → KOf k v
section
variable {HH : Type} {enc : TypeId × Value → HH} {w : World} {base : Nat} {sp : Nat → Bool} {held : Bool} {fuel : Nat} {t : TypeId} {cs : List Value} {x : DataW HH × List MemPlace}
theorem open_prim {k : PK} (hk : k.ty P t) (h : DataW.trod enc P w base sp held fuel t cs = some x) : ∃ v av, cs = [v] ∧ (∀ φ, VRel P φ av v) ∧ v.oneCell' = true ∧ KOf k av := by
  cases k with
  | str =>
    obtain ⟨s, rfl, _, hs⟩ := DataW.trod_string hk h
    refine ⟨_, .str (s.data.toList.map (·.toNat)), rfl, fun φ => .str _ _ rfl, rfl, .str _ ?_⟩
    rw [List.length_map]
    exact hs
  | int k =>
    obtain ⟨n, rfl, _, hn⟩ := DataW.trod_int hk h
    exact ⟨_, .int k n, rfl, fun φ => .int _ _, rfl, .int _ _ hn⟩
  | bool =>
    obtain ⟨b, rfl, _⟩ := DataW.trod_bool hk h
    exact ⟨_, .bool b, rfl, fun φ => .bool _, rfl, .bool _⟩
theorem vrels_of_get {φ : Phi} : ∀ {l : List AV} {l' : List Value}, l.length = l'.length → (∀ (i : Nat) (v : AV) (v' : Value), l[i]? = some v → l'[i]? = some v' → VRel P φ v v') → VRels P φ l l'
  | [], [], _, _ => .nil
  | v :: l, v' :: l', hl, h => .cons _ _ _ _ (h 0 v v' rfl rfl) (vrels_of_get (by simpa using hl) fun i a b ha hb => h (i + 1) a b (by simpa using ha) (by simpa using hb))
  | [], _ :: _, h, _ => by simp at h
  | _ :: _, [], h, _ => by simp at h
/-- a struct whose fields are a cell each -/
structure Flat (P : Program) (t : TypeId) (ks : List PK) : Prop where
  st : ∃ fs : Array Field, P.underlying t = some (.struct fs) ∧ fs.size = ks.length ∧ ∀ (i : Nat) (f : Field), fs[i]? = some f → f.offset = i ∧ P.cellsOf f.type = 1 ∧ ∃ k, ks[i]? = some k ∧ k.ty P f.type
  cells : P.cellsOf t = ks.length
theorem open_flat {ks : List PK} (hf : Flat P t ks) (h : DataW.trod enc P w base sp held fuel t cs = some x) :
    ∃ row, (∀ φ, VRels P φ row cs) ∧ cs.length = ks.length ∧ (∀ v ∈ cs, v.oneCell' = true) ∧ RowOf ks row := by
  obtain ⟨fs, ht, hn, hfs⟩ := hf.st
  obtain ⟨xs, n, _, _, hcl, hxl, hx⟩ := DataW.trod_struct ht h
  rw [hf.cells] at hcl
  have each : ∀ i : Nat, i < ks.length → ∃ av, ∃ v, cs[i]? = some v ∧ (∀ φ, VRel P φ av v) ∧ v.oneCell' = true ∧ ∃ k, ks[i]? = some k ∧ KOf k av := by
    intro i hi
    have hfi : fs[i]? = some fs[i] := Array.getElem?_eq_getElem (by omega)
    obtain ⟨h1, h2, k, h3, h4⟩ := hfs i _ hfi
    have hxi := hx i _ hfi
    rw [h1, h2, List.getElem?_eq_getElem (by omega)] at hxi
    obtain ⟨v, av, he, hv, ho, hk⟩ := open_prim h4 hxi
    refine ⟨av, v, ?_, hv, ho, k, h3, hk⟩
    have : (cs.drop i)[0]? = some v := by
      have e : ((cs.drop i).take 1)[0]? = some v := by rw [he]; rfl
      rwa [List.getElem?_take_of_lt (by omega)] at e
    rwa [List.getElem?_drop, Nat.add_zero] at this
  have hrow : ∃ row : List AV, row.length = ks.length ∧ ∀ (i : Nat) (av : AV), row[i]? = some av → ∃ v, cs[i]? = some v ∧ (∀ φ, VRel P φ av v) ∧ v.oneCell' = true ∧ ∃ k, ks[i]? = some k ∧ KOf k av := by
    refine ⟨List.ofFn (n := ks.length) fun i => Classical.choose (each i.1 i.2), by simp, fun i av hi => ?_⟩
    rw [List.getElem?_ofFn] at hi
    split at hi
    · rename_i hlt
      cases hi
      exact Classical.choose_spec (each i hlt)
    · cases hi
  obtain ⟨row, hrl, hr⟩ := hrow
  refine ⟨row, fun φ => vrels_of_get (by omega) ?_, hcl, ?_, hrl, ?_⟩
  · intro i v v' hi hi'
    obtain ⟨u, hu, hv, _⟩ := hr i v hi
    rw [hi'] at hu; cases hu
    exact hv φ
  · intro v hv
    obtain ⟨i, hi, rfl⟩ := List.mem_iff_getElem.1 hv
    obtain ⟨u, hu, _, ho, _⟩ := hr i _ (List.getElem?_eq_getElem (show i < row.length by omega))
    rw [List.getElem?_eq_getElem hi] at hu; cases hu
    exact ho
  · intro i k v hk hi
    obtain ⟨_, _, _, _, k', hk', h⟩ := hr i v hi
    rw [hk] at hk'; cases hk'
    exact h
end
/-- one more block that is only read -/
theorem WRel.arg {φ : Phi} {H : Heap} {w : World} (hw : WRel P φ H w) (hro : ∀ k b, H.get k = some b → ¬ b.mayWrite) {a : At} {b : Blk} (hb : BlkRel P φ w a b) (ha : a.b < w.heap.size) (hm : ¬ b.mayWrite) :
    WRel P (φ.put H.nx a) (H.add b) w ∧ (∀ k c, (H.add b).get k = some c → ¬ c.mayWrite) ∧ φ.le (φ.put H.nx a) := by
  have hnone := hw.nx_none
  have hle := Phi.put_le φ H.nx a hnone
  have hsucc : H.nx.toNat < (H.add b).nx.toNat := K.lt_succ _
  have hput : ∀ j x, j ≠ H.nx → φ.put H.nx a j = some x → φ j = some x := by
    intro j x hj hx
    unfold Phi.put at hx
    rwa [if_neg hj] at hx
  have hro' : ∀ k c, (H.add b).get k = some c → ¬ c.mayWrite := by
    intro k c hk
    rw [Heap.get_add] at hk
    split at hk
    · cases hk; exact hm
    · exact hro k c hk
  refine ⟨⟨?_, ?_, ?_, ?_, ?_⟩, hro', hle⟩
  · intro j x hx
    by_cases e : j = H.nx
    · subst e; exact hsucc
    · exact Nat.lt_trans (hw.dom j x (hput j x e hx)) hsucc
  · intro j c hj
    rw [Heap.get_add] at hj
    split at hj
    · rename_i e; subst e; exact hsucc
    · exact Nat.lt_trans (hw.top j c hj) hsucc
  · intro j c x hj hx
    rw [Heap.get_add] at hj
    split at hj
    · rename_i e; subst e
      cases hj
      rw [Phi.put_same] at hx; cases hx
      exact hb.mono hle
    · rename_i e
      exact (hw.blk j c x hj (hput j x (fun h => e h.symm) hx)).mono hle
  · intro i j c d x y _ hi _ _ _ _ _ _
    exact hro' i c hi
  · intro k x hx
    by_cases e : k = H.nx
    · subst e
      rw [Phi.put_same] at hx; cases hx
      exact ha
    · exact hw.size k x (hput k x e hx)
noncomputable def noHeap : Heap := .mk .z .lf
theorem noHeap_rel (w : World) : WRel P (fun _ => none) noHeap w :=
  ⟨fun k a h => (by cases h), fun k b h => (by cases k <;> cases h), fun k b a h => (by cases k <;> cases h), fun j k c d x y _ h => (by cases j <;> cases h), fun k a h => (by cases h)⟩
theorem noHeap_ro : ∀ k b, noHeap.get k = some b → ¬ b.mayWrite := fun k b h => by cases k <;> cases h
end Go.Ev
