/- Memory: a load, a store, a new row, a row given up: in the evaluator's memory and in the model's. -/
import Derived.Test.YtiadcabmonbgiaaEvC
namespace Go.Ev
variable {P : Program} {φ ψ : Phi} {H : Heap} {w u : World}

theorem RowRel.congr {a : At} {wr : Bool} {esz : Nat} {rows : List (List AV)} (he : u.heap[a.b]? = w.heap[a.b]?) (h : RowRel P φ w a wr esz rows) : RowRel P φ u a wr esz rows :=
  ⟨h.pos, h.len, by rw [he]; exact h.there⟩
theorem RowRel.mono {a : At} {wr : Bool} {esz : Nat} {rows : List (List AV)} (hl : φ.le ψ) (h : RowRel P φ w a wr esz rows) : RowRel P ψ w a wr esz rows :=
  ⟨h.pos, h.len, let ⟨pre, vs, post, e, lo, hi, h1, h2, h3, h4, h5, h6⟩ := h.there; ⟨pre, vs, post, e, lo, hi, h1, h2, h3, h4, h5.mono hl, h6⟩⟩
theorem BlkRel.congr {a : At} {b : Blk} (he : u.heap[a.b]? = w.heap[a.b]?) (h : BlkRel P φ w a b) : BlkRel P φ u a b := by
  cases b with
  | dead => trivial
  | row wr esz rows => exact RowRel.congr he h
  | map es => obtain ⟨c, clock, h1, h2⟩ := h; exact ⟨c, clock, by rw [he]; exact h1, h2⟩
theorem BlkRel.mono {a : At} {b : Blk} (hl : φ.le ψ) (h : BlkRel P φ w a b) : BlkRel P ψ w a b := by
  cases b with
  | dead => trivial
  | row wr esz rows => exact RowRel.mono hl h
  | map es => obtain ⟨c, clock, h1, h2⟩ := h; exact ⟨c, clock, h1, h2.mono hl⟩

/-! ### A load -/

theorem loadCells_sound (hw : WRel P φ H w) {k : K} {wr : Bool} {esz : Nat} {rows : List (List AV)} {a : At} (hk : H.get k = some (.row wr esz rows)) (hφ : φ k = some a)
    (off n : Nat) (hn : off + n ≤ rows.flatten.length) :
    ∃ vs, (loadCells ⟨a.b, a.o + off, none⟩ n).run P w = .ok vs.toArray w ∧ VRels P φ ((rows.flatten.drop off).take n) vs ∧ ∀ v ∈ vs, v.oneCell' = true := by
  obtain ⟨_, _, pre, vs, post, e, lo, hi, h1, h2, h3, _, h5, h6⟩ := hw.blk k _ a hk hφ
  have hlen := h5.length
  refine ⟨_, run_loadCells_at (P := P) h1 h2 off n (by omega), (h5.drop off).take n, fun v hv => h6.1 v (List.mem_of_mem_drop (List.mem_of_mem_take hv))⟩

theorem loadCells_drew (hw : WRel P φ H w) {k : K} {wr : Bool} {esz : Nat} {rows : List (List AV)} {a : At} (hk : H.get k = some (.row wr esz rows)) (hφ : φ k = some a)
    (off n : Nat) (hn : off + n ≤ rows.flatten.length) :
    ∃ vs, (∀ m, (loadCells ⟨a.b, a.o + off, none⟩ n).run P { w with drawn := m } = .ok vs.toArray { w with drawn := m }) ∧ VRels P φ ((rows.flatten.drop off).take n) vs ∧ ∀ v ∈ vs, v.oneCell' = true := by
  obtain ⟨_, _, pre, vs, post, e, lo, hi, h1, h2, h3, _, h5, h6⟩ := hw.blk k _ a hk hφ
  have hlen := h5.length
  exact ⟨_, fun m => run_loadCells_at (P := P) (w := { w with drawn := m }) h1 h2 off n (by omega), (h5.drop off).take n, fun v hv => h6.1 v (List.mem_of_mem_drop (List.mem_of_mem_take hv))⟩

theorem load_sound (hw : WRel P φ H w) {k : K} {wr : Bool} {esz : Nat} {rows : List (List AV)} {a : At} (hk : H.get k = some (.row wr esz rows)) (hφ : φ k = some a)
    (off : Nat) (v : AV) (hv : rows.flatten[off]? = some v) :
    ∃ v', (load ⟨a.b, a.o + off, none⟩).run P w = .ok v' w ∧ VRel P φ v v' ∧ v'.oneCell' = true := by
  obtain ⟨_, _, pre, vs, post, e, lo, hi, h1, h2, h3, _, h5, h6⟩ := hw.blk k _ a hk hφ
  obtain ⟨v', hv', hr⟩ := h5.nth off hv
  refine ⟨v', ?_, hr, h6.1 v' (List.mem_of_getElem? hv')⟩
  have hc := cell_at h1 h2 hv'
  rw [run_load, hc]

/-! ### What a turn of one block leaves -/

/-- One block that may be written is turned, in both memories. -/
theorem turn_sound (hw : WRel P φ H w) {k : K} {b b' : Blk} {a : At} (hk : H.get k = some b) (hφ : φ k = some a) (hb : b.mayWrite) (hb' : b'.live → b'.mayWrite)
    (hs : u.heap.size = w.heap.size) (ho : ∀ x, x ≠ a.b → u.heap[x]? = w.heap[x]?) (hos : u.os = w.os) (htape : u.tape = w.tape) (hout : u.output = w.output)
    (hn : BlkRel P φ u a b') : WRel P φ (H.set k b') u ∧ Ext φ H w φ (H.set k b') u := by
  have hlive : b.live := by cases b <;> simp_all [Blk.mayWrite, Blk.live]
  have hne : ∀ j c x, j ≠ k → H.get j = some c → φ j = some x → c.live → x.b ≠ a.b := by
    intro j c x hj hc hx hl e
    exact hw.inj k j b c a x (Ne.symm hj) hk hc hφ hx hlive hl e.symm hb
  refine ⟨⟨hw.dom, ?_, ?_, ?_, fun j x hj => by rw [hs]; exact hw.size j x hj⟩, ⟨fun _ _ => rfl, Nat.le_refl _, Nat.le_of_eq hs.symm, ?_, ?_, ?_, hos, htape, hout⟩⟩
  · intro j c hj
    rw [Heap.get_set] at hj
    split at hj
    · rename_i e; subst e; exact hw.top k b hk
    · exact hw.top j c hj
  · intro j c x hj hx
    rw [Heap.get_set] at hj
    split at hj
    · rename_i e; subst e; simp only [Option.some.injEq] at hj; subst hj; rw [hφ] at hx; simp only [Option.some.injEq] at hx; subst hx; exact hn
    · rename_i e
      have := hw.blk j c x hj hx
      by_cases hl : c.live
      · exact BlkRel.congr (ho _ (hne j c x (fun h => e h.symm) hj hx hl)) this
      · cases c <;> simp_all [Blk.live, BlkRel]
  · intro i j c d x y hij hi hj hx hy hc hd hxy
    rw [Heap.get_set] at hi hj
    split at hi
    · rename_i e; subst e
      rw [if_neg hij] at hj
      simp only [Option.some.injEq] at hi; subst hi
      rw [hφ] at hx; simp only [Option.some.injEq] at hx; subst hx
      exact absurd hxy.symm (hne j d y (Ne.symm hij) hj hy hd)
    · split at hj
      · rename_i e1 e; subst e
        simp only [Option.some.injEq] at hj; subst hj
        rw [hφ] at hy; simp only [Option.some.injEq] at hy; subst hy
        exact absurd hxy (hne i c x hij hi hx hc)
      · exact hw.inj i j c d x y hij hi hj hx hy hc hd hxy
  · intro x _ hx
    exact ho x (fun e => hx ⟨k, b, a, hk, hb, hφ, e.symm⟩)
  · intro j _ hj
    rw [Heap.get_set, if_neg]
    intro e; subst e; rw [hφ] at hj; cases hj
  · rintro x _ ⟨j, c, y, hj, hc, hy, e⟩
    rw [Heap.get_set] at hj
    split at hj
    · rename_i e1; subst e1; exact ⟨_, b, a, hk, hb, hφ, by rw [hφ] at hy; simp only [Option.some.injEq] at hy; rw [hy]; exact e⟩
    · exact ⟨j, c, y, hj, hc, hy, e⟩

/-! ### A store -/

theorem storeCells_sound (hw : WRel P φ H w) {k : K} {esz : Nat} {rows rows' : List (List AV)} {a : At} (hk : H.get k = some (.row true esz rows)) (hφ : φ k = some a)
    {off : Nat} {vals : List AV} {vals' : List Value} (hv : VRels P φ vals vals') (h1 : ∀ v ∈ vals', v.oneCell' = true) (hwr : Wrote esz rows off vals rows') :
    ∃ u, (storeCells ⟨a.b, a.o + off, none⟩ vals').run P w = .ok () u ∧ WRel P φ (H.set k (.row true esz rows')) u ∧ Ext φ H w φ (H.set k (.row true esz rows')) u := by
  obtain ⟨hp, _, pre, vs, post, e, lo, hi, g1, g2, g3, g4, g5, g6⟩ := hw.blk k _ a hk hφ
  have hlen := g5.length
  have hvl := hv.length
  have hfit := hwr.fits
  have hsize : (pre ++ vs ++ post).toArray.size = a.n := by simpa using g3
  have hst := run_storeCells_fz (P := P) (o := a.o + off) vals' 0 _ w g1 (by rw [hsize]; exact (g4 rfl).imp id And.left) (by simp at hsize ⊢; omega) h1
  refine ⟨_, hst, ?_⟩
  have hl : (List.take (a.o + off + 0) (pre ++ vs ++ post).toArray.toList ++ vals' ++ List.drop (a.o + off + 0 + vals'.length) (pre ++ vs ++ post).toArray.toList) =
      pre ++ (vs.take off ++ vals' ++ vs.drop (off + vals'.length)) ++ post := by
    rw [← put_row_list pre vs post vals' off (by omega), g2]
    simp
  rw [hl]
  refine turn_sound hw hk hφ rfl (fun _ => rfl) (setRow_size _ _ _) (fun x hx => setRow_other w a.b x _ hx) rfl rfl rfl ?_
  refine ⟨hp, hwr.len, pre, vs.take off ++ vals' ++ vs.drop (off + vals'.length), post, e, lo, hi, setRow_heap w a.b _ _ e _ g1, g2, ?_, g4, ?_, ?_, g6.2⟩
  · simp at g3 ⊢; omega
  · rw [hwr.flat, ← hvl]
    exact ((g5.take off).append hv).append (g5.drop _)
  · intro v hv'
    simp only [List.mem_append] at hv'
    rcases hv' with (hv' | hv') | hv'
    · exact g6.1 v (List.mem_of_mem_take hv')
    · exact h1 v hv'
    · exact g6.1 v (List.mem_of_mem_drop hv')

/-! ### A new block -/

def Phi.put (φ : Phi) (k : K) (a : At) : Phi := fun j => if j = k then some a else φ j
theorem Phi.put_same (φ : Phi) (k : K) (a : At) : φ.put k a k = some a := if_pos rfl
theorem Phi.put_le (φ : Phi) (k : K) (a : At) (h : φ k = none) : φ.le (φ.put k a) := by
  intro j x hj
  unfold Phi.put
  split
  · rename_i e; subst e; rw [h] at hj; cases hj
  · exact hj

theorem WRel.nx_none (hw : WRel P φ H w) : φ H.nx = none := by
  cases h : φ H.nx with
  | none => rfl
  | some a => exact absurd (hw.dom _ a h) (Nat.lt_irrefl _)

/-- A new object in the model, a new block here. -/
theorem add_sound (hw : WRel P φ H w) (b : Blk) (o : Obj) (n : Nat)
    (hn : BlkRel P (φ.put H.nx ⟨w.heap.size, 0, n⟩) { w with heap := w.heap.push o } ⟨w.heap.size, 0, n⟩ b) :
    WRel P (φ.put H.nx ⟨w.heap.size, 0, n⟩) (H.add b) { w with heap := w.heap.push o } ∧
    Ext φ H w (φ.put H.nx ⟨w.heap.size, 0, n⟩) (H.add b) { w with heap := w.heap.push o } := by
  have hnone := hw.nx_none
  have hle := Phi.put_le φ H.nx ⟨w.heap.size, 0, n⟩ hnone
  have hsucc : H.nx.toNat < (H.add b).nx.toNat := K.lt_succ _
  have hold : ∀ x, x < w.heap.size → (w.heap.push o)[x]? = w.heap[x]? := fun x hx => by rw [Array.getElem?_push, if_neg (by omega)]
  have hput : ∀ j x, j ≠ H.nx → φ.put H.nx ⟨w.heap.size, 0, n⟩ j = some x → φ j = some x := by
    intro j x hj hx
    unfold Phi.put at hx
    rwa [if_neg hj] at hx
  refine ⟨⟨?_, ?_, ?_, ?_, ?_⟩, ⟨?_, Nat.le_of_lt hsucc, by simp, ?_, ?_, ?_, rfl, rfl, rfl⟩⟩
  · intro j x hx
    by_cases e : j = H.nx
    · subst e; exact hsucc
    · exact Nat.lt_trans (hw.dom j x (hput j x e hx)) hsucc
  · intro j c hj
    rw [Heap.get_add] at hj
    split at hj
    · rename_i e; subst e; exact hsucc
    · exact Nat.lt_trans (hw.top j c hj) hsucc
  · intro j c x hj hx
    rw [Heap.get_add] at hj
    split at hj
    · rename_i e; subst e
      simp only [Option.some.injEq] at hj; subst hj
      rw [Phi.put_same] at hx; simp only [Option.some.injEq] at hx; subst hx
      exact hn
    · rename_i e
      have hx' := hput j x (fun h => e h.symm) hx
      have := hw.blk j c x hj hx'
      exact BlkRel.congr (w := w) (hold _ (hw.size j x hx')) (this.mono hle)
  · intro i j c d x y hij hi hj hx hy hc hd hxy
    by_cases e1 : i = H.nx
    · by_cases e2 : j = H.nx
      · exact absurd (e1.trans e2.symm) hij
      · subst e1
        rw [Phi.put_same] at hx; simp only [Option.some.injEq] at hx; subst hx
        have := hw.size j y (hput j y e2 hy)
        simp only at hxy; omega
    · by_cases e2 : j = H.nx
      · subst e2
        rw [Phi.put_same] at hy; simp only [Option.some.injEq] at hy; subst hy
        have := hw.size i x (hput i x e1 hx)
        simp only at hxy; omega
      · rw [Heap.get_add, if_neg (fun h => e1 h.symm)] at hi
        rw [Heap.get_add, if_neg (fun h => e2 h.symm)] at hj
        exact hw.inj i j c d x y hij hi hj (hput i x e1 hx) (hput j y e2 hy) hc hd hxy
  · intro j x hx
    by_cases e : j = H.nx
    · subst e; rw [Phi.put_same] at hx; simp only [Option.some.injEq] at hx; subst hx; simp
    · have := hw.size j x (hput j x e hx); simp; omega
  · intro j hj
    unfold Phi.put
    rw [if_neg]
    intro e; subst e; exact Nat.lt_irrefl _ hj
  · intro x hx _
    exact hold x hx
  · intro j hj _
    rw [Heap.get_add, if_neg]
    intro e; subst e; exact Nat.lt_irrefl _ hj
  · rintro x hx ⟨j, c, y, hj, hc, hy, e⟩
    by_cases e1 : j = H.nx
    · subst e1; rw [Phi.put_same] at hy; simp only [Option.some.injEq] at hy; subst hy
      simp only at e; omega
    · rw [Heap.get_add, if_neg (fun h => e1 h.symm)] at hj
      exact ⟨j, c, y, hj, hc, hput j y e1 hy, e⟩

/-- A new row of cells: what is laid, and what room there is behind. -/
theorem newRow_sound (hw : WRel P φ H w) {esz : Nat} {rows : List (List AV)} (hp : 0 < esz) (hl : ∀ r ∈ rows, r.length = esz) {vs post : List Value} (hv : VRels P φ rows.flatten vs)
    (h1 : ∀ v ∈ vs, v.oneCell' = true) (hpo : ∀ v ∈ post, v.oneCell' = true) (e : TypeId) (lo hi : Nat) (hf : hi ≤ lo ∨ ((vs ++ post).length ≤ lo ∧ esz = 1)) :
    WRel P (φ.put H.nx ⟨w.heap.size, 0, (vs ++ post).length⟩) (H.add (.row true esz rows)) { w with heap := w.heap.push (.cells (vs ++ post).toArray e (lo, hi)) } ∧
    Ext φ H w (φ.put H.nx ⟨w.heap.size, 0, (vs ++ post).length⟩) (H.add (.row true esz rows)) { w with heap := w.heap.push (.cells (vs ++ post).toArray e (lo, hi)) } := by
  refine add_sound hw _ _ _ ⟨hp, hl, [], vs, post, e, lo, hi, ?_, rfl, by simp, fun _ => hf, hv.mono (Phi.put_le _ _ _ hw.nx_none), h1, fun _ => hpo⟩
  simp

/-! ### A row given up -/

theorem dead_sound (hw : WRel P φ H w) (k : K) (hk : k.toNat < H.nx.toNat) (hn : φ k ≠ none) : WRel P φ (H.set k .dead) w ∧ Ext φ H w φ (H.set k .dead) w := by
  refine ⟨⟨hw.dom, ?_, ?_, ?_, hw.size⟩, ⟨fun _ _ => rfl, Nat.le_refl _, Nat.le_refl _, fun _ _ _ => rfl, ?_, ?_, rfl, rfl, rfl⟩⟩
  · intro j c hj
    rw [Heap.get_set] at hj
    split at hj
    · rename_i e; subst e; exact hk
    · exact hw.top j c hj
  · intro j c x hj hx
    rw [Heap.get_set] at hj
    split at hj
    · simp only [Option.some.injEq] at hj; subst hj; trivial
    · exact hw.blk j c x hj hx
  · intro i j c d x y hij hi hj hx hy hc hd hxy
    rw [Heap.get_set] at hi hj
    split at hi
    · simp only [Option.some.injEq] at hi; subst hi; exact absurd hc (by simp [Blk.live])
    · split at hj
      · simp only [Option.some.injEq] at hj; subst hj; exact absurd hd (by simp [Blk.live])
      · exact hw.inj i j c d x y hij hi hj hx hy hc hd hxy
  · intro j _ hj
    rw [Heap.get_set, if_neg]
    intro e; subst e; exact hn hj
  · rintro x _ ⟨j, c, y, hj, hc, hy, e⟩
    rw [Heap.get_set] at hj
    split at hj
    · simp only [Option.some.injEq] at hj; subst hj; exact absurd hc (by simp [Blk.mayWrite])
    · exact ⟨j, c, y, hj, hc, hy, e⟩

end Go.Ev
