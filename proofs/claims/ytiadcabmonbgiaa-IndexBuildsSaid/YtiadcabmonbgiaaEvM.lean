/- append, copy, make; lengths; the lesser and the greater. -/
import Derived.Test.YtiadcabmonbgiaaEvL
namespace Go.Ev
variable {P : Program} {φ : Phi} {H : Heap} {w u : World} {T : Tr AV} {a : Act}

/-- One block that may be written is given up; what lies in its place in the model is another block here. -/
theorem shift_sound (hw : WRel P φ H w) {k : K} {b b' : Blk} {x x' : At} (hk : H.get k = some b) (hφ : φ k = some x) (hb : b.mayWrite) (hx : x'.b = x.b)
    (hs : u.heap.size = w.heap.size) (ho : ∀ i, i ≠ x.b → u.heap[i]? = w.heap[i]?) (hos : u.os = w.os) (htape : u.tape = w.tape) (hout : u.output = w.output)
    (hn : BlkRel P (φ.put H.nx x') u x' b') :
    WRel P (φ.put H.nx x') ((H.set k .dead).add b') u ∧ Ext φ H w (φ.put H.nx x') ((H.set k .dead).add b') u := by
  have hnone := hw.nx_none
  have hle := Phi.put_le φ H.nx x' hnone
  have hsucc : H.nx.toNat < ((H.set k .dead).add b').nx.toNat := K.lt_succ _
  have hkn : k ≠ H.nx := by intro e; rw [e, hnone] at hφ; cases hφ
  have hlive : b.live := by cases b <;> simp_all [Blk.mayWrite, Blk.live]
  have hput : ∀ j y, j ≠ H.nx → φ.put H.nx x' j = some y → φ j = some y := by
    intro j y hj hy
    unfold Phi.put at hy
    rwa [if_neg hj] at hy
  have hne : ∀ j c y, j ≠ k → H.get j = some c → φ j = some y → c.live → y.b ≠ x.b := by
    intro j c y hj hc hy hl e
    exact hw.inj k j b c x y (Ne.symm hj) hk hc hφ hy hlive hl e.symm hb
  have hget : ∀ j, ((H.set k .dead).add b').get j = if H.nx = j then some b' else if k = j then some .dead else H.get j := by
    intro j; rw [Heap.get_add, Heap.nx_set, Heap.get_set]
  refine ⟨⟨?_, ?_, ?_, ?_, ?_⟩, ⟨?_, Nat.le_of_lt hsucc, Nat.le_of_eq hs.symm, ?_, ?_, ?_, hos, htape, hout⟩⟩
  · intro j y hy
    by_cases e : j = H.nx
    · subst e; exact hsucc
    · exact Nat.lt_trans (hw.dom j y (hput j y e hy)) hsucc
  · intro j c hj
    rw [hget] at hj
    split at hj
    · rename_i e; subst e; exact hsucc
    · split at hj
      · rename_i e; subst e; exact Nat.lt_trans (hw.top k b hk) hsucc
      · exact Nat.lt_trans (hw.top j c hj) hsucc
  · intro j c y hj hy
    rw [hget] at hj
    split at hj
    · rename_i e; subst e
      simp only [Option.some.injEq] at hj; subst hj
      rw [Phi.put_same] at hy; simp only [Option.some.injEq] at hy; subst hy
      exact hn
    · rename_i e
      split at hj
      · simp only [Option.some.injEq] at hj; subst hj; trivial
      · rename_i e2
        have hy' := hput j y (fun h => e h.symm) hy
        have := hw.blk j c y hj hy'
        by_cases hl : c.live
        · exact BlkRel.congr (w := w) (ho _ (hne j c y (fun h => e2 h.symm) hj hy' hl)) (this.mono hle)
        · cases c <;> simp_all [Blk.live, BlkRel]
  · intro i j c d y z hij hi hj hy hz hc hd hyz
    rw [hget] at hi hj
    by_cases e1 : i = H.nx
    · subst e1
      rw [Phi.put_same] at hy; simp only [Option.some.injEq] at hy; subst hy
      rw [if_neg hij] at hj
      split at hj
      · simp only [Option.some.injEq] at hj; subst hj; exact absurd hd (by simp [Blk.live])
      · rename_i e2
        exact absurd (hyz.symm.trans hx) (hne j d z (fun h => e2 h.symm) hj (hput j z (Ne.symm hij) hz) hd)
    · rw [if_neg (fun h => e1 h.symm)] at hi
      split at hi
      · simp only [Option.some.injEq] at hi; subst hi; exact absurd hc (by simp [Blk.live])
      · rename_i e2
        by_cases e3 : j = H.nx
        · subst e3
          rw [Phi.put_same] at hz; simp only [Option.some.injEq] at hz; subst hz
          exact absurd (hyz.trans hx) (hne i c y (fun h => e2 h.symm) hi (hput i y e1 hy) hc)
        · rw [if_neg (fun h => e3 h.symm)] at hj
          split at hj
          · simp only [Option.some.injEq] at hj; subst hj; exact absurd hd (by simp [Blk.live])
          · exact hw.inj i j c d y z hij hi hj (hput i y e1 hy) (hput j z e3 hz) hc hd hyz
  · intro j y hy
    by_cases e : j = H.nx
    · subst e; rw [Phi.put_same] at hy; simp only [Option.some.injEq] at hy; subst hy; rw [hx, hs]; exact hw.size k x hφ
    · rw [hs]; exact hw.size j y (hput j y e hy)
  · intro j hj
    unfold Phi.put
    rw [if_neg]
    intro e; subst e; exact Nat.lt_irrefl _ hj
  · intro i _ hi
    exact ho i (fun e => hi ⟨k, b, x, hk, hb, hφ, e.symm⟩)
  · intro j hj hn'
    rw [hget, if_neg (fun e => by subst e; exact Nat.lt_irrefl _ hj), if_neg]
    intro e; subst e; rw [hφ] at hn'; cases hn'
  · rintro i _ ⟨j, c, y, hj, hc, hy, e⟩
    rw [hget] at hj
    by_cases e1 : j = H.nx
    · subst e1; rw [Phi.put_same] at hy; simp only [Option.some.injEq] at hy; subst hy
      exact ⟨k, b, x, hk, hb, hφ, by rw [← e, hx]⟩
    · rw [if_neg (fun h => e1 h.symm)] at hj
      split at hj
      · simp only [Option.some.injEq] at hj; subst hj; exact absurd hc (by simp [Blk.mayWrite])
      · exact ⟨j, c, y, hj, hc, hput j y e1 hy, e⟩

/-! ### Rows of a slice -/
/-- n pieces from off on -/
noncomputable def rowsC {β : Type} (H : Heap) (k : K) (off n esz : Nat) (f : β) (c : Bool → List (List AV) → List (List AV) → β) : β :=
  blkC H k f fun wr es rows => bif' (Bool.and (Nat.beq es esz) (Nat.beq (off % esz) 0)) (takeC f n (dropL (off / esz) rows) fun r => c wr rows r) f
theorem rowsC_sound {β : Type} (hw : WRel P φ H w) {k : K} {at_ : At} (hk : φ k = some at_) (off n esz : Nat) (f : β) (c : Bool → List (List AV) → List (List AV) → β) :
    rowsC H k off n esz f c = f ∨ ∃ wr rows r vs, rowsC H k off n esz f c = c wr rows r ∧ H.get k = some (.row wr esz rows) ∧ r = (rows.drop (off / esz)).take n ∧ off % esz = 0 ∧ (n ≠ 0 → off / esz + n ≤ rows.length) ∧ r.length = n ∧
      (∀ x ∈ r, x.length = esz) ∧ VRels P φ r.flatten vs ∧ (∀ v ∈ vs, v.oneCell' = true) ∧ (∀ m, (loadCells ⟨at_.b, at_.o + off, none⟩ (n * esz)).run P { w with drawn := m } = .ok vs.toArray { w with drawn := m }) ∧ vs.length = n * esz ∧ 0 < esz := by
  unfold rowsC
  rcases blkC_eq H k f (fun wr es rows => bif' (Bool.and (Nat.beq es esz) (Nat.beq (off % esz) 0)) (takeC f n (dropL (off / esz) rows) fun r => c wr rows r) f) with e | ⟨wr, es, rows, hg, e⟩ <;> rw [e] <;> clear e
  · exact .inl rfl
  by_cases hb : Bool.and (Nat.beq es esz) (Nat.beq (off % esz) 0) = true
  case neg => left; rw [eq_false_of_ne_true hb]; rfl
  rw [hb, bif_true, takeC_eq, dropL_eq]
  simp only [Bool.and_eq_true, Nat.beq_eq] at hb
  obtain ⟨rfl, h0⟩ := hb
  split
  case isFalse => exact .inl rfl
  rename_i hn
  have hrel := hw.blk k _ at_ hg hk
  have hdm : off / es * es = off := by have := Nat.div_add_mod off es; rw [h0, Nat.add_zero, Nat.mul_comm] at this; exact this
  have hfl := flatten_length_of es rows hrel.len
  rw [List.length_drop] at hn
  have hpos := hrel.pos
  by_cases hn0 : n = 0
  · subst hn0
    exact .inr ⟨wr, rows, _, [], rfl, hg, rfl, h0, fun h => absurd rfl h, by simp, by simp, by simpa using VRels.nil, by simp, fun m => by simp [loadCells, loadCellsFrom], by simp, hpos⟩
  have hle : off / es + n ≤ rows.length := by omega
  have hle2 : off + n * es ≤ rows.flatten.length := by
    rw [hfl]
    have := Nat.mul_le_mul_right es hle
    rw [Nat.add_mul, hdm] at this
    exact this
  obtain ⟨vs, h1, h2, h3⟩ := loadCells_drew hw hg hk off (n * es) hle2
  have heq : (rows.flatten.drop off).take (n * es) = ((rows.drop (off / es)).take n).flatten := by
    rw [← hdm, drop_flatten es _ rows hrel.len, take_flatten es n _ (fun x hx => hrel.len x (List.mem_of_mem_drop hx)), hdm]
  rw [heq] at h2
  refine .inr ⟨wr, rows, _, vs, rfl, hg, rfl, h0, fun _ => hle, by simp; omega, fun x hx => hrel.len x (List.mem_of_mem_drop (List.mem_of_mem_take hx)), h2, h3, h1, ?_, hpos⟩
  rw [← h2.length, ← heq, List.length_take, List.length_drop]; omega

/-! ### append -/
theorem growBy_le (need : Nat) : ∀ (r c : Nat), c ≤ 2 * need + 192 → Builtin.growBy need r c ≤ 2 * need + 192
  | 0, c, h => h
  | r + 1, c, h => by
    unfold Builtin.growBy
    split
    · exact h
    · exact growBy_le need r _ (by omega)
theorem nextcap_le (need old : Nat) (h : old ≤ need) : Builtin.nextslicecap need old ≤ 2 * need + 192 := by
  unfold Builtin.nextslicecap
  split
  · omega
  · split
    · omega
    · exact growBy_le need 4 old (by omega)

/-- what a row appended to is: what was there, what is new, room behind it -/
theorem grow_new (hw : WRel P φ H w) {esz : Nat} (hp : 0 < esz) {r1 r2 : List (List AV)} (h1 : ∀ x ∈ r1, x.length = esz) (h2 : ∀ x ∈ r2, x.length = esz) {v1 v2 : List Value} (hv1 : VRels P φ r1.flatten v1) (hv2 : VRels P φ r2.flatten v2)
    (ho1 : ∀ v ∈ v1, v.oneCell' = true) (ho2 : ∀ v ∈ v2, v.oneCell' = true) (post : List Value) (hpo : ∀ v ∈ post, v.oneCell' = true) (e : TypeId) (n : Nat) :
    WRel P (φ.put H.nx ⟨w.heap.size, 0, (v1 ++ v2 ++ post).length⟩) (H.add (.row true esz (r1 ++ r2))) { w with heap := w.heap.push (.cells (v1 ++ v2 ++ post).toArray e), drawn := n } ∧
    Ext φ H w (φ.put H.nx ⟨w.heap.size, 0, (v1 ++ v2 ++ post).length⟩) (H.add (.row true esz (r1 ++ r2))) { w with heap := w.heap.push (.cells (v1 ++ v2 ++ post).toArray e), drawn := n } := by
  have := newRow_sound (P := P) (hw.drew n) hp (rows := r1 ++ r2) (by intro r hr; rcases List.mem_append.1 hr with h | h; exact h1 r h; exact h2 r h) (vs := v1 ++ v2) (post := post) (by rw [List.flatten_append]; exact hv1.append hv2)
    (by intro v hv; rcases List.mem_append.1 hv with h | h; exact ho1 v h; exact ho2 v h) hpo e 0 0 (.inl (Nat.le_refl _))
  exact ⟨this.1, Ext.drew0 _ this.2⟩

/-- in the spare room: the block is given up, and what lies there now is a new one -/
theorem grow_there (hw : WRel P φ H w) {k : K} {at_ : At} (hk : φ k = some at_) {esz : Nat} {rows r1 r2 : List (List AV)} (hg : H.get k = some (.row true esz rows)) {off len n : Nat} (hr1 : r1 = (rows.drop (off / esz)).take len) (hoff : off % esz = 0) (hl1 : r1.length = len)
    (h1 : ∀ x ∈ r1, x.length = esz) (h2 : ∀ x ∈ r2, x.length = esz) (hl2 : r2.length = n) {v2 : List Value} (hv2 : VRels P φ r2.flatten v2) (ho2 : ∀ v ∈ v2, v.oneCell' = true) (hfit : at_.o + off + (len + n) * esz ≤ at_.n) (hlen : len ≠ 0 → off / esz + len ≤ rows.length) :
    ∃ u, (storeCells ⟨at_.b, at_.o + off + len * esz, none⟩ v2).run P w = .ok () u ∧ WRel P (φ.put H.nx ⟨at_.b, at_.o + off, at_.n⟩) ((H.set k .dead).add (.row true esz (r1 ++ r2))) u ∧
      Ext φ H w (φ.put H.nx ⟨at_.b, at_.o + off, at_.n⟩) ((H.set k .dead).add (.row true esz (r1 ++ r2))) u := by
  obtain ⟨hp, hrl, pre, vs, post, e, lo, hi, g1, g2, g3, g4, g5, g6⟩ := hw.blk k _ at_ hg hk
  let L := pre ++ vs ++ post
  have hdm : off / esz * esz = off := by have := Nat.div_add_mod off esz; rw [hoff, Nat.add_zero, Nat.mul_comm] at this; exact this
  have hLn : L.length = at_.n := g3
  have hlv2 : v2.length = n * esz := by rw [← hv2.length, flatten_length_of esz r2 h2, hl2]
  rw [Nat.add_mul] at hfit
  have hst := run_storeCells_fz (P := P) (o := at_.o + off + len * esz) v2 0 L.toArray w g1 (by simp only [List.size_toArray]; rw [hLn]; exact (g4 rfl).imp id And.left) (by simp only [List.size_toArray]; rw [hLn]; omega) ho2
  refine ⟨_, hst, ?_⟩
  simp only [Nat.add_zero]
  -- the slice's own cells
  obtain ⟨v1, hv1, ho1, hL1⟩ : ∃ v1, VRels P φ r1.flatten v1 ∧ (∀ v ∈ v1, v.oneCell' = true) ∧ L = L.take (at_.o + off) ++ v1 ++ L.drop (at_.o + off + len * esz) ∧ v1.length = len * esz := by
    by_cases h0 : len = 0
    · subst h0
      have : r1 = [] := List.eq_nil_of_length_eq_zero hl1
      subst this
      refine ⟨[], .nil, by simp, by simp, by simp⟩
    · have hle := hlen h0
      have hfl := flatten_length_of esz rows hrl
      have hle2 : off + len * esz ≤ rows.flatten.length := by
        rw [hfl]
        have := Nat.mul_le_mul_right esz hle
        rw [Nat.add_mul, hdm] at this
        exact this
      have hg5 := g5.length
      refine ⟨(vs.drop off).take (len * esz), ?_, fun v hv => g6.1 v (List.mem_of_mem_drop (List.mem_of_mem_take hv)), ?_, by rw [List.length_take, List.length_drop]; omega⟩
      · have : r1.flatten = (rows.flatten.drop off).take (len * esz) := by
          rw [hr1, ← hdm, drop_flatten esz _ rows hrl, take_flatten esz len _ (fun x hx => hrl x (List.mem_of_mem_drop hx)), hdm]
        rw [this]
        exact (g5.drop _).take _
      · have e1 : L.take (at_.o + off) = pre ++ vs.take off := by
          show (pre ++ vs ++ post).take _ = _
          rw [← g2, List.append_assoc, List.take_length_add_append, List.take_append_of_le_length (by omega)]
        have e2 : L.drop (at_.o + off + len * esz) = vs.drop (off + len * esz) ++ post := by
          show (pre ++ vs ++ post).drop _ = _
          rw [← g2, List.append_assoc, Nat.add_assoc, List.drop_length_add_append, List.drop_append_of_le_length (by omega)]
        rw [e1, e2]
        show pre ++ vs ++ post = _
        have e3 : vs = vs.take off ++ ((vs.drop off).take (len * esz) ++ vs.drop (off + len * esz)) := by
          rw [← List.drop_drop, List.take_append_drop, List.take_append_drop]
        conv => lhs; rw [e3]
        simp
  obtain ⟨hL1, hlv1⟩ := hL1
  have htl : (L.take (at_.o + off)).length = at_.o + off := by rw [List.length_take]; omega
  have hnew : L.toArray.toList.take (at_.o + off + len * esz) ++ v2 ++ L.toArray.toList.drop (at_.o + off + len * esz + v2.length) = L.take (at_.o + off) ++ (v1 ++ v2) ++ L.drop (at_.o + off + len * esz + v2.length) := by
    have : L.take (at_.o + off + len * esz) = L.take (at_.o + off) ++ v1 := by
      conv => lhs; rw [hL1]
      rw [List.take_append_of_le_length (by rw [List.length_append]; omega), List.take_of_length_le (by rw [List.length_append]; omega)]
    simp only [this]
    simp
  rw [hnew]
  have hnone := hw.nx_none
  have hle := Phi.put_le φ H.nx ⟨at_.b, at_.o + off, at_.n⟩ hnone
  refine shift_sound hw hg hk rfl rfl (setRow_size _ _ _) (fun i hi => setRow_other w at_.b i _ hi) rfl rfl rfl ?_
  refine ⟨hp, by intro r hr; rcases List.mem_append.1 hr with h | h; exact h1 r h; exact h2 r h, L.take (at_.o + off), v1 ++ v2, L.drop (at_.o + off + len * esz + v2.length), e, lo, hi, setRow_heap w at_.b _ _ e _ g1, htl, ?_, fun _ => g4 rfl, ?_, ?_, ?_⟩
  · simp only [List.length_append, htl, List.length_drop]; omega
  · rw [List.flatten_append]; exact (hv1.mono hle).append (hv2.mono hle)
  · intro v hv; rcases List.mem_append.1 hv with h | h; exact ho1 v h; exact ho2 v h
  · intro _ v hv
    have : L.drop (at_.o + off + len * esz + v2.length) = (vs ++ post).drop (off + len * esz + v2.length) := by
      show (pre ++ vs ++ post).drop _ = _
      rw [List.append_assoc, ← g2, show pre.length + off + len * esz + v2.length = pre.length + (off + len * esz + v2.length) by omega, List.drop_length_add_append]
    rw [this] at hv
    rcases List.mem_append.1 (List.mem_of_mem_drop hv) with h | h
    · exact g6.1 v h
    · exact g6.2 rfl v h

end Go.Ev
