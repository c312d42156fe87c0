/- part. -/
import Derived.Test.YtglpihajimhekaaGreatDoorZ2
import Derived.Laws.CopyRow
import Derived.Laws.Tables
namespace Go.Ev
noncomputable def flatL {α : Type} (l : List (List α)) : List α := List.rec (motive := fun _ => List α) [] (fun x _ ih => x ++ ih) l
theorem flatL_eq {α : Type} : ∀ l : List (List α), flatL l = l.flatten
 | [] => rfl
 | x :: l => by show x ++ flatL l = _; rw [flatL_eq l]; rfl
theorem flatten_length_of {α : Type} (e : Nat) : ∀ (l : List (List α)), (∀ r ∈ l, r.length = e) → l.flatten.length = l.length * e
 | [], _ => by simp
 | x :: l, h => by
  have := flatten_length_of e l (fun r hr => h r (by simp [hr]))
  simp [this, h x (by simp), Nat.add_mul, Nat.add_comm]
theorem drop_flatten {α : Type} (e : Nat) : ∀ (r : Nat) (l : List (List α)), (∀ x ∈ l, x.length = e) → l.flatten.drop (r * e) = (l.drop r).flatten
 | 0, l, _ => by simp
 | r + 1, [], _ => by simp
 | r + 1, x :: l, h => by
  have hx := h x (by simp)
  have := drop_flatten e r l (fun y hy => h y (by simp [hy]))
  simp only [List.flatten_cons, List.drop_succ_cons]
  rw [← this, Nat.add_mul, Nat.one_mul, Nat.add_comm, ← List.drop_drop, ← hx, List.drop_left]
theorem take_flatten {α : Type} (e : Nat) : ∀ (r : Nat) (l : List (List α)), (∀ x ∈ l, x.length = e) → l.flatten.take (r * e) = (l.take r).flatten
 | 0, l, _ => by simp
 | r + 1, [], _ => by simp
 | r + 1, x :: l, h => by
  have hx := h x (by simp)
  have := take_flatten e r l (fun y hy => h y (by simp [hy]))
  simp only [List.flatten_cons, List.take_succ_cons]
  rw [← this, Nat.add_mul, Nat.one_mul, Nat.add_comm, ← hx, List.take_length_add_append]
noncomputable def readC {β : Type} (f : β) (esz : Nat) (rows : List (List AV)) (off n : Nat) (c : List AV → β) : β :=
 fN (off / esz) fun r => fN (off % esz) fun q =>
  Option.rec (motive := fun _ => β) f
   (fun row => bif' (Nat.beq q 0 && Nat.beq n esz) (c row)
    (bif' (Nat.ble (q + n) esz) (takeC f n (dropL q row) c) (takeC f n (dropL q (flatL (dropL r rows))) c))) (nthL r rows)
theorem readC_eq {β : Type} (f : β) (esz : Nat) (rows : List (List AV)) (off n : Nat) (c : List AV → β) (hp : 0 < esz) (hl : ∀ r ∈ rows, r.length = esz) :
  readC f esz rows off n c = f ∨ (off + n ≤ rows.flatten.length ∧ readC f esz rows off n c = c ((rows.flatten.drop off).take n)) := by
 unfold readC
 simp only [fN_eq, nthL_eq]
 have hdm : off / esz * esz + off % esz = off := by rw [Nat.mul_comm]; exact Nat.div_add_mod off esz
 have hq : off % esz < esz := Nat.mod_lt _ hp
 generalize off / esz = r at *
 generalize off % esz = q at *
 cases hr : rows[r]? with
 | none => exact .inl rfl
 | some row =>
  have hlen := flatten_length_of esz rows hl
  have hrl : r < rows.length := (List.getElem?_eq_some_iff.1 hr).1
  have hrow : row.length = esz := hl row (List.mem_of_getElem? hr)
  have hd : rows.flatten.drop off = (row ++ (rows.drop (r + 1)).flatten).drop q := by
   rw [← hdm, ← List.drop_drop, drop_flatten esz r rows hl]
   congr 1
   rw [List.drop_eq_getElem_cons hrl, List.flatten_cons]
   congr 1
   have := (List.getElem?_eq_some_iff.1 hr).2
   simpa using this
  have hmul : (r + 1) * esz ≤ rows.length * esz := Nat.mul_le_mul_right _ hrl
  rw [Nat.add_mul, Nat.one_mul] at hmul
  by_cases h1 : (Nat.beq q 0 && Nat.beq n esz) = true
  ·simp only [h1, bif_true]
   simp only [Bool.and_eq_true, Nat.beq_eq] at h1
   obtain ⟨rfl, rfl⟩ := h1
   refine .inr ⟨by omega, ?_⟩
   rw [hd]
   congr 1
   rw [List.drop_zero, ← hrow]; exact (List.take_left).symm
  ·simp only [eq_false_of_ne_true h1, bif_false]
   by_cases h2 : Nat.ble (q + n) esz = true
   ·simp only [h2, bif_true]
    have h2' := Nat.le_of_ble_eq_true h2
    rw [takeC_eq, dropL_eq, if_pos (by simp; omega)]
    refine .inr ⟨by omega, ?_⟩
    rw [hd, List.drop_append_of_le_length (by omega), List.take_append_of_le_length (by simp; omega)]
   ·simp only [eq_false_of_ne_true h2, bif_false]
    rw [takeC_eq, dropL_eq, dropL_eq, flatL_eq, ← drop_flatten esz r rows hl, List.drop_drop, hdm]
    split
    ·rename_i h3
     by_cases h0 : n = 0
     ·subst h0; refine .inr ⟨?_, rfl⟩; omega
     ·refine .inr ⟨?_, rfl⟩
      simp only [List.length_drop] at h3; omega
    ·exact .inl rfl
noncomputable def sing (l : List AV) : List (List AV) := List.rec (motive := fun _ => List (List AV)) [] (fun x _ ih => [x] :: ih) l
theorem sing_eq : ∀ l, sing l = l.map fun x => [x]
 | [] => rfl
 | x :: l => by show [x] :: sing l = _; rw [sing_eq l]; rfl
theorem flatten_sing : ∀ l : List AV, (sing l).flatten = l
 | [] => rfl
 | x :: l => by show [x] ++ (sing l).flatten = _; rw [flatten_sing l]; rfl
noncomputable def writeC {β : Type} (f : β) (esz : Nat) (rows : List (List AV)) (off : Nat) (vals : List AV) (c : List (List AV) → β) : β :=
 fN (off / esz) fun r => fN (off % esz) fun q =>
  bif' (Nat.ble (q + vals.length) esz)
   (Option.rec (motive := fun _ => β) f (fun row => bif' (Nat.beq q 0 && Nat.beq vals.length esz) (putC f [vals] r rows c) (putC f vals q row fun row => putC f [row] r rows c)) (nthL r rows))
   (bif' (Nat.beq esz 1) (putC f (sing vals) r rows c) f)
structure Wrote (esz : Nat) (rows : List (List AV)) (off : Nat) (vals : List AV) (rows' : List (List AV)) : Prop where
 len : ∀ r ∈ rows', r.length = esz
 fits : off + vals.length ≤ rows.flatten.length
 flat : rows'.flatten = rows.flatten.take off ++ vals ++ rows.flatten.drop (off + vals.length)
theorem put_rows (esz : Nat) (rows new : List (List AV)) (r : Nat) (hl : ∀ x ∈ rows, x.length = esz) (hn : ∀ x ∈ new, x.length = esz) (hr : r + new.length ≤ rows.length) :
  Wrote esz rows (r * esz) new.flatten (rows.take r ++ new ++ rows.drop (r + new.length)) where
 len x hx := by
  simp only [List.mem_append] at hx
  rcases hx with (hx | hx) | hx
  ·exact hl x (List.mem_of_mem_take hx)
  ·exact hn x hx
  ·exact hl x (List.mem_of_mem_drop hx)
 fits := by
  rw [flatten_length_of esz rows hl, flatten_length_of esz new hn, ← Nat.add_mul]
  exact Nat.mul_le_mul_right _ hr
 flat := by
  rw [flatten_length_of esz new hn, ← Nat.add_mul, take_flatten esz r rows hl, drop_flatten esz _ rows hl]
  simp
theorem writeC_eq {β : Type} (f : β) (esz : Nat) (rows : List (List AV)) (off : Nat) (vals : List AV) (c : List (List AV) → β) (hp : 0 < esz) (hl : ∀ r ∈ rows, r.length = esz) :
  writeC f esz rows off vals c = f ∨ ∃ rows', writeC f esz rows off vals c = c rows' ∧ Wrote esz rows off vals rows' := by
 unfold writeC
 simp only [fN_eq, nthL_eq]
 have hdm : off / esz * esz + off % esz = off := by rw [Nat.mul_comm]; exact Nat.div_add_mod off esz
 have hq : off % esz < esz := Nat.mod_lt _ hp
 generalize off / esz = r at *
 generalize off % esz = q at *
 by_cases h2 : Nat.ble (q + vals.length) esz = true
 ·simp only [h2, bif_true]
  have h2' := Nat.le_of_ble_eq_true h2
  cases hr : rows[r]? with
  | none => exact .inl rfl
  | some row =>
   have hrl : r < rows.length := (List.getElem?_eq_some_iff.1 hr).1
   have hrow : row.length = esz := hl row (List.mem_of_getElem? hr)
   have hget : rows[r] = row := (List.getElem?_eq_some_iff.1 hr).2
   by_cases h1 : (Nat.beq q 0 && Nat.beq vals.length esz) = true
   ·simp only [h1, bif_true]
    simp only [Bool.and_eq_true, Nat.beq_eq] at h1
    obtain ⟨rfl, h1⟩ := h1
    rw [putC_eq]
    split
    ·rename_i h3
     refine .inr ⟨_, rfl, ?_⟩
     have := put_rows esz rows [vals] r hl (by simp [h1]) h3
     simpa [← hdm] using this
    ·exact .inl rfl
   ·simp only [eq_false_of_ne_true h1, bif_false]
    rw [putC_eq]
    split
    ·rw [putC_eq]
     split
     ·rename_i h3 h4
      refine .inr ⟨_, rfl, ?_⟩
      have hnl : (row.take q ++ vals ++ row.drop (q + vals.length)).length = esz := by simp; omega
      have hw := put_rows esz rows [row.take q ++ vals ++ row.drop (q + vals.length)] r hl (by simpa using hnl) h4
      have hlen := flatten_length_of esz rows hl
      have hmul : (r + 1) * esz ≤ rows.length * esz := Nat.mul_le_mul_right _ hrl
      rw [Nat.add_mul, Nat.one_mul] at hmul
      refine ⟨hw.len, by rw [hlen]; omega, ?_⟩
      have hsplit : rows.flatten = rows.flatten.take (r * esz) ++ row ++ rows.flatten.drop (r * esz + esz) := by
       have hd : rows.flatten.drop (r * esz) = row ++ rows.flatten.drop (r * esz + esz) := by
        rw [← List.drop_drop, drop_flatten esz r rows hl, List.drop_eq_getElem_cons hrl, hget, List.flatten_cons]
        rw [← hrow, List.drop_left]
       rw [List.append_assoc, ← hd, List.take_append_drop]
      have hf := hw.flat
      simp only [List.flatten_cons, List.flatten_nil, List.append_nil] at hf
      rw [hf, hnl]
      generalize hA : rows.flatten.take (r * esz) = A at *
      generalize hB : rows.flatten.drop (r * esz + esz) = B at *
      have hAl : A.length = r * esz := by rw [← hA, List.length_take, hlen]; omega
      rw [hsplit, ← hdm]
      have e1 : (A ++ row ++ B).take (r * esz + q) = A ++ row.take q := by
       rw [List.append_assoc, List.take_append, hAl, List.take_of_length_le (by omega)]
       congr 1
       rw [Nat.add_sub_cancel_left, List.take_append_of_le_length (by omega)]
      have e2 : (A ++ row ++ B).drop (r * esz + q + vals.length) = row.drop (q + vals.length) ++ B := by
       rw [List.append_assoc, List.drop_append, hAl, List.drop_of_length_le (by omega), List.nil_append]
       rw [show r * esz + q + vals.length - r * esz = q + vals.length by omega, List.drop_append_of_le_length (by omega)]
      rw [e1, e2]
      simp
     ·exact .inl rfl
    ·exact .inl rfl
 ·simp only [eq_false_of_ne_true h2, bif_false]
  by_cases h3 : Nat.beq esz 1 = true
  ·simp only [h3, bif_true]
   rw [Nat.beq_eq] at h3
   subst h3
   rw [putC_eq]
   split
   ·rename_i h4
    refine .inr ⟨_, rfl, ?_⟩
    have := put_rows 1 rows (sing vals) r hl (by simp [sing_eq]) h4
    rw [flatten_sing] at this
    have hq0 : q = 0 := by omega
    subst hq0
    rwa [show r * 1 = off by omega] at this
   ·exact .inl rfl
  ·exact .inl (by simp only [eq_false_of_ne_true h3, bif_false])
variable {P : Program}
theorem add_at (b o i : Nat) : (⟨b, o, none⟩ : Addr).add i = ⟨b, o + i, none⟩ := by unfold Addr.add; split <;> simp_all
theorem cell_at {w : World} {b o : Nat} {pre vs post : List Value} {e : TypeId} {fz : Nat × Nat} (h : w.heap[b]? = some (.cells (pre ++ vs ++ post).toArray e fz)) (hp : pre.length = o)
  {j : Nat} {v : Value} (hv : vs[j]? = some v) : w.cell? ⟨b, o + j, none⟩ = some v := by
 have hj : j < vs.length := (List.getElem?_eq_some_iff.1 hv).1
 simp only [World.cell?, h]
 subst hp
 have : (pre ++ vs ++ post)[pre.length + j]? = some v := by
  rw [List.append_assoc, List.getElem?_append_right (by omega), Nat.add_sub_cancel_left, List.getElem?_append_left hj]; exact hv
 simpa using this
theorem run_loadCells_at {w : World} {b o : Nat} {pre vs post : List Value} {e : TypeId} {fz : Nat × Nat} (h : w.heap[b]? = some (.cells (pre ++ vs ++ post).toArray e fz)) (hp : pre.length = o)
  (off n : Nat) (hn : off + n ≤ vs.length) : (loadCells ⟨b, o + off, none⟩ n).run P w = .ok ((vs.drop off).take n).toArray w := by
 have hl : ((vs.drop off).take n).length = n := by simp; omega
 have := run_loadCells_list (P := P) w ⟨b, o + off, none⟩ ((vs.drop off).take n) (fun j v hv => by
  rw [add_at, Nat.add_assoc]
  have hj : j < ((vs.drop off).take n).length := (List.getElem?_eq_some_iff.1 hv).1
  refine cell_at h hp ?_
  rw [List.getElem?_take_of_lt (by omega), List.getElem?_drop] at hv
  exact hv)
 rwa [hl] at this
theorem run_storeCells_fz {g o : Nat} {t : TypeId} {fz : Nat × Nat} : ∀ (vs : List Value) (i : Nat) (cur : Array Value) (w : World), w.heap[g]? = some (.cells cur t fz) → (fz.2 ≤ fz.1 ∨ cur.size ≤ fz.1) →
  o + i + vs.length ≤ cur.size → (∀ v ∈ vs, v.oneCell' = true) →
  (storeCells ⟨g, o, none⟩ vs i).run P w = .ok () (w.setRow g (cur.toList.take (o + i) ++ vs ++ cur.toList.drop (o + i + vs.length)).toArray)
 | [], i, cur, w, hg, _, _, _ => by
  simp only [storeCells, List.append_nil, List.length_nil, Nat.add_zero, List.take_append_drop, Array.toArray_toList]
  rw [setRow_self w g cur t fz hg]
  rfl
 | v :: rest, i, cur, w, hg, hfz, hl, h1 => by
  have hi : o + i < cur.size := by simp at hl; omega
  have hadd : (⟨g, o, none⟩ : Addr).add i = ⟨g, o + i, none⟩ := by unfold Addr.add; split <;> simp_all
  have hcell : w.cell? ⟨g, o + i, none⟩ = some cur[o + i] := by simp [World.cell?, hg, hi]
  have hfro : w.frozen? ⟨g, o + i, none⟩ = false := by
   obtain ⟨lo, hi'⟩ := fz
   simp only [World.frozen?, hg, Bool.and_eq_false_iff, decide_eq_false_iff_not]
   simp only at hfz
   omega
  have hst : (store ((⟨g, o, none⟩ : Addr).add i) v).run P w = .ok () (w.setRow g (cur.setIfInBounds (o + i) v)) := by
   rw [hadd, run_store P w _ v _ (h1 v (by simp)), hcell]
   simp [hfro, setCell_eq_setRow w g (o + i) cur t fz v hg]
  have ih := run_storeCells_fz (o := o) rest (i + 1) (cur.setIfInBounds (o + i) v) (w.setRow g (cur.setIfInBounds (o + i) v)) (setRow_heap w g cur _ t _ hg) (by simpa using hfz) (by simp at hl ⊢; omega) (fun x hx => h1 x (by simp [hx]))
  simp only [storeCells, Sem.run_bind, hst, Result.andThen_ok, ih, setRow_setRow]
  congr 3
  have e := list_seg_step cur.toList (o + i) v rest (by simp at hl ⊢; omega)
  simpa [Array.toList_setIfInBounds, Nat.add_assoc] using e
theorem put_row_list (pre vs post new : List Value) (off : Nat) (h : off + new.length ≤ vs.length) :
  (pre ++ vs ++ post).take (pre.length + off) ++ new ++ (pre ++ vs ++ post).drop (pre.length + off + new.length) = pre ++ (vs.take off ++ new ++ vs.drop (off + new.length)) ++ post := by
 have e1 : (pre ++ vs ++ post).take (pre.length + off) = pre ++ vs.take off := by
  rw [List.append_assoc, List.take_length_add_append, List.take_append_of_le_length (by omega)]
 have e2 : (pre ++ vs ++ post).drop (pre.length + off + new.length) = vs.drop (off + new.length) ++ post := by
  rw [List.append_assoc, Nat.add_assoc, List.drop_length_add_append, List.drop_append_of_le_length (by omega)]
 rw [e1, e2]
 simp [List.append_assoc]
end Go.Ev
set_option linter.all false
namespace Go.Ev
variable {P : Program} {φ ψ : Phi} {H : Heap} {w u : World}
theorem RowRel.congr {a : At} {wr : Bool} {esz : Nat} {rows : List (List AV)} (he : u.heap[a.b]? = w.heap[a.b]?) (h : RowRel P φ w a wr esz rows) : RowRel P φ u a wr esz rows :=
 ⟨h.pos, h.len, by rw [he]; exact h.there⟩
theorem RowRel.mono {a : At} {wr : Bool} {esz : Nat} {rows : List (List AV)} (hl : φ.le ψ) (h : RowRel P φ w a wr esz rows) : RowRel P ψ w a wr esz rows :=
 ⟨h.pos, h.len, let ⟨pre, vs, post, e, lo, hi, h1, h2, h3, h4, h5, h6⟩ := h.there; ⟨pre, vs, post, e, lo, hi, h1, h2, h3, h4, h5.mono hl, h6⟩⟩
theorem BlkRel.congr {a : At} {b : Blk} (he : u.heap[a.b]? = w.heap[a.b]?) (h : BlkRel P φ w a b) : BlkRel P φ u a b := by
 cases b with
 | dead => trivial
 | row wr esz rows => exact RowRel.congr he h
 | map es => obtain ⟨c, clock, h1, h2⟩ := h; exact ⟨c, clock, by rw [he]; exact h1, h2⟩
theorem BlkRel.mono {a : At} {b : Blk} (hl : φ.le ψ) (h : BlkRel P φ w a b) : BlkRel P ψ w a b := by
 cases b with
 | dead => trivial
 | row wr esz rows => exact RowRel.mono hl h
 | map es => obtain ⟨c, clock, h1, h2⟩ := h; exact ⟨c, clock, h1, h2.mono hl⟩
theorem loadCells_sound (hw : WRel P φ H w) {k : K} {wr : Bool} {esz : Nat} {rows : List (List AV)} {a : At} (hk : H.get k = some (.row wr esz rows)) (hφ : φ k = some a)
  (off n : Nat) (hn : off + n ≤ rows.flatten.length) :
  ∃ vs, (loadCells ⟨a.b, a.o + off, none⟩ n).run P w = .ok vs.toArray w ∧ VRels P φ ((rows.flatten.drop off).take n) vs ∧ ∀ v ∈ vs, v.oneCell' = true := by
 obtain ⟨_, _, pre, vs, post, e, lo, hi, h1, h2, h3, _, h5, h6⟩ := hw.blk k _ a hk hφ
 have hlen := h5.length
 refine ⟨_, run_loadCells_at (P := P) h1 h2 off n (by omega), (h5.drop off).take n, fun v hv => h6.1 v (List.mem_of_mem_drop (List.mem_of_mem_take hv))⟩
theorem loadCells_drew (hw : WRel P φ H w) {k : K} {wr : Bool} {esz : Nat} {rows : List (List AV)} {a : At} (hk : H.get k = some (.row wr esz rows)) (hφ : φ k = some a)
  (off n : Nat) (hn : off + n ≤ rows.flatten.length) :
  ∃ vs, (∀ m, (loadCells ⟨a.b, a.o + off, none⟩ n).run P { w with drawn := m } = .ok vs.toArray { w with drawn := m }) ∧ VRels P φ ((rows.flatten.drop off).take n) vs ∧ ∀ v ∈ vs, v.oneCell' = true := by
 obtain ⟨_, _, pre, vs, post, e, lo, hi, h1, h2, h3, _, h5, h6⟩ := hw.blk k _ a hk hφ
 have hlen := h5.length
 exact ⟨_, fun m => run_loadCells_at (P := P) (w := { w with drawn := m }) h1 h2 off n (by omega), (h5.drop off).take n, fun v hv => h6.1 v (List.mem_of_mem_drop (List.mem_of_mem_take hv))⟩
theorem load_sound (hw : WRel P φ H w) {k : K} {wr : Bool} {esz : Nat} {rows : List (List AV)} {a : At} (hk : H.get k = some (.row wr esz rows)) (hφ : φ k = some a)
  (off : Nat) (v : AV) (hv : rows.flatten[off]? = some v) :
  ∃ v', (load ⟨a.b, a.o + off, none⟩).run P w = .ok v' w ∧ VRel P φ v v' ∧ v'.oneCell' = true := by
 obtain ⟨_, _, pre, vs, post, e, lo, hi, h1, h2, h3, _, h5, h6⟩ := hw.blk k _ a hk hφ
 obtain ⟨v', hv', hr⟩ := h5.nth off hv
 refine ⟨v', ?_, hr, h6.1 v' (List.mem_of_getElem? hv')⟩
 have hc := cell_at h1 h2 hv'
 rw [run_load, hc]
theorem turn_sound (hw : WRel P φ H w) {k : K} {b b' : Blk} {a : At} (hk : H.get k = some b) (hφ : φ k = some a) (hb : b.mayWrite) (hb' : b'.live → b'.mayWrite)
  (hs : u.heap.size = w.heap.size) (ho : ∀ x, x ≠ a.b → u.heap[x]? = w.heap[x]?) (hos : u.os = w.os) (htape : u.tape = w.tape) (hout : u.output = w.output)
  (hn : BlkRel P φ u a b') : WRel P φ (H.set k b') u ∧ Ext φ H w φ (H.set k b') u := by
 have hlive : b.live := by cases b <;> simp_all [Blk.mayWrite, Blk.live]
 have hne : ∀ j c x, j ≠ k → H.get j = some c → φ j = some x → c.live → x.b ≠ a.b := by
  intro j c x hj hc hx hl e
  exact hw.inj k j b c a x (Ne.symm hj) hk hc hφ hx hlive hl e.symm hb
 refine WRel.pack hw ⟨hw.dom, ?_, ?_, ?_, fun j x hj => by rw [hs]; exact hw.size j x hj⟩ ⟨fun _ _ => rfl, Nat.le_refl _, Nat.le_of_eq hs.symm, ?_, ?_, ?_, hos, htape, hout⟩
 ·intro j c hj
  rw [Heap.get_set] at hj
  split at hj
  ·rename_i e; subst e; exact hw.top k b hk
  ·exact hw.top j c hj
 ·intro j c x hj hx
  rw [Heap.get_set] at hj
  split at hj
  ·rename_i e; subst e; simp only [Option.some.injEq] at hj; subst hj; rw [hφ] at hx; simp only [Option.some.injEq] at hx; subst hx; exact hn
  ·rename_i e
   have := hw.blk j c x hj hx
   by_cases hl : c.live
   ·exact BlkRel.congr (ho _ (hne j c x (fun h => e h.symm) hj hx hl)) this
   ·cases c <;> simp_all [Blk.live, BlkRel]
 ·intro i j c d x y hij hi hj hx hy hc hd hxy
  rw [Heap.get_set] at hi hj
  split at hi
  ·rename_i e; subst e
   rw [if_neg hij] at hj
   simp only [Option.some.injEq] at hi; subst hi
   rw [hφ] at hx; simp only [Option.some.injEq] at hx; subst hx
   exact absurd hxy.symm (hne j d y (Ne.symm hij) hj hy hd)
  ·split at hj
   ·rename_i e1 e; subst e
    simp only [Option.some.injEq] at hj; subst hj
    rw [hφ] at hy; simp only [Option.some.injEq] at hy; subst hy
    exact absurd hxy (hne i c x hij hi hx hc)
   ·exact hw.inj i j c d x y hij hi hj hx hy hc hd hxy
 ·intro x _ hx
  exact ho x (fun e => hx ⟨k, b, a, hk, hb, hφ, e.symm⟩)
 ·intro j _ hj
  rw [Heap.get_set, if_neg]
  intro e; subst e; rw [hφ] at hj; cases hj
 ·rintro x _ ⟨j, c, y, hj, hc, hy, e⟩
  rw [Heap.get_set] at hj
  split at hj
  ·rename_i e1; subst e1; exact ⟨_, b, a, hk, hb, hφ, by rw [hφ] at hy; simp only [Option.some.injEq] at hy; rw [hy]; exact e⟩
  ·exact ⟨j, c, y, hj, hc, hy, e⟩
theorem storeCells_sound (hw : WRel P φ H w) {k : K} {esz : Nat} {rows rows' : List (List AV)} {a : At} (hk : H.get k = some (.row true esz rows)) (hφ : φ k = some a)
  {off : Nat} {vals : List AV} {vals' : List Value} (hv : VRels P φ vals vals') (h1 : ∀ v ∈ vals', v.oneCell' = true) (hwr : Wrote esz rows off vals rows') :
  ∃ u, (storeCells ⟨a.b, a.o + off, none⟩ vals').run P w = .ok () u ∧ WRel P φ (H.set k (.row true esz rows')) u ∧ Ext φ H w φ (H.set k (.row true esz rows')) u := by
 obtain ⟨hp, _, pre, vs, post, e, lo, hi, g1, g2, g3, g4, g5, g6⟩ := hw.blk k _ a hk hφ
 have hlen := g5.length
 have hvl := hv.length
 have hfit := hwr.fits
 have hsize : (pre ++ vs ++ post).toArray.size = a.n := by simpa using g3
 have hst := run_storeCells_fz (P := P) (o := a.o + off) vals' 0 _ w g1 (by rw [hsize]; exact (g4 rfl).imp id And.left) (by simp at hsize ⊢; omega) h1
 refine ⟨_, hst, ?_⟩
 have hl : (List.take (a.o + off + 0) (pre ++ vs ++ post).toArray.toList ++ vals' ++ List.drop (a.o + off + 0 + vals'.length) (pre ++ vs ++ post).toArray.toList) =
   pre ++ (vs.take off ++ vals' ++ vs.drop (off + vals'.length)) ++ post := by
  rw [← put_row_list pre vs post vals' off (by omega), g2]
  simp
 rw [hl]
 refine turn_sound hw hk hφ rfl (fun _ => rfl) (setRow_size _ _ _) (fun x hx => setRow_other w a.b x _ hx) rfl rfl rfl ?_
 refine ⟨hp, hwr.len, pre, vs.take off ++ vals' ++ vs.drop (off + vals'.length), post, e, lo, hi, setRow_heap w a.b _ _ e _ g1, g2, ?_, g4, ?_, ?_, g6.2⟩
 ·simp at g3 ⊢; omega
 ·rw [hwr.flat, ← hvl]
  exact ((g5.take off).append hv).append (g5.drop _)
 ·intro v hv'
  simp only [List.mem_append] at hv'
  rcases hv' with (hv' | hv') | hv'
  ·exact g6.1 v (List.mem_of_mem_take hv')
  ·exact h1 v hv'
  ·exact g6.1 v (List.mem_of_mem_drop hv')
def Phi.put (φ : Phi) (k : K) (a : At) : Phi := fun j => if j = k then some a else φ j
theorem Phi.put_same (φ : Phi) (k : K) (a : At) : φ.put k a k = some a := if_pos rfl
theorem Phi.put_le (φ : Phi) (k : K) (a : At) (h : φ k = none) : φ.le (φ.put k a) := by
 intro j x hj
 unfold Phi.put
 split
 ·rename_i e; subst e; rw [h] at hj; cases hj
 ·exact hj
theorem WRel.nx_none (hw : WRel P φ H w) : φ H.nx = none := by
 cases h : φ H.nx with
 | none => rfl
 | some a => exact absurd (hw.dom _ a h) (Nat.lt_irrefl _)
theorem add_sound (hw : WRel P φ H w) (b : Blk) (o : Obj) (n : Nat)
  (hn : BlkRel P (φ.put H.nx ⟨w.heap.size, 0, n⟩) { w with heap := w.heap.push o } ⟨w.heap.size, 0, n⟩ b) :
  WRel P (φ.put H.nx ⟨w.heap.size, 0, n⟩) (H.add b) { w with heap := w.heap.push o } ∧
  Ext φ H w (φ.put H.nx ⟨w.heap.size, 0, n⟩) (H.add b) { w with heap := w.heap.push o } := by
 have hnone := hw.nx_none
 have hle := Phi.put_le φ H.nx ⟨w.heap.size, 0, n⟩ hnone
 have hsucc : H.nx.toNat < (H.add b).nx.toNat := K.lt_succ _
 have hold : ∀ x, x < w.heap.size → (w.heap.push o)[x]? = w.heap[x]? := fun x hx => by rw [Array.getElem?_push, if_neg (by omega)]
 have hput : ∀ j x, j ≠ H.nx → φ.put H.nx ⟨w.heap.size, 0, n⟩ j = some x → φ j = some x := by
  intro j x hj hx
  unfold Phi.put at hx
  rwa [if_neg hj] at hx
 refine WRel.pack hw ⟨?_, ?_, ?_, ?_, ?_⟩ ⟨?_, Nat.le_of_lt hsucc, by simp, ?_, ?_, ?_, rfl, rfl, rfl⟩
 ·intro j x hx
  by_cases e : j = H.nx
  ·subst e; exact hsucc
  ·exact Nat.lt_trans (hw.dom j x (hput j x e hx)) hsucc
 ·intro j c hj
  rw [Heap.get_add] at hj
  split at hj
  ·rename_i e; subst e; exact hsucc
  ·exact Nat.lt_trans (hw.top j c hj) hsucc
 ·intro j c x hj hx
  rw [Heap.get_add] at hj
  split at hj
  ·rename_i e; subst e
   simp only [Option.some.injEq] at hj; subst hj
   rw [Phi.put_same] at hx; simp only [Option.some.injEq] at hx; subst hx
   exact hn
  ·rename_i e
   have hx' := hput j x (fun h => e h.symm) hx
   have := hw.blk j c x hj hx'
   exact BlkRel.congr (w := w) (hold _ (hw.size j x hx')) (this.mono hle)
 ·intro i j c d x y hij hi hj hx hy hc hd hxy
  by_cases e1 : i = H.nx
  ·by_cases e2 : j = H.nx
   ·exact absurd (e1.trans e2.symm) hij
   ·subst e1
    rw [Phi.put_same] at hx; simp only [Option.some.injEq] at hx; subst hx
    have := hw.size j y (hput j y e2 hy)
    simp only at hxy; omega
  ·by_cases e2 : j = H.nx
   ·subst e2
    rw [Phi.put_same] at hy; simp only [Option.some.injEq] at hy; subst hy
    have := hw.size i x (hput i x e1 hx)
    simp only at hxy; omega
   ·rw [Heap.get_add, if_neg (fun h => e1 h.symm)] at hi
    rw [Heap.get_add, if_neg (fun h => e2 h.symm)] at hj
    exact hw.inj i j c d x y hij hi hj (hput i x e1 hx) (hput j y e2 hy) hc hd hxy
 ·intro j x hx
  by_cases e : j = H.nx
  ·subst e; rw [Phi.put_same] at hx; simp only [Option.some.injEq] at hx; subst hx; simp
  ·have := hw.size j x (hput j x e hx); simp; omega
 ·intro j hj
  unfold Phi.put
  rw [if_neg]
  intro e; subst e; exact Nat.lt_irrefl _ hj
 ·intro x hx _
  exact hold x hx
 ·intro j hj _
  rw [Heap.get_add, if_neg]
  intro e; subst e; exact Nat.lt_irrefl _ hj
 ·rintro x hx ⟨j, c, y, hj, hc, hy, e⟩
  by_cases e1 : j = H.nx
  ·subst e1; rw [Phi.put_same] at hy; simp only [Option.some.injEq] at hy; subst hy
   simp only at e; omega
  ·rw [Heap.get_add, if_neg (fun h => e1 h.symm)] at hj
   exact ⟨j, c, y, hj, hc, hput j y e1 hy, e⟩
theorem newRow_sound (hw : WRel P φ H w) {esz : Nat} {rows : List (List AV)} (hp : 0 < esz) (hl : ∀ r ∈ rows, r.length = esz) {vs post : List Value} (hv : VRels P φ rows.flatten vs)
  (h1 : ∀ v ∈ vs, v.oneCell' = true) (hpo : ∀ v ∈ post, v.oneCell' = true) (e : TypeId) (lo hi : Nat) (hf : hi ≤ lo ∨ ((vs ++ post).length ≤ lo ∧ esz = 1)) :
  WRel P (φ.put H.nx ⟨w.heap.size, 0, (vs ++ post).length⟩) (H.add (.row true esz rows)) { w with heap := w.heap.push (.cells (vs ++ post).toArray e (lo, hi)) } ∧
  Ext φ H w (φ.put H.nx ⟨w.heap.size, 0, (vs ++ post).length⟩) (H.add (.row true esz rows)) { w with heap := w.heap.push (.cells (vs ++ post).toArray e (lo, hi)) } := by
 refine add_sound hw _ _ _ ⟨hp, hl, [], vs, post, e, lo, hi, ?_, rfl, by simp, fun _ => hf, hv.mono (Phi.put_le _ _ _ hw.nx_none), h1, fun _ => hpo⟩
 simp
theorem dead_sound (hw : WRel P φ H w) (k : K) (hk : k.toNat < H.nx.toNat) (hn : φ k ≠ none) : WRel P φ (H.set k .dead) w ∧ Ext φ H w φ (H.set k .dead) w := by
 refine WRel.pack hw ⟨hw.dom, ?_, ?_, ?_, hw.size⟩ ⟨fun _ _ => rfl, Nat.le_refl _, Nat.le_refl _, fun _ _ _ => rfl, ?_, ?_, rfl, rfl, rfl⟩
 ·intro j c hj
  rw [Heap.get_set] at hj
  split at hj
  ·rename_i e; subst e; exact hk
  ·exact hw.top j c hj
 ·intro j c x hj hx
  rw [Heap.get_set] at hj
  split at hj
  ·simp only [Option.some.injEq] at hj; subst hj; trivial
  ·exact hw.blk j c x hj hx
 ·intro i j c d x y hij hi hj hx hy hc hd hxy
  rw [Heap.get_set] at hi hj
  split at hi
  ·simp only [Option.some.injEq] at hi; subst hi; exact absurd hc (by simp [Blk.live])
  ·split at hj
   ·simp only [Option.some.injEq] at hj; subst hj; exact absurd hd (by simp [Blk.live])
   ·exact hw.inj i j c d x y hij hi hj hx hy hc hd hxy
 ·intro j _ hj
  rw [Heap.get_set, if_neg]
  intro e; subst e; exact hn hj
 ·rintro x _ ⟨j, c, y, hj, hc, hy, e⟩
  rw [Heap.get_set] at hj
  split at hj
  ·simp only [Option.some.injEq] at hj; subst hj; exact absurd hc (by simp [Blk.mayWrite])
  ·exact ⟨j, c, y, hj, hc, hy, e⟩
end Go.Ev
