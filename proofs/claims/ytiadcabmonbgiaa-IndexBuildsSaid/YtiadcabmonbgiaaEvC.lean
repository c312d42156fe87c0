/- Rows of cells, read and written: the evaluator's way, and what the model's loads and stores do. -/
import Derived.Test.YtiadcabmonbgiaaEvB
import Derived.Laws.CopyRow
import Derived.Laws.Tables
namespace Go.Ev

noncomputable def flatL {α : Type} (l : List (List α)) : List α := List.rec (motive := fun _ => List α) [] (fun x _ ih => x ++ ih) l
theorem flatL_eq {α : Type} : ∀ l : List (List α), flatL l = l.flatten
  | [] => rfl
  | x :: l => by show x ++ flatL l = _; rw [flatL_eq l]; rfl

theorem flatten_length_of {α : Type} (e : Nat) : ∀ (l : List (List α)), (∀ r ∈ l, r.length = e) → l.flatten.length = l.length * e
  | [], _ => by simp
  | x :: l, h => by
    have := flatten_length_of e l (fun r hr => h r (by simp [hr]))
    simp [this, h x (by simp), Nat.add_mul, Nat.add_comm]

theorem drop_flatten {α : Type} (e : Nat) : ∀ (r : Nat) (l : List (List α)), (∀ x ∈ l, x.length = e) → l.flatten.drop (r * e) = (l.drop r).flatten
  | 0, l, _ => by simp
  | r + 1, [], _ => by simp
  | r + 1, x :: l, h => by
    have hx := h x (by simp)
    have := drop_flatten e r l (fun y hy => h y (by simp [hy]))
    simp only [List.flatten_cons, List.drop_succ_cons]
    rw [← this, Nat.add_mul, Nat.one_mul, Nat.add_comm, ← List.drop_drop, ← hx, List.drop_left]
theorem take_flatten {α : Type} (e : Nat) : ∀ (r : Nat) (l : List (List α)), (∀ x ∈ l, x.length = e) → l.flatten.take (r * e) = (l.take r).flatten
  | 0, l, _ => by simp
  | r + 1, [], _ => by simp
  | r + 1, x :: l, h => by
    have hx := h x (by simp)
    have := take_flatten e r l (fun y hy => h y (by simp [hy]))
    simp only [List.flatten_cons, List.take_succ_cons]
    rw [← this, Nat.add_mul, Nat.one_mul, Nat.add_comm, ← hx, List.take_length_add_append]

/-- n cells from off on -/
noncomputable def readC {β : Type} (f : β) (esz : Nat) (rows : List (List AV)) (off n : Nat) (c : List AV → β) : β :=
  fN (off / esz) fun r => fN (off % esz) fun q =>
    Option.rec (motive := fun _ => β) f
      (fun row => bif' (Nat.beq q 0 && Nat.beq n esz) (c row)
        (bif' (Nat.ble (q + n) esz) (takeC f n (dropL q row) c) (takeC f n (dropL q (flatL (dropL r rows))) c))) (nthL r rows)

theorem readC_eq {β : Type} (f : β) (esz : Nat) (rows : List (List AV)) (off n : Nat) (c : List AV → β) (hp : 0 < esz) (hl : ∀ r ∈ rows, r.length = esz) :
    readC f esz rows off n c = f ∨ (off + n ≤ rows.flatten.length ∧ readC f esz rows off n c = c ((rows.flatten.drop off).take n)) := by
  unfold readC
  simp only [fN_eq, nthL_eq]
  have hdm : off / esz * esz + off % esz = off := by rw [Nat.mul_comm]; exact Nat.div_add_mod off esz
  have hq : off % esz < esz := Nat.mod_lt _ hp
  generalize off / esz = r at *
  generalize off % esz = q at *
  cases hr : rows[r]? with
  | none => exact .inl rfl
  | some row =>
    have hlen := flatten_length_of esz rows hl
    have hrl : r < rows.length := (List.getElem?_eq_some_iff.1 hr).1
    have hrow : row.length = esz := hl row (List.mem_of_getElem? hr)
    have hd : rows.flatten.drop off = (row ++ (rows.drop (r + 1)).flatten).drop q := by
      rw [← hdm, ← List.drop_drop, drop_flatten esz r rows hl]
      congr 1
      rw [List.drop_eq_getElem_cons hrl, List.flatten_cons]
      congr 1
      have := (List.getElem?_eq_some_iff.1 hr).2
      simpa using this
    have hmul : (r + 1) * esz ≤ rows.length * esz := Nat.mul_le_mul_right _ hrl
    rw [Nat.add_mul, Nat.one_mul] at hmul
    by_cases h1 : (Nat.beq q 0 && Nat.beq n esz) = true
    · simp only [h1, bif_true]
      simp only [Bool.and_eq_true, Nat.beq_eq] at h1
      obtain ⟨rfl, rfl⟩ := h1
      refine .inr ⟨by omega, ?_⟩
      rw [hd]
      congr 1
      rw [List.drop_zero, ← hrow]; exact (List.take_left).symm
    · simp only [eq_false_of_ne_true h1, bif_false]
      by_cases h2 : Nat.ble (q + n) esz = true
      · simp only [h2, bif_true]
        have h2' := Nat.le_of_ble_eq_true h2
        rw [takeC_eq, dropL_eq, if_pos (by simp; omega)]
        refine .inr ⟨by omega, ?_⟩
        rw [hd, List.drop_append_of_le_length (by omega), List.take_append_of_le_length (by simp; omega)]
      · simp only [eq_false_of_ne_true h2, bif_false]
        rw [takeC_eq, dropL_eq, dropL_eq, flatL_eq, ← drop_flatten esz r rows hl, List.drop_drop, hdm]
        split
        · rename_i h3
          by_cases h0 : n = 0
          · subst h0; refine .inr ⟨?_, rfl⟩; omega
          · refine .inr ⟨?_, rfl⟩
            simp only [List.length_drop] at h3; omega
        · exact .inl rfl

noncomputable def sing (l : List AV) : List (List AV) := List.rec (motive := fun _ => List (List AV)) [] (fun x _ ih => [x] :: ih) l
theorem sing_eq : ∀ l, sing l = l.map fun x => [x]
  | [] => rfl
  | x :: l => by show [x] :: sing l = _; rw [sing_eq l]; rfl
theorem flatten_sing : ∀ l : List AV, (sing l).flatten = l
  | [] => rfl
  | x :: l => by show [x] ++ (sing l).flatten = _; rw [flatten_sing l]; rfl

/-- cells put at off -/
noncomputable def writeC {β : Type} (f : β) (esz : Nat) (rows : List (List AV)) (off : Nat) (vals : List AV) (c : List (List AV) → β) : β :=
  fN (off / esz) fun r => fN (off % esz) fun q =>
    bif' (Nat.ble (q + vals.length) esz)
      (Option.rec (motive := fun _ => β) f (fun row => bif' (Nat.beq q 0 && Nat.beq vals.length esz) (putC f [vals] r rows c) (putC f vals q row fun row => putC f [row] r rows c)) (nthL r rows))
      (bif' (Nat.beq esz 1) (putC f (sing vals) r rows c) f)

/-- the pieces are of one length still, and as a whole: cells put at off -/
structure Wrote (esz : Nat) (rows : List (List AV)) (off : Nat) (vals : List AV) (rows' : List (List AV)) : Prop where
  len : ∀ r ∈ rows', r.length = esz
  fits : off + vals.length ≤ rows.flatten.length
  flat : rows'.flatten = rows.flatten.take off ++ vals ++ rows.flatten.drop (off + vals.length)

theorem put_rows (esz : Nat) (rows new : List (List AV)) (r : Nat) (hl : ∀ x ∈ rows, x.length = esz) (hn : ∀ x ∈ new, x.length = esz) (hr : r + new.length ≤ rows.length) :
    Wrote esz rows (r * esz) new.flatten (rows.take r ++ new ++ rows.drop (r + new.length)) where
  len x hx := by
    simp only [List.mem_append] at hx
    rcases hx with (hx | hx) | hx
    · exact hl x (List.mem_of_mem_take hx)
    · exact hn x hx
    · exact hl x (List.mem_of_mem_drop hx)
  fits := by
    rw [flatten_length_of esz rows hl, flatten_length_of esz new hn, ← Nat.add_mul]
    exact Nat.mul_le_mul_right _ hr
  flat := by
    rw [flatten_length_of esz new hn, ← Nat.add_mul, take_flatten esz r rows hl, drop_flatten esz _ rows hl]
    simp

theorem writeC_eq {β : Type} (f : β) (esz : Nat) (rows : List (List AV)) (off : Nat) (vals : List AV) (c : List (List AV) → β) (hp : 0 < esz) (hl : ∀ r ∈ rows, r.length = esz) :
    writeC f esz rows off vals c = f ∨ ∃ rows', writeC f esz rows off vals c = c rows' ∧ Wrote esz rows off vals rows' := by
  unfold writeC
  simp only [fN_eq, nthL_eq]
  have hdm : off / esz * esz + off % esz = off := by rw [Nat.mul_comm]; exact Nat.div_add_mod off esz
  have hq : off % esz < esz := Nat.mod_lt _ hp
  generalize off / esz = r at *
  generalize off % esz = q at *
  by_cases h2 : Nat.ble (q + vals.length) esz = true
  · simp only [h2, bif_true]
    have h2' := Nat.le_of_ble_eq_true h2
    cases hr : rows[r]? with
    | none => exact .inl rfl
    | some row =>
      have hrl : r < rows.length := (List.getElem?_eq_some_iff.1 hr).1
      have hrow : row.length = esz := hl row (List.mem_of_getElem? hr)
      have hget : rows[r] = row := (List.getElem?_eq_some_iff.1 hr).2
      by_cases h1 : (Nat.beq q 0 && Nat.beq vals.length esz) = true
      · simp only [h1, bif_true]
        simp only [Bool.and_eq_true, Nat.beq_eq] at h1
        obtain ⟨rfl, h1⟩ := h1
        rw [putC_eq]
        split
        · rename_i h3
          refine .inr ⟨_, rfl, ?_⟩
          have := put_rows esz rows [vals] r hl (by simp [h1]) h3
          simpa [← hdm] using this
        · exact .inl rfl
      · simp only [eq_false_of_ne_true h1, bif_false]
        rw [putC_eq]
        split
        · rw [putC_eq]
          split
          · rename_i h3 h4
            refine .inr ⟨_, rfl, ?_⟩
            have hnl : (row.take q ++ vals ++ row.drop (q + vals.length)).length = esz := by simp; omega
            have hw := put_rows esz rows [row.take q ++ vals ++ row.drop (q + vals.length)] r hl (by simpa using hnl) h4
            have hlen := flatten_length_of esz rows hl
            have hmul : (r + 1) * esz ≤ rows.length * esz := Nat.mul_le_mul_right _ hrl
            rw [Nat.add_mul, Nat.one_mul] at hmul
            refine ⟨hw.len, by rw [hlen]; omega, ?_⟩
            have hsplit : rows.flatten = rows.flatten.take (r * esz) ++ row ++ rows.flatten.drop (r * esz + esz) := by
              have hd : rows.flatten.drop (r * esz) = row ++ rows.flatten.drop (r * esz + esz) := by
                rw [← List.drop_drop, drop_flatten esz r rows hl, List.drop_eq_getElem_cons hrl, hget, List.flatten_cons]
                rw [← hrow, List.drop_left]
              rw [List.append_assoc, ← hd, List.take_append_drop]
            have hf := hw.flat
            simp only [List.flatten_cons, List.flatten_nil, List.append_nil] at hf
            rw [hf, hnl]
            generalize hA : rows.flatten.take (r * esz) = A at *
            generalize hB : rows.flatten.drop (r * esz + esz) = B at *
            have hAl : A.length = r * esz := by rw [← hA, List.length_take, hlen]; omega
            rw [hsplit, ← hdm]
            have e1 : (A ++ row ++ B).take (r * esz + q) = A ++ row.take q := by
              rw [List.append_assoc, List.take_append, hAl, List.take_of_length_le (by omega)]
              congr 1
              rw [Nat.add_sub_cancel_left, List.take_append_of_le_length (by omega)]
            have e2 : (A ++ row ++ B).drop (r * esz + q + vals.length) = row.drop (q + vals.length) ++ B := by
              rw [List.append_assoc, List.drop_append, hAl, List.drop_of_length_le (by omega), List.nil_append]
              rw [show r * esz + q + vals.length - r * esz = q + vals.length by omega, List.drop_append_of_le_length (by omega)]
            rw [e1, e2]
            simp
          · exact .inl rfl
        · exact .inl rfl
  · simp only [eq_false_of_ne_true h2, bif_false]
    by_cases h3 : Nat.beq esz 1 = true
    · simp only [h3, bif_true]
      rw [Nat.beq_eq] at h3
      subst h3
      rw [putC_eq]
      split
      · rename_i h4
        refine .inr ⟨_, rfl, ?_⟩
        have := put_rows 1 rows (sing vals) r hl (by simp [sing_eq]) h4
        rw [flatten_sing] at this
        have hq0 : q = 0 := by omega
        subst hq0
        rwa [show r * 1 = off by omega] at this
      · exact .inl rfl
    · exact .inl (by simp only [eq_false_of_ne_true h3, bif_false])

/-! ## The model's side -/

variable {P : Program}

theorem add_at (b o i : Nat) : (⟨b, o, none⟩ : Addr).add i = ⟨b, o + i, none⟩ := by unfold Addr.add; split <;> simp_all

/-- The cells of a row, as the model has them. -/
theorem cell_at {w : World} {b o : Nat} {pre vs post : List Value} {e : TypeId} {fz : Nat × Nat} (h : w.heap[b]? = some (.cells (pre ++ vs ++ post).toArray e fz)) (hp : pre.length = o)
    {j : Nat} {v : Value} (hv : vs[j]? = some v) : w.cell? ⟨b, o + j, none⟩ = some v := by
  have hj : j < vs.length := (List.getElem?_eq_some_iff.1 hv).1
  simp only [World.cell?, h]
  subst hp
  have : (pre ++ vs ++ post)[pre.length + j]? = some v := by
    rw [List.append_assoc, List.getElem?_append_right (by omega), Nat.add_sub_cancel_left, List.getElem?_append_left hj]; exact hv
  simpa using this

theorem run_loadCells_at {w : World} {b o : Nat} {pre vs post : List Value} {e : TypeId} {fz : Nat × Nat} (h : w.heap[b]? = some (.cells (pre ++ vs ++ post).toArray e fz)) (hp : pre.length = o)
    (off n : Nat) (hn : off + n ≤ vs.length) : (loadCells ⟨b, o + off, none⟩ n).run P w = .ok ((vs.drop off).take n).toArray w := by
  have hl : ((vs.drop off).take n).length = n := by simp; omega
  have := run_loadCells_list (P := P) w ⟨b, o + off, none⟩ ((vs.drop off).take n) (fun j v hv => by
    rw [add_at, Nat.add_assoc]
    have hj : j < ((vs.drop off).take n).length := (List.getElem?_eq_some_iff.1 hv).1
    refine cell_at h hp ?_
    rw [List.getElem?_take_of_lt (by omega), List.getElem?_drop] at hv
    exact hv)
  rwa [hl] at this

theorem run_storeCells_fz {g o : Nat} {t : TypeId} {fz : Nat × Nat} : ∀ (vs : List Value) (i : Nat) (cur : Array Value) (w : World), w.heap[g]? = some (.cells cur t fz) → (fz.2 ≤ fz.1 ∨ cur.size ≤ fz.1) →
    o + i + vs.length ≤ cur.size → (∀ v ∈ vs, v.oneCell' = true) →
    (storeCells ⟨g, o, none⟩ vs i).run P w = .ok () (w.setRow g (cur.toList.take (o + i) ++ vs ++ cur.toList.drop (o + i + vs.length)).toArray)
  | [], i, cur, w, hg, _, _, _ => by
    simp only [storeCells, List.append_nil, List.length_nil, Nat.add_zero, List.take_append_drop, Array.toArray_toList]
    rw [setRow_self w g cur t fz hg]
    rfl
  | v :: rest, i, cur, w, hg, hfz, hl, h1 => by
    have hi : o + i < cur.size := by simp at hl; omega
    have hadd : (⟨g, o, none⟩ : Addr).add i = ⟨g, o + i, none⟩ := by unfold Addr.add; split <;> simp_all
    have hcell : w.cell? ⟨g, o + i, none⟩ = some cur[o + i] := by simp [World.cell?, hg, hi]
    have hfro : w.frozen? ⟨g, o + i, none⟩ = false := by
      obtain ⟨lo, hi'⟩ := fz
      simp only [World.frozen?, hg, Bool.and_eq_false_iff, decide_eq_false_iff_not]
      simp only at hfz
      omega
    have hst : (store ((⟨g, o, none⟩ : Addr).add i) v).run P w = .ok () (w.setRow g (cur.setIfInBounds (o + i) v)) := by
      rw [hadd, run_store P w _ v _ (h1 v (by simp)), hcell]
      simp [hfro, setCell_eq_setRow w g (o + i) cur t fz v hg]
    have ih := run_storeCells_fz (o := o) rest (i + 1) (cur.setIfInBounds (o + i) v) (w.setRow g (cur.setIfInBounds (o + i) v)) (setRow_heap w g cur _ t _ hg) (by simpa using hfz) (by simp at hl ⊢; omega) (fun x hx => h1 x (by simp [hx]))
    simp only [storeCells, Sem.run_bind, hst, Result.andThen_ok, ih, setRow_setRow]
    congr 3
    have e := list_seg_step cur.toList (o + i) v rest (by simp at hl ⊢; omega)
    simpa [Array.toList_setIfInBounds, Nat.add_assoc] using e

/-- A row after cells are put into it. -/
theorem put_row_list (pre vs post new : List Value) (off : Nat) (h : off + new.length ≤ vs.length) :
    (pre ++ vs ++ post).take (pre.length + off) ++ new ++ (pre ++ vs ++ post).drop (pre.length + off + new.length) = pre ++ (vs.take off ++ new ++ vs.drop (off + new.length)) ++ post := by
  have e1 : (pre ++ vs ++ post).take (pre.length + off) = pre ++ vs.take off := by
    rw [List.append_assoc, List.take_length_add_append, List.take_append_of_le_length (by omega)]
  have e2 : (pre ++ vs ++ post).drop (pre.length + off + new.length) = vs.drop (off + new.length) ++ post := by
    rw [List.append_assoc, Nat.add_assoc, List.drop_length_add_append, List.drop_append_of_le_length (by omega)]
  rw [e1, e2]
  simp [List.append_assoc]

end Go.Ev
