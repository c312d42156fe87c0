/- what comes behind what was seen, as the code has it: walked. -/
import Derived.Test.YtomljpdjfobeoaaGreatDoorZ23
set_option linter.all false
set_option linter.all false
set_option maxRecDepth 100000
namespace Go.Proofs
open Go Go.Ev
variable {H : Heap}

theorem Sn.enc_one {a b : Sn} (h : a.enc = b.enc) : a = b := by
  cases a; cases b; simp [Sn.enc] at h; simp [h]
theorem sns_uniq {v : AV} {xs ys : List Sn} (h : Arr H 2 v (xs.map Sn.enc)) (h2 : Arr H 2 v (ys.map Sn.enc)) : xs = ys :=
  List.map_inj_right (fun _ _ => Sn.enc_one) |>.1 (Arr.uniq h h2 (by decide))
def A123 (H : Heap) (args : List AV) (q : List Sn × List Nat) : Prop := ∃ v, args = [v, .str q.2] ∧ Arr H 2 v (q.1.map Sn.enc) ∧ q.1.length < 9223372036854775807
noncomputable def EH (f : FuncId) (args : List AV) (H : Heap) : RC :=
  match f with
  | 123 => ot (A123 H args) fun q => .ok (.int .i64 (ofT q.1 q.2)) H
  | 61 => match args with | [.agg [.str f, .str t], .str k] => .ok (.bool (decide (has f t k))) H | _ => .fail
  | _ => .fail
theorem good_EH : Ev.Good Tryz.prog EH := by
  intro f args H r G he φ w args' ha hw
  refine (?_ : FnOk Tryz.prog f args H fun v' G' => v' = r ∧ G' = G).one φ w args' ha hw
  unfold EH at he
  split at he
  · obtain ⟨q, ⟨v, rfl, h1, h2⟩, hz⟩ := ot_ok he
    clear he
    cases hz
    exact f123_ok h1 h2 _
  · split at he
    · cases he; exact f61_ok _ _ _
    · cases he
  · cases he
theorem e123 {v : AV} {l : List Sn} (hA : Arr H 2 v (l.map Sn.enc)) (hl : l.length < 9223372036854775807) (k : List Nat) (L : List Blk) : EH 123 [v, .str k] (H.ext L) = .ok (.int .i64 (ofT l k)) (H.ext L) := by
  show ot (A123 (H.ext L) [v, .str k]) (fun q => .ok (.int .i64 (ofT q.1 q.2)) (H.ext L)) = _
  refine ot_eq (p := A123 (H.ext L) [v, .str k]) (x := (l, k)) ⟨v, rfl, hA.ext L, hl⟩ ?_ _
  rintro ⟨l', k'⟩ ⟨v', h1, h2, _⟩
  injection h1 with h1 h3
  injection h3 with h3 _
  injection h3 with h3
  subst h1 h3
  rw [sns_uniq (hA.ext L) h2]
theorem e61 (f t k : List Nat) (H : Heap) : EH 61 [.agg [.str f, .str t], .str k] H = .ok (.bool (decide (has f t k))) H := rfl
def tellE (f t : List Nat) (seen : List Sn) (e : Evn) : Prop := has f t e.key ∧ ofT seen e.key < e.ver
noncomputable instance (f t seen e) : Decidable (tellE f t seen e) := Classical.propDecidable _
noncomputable def tellL (f t : List Nat) (seen : List Sn) (l : List Evn) : List Evn := l.filter fun e => decide (tellE f t seen e)
theorem tellL_yes {f t : List Nat} {seen : List Sn} {l : List Evn} {i : Nat} {c : Evn} (h : l[i]? = some c) (h2 : tellE f t seen c) : tellL f t seen (l.take (i + 1)) = tellL f t seen (l.take i) ++ [c] := by
  rw [take_next h]; simp [tellL, h2]
theorem tellL_no {f t : List Nat} {seen : List Sn} {l : List Evn} {i : Nat} {c : Evn} (h : l[i]? = some c) (h2 : ¬ tellE f t seen c) : tellL f t seen (l.take (i + 1)) = tellL f t seen (l.take i) := by
  rw [take_next h]; simp [tellL, h2]
theorem tellL_len (f t : List Nat) (seen : List Sn) (l : List Evn) (i : Nat) : (tellL f t seen (l.take i)).length ≤ i := Nat.le_trans (List.length_filter_le _ _) (by simp; omega)
noncomputable def outI (f t : List Nat) (seen : List Sn) (n : Nat) (l : List Evn) (i : Nat) : List Evn := (tellL f t seen (l.take i)).take n
theorem outI_no {f t : List Nat} {seen : List Sn} {n : Nat} {l : List Evn} {i : Nat} {c : Evn} (h : l[i]? = some c) (h2 : ¬ tellE f t seen c) : outI f t seen n l (i + 1) = outI f t seen n l i := by
  unfold outI; rw [tellL_no h h2]
theorem outI_full {f t : List Nat} {seen : List Sn} {n : Nat} {l : List Evn} {i : Nat} {c : Evn} (h : l[i]? = some c) (h2 : ¬ (outI f t seen n l i).length < n) : outI f t seen n l (i + 1) = outI f t seen n l i := by
  by_cases g : tellE f t seen c
  · unfold outI at h2 ⊢
    rw [List.length_take] at h2
    rw [tellL_yes h g, List.take_append_of_le_length (by omega)]
  · exact outI_no h g
theorem outI_yes {f t : List Nat} {seen : List Sn} {n : Nat} {l : List Evn} {i : Nat} {c : Evn} (h : l[i]? = some c) (h2 : tellE f t seen c) (h3 : (outI f t seen n l i).length < n) : outI f t seen n l (i + 1) = outI f t seen n l i ++ [c] := by
  unfold outI at h3 ⊢
  rw [List.length_take] at h3
  have h4 : (tellL f t seen (l.take i)).length < n := by omega
  rw [tellL_yes h h2, List.take_of_length_le (l := tellL f t seen (l.take i)) (by omega), List.take_of_length_le (by rw [List.length_append]; exact h4)]
theorem outI_len (f t : List Nat) (seen : List Sn) (n : Nat) (l : List Evn) (i : Nat) : (outI f t seen n l i).length ≤ i := by
  unfold outI; rw [List.length_take]; have := tellL_len f t seen l i; omega
noncomputable def afterL (f t : List Nat) (seen : List Sn) (n : Nat) (l : List Evn) : List Evn := (tellL f t seen l).take n
theorem outI_all {f t : List Nat} {seen : List Sn} {n : Nat} {l : List Evn} {i : Nat} (hi : l.length ≤ i) : outI f t seen n l i = afterL f t seen n l := by
  unfold outI afterL; rw [List.take_of_length_le hi]
/-- some of what happened is no longer there -/
def lateW (f t : List Nat) (seen : List Sn) (cs : List Cell) : Prop := ∃ c ∈ withinL f t cs, ofT seen c.key < c.floor
theorem get_left {α : Type} {l l' : List α} {j : Nat} {x : α} (h : l[j]? = some x) : (l ++ l')[j]? = some x := by
  rw [List.getElem?_append_left (List.getElem?_eq_some_iff.1 h).1]; exact h
theorem get_last {α : Type} (l : List α) (x : α) : (l ++ [x])[l.length]? = some x := by
  rw [List.getElem?_append_right (Nat.le_refl _), Nat.sub_self]; rfl
def rowE (e : Evn) : Blk := .row true 4 [[.str e.key, .int .i64 e.ver, .str e.val, .bool e.del]]
theorem f70_ok {v u w : AV} {l : List Evn} {cs : List Cell} {seen : List Sn} (hA : Arr H 4 v (l.map Evn.enc)) (hB : Arr H 5 u (cs.map Cell.enc)) (hC : Arr H 2 w (seen.map Sn.enc)) (hl : l.length < 100000) (hc : cs.length < 100000) (hs : seen.length < 9223372036854775807) (f t : List Nat) (n : Nat) (hn : n < 100000) :
    FnOk Tryz.prog 70 [v, u, .agg [.str f, .str t], w, .int .i64 n] H fun r G => ∃ x L, G = H.ext L ∧ (lateW f t seen cs → r = .tup [.nils, .bool true]) ∧ (¬ lateW f t seen cs → r = .tup [x, .bool false] ∧ Arr G 4 x ((afterL f t seen n l).map Evn.enc)) := by
  refine FnOk.assume fun hok => ?_
  refine FnOk.of_WW Tryz.func70 rfl C70ok R70ok EH good_EH ?_
  simp only [go_sem, C70]
  refine CL.of (f73_at (hB.ext _) (by omega) f t) ?_
  rintro _ G' ⟨rfl, hG⟩
  obtain ⟨ws, hws⟩ : ∃ ws, ws = withinL f t cs := ⟨_, rfl⟩
  have hwl : ws.length ≤ cs.length := by rw [hws]; exact List.length_filter_le ..
  unfold lateW
  rw [← hws] at hG ⊢
  have hok1 : G'.ok := by rw [hG]; exact Heap.ok_ext (Heap.ok_ext hok _) _
  have b0 : G'.get (H.key 0) = some (.row true 2 [[.str f, .str t]]) := by rw [hG]; exact Heap.get_ext_old (Heap.ok_ext hok _) (get_first [_] []) _
  have hA1 : Arr G' 4 v (l.map Evn.enc) := by rw [hG]; exact (hA.ext _).ext _
  have hC1 : Arr G' 2 w (seen.map Sn.enc) := by rw [hG]; exact (hC.ext _).ext _
  obtain ⟨kw, hkw⟩ : ∃ k, k = (H.ext [.row true 2 [[.str f, .str t]]]).nx := ⟨_, rfl⟩
  have hW1 : Arr G' 5 (outV kw 5 ws.length) (ws.map Cell.enc) := by rw [hG, hkw, ← Heap.key_zero]; exact arr_outV (i := 0) rfl (List.length_map ..)
  have hL1 : ∃ L, G' = H.ext L := ⟨_, by rw [hG, Heap.ext_append]⟩
  rw [← hkw]
  clear hG hkw
  refine WW.nil ?_
  have hwlen := fun G => hW1.len G
  simp only [List.length_map] at hwlen
  simp only [go_sem, hwlen]
  obtain ⟨L1, hL1⟩ := hL1
  refine LL.sth good_EH (fun i : Nat => ws.length - i) (fun i G => (∃ L, G = G'.ext L) ∧ i ≤ ws.length ∧ ∀ j d, j < i → ws[j]? = some d → ¬ ofT seen d.key < d.floor)
    (fun i => [(.z, v), ((.o (.o .z)), w), ((.i (.o .z)), .int .i64 n), ((.o (.o (.o .z))), .ptr (H.key 0) 0), ((.o (.o (.i (.o .z)))), outV kw 5 ws.length), ((.i (.o (.i (.o .z)))), .int .i64 ws.length), ((.o (.i (.i (.o .z)))), .int .i64 i)]) ?_ 0 ⟨⟨_, rfl⟩, Nat.zero_le _, fun j d h => absurd h (Nat.not_lt_zero _)⟩ (Slots.all (by simp only [go_sem]))
  rintro i G2 ⟨⟨L, hL⟩, hi, hno⟩
  have hok2 : G2.ok := by rw [hL]; exact Heap.ok_ext hok1 _
  have hW2 : Arr G2 5 (outV kw 5 ws.length) (ws.map Cell.enc) := by rw [hL]; exact hW1.ext _
  have hC2 : Arr G2 2 w (seen.map Sn.enc) := by rw [hL]; exact hC1.ext _
  have b2 : G2.get (H.key 0) = some (.row true 2 [[.str f, .str t]]) := by rw [hL]; exact Heap.get_ext_old hok1 b0 _
  have r0 := Heap.get_ext_old hok2 b2
  have i123 := e123 hC2 hs
  by_cases hlt : i < ws.length
  · obtain ⟨kk, r, ex', cap', wr, rows, hv, hrho, hgo, hrow⟩ := hW2.at hok2 (j := i) (by rw [List.length_map]; exact hlt)
    simp only [List.length_map, List.getElem_map] at hv hrow
    have hget : ws[i]? = some ws[i] := List.getElem?_eq_getElem hlt
    generalize ws[i] = c at hrow hget
    have hw := wrap_succ (n := i) (by omega)
    have hci : (i : Int) < (ws.length : Int) := (by omega)
    have hsi : i + 1 ≤ ws.length := (by omega)
    simp only [go_sem, C70L0, hv, hci, hsi, hgo, hrow, hw, Cell.enc, i123]
    refine ⟨fun g => ?_, fun g => ?_⟩
    · exact ⟨.nils, _, by rw [hL, hL1, Heap.ext_append, Heap.ext_append], by first | exact fun _ => rfl | exact fun _ => trivial | trivial, fun h => absurd ⟨c, List.mem_of_getElem? hget, g⟩ h⟩
    · refine ⟨i + 1, by show ws.length - (i + 1) < ws.length - i; omega, ⟨⟨_, by rw [hL, Heap.ext_append]⟩, hsi, fun j d hj hd => ?_⟩, Slots.all (by simp only [go_sem, hv]; first | done | exact ⟨rfl, trivial⟩ | trivial | rfl | trace_state)⟩
      rcases Nat.lt_or_ge j i with h | h
      · exact hno j d h hd
      · obtain rfl : j = i := by omega
        rw [hget] at hd; cases hd; exact g
  · have hci : ¬ (i : Int) < (ws.length : Int) := by omega
    have hno2 : ¬ ∃ c, c ∈ ws ∧ ofT seen c.key < c.floor := by
      rintro ⟨c, h1, h2⟩
      obtain ⟨j, hj⟩ := List.mem_iff_getElem?.1 h1
      exact hno j c (by have := (List.getElem?_eq_some_iff.1 hj).1; omega) hj h2
    have hA2 : Arr G2 4 v (l.map Evn.enc) := by rw [hL]; exact hA1.ext _
    have hlen := fun G => hA2.len G
    simp only [List.length_map] at hlen
    obtain ⟨L2, hL2⟩ : ∃ L, G2 = H.ext L := ⟨_, by rw [hL, hL1, Heap.ext_append]⟩
    clear hL hno hi hlt
    simp only [go_sem, C70L0, hci, hlen]
    clear hci
    refine LL.sth good_EH (fun q : Nat × List Blk × Nat => l.length - q.1) (fun q G => G = G2.ext q.2.1 ∧ q.1 ≤ l.length ∧ (outI f t seen n l q.1 = [] ∨ q.2.1[q.2.2]? = some (outB 4 ((outI f t seen n l q.1).map Evn.enc))))
      (fun q => [((.o (.o .z)), w), ((.i (.o .z)), .int .i64 n), ((.o (.o (.o .z))), .ptr (H.key 0) 0), ((.o (.i (.o (.o (.o .z))))), v), ((.i (.i (.o (.o (.o .z))))), .int .i64 l.length), ((.o (.o (.i (.o (.o .z))))), .int .i64 q.1), ((.i (.i (.i .z))), outV (G2.key q.2.2) 4 (outI f t seen n l q.1).length)]) ?_ (0, [], 0) ⟨rfl, Nat.zero_le _, .inl (by unfold outI tellL; simp)⟩ (Slots.all (by simp only [go_sem, outI, tellL, List.filter_nil]; first | done | exact ⟨rfl, trivial⟩ | trivial | rfl | trace_state))
    rintro ⟨i, L, j⟩ G3 ⟨hL, hi, hon⟩
    dsimp only at hL hi hon
    have hok3 : G3.ok := by rw [hL]; exact Heap.ok_ext hok2 _
    have hA3 : Arr G3 4 v (l.map Evn.enc) := by rw [hL]; exact hA2.ext _
    have hC3 : Arr G3 2 w (seen.map Sn.enc) := by rw [hL]; exact hC2.ext _
    have b3 : G3.get (H.key 0) = some (.row true 2 [[.str f, .str t]]) := by rw [hL]; exact r0 _
    have r3 := Heap.get_ext_old hok3 b3
    have j123 := e123 hC3 hs
    have hln := outI_len f t seen n l i
    by_cases hlt : i < l.length
    · obtain ⟨kk, r, ex', cap', wr, rows, hv, hrho, hgo, hrow⟩ := hA3.at hok3 (j := i) (by rw [List.length_map]; exact hlt)
      simp only [List.length_map, List.getElem_map] at hv hrow
      have hget : l[i]? = some l[i] := List.getElem?_eq_getElem hlt
      generalize l[i] = e at hrow hget
      have hw := wrap_succ (n := i) (by omega)
      have hci : (i : Int) < (l.length : Int) := (by omega)
      have hsi : i + 1 ≤ l.length := (by omega)
      simp only [go_sem, ↓appR_hide, C70L1, hv, hci, hsi, hgo, hrow, hw, Evn.enc, j123, e61, r3]
      have hs0 : ∀ l', outI f t seen n l (i + 1) = outI f t seen n l i → (outI f t seen n l (i + 1) = [] ∨ (L ++ l')[j]? = some (outB 4 ((outI f t seen n l (i + 1)).map Evn.enc))) := fun l' h => by
        rw [h]; exact hon.imp id fun g => get_left g
      refine ⟨fun g => ⟨fun g2 => ⟨fun g3 => ?_, fun g3 => ?_⟩, fun g2 => ?_⟩, fun g => ?_⟩
      · have hnew := outI_yes (n := n) hget (show tellE f t seen e from ⟨g, g2⟩) (by omega)
        have hml : (outI f t seen n l (i + 1)).length = (outI f t seen n l i).length + 1 := by rw [hnew, List.length_append]; rfl
        rw [hL, Heap.ext_append, Heap.key_ext]
        rcases hon with h0 | hj
        · rw [h0]
          have ha := appQ_nil (G := G2.ext (L ++ [.row true 4 [[.str e.key, .int .i64 e.ver, .str e.val, .bool e.del]], .row true 4 [[.str e.key, .int .i64 e.ver, .str e.val, .bool e.del]]])) (e := 4) (bytes := 48) (w := .slice (G2.key (L.length + 1)) 0 1 4 true 1) (ys := [[.str e.key, .int .i64 e.ver, .str e.val, .bool e.del]]) (by decide) (arr_row (i := L.length + 1) (get_two _ _ _).2 rfl) (by simp) (okBig_le (n := 1) (by decide) (by decide))
          rw [show outV (G2.key j) 4 ([] : List Evn).length = .nils from rfl, ha]
          simp only [go_sem, hw, Heap.key_ext]
          refine ⟨(i + 1, L ++ [rowE e, rowE e] ++ [outB 4 [[.str e.key, .int .i64 e.ver, .str e.val, .bool e.del]]], (L ++ [rowE e, rowE e]).length), by show l.length - (i + 1) < l.length - i; omega, ⟨rfl, hsi, .inr ?_⟩, Slots.all (by simp only [go_sem, hml, h0])⟩
          show (L ++ [rowE e, rowE e] ++ [outB 4 [[.str e.key, .int .i64 e.ver, .str e.val, .bool e.del]]])[(L ++ [rowE e, rowE e]).length]? = _
          rw [get_last, hnew, h0]
          rfl
        · have hb := appQ_out (H := G2) (L := L ++ [.row true 4 [[.str e.key, .int .i64 e.ver, .str e.val, .bool e.del]], .row true 4 [[.str e.key, .int .i64 e.ver, .str e.val, .bool e.del]]]) (i := j) (j := L.length + 1) (bytes := 48) (ex := true) (cap := 1) (y := [.str e.key, .int .i64 e.ver, .str e.val, .bool e.del]) (get_left hj) (List.length_map ..) (get_two _ _ _).2 (okBig_le (by omega) (by decide))
          rw [hb]
          simp only [go_sem, hw]
          refine ⟨(i + 1, (L ++ [rowE e, rowE e]).set j .dead ++ [outB 4 ((outI f t seen n l i).map Evn.enc ++ [[.str e.key, .int .i64 e.ver, .str e.val, .bool e.del]])], (L ++ [rowE e, rowE e]).length), by show l.length - (i + 1) < l.length - i; omega, ⟨rfl, hsi, .inr ?_⟩, Slots.all (by simp only [go_sem, hml])⟩
          show ((L ++ [rowE e, rowE e]).set j .dead ++ [outB 4 ((outI f t seen n l i).map Evn.enc ++ [[.str e.key, .int .i64 e.ver, .str e.val, .bool e.del]])])[(L ++ [rowE e, rowE e]).length]? = _
          rw [← List.length_set (i := j) (a := Blk.dead), get_last, hnew, List.map_append]
          rfl
      · have hsame := outI_full (n := n) hget (show ¬ (outI f t seen n l i).length < n by omega)
        exact ⟨(i + 1, L ++ [rowE e], j), by show l.length - (i + 1) < l.length - i; omega, ⟨by rw [hL, Heap.ext_append]; rfl, hsi, hs0 _ hsame⟩, Slots.all (by simp only [go_sem, hsame])⟩
      · have hsame := outI_no (f := f) (t := t) (seen := seen) (n := n) hget fun h => g2 h.2
        exact ⟨(i + 1, L ++ [rowE e], j), by show l.length - (i + 1) < l.length - i; omega, ⟨by rw [hL, Heap.ext_append]; rfl, hsi, hs0 _ hsame⟩, Slots.all (by simp only [go_sem, hsame])⟩
      · have hsame := outI_no (f := f) (t := t) (seen := seen) (n := n) hget fun h => g h.1
        exact ⟨(i + 1, L ++ [rowE e], j), by show l.length - (i + 1) < l.length - i; omega, ⟨by rw [hL, Heap.ext_append]; rfl, hsi, hs0 _ hsame⟩, Slots.all (by simp only [go_sem, hsame])⟩
    · have hci : ¬ (i : Int) < (l.length : Int) := by omega
      simp only [go_sem, C70L1, hci]
      refine ⟨_, L2 ++ L, by rw [Heap.ext_nil, hL, hL2, Heap.ext_append], fun h => absurd h hno2, fun _ => ⟨rfl, ?_⟩⟩
      rw [Heap.ext_nil, hL, ← outI_all (i := i) (by omega)]
      rcases hon with h0 | hj
      · rw [h0]; exact .inl ⟨rfl, rfl⟩
      · exact arr_outV hj (List.length_map ..)
end Go.Proofs
/- the code's Feed; whether shards are the same, where nothing is in them: walked. -/

set_option linter.all false
set_option linter.all false
set_option maxRecDepth 100000
namespace Go.Proofs
open Go Go.Ev
variable {H : Heap}

@[go_sem] theorem min_int {β : Type} (k : IntKind) (a b : Int) (f : β) (c : AV → β) : mm2 false (.int k a) (.int k b) f c = c (.int k (min a b)) := by
  show bif' false (ltI a b fun z => bif' z (c (.int k b)) (c (.int k a))) (ltI b a fun z => bif' z (c (.int k b)) (c (.int k a))) = _
  rw [bif_false, ltI_eq, bif_eq]
  by_cases h : b < a
  · rw [decide_eq_true h, if_pos rfl, Int.min_eq_right (by omega)]
  · rw [decide_eq_false h, if_neg (by decide), Int.min_eq_left (by omega)]
theorem meet_all : okMeet [] [] [] [] := ⟨⟨by decide, by decide, .inl rfl⟩, ⟨by decide, by decide, .inl rfl⟩, ⟨by unfold maxS; rw [if_neg (ltS_irrefl _)]; decide, by unfold lowS; rw [if_pos (.inl rfl)]; decide, .inl (by unfold lowS; rw [if_pos (.inl rfl)])⟩⟩
theorem f25_ok {s : Sh} (h : s.ok H) (hfr : s.fr = []) (hto : s.to = []) (hel : s.evs.length < 100000) (hcl : s.cells.length < 100000) {w : AV} {seen : List Sn} (hC : Arr H 2 w (seen.map Sn.enc)) (hs : seen.length < 9223372036854775807) (n : Int) :
    FnOk Tryz.prog 25 [.agg s.enc, .agg [.str [], .str []], w, .int .i64 n] H fun r G => ∃ x L, G = H.ext L ∧ (lateW [] [] seen s.cells → r = .tup [.nils, .bool true]) ∧ (¬ lateW [] [] seen s.cells → r = .tup [x, .bool false] ∧ Arr G 4 x ((afterL [] [] seen (min (max n 0) 8).toNat s.evs).map Evn.enc)) := by
  refine FnOk.assume fun hok => ?_
  refine FnOk.of_WW Tryz.func25 rfl C25ok R25ok E0 good_E0 ?_
  obtain ⟨m, hm, hm8⟩ : ∃ m : Nat, min (max n 0) 8 = (m : Int) ∧ m < 100000 := ⟨(min (max n 0) 8).toNat, by omega, by omega⟩
  rw [hm, Int.toNat_natCast]
  simp only [go_sem, C25, Sh.enc, hfr, hto]
  refine CL.of (f69_ok [] [] [] []) ?_
  rintro _ _ ⟨rfl, rfl⟩
  unfold meetV
  rw [if_pos meet_all, show maxS [] [] = [] from by unfold maxS; rw [if_neg (ltS_irrefl _)], show lowS [] [] = [] from by unfold lowS; rw [if_pos (.inl rfl)]]
  simp only [go_sem, hm]
  refine CL.of (f70_ok (h.e.ext _) (h.c.ext _) (hC.ext _) hel hcl hs [] [] m hm8) ?_
  rintro r G ⟨x, L, hG, h1, h2⟩
  by_cases g : lateW [] [] seen s.cells
  · rw [h1 g, hG, Heap.ext_append]
    simp only [go_sem]
    exact ⟨.nils, _, rfl, by first | exact fun _ => rfl | exact fun _ => trivial | trivial, fun g2 => absurd g g2⟩
  · obtain ⟨rfl, h3⟩ := h2 g
    rw [hG] at h3 ⊢
    rw [Heap.ext_append] at h3 ⊢
    simp only [go_sem]
    exact ⟨_, _, rfl, fun g2 => absurd g2 g, fun _ => ⟨rfl, h3⟩⟩
theorem f100_nil : FnOk Tryz.prog 100 [.nils, .nils] H fun r G => r = .bool true ∧ G = H := by
  refine FnOk.drop (R := fun r => r = .bool true) ?_ (by rintro v rfl ρ; rw [AV.ren])
  refine FnOk.of_WW Tryz.func100 rfl C100ok R100ok E0 good_E0 ?_
  simp only [go_sem, C100]
  refine LL.st good_E0 (fun _ : Unit => 0) (fun _ => True) (fun _ => [((.i (.o (.i .z))), .int .i64 0), ((.o (.i (.i .z))), .int .i64 0)]) (fun _ => []) ?_ () (σ := []) (Wk.of rfl (by decide) (by simp only [go_sem]; first | done | exact ⟨rfl, rfl, trivial⟩) (by simp only [go_sem])) trivial
  rintro _ _
  simp only [go_sem, C100L0]
  exact ⟨_, rfl⟩
theorem f101_nil : FnOk Tryz.prog 101 [.nils, .nils] H fun r G => r = .bool true ∧ G = H := by
  refine FnOk.drop (R := fun r => r = .bool true) ?_ (by rintro v rfl ρ; rw [AV.ren])
  refine FnOk.of_WW Tryz.func101 rfl C101ok R101ok E0 good_E0 ?_
  simp only [go_sem, C101]
  refine LL.st good_E0 (fun _ : Unit => 0) (fun _ => True) (fun _ => [((.i (.o (.i .z))), .int .i64 0), ((.o (.i (.i .z))), .int .i64 0)]) (fun _ => []) ?_ () (σ := []) (Wk.of rfl (by decide) (by simp only [go_sem]; first | done | exact ⟨rfl, rfl, trivial⟩) (by simp only [go_sem])) trivial
  rintro _ _
  simp only [go_sem, C101L0]
  exact ⟨_, rfl⟩
theorem f102_nil (f : AV) : FnOk Tryz.prog 102 [.nils, .nils, f] H fun r G => r = .bool true ∧ G = H := by
  refine FnOk.drop (R := fun r => r = .bool true) ?_ (by rintro v rfl ρ; rw [AV.ren])
  refine FnOk.of_WW Tryz.func102 rfl C102ok R102ok E0 good_E0 ?_
  simp only [go_sem, C102]
  refine LL.st good_E0 (fun _ : Unit => 0) (fun _ => True) (fun _ => [((.i (.o (.o (.o .z)))), .int .i64 0), ((.o (.i (.o (.o .z)))), .int .i64 0)]) (fun _ => []) ?_ () (σ := []) (Wk.of rfl (by decide) (by simp only [go_sem]; first | done | exact ⟨rfl, rfl, trivial⟩) (by simp only [go_sem])) trivial
  rintro _ _
  simp only [go_sem, C102L0]
  exact ⟨_, rfl⟩
theorem f100_ne {v : AV} {l : List Cell} (hB : Arr H 5 v (l.map Cell.enc)) (hl : l.length = 1) : FnOk Tryz.prog 100 [.nils, v] H fun r G => r = .bool false ∧ G = H := by
  refine FnOk.drop (R := fun r => r = .bool false) ?_ (by rintro v rfl ρ; rw [AV.ren])
  refine FnOk.of_WW Tryz.func100 rfl C100ok R100ok E0 good_E0 ?_
  have hlen := fun G => hB.len G
  simp only [List.length_map, hl] at hlen
  simp only [go_sem, C100, hlen]
  exact ⟨_, rfl⟩
theorem f52_ne {s : Sh} (h : s.ok H) (h1 : s.id = 1) (h2 : s.ep = 1) (h3 : s.fr = []) (h4 : s.to = []) (h5 : s.frz = false) (hl : s.cells.length = 1) : FnOk Tryz.prog 52 [.agg [.int .i64 1, .int .i64 1, .str [], .str [], .bool false, .nils, .nils, .nils], .agg s.enc] H fun r G => r = .bool false ∧ G = H := by
  refine FnOk.drop (R := fun r => r = .bool false) ?_ (by rintro v rfl ρ; rw [AV.ren])
  refine FnOk.of_WW Tryz.func52 rfl C52ok R52ok E0 good_E0 ?_
  simp only [go_sem, C52, Sh.enc, h1, h2, h3, h4, h5]
  refine CL.of (f100_ne (h.c.ext _) hl) ?_
  rintro _ _ ⟨rfl, rfl⟩
  simp only [go_sem]
  exact ⟨_, rfl⟩
theorem f52_nil : FnOk Tryz.prog 52 [.agg [.int .i64 1, .int .i64 1, .str [], .str [], .bool false, .nils, .nils, .nils], .agg [.int .i64 1, .int .i64 1, .str [], .str [], .bool false, .nils, .nils, .nils]] H fun r G => r = .bool true ∧ G = H := by
  refine FnOk.drop (R := fun r => r = .bool true) ?_ (by rintro v rfl ρ; rw [AV.ren])
  refine FnOk.of_WW Tryz.func52 rfl C52ok R52ok E0 good_E0 ?_
  simp only [go_sem, C52]
  refine CL.of f100_nil ?_
  rintro _ _ ⟨rfl, rfl⟩
  simp only [go_sem]
  refine CL.of f101_nil ?_
  rintro _ _ ⟨rfl, rfl⟩
  simp only [go_sem]
  refine CL.of (f102_nil _) ?_
  rintro _ _ ⟨rfl, rfl⟩
  simp only [go_sem]
  exact ⟨_, rfl⟩
end Go.Proofs
/- CutTells: walked. -/


set_option linter.all false
set_option linter.all false
set_option maxRecDepth 100000
namespace Go.Proofs
open Go Go.Ev
variable {H : Heap}

theorem sameSh.symm {a b : Sh} (h : sameSh a b) : sameSh b a := ⟨h.1.symm, h.2.1.symm, h.2.2.1.symm, h.2.2.2.1.symm, h.2.2.2.2.1.symm, h.2.2.2.2.2.1.symm, h.2.2.2.2.2.2.1.symm, h.2.2.2.2.2.2.2.symm⟩
theorem sameSh.trans {a b c : Sh} (h : sameSh a b) (g : sameSh b c) : sameSh a c := ⟨h.1.trans g.1, h.2.1.trans g.2.1, h.2.2.1.trans g.2.2.1, h.2.2.2.1.trans g.2.2.2.1, h.2.2.2.2.1.trans g.2.2.2.2.1, h.2.2.2.2.2.1.trans g.2.2.2.2.2.1, h.2.2.2.2.2.2.1.trans g.2.2.2.2.2.2.1, h.2.2.2.2.2.2.2.trans g.2.2.2.2.2.2.2⟩
theorem sameSh.refl (a : Sh) : sameSh a a := ⟨rfl, rfl, rfl, rfl, rfl, rfl, rfl, rfl⟩
end Go.Proofs
/- CutOnce: walked. -/


set_option linter.all false
set_option linter.all false
set_option maxRecDepth 100000
namespace Go.Proofs
open Go Go.Ev
variable {H : Heap}

/-- a state of the loop: the shard's lists lie at these places -/
def St4 (H : Heap) (k : Nat) (q : Nat × Sh) : Prop := q.1 ≤ k ∧ AtI q.1 q.2 ∧ q.2.cv = outV (H.key 1) 5 q.2.cells.length ∧ q.2.ev = outV (H.key 2) 4 q.2.evs.length ∧ q.2.dv = outV (H.key 3) 6 q.2.done.length
theorem AtI.dok {i : Nat} {s : Sh} (h : AtI i s) (H : Heap) : allOk H s.done := by
  rw [h.done]
  split
  · exact fun d hd => absurd hd List.not_mem_nil
  · exact fun d hd => by rw [List.mem_singleton.1 hd]; exact putA_ok H _
theorem St4.ok {k : Nat} (hk : k ≤ 20) {q : Nat × Sh} (h : St4 H k q) {L : List Blk} (h1 : L[1]? = some (outB 5 (q.2.cells.map Cell.enc))) (h2 : L[2]? = some (outB 4 (q.2.evs.map Evn.enc))) (h3 : L[3]? = some (outB 6 (q.2.done.map Dn.enc))) : q.2.ok (H.ext L) where
  c := by rw [h.2.2.1]; exact arr_outV h1 (List.length_map ..)
  e := by rw [h.2.2.2.1]; exact arr_outV h2 (List.length_map ..)
  d := by rw [h.2.2.2.2]; exact arr_outV h3 (List.length_map ..)
  dok := h.2.1.dok _
  cl := by have := h.2.1.clen; omega
  el := by have := h.2.1.len; have := h.1; omega
  dl := by have := h.2.1.dlen; omega
theorem St4.next {k : Nat} {q : Nat × Sh} (h : St4 H k q) (hk : k ≤ 20) (hlt : q.1 < k) : St4 H k (q.1 + 1, askS q.2 [99] [118] 1 ((q.1 : Int) + 1) (H.key 1) (H.key 2) (H.key 3)) := by
  refine ⟨hlt, h.2.1.next (by omega) _ _ _, ?_, rfl, rfl⟩
  show outV _ 5 (refW _ _).length = outV _ 5 (keepC _ _).length
  rw [keepC_len]
theorem askS_ok {s : Sh} {G : Heap} {L : List Blk} {i j q : Nat} {k v : List Nat} {ses id : Int} (hc : (refW s.cells (nextC s.cells k v false)).length < 10000) (he : s.evs.length < 10000) (hd : (withD s.done ⟨ses, id, putA ((getL s.cells k).1.ver + 1)⟩).length < 10000) (hdok : allOk G s.done) (h1 : L[i]? = some (outB 5 ((askS s k v ses id .z .z .z).cells.map Cell.enc))) (h2 : L[j]? = some (outB 4 ((askS s k v ses id .z .z .z).evs.map Evn.enc))) (h3 : L[q]? = some (outB 6 ((askS s k v ses id .z .z .z).done.map Dn.enc))) : (askS s k v ses id (G.key i) (G.key j) (G.key q)).ok (G.ext L) where
  c := arr_outV h1 (by rw [List.length_map]; exact keepC_len _ _)
  e := arr_outV h2 (List.length_map ..)
  d := arr_outV h3 (List.length_map ..)
  dok := (withD_ok hdok (putA_ok G _)).ext L
  cl := by show (keepC _ _).length < _; rw [keepC_len]; omega
  el := by show (List.drop _ _).length < _; rw [List.length_drop, List.length_append]; show s.evs.length + 1 - _ < _; omega
  dl := by show (withD _ _).length < _; omega
end Go.Proofs
/- known of the laws of one shard: walked. -/


set_option linter.all false
set_option linter.all false
set_option maxRecDepth 100000
namespace Go.Proofs
open Go Go.Ev
variable {H : Heap}

theorem get_lit {bl : List Blk} {i : Nat} {x : Blk} (h : bl[i]? = some x) : (H.ext bl).get (H.key i) = some x := by
  rw [Heap.get_ext_key _ _ _ (List.getElem?_eq_some_iff.1 h).1]; exact h
/-- a shard with nothing in it -/
def s0 : Sh := ⟨1, 1, [], [], false, [], [], [], .nils, .nils, .nils⟩
theorem s0_ok (H : Heap) : s0.ok H := ⟨.inl ⟨rfl, rfl⟩, .inl ⟨rfl, rfl⟩, .inl ⟨rfl, rfl⟩, fun d hd => absurd hd List.not_mem_nil, Nat.lt_of_sub_eq_succ rfl, Nat.lt_of_sub_eq_succ rfl, Nat.lt_of_sub_eq_succ rfl⟩
theorem s0_sh : isSh s0 := ⟨⟨by decide, by decide, by decide, by decide⟩, k_span, fun c hc => absurd hc List.not_mem_nil, by decide, hist_nil, fun j h => absurd h (Nat.not_lt_zero _)⟩
theorem key_a : isKey [97] := ⟨by simp, by show (1 : Int) ≤ 8; decide⟩
theorem key_b : isKey [98] := ⟨by simp, by show (1 : Int) ≤ 8; decide⟩
noncomputable def kt (k0 k1 : K) : Sh := addS s0 (nextC s0.cells [97] [118] false) (nextE s0.cells [97] [118] false) k0 k1
theorem kt_cells (k0 k1 : K) : (kt k0 k1).cells = [⟨[97], [118], 1, false, 0⟩] := by
  show keepC _ (refW [] _) = _
  rw [refW_eq hist_nil.1]
  rfl
theorem kt_evs (k0 k1 : K) : (kt k0 k1).evs = [⟨[97], 1, [118], false⟩] := rfl
theorem kt_hist (k0 k1 : K) : isHist (kt k0 k1).evs (kt k0 k1).cells := by
  have := putS_hist (s := s0) hist_nil key_a (v := [118]) (by decide) (by decide)
  show isHist _ (keepC _ (refW [] _))
  rw [refW_eq hist_nil.1]
  exact this
theorem kt_ver (k0 k1 : K) : (getL (kt k0 k1).cells [97]).1.ver = 1 := by rw [kt_cells]; rfl
noncomputable def ku (k0 k1 k2 k3 k4 : K) : Sh := askS (kt k0 k1) [97] [119] 0 1 k2 k3 k4
theorem ku_cells (k0 k1 k2 k3 k4 : K) : (ku k0 k1 k2 k3 k4).cells = [⟨[97], [119], 2, false, 0⟩] := by
  show keepC _ (refW (kt k0 k1).cells _) = _
  rw [refW_eq (kt_hist k0 k1).1, kt_cells]
  show keepC (([⟨[97], 1, [118], false⟩] ++ [_] : List Evn).take 0) (withL [_] _) = _
  rw [List.take_zero, keepC_nil, withL, if_neg (show ¬ ltS (⟨[97], [118], 1, false, 0⟩ : Cell).key (nextC [⟨[97], [118], 1, false, 0⟩] [97] [119] false).key from ltS_irrefl _), if_pos (show (⟨[97], [118], 1, false, 0⟩ : Cell).key = (nextC [⟨[97], [118], 1, false, 0⟩] [97] [119] false).key from rfl)]
  rfl
theorem ku_evs (k0 k1 k2 k3 k4 : K) : (ku k0 k1 k2 k3 k4).evs = [⟨[97], 1, [118], false⟩, ⟨[97], 2, [119], false⟩] := by
  show ((kt k0 k1).evs ++ [nextE (kt k0 k1).cells [97] [119] false]).drop _ = _
  unfold nextE
  rw [kt_ver, kt_evs]
  rfl
theorem ku_done (k0 k1 k2 k3 k4 : K) : (ku k0 k1 k2 k3 k4).done = [⟨0, 1, putA 2⟩] := by
  show withD [] ⟨0, 1, putA ((getL (kt k0 k1).cells [97]).1.ver + 1)⟩ = _
  rw [kt_ver]
  rfl
theorem ku_hist (k0 k1 k2 k3 k4 : K) : isHist (ku k0 k1 k2 k3 k4).evs (ku k0 k1 k2 k3 k4).cells := askS_hist (kt_hist k0 k1) key_a (by decide) (by rw [kt_ver]; decide) ..
theorem ku_sh (k0 k1 k2 k3 k4 : K) : isSh (ku k0 k1 k2 k3 k4) := ⟨⟨by show (1 : Int) ≤ 1; decide, by show (1 : Int) ≤ _; decide, by show (1 : Int) ≤ 1; decide, by show (1 : Int) ≤ _; decide⟩, k_span, fun c hc => by
  rw [ku_cells] at hc
  rw [List.mem_singleton.1 hc]
  exact k_has 97, by rw [ku_evs]; decide, ku_hist .., by
  rw [ku_done]
  exact done_iff.2 ⟨fun c hc => by
    rw [List.mem_singleton.1 hc]
    exact ⟨⟨by show (0 : Int) ≤ 0; decide, by show (0 : Int) < 3; decide, by show (1 : Int) ≤ 1; decide, by show (1 : Int) ≤ 1000000000000; decide⟩, putA_is (by decide) (by decide)⟩, List.pairwise_singleton ..⟩⟩
theorem ku_tell : afterL [] [] [] 8 [⟨[97], 1, [118], false⟩, ⟨[97], 2, [119], false⟩] = [⟨[97], 1, [118], false⟩, ⟨[97], 2, [119], false⟩] := by
  have h : ∀ e ∈ [(⟨[97], 1, [118], false⟩ : Evn), ⟨[97], 2, [119], false⟩], tellE [] [] [] e := fun e he => by
    simp only [List.mem_cons, List.not_mem_nil, or_false] at he
    rcases he with rfl | rfl <;> exact ⟨k_has 97, by decide⟩
  unfold afterL tellL
  rw [List.filter_eq_self.2 fun e he => decide_eq_true (h e he)]
  rfl
theorem f18_ok : FnOk Tryz.prog 18 [] H fun r G => r = .bool true ∧ G = H := by
  refine FnOk.assume fun hok => ?_
  refine FnOk.drop (R := fun r => r = .bool true) ?_ (by rintro v rfl ρ; rw [AV.ren])
  refine FnOk.of_WW Tryz.func18 rfl C18ok R18ok E0 good_E0 ?_
  simp only [go_sem, C18]
  refine CL.of (f20_ok 1 1 [] []) ?_
  rintro _ G' ⟨rfl, hG⟩
  rw [hG]
  clear hG
  simp only [go_sem]
  refine CL.of (f21_put (s := s0) (ke := .z) (k := [97]) (v := [118]) (s0_ok _) rfl (by decide) (by decide) key_a (by decide) hist_nil (by decide)) ?_
  rintro _ G' ⟨rfl, hG⟩
  rw [hG]
  clear hG
  rw [show (getL s0.cells [97]).1.ver + 1 = (1 : Int) from rfl]
  obtain ⟨t, ht⟩ : ∃ t, t = kt (H.key 1) (H.key 2) := ⟨_, rfl⟩
  obtain ⟨B1, B2, hB⟩ : ∃ B1 B2, addB s0 (nextC s0.cells [97] [118] false) (nextE s0.cells [97] [118] false) = [B1, B2] := ⟨_, _, rfl⟩
  have hto : t.ok (H.ext ([.row true 8 [s0.enc]] ++ addB s0 (nextC s0.cells [97] [118] false) (nextE s0.cells [97] [118] false))) := by
    rw [ht]
    exact addS_ok (s0_ok H) (by show (refW [] _).length < 10000; rw [refW_eq hist_nil.1]; exact Nat.le_of_ble_eq_true rfl) (by decide) rfl rfl
  simp only [Heap.key_ext, List.length_cons, List.length_nil, Nat.zero_add, Nat.reduceAdd, Nat.add_zero]
  rw [show addS s0 (nextC s0.cells [97] [118] false) (nextE s0.cells [97] [118] false) (H.key 1) (H.key 2) = t from ht.symm]
  rw [hB] at hto ⊢
  rw [show ([.row true 8 [s0.enc]] ++ [B1, B2] : List Blk) = [.row true 8 [s0.enc]] ++ [B1, B2] from rfl, ← Heap.ext_append] at hto
  have tev : t.ev = outV (H.key 2) 4 t.evs.length := by rw [ht]; rfl
  have tevs := kt_evs (H.key 1) (H.key 2)
  have tcells := kt_cells (H.key 1) (H.key 2)
  have tver := kt_ver (H.key 1) (H.key 2)
  have thist := kt_hist (H.key 1) (H.key 2)
  have tdone : t.done = [] := by rw [ht]; rfl
  have tsc : t.id = 1 ∧ t.ep = 1 ∧ t.fr = [] ∧ t.to = [] ∧ t.frz = false := by rw [ht]; exact ⟨rfl, rfl, rfl, rfl, rfl⟩
  rw [← ht] at tevs tcells tver thist
  have h23 : ∀ G, t.ok G → FnOk Tryz.prog 23 [.agg t.enc, .int .i64 0, .int .i64 1, .agg [.int .i64 4, .str [97], .str [], .str [119], .int .i64 1, .nils]] G fun r G' => r = .tup [.agg (askS t [97] [119] 0 1 (G.key 0) (G.key 1) (G.key 2)).enc, .agg [.int .i64 0, .str [], .int .i64 2, .nils], .int .i64 0] ∧ G' = G.ext (askB t [97] [119] 0 1) := fun G hG => by
    have := f23_cas (H := G) (s := t) (ke := H.key 2) (k := [97]) (v := [119]) hG tev (by rw [tevs]; decide) (by rw [tcells]; decide) key_a (by decide) thist (by rw [tver]; decide) (by rw [tver]; decide) (by rw [tdone]; decide) (by rw [tdone]; exact .nil) (fun d hd => by rw [tdone] at hd; cases hd) (ses := 0) (id := 1) (by rw [tdone]; rfl)
    rw [tver] at this
    exact this
  obtain ⟨G1, hG1⟩ : ∃ G, G = (H.ext [.row true 8 [s0.enc]]).ext [B1, B2] := ⟨_, rfl⟩
  have hok1 : G1.ok := by rw [hG1]; exact Heap.ok_ext (Heap.ok_ext hok _) _
  have c0 : G1.get (H.key 0) = some (.row true 8 [s0.enc]) := by rw [hG1]; exact Heap.get_ext_old (Heap.ok_ext hok _) (get_lit rfl) _
  obtain ⟨L1, hL1⟩ : ∃ L, G1 = H.ext L := ⟨_, by rw [hG1, Heap.ext_append]⟩
  rw [← hG1] at hto
  rw [show (H.ext [.row true 8 [[.int .i64 1, .int .i64 1, .str [], .str [], .bool false, .nils, .nils, .nils]]]).ext [B1, B2] = G1 from hG1.symm]
  clear hG1 hB
  have c0' := Heap.get_ext_old hok1 c0
  refine WW.nil ?_
  simp only [go_sem, Sh.enc]
  refine CL.of (h23 _ (hto.ext _)) ?_
  rintro _ G' ⟨rfl, hG⟩
  rw [hG]
  clear hG
  have hua : (askS t [97] [119] 0 1 (G1.key 2) (G1.key 3) (G1.key 4)).ok (G1.ext ([.row true 8 [t.enc], .row true 4 [[.int .i64 0, .str [], .int .i64 1, .nils]]] ++ askB t [97] [119] 0 1)) :=
    askS_ok (by rw [refW_eq thist.1, tcells]; exact Nat.lt_of_le_of_lt (withL_len _ _) (Nat.le_of_ble_eq_true rfl)) (by rw [tevs]; exact Nat.le_of_ble_eq_true rfl) (Nat.lt_of_le_of_lt withD_len (by rw [tdone]; exact Nat.le_of_ble_eq_true rfl)) hto.dok rfl rfl rfl
  obtain ⟨B3, B4, B5, hB⟩ : ∃ B3 B4 B5, askB t [97] [119] 0 1 = [B3, B4, B5] := ⟨_, _, _, rfl⟩
  simp only [Heap.key_ext, List.length_cons, List.length_nil, Nat.zero_add, Nat.reduceAdd, Nat.add_zero]
  obtain ⟨u, hu⟩ : ∃ u, u = askS t [97] [119] 0 1 (G1.key 2) (G1.key 3) (G1.key 4) := ⟨_, rfl⟩
  have hku : u = ku (H.key 1) (H.key 2) (G1.key 2) (G1.key 3) (G1.key 4) := by rw [hu, ht]; rfl
  rw [hB] at hua ⊢
  rw [← hu] at hua ⊢
  obtain ⟨F2, hF2⟩ : ∃ G, G = (G1.ext [.row true 8 [t.enc], .row true 4 [[.int .i64 0, .str [], .int .i64 1, .nils]]]).ext [B3, B4, B5] := ⟨_, rfl⟩
  have hok2 : F2.ok := by rw [hF2]; exact Heap.ok_ext (Heap.ok_ext hok1 _) _
  have d0 : F2.get (H.key 0) = some (.row true 8 [s0.enc]) := by rw [hF2, Heap.ext_append]; exact c0' _
  have d1 : F2.get (G1.key 0) = some (.row true 8 [t.enc]) := by rw [hF2, Heap.ext_append]; exact get_lit rfl
  have d2 : F2.get (G1.key 1) = some (.row true 4 [[.int .i64 0, .str [], .int .i64 1, .nils]]) := by rw [hF2, Heap.ext_append]; exact get_lit rfl
  have hu2 : u.ok F2 := by rw [hF2, Heap.ext_append]; exact hua
  have ht2 : t.ok F2 := by rw [hF2]; exact (hto.ext _).ext _
  obtain ⟨L2, hL2⟩ : ∃ L, F2 = H.ext L := ⟨_, by rw [hF2, hL1, Heap.ext_append, Heap.ext_append]⟩
  rw [show (G1.ext [.row true 8 [[.int .i64 t.id, .int .i64 t.ep, .str t.fr, .str t.to, .bool t.frz, t.cv, t.ev, t.dv]], .row true 4 [[.int .i64 0, .str [], .int .i64 1, .nils]]]).ext [B3, B4, B5] = F2 from hF2.symm]
  clear hF2 hB hua
  have ucells := ku_cells (H.key 1) (H.key 2) (G1.key 2) (G1.key 3) (G1.key 4)
  have uevs := ku_evs (H.key 1) (H.key 2) (G1.key 2) (G1.key 3) (G1.key 4)
  have udone := ku_done (H.key 1) (H.key 2) (G1.key 2) (G1.key 3) (G1.key 4)
  have ush := ku_sh (H.key 1) (H.key 2) (G1.key 2) (G1.key 3) (G1.key 4)
  have usp : u.fr = [] ∧ u.to = [] := by rw [hku]; exact ⟨rfl, rfl⟩
  rw [← hku] at ucells uevs udone ush
  clear hku hu
  have d0' := Heap.get_ext_old hok2 d0
  have d1' := Heap.get_ext_old hok2 d1
  have d2' := Heap.get_ext_old hok2 d2
  refine WW.nil ?_
  simp only [go_sem, Sh.enc]
  refine CL.of (f23_stood (s := u) (hu2.ext _) (by rw [udone]; exact Nat.le_of_ble_eq_true rfl) (by rw [udone]; exact one_up _) (fun d hd => by rw [udone] at hd; rw [List.mem_singleton.1 hd]; rfl) (ses := 0) (id := 1) (by rw [udone]; decide) 1 [97] [] [] 0) ?_
  rintro _ G3 ⟨x, L3, rfl, hG3⟩
  rw [udone, show stands [⟨0, 1, putA 2⟩] 0 1 = (putA 2, 1) from rfl]
  have okF : (F2.ext [.row true 8 [u.enc], .row true 4 [[.int .i64 0, .str [], .int .i64 2, .nils]]]).ok := Heap.ok_ext hok2 _
  replace hG3 : G3 = (F2.ext [.row true 8 [u.enc], .row true 4 [[.int .i64 0, .str [], .int .i64 2, .nils]]]).ext L3 := hG3
  have hok3 : G3.ok := by rw [hG3]; exact Heap.ok_ext okF _
  have e0 : G3.get (H.key 0) = some (.row true 8 [s0.enc]) := by rw [hG3]; exact Heap.get_ext_old okF (d0' _) _
  have e1 : G3.get (G1.key 0) = some (.row true 8 [t.enc]) := by rw [hG3]; exact Heap.get_ext_old okF (d1' _) _
  have e2 : G3.get (G1.key 1) = some (.row true 4 [[.int .i64 0, .str [], .int .i64 1, .nils]]) := by rw [hG3]; exact Heap.get_ext_old okF (d2' _) _
  have e3 : G3.get (F2.key 0) = some (.row true 8 [u.enc]) := by rw [hG3]; exact Heap.get_ext_old okF (get_lit rfl) _
  have e4 : G3.get (F2.key 1) = some (.row true 4 [[.int .i64 0, .str [], .int .i64 2, .nils]]) := by rw [hG3]; exact Heap.get_ext_old okF (get_lit rfl) _
  have hu3 : u.ok G3 := by rw [hG3]; exact (hu2.ext _).ext _
  have ht3 : t.ok G3 := by rw [hG3]; exact (ht2.ext _).ext _
  obtain ⟨L4, hL4⟩ : ∃ L, G3 = H.ext L := ⟨_, by rw [hG3, hL2, Heap.ext_append, Heap.ext_append]⟩
  clear hG3 okF
  have e0' := Heap.get_ext_old hok3 e0
  have e1' := Heap.get_ext_old hok3 e1
  have e2' := Heap.get_ext_old hok3 e2
  have e3' := Heap.get_ext_old hok3 e3
  have e4' := Heap.get_ext_old hok3 e4
  refine WW.nil ?_
  simp only [go_sem, Sh.enc, putA, e3']
  refine CL.of (f25_ok (s := u) (hu3.ext _) usp.1 usp.2 (by rw [uevs]; decide) (by rw [ucells]; decide) (w := .nils) (seen := []) (.inl ⟨rfl, rfl⟩) (by decide) 9) ?_
  rintro r G5 ⟨y, L5, hG5, _, h2⟩
  have hnl : ¬ lateW [] [] [] u.cells := by
    rintro ⟨c, hc, hf⟩
    rw [ucells] at hc
    have hc := (List.mem_filter.1 hc).1
    rw [List.mem_singleton.1 hc] at hf
    revert hf
    decide
  obtain ⟨rfl, hy⟩ := h2 hnl
  rw [uevs, show (min (max (9 : Int) 0) 8).toNat = 8 from rfl, ku_tell] at hy
  have okF : (G3.ext [.row true 8 [u.enc], .row true 4 [[.int .i64 0, .str [], .int .i64 2, x]]]).ok := Heap.ok_ext hok3 _
  replace hG5 : G5 = (G3.ext [.row true 8 [u.enc], .row true 4 [[.int .i64 0, .str [], .int .i64 2, x]]]).ext L5 := hG5
  have hok5 : G5.ok := by rw [hG5]; exact Heap.ok_ext okF _
  have e0 : G5.get (H.key 0) = some (.row true 8 [s0.enc]) := by rw [hG5]; exact Heap.get_ext_old okF (e0' _) _
  have e1 : G5.get (G1.key 0) = some (.row true 8 [t.enc]) := by rw [hG5]; exact Heap.get_ext_old okF (e1' _) _
  have e2 : G5.get (G1.key 1) = some (.row true 4 [[.int .i64 0, .str [], .int .i64 1, .nils]]) := by rw [hG5]; exact Heap.get_ext_old okF (e2' _) _
  have e3 : G5.get (F2.key 0) = some (.row true 8 [u.enc]) := by rw [hG5]; exact Heap.get_ext_old okF (e3' _) _
  have e4 : G5.get (F2.key 1) = some (.row true 4 [[.int .i64 0, .str [], .int .i64 2, .nils]]) := by rw [hG5]; exact Heap.get_ext_old okF (e4' _) _
  have e5 : G5.get (G3.key 1) = some (.row true 4 [[.int .i64 0, .str [], .int .i64 2, x]]) := by rw [hG5]; exact Heap.get_ext_old okF (get_lit rfl) _
  have hu5 : u.ok G5 := by rw [hG5]; exact (hu3.ext _).ext _
  have ht5 : t.ok G5 := by rw [hG5]; exact (ht3.ext _).ext _
  obtain ⟨L6, hL6⟩ : ∃ L, G5 = H.ext L := ⟨_, by rw [hG5, hL4, Heap.ext_append, Heap.ext_append]⟩
  clear hG5 okF
  have e0' := Heap.get_ext_old hok5 e0
  have e1' := Heap.get_ext_old hok5 e1
  have e2' := Heap.get_ext_old hok5 e2
  have e3' := Heap.get_ext_old hok5 e3
  have e4' := Heap.get_ext_old hok5 e4
  have e5' := Heap.get_ext_old hok5 e5
  have hylen := fun G => hy.len G
  simp only [List.length_map, List.length_cons, List.length_nil] at hylen
  refine WW.nil ?_
  simp only [go_sem, Sh.enc, e3']
  refine CL.of (f21_get (s := u) (hu5.ext _) key_b) ?_
  rintro _ G' ⟨rfl, hG⟩
  rw [hG]
  clear hG
  rw [ucells, show getA (getL [⟨[97], [119], 2, false, 0⟩] [98]).1 = [.int .i64 14, .str [], .int .i64 0, .nils] from rfl]
  simp only [go_sem, Sh.enc, s0, e0']
  refine CL.bool (f22_ok (s := s0) (s0_ok _)) (fun _ => ?_) (fun g => absurd s0_sh g)
  simp only [go_sem, Sh.enc, e3']
  refine CL.bool (f22_ok (s := u) (hu5.ext _)) (fun _ => ?_) (fun g => absurd ush g)
  simp only [go_sem, Sh.enc, s0, e0', e1', e2', e4', e5', hylen]
  refine CL.of (f52_ne (s := t) (ht5.ext _) tsc.1 tsc.2.1 tsc.2.2.1 tsc.2.2.2.1 tsc.2.2.2.2 (by rw [tcells]; rfl)) ?_
  rintro _ G' ⟨rfl, hG⟩
  rw [hG]
  clear hG
  simp only [go_sem, Sh.enc, s0, e0']
  refine CL.of f52_nil ?_
  rintro _ G' ⟨rfl, hG⟩
  rw [hG]
  clear hG
  rw [hL6]
  simp only [go_sem]
  exact ⟨_, rfl⟩
end Go.Proofs
/- puts of one key: the plain law, the oracle. -/

set_option linter.all false
set_option linter.all false
set_option maxRecDepth 100000
namespace Go.Proofs
open Go Go.Ev
variable {H : Heap}

theorem key_k : isKey [107] := ⟨by simp, by show (1 : Int) ≤ 8; decide⟩
def eK (j : Nat) : Evn := ⟨[107], (j : Int) + 1, [118], false⟩
def evK (i : Nat) : List Evn := (List.range i).map eK
def cellK (i : Nat) : Cell := ⟨[107], [118], i, false, ((i - 24 : Nat) : Int)⟩
theorem evK_succ (i : Nat) : evK (i + 1) = evK i ++ [eK i] := by unfold evK; rw [List.range_succ, List.map_append]; rfl
theorem evK_len (i : Nat) : (evK i).length = i := by unfold evK; rw [List.length_map, List.length_range]
theorem evK_at {i j : Nat} (h : j < (evK i).length) : (evK i)[j] = eK j := by
  have h2 : (evK i)[j]? = some (eK j) := by
    unfold evK
    rw [List.getElem?_map, List.getElem?_range (by rw [evK_len] at h; exact h)]
    rfl
  exact (List.getElem?_eq_some_iff.1 h2).2
/-- the shard behind so many puts of one key -/
structure AtK (i : Nat) (s : Sh) : Prop where
  hd : s.id = 1 ∧ s.ep = 1 ∧ s.fr = [] ∧ s.to = [] ∧ s.frz = false
  hist : isHist s.evs s.cells
  evs : s.evs = (evK i).drop (i - 24)
  cells : s.cells = if i = 0 then [] else [cellK i]
  done : s.done = []
theorem AtK.get {i : Nat} {s : Sh} (h : AtK i s) : (getL s.cells [107]).1.ver = i ∧ (getL s.cells [107]).1.floor = ((i - 24 : Nat) : Int) := by
  rw [h.cells]
  by_cases hi : i = 0
  · subst hi; exact ⟨rfl, rfl⟩
  · rw [if_neg hi]; exact ⟨rfl, rfl⟩
theorem AtK.elen {i : Nat} {s : Sh} (h : AtK i s) : s.evs.length = min i 24 := by rw [h.evs, List.length_drop, evK_len]; omega
theorem AtK.clen {i : Nat} {s : Sh} (h : AtK i s) : s.cells.length ≤ 1 := by rw [h.cells]; split <;> exact Nat.le_of_ble_eq_true rfl
theorem AtK.withL {i : Nat} {s : Sh} (h : AtK i s) {c : Cell} (hc : c.key = [107]) : withL s.cells c = [c] := by
  rw [h.cells]
  by_cases hi : i = 0
  · rw [if_pos hi]; rfl
  · rw [if_neg hi, Go.Proofs.withL, if_neg (show ¬ ltS (cellK i).key c.key by rw [hc]; exact ltS_irrefl _), if_pos (show (cellK i).key = c.key from hc.symm)]
theorem AtK.first : AtK 0 s0 := ⟨⟨rfl, rfl, rfl, rfl, rfl⟩, hist_nil, rfl, rfl, rfl⟩
theorem AtK.next {i : Nat} {s : Sh} (h : AtK i s) (hi : i < 1000) (k0 k1 : K) : AtK (i + 1) (addS s (nextC s.cells [107] [118] false) (nextE s.cells [107] [118] false) k0 k1) := by
  have hE : nextE s.cells [107] [118] false = eK i := by unfold nextE eK; rw [h.get.1]
  have hC : nextC s.cells [107] [118] false = ⟨[107], [118], (i : Int) + 1, false, ((i - 24 : Nat) : Int)⟩ := by unfold nextC; rw [h.get.1, h.get.2]
  have hW : refW s.cells (nextC s.cells [107] [118] false) = [⟨[107], [118], (i : Int) + 1, false, ((i - 24 : Nat) : Int)⟩] := by rw [refW_eq h.hist.1, hC, h.withL rfl]
  have hl : (s.evs ++ [eK i]).length - 24 = min i 24 + 1 - 24 := by rw [List.length_append, h.elen]; rfl
  have hD : (s.evs ++ [eK i]).drop ((s.evs ++ [eK i]).length - 24) = (evK (i + 1)).drop (i + 1 - 24) := by
    rw [hl, h.evs, evK_succ, ← List.drop_append_of_le_length (by rw [evK_len]; omega), List.drop_drop]
    congr 1
    omega
  refine ⟨h.hd, ?_, ?_, ?_, h.done⟩
  · have := putS_hist h.hist key_k (v := [118]) (by decide) (by rw [h.get.1]; omega)
    show isHist _ (keepC _ (refW s.cells _))
    rw [refW_eq h.hist.1]
    exact this
  · show (s.evs ++ [nextE s.cells [107] [118] false]).drop _ = _
    rw [hE, hD]
  · show keepC ((s.evs ++ [nextE s.cells [107] [118] false]).take ((s.evs ++ [nextE s.cells [107] [118] false]).length - 24)) (refW s.cells (nextC s.cells [107] [118] false)) = _
    rw [hW, hE, hl, if_neg (by omega)]
    by_cases h24 : i < 24
    · rw [show min i 24 + 1 - 24 = 0 by omega, List.take_zero, keepC_nil, show i - 24 = 0 by omega]
      unfold cellK
      rw [show i + 1 - 24 = 0 by omega]
      rfl
    · have hne : ∃ l, s.evs = eK (i - 24) :: l := by
        rw [h.evs]
        have hlt : i - 24 < (evK i).length := by rw [evK_len]; omega
        refine ⟨(evK i).drop (i - 24 + 1), (List.drop_eq_getElem_cons hlt).trans ?_⟩
        rw [evK_at hlt]
      obtain ⟨l, hl2⟩ := hne
      rw [show min i 24 + 1 - 24 = 1 by omega, hl2]
      show [flo (eK (i - 24)) ⟨[107], [118], (i : Int) + 1, false, ((i - 24 : Nat) : Int)⟩] = _
      rw [show flo (eK (i - 24)) (⟨[107], [118], (i : Int) + 1, false, ((i - 24 : Nat) : Int)⟩ : Cell) = ⟨[107], [118], (i : Int) + 1, false, max ((i - 24 : Nat) : Int) (((i - 24 : Nat) : Int) + 1)⟩ from if_pos rfl]
      unfold cellK
      rw [show max ((i - 24 : Nat) : Int) (((i - 24 : Nat) : Int) + 1) = ((i + 1 - 24 : Nat) : Int) by omega]
      rfl
def A21 (H : Heap) (args : List AV) (q : Sh × List Nat × List Nat) : Prop := ∃ ke, args = [.agg q.1.enc, .agg [.int .i64 2, .str q.2.1, .str [], .str q.2.2, .int .i64 0, .nils]] ∧ q.1.ok H ∧ q.1.ev = outV ke 4 q.1.evs.length ∧ q.1.evs.length < 9000 ∧ q.1.cells.length < 9000 ∧ isKey q.2.1 ∧ (q.2.2.length : Int) ≤ 12 ∧ isHist q.1.evs q.1.cells ∧ (getL q.1.cells q.2.1).1.ver < 1000000000000
noncomputable def EK (f : FuncId) (args : List AV) (H : Heap) : RC :=
  match f with
  | 21 => ot (A21 H args) fun q => .ok (.tup [.agg (addS q.1 (nextC q.1.cells q.2.1 q.2.2 false) (nextE q.1.cells q.2.1 q.2.2 false) (H.key 0) (H.key 1)).enc, .agg [.int .i64 0, .str [], .int .i64 ((getL q.1.cells q.2.1).1.ver + 1), .nils]]) (H.ext (addB q.1 (nextC q.1.cells q.2.1 q.2.2 false) (nextE q.1.cells q.2.1 q.2.2 false)))
  | 24 => match args with | [.str k, .str v] => .ok (.agg [.int .i64 2, .str k, .str [], .str v, .int .i64 0, .nils]) H | _ => .fail
  | _ => .fail
theorem good_EK : Ev.Good Tryz.prog EK := by
  intro f args H r G he φ w args' ha hw
  refine (?_ : FnOk Tryz.prog f args H fun v' G' => v' = r ∧ G' = G).one φ w args' ha hw
  unfold EK at he
  split at he
  · obtain ⟨q, ⟨ke, rfl, h1, h2, h3, h4, h5, h6, h7, h8⟩, hz⟩ := ot_ok he
    clear he
    cases hz
    exact f21_put h1 h2 h3 h4 h5 h6 h7 h8
  · split at he
    · cases he; exact f24_ok _ _
    · cases he
  · cases he
theorem e24k (k v : List Nat) (H : Heap) : EK 24 [.str k, .str v] H = .ok (.agg [.int .i64 2, .str k, .str [], .str v, .int .i64 0, .nils]) H := rfl
theorem e21 {s : Sh} {L : List Blk} (h : s.ok (H.ext L)) {ke : K} (hev : s.ev = outV ke 4 s.evs.length) (hel : s.evs.length < 9000) (hcl : s.cells.length < 9000) {k v : List Nat} (hk : isKey k) (hv : (v.length : Int) ≤ 12) (hI : isHist s.evs s.cells) (hm : (getL s.cells k).1.ver < 1000000000000) :
    EK 21 [.agg [.int .i64 s.id, .int .i64 s.ep, .str s.fr, .str s.to, .bool s.frz, s.cv, s.ev, s.dv], .agg [.int .i64 2, .str k, .str [], .str v, .int .i64 0, .nils]] (H.ext L) = .ok (.tup [.agg (addS s (nextC s.cells k v false) (nextE s.cells k v false) (H.key L.length) (H.key (L.length + 1))).enc, .agg [.int .i64 0, .str [], .int .i64 ((getL s.cells k).1.ver + 1), .nils]]) (H.ext (L ++ addB s (nextC s.cells k v false) (nextE s.cells k v false))) := by
  show ot (A21 (H.ext L) [.agg s.enc, .agg [.int .i64 2, .str k, .str [], .str v, .int .i64 0, .nils]]) (fun q => .ok (.tup [.agg (addS q.1 (nextC q.1.cells q.2.1 q.2.2 false) (nextE q.1.cells q.2.1 q.2.2 false) ((H.ext L).key 0) ((H.ext L).key 1)).enc, .agg [.int .i64 0, .str [], .int .i64 ((getL q.1.cells q.2.1).1.ver + 1), .nils]]) ((H.ext L).ext (addB q.1 (nextC q.1.cells q.2.1 q.2.2 false) (nextE q.1.cells q.2.1 q.2.2 false)))) = _
  rw [ot_eq (p := A21 (H.ext L) [.agg s.enc, .agg [.int .i64 2, .str k, .str [], .str v, .int .i64 0, .nils]]) (x := (s, k, v)) ⟨ke, rfl, h, hev, hel, hcl, hk, hv, hI, hm⟩, Heap.key_ext, Heap.key_ext, Heap.ext_append]
  · rfl
  rintro ⟨s', k', v'⟩ ⟨ke', h1, h2, _⟩
  injection h1 with h1 h3
  injection h3 with h3 _
  injection h1 with h1
  injection h3 with h3
  injection h3 with _ h3
  injection h3 with h3 h4
  injection h4 with _ h4
  injection h4 with h4 _
  injection h3 with h3
  injection h4 with h4
  dsimp only at h1 h2 h3 h4
  rw [Sh.uniq h1 h h2, h3, h4]
end Go.Proofs
/- ShardSets: walked. -/

set_option linter.all false
set_option linter.all false
set_option maxRecDepth 100000
namespace Go.Proofs
open Go Go.Ev
variable {H : Heap}

/-- a state of the loop of puts: where the shard's lists lie -/
def St8 (H : Heap) (k : Nat) (q : Nat × Sh) : Prop := q.1 ≤ k ∧ AtK q.1 q.2 ∧ q.2.cv = outV (H.key 1) 5 q.2.cells.length ∧ q.2.ev = outV (H.key 2) 4 q.2.evs.length ∧ q.2.dv = .nils
def bl8 (q : Nat × Sh) : List Blk := [.row true 8 [q.2.enc], outB 5 (q.2.cells.map Cell.enc), outB 4 (q.2.evs.map Evn.enc)]
theorem St8.ok {k : Nat} (hk : k ≤ 60) {q : Nat × Sh} (h : St8 H k q) {L : List Blk} (h1 : L[1]? = some (outB 5 (q.2.cells.map Cell.enc))) (h2 : L[2]? = some (outB 4 (q.2.evs.map Evn.enc))) : q.2.ok (H.ext L) where
  c := by rw [h.2.2.1]; exact arr_outV h1 (List.length_map ..)
  e := by rw [h.2.2.2.1]; exact arr_outV h2 (List.length_map ..)
  d := .inl ⟨h.2.2.2.2, by rw [h.2.1.done]; rfl⟩
  dok := fun d hd => by rw [h.2.1.done] at hd; cases hd
  cl := by have := h.2.1.clen; omega
  el := by have := h.2.1.elen; omega
  dl := by rw [h.2.1.done]; exact Nat.lt_of_sub_eq_succ rfl
theorem St8.next {k : Nat} {q : Nat × Sh} (h : St8 H k q) (hk : k ≤ 60) (hlt : q.1 < k) : St8 H k (q.1 + 1, addS q.2 (nextC q.2.cells [107] [118] false) (nextE q.2.cells [107] [118] false) (H.key 1) (H.key 2)) := by
  refine ⟨hlt, h.2.1.next (by omega) _ _, ?_, rfl, h.2.2.2.2⟩
  show outV _ 5 (refW _ _).length = outV _ 5 (keepC _ _).length
  rw [keepC_len]
/-- a state of the loop of sets by version -/
structure St9 (H : Heap) (k M : Nat) (q : Nat × Sh) : Prop where
  le : q.1 ≤ M + 1
  a : q.1 = 0 → (getL q.2.cells [107]).1.ver = k ∧ q.2.evs.length ≤ 9 ∧ q.2.cells.length ≤ 1
  b : 0 < q.1 → (getL q.2.cells [107]).1.ver = (k : Int) + 1 ∧ (getL q.2.cells [107]).1.value = [97] ∧ (getL q.2.cells [107]).1.del = false
  hist : isHist q.2.evs q.2.cells
  cl : q.2.cells.length ≤ 5
  el : q.2.evs.length ≤ 30
  dn : q.2.done = []
  cv : q.2.cv = outV (H.key 1) 5 q.2.cells.length
  ev : q.2.ev = outV (H.key 2) 4 q.2.evs.length
  dv : q.2.dv = .nils
theorem St9.ok {k M : Nat} {q : Nat × Sh} (h : St9 H k M q) {L : List Blk} (h1 : L[1]? = some (outB 5 (q.2.cells.map Cell.enc))) (h2 : L[2]? = some (outB 4 (q.2.evs.map Evn.enc))) : q.2.ok (H.ext L) where
  c := by rw [h.cv]; exact arr_outV h1 (List.length_map ..)
  e := by rw [h.ev]; exact arr_outV h2 (List.length_map ..)
  d := .inl ⟨h.dv, by rw [h.dn]; rfl⟩
  dok := fun d hd => by rw [h.dn] at hd; cases hd
  cl := by have := h.cl; omega
  el := by have := h.el; omega
  dl := by rw [h.dn]; exact Nat.lt_of_sub_eq_succ rfl
theorem St9.first {k M : Nat} {s : Sh} (h : St9 H k M (0, s)) (hk : k ≤ 9) : St9 H k M (1, addS s (nextC s.cells [107] [97] false) (nextE s.cells [107] [97] false) (H.key 1) (H.key 2)) := by
  obtain ⟨h1, h2, h3⟩ := h.a rfl
  have hI : isHist s.evs s.cells := h.hist
  have h2 : s.evs.length ≤ 9 := h2
  have h3 : s.cells.length ≤ 1 := h3
  have h1 : (getL s.cells [107]).1.ver = k := h1
  have hl : (s.evs ++ [nextE s.cells [107] [97] false]).length - 24 = 0 := by rw [List.length_append]; show s.evs.length + 1 - 24 = 0; omega
  have hc : keepC ((s.evs ++ [nextE s.cells [107] [97] false]).take ((s.evs ++ [nextE s.cells [107] [97] false]).length - 24)) (refW s.cells (nextC s.cells [107] [97] false)) = withL s.cells (nextC s.cells [107] [97] false) := by
    rw [hl, List.take_zero, keepC_nil, refW_eq hI.1]
  have hcl := withL_len (nextC s.cells [107] [97] false) s.cells
  have hg : getL (withL s.cells (nextC s.cells [107] [97] false)) [107] = (nextC s.cells [107] [97] false, true) := getL_withL_self
  refine ⟨by show 1 ≤ M + 1; omega, fun h => absurd h (Nat.succ_ne_zero 0), fun _ => ?_, ?_, ?_, ?_, h.dn, ?_, rfl, h.dv⟩
  · show (getL (keepC _ _) [107]).1.ver = _ ∧ (getL (keepC _ _) [107]).1.value = _ ∧ (getL (keepC _ _) [107]).1.del = _
    rw [hc, hg]
    exact ⟨by show (getL s.cells [107]).1.ver + 1 = _; rw [h1], rfl, rfl⟩
  · have := putS_hist hI key_k (v := [97]) (by decide) (by rw [h1]; omega)
    show isHist _ (keepC _ (refW s.cells _))
    rw [refW_eq hI.1]
    exact this
  · show (keepC _ _).length ≤ 5
    rw [hc]; omega
  · show (List.drop _ _).length ≤ 30
    rw [List.length_drop, List.length_append]; show s.evs.length + 1 - _ ≤ 30; omega
  · show outV _ 5 (refW _ _).length = outV _ 5 (keepC _ _).length
    rw [keepC_len]
end Go.Proofs
/- ShardFull: walked. -/

set_option linter.all false
set_option linter.all false
set_option maxRecDepth 100000
namespace Go.Proofs
open Go Go.Ev
variable {H : Heap}

theorem evK_get {k j : Nat} {e : Evn} (h : (evK k)[j]? = some e) : e = eK j := by
  obtain ⟨h1, h2⟩ := List.getElem?_eq_some_iff.1 h
  rw [← h2, evK_at h1]
theorem ofT_k (f : Int) : ofT [⟨[107], f⟩] [107] = f := by
  unfold ofT
  rw [getS, if_pos rfl]
theorem tell_k {k f : Nat} (h : k - 24 ≤ f) : tellL [] [] [⟨[107], (f : Int)⟩] ((evK k).drop (k - 24)) = (evK k).drop f := by
  have hs : (evK k).drop (k - 24) = ((evK k).drop (k - 24)).take (f - (k - 24)) ++ (evK k).drop f := by
    conv => lhs; rw [← List.take_append_drop (f - (k - 24)) ((evK k).drop (k - 24))]
    rw [List.drop_drop, show k - 24 + (f - (k - 24)) = f by omega]
  have h1 : ∀ e ∈ ((evK k).drop (k - 24)).take (f - (k - 24)), ¬ tellE [] [] [⟨[107], (f : Int)⟩] e := fun e he g => by
    obtain ⟨i, hi⟩ := List.mem_iff_getElem?.1 he
    rw [List.getElem?_take] at hi
    split at hi
    · rw [List.getElem?_drop] at hi
      obtain rfl := evK_get hi
      have g2 : ofT [⟨[107], (f : Int)⟩] [107] < ((k - 24 + i : Nat) : Int) + 1 := g.2
      rw [ofT_k] at g2
      omega
    · cases hi
  have h2 : ∀ e ∈ (evK k).drop f, tellE [] [] [⟨[107], (f : Int)⟩] e := fun e he => by
    obtain ⟨i, hi⟩ := List.mem_iff_getElem?.1 he
    rw [List.getElem?_drop] at hi
    obtain rfl := evK_get hi
    refine ⟨k_has 107, ?_⟩
    show ofT [⟨[107], (f : Int)⟩] [107] < ((f + i : Nat) : Int) + 1
    rw [ofT_k]
    omega
  unfold tellL
  rw [hs, List.filter_append, List.filter_eq_nil_iff.2 fun e he => by rw [decide_eq_false (h1 e he)]; decide, List.filter_eq_self.2 fun e he => decide_eq_true (h2 e he), List.nil_append]
theorem after_get {k f i : Nat} (h : k - 24 ≤ f) {e : Evn} (hi : (afterL [] [] [⟨[107], (f : Int)⟩] 8 ((evK k).drop (k - 24)))[i]? = some e) : e.ver = (f : Int) + 1 + i := by
  unfold afterL at hi
  rw [tell_k h, List.getElem?_take] at hi
  split at hi
  · rw [List.getElem?_drop] at hi
    rw [evK_get hi]
    show ((f + i : Nat) : Int) + 1 = _
    omega
  · cases hi
theorem after_len {k f : Nat} (h : k - 24 ≤ f) : (afterL [] [] [⟨[107], (f : Int)⟩] 8 ((evK k).drop (k - 24))).length = min 8 (k - f) := by
  unfold afterL
  rw [tell_k h, List.length_take, List.length_drop, evK_len]
theorem late_k {k f : Nat} (hk : 1 ≤ k) : lateW [] [] [⟨[107], (f : Int)⟩] [cellK k] ↔ f < k - 24 := by
  have hw : withinL [] [] [cellK k] = [cellK k] := by
    unfold withinL
    rw [List.filter_cons_of_pos (p := fun c : Cell => decide (has [] [] c.key)) (a := cellK k) (decide_eq_true (k_has 107))]
    rfl
  unfold lateW
  rw [hw]
  constructor
  · rintro ⟨c, hc, h⟩
    rw [List.mem_singleton.1 hc] at h
    have h : ofT [⟨[107], (f : Int)⟩] [107] < ((k - 24 : Nat) : Int) := h
    rw [ofT_k] at h
    omega
  · intro h
    refine ⟨cellK k, by simp, ?_⟩
    show ofT [⟨[107], (f : Int)⟩] [107] < ((k - 24 : Nat) : Int)
    rw [ofT_k]
    omega
theorem f7_ok {n m : Int} (hn0 : 0 ≤ n) (hn1 : n < 256) (hm0 : 0 ≤ m) (hm1 : m < 256) : FnOk Tryz.prog 7 [.int .u8 n, .int .u8 m] H fun r G => r = .bool true ∧ G = H := by
  refine FnOk.assume fun hok => ?_
  refine FnOk.drop (R := fun r => r = .bool true) ?_ (by rintro v rfl ρ; rw [AV.ren])
  refine FnOk.of_WW Tryz.func7 rfl C7ok R7ok EK good_EK ?_
  simp only [go_sem, C7]
  refine CL.of f18_ok ?_
  rintro _ G' ⟨rfl, hG⟩
  rw [hG]
  clear hG
  simp only [go_sem]
  refine CL.of (f20_ok 1 1 [] []) ?_
  rintro _ G' ⟨rfl, hG⟩
  rw [hG]
  clear hG
  simp only [go_sem]
  obtain ⟨k, hk1, hk9, hk⟩ : ∃ k : Nat, 1 ≤ k ∧ k ≤ 60 ∧ IntKind.i64.wrap (IntKind.i64.wrap (n.tmod 60) + 1) = (k : Int) := by
    refine ⟨(n % 60).toNat + 1, by omega, by omega, ?_⟩
    have e0 : IntKind.i64.wrap (n % 60) = n % 60 := wrap_i64 (by omega) (by omega)
    rw [Int.tmod_eq_emod_of_nonneg hn0, e0, wrap_i64 (by omega) (by omega)]
    omega
  rw [hk]
  refine LL.st good_EK (fun q : Nat × Sh => k - q.1) (St8 H k)
    (fun q => [((.o .z), .int .u8 m), ((.i (.i .z)), .int .i64 k), ((.o (.i .z)), .ptr (H.key 0) 0), ((.o (.o (.o .z))), .int .i64 q.1)])
    bl8 ?_ (0, s0) (σ := [0, 1, 2]) (Wk.of rfl (by decide) (by simp only [go_sem]; first | done | rfl | trace_state) (by simp only [go_sem, bl8, Sh.enc, s0])) ⟨Nat.zero_le _, AtK.first, rfl, rfl, rfl⟩
  rintro ⟨i, s⟩ hst
  obtain ⟨hi, hat, hcv, hev, hdv⟩ := id hst
  dsimp only at hi hat hcv hev hdv
  by_cases hlt : i < k
  · have hci : (i : Int) < (k : Int) := by omega
    have hw := wrap_succ (n := i) (by omega)
    have h := hst.ok (by omega) (L := bl8 (i, s)) rfl rfl
    have hcl := hat.clen
    have hel := hat.elen
    have i21 := e21 (s := s) h hev (by omega) (by omega) key_k (v := [118]) (by decide) hat.hist (by rw [hat.get.1]; omega)
    simp only [bl8, Sh.enc] at i21
    simp only [go_sem, C7L0, hci, bl8, Sh.enc, e24k, i21, hw, addS, addB]
    exact ⟨(i + 1, addS s (nextC s.cells [107] [118] false) (nextE s.cells [107] [118] false) (H.key 1) (H.key 2)), by show k - (i + 1) < k - i; omega, hst.next (by omega) hlt, _, [0, 3, 4], rfl, Wk.of rfl (by decide) (by simp only [go_sem]; first | done | rfl | trace_state) (by simp only [go_sem, bl8, addS, Sh.enc, outV_ren', ↓outB_ren', Cell.map_rens, Evn.map_rens, hdv, implies_true]; first | done | trace_state)⟩
  · obtain rfl : i = k := by omega
    have hci : ¬ (i : Int) < (i : Int) := by omega
    simp only [go_sem, C7L0, hci, bl8, Sh.enc]
    obtain ⟨f, hf, hfk⟩ : ∃ f : Nat, (m.tmod ((i : Int) + 1)) = (f : Int) ∧ f ≤ i := by
      rw [Int.tmod_eq_emod_of_nonneg hm0]
      have h1 := Int.emod_nonneg m (show (i : Int) + 1 ≠ 0 by omega)
      have h2 := Int.emod_lt_of_pos m (show (0 : Int) < (i : Int) + 1 by omega)
      exact ⟨(m % ((i : Int) + 1)).toNat, by omega, by omega⟩
    have hwi : IntKind.i64.wrap ((i : Int) + 1) = (i : Int) + 1 := wrap_i64 (by omega) (by omega)
    have hwm : IntKind.i64.wrap m = m := wrap_i64 (by omega) (by omega)
    have hwf : IntKind.i64.wrap (f : Int) = (f : Int) := wrap_i64 (by omega) (by omega)
    have hws : IntKind.i64.wrap ((i : Int) - 24) = (i : Int) - 24 := wrap_i64 (by omega) (by omega)
    have hnz := eq_false (show ¬ (i : Int) + 1 = 0 by omega)
    simp only [hwi, hwm, hf, hwf, hnz, go_sem]
    have hcells : s.cells = [cellK i] := by rw [hat.cells, if_neg (by omega)]
    have hevs : s.evs = (evK i).drop (i - 24) := hat.evs
    have hel := hat.elen
    have hcv' : s.cv = .slice (H.key 1) 0 1 5 false 1 := by rw [hcv, hcells]; rfl
    have hfr := hat.hd.2.2.1
    have hto := hat.hd.2.2.2.1
    obtain ⟨B, hB⟩ : ∃ B, B = Blk.row true 2 [[.str [107], .int .i64 f]] := ⟨_, rfl⟩
    have hsok : s.ok (H.ext [.row true 8 [s.enc], outB 5 (s.cells.map Cell.enc), outB 4 (s.evs.map Evn.enc), .row true 2 [[.str [107], .int .i64 f]]]) := hst.ok hk9 rfl rfl
    have hokB : (H.ext [.row true 8 [s.enc], outB 5 (s.cells.map Cell.enc), outB 4 (s.evs.map Evn.enc), .row true 2 [[.str [107], .int .i64 f]]]).ok := Heap.ok_ext hok _
    refine CL.of (f25_ok (s := s) hsok hfr hto (by omega) (by rw [hcells]; exact Nat.le_of_ble_eq_true rfl) (seen := [⟨[107], (f : Int)⟩]) (arr_row (i := 3) rfl rfl) (show (1 : Nat) < 9223372036854775807 by decide) 100) ?_
    rintro r G ⟨x, L, hG, h1, h2⟩
    rw [hcells, late_k hk1] at h1 h2
    rw [hevs, show (min (max (100 : Int) 0) 8).toNat = 8 from rfl] at h2
    have hokG : G.ok := by rw [hG]; exact Heap.ok_ext hokB _
    have e0 : G.get (H.key 0) = some (.row true 8 [s.enc]) := by rw [hG]; exact Heap.get_ext_old hokB (get_lit rfl) _
    have e1 : G.get (H.key 1) = some (.row true 5 [(cellK i).enc]) := by rw [hG]; exact Heap.get_ext_old hokB (get_lit (by rw [hcells]; rfl)) _
    have hsG : s.ok G := by rw [hG]; exact hsok.ext _
    obtain ⟨LG, hLG⟩ : ∃ L, G = H.ext L := ⟨_, by rw [hG, Heap.ext_append]⟩
    clear hG hokB hsok
    have e0' := Heap.get_ext_old hokG e0
    have e1' := Heap.get_ext_old hokG e1
    have elen := fun G => hsG.e.len G
    simp only [List.length_map] at elen
    have z1 := eq_true (show (s.evs.length : Int) = min (i : Int) 24 by omega)
    have z2 := eq_true (show ((i - 24 : Nat) : Int) = max 0 ((i : Int) - 24) by omega)
    by_cases hl : f < i - 24
    · obtain rfl := h1 hl
      have z3 := eq_true (show (f : Int) < max 0 ((i : Int) - 24) by omega)
      refine WW.nil ?_
      simp only [go_sem, Sh.enc, Cell.enc, cellK, hws, e0', e1', hcv', elen, z1, z2, z3]
      rw [hLG, Heap.ext_append]
      exact ⟨_, rfl⟩
    · obtain ⟨rfl, hx⟩ := h2 hl
      have z3 := eq_false (show ¬ (f : Int) < max 0 ((i : Int) - 24) by omega)
      refine WW.nil ?_
      simp only [go_sem, Sh.enc, Cell.enc, cellK, hws, e0', e1', hcv', elen, z1, z2, z3]
      obtain ⟨es, hes⟩ : ∃ es, es = afterL [] [] [⟨[107], (f : Int)⟩] 8 ((evK i).drop (i - 24)) := ⟨_, rfl⟩
      have hesl : es.length = min 8 (i - f) := by rw [hes]; exact after_len (by omega)
      rw [← hes] at hx
      have xlen := fun G => hx.len G
      simp only [List.length_map] at xlen
      have hw1 : IntKind.i64.wrap ((f : Int) + 1) = (f : Int) + 1 := wrap_i64 (by omega) (by omega)
      have hwk : IntKind.i64.wrap ((i : Int) - (f : Int)) = (i : Int) - (f : Int) := wrap_i64 (by omega) (by omega)
      refine LL.sth good_EK (fun j : Nat => es.length - j) (fun j G2 => G2 = G ∧ j ≤ es.length)
        (fun j => [((.o (.i (.o .z))), x), ((.i (.o (.i .z))), .int .i64 j), ((.i (.o (.o .z))), .int .i64 f), ((.i (.i .z)), .int .i64 i)]) ?_ 0 ⟨Heap.ext_nil G, Nat.zero_le _⟩ (Slots.all (by simp only [go_sem]; first | done | rfl | trace_state))
      rintro j G2 ⟨rfl, hj⟩
      by_cases hlt : j < es.length
      · obtain ⟨kk, r, ex', cap', wr, rows, hv, hrho, hgo, hrow⟩ := hx.at hokG (j := j) (by rw [List.length_map]; exact hlt)
        simp only [List.length_map, List.getElem_map] at hv hrow
        have hget : es[j]? = some es[j] := List.getElem?_eq_getElem hlt
        generalize es[j] = c at hrow hget
        have hver : c.ver = (f : Int) + 1 + j := by rw [hes] at hget; exact after_get (by omega) hget
        have hw := wrap_succ (n := j) (by omega)
        have hw2 : IntKind.i64.wrap ((f : Int) + 1 + (j : Int)) = (f : Int) + 1 + (j : Int) := wrap_i64 (by omega) (by omega)
        have hci : (j : Int) < (es.length : Int) := (by omega)
        have hsi : j + 1 ≤ es.length := (by omega)
        simp only [go_sem, C7L1, hv, hci, hsi, hgo, hrow, hw, hw1, hw2, Evn.enc, hver]
        exact ⟨j + 1, by show es.length - (j + 1) < es.length - j; omega, ⟨Heap.ext_nil _, hsi⟩, Slots.all (by simp only [go_sem, hv]; first | done | rfl | trace_state)⟩
      · have hci : ¬ (j : Int) < (es.length : Int) := by omega
        have z4 := eq_true (show (es.length : Int) = min 8 ((i : Int) - (f : Int)) by omega)
        simp only [go_sem, C7L1, hci, xlen, hwk, z4]
        rw [hLG, Heap.ext_append]
        exact ⟨_, rfl⟩
end Go.Proofs
