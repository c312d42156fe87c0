/- what comes behind what was seen, as the code has it: walked. -/
import Derived.Test.YtomljpdjfobeoaaGreatDoorZ23
set_option linter.all false
set_option linter.all false
set_option maxRecDepth 100000
namespace Go.Proofs
open Go Go.Ev
variable {H : Heap}

theorem Sn.enc_one {a b : Sn} (h : a.enc = b.enc) : a = b := by
  cases a; cases b; simp [Sn.enc] at h; simp [h]
theorem sns_uniq {v : AV} {xs ys : List Sn} (h : Arr H 2 v (xs.map Sn.enc)) (h2 : Arr H 2 v (ys.map Sn.enc)) : xs = ys :=
  List.map_inj_right (fun _ _ => Sn.enc_one) |>.1 (Arr.uniq h h2 (by decide))
def A123 (H : Heap) (args : List AV) (q : List Sn × List Nat) : Prop := ∃ v, args = [v, .str q.2] ∧ Arr H 2 v (q.1.map Sn.enc) ∧ q.1.length < 9223372036854775807
noncomputable def EH (f : FuncId) (args : List AV) (H : Heap) : RC :=
  match f with
  | 123 => ot (A123 H args) fun q => .ok (.int .i64 (ofT q.1 q.2)) H
  | 61 => match args with | [.agg [.str f, .str t], .str k] => .ok (.bool (decide (has f t k))) H | _ => .fail
  | _ => .fail
theorem good_EH : Ev.Good Tryz.prog EH := by
  intro f args H r G he φ w args' ha hw
  refine (?_ : FnOk Tryz.prog f args H fun v' G' => v' = r ∧ G' = G).one φ w args' ha hw
  unfold EH at he
  split at he
  · obtain ⟨q, ⟨v, rfl, h1, h2⟩, hz⟩ := ot_ok he
    clear he
    cases hz
    exact f123_ok h1 h2 _
  · split at he
    · cases he; exact f61_ok _ _ _
    · cases he
  · cases he
theorem e123 {v : AV} {l : List Sn} (hA : Arr H 2 v (l.map Sn.enc)) (hl : l.length < 9223372036854775807) (k : List Nat) (L : List Blk) : EH 123 [v, .str k] (H.ext L) = .ok (.int .i64 (ofT l k)) (H.ext L) := by
  show ot (A123 (H.ext L) [v, .str k]) (fun q => .ok (.int .i64 (ofT q.1 q.2)) (H.ext L)) = _
  refine ot_eq (p := A123 (H.ext L) [v, .str k]) (x := (l, k)) ⟨v, rfl, hA.ext L, hl⟩ ?_ _
  rintro ⟨l', k'⟩ ⟨v', h1, h2, _⟩
  injection h1 with h1 h3
  injection h3 with h3 _
  injection h3 with h3
  subst h1 h3
  rw [sns_uniq (hA.ext L) h2]
theorem e61 (f t k : List Nat) (H : Heap) : EH 61 [.agg [.str f, .str t], .str k] H = .ok (.bool (decide (has f t k))) H := rfl
def tellE (f t : List Nat) (seen : List Sn) (e : Evn) : Prop := has f t e.key ∧ ofT seen e.key < e.ver
noncomputable instance (f t seen e) : Decidable (tellE f t seen e) := Classical.propDecidable _
noncomputable def tellL (f t : List Nat) (seen : List Sn) (l : List Evn) : List Evn := l.filter fun e => decide (tellE f t seen e)
theorem tellL_yes {f t : List Nat} {seen : List Sn} {l : List Evn} {i : Nat} {c : Evn} (h : l[i]? = some c) (h2 : tellE f t seen c) : tellL f t seen (l.take (i + 1)) = tellL f t seen (l.take i) ++ [c] := by
  rw [take_next h]; simp [tellL, h2]
theorem tellL_no {f t : List Nat} {seen : List Sn} {l : List Evn} {i : Nat} {c : Evn} (h : l[i]? = some c) (h2 : ¬ tellE f t seen c) : tellL f t seen (l.take (i + 1)) = tellL f t seen (l.take i) := by
  rw [take_next h]; simp [tellL, h2]
theorem tellL_len (f t : List Nat) (seen : List Sn) (l : List Evn) (i : Nat) : (tellL f t seen (l.take i)).length ≤ i := Nat.le_trans (List.length_filter_le _ _) (by simp; omega)
noncomputable def outI (f t : List Nat) (seen : List Sn) (n : Nat) (l : List Evn) (i : Nat) : List Evn := (tellL f t seen (l.take i)).take n
theorem outI_no {f t : List Nat} {seen : List Sn} {n : Nat} {l : List Evn} {i : Nat} {c : Evn} (h : l[i]? = some c) (h2 : ¬ tellE f t seen c) : outI f t seen n l (i + 1) = outI f t seen n l i := by
  unfold outI; rw [tellL_no h h2]
theorem outI_full {f t : List Nat} {seen : List Sn} {n : Nat} {l : List Evn} {i : Nat} {c : Evn} (h : l[i]? = some c) (h2 : ¬ (outI f t seen n l i).length < n) : outI f t seen n l (i + 1) = outI f t seen n l i := by
  by_cases g : tellE f t seen c
  · unfold outI at h2 ⊢
    rw [List.length_take] at h2
    rw [tellL_yes h g, List.take_append_of_le_length (by omega)]
  · exact outI_no h g
theorem outI_yes {f t : List Nat} {seen : List Sn} {n : Nat} {l : List Evn} {i : Nat} {c : Evn} (h : l[i]? = some c) (h2 : tellE f t seen c) (h3 : (outI f t seen n l i).length < n) : outI f t seen n l (i + 1) = outI f t seen n l i ++ [c] := by
  unfold outI at h3 ⊢
  rw [List.length_take] at h3
  have h4 : (tellL f t seen (l.take i)).length < n := by omega
  rw [tellL_yes h h2, List.take_of_length_le (l := tellL f t seen (l.take i)) (by omega), List.take_of_length_le (by rw [List.length_append]; exact h4)]
theorem outI_len (f t : List Nat) (seen : List Sn) (n : Nat) (l : List Evn) (i : Nat) : (outI f t seen n l i).length ≤ i := by
  unfold outI; rw [List.length_take]; have := tellL_len f t seen l i; omega
noncomputable def afterL (f t : List Nat) (seen : List Sn) (n : Nat) (l : List Evn) : List Evn := (tellL f t seen l).take n
theorem outI_all {f t : List Nat} {seen : List Sn} {n : Nat} {l : List Evn} {i : Nat} (hi : l.length ≤ i) : outI f t seen n l i = afterL f t seen n l := by
  unfold outI afterL; rw [List.take_of_length_le hi]
/-- some of what happened is no longer there -/
def lateW (f t : List Nat) (seen : List Sn) (cs : List Cell) : Prop := ∃ c ∈ withinL f t cs, ofT seen c.key < c.floor
theorem get_left {α : Type} {l l' : List α} {j : Nat} {x : α} (h : l[j]? = some x) : (l ++ l')[j]? = some x := by
  rw [List.getElem?_append_left (List.getElem?_eq_some_iff.1 h).1]; exact h
theorem get_last {α : Type} (l : List α) (x : α) : (l ++ [x])[l.length]? = some x := by
  rw [List.getElem?_append_right (Nat.le_refl _), Nat.sub_self]; rfl
def rowE (e : Evn) : Blk := .row true 4 [[.str e.key, .int .i64 e.ver, .str e.val, .bool e.del]]
theorem f70_ok {v u w : AV} {l : List Evn} {cs : List Cell} {seen : List Sn} (hA : Arr H 4 v (l.map Evn.enc)) (hB : Arr H 5 u (cs.map Cell.enc)) (hC : Arr H 2 w (seen.map Sn.enc)) (hl : l.length < 100000) (hc : cs.length < 100000) (hs : seen.length < 9223372036854775807) (f t : List Nat) (n : Nat) (hn : n < 100000) :
    FnOk Tryz.prog 70 [v, u, .agg [.str f, .str t], w, .int .i64 n] H fun r G => ∃ x L, G = H.ext L ∧ (lateW f t seen cs → r = .tup [.nils, .bool true]) ∧ (¬ lateW f t seen cs → r = .tup [x, .bool false] ∧ Arr G 4 x ((afterL f t seen n l).map Evn.enc)) := by
  refine FnOk.assume fun hok => ?_
  refine FnOk.of_WW Tryz.func70 rfl C70ok R70ok EH good_EH ?_
  simp only [go_sem, C70]
  refine CL.of (f73_at (hB.ext _) (by omega) f t) ?_
  rintro _ G' ⟨rfl, hG⟩
  obtain ⟨ws, hws⟩ : ∃ ws, ws = withinL f t cs := ⟨_, rfl⟩
  have hwl : ws.length ≤ cs.length := by rw [hws]; exact List.length_filter_le ..
  unfold lateW
  rw [← hws] at hG ⊢
  have hok1 : G'.ok := by rw [hG]; exact Heap.ok_ext (Heap.ok_ext hok _) _
  have b0 : G'.get (H.key 0) = some (.row true 2 [[.str f, .str t]]) := by rw [hG]; exact Heap.get_ext_old (Heap.ok_ext hok _) (get_first [_] []) _
  have hA1 : Arr G' 4 v (l.map Evn.enc) := by rw [hG]; exact (hA.ext _).ext _
  have hC1 : Arr G' 2 w (seen.map Sn.enc) := by rw [hG]; exact (hC.ext _).ext _
  obtain ⟨kw, hkw⟩ : ∃ k, k = (H.ext [.row true 2 [[.str f, .str t]]]).nx := ⟨_, rfl⟩
  have hW1 : Arr G' 5 (outV kw 5 ws.length) (ws.map Cell.enc) := by rw [hG, hkw, ← Heap.key_zero]; exact arr_outV (i := 0) rfl (List.length_map ..)
  have hL1 : ∃ L, G' = H.ext L := ⟨_, by rw [hG, Heap.ext_append]⟩
  rw [← hkw]
  clear hG hkw
  refine WW.nil ?_
  have hwlen := fun G => hW1.len G
  simp only [List.length_map] at hwlen
  simp only [go_sem, hwlen]
  obtain ⟨L1, hL1⟩ := hL1
  refine LL.sth good_EH (fun i : Nat => ws.length - i) (fun i G => (∃ L, G = G'.ext L) ∧ i ≤ ws.length ∧ ∀ j d, j < i → ws[j]? = some d → ¬ ofT seen d.key < d.floor)
    (fun i => [(.z, v), ((.o (.o .z)), w), ((.i (.o .z)), .int .i64 n), ((.o (.o (.o .z))), .ptr (H.key 0) 0), ((.o (.o (.i (.o .z)))), outV kw 5 ws.length), ((.i (.o (.i (.o .z)))), .int .i64 ws.length), ((.o (.i (.i (.o .z)))), .int .i64 i)]) ?_ 0 ⟨⟨_, rfl⟩, Nat.zero_le _, fun j d h => absurd h (Nat.not_lt_zero _)⟩ (Slots.all (by simp only [go_sem]))
  rintro i G2 ⟨⟨L, hL⟩, hi, hno⟩
  have hok2 : G2.ok := by rw [hL]; exact Heap.ok_ext hok1 _
  have hW2 : Arr G2 5 (outV kw 5 ws.length) (ws.map Cell.enc) := by rw [hL]; exact hW1.ext _
  have hC2 : Arr G2 2 w (seen.map Sn.enc) := by rw [hL]; exact hC1.ext _
  have b2 : G2.get (H.key 0) = some (.row true 2 [[.str f, .str t]]) := by rw [hL]; exact Heap.get_ext_old hok1 b0 _
  have r0 := Heap.get_ext_old hok2 b2
  have i123 := e123 hC2 hs
  by_cases hlt : i < ws.length
  · obtain ⟨kk, r, ex', cap', wr, rows, hv, hrho, hgo, hrow⟩ := hW2.at hok2 (j := i) (by rw [List.length_map]; exact hlt)
    simp only [List.length_map, List.getElem_map] at hv hrow
    have hget : ws[i]? = some ws[i] := List.getElem?_eq_getElem hlt
    generalize ws[i] = c at hrow hget
    have hw := wrap_succ (n := i) (by omega)
    have hci : (i : Int) < (ws.length : Int) := (by omega)
    have hsi : i + 1 ≤ ws.length := (by omega)
    simp only [go_sem, C70L0, hv, hci, hsi, hgo, hrow, hw, Cell.enc, i123]
    refine ⟨fun g => ?_, fun g => ?_⟩
    · exact ⟨.nils, _, by rw [hL, hL1, Heap.ext_append, Heap.ext_append], by first | exact fun _ => rfl | exact fun _ => trivial | trivial, fun h => absurd ⟨c, List.mem_of_getElem? hget, g⟩ h⟩
    · refine ⟨i + 1, by show ws.length - (i + 1) < ws.length - i; omega, ⟨⟨_, by rw [hL, Heap.ext_append]⟩, hsi, fun j d hj hd => ?_⟩, Slots.all (by simp only [go_sem, hv]; first | done | exact ⟨rfl, trivial⟩ | trivial | rfl | trace_state)⟩
      rcases Nat.lt_or_ge j i with h | h
      · exact hno j d h hd
      · obtain rfl : j = i := by omega
        rw [hget] at hd; cases hd; exact g
  · have hci : ¬ (i : Int) < (ws.length : Int) := by omega
    have hno2 : ¬ ∃ c, c ∈ ws ∧ ofT seen c.key < c.floor := by
      rintro ⟨c, h1, h2⟩
      obtain ⟨j, hj⟩ := List.mem_iff_getElem?.1 h1
      exact hno j c (by have := (List.getElem?_eq_some_iff.1 hj).1; omega) hj h2
    have hA2 : Arr G2 4 v (l.map Evn.enc) := by rw [hL]; exact hA1.ext _
    have hlen := fun G => hA2.len G
    simp only [List.length_map] at hlen
    obtain ⟨L2, hL2⟩ : ∃ L, G2 = H.ext L := ⟨_, by rw [hL, hL1, Heap.ext_append]⟩
    clear hL hno hi hlt
    simp only [go_sem, C70L0, hci, hlen]
    clear hci
    refine LL.sth good_EH (fun q : Nat × List Blk × Nat => l.length - q.1) (fun q G => G = G2.ext q.2.1 ∧ q.1 ≤ l.length ∧ (outI f t seen n l q.1 = [] ∨ q.2.1[q.2.2]? = some (outB 4 ((outI f t seen n l q.1).map Evn.enc))))
      (fun q => [((.o (.o .z)), w), ((.i (.o .z)), .int .i64 n), ((.o (.o (.o .z))), .ptr (H.key 0) 0), ((.o (.i (.o (.o (.o .z))))), v), ((.i (.i (.o (.o (.o .z))))), .int .i64 l.length), ((.o (.o (.i (.o (.o .z))))), .int .i64 q.1), ((.i (.i (.i .z))), outV (G2.key q.2.2) 4 (outI f t seen n l q.1).length)]) ?_ (0, [], 0) ⟨rfl, Nat.zero_le _, .inl (by unfold outI tellL; simp)⟩ (Slots.all (by simp only [go_sem, outI, tellL, List.filter_nil]; first | done | exact ⟨rfl, trivial⟩ | trivial | rfl | trace_state))
    rintro ⟨i, L, j⟩ G3 ⟨hL, hi, hon⟩
    dsimp only at hL hi hon
    have hok3 : G3.ok := by rw [hL]; exact Heap.ok_ext hok2 _
    have hA3 : Arr G3 4 v (l.map Evn.enc) := by rw [hL]; exact hA2.ext _
    have hC3 : Arr G3 2 w (seen.map Sn.enc) := by rw [hL]; exact hC2.ext _
    have b3 : G3.get (H.key 0) = some (.row true 2 [[.str f, .str t]]) := by rw [hL]; exact r0 _
    have r3 := Heap.get_ext_old hok3 b3
    have j123 := e123 hC3 hs
    have hln := outI_len f t seen n l i
    by_cases hlt : i < l.length
    · obtain ⟨kk, r, ex', cap', wr, rows, hv, hrho, hgo, hrow⟩ := hA3.at hok3 (j := i) (by rw [List.length_map]; exact hlt)
      simp only [List.length_map, List.getElem_map] at hv hrow
      have hget : l[i]? = some l[i] := List.getElem?_eq_getElem hlt
      generalize l[i] = e at hrow hget
      have hw := wrap_succ (n := i) (by omega)
      have hci : (i : Int) < (l.length : Int) := (by omega)
      have hsi : i + 1 ≤ l.length := (by omega)
      simp only [go_sem, ↓appR_hide, C70L1, hv, hci, hsi, hgo, hrow, hw, Evn.enc, j123, e61, r3]
      have hs0 : ∀ l', outI f t seen n l (i + 1) = outI f t seen n l i → (outI f t seen n l (i + 1) = [] ∨ (L ++ l')[j]? = some (outB 4 ((outI f t seen n l (i + 1)).map Evn.enc))) := fun l' h => by
        rw [h]; exact hon.imp id fun g => get_left g
      refine ⟨fun g => ⟨fun g2 => ⟨fun g3 => ?_, fun g3 => ?_⟩, fun g2 => ?_⟩, fun g => ?_⟩
      · have hnew := outI_yes (n := n) hget (show tellE f t seen e from ⟨g, g2⟩) (by omega)
        have hml : (outI f t seen n l (i + 1)).length = (outI f t seen n l i).length + 1 := by rw [hnew, List.length_append]; rfl
        rw [hL, Heap.ext_append, Heap.key_ext]
        rcases hon with h0 | hj
        · rw [h0]
          have ha := appQ_nil (G := G2.ext (L ++ [.row true 4 [[.str e.key, .int .i64 e.ver, .str e.val, .bool e.del]], .row true 4 [[.str e.key, .int .i64 e.ver, .str e.val, .bool e.del]]])) (e := 4) (bytes := 48) (w := .slice (G2.key (L.length + 1)) 0 1 4 true 1) (ys := [[.str e.key, .int .i64 e.ver, .str e.val, .bool e.del]]) (by decide) (arr_row (i := L.length + 1) (get_two _ _ _).2 rfl) (by simp) (okBig_le (n := 1) (by decide) (by decide))
          rw [show outV (G2.key j) 4 ([] : List Evn).length = .nils from rfl, ha]
          simp only [go_sem, hw, Heap.key_ext]
          refine ⟨(i + 1, L ++ [rowE e, rowE e] ++ [outB 4 [[.str e.key, .int .i64 e.ver, .str e.val, .bool e.del]]], (L ++ [rowE e, rowE e]).length), by show l.length - (i + 1) < l.length - i; omega, ⟨rfl, hsi, .inr ?_⟩, Slots.all (by simp only [go_sem, hml, h0])⟩
          show (L ++ [rowE e, rowE e] ++ [outB 4 [[.str e.key, .int .i64 e.ver, .str e.val, .bool e.del]]])[(L ++ [rowE e, rowE e]).length]? = _
          rw [get_last, hnew, h0]
          rfl
        · have hb := appQ_out (H := G2) (L := L ++ [.row true 4 [[.str e.key, .int .i64 e.ver, .str e.val, .bool e.del]], .row true 4 [[.str e.key, .int .i64 e.ver, .str e.val, .bool e.del]]]) (i := j) (j := L.length + 1) (bytes := 48) (ex := true) (cap := 1) (y := [.str e.key, .int .i64 e.ver, .str e.val, .bool e.del]) (get_left hj) (List.length_map ..) (get_two _ _ _).2 (okBig_le (by omega) (by decide))
          rw [hb]
          simp only [go_sem, hw]
          refine ⟨(i + 1, (L ++ [rowE e, rowE e]).set j .dead ++ [outB 4 ((outI f t seen n l i).map Evn.enc ++ [[.str e.key, .int .i64 e.ver, .str e.val, .bool e.del]])], (L ++ [rowE e, rowE e]).length), by show l.length - (i + 1) < l.length - i; omega, ⟨rfl, hsi, .inr ?_⟩, Slots.all (by simp only [go_sem, hml])⟩
          show ((L ++ [rowE e, rowE e]).set j .dead ++ [outB 4 ((outI f t seen n l i).map Evn.enc ++ [[.str e.key, .int .i64 e.ver, .str e.val, .bool e.del]])])[(L ++ [rowE e, rowE e]).length]? = _
          rw [← List.length_set (i := j) (a := Blk.dead), get_last, hnew, List.map_append]
          rfl
      · have hsame := outI_full (n := n) hget (show ¬ (outI f t seen n l i).length < n by omega)
        exact ⟨(i + 1, L ++ [rowE e], j), by show l.length - (i + 1) < l.length - i; omega, ⟨by rw [hL, Heap.ext_append]; rfl, hsi, hs0 _ hsame⟩, Slots.all (by simp only [go_sem, hsame])⟩
      · have hsame := outI_no (f := f) (t := t) (seen := seen) (n := n) hget fun h => g2 h.2
        exact ⟨(i + 1, L ++ [rowE e], j), by show l.length - (i + 1) < l.length - i; omega, ⟨by rw [hL, Heap.ext_append]; rfl, hsi, hs0 _ hsame⟩, Slots.all (by simp only [go_sem, hsame])⟩
      · have hsame := outI_no (f := f) (t := t) (seen := seen) (n := n) hget fun h => g h.1
        exact ⟨(i + 1, L ++ [rowE e], j), by show l.length - (i + 1) < l.length - i; omega, ⟨by rw [hL, Heap.ext_append]; rfl, hsi, hs0 _ hsame⟩, Slots.all (by simp only [go_sem, hsame])⟩
    · have hci : ¬ (i : Int) < (l.length : Int) := by omega
      simp only [go_sem, C70L1, hci]
      refine ⟨_, L2 ++ L, by rw [Heap.ext_nil, hL, hL2, Heap.ext_append], fun h => absurd h hno2, fun _ => ⟨rfl, ?_⟩⟩
      rw [Heap.ext_nil, hL, ← outI_all (i := i) (by omega)]
      rcases hon with h0 | hj
      · rw [h0]; exact .inl ⟨rfl, rfl⟩
      · exact arr_outV hj (List.length_map ..)
end Go.Proofs
/- the code's Feed; whether shards are the same, where nothing is in them: walked. -/

set_option linter.all false
set_option linter.all false
set_option maxRecDepth 100000
namespace Go.Proofs
open Go Go.Ev
variable {H : Heap}

@[go_sem] theorem min_int {β : Type} (k : IntKind) (a b : Int) (f : β) (c : AV → β) : mm2 false (.int k a) (.int k b) f c = c (.int k (min a b)) := by
  show bif' false (ltI a b fun z => bif' z (c (.int k b)) (c (.int k a))) (ltI b a fun z => bif' z (c (.int k b)) (c (.int k a))) = _
  rw [bif_false, ltI_eq, bif_eq]
  by_cases h : b < a
  · rw [decide_eq_true h, if_pos rfl, Int.min_eq_right (by omega)]
  · rw [decide_eq_false h, if_neg (by decide), Int.min_eq_left (by omega)]
theorem meet_all : okMeet [] [] [] [] := ⟨⟨by decide, by decide, .inl rfl⟩, ⟨by decide, by decide, .inl rfl⟩, ⟨by unfold maxS; rw [if_neg (ltS_irrefl _)]; decide, by unfold lowS; rw [if_pos (.inl rfl)]; decide, .inl (by unfold lowS; rw [if_pos (.inl rfl)])⟩⟩
theorem f25_ok {s : Sh} (h : s.ok H) (hfr : s.fr = []) (hto : s.to = []) (hel : s.evs.length < 100000) (hcl : s.cells.length < 100000) {w : AV} {seen : List Sn} (hC : Arr H 2 w (seen.map Sn.enc)) (hs : seen.length < 9223372036854775807) (n : Int) :
    FnOk Tryz.prog 25 [.agg s.enc, .agg [.str [], .str []], w, .int .i64 n] H fun r G => ∃ x L, G = H.ext L ∧ (lateW [] [] seen s.cells → r = .tup [.nils, .bool true]) ∧ (¬ lateW [] [] seen s.cells → r = .tup [x, .bool false] ∧ Arr G 4 x ((afterL [] [] seen (min (max n 0) 8).toNat s.evs).map Evn.enc)) := by
  refine FnOk.assume fun hok => ?_
  refine FnOk.of_WW Tryz.func25 rfl C25ok R25ok E0 good_E0 ?_
  obtain ⟨m, hm, hm8⟩ : ∃ m : Nat, min (max n 0) 8 = (m : Int) ∧ m < 100000 := ⟨(min (max n 0) 8).toNat, by omega, by omega⟩
  rw [hm, Int.toNat_natCast]
  simp only [go_sem, C25, Sh.enc, hfr, hto]
  refine CL.of (f69_ok [] [] [] []) ?_
  rintro _ _ ⟨rfl, rfl⟩
  unfold meetV
  rw [if_pos meet_all, show maxS [] [] = [] from by unfold maxS; rw [if_neg (ltS_irrefl _)], show lowS [] [] = [] from by unfold lowS; rw [if_pos (.inl rfl)]]
  simp only [go_sem, hm]
  refine CL.of (f70_ok (h.e.ext _) (h.c.ext _) (hC.ext _) hel hcl hs [] [] m hm8) ?_
  rintro r G ⟨x, L, hG, h1, h2⟩
  by_cases g : lateW [] [] seen s.cells
  · rw [h1 g, hG, Heap.ext_append]
    simp only [go_sem]
    exact ⟨.nils, _, rfl, by first | exact fun _ => rfl | exact fun _ => trivial | trivial, fun g2 => absurd g g2⟩
  · obtain ⟨rfl, h3⟩ := h2 g
    rw [hG] at h3 ⊢
    rw [Heap.ext_append] at h3 ⊢
    simp only [go_sem]
    exact ⟨_, _, rfl, fun g2 => absurd g2 g, fun _ => ⟨rfl, h3⟩⟩
theorem f100_nil : FnOk Tryz.prog 100 [.nils, .nils] H fun r G => r = .bool true ∧ G = H := by
  refine FnOk.drop (R := fun r => r = .bool true) ?_ (by rintro v rfl ρ; rw [AV.ren])
  refine FnOk.of_WW Tryz.func100 rfl C100ok R100ok E0 good_E0 ?_
  simp only [go_sem, C100]
  refine LL.st good_E0 (fun _ : Unit => 0) (fun _ => True) (fun _ => [((.i (.o (.i .z))), .int .i64 0), ((.o (.i (.i .z))), .int .i64 0)]) (fun _ => []) ?_ () (σ := []) (Wk.of rfl (by decide) (by simp only [go_sem]; first | done | exact ⟨rfl, rfl, trivial⟩) (by simp only [go_sem])) trivial
  rintro _ _
  simp only [go_sem, C100L0]
  exact ⟨_, rfl⟩
theorem f101_nil : FnOk Tryz.prog 101 [.nils, .nils] H fun r G => r = .bool true ∧ G = H := by
  refine FnOk.drop (R := fun r => r = .bool true) ?_ (by rintro v rfl ρ; rw [AV.ren])
  refine FnOk.of_WW Tryz.func101 rfl C101ok R101ok E0 good_E0 ?_
  simp only [go_sem, C101]
  refine LL.st good_E0 (fun _ : Unit => 0) (fun _ => True) (fun _ => [((.i (.o (.i .z))), .int .i64 0), ((.o (.i (.i .z))), .int .i64 0)]) (fun _ => []) ?_ () (σ := []) (Wk.of rfl (by decide) (by simp only [go_sem]; first | done | exact ⟨rfl, rfl, trivial⟩) (by simp only [go_sem])) trivial
  rintro _ _
  simp only [go_sem, C101L0]
  exact ⟨_, rfl⟩
theorem f102_nil (f : AV) : FnOk Tryz.prog 102 [.nils, .nils, f] H fun r G => r = .bool true ∧ G = H := by
  refine FnOk.drop (R := fun r => r = .bool true) ?_ (by rintro v rfl ρ; rw [AV.ren])
  refine FnOk.of_WW Tryz.func102 rfl C102ok R102ok E0 good_E0 ?_
  simp only [go_sem, C102]
  refine LL.st good_E0 (fun _ : Unit => 0) (fun _ => True) (fun _ => [((.i (.o (.o (.o .z)))), .int .i64 0), ((.o (.i (.o (.o .z)))), .int .i64 0)]) (fun _ => []) ?_ () (σ := []) (Wk.of rfl (by decide) (by simp only [go_sem]; first | done | exact ⟨rfl, rfl, trivial⟩) (by simp only [go_sem])) trivial
  rintro _ _
  simp only [go_sem, C102L0]
  exact ⟨_, rfl⟩
theorem f100_ne {v : AV} {l : List Cell} (hB : Arr H 5 v (l.map Cell.enc)) (hl : l.length = 1) : FnOk Tryz.prog 100 [.nils, v] H fun r G => r = .bool false ∧ G = H := by
  refine FnOk.drop (R := fun r => r = .bool false) ?_ (by rintro v rfl ρ; rw [AV.ren])
  refine FnOk.of_WW Tryz.func100 rfl C100ok R100ok E0 good_E0 ?_
  have hlen := fun G => hB.len G
  simp only [List.length_map, hl] at hlen
  simp only [go_sem, C100, hlen]
  exact ⟨_, rfl⟩
theorem f52_ne {s : Sh} (h : s.ok H) (h1 : s.id = 1) (h2 : s.ep = 1) (h3 : s.fr = []) (h4 : s.to = []) (h5 : s.frz = false) (hl : s.cells.length = 1) : FnOk Tryz.prog 52 [.agg [.int .i64 1, .int .i64 1, .str [], .str [], .bool false, .nils, .nils, .nils], .agg s.enc] H fun r G => r = .bool false ∧ G = H := by
  refine FnOk.drop (R := fun r => r = .bool false) ?_ (by rintro v rfl ρ; rw [AV.ren])
  refine FnOk.of_WW Tryz.func52 rfl C52ok R52ok E0 good_E0 ?_
  simp only [go_sem, C52, Sh.enc, h1, h2, h3, h4, h5]
  refine CL.of (f100_ne (h.c.ext _) hl) ?_
  rintro _ _ ⟨rfl, rfl⟩
  simp only [go_sem]
  exact ⟨_, rfl⟩
theorem f52_nil : FnOk Tryz.prog 52 [.agg [.int .i64 1, .int .i64 1, .str [], .str [], .bool false, .nils, .nils, .nils], .agg [.int .i64 1, .int .i64 1, .str [], .str [], .bool false, .nils, .nils, .nils]] H fun r G => r = .bool true ∧ G = H := by
  refine FnOk.drop (R := fun r => r = .bool true) ?_ (by rintro v rfl ρ; rw [AV.ren])
  refine FnOk.of_WW Tryz.func52 rfl C52ok R52ok E0 good_E0 ?_
  simp only [go_sem, C52]
  refine CL.of f100_nil ?_
  rintro _ _ ⟨rfl, rfl⟩
  simp only [go_sem]
  refine CL.of f101_nil ?_
  rintro _ _ ⟨rfl, rfl⟩
  simp only [go_sem]
  refine CL.of (f102_nil _) ?_
  rintro _ _ ⟨rfl, rfl⟩
  simp only [go_sem]
  exact ⟨_, rfl⟩
end Go.Proofs
/- CutTells: walked. -/


set_option linter.all false
set_option linter.all false
set_option maxRecDepth 100000
namespace Go.Proofs
open Go Go.Ev
variable {H : Heap}

theorem sameSh.symm {a b : Sh} (h : sameSh a b) : sameSh b a := ⟨h.1.symm, h.2.1.symm, h.2.2.1.symm, h.2.2.2.1.symm, h.2.2.2.2.1.symm, h.2.2.2.2.2.1.symm, h.2.2.2.2.2.2.1.symm, h.2.2.2.2.2.2.2.symm⟩
theorem sameSh.trans {a b c : Sh} (h : sameSh a b) (g : sameSh b c) : sameSh a c := ⟨h.1.trans g.1, h.2.1.trans g.2.1, h.2.2.1.trans g.2.2.1, h.2.2.2.1.trans g.2.2.2.1, h.2.2.2.2.1.trans g.2.2.2.2.1, h.2.2.2.2.2.1.trans g.2.2.2.2.2.1, h.2.2.2.2.2.2.1.trans g.2.2.2.2.2.2.1, h.2.2.2.2.2.2.2.trans g.2.2.2.2.2.2.2⟩
theorem sameSh.refl (a : Sh) : sameSh a a := ⟨rfl, rfl, rfl, rfl, rfl, rfl, rfl, rfl⟩
end Go.Proofs
/- CutOnce: walked. -/


set_option linter.all false
set_option linter.all false
set_option maxRecDepth 100000
namespace Go.Proofs
open Go Go.Ev
variable {H : Heap}

/-- a state of the loop: the shard's lists lie at these places -/
def St4 (H : Heap) (k : Nat) (q : Nat × Sh) : Prop := q.1 ≤ k ∧ AtI q.1 q.2 ∧ q.2.cv = outV (H.key 1) 5 q.2.cells.length ∧ q.2.ev = outV (H.key 2) 4 q.2.evs.length ∧ q.2.dv = outV (H.key 3) 6 q.2.done.length
def bl4 (q : Nat × Sh) : List Blk := [.row true 8 [q.2.enc], outB 5 (q.2.cells.map Cell.enc), outB 4 (q.2.evs.map Evn.enc), outB 6 (q.2.done.map Dn.enc)]
theorem AtI.dok {i : Nat} {s : Sh} (h : AtI i s) (H : Heap) : allOk H s.done := by
  rw [h.done]
  split
  · exact fun d hd => absurd hd List.not_mem_nil
  · exact fun d hd => by rw [List.mem_singleton.1 hd]; exact putA_ok H _
theorem St4.ok {k : Nat} (hk : k ≤ 20) {q : Nat × Sh} (h : St4 H k q) {L : List Blk} (h1 : L[1]? = some (outB 5 (q.2.cells.map Cell.enc))) (h2 : L[2]? = some (outB 4 (q.2.evs.map Evn.enc))) (h3 : L[3]? = some (outB 6 (q.2.done.map Dn.enc))) : q.2.ok (H.ext L) where
  c := by rw [h.2.2.1]; exact arr_outV h1 (List.length_map ..)
  e := by rw [h.2.2.2.1]; exact arr_outV h2 (List.length_map ..)
  d := by rw [h.2.2.2.2]; exact arr_outV h3 (List.length_map ..)
  dok := h.2.1.dok _
  cl := by have := h.2.1.clen; omega
  el := by have := h.2.1.len; have := h.1; omega
  dl := by have := h.2.1.dlen; omega
theorem St4.next {k : Nat} {q : Nat × Sh} (h : St4 H k q) (hk : k ≤ 20) (hlt : q.1 < k) : St4 H k (q.1 + 1, askS q.2 [99] [118] 1 ((q.1 : Int) + 1) (H.key 1) (H.key 2) (H.key 3)) := by
  refine ⟨hlt, h.2.1.next (by omega) _ _ _, ?_, rfl, rfl⟩
  show outV _ 5 (refW _ _).length = outV _ 5 (keepC _ _).length
  rw [keepC_len]
theorem askS_ok {s : Sh} {G : Heap} {L : List Blk} {i j q : Nat} {k v : List Nat} {ses id : Int} (hc : (refW s.cells (nextC s.cells k v false)).length < 10000) (he : s.evs.length < 10000) (hd : (withD s.done ⟨ses, id, putA ((getL s.cells k).1.ver + 1)⟩).length < 10000) (hdok : allOk G s.done) (h1 : L[i]? = some (outB 5 ((askS s k v ses id .z .z .z).cells.map Cell.enc))) (h2 : L[j]? = some (outB 4 ((askS s k v ses id .z .z .z).evs.map Evn.enc))) (h3 : L[q]? = some (outB 6 ((askS s k v ses id .z .z .z).done.map Dn.enc))) : (askS s k v ses id (G.key i) (G.key j) (G.key q)).ok (G.ext L) where
  c := arr_outV h1 (by rw [List.length_map]; exact keepC_len _ _)
  e := arr_outV h2 (List.length_map ..)
  d := arr_outV h3 (List.length_map ..)
  dok := (withD_ok hdok (putA_ok G _)).ext L
  cl := by show (keepC _ _).length < _; rw [keepC_len]; omega
  el := by show (List.drop _ _).length < _; rw [List.length_drop, List.length_append]; show s.evs.length + 1 - _ < _; omega
  dl := by show (withD _ _).length < _; omega
end Go.Proofs
/- known of the laws of one shard: walked. -/


set_option linter.all false
set_option linter.all false
set_option maxRecDepth 100000
namespace Go.Proofs
open Go Go.Ev
variable {H : Heap}

theorem get_lit {bl : List Blk} {i : Nat} {x : Blk} (h : bl[i]? = some x) : (H.ext bl).get (H.key i) = some x := by
  rw [Heap.get_ext_key _ _ _ (List.getElem?_eq_some_iff.1 h).1]; exact h
/-- a shard with nothing in it -/
def s0 : Sh := ⟨1, 1, [], [], false, [], [], [], .nils, .nils, .nils⟩
theorem s0_ok (H : Heap) : s0.ok H := ⟨.inl ⟨rfl, rfl⟩, .inl ⟨rfl, rfl⟩, .inl ⟨rfl, rfl⟩, fun d hd => absurd hd List.not_mem_nil, Nat.lt_of_sub_eq_succ rfl, Nat.lt_of_sub_eq_succ rfl, Nat.lt_of_sub_eq_succ rfl⟩
theorem s0_sh : isSh s0 := ⟨⟨by decide, by decide, by decide, by decide⟩, k_span, fun c hc => absurd hc List.not_mem_nil, by decide, hist_nil, fun j h => absurd h (Nat.not_lt_zero _)⟩
theorem key_a : isKey [97] := ⟨by simp, by show (1 : Int) ≤ 8; decide⟩
theorem key_b : isKey [98] := ⟨by simp, by show (1 : Int) ≤ 8; decide⟩
noncomputable def kt (k0 k1 : K) : Sh := addS s0 (nextC s0.cells [97] [118] false) (nextE s0.cells [97] [118] false) k0 k1
theorem kt_cells (k0 k1 : K) : (kt k0 k1).cells = [⟨[97], [118], 1, false, 0⟩] := by
  show keepC _ (refW [] _) = _
  rw [refW_eq hist_nil.1]
  rfl
theorem kt_evs (k0 k1 : K) : (kt k0 k1).evs = [⟨[97], 1, [118], false⟩] := rfl
theorem kt_hist (k0 k1 : K) : isHist (kt k0 k1).evs (kt k0 k1).cells := by
  have := putS_hist (s := s0) hist_nil key_a (v := [118]) (by decide) (by decide)
  show isHist _ (keepC _ (refW [] _))
  rw [refW_eq hist_nil.1]
  exact this
theorem kt_ver (k0 k1 : K) : (getL (kt k0 k1).cells [97]).1.ver = 1 := by rw [kt_cells]; rfl
noncomputable def ku (k0 k1 k2 k3 k4 : K) : Sh := askS (kt k0 k1) [97] [119] 0 1 k2 k3 k4
theorem ku_cells (k0 k1 k2 k3 k4 : K) : (ku k0 k1 k2 k3 k4).cells = [⟨[97], [119], 2, false, 0⟩] := by
  show keepC _ (refW (kt k0 k1).cells _) = _
  rw [refW_eq (kt_hist k0 k1).1, kt_cells]
  show keepC (([⟨[97], 1, [118], false⟩] ++ [_] : List Evn).take 0) (withL [_] _) = _
  rw [List.take_zero, keepC_nil, withL, if_neg (show ¬ ltS (⟨[97], [118], 1, false, 0⟩ : Cell).key (nextC [⟨[97], [118], 1, false, 0⟩] [97] [119] false).key from ltS_irrefl _), if_pos (show (⟨[97], [118], 1, false, 0⟩ : Cell).key = (nextC [⟨[97], [118], 1, false, 0⟩] [97] [119] false).key from rfl)]
  rfl
theorem ku_evs (k0 k1 k2 k3 k4 : K) : (ku k0 k1 k2 k3 k4).evs = [⟨[97], 1, [118], false⟩, ⟨[97], 2, [119], false⟩] := by
  show ((kt k0 k1).evs ++ [nextE (kt k0 k1).cells [97] [119] false]).drop _ = _
  unfold nextE
  rw [kt_ver, kt_evs]
  rfl
theorem ku_done (k0 k1 k2 k3 k4 : K) : (ku k0 k1 k2 k3 k4).done = [⟨0, 1, putA 2⟩] := by
  show withD [] ⟨0, 1, putA ((getL (kt k0 k1).cells [97]).1.ver + 1)⟩ = _
  rw [kt_ver]
  rfl
theorem ku_hist (k0 k1 k2 k3 k4 : K) : isHist (ku k0 k1 k2 k3 k4).evs (ku k0 k1 k2 k3 k4).cells := askS_hist (kt_hist k0 k1) key_a (by decide) (by rw [kt_ver]; decide) ..
theorem ku_sh (k0 k1 k2 k3 k4 : K) : isSh (ku k0 k1 k2 k3 k4) := ⟨⟨by show (1 : Int) ≤ 1; decide, by show (1 : Int) ≤ _; decide, by show (1 : Int) ≤ 1; decide, by show (1 : Int) ≤ _; decide⟩, k_span, fun c hc => by
  rw [ku_cells] at hc
  rw [List.mem_singleton.1 hc]
  exact k_has 97, by rw [ku_evs]; decide, ku_hist .., by
  rw [ku_done]
  exact done_iff.2 ⟨fun c hc => by
    rw [List.mem_singleton.1 hc]
    exact ⟨⟨by show (0 : Int) ≤ 0; decide, by show (0 : Int) < 3; decide, by show (1 : Int) ≤ 1; decide, by show (1 : Int) ≤ 1000000000000; decide⟩, putA_is (by decide) (by decide)⟩, List.pairwise_singleton ..⟩⟩
theorem ku_tell : afterL [] [] [] 8 [⟨[97], 1, [118], false⟩, ⟨[97], 2, [119], false⟩] = [⟨[97], 1, [118], false⟩, ⟨[97], 2, [119], false⟩] := by
  have h : ∀ e ∈ [(⟨[97], 1, [118], false⟩ : Evn), ⟨[97], 2, [119], false⟩], tellE [] [] [] e := fun e he => by
    simp only [List.mem_cons, List.not_mem_nil, or_false] at he
    rcases he with rfl | rfl <;> exact ⟨k_has 97, by decide⟩
  unfold afterL tellL
  rw [List.filter_eq_self.2 fun e he => decide_eq_true (h e he)]
  rfl
theorem f18_ok : FnOk Tryz.prog 18 [] H fun r G => r = .bool true ∧ G = H := by
  refine FnOk.assume fun hok => ?_
  refine FnOk.drop (R := fun r => r = .bool true) ?_ (by rintro v rfl ρ; rw [AV.ren])
  refine FnOk.of_WW Tryz.func18 rfl C18ok R18ok E0 good_E0 ?_
  simp only [go_sem, C18]
  refine CL.of (f20_ok 1 1 [] []) ?_
  rintro _ G' ⟨rfl, hG⟩
  rw [hG]
  clear hG
  simp only [go_sem]
  refine CL.of (f21_put (s := s0) (ke := .z) (k := [97]) (v := [118]) (s0_ok _) rfl (by decide) (by decide) key_a (by decide) hist_nil (by decide)) ?_
  rintro _ G' ⟨rfl, hG⟩
  rw [hG]
  clear hG
  rw [show (getL s0.cells [97]).1.ver + 1 = (1 : Int) from rfl]
  obtain ⟨t, ht⟩ : ∃ t, t = kt (H.key 1) (H.key 2) := ⟨_, rfl⟩
  obtain ⟨B1, B2, hB⟩ : ∃ B1 B2, addB s0 (nextC s0.cells [97] [118] false) (nextE s0.cells [97] [118] false) = [B1, B2] := ⟨_, _, rfl⟩
  have hto : t.ok (H.ext ([.row true 8 [s0.enc]] ++ addB s0 (nextC s0.cells [97] [118] false) (nextE s0.cells [97] [118] false))) := by
    rw [ht]
    exact addS_ok (s0_ok H) (by show (refW [] _).length < 10000; rw [refW_eq hist_nil.1]; exact Nat.le_of_ble_eq_true rfl) (by decide) rfl rfl
  simp only [Heap.key_ext, List.length_cons, List.length_nil, Nat.zero_add, Nat.reduceAdd, Nat.add_zero]
  rw [show addS s0 (nextC s0.cells [97] [118] false) (nextE s0.cells [97] [118] false) (H.key 1) (H.key 2) = t from ht.symm]
  rw [hB] at hto ⊢
  rw [show ([.row true 8 [s0.enc]] ++ [B1, B2] : List Blk) = [.row true 8 [s0.enc]] ++ [B1, B2] from rfl, ← Heap.ext_append] at hto
  have tev : t.ev = outV (H.key 2) 4 t.evs.length := by rw [ht]; rfl
  have tevs := kt_evs (H.key 1) (H.key 2)
  have tcells := kt_cells (H.key 1) (H.key 2)
  have tver := kt_ver (H.key 1) (H.key 2)
  have thist := kt_hist (H.key 1) (H.key 2)
  have tdone : t.done = [] := by rw [ht]; rfl
  have tsc : t.id = 1 ∧ t.ep = 1 ∧ t.fr = [] ∧ t.to = [] ∧ t.frz = false := by rw [ht]; exact ⟨rfl, rfl, rfl, rfl, rfl⟩
  rw [← ht] at tevs tcells tver thist
  have h23 : ∀ G, t.ok G → FnOk Tryz.prog 23 [.agg t.enc, .int .i64 0, .int .i64 1, .agg [.int .i64 4, .str [97], .str [], .str [119], .int .i64 1, .nils]] G fun r G' => r = .tup [.agg (askS t [97] [119] 0 1 (G.key 0) (G.key 1) (G.key 2)).enc, .agg [.int .i64 0, .str [], .int .i64 2, .nils], .int .i64 0] ∧ G' = G.ext (askB t [97] [119] 0 1) := fun G hG => by
    have := f23_cas (H := G) (s := t) (ke := H.key 2) (k := [97]) (v := [119]) hG tev (by rw [tevs]; decide) (by rw [tcells]; decide) key_a (by decide) thist (by rw [tver]; decide) (by rw [tver]; decide) (by rw [tdone]; decide) (by rw [tdone]; exact .nil) (fun d hd => by rw [tdone] at hd; cases hd) (ses := 0) (id := 1) (by rw [tdone]; rfl)
    rw [tver] at this
    exact this
  obtain ⟨G1, hG1⟩ : ∃ G, G = (H.ext [.row true 8 [s0.enc]]).ext [B1, B2] := ⟨_, rfl⟩
  have hok1 : G1.ok := by rw [hG1]; exact Heap.ok_ext (Heap.ok_ext hok _) _
  have c0 : G1.get (H.key 0) = some (.row true 8 [s0.enc]) := by rw [hG1]; exact Heap.get_ext_old (Heap.ok_ext hok _) (get_lit rfl) _
  obtain ⟨L1, hL1⟩ : ∃ L, G1 = H.ext L := ⟨_, by rw [hG1, Heap.ext_append]⟩
  rw [← hG1] at hto
  rw [show (H.ext [.row true 8 [[.int .i64 1, .int .i64 1, .str [], .str [], .bool false, .nils, .nils, .nils]]]).ext [B1, B2] = G1 from hG1.symm]
  clear hG1 hB
  have c0' := Heap.get_ext_old hok1 c0
  refine WW.nil ?_
  simp only [go_sem, Sh.enc]
  refine CL.of (h23 _ (hto.ext _)) ?_
  rintro _ G' ⟨rfl, hG⟩
  rw [hG]
  clear hG
  have hua : (askS t [97] [119] 0 1 (G1.key 2) (G1.key 3) (G1.key 4)).ok (G1.ext ([.row true 8 [t.enc], .row true 4 [[.int .i64 0, .str [], .int .i64 1, .nils]]] ++ askB t [97] [119] 0 1)) :=
    askS_ok (by rw [refW_eq thist.1, tcells]; exact Nat.lt_of_le_of_lt (withL_len _ _) (Nat.le_of_ble_eq_true rfl)) (by rw [tevs]; exact Nat.le_of_ble_eq_true rfl) (Nat.lt_of_le_of_lt withD_len (by rw [tdone]; exact Nat.le_of_ble_eq_true rfl)) hto.dok rfl rfl rfl
  obtain ⟨B3, B4, B5, hB⟩ : ∃ B3 B4 B5, askB t [97] [119] 0 1 = [B3, B4, B5] := ⟨_, _, _, rfl⟩
  simp only [Heap.key_ext, List.length_cons, List.length_nil, Nat.zero_add, Nat.reduceAdd, Nat.add_zero]
  obtain ⟨u, hu⟩ : ∃ u, u = askS t [97] [119] 0 1 (G1.key 2) (G1.key 3) (G1.key 4) := ⟨_, rfl⟩
  have hku : u = ku (H.key 1) (H.key 2) (G1.key 2) (G1.key 3) (G1.key 4) := by rw [hu, ht]; rfl
  rw [hB] at hua ⊢
  rw [← hu] at hua ⊢
  obtain ⟨F2, hF2⟩ : ∃ G, G = (G1.ext [.row true 8 [t.enc], .row true 4 [[.int .i64 0, .str [], .int .i64 1, .nils]]]).ext [B3, B4, B5] := ⟨_, rfl⟩
  have hok2 : F2.ok := by rw [hF2]; exact Heap.ok_ext (Heap.ok_ext hok1 _) _
  have d0 : F2.get (H.key 0) = some (.row true 8 [s0.enc]) := by rw [hF2, Heap.ext_append]; exact c0' _
  have d1 : F2.get (G1.key 0) = some (.row true 8 [t.enc]) := by rw [hF2, Heap.ext_append]; exact get_lit rfl
  have d2 : F2.get (G1.key 1) = some (.row true 4 [[.int .i64 0, .str [], .int .i64 1, .nils]]) := by rw [hF2, Heap.ext_append]; exact get_lit rfl
  have hu2 : u.ok F2 := by rw [hF2, Heap.ext_append]; exact hua
  have ht2 : t.ok F2 := by rw [hF2]; exact (hto.ext _).ext _
  obtain ⟨L2, hL2⟩ : ∃ L, F2 = H.ext L := ⟨_, by rw [hF2, hL1, Heap.ext_append, Heap.ext_append]⟩
  rw [show (G1.ext [.row true 8 [[.int .i64 t.id, .int .i64 t.ep, .str t.fr, .str t.to, .bool t.frz, t.cv, t.ev, t.dv]], .row true 4 [[.int .i64 0, .str [], .int .i64 1, .nils]]]).ext [B3, B4, B5] = F2 from hF2.symm]
  clear hF2 hB hua
  have ucells := ku_cells (H.key 1) (H.key 2) (G1.key 2) (G1.key 3) (G1.key 4)
  have uevs := ku_evs (H.key 1) (H.key 2) (G1.key 2) (G1.key 3) (G1.key 4)
  have udone := ku_done (H.key 1) (H.key 2) (G1.key 2) (G1.key 3) (G1.key 4)
  have ush := ku_sh (H.key 1) (H.key 2) (G1.key 2) (G1.key 3) (G1.key 4)
  have usp : u.fr = [] ∧ u.to = [] := by rw [hku]; exact ⟨rfl, rfl⟩
  rw [← hku] at ucells uevs udone ush
  clear hku hu
  have d0' := Heap.get_ext_old hok2 d0
  have d1' := Heap.get_ext_old hok2 d1
  have d2' := Heap.get_ext_old hok2 d2
  refine WW.nil ?_
  simp only [go_sem, Sh.enc]
  refine CL.of (f23_stood (s := u) (hu2.ext _) (by rw [udone]; exact Nat.le_of_ble_eq_true rfl) (by rw [udone]; exact one_up _) (fun d hd => by rw [udone] at hd; rw [List.mem_singleton.1 hd]; rfl) (ses := 0) (id := 1) (by rw [udone]; decide) 1 [97] [] [] 0) ?_
  rintro _ G3 ⟨x, L3, rfl, hG3⟩
  rw [udone, show stands [⟨0, 1, putA 2⟩] 0 1 = (putA 2, 1) from rfl]
  have okF : (F2.ext [.row true 8 [u.enc], .row true 4 [[.int .i64 0, .str [], .int .i64 2, .nils]]]).ok := Heap.ok_ext hok2 _
  replace hG3 : G3 = (F2.ext [.row true 8 [u.enc], .row true 4 [[.int .i64 0, .str [], .int .i64 2, .nils]]]).ext L3 := hG3
  have hok3 : G3.ok := by rw [hG3]; exact Heap.ok_ext okF _
  have e0 : G3.get (H.key 0) = some (.row true 8 [s0.enc]) := by rw [hG3]; exact Heap.get_ext_old okF (d0' _) _
  have e1 : G3.get (G1.key 0) = some (.row true 8 [t.enc]) := by rw [hG3]; exact Heap.get_ext_old okF (d1' _) _
  have e2 : G3.get (G1.key 1) = some (.row true 4 [[.int .i64 0, .str [], .int .i64 1, .nils]]) := by rw [hG3]; exact Heap.get_ext_old okF (d2' _) _
  have e3 : G3.get (F2.key 0) = some (.row true 8 [u.enc]) := by rw [hG3]; exact Heap.get_ext_old okF (get_lit rfl) _
  have e4 : G3.get (F2.key 1) = some (.row true 4 [[.int .i64 0, .str [], .int .i64 2, .nils]]) := by rw [hG3]; exact Heap.get_ext_old okF (get_lit rfl) _
  have hu3 : u.ok G3 := by rw [hG3]; exact (hu2.ext _).ext _
  have ht3 : t.ok G3 := by rw [hG3]; exact (ht2.ext _).ext _
  obtain ⟨L4, hL4⟩ : ∃ L, G3 = H.ext L := ⟨_, by rw [hG3, hL2, Heap.ext_append, Heap.ext_append]⟩
  clear hG3 okF
  have e0' := Heap.get_ext_old hok3 e0
  have e1' := Heap.get_ext_old hok3 e1
  have e2' := Heap.get_ext_old hok3 e2
  have e3' := Heap.get_ext_old hok3 e3
  have e4' := Heap.get_ext_old hok3 e4
  refine WW.nil ?_
  simp only [go_sem, Sh.enc, putA, e3']
  refine CL.of (f25_ok (s := u) (hu3.ext _) usp.1 usp.2 (by rw [uevs]; decide) (by rw [ucells]; decide) (w := .nils) (seen := []) (.inl ⟨rfl, rfl⟩) (by decide) 9) ?_
  rintro r G5 ⟨y, L5, hG5, _, h2⟩
  have hnl : ¬ lateW [] [] [] u.cells := by
    rintro ⟨c, hc, hf⟩
    rw [ucells] at hc
    have hc := (List.mem_filter.1 hc).1
    rw [List.mem_singleton.1 hc] at hf
    revert hf
    decide
  obtain ⟨rfl, hy⟩ := h2 hnl
  rw [uevs, show (min (max (9 : Int) 0) 8).toNat = 8 from rfl, ku_tell] at hy
  have okF : (G3.ext [.row true 8 [u.enc], .row true 4 [[.int .i64 0, .str [], .int .i64 2, x]]]).ok := Heap.ok_ext hok3 _
  replace hG5 : G5 = (G3.ext [.row true 8 [u.enc], .row true 4 [[.int .i64 0, .str [], .int .i64 2, x]]]).ext L5 := hG5
  have hok5 : G5.ok := by rw [hG5]; exact Heap.ok_ext okF _
  have e0 : G5.get (H.key 0) = some (.row true 8 [s0.enc]) := by rw [hG5]; exact Heap.get_ext_old okF (e0' _) _
  have e1 : G5.get (G1.key 0) = some (.row true 8 [t.enc]) := by rw [hG5]; exact Heap.get_ext_old okF (e1' _) _
  have e2 : G5.get (G1.key 1) = some (.row true 4 [[.int .i64 0, .str [], .int .i64 1, .nils]]) := by rw [hG5]; exact Heap.get_ext_old okF (e2' _) _
  have e3 : G5.get (F2.key 0) = some (.row true 8 [u.enc]) := by rw [hG5]; exact Heap.get_ext_old okF (e3' _) _
  have e4 : G5.get (F2.key 1) = some (.row true 4 [[.int .i64 0, .str [], .int .i64 2, .nils]]) := by rw [hG5]; exact Heap.get_ext_old okF (e4' _) _
  have e5 : G5.get (G3.key 1) = some (.row true 4 [[.int .i64 0, .str [], .int .i64 2, x]]) := by rw [hG5]; exact Heap.get_ext_old okF (get_lit rfl) _
  have hu5 : u.ok G5 := by rw [hG5]; exact (hu3.ext _).ext _
  have ht5 : t.ok G5 := by rw [hG5]; exact (ht3.ext _).ext _
  obtain ⟨L6, hL6⟩ : ∃ L, G5 = H.ext L := ⟨_, by rw [hG5, hL4, Heap.ext_append, Heap.ext_append]⟩
  clear hG5 okF
  have e0' := Heap.get_ext_old hok5 e0
  have e1' := Heap.get_ext_old hok5 e1
  have e2' := Heap.get_ext_old hok5 e2
  have e3' := Heap.get_ext_old hok5 e3
  have e4' := Heap.get_ext_old hok5 e4
  have e5' := Heap.get_ext_old hok5 e5
  have hylen := fun G => hy.len G
  simp only [List.length_map, List.length_cons, List.length_nil] at hylen
  refine WW.nil ?_
  simp only [go_sem, Sh.enc, e3']
  refine CL.of (f21_get (s := u) (hu5.ext _) key_b) ?_
  rintro _ G' ⟨rfl, hG⟩
  rw [hG]
  clear hG
  rw [ucells, show getA (getL [⟨[97], [119], 2, false, 0⟩] [98]).1 = [.int .i64 14, .str [], .int .i64 0, .nils] from rfl]
  simp only [go_sem, Sh.enc, s0, e0']
  refine CL.bool (f22_ok (s := s0) (s0_ok _)) (fun _ => ?_) (fun g => absurd s0_sh g)
  simp only [go_sem, Sh.enc, e3']
  refine CL.bool (f22_ok (s := u) (hu5.ext _)) (fun _ => ?_) (fun g => absurd ush g)
  simp only [go_sem, Sh.enc, s0, e0', e1', e2', e4', e5', hylen]
  refine CL.of (f52_ne (s := t) (ht5.ext _) tsc.1 tsc.2.1 tsc.2.2.1 tsc.2.2.2.1 tsc.2.2.2.2 (by rw [tcells]; rfl)) ?_
  rintro _ G' ⟨rfl, hG⟩
  rw [hG]
  clear hG
  simp only [go_sem, Sh.enc, s0, e0']
  refine CL.of f52_nil ?_
  rintro _ G' ⟨rfl, hG⟩
  rw [hG]
  clear hG
  rw [hL6]
  simp only [go_sem]
  exact ⟨_, rfl⟩
end Go.Proofs
/- puts of one key: the plain law, the oracle. -/

set_option linter.all false
set_option linter.all false
set_option maxRecDepth 100000
namespace Go.Proofs
open Go Go.Ev
variable {H : Heap}

theorem key_k : isKey [107] := ⟨by simp, by show (1 : Int) ≤ 8; decide⟩
def eK (j : Nat) : Evn := ⟨[107], (j : Int) + 1, [118], false⟩
def evK (i : Nat) : List Evn := (List.range i).map eK
def cellK (i : Nat) : Cell := ⟨[107], [118], i, false, ((i - 24 : Nat) : Int)⟩
theorem evK_succ (i : Nat) : evK (i + 1) = evK i ++ [eK i] := by unfold evK; rw [List.range_succ, List.map_append]; rfl
theorem evK_len (i : Nat) : (evK i).length = i := by unfold evK; rw [List.length_map, List.length_range]
theorem evK_at {i j : Nat} (h : j < (evK i).length) : (evK i)[j] = eK j := by
  have h2 : (evK i)[j]? = some (eK j) := by
    unfold evK
    rw [List.getElem?_map, List.getElem?_range (by rw [evK_len] at h; exact h)]
    rfl
  exact (List.getElem?_eq_some_iff.1 h2).2
/-- the shard behind so many puts of one key -/
structure AtK (i : Nat) (s : Sh) : Prop where
  hd : s.id = 1 ∧ s.ep = 1 ∧ s.fr = [] ∧ s.to = [] ∧ s.frz = false
  hist : isHist s.evs s.cells
  evs : s.evs = (evK i).drop (i - 24)
  cells : s.cells = if i = 0 then [] else [cellK i]
  done : s.done = []
theorem AtK.get {i : Nat} {s : Sh} (h : AtK i s) : (getL s.cells [107]).1.ver = i ∧ (getL s.cells [107]).1.floor = ((i - 24 : Nat) : Int) := by
  rw [h.cells]
  by_cases hi : i = 0
  · subst hi; exact ⟨rfl, rfl⟩
  · rw [if_neg hi]; exact ⟨rfl, rfl⟩
theorem AtK.elen {i : Nat} {s : Sh} (h : AtK i s) : s.evs.length = min i 24 := by rw [h.evs, List.length_drop, evK_len]; omega
theorem AtK.clen {i : Nat} {s : Sh} (h : AtK i s) : s.cells.length ≤ 1 := by rw [h.cells]; split <;> exact Nat.le_of_ble_eq_true rfl
theorem AtK.withL {i : Nat} {s : Sh} (h : AtK i s) {c : Cell} (hc : c.key = [107]) : withL s.cells c = [c] := by
  rw [h.cells]
  by_cases hi : i = 0
  · rw [if_pos hi]; rfl
  · rw [if_neg hi, Go.Proofs.withL, if_neg (show ¬ ltS (cellK i).key c.key by rw [hc]; exact ltS_irrefl _), if_pos (show (cellK i).key = c.key from hc.symm)]
theorem AtK.first : AtK 0 s0 := ⟨⟨rfl, rfl, rfl, rfl, rfl⟩, hist_nil, rfl, rfl, rfl⟩
theorem AtK.next {i : Nat} {s : Sh} (h : AtK i s) (hi : i < 1000) (k0 k1 : K) : AtK (i + 1) (addS s (nextC s.cells [107] [118] false) (nextE s.cells [107] [118] false) k0 k1) := by
  have hE : nextE s.cells [107] [118] false = eK i := by unfold nextE eK; rw [h.get.1]
  have hC : nextC s.cells [107] [118] false = ⟨[107], [118], (i : Int) + 1, false, ((i - 24 : Nat) : Int)⟩ := by unfold nextC; rw [h.get.1, h.get.2]
  have hW : refW s.cells (nextC s.cells [107] [118] false) = [⟨[107], [118], (i : Int) + 1, false, ((i - 24 : Nat) : Int)⟩] := by rw [refW_eq h.hist.1, hC, h.withL rfl]
  have hl : (s.evs ++ [eK i]).length - 24 = min i 24 + 1 - 24 := by rw [List.length_append, h.elen]; rfl
  have hD : (s.evs ++ [eK i]).drop ((s.evs ++ [eK i]).length - 24) = (evK (i + 1)).drop (i + 1 - 24) := by
    rw [hl, h.evs, evK_succ, ← List.drop_append_of_le_length (by rw [evK_len]; omega), List.drop_drop]
    congr 1
    omega
  refine ⟨h.hd, ?_, ?_, ?_, h.done⟩
  · have := putS_hist h.hist key_k (v := [118]) (by decide) (by rw [h.get.1]; omega)
    show isHist _ (keepC _ (refW s.cells _))
    rw [refW_eq h.hist.1]
    exact this
  · show (s.evs ++ [nextE s.cells [107] [118] false]).drop _ = _
    rw [hE, hD]
  · show keepC ((s.evs ++ [nextE s.cells [107] [118] false]).take ((s.evs ++ [nextE s.cells [107] [118] false]).length - 24)) (refW s.cells (nextC s.cells [107] [118] false)) = _
    rw [hW, hE, hl, if_neg (by omega)]
    by_cases h24 : i < 24
    · rw [show min i 24 + 1 - 24 = 0 by omega, List.take_zero, keepC_nil, show i - 24 = 0 by omega]
      unfold cellK
      rw [show i + 1 - 24 = 0 by omega]
      rfl
    · have hne : ∃ l, s.evs = eK (i - 24) :: l := by
        rw [h.evs]
        have hlt : i - 24 < (evK i).length := by rw [evK_len]; omega
        refine ⟨(evK i).drop (i - 24 + 1), (List.drop_eq_getElem_cons hlt).trans ?_⟩
        rw [evK_at hlt]
      obtain ⟨l, hl2⟩ := hne
      rw [show min i 24 + 1 - 24 = 1 by omega, hl2]
      show [flo (eK (i - 24)) ⟨[107], [118], (i : Int) + 1, false, ((i - 24 : Nat) : Int)⟩] = _
      rw [show flo (eK (i - 24)) (⟨[107], [118], (i : Int) + 1, false, ((i - 24 : Nat) : Int)⟩ : Cell) = ⟨[107], [118], (i : Int) + 1, false, max ((i - 24 : Nat) : Int) (((i - 24 : Nat) : Int) + 1)⟩ from if_pos rfl]
      unfold cellK
      rw [show max ((i - 24 : Nat) : Int) (((i - 24 : Nat) : Int) + 1) = ((i + 1 - 24 : Nat) : Int) by omega]
      rfl
def A21 (H : Heap) (args : List AV) (q : Sh × List Nat × List Nat) : Prop := ∃ ke, args = [.agg q.1.enc, .agg [.int .i64 2, .str q.2.1, .str [], .str q.2.2, .int .i64 0, .nils]] ∧ q.1.ok H ∧ q.1.ev = outV ke 4 q.1.evs.length ∧ q.1.evs.length < 9000 ∧ q.1.cells.length < 9000 ∧ isKey q.2.1 ∧ (q.2.2.length : Int) ≤ 12 ∧ isHist q.1.evs q.1.cells ∧ (getL q.1.cells q.2.1).1.ver < 1000000000000
noncomputable def EK (f : FuncId) (args : List AV) (H : Heap) : RC :=
  match f with
  | 21 => ot (A21 H args) fun q => .ok (.tup [.agg (addS q.1 (nextC q.1.cells q.2.1 q.2.2 false) (nextE q.1.cells q.2.1 q.2.2 false) (H.key 0) (H.key 1)).enc, .agg [.int .i64 0, .str [], .int .i64 ((getL q.1.cells q.2.1).1.ver + 1), .nils]]) (H.ext (addB q.1 (nextC q.1.cells q.2.1 q.2.2 false) (nextE q.1.cells q.2.1 q.2.2 false)))
  | 24 => match args with | [.str k, .str v] => .ok (.agg [.int .i64 2, .str k, .str [], .str v, .int .i64 0, .nils]) H | _ => .fail
  | _ => .fail
end Go.Proofs
/- requests that come again, of one key: the oracle. -/

set_option linter.all false
set_option linter.all false
set_option maxRecDepth 100000
namespace Go.Proofs
open Go Go.Ev
variable {H : Heap}

theorem f66_nil {v : AV} {l : List Dn} (hA : Arr H 6 v (l.map Dn.enc)) (ha : allOk H l) (hl : l.length < 9223372036854775807) (hup : upD l) (hr : ∀ d ∈ l, d.an.rv = .nils ∧ d.an.rows = []) (s id : Int) :
    FnOk Tryz.prog 66 [v, .int .i64 s, .int .i64 id] H fun r G => r = .tup [.agg [.int .i64 (stands l s id).1.code, .str (stands l s id).1.val, .int .i64 (stands l s id).1.ver, .nils], .int .i64 (stands l s id).2] ∧ G = H := by
  refine FnOk.assume fun hok => ?_
  refine FnOk.drop (R := fun r => r = .tup [.agg [.int .i64 (stands l s id).1.code, .str (stands l s id).1.val, .int .i64 (stands l s id).1.ver, .nils], .int .i64 (stands l s id).2]) ?_ (by rintro v rfl ρ; simp only [AV.ren, AV.rens])
  refine FnOk.of_WW Tryz.func66 rfl C66ok R66ok E0 good_E0 ?_
  have hlen := fun G => hA.len G; simp only [List.length_map] at hlen; have hren := hA.ren
  simp only [go_sem, C66, hlen]
  refine LL.st good_E0 (fun i : Nat => l.length - i) (fun i => i ≤ l.length ∧ ∀ j d, j < i → l[j]? = some d → ¬ (d.ses = s ∧ id ≤ d.id))
    (fun i => [((.o .z), .int .i64 s), ((.i .z), .int .i64 id), ((.i (.i .z)), .ptr (H.key 0) 0), ((.i (.i (.o .z))), v), ((.o (.o (.i .z))), .int .i64 l.length), ((.i (.o (.i .z))), .int .i64 i)])
    (fun i => [.row true 4 [[.int .i64 0, .str [], .int .i64 0, .nils]]]) ?_ 0 (σ := [0]) (Wk.of rfl (by decide) (by simp only [go_sem, hren]) (by simp only [go_sem])) ⟨Nat.zero_le _, fun j d h => absurd h (Nat.not_lt_zero _)⟩
  rintro i ⟨hi, hno⟩
  by_cases hlt : i < l.length
  · obtain ⟨kk, r, ex', cap', wr, rows, hv, hrho, hgo, hrow⟩ := hA.at hok (j := i) (by rw [List.length_map]; exact hlt); simp only [List.length_map, List.getElem_map] at hv hrow; cases hv; have hget : l[i]? = some l[i] := List.getElem?_eq_getElem hlt; generalize l[i] = c at hrow hget; have hw := wrap_succ (n := i) (by omega); have hci : (i : Int) < (l.length : Int) := (by omega); have hsi : i + 1 ≤ l.length := (by omega)
    have hrv := (hr c (List.mem_of_getElem? hget)).1
    simp only [go_sem, C66L0, hci, hsi, hgo, hrow, hw, Dn.enc, hrv]
    have hfind : c.ses = s → findD l s = some c := fun h => by subst h; exact findD_at hup (List.mem_of_getElem? hget)
    have hnext : ¬ (c.ses = s ∧ id ≤ c.id) → ∀ j d, j < i + 1 → l[j]? = some d → ¬ (d.ses = s ∧ id ≤ d.id) := fun hc j d hj hd => by
      rcases Nat.lt_or_ge j i with h | h
      · exact hno j d h hd
      · obtain rfl : j = i := by omega
        rw [hget] at hd; cases hd; exact hc
    refine ⟨fun g => ?_, fun g => ⟨fun g2 => ?_, fun g2 => ⟨fun g3 => ?_, fun g3 => ?_⟩⟩⟩
    · exact ⟨i + 1, by show l.length - (i + 1) < l.length - i; omega, ⟨by omega, hnext fun h => g h.1⟩, _, [0], rfl, Wk.of rfl (by decide) (by simp only [go_sem, hren, hrho, hw]) (by simp only [go_sem])⟩
    · exact ⟨i + 1, by show l.length - (i + 1) < l.length - i; omega, ⟨by omega, hnext fun h => by omega⟩, _, [0], rfl, Wk.of rfl (by decide) (by simp only [go_sem, hren, hrho, hw]) (by simp only [go_sem])⟩
    · have hst : stands l s id = (c.an, 1) := by rw [stands_some (hfind (Classical.not_not.1 g)), if_neg g2, if_pos g3]
      refine CL.of (clone_n clo55 (xs := []) (n := 0) rfl (fun _ => rfl) (.inl ⟨rfl, rfl⟩) (by decide) (fun _ _ => rfl)) ?_
      rintro _ _ ⟨rfl, rfl⟩
      simp only [go_sem]
      rw [hst]
      exact ⟨rfl, _, rfl⟩
    · have hst : stands l s id = (zeroA, 2) := by rw [stands_some (hfind (Classical.not_not.1 g)), if_neg g2, if_neg g3]
      rw [hst]
      exact ⟨rfl, _, rfl⟩
  · have hci : ¬ (i : Int) < (l.length : Int) := by omega
    simp only [go_sem, C66L0, hci]
    have hst : stands l s id = (zeroA, 0) := by
      cases hf : findD l s with
      | none => rw [stands_none hf]
      | some d =>
        obtain ⟨h1, h2⟩ := findD_mem hf
        obtain ⟨j, hj⟩ := List.mem_iff_getElem?.1 h1
        have := hno j d (by have := (List.getElem?_eq_some_iff.1 hj).1; omega) hj
        rw [stands_some hf, if_pos (by omega)]
    rw [hst]
    exact ⟨rfl, _, rfl⟩
theorem f23_again {s : Sh} (h : s.ok H) (hdl : s.done.length < 9000) (hup : upD s.done) (hrw : ∀ d ∈ s.done, d.an.rv = .nils ∧ d.an.rows = []) {ses id : Int} (hn : 0 < (stands s.done ses id).2) (k : Int) (a b c : List Nat) (n : Int) :
    FnOk Tryz.prog 23 [.agg s.enc, .int .i64 ses, .int .i64 id, .agg [.int .i64 k, .str a, .str b, .str c, .int .i64 n, .nils]] H fun r G => r = .tup [.agg s.enc, .agg [.int .i64 (stands s.done ses id).1.code, .str (stands s.done ses id).1.val, .int .i64 (stands s.done ses id).1.ver, .nils], .int .i64 (stands s.done ses id).2] ∧ G = H := by
  refine FnOk.dropOld (R := fun r => r = .tup [.agg s.enc, .agg [.int .i64 (stands s.done ses id).1.code, .str (stands s.done ses id).1.val, .int .i64 (stands s.done ses id).1.ver, .nils], .int .i64 (stands s.done ses id).2]) ?_ ?_
  · refine FnOk.of_WW Tryz.func23 rfl C23ok R23ok E0 good_E0 ?_
    have z1 := eq_true hn
    simp only [go_sem, C23, Sh.enc]
    refine CL.of (f66_nil (h.d.ext _) (h.dok.ext _) (by omega) hup hrw ses id) ?_
    rintro _ _ ⟨rfl, rfl⟩
    simp only [go_sem, z1]
    exact ⟨_, rfl⟩
  · rintro _ rfl top σ
    simp only [AV.ren, AV.rens, h.ren top σ]
def A23 (H : Heap) (args : List AV) (q : Bool × Sh × Int × List Nat) : Prop := args = [.agg q.2.1.enc, .int .i64 0, .int .i64 q.2.2.1, .agg [.int .i64 2, .str [107], .str [], .str q.2.2.2, .int .i64 0, .nils]] ∧ q.2.1.ok H ∧ q.2.1.done.length < 9000 ∧ upD q.2.1.done ∧ (∀ d ∈ q.2.1.done, d.an.rv = .nils ∧ d.an.rows = []) ∧ (q.1 = true → 0 < (stands q.2.1.done 0 q.2.2.1).2) ∧ (q.1 = false → (stands q.2.1.done 0 q.2.2.1).2 = 0 ∧ ∃ ke, q.2.1.ev = outV ke 4 q.2.1.evs.length ∧ q.2.1.evs.length < 9000 ∧ q.2.1.cells.length < 9000 ∧ (q.2.2.2.length : Int) ≤ 12 ∧ isHist q.2.1.evs q.2.1.cells ∧ (getL q.2.1.cells [107]).1.ver < 1000000000000)
noncomputable def r23 (H : Heap) (q : Bool × Sh × Int × List Nat) : RC := match q.1 with
  | true => .ok (.tup [.agg q.2.1.enc, .agg [.int .i64 (stands q.2.1.done 0 q.2.2.1).1.code, .str (stands q.2.1.done 0 q.2.2.1).1.val, .int .i64 (stands q.2.1.done 0 q.2.2.1).1.ver, .nils], .int .i64 (stands q.2.1.done 0 q.2.2.1).2]) H
  | false => .ok (.tup [.agg (askS q.2.1 [107] q.2.2.2 0 q.2.2.1 (H.key 0) (H.key 1) (H.key 2)).enc, .agg [.int .i64 0, .str [], .int .i64 ((getL q.2.1.cells [107]).1.ver + 1), .nils], .int .i64 0]) (H.ext (askB q.2.1 [107] q.2.2.2 0 q.2.2.1))
noncomputable def EU (f : FuncId) (args : List AV) (H : Heap) : RC :=
  match f with
  | 23 => ot (A23 H args) (r23 H)
  | 24 => match args with | [.str k, .str v] => .ok (.agg [.int .i64 2, .str k, .str [], .str v, .int .i64 0, .nils]) H | _ => .fail
  | _ => .fail
theorem good_EU : Ev.Good Tryz.prog EU := by
  intro f args H r G he φ w args' ha hw
  refine (?_ : FnOk Tryz.prog f args H fun v' G' => v' = r ∧ G' = G).one φ w args' ha hw
  unfold EU at he
  split at he
  · obtain ⟨⟨b, s, id, v⟩, ⟨rfl, h1, h2, h3, h4, h5, h6⟩, hz⟩ := ot_ok he
    clear he
    dsimp only at h1 h2 h3 h4 h5 h6
    cases b with
    | true =>
      cases hz
      exact f23_again h1 h2 h3 h4 (h5 rfl) _ _ _ _ _
    | false =>
      obtain ⟨g0, ke, g1, g2, g3, g4, g5, g6⟩ := h6 rfl
      cases hz
      exact f23_put h1 g1 g2 g3 key_k g4 g5 g6 h2 h3 (fun d hd => (h4 d hd).2) g0
  · split at he
    · cases he; exact f24_ok _ _
    · cases he
  · cases he
theorem e23_uniq {s s' : Sh} {id id' : Int} {v v' : List Nat} (h : s.ok H) (h' : s'.ok H) (he : ([.agg s.enc, .int .i64 0, .int .i64 id, .agg [.int .i64 2, .str [107], .str [], .str v, .int .i64 0, .nils]] : List AV) = [.agg s'.enc, .int .i64 0, .int .i64 id', .agg [.int .i64 2, .str [107], .str [], .str v', .int .i64 0, .nils]]) : s' = s ∧ id' = id ∧ v' = v := by
  injection he with h1 h2
  injection h2 with _ h2
  injection h2 with h2 h3
  injection h3 with h3 _
  injection h1 with h1
  injection h2 with _ h2
  injection h3 with h3
  injection h3 with _ h3
  injection h3 with _ h3
  injection h3 with _ h3
  injection h3 with h3 _
  injection h3 with h3
  exact ⟨(Sh.uniq h1 h h').symm, h2.symm, h3.symm⟩
theorem e23t {s : Sh} {L : List Blk} (h : s.ok (H.ext L)) (hdl : s.done.length < 9000) (hup : upD s.done) (hrw : ∀ d ∈ s.done, d.an.rv = .nils ∧ d.an.rows = []) {id : Int} (hn : 0 < (stands s.done 0 id).2) (v : List Nat) :
    EU 23 [.agg [.int .i64 s.id, .int .i64 s.ep, .str s.fr, .str s.to, .bool s.frz, s.cv, s.ev, s.dv], .int .i64 0, .int .i64 id, .agg [.int .i64 2, .str [107], .str [], .str v, .int .i64 0, .nils]] (H.ext L) = .ok (.tup [.agg [.int .i64 s.id, .int .i64 s.ep, .str s.fr, .str s.to, .bool s.frz, s.cv, s.ev, s.dv], .agg [.int .i64 (stands s.done 0 id).1.code, .str (stands s.done 0 id).1.val, .int .i64 (stands s.done 0 id).1.ver, .nils], .int .i64 (stands s.done 0 id).2]) (H.ext L) := by
  show ot (A23 (H.ext L) [.agg s.enc, .int .i64 0, .int .i64 id, .agg [.int .i64 2, .str [107], .str [], .str v, .int .i64 0, .nils]]) (r23 (H.ext L)) = _
  rw [ot_eq (p := A23 (H.ext L) [.agg s.enc, .int .i64 0, .int .i64 id, .agg [.int .i64 2, .str [107], .str [], .str v, .int .i64 0, .nils]]) (x := (true, s, id, v)) ⟨rfl, h, hdl, hup, hrw, fun _ => hn, fun h => absurd h.symm Bool.false_ne_true⟩]
  · rfl
  rintro ⟨b, s', id', v'⟩ ⟨h1, h2, _, _, _, _, h6⟩
  obtain ⟨rfl, rfl, rfl⟩ := e23_uniq h h2 h1
  cases b with
  | true => rfl
  | false =>
    have g1 : (stands s'.done 0 id').2 = 0 := (h6 rfl).1
    have g2 : 0 < (stands s'.done 0 id').2 := hn
    omega
theorem e23f {s : Sh} {L : List Blk} (h : s.ok (H.ext L)) (hdl : s.done.length < 9000) (hup : upD s.done) (hrw : ∀ d ∈ s.done, d.an.rv = .nils ∧ d.an.rows = []) {id : Int} (hn : (stands s.done 0 id).2 = 0) {ke : K} (hev : s.ev = outV ke 4 s.evs.length) (hel : s.evs.length < 9000) (hcl : s.cells.length < 9000) {v : List Nat} (hv : (v.length : Int) ≤ 12) (hI : isHist s.evs s.cells) (hm : (getL s.cells [107]).1.ver < 1000000000000) :
    EU 23 [.agg [.int .i64 s.id, .int .i64 s.ep, .str s.fr, .str s.to, .bool s.frz, s.cv, s.ev, s.dv], .int .i64 0, .int .i64 id, .agg [.int .i64 2, .str [107], .str [], .str v, .int .i64 0, .nils]] (H.ext L) = .ok (.tup [.agg (askS s [107] v 0 id (H.key L.length) (H.key (L.length + 1)) (H.key (L.length + 2))).enc, .agg [.int .i64 0, .str [], .int .i64 ((getL s.cells [107]).1.ver + 1), .nils], .int .i64 0]) (H.ext (L ++ askB s [107] v 0 id)) := by
  show ot (A23 (H.ext L) [.agg s.enc, .int .i64 0, .int .i64 id, .agg [.int .i64 2, .str [107], .str [], .str v, .int .i64 0, .nils]]) (r23 (H.ext L)) = _
  rw [ot_eq (p := A23 (H.ext L) [.agg s.enc, .int .i64 0, .int .i64 id, .agg [.int .i64 2, .str [107], .str [], .str v, .int .i64 0, .nils]]) (x := (false, s, id, v)) ⟨rfl, h, hdl, hup, hrw, fun h => absurd h Bool.false_ne_true, fun _ => ⟨hn, ke, hev, hel, hcl, hv, hI, hm⟩⟩]
  · show RC.ok _ _ = _
    rw [Heap.key_ext, Heap.key_ext, Heap.key_ext, Heap.ext_append]
    rfl
  rintro ⟨b, s', id', v'⟩ ⟨h1, h2, _, _, _, h5, _⟩
  obtain ⟨rfl, rfl, rfl⟩ := e23_uniq h h2 h1
  cases b with
  | false => rfl
  | true =>
    have g1 : 0 < (stands s'.done 0 id').2 := h5 rfl
    have g2 : (stands s'.done 0 id').2 = 0 := hn
    omega
theorem e24u (k v : List Nat) (H : Heap) : EU 24 [.str k, .str v] H = .ok (.agg [.int .i64 2, .str k, .str [], .str v, .int .i64 0, .nils]) H := rfl
end Go.Proofs
/- requests of one key, done once: the plain law. -/

set_option linter.all false
set_option linter.all false
set_option maxRecDepth 100000
namespace Go.Proofs
open Go Go.Ev
variable {H : Heap}

def cellO (i : Nat) : Cell := ⟨[107], [97 + i], i, false, 0⟩
/-- the shard behind so many requests of one key -/
structure AtO (i : Nat) (s : Sh) : Prop where
  hd : s.id = 1 ∧ s.ep = 1 ∧ s.fr = [] ∧ s.to = [] ∧ s.frz = false
  hist : isHist s.evs s.cells
  len : s.evs.length = i
  cells : s.cells = if i = 0 then [] else [cellO i]
  done : s.done = if i = 0 then [] else [⟨0, i, putA i⟩]
theorem AtO.get {i : Nat} {s : Sh} (h : AtO i s) : (getL s.cells [107]).1.ver = i ∧ (getL s.cells [107]).1.floor = 0 := by
  rw [h.cells]
  by_cases hi : i = 0
  · subst hi; exact ⟨rfl, rfl⟩
  · rw [if_neg hi]; exact ⟨rfl, rfl⟩
theorem AtO.withL {i : Nat} {s : Sh} (h : AtO i s) {c : Cell} (hc : c.key = [107]) : withL s.cells c = [c] := by
  rw [h.cells]
  by_cases hi : i = 0
  · rw [if_pos hi]; rfl
  · rw [if_neg hi, Go.Proofs.withL, if_neg (show ¬ ltS (cellO i).key c.key by rw [hc]; exact ltS_irrefl _), if_pos (show (cellO i).key = c.key from hc.symm)]
theorem AtO.fresh {i : Nat} {s : Sh} (h : AtO i s) : (stands s.done 0 ((i : Int) + 1)).2 = 0 := by
  rw [h.done]
  by_cases hi : i = 0
  · rw [if_pos hi]; rfl
  · rw [if_neg hi]
    show (if (i : Int) < (i : Int) + 1 then ((zeroA, 0) : An × Int) else _).2 = 0
    rw [if_pos (by omega)]
theorem AtO.up {i : Nat} {s : Sh} (h : AtO i s) : upD s.done := by
  rw [h.done]
  split
  · exact .nil
  · exact List.pairwise_singleton ..
theorem AtO.rows {i : Nat} {s : Sh} (h : AtO i s) : ∀ d ∈ s.done, d.an.rv = .nils ∧ d.an.rows = [] := by
  rw [h.done]
  split
  · exact fun d hd => absurd hd List.not_mem_nil
  · exact fun d hd => by rw [List.mem_singleton.1 hd]; exact ⟨rfl, rfl⟩
theorem AtO.dok {i : Nat} {s : Sh} (h : AtO i s) (H : Heap) : allOk H s.done := by
  rw [h.done]
  split
  · exact fun d hd => absurd hd List.not_mem_nil
  · exact fun d hd => by rw [List.mem_singleton.1 hd]; exact putA_ok H _
theorem AtO.dlen {i : Nat} {s : Sh} (h : AtO i s) : s.done.length ≤ 1 := by rw [h.done]; split <;> exact Nat.le_of_ble_eq_true rfl
theorem AtO.clen {i : Nat} {s : Sh} (h : AtO i s) : s.cells.length ≤ 1 := by rw [h.cells]; split <;> exact Nat.le_of_ble_eq_true rfl
theorem AtO.first : AtO 0 s0 := ⟨⟨rfl, rfl, rfl, rfl, rfl⟩, hist_nil, rfl, rfl, rfl⟩
theorem AtO.next {i : Nat} {s : Sh} (h : AtO i s) (hi : i < 24) (k0 k1 k2 : K) : AtO (i + 1) (askS s [107] [97 + (i + 1)] 0 ((i : Int) + 1) k0 k1 k2) where
  hd := h.hd
  hist := askS_hist (v := [97 + (i + 1)]) h.hist key_k (show (1 : Int) ≤ 12 by decide) (by rw [h.get.1]; omega) ..
  len := by
    show ((s.evs ++ [nextE s.cells [107] [97 + (i + 1)] false]).drop ((s.evs ++ [nextE s.cells [107] [97 + (i + 1)] false]).length - 24)).length = _
    rw [List.length_drop, List.length_append, h.len]
    show i + 1 - (i + 1 - 24) = i + 1
    omega
  cells := by
    show keepC ((s.evs ++ [nextE s.cells [107] [97 + (i + 1)] false]).take ((s.evs ++ [nextE s.cells [107] [97 + (i + 1)] false]).length - 24)) (refW s.cells (nextC s.cells [107] [97 + (i + 1)] false)) = _
    rw [show (s.evs ++ [nextE s.cells [107] [97 + (i + 1)] false]).length - 24 = 0 by rw [List.length_append, h.len]; show i + 1 - 24 = 0; omega, List.take_zero, keepC_nil, refW_eq h.hist.1, h.withL rfl, if_neg (by omega)]
    unfold nextC cellO
    rw [h.get.1, h.get.2]
    rfl
  done := by
    show withD s.done ⟨0, (i : Int) + 1, putA ((getL s.cells [107]).1.ver + 1)⟩ = _
    rw [h.get.1, h.done]
    by_cases hz : i = 0
    · subst hz; rfl
    · rw [if_neg hz, withD_one 0 (show (i : Int) ≤ (i : Int) + 1 by omega)]
      rfl
end Go.Proofs
/- ShardSets: walked. -/

set_option linter.all false
set_option linter.all false
set_option maxRecDepth 100000
namespace Go.Proofs
open Go Go.Ev
variable {H : Heap}

/-- a state of the loop of puts: where the shard's lists lie -/
def St8 (H : Heap) (k : Nat) (q : Nat × Sh) : Prop := q.1 ≤ k ∧ AtK q.1 q.2 ∧ q.2.cv = outV (H.key 1) 5 q.2.cells.length ∧ q.2.ev = outV (H.key 2) 4 q.2.evs.length ∧ q.2.dv = .nils
theorem St8.ok {k : Nat} (hk : k ≤ 60) {q : Nat × Sh} (h : St8 H k q) {L : List Blk} (h1 : L[1]? = some (outB 5 (q.2.cells.map Cell.enc))) (h2 : L[2]? = some (outB 4 (q.2.evs.map Evn.enc))) : q.2.ok (H.ext L) where
  c := by rw [h.2.2.1]; exact arr_outV h1 (List.length_map ..)
  e := by rw [h.2.2.2.1]; exact arr_outV h2 (List.length_map ..)
  d := .inl ⟨h.2.2.2.2, by rw [h.2.1.done]; rfl⟩
  dok := fun d hd => by rw [h.2.1.done] at hd; cases hd
  cl := by have := h.2.1.clen; omega
  el := by have := h.2.1.elen; omega
  dl := by rw [h.2.1.done]; exact Nat.lt_of_sub_eq_succ rfl
theorem St8.next {k : Nat} {q : Nat × Sh} (h : St8 H k q) (hk : k ≤ 60) (hlt : q.1 < k) : St8 H k (q.1 + 1, addS q.2 (nextC q.2.cells [107] [118] false) (nextE q.2.cells [107] [118] false) (H.key 1) (H.key 2)) := by
  refine ⟨hlt, h.2.1.next (by omega) _ _, ?_, rfl, h.2.2.2.2⟩
  show outV _ 5 (refW _ _).length = outV _ 5 (keepC _ _).length
  rw [keepC_len]
/-- a state of the loop of sets by version -/
structure St9 (H : Heap) (k M : Nat) (q : Nat × Sh) : Prop where
  le : q.1 ≤ M + 1
  a : q.1 = 0 → (getL q.2.cells [107]).1.ver = k ∧ q.2.evs.length ≤ 9 ∧ q.2.cells.length ≤ 1
  b : 0 < q.1 → (getL q.2.cells [107]).1.ver = (k : Int) + 1 ∧ (getL q.2.cells [107]).1.value = [97] ∧ (getL q.2.cells [107]).1.del = false
  hist : isHist q.2.evs q.2.cells
  cl : q.2.cells.length ≤ 5
  el : q.2.evs.length ≤ 30
  dn : q.2.done = []
  cv : q.2.cv = outV (H.key 1) 5 q.2.cells.length
  ev : q.2.ev = outV (H.key 2) 4 q.2.evs.length
  dv : q.2.dv = .nils
theorem St9.ok {k M : Nat} {q : Nat × Sh} (h : St9 H k M q) {L : List Blk} (h1 : L[1]? = some (outB 5 (q.2.cells.map Cell.enc))) (h2 : L[2]? = some (outB 4 (q.2.evs.map Evn.enc))) : q.2.ok (H.ext L) where
  c := by rw [h.cv]; exact arr_outV h1 (List.length_map ..)
  e := by rw [h.ev]; exact arr_outV h2 (List.length_map ..)
  d := .inl ⟨h.dv, by rw [h.dn]; rfl⟩
  dok := fun d hd => by rw [h.dn] at hd; cases hd
  cl := by have := h.cl; omega
  el := by have := h.el; omega
  dl := by rw [h.dn]; exact Nat.lt_of_sub_eq_succ rfl
theorem St9.first {k M : Nat} {s : Sh} (h : St9 H k M (0, s)) (hk : k ≤ 9) : St9 H k M (1, addS s (nextC s.cells [107] [97] false) (nextE s.cells [107] [97] false) (H.key 1) (H.key 2)) := by
  obtain ⟨h1, h2, h3⟩ := h.a rfl
  have hI : isHist s.evs s.cells := h.hist
  have h2 : s.evs.length ≤ 9 := h2
  have h3 : s.cells.length ≤ 1 := h3
  have h1 : (getL s.cells [107]).1.ver = k := h1
  have hl : (s.evs ++ [nextE s.cells [107] [97] false]).length - 24 = 0 := by rw [List.length_append]; show s.evs.length + 1 - 24 = 0; omega
  have hc : keepC ((s.evs ++ [nextE s.cells [107] [97] false]).take ((s.evs ++ [nextE s.cells [107] [97] false]).length - 24)) (refW s.cells (nextC s.cells [107] [97] false)) = withL s.cells (nextC s.cells [107] [97] false) := by
    rw [hl, List.take_zero, keepC_nil, refW_eq hI.1]
  have hcl := withL_len (nextC s.cells [107] [97] false) s.cells
  have hg : getL (withL s.cells (nextC s.cells [107] [97] false)) [107] = (nextC s.cells [107] [97] false, true) := getL_withL_self
  refine ⟨by show 1 ≤ M + 1; omega, fun h => absurd h (Nat.succ_ne_zero 0), fun _ => ?_, ?_, ?_, ?_, h.dn, ?_, rfl, h.dv⟩
  · show (getL (keepC _ _) [107]).1.ver = _ ∧ (getL (keepC _ _) [107]).1.value = _ ∧ (getL (keepC _ _) [107]).1.del = _
    rw [hc, hg]
    exact ⟨by show (getL s.cells [107]).1.ver + 1 = _; rw [h1], rfl, rfl⟩
  · have := putS_hist hI key_k (v := [97]) (by decide) (by rw [h1]; omega)
    show isHist _ (keepC _ (refW s.cells _))
    rw [refW_eq hI.1]
    exact this
  · show (keepC _ _).length ≤ 5
    rw [hc]; omega
  · show (List.drop _ _).length ≤ 30
    rw [List.length_drop, List.length_append]; show s.evs.length + 1 - _ ≤ 30; omega
  · show outV _ 5 (refW _ _).length = outV _ 5 (keepC _ _).length
    rw [keepC_len]
end Go.Proofs
/- ShardOnce: walked. -/


set_option linter.all false
set_option linter.all false
set_option maxRecDepth 100000
namespace Go.Proofs
open Go Go.Ev
variable {H : Heap}

/-- a state of the loop of requests: where the shard's lists lie -/
def St6 (H : Heap) (k : Nat) (q : Nat × Sh) : Prop := q.1 ≤ k ∧ AtO q.1 q.2 ∧ q.2.cv = outV (H.key 1) 5 q.2.cells.length ∧ q.2.ev = outV (H.key 2) 4 q.2.evs.length ∧ q.2.dv = outV (H.key 3) 6 q.2.done.length
theorem St6.ok {k : Nat} (hk : k ≤ 10) {q : Nat × Sh} (h : St6 H k q) {L : List Blk} (h1 : L[1]? = some (outB 5 (q.2.cells.map Cell.enc))) (h2 : L[2]? = some (outB 4 (q.2.evs.map Evn.enc))) (h3 : L[3]? = some (outB 6 (q.2.done.map Dn.enc))) : q.2.ok (H.ext L) where
  c := by rw [h.2.2.1]; exact arr_outV h1 (List.length_map ..)
  e := by rw [h.2.2.2.1]; exact arr_outV h2 (List.length_map ..)
  d := by rw [h.2.2.2.2]; exact arr_outV h3 (List.length_map ..)
  dok := h.2.1.dok _
  cl := by have := h.2.1.clen; omega
  el := by have := h.2.1.len; have := h.1; omega
  dl := by have := h.2.1.dlen; omega
theorem St6.next {k : Nat} {q : Nat × Sh} (h : St6 H k q) (hk : k ≤ 10) (hlt : q.1 < k) : St6 H k (q.1 + 1, askS q.2 [107] [97 + (q.1 + 1)] 0 ((q.1 : Int) + 1) (H.key 1) (H.key 2) (H.key 3)) := by
  refine ⟨hlt, h.2.1.next (by omega) _ _ _, ?_, rfl, rfl⟩
  show outV _ 5 (refW _ _).length = outV _ 5 (keepC _ _).length
  rw [keepC_len]
theorem tmod_lt (a : Int) {b : Int} (hb : 0 < b) : a.tmod b < b ∧ -b < a.tmod b := by
  rcases Int.le_total 0 a with h | h
  · rw [Int.tmod_eq_emod_of_nonneg h]
    have h1 := Int.emod_nonneg a (show b ≠ 0 by omega)
    have h2 := Int.emod_lt_of_pos a hb
    omega
  · have h0 : (-a).tmod b = -(a.tmod b) := Int.neg_tmod ..
    rw [Int.tmod_eq_emod_of_nonneg (by omega)] at h0
    have h1 := Int.emod_nonneg (-a) (show b ≠ 0 by omega)
    have h2 := Int.emod_lt_of_pos (-a) hb
    omega
theorem AtO.asked {i : Nat} {s : Sh} (h : AtO i s) (hi : 1 ≤ i) {id : Int} (h2 : id ≤ i) : Go.Proofs.stands s.done 0 id = if id = i then (putA i, 1) else (zeroA, 2) := by
  rw [h.done, if_neg (by omega)]
  show (if (i : Int) < id then ((zeroA, 0) : An × Int) else if id = (i : Int) then _ else _) = _
  rw [if_neg (by omega)]
def rowB (a : Int) : List AV := [.int .u8 a]
theorem f6_ok {n : Int} (hn0 : 0 ≤ n) (hn1 : n < 256) {v : AV} {bs : List Int} (hA : Arr H 1 v (bs.map rowB)) : FnOk Tryz.prog 6 [.int .u8 n, v] H fun r G => r = .bool true ∧ G = H := by
  refine FnOk.assume fun hok => ?_
  refine FnOk.drop (R := fun r => r = .bool true) ?_ (by rintro v rfl ρ; rw [AV.ren])
  refine FnOk.of_WW Tryz.func6 rfl C6ok R6ok EU good_EU ?_
  have hlen := fun G => hA.len G
  simp only [List.length_map] at hlen
  have hren := hA.ren
  simp only [go_sem, C6]
  refine CL.of f18_ok ?_
  rintro _ G' ⟨rfl, hG⟩
  rw [hG]
  clear hG
  simp only [go_sem, hlen]
  refine ⟨fun _ => ⟨_, rfl⟩, fun hfew => ?_⟩
  refine CL.of (f20_ok 1 1 [] []) ?_
  rintro _ G' ⟨rfl, hG⟩
  rw [hG]
  clear hG
  simp only [go_sem]
  obtain ⟨k, hk1, hk9, hk⟩ : ∃ k : Nat, 1 ≤ k ∧ k ≤ 10 ∧ IntKind.i64.wrap (IntKind.i64.wrap (n.tmod 10) + 1) = (k : Int) := by
    refine ⟨(n % 10).toNat + 1, by omega, by omega, ?_⟩
    have e0 : IntKind.i64.wrap (n % 10) = n % 10 := wrap_i64 (by omega) (by omega)
    rw [Int.tmod_eq_emod_of_nonneg hn0, e0, wrap_i64 (by omega) (by omega)]
    omega
  rw [hk]
  refine LL.st good_EU (fun q : Nat × Sh => k - q.1) (St6 H k)
    (fun q => [((.o .z), v), ((.i (.i .z)), .int .i64 k), ((.o (.i .z)), .ptr (H.key 0) 0), ((.o (.o (.o .z))), .int .i64 ((q.1 : Int) + 1))])
    bl4 ?_ (0, s0) (σ := [0, 1, 2, 3]) (Wk.of rfl (by decide) (by simp only [go_sem, hren]; first | done | rfl | trace_state) (by simp only [go_sem, bl4, Sh.enc, s0])) ⟨Nat.zero_le _, AtO.first, rfl, rfl, rfl⟩
  rintro ⟨i, s⟩ hst
  obtain ⟨hi, hat, hcv, hev, hdv⟩ := id hst
  dsimp only at hi hat hcv hev hdv
  by_cases hlt : i < k
  · have hci : (i : Int) + 1 ≤ (k : Int) := by omega
    have hw : IntKind.i64.wrap ((i : Int) + 1 + 1) = (i : Int) + 1 + 1 := wrap_i64 (by omega) (by omega)
    have hwa : IntKind.i64.wrap (97 + ((i : Int) + 1)) = 97 + ((i : Int) + 1) := wrap_i64 (by omega) (by omega)
    obtain ⟨b, hb97⟩ : ∃ b : Nat, b = 97 + (i + 1) := ⟨_, rfl⟩
    have hwb : IntKind.u8.wrap (97 + ((i : Int) + 1)) = (b : Int) := by rw [show 97 + ((i : Int) + 1) = (b : Int) by omega]; exact wrap_u8 (by omega)
    have hby := fun (f : R1) c => bytesC_one (m := b) (by omega) f c
    have hcl := hat.clen
    have hdl := hat.dlen
    have hel := hat.len
    have hver := hat.get.1
    have i23 := fun b4 b5 b6 => e23f (H := H) (s := s) (L := [.row true 8 [s.enc], outB 5 (s.cells.map Cell.enc), outB 4 (s.evs.map Evn.enc), outB 6 (s.done.map Dn.enc), b4, b5, b6]) (hst.ok hk9 rfl rfl rfl) (by omega) hat.up hat.rows (id := (i : Int) + 1) hat.fresh hev (by omega) (by omega) (v := [b]) (by show (1 : Int) ≤ 12; decide) hat.hist (by rw [hver]; omega)
    simp only [Sh.enc] at i23
    simp only [go_sem, C6L1, hci, bl4, Sh.enc, hwa, hwb, hby, e24u, i23, askS, addS, askB, addB, hver]
    have hst' : St6 H k (i + 1, askS s [107] [b] 0 ((i : Int) + 1) (H.key 1) (H.key 2) (H.key 3)) := by rw [hb97]; exact hst.next hk9 hlt
    have hdr := withD_ok (hat.dok H) (putA_ok H ((i : Int) + 1)) (d := ⟨0, (i : Int) + 1, putA ((i : Int) + 1)⟩)
    have drn := hdr.rens
    refine LL.st good_EU (fun j : Nat => bs.length - j) (fun j => j ≤ bs.length)
      (fun j => [((.o .z), v), ((.i (.i .z)), .int .i64 k), ((.o (.i .z)), .ptr (H.key 0) 0), ((.o (.o (.o .z))), .int .i64 ((i : Int) + 1)), ((.o (.o (.i .z))), .int .i64 j)])
      (fun _ => bl4 (i + 1, askS s [107] [b] 0 ((i : Int) + 1) (H.key 1) (H.key 2) (H.key 3))) ?_ 0 (σ := [0, 7, 8, 9]) (Wk.of rfl (by decide) (by simp only [go_sem, hren]; first | done | rfl | trace_state) (by simp only [go_sem, bl4, askS, addS, Sh.enc, hver, outV_ren', ↓outB_ren', Cell.map_rens, Evn.map_rens, drn, implies_true]; first | done | trace_state)) (Nat.zero_le _)
    obtain ⟨s', hs'⟩ : ∃ s', s' = askS s [107] [b] 0 ((i : Int) + 1) (H.key 1) (H.key 2) (H.key 3) := ⟨_, rfl⟩
    rw [← hs'] at hst' ⊢
    clear hst hat hcv hev hdv hcl hdl hel hver i23 hs' hdr drn hwa hwb hby hb97
    obtain ⟨hi', hat, hcv, hev, hdv⟩ := id hst'
    dsimp only at hi' hat hcv hev hdv
    have hcl := hat.clen
    have hdl := hat.dlen
    have hel := hat.len
    have hnz := eq_false (show ¬ (i : Int) + 1 = 0 by omega)
    rintro j hj
    by_cases hjl : j < bs.length
    · obtain ⟨kk, r, ex', cap', wr, rows, hv, hrho, hgo, hrow⟩ := hA.at hok (j := j) (by rw [List.length_map]; exact hjl)
      simp only [List.length_map, List.getElem_map] at hv hrow
      generalize bs[j] = a at hrow
      have hwj := wrap_succ (n := j) (by omega)
      have hcj : (j : Int) < (bs.length : Int) := (by omega)
      have hsj : j + 1 ≤ bs.length := (by omega)
      obtain ⟨m, hm, hm1, hm2⟩ : ∃ m : Int, (IntKind.i64.wrap a).tmod ((i : Int) + 1) = m ∧ m < (i : Int) + 1 ∧ -((i : Int) + 1) < m := ⟨_, rfl, (tmod_lt _ (by omega)).1, (tmod_lt _ (by omega)).2⟩
      have hwm : IntKind.i64.wrap m = m := wrap_i64 (by omega) (by omega)
      have hwm1 : IntKind.i64.wrap (m + 1) = m + 1 := wrap_i64 (by omega) (by omega)
      have hstand := hat.asked (by omega) (id := m + 1) (by omega)
      rw [show ((i + 1 : Nat) : Int) = (i : Int) + 1 from rfl] at hstand
      have i23 := fun b4 b5 => e23t (H := H) (s := s') (L := [.row true 8 [s'.enc], outB 5 (s'.cells.map Cell.enc), outB 4 (s'.evs.map Evn.enc), outB 6 (s'.done.map Dn.enc), b4, b5]) (hst'.ok hk9 rfl rfl rfl) (by omega) hat.up hat.rows (id := m + 1) (by rw [hstand]; split; exact (by decide : (0 : Int) < 1); exact (by decide : (0 : Int) < 2)) [111, 116, 104, 101, 114]
      rw [hstand] at i23
      simp only [Sh.enc] at i23
      by_cases he : m + 1 = (i : Int) + 1
      · rw [if_pos he] at i23
        simp only [go_sem, C6L0, hv, hcj, hsj, hgo, hrow, rowB, bl4, Sh.enc, hnz, hm, hwm, hwm1, e24u, i23, putA]
        refine CL.of (f15_same (a := s') (b := s') (hst'.ok hk9 rfl rfl rfl) (hst'.ok hk9 rfl rfl rfl) (sameSh.refl _)) ?_
        rintro _ G' ⟨rfl, hG⟩
        rw [hG]
        clear hG
        have z1 := eq_true he
        have z2 := eq_false (show ¬ m + 1 < (i : Int) + 1 by omega)
        simp only [go_sem, z1, z2, hwj]
        exact ⟨j + 1, by show bs.length - (j + 1) < bs.length - j; omega, hsj, _, [0, 1, 2, 3], rfl, Wk.of rfl (by decide) (by simp only [go_sem, hren, hrho, hv]; first | done | rfl | trace_state) (by simp only [go_sem, bl4, Sh.enc, hcv, hev, hdv, outV_ren', ↓outB_ren', Cell.map_rens, Evn.map_rens, (hat.dok H).rens, implies_true]; first | done | trace_state)⟩
      · rw [if_neg he] at i23
        simp only [go_sem, C6L0, hv, hcj, hsj, hgo, hrow, rowB, bl4, Sh.enc, hnz, hm, hwm, hwm1, e24u, i23, zeroA]
        refine CL.of (f15_same (a := s') (b := s') (hst'.ok hk9 rfl rfl rfl) (hst'.ok hk9 rfl rfl rfl) (sameSh.refl _)) ?_
        rintro _ G' ⟨rfl, hG⟩
        rw [hG]
        clear hG
        have z1 := eq_false he
        have z2 := eq_true (show m + 1 < (i : Int) + 1 by omega)
        simp only [go_sem, z1, z2, hwj]
        exact ⟨j + 1, by show bs.length - (j + 1) < bs.length - j; omega, hsj, _, [0, 1, 2, 3], rfl, Wk.of rfl (by decide) (by simp only [go_sem, hren, hrho, hv]; first | done | rfl | trace_state) (by simp only [go_sem, bl4, Sh.enc, hcv, hev, hdv, outV_ren', ↓outB_ren', Cell.map_rens, Evn.map_rens, (hat.dok H).rens, implies_true]; first | done | trace_state)⟩
    · have hcj : ¬ (j : Int) < (bs.length : Int) := by omega
      simp only [go_sem, C6L0, hlen, hcj, bl4, Sh.enc, hw]
      exact ⟨(i + 1, s'), by show k - (i + 1) < k - i; omega, hst', _, [0, 1, 2, 3], rfl, Wk.of rfl (by decide) (by simp only [go_sem, hren]; first | done | rfl | trace_state) (by simp only [go_sem, bl4, Sh.enc, hcv, hev, hdv, outV_ren', ↓outB_ren', Cell.map_rens, Evn.map_rens, (hat.dok H).rens, implies_true]; first | done | trace_state)⟩
  · obtain rfl : i = k := by omega
    have hci : ¬ (i : Int) + 1 ≤ (i : Int) := by omega
    have hwa : IntKind.i64.wrap (97 + (i : Int)) = 97 + (i : Int) := wrap_i64 (by omega) (by omega)
    obtain ⟨b, hb97⟩ : ∃ b : Nat, b = 97 + i := ⟨_, rfl⟩
    have hwb : IntKind.u8.wrap (97 + (i : Int)) = (b : Int) := by rw [show 97 + (i : Int) = (b : Int) by omega]; exact wrap_u8 (by omega)
    have hby := fun (f : R1) c => bytesC_one (m := b) (by omega) f c
    have hget : getA (getL s.cells [107]).1 = [.int .i64 0, .str [b], .int .i64 i, .nils] := by
      rw [hat.cells, if_neg (by omega), hb97]
      show getA (cellO i) = _
      unfold getA cellO
      rw [if_pos ⟨by show (0 : Int) < i; omega, rfl⟩]
    simp only [go_sem, C6L1, hci, bl4, Sh.enc]
    refine CL.of (f21_get (s := s) (hst.ok hk9 rfl rfl rfl) key_k) ?_
    rintro _ _ ⟨rfl, rfl⟩
    rw [hget]
    simp only [go_sem, Sh.enc, hwa, hwb, hby]
    exact ⟨_, rfl⟩
end Go.Proofs
/- Bytes that are given, opened. -/


set_option linter.all false
set_option maxRecDepth 100000
namespace Go.Proofs
open Go Go.Ev Go.ChangeShapes Go.WideShapes Go.RowKit
variable {HH : Type} {enc : TypeId × Value → HH} {W : World}
theorem opens_b : Opens Tryz.prog enc W 5 1 fun _ row => ∃ a : Int, row = rowB a := by
  refine (Opens.prim (P := Tryz.prog) (enc := enc) (W := W) (k := .int .u8) Tryz.underlying5 (by kernel_rfl)).imp (fun H row L h => h) ?_
  rintro H _ ⟨_, rfl, h⟩
  obtain ⟨a, rfl⟩ := h.int_of
  exact ⟨a, rfl⟩
end Go.Proofs
