/- once: what the functions answer, as an oracle. -/
import Derived.Test.YtiadcabmonbgiaaZ16
set_option linter.all false
set_option linter.all false
set_option maxRecDepth 100000
namespace Go.Proofs
open Go Go.Ev
variable {H : Heap}

def nilB (v : AV) : Bool := match v with | .nils => true | _ => false
theorem FnOk.dropZd {z : Bool} {f : FuncId} {args : List AV} {esz n : Nat} {xs : List (List AV)} (hn : xs.length = n) (hx : ∀ top σ, xs.map (AV.rens (rho H top σ)) = xs)
    (h : FnOk Try.prog f args H fun v G => ∃ l i, v = zV z (H.key i) esz n ∧ G = H.ext l ∧ ((zB z esz xs).live → l[i]? = some (zB z esz xs))) :
    FnOk Try.prog f args H fun v G => v = zV z H.nx esz n ∧ G = H.ext [zB z esz xs] := by
  subst hn
  refine h.wk ?_
  rintro v G ⟨l, i, rfl, rfl, hl⟩
  refine ⟨l, [zB z esz xs], [i], zV z H.nx esz xs.length, rfl, ?_, rfl, by simp, ?_, rfl, rfl⟩
  · rw [zV_ren, ← Heap.key_zero, rho_key rfl]
  · intro p hp
    simp only [List.zip_cons_cons, List.zip_nil_left, List.mem_singleton] at hp
    subst hp
    intro hlive
    show l[i]? = some (Blk.ren _ (zB z esz xs))
    rw [zB_ren _ (hx _ _), hl hlive]
theorem clone_zd {f : FuncId} {esz bytes : Nat} {zero : List AV} (hf : CloFn Try.prog f esz bytes zero) {v : AV} {xs : List (List AV)} (hA : Arr H esz v xs) (hb : (2 * xs.length + 192) * bytes ≤ 281474976710656) (hx : ∀ top σ, xs.map (AV.rens (rho H top σ)) = xs) :
    FnOk Try.prog f [v] H fun r G => r = zV (nilB v) H.nx esz xs.length ∧ G = H.ext [zB (nilB v) esz xs] := by
  refine FnOk.dropZd rfl hx ?_
  rcases hA with ⟨rfl, rfl⟩ | ⟨k, off, ex, cap, rfl, hk, h⟩
  · refine (clone_nil hf).mono ?_
    rintro v G ⟨rfl, rfl⟩
    exact ⟨[], 0, rfl, (Heap.ext_nil _).symm, fun h => h.elim⟩
  · rcases Nat.eq_zero_or_pos xs.length with h0 | h0
    · obtain rfl := List.length_eq_zero_iff.1 h0
      refine (clone_zero hf).mono ?_
      rintro v G ⟨rfl, rfl⟩
      exact ⟨_, 0, rfl, rfl, fun _ => rfl⟩
    · obtain ⟨r, wr, rows, rfl, hg, hrow⟩ := h (by intro e; rw [e] at h0; simp at h0)
      have hn : r + xs.length ≤ rows.length := by
        have := congrArg List.length hrow
        rw [List.length_take, List.length_drop] at this
        omega
      have key := clone_arr hf hg hn h0 hb (ex := ex) (cap := cap)
      rw [hrow] at key
      refine key.mono ?_
      rintro v G ⟨rfl, rfl⟩
      exact ⟨_, 1, (zV_pos h0).symm, rfl, fun _ => by rw [zB_pos h0]; rfl⟩
theorem f35_at {u v : AV} {l b : List Dn} (hA : Arr H 6 v (l.map Dn.enc)) (hB : Arr H 6 u (b.map Dn.enc)) (ha : allOk H l) (hb : allOk H b) (hup : upD b) (hl : l.length < 100000) (hbl : b.length < 100000) :
    FnOk Try.prog 35 [v, u] H fun r G => r = zV (nilB u) H.nx 6 (joinP l b).length ∧ G = H.ext [zB (nilB u) 6 ((joinP l b).map Dn.enc)] := by
  refine FnOk.assume fun hok => ?_
  refine FnOk.dropZd (List.length_map ..) (joinP_ok ha hb).rens ?_
  refine FnOk.of_WW Try.func35 rfl C35ok R35ok E0 good_E0 ?_
  have hlen := fun G => hA.len G; simp only [List.length_map] at hlen; have hren := hA.ren
  simp only [go_sem, C35, Nat.reduceAdd, Nat.reduceSub, Nat.reduceMul, Nat.reduceDiv, Nat.reduceMod, Nat.reduceEqDiff, Nat.reduceLeDiff, Nat.reduceLT, Int.reduceLT, Int.reduceLE, Int.reduceEq, Int.reduceToNat, reduceIte, reduceCtorEq, List.length_nil, List.map_nil, List.length_cons, List.map_cons, List.replicate_succ, List.replicate_zero, List.set_cons_zero, List.set_cons_succ, List.take_succ_cons, List.take_zero, List.take_nil, List.length_append, List.map_append, List.cons_append, List.nil_append, List.drop_succ_cons, List.drop_zero, List.append_nil, List.getElem?_cons_zero, List.getElem?_cons_succ, eq_self, true_implies, not_true_eq_false, not_false_eq_true, false_implies, and_true, true_and, decide_true, decide_false, Bool.not_true, Bool.not_false]
  refine CL.of (clone_zd clo57 (hB.ext _) (by rw [List.length_map]; omega) (hb.ext _).rens) ?_
  rintro _ _ ⟨rfl, rfl⟩
  generalize nilB u = z
  simp only [go_sem, Nat.reduceAdd, Nat.reduceSub, Nat.reduceMul, Nat.reduceDiv, Nat.reduceMod, Nat.reduceEqDiff, Nat.reduceLeDiff, Nat.reduceLT, Int.reduceLT, Int.reduceLE, Int.reduceEq, Int.reduceToNat, reduceIte, reduceCtorEq, List.length_nil, List.map_nil, List.length_cons, List.map_cons, List.replicate_succ, List.replicate_zero, List.set_cons_zero, List.set_cons_succ, List.take_succ_cons, List.take_zero, List.take_nil, List.length_append, List.map_append, List.cons_append, List.nil_append, List.drop_succ_cons, List.drop_zero, List.append_nil, List.getElem?_cons_zero, List.getElem?_cons_succ, eq_self, true_implies, not_true_eq_false, not_false_eq_true, false_implies, and_true, true_and, decide_true, decide_false, Bool.not_true, Bool.not_false, List.length_map, hlen]
  have hokP : ∀ i, allOk H (joinP (l.take i) b) := fun i => joinP_ok (fun d hd => ha d (List.mem_of_mem_take hd)) hb
  refine LL.st good_E0 (fun i : Nat => l.length - i) (fun i => i ≤ l.length)
    (fun i => [((.o (.i .z)), zV z (H.key 0) 6 (joinP (l.take i) b).length), ((.i (.i (.o .z))), v), ((.o (.o (.i .z))), .int .i64 l.length), ((.i (.o (.i .z))), .int .i64 i)])
    (fun i => [zB z 6 ((joinP (l.take i) b).map Dn.enc)]) ?_ 0 (σ := [0]) (Wk.of rfl (by decide) (by simp only [go_sem, hren, zV_ren, List.take_zero, joinP, List.foldl_nil, List.length_nil, List.map_nil, List.length_cons, List.map_cons, List.replicate_succ, List.replicate_zero, List.set_cons_zero, List.set_cons_succ, List.take_succ_cons, List.take_zero, List.take_nil, List.length_append, List.map_append, List.cons_append, List.nil_append, List.drop_succ_cons, List.drop_zero, List.append_nil, List.getElem?_cons_zero, List.getElem?_cons_succ, Nat.reduceAdd, Nat.reduceSub, Nat.reduceMul, Nat.reduceDiv, Nat.reduceMod, Nat.reduceEqDiff, Nat.reduceLeDiff, Nat.reduceLT, Int.reduceLT, Int.reduceLE, Int.reduceEq, Int.reduceToNat, reduceIte, reduceCtorEq]) (by simp only [go_sem, List.take_zero, joinP, List.foldl_nil, ↓zB_ren, hb.rens, implies_true, List.length_nil, List.map_nil, List.length_cons, List.map_cons, List.replicate_succ, List.replicate_zero, List.set_cons_zero, List.set_cons_succ, List.take_succ_cons, List.take_zero, List.take_nil, List.length_append, List.map_append, List.cons_append, List.nil_append, List.drop_succ_cons, List.drop_zero, List.append_nil, List.getElem?_cons_zero, List.getElem?_cons_succ, Nat.reduceAdd, Nat.reduceSub, Nat.reduceMul, Nat.reduceDiv, Nat.reduceMod, Nat.reduceEqDiff, Nat.reduceLeDiff, Nat.reduceLT, Int.reduceLT, Int.reduceLE, Int.reduceEq, Int.reduceToNat, reduceIte, reduceCtorEq, eq_self, true_implies, not_true_eq_false, not_false_eq_true, false_implies, and_true, true_and, decide_true, decide_false, Bool.not_true, Bool.not_false])) (Nat.zero_le _)
  rintro i hi
  by_cases hlt : i < l.length
  · obtain ⟨kk, r, ex', cap', wr, rows, hv, hrho, hgo, hrow⟩ := hA.at hok (j := i) (by rw [List.length_map]; exact hlt); simp only [List.length_map, List.getElem_map] at hv hrow; cases hv; have hget : l[i]? = some l[i] := List.getElem?_eq_getElem hlt; generalize l[i] = c at hrow hget; have hw := wrap_succ (n := i) (by omega); have hci : (i : Int) < (l.length : Int) := (by omega); have hsi : i + 1 ≤ l.length := (by omega)
    have hco := ha c (List.mem_of_getElem? hget)
    have hupP : upD (joinP (l.take i) b) := joinP_up hup
    have hnew := joinP_succ (b := b) hget
    have hln := joinP_len (a := l.take i) (b := b)
    rw [List.length_take] at hln
    have hoi := hokP i
    have hoi2 := (hokP (i + 1)).rens
    generalize joinP (l.take i) b = acc at hupP hnew hln hoi ⊢
    rw [hnew] at hoi2
    simp only [go_sem, C35L0, Nat.reduceAdd, Nat.reduceSub, Nat.reduceMul, Nat.reduceDiv, Nat.reduceMod, Nat.reduceEqDiff, Nat.reduceLeDiff, Nat.reduceLT, Int.reduceLT, Int.reduceLE, Int.reduceEq, Int.reduceToNat, reduceIte, reduceCtorEq, List.length_nil, List.map_nil, List.length_cons, List.map_cons, List.replicate_succ, List.replicate_zero, List.set_cons_zero, List.set_cons_succ, List.take_succ_cons, List.take_zero, List.take_nil, List.length_append, List.map_append, List.cons_append, List.nil_append, List.drop_succ_cons, List.drop_zero, List.append_nil, List.getElem?_cons_zero, List.getElem?_cons_succ, eq_self, true_implies, not_true_eq_false, not_false_eq_true, false_implies, and_true, true_and, decide_true, decide_false, Bool.not_true, Bool.not_false, hci, hsi, hgo, hrow, hw, Dn.enc]
    refine CL.of (f33_ok (l := acc) (d := c) (arr_zV rfl (List.length_map ..)) (hoi.ext _) (hco.ext _) hupP (by omega)) ?_
    rintro _ _ ⟨rfl, rfl⟩
    simp only [go_sem, Nat.reduceAdd, Nat.reduceSub, Nat.reduceMul, Nat.reduceDiv, Nat.reduceMod, Nat.reduceEqDiff, Nat.reduceLeDiff, Nat.reduceLT, Int.reduceLT, Int.reduceLE, Int.reduceEq, Int.reduceToNat, reduceIte, reduceCtorEq, List.length_nil, List.map_nil, List.length_cons, List.map_cons, List.replicate_succ, List.replicate_zero, List.set_cons_zero, List.set_cons_succ, List.take_succ_cons, List.take_zero, List.take_nil, List.length_append, List.map_append, List.cons_append, List.nil_append, List.drop_succ_cons, List.drop_zero, List.append_nil, List.getElem?_cons_zero, List.getElem?_cons_succ, eq_self, true_implies, not_true_eq_false, not_false_eq_true, false_implies, and_true, true_and, decide_true, decide_false, Bool.not_true, Bool.not_false, hw]
    have hwp := withD_pos (l := acc) (d := c)
    have hz : outV (H.key 2) 6 (withD acc c).length = zV z (H.key 2) 6 (withD acc c).length := by rw [outV_pos hwp, zV_pos hwp]
    have hz2 : outB 6 ((withD acc c).map Dn.enc) = zB z 6 ((withD acc c).map Dn.enc) := by rw [outB_pos (by rw [List.length_map]; exact hwp), zB_pos (by rw [List.length_map]; exact hwp)]
    rw [hz, hz2]
    refine ⟨i + 1, by show l.length - (i + 1) < l.length - i; omega, ?_, _, [2], rfl, Wk.of rfl (by decide) (by simp only [go_sem, zV_ren, hrho, hnew, hw, Nat.reduceAdd, Nat.reduceSub, Nat.reduceMul, Nat.reduceDiv, Nat.reduceMod, Nat.reduceEqDiff, Nat.reduceLeDiff, Nat.reduceLT, Int.reduceLT, Int.reduceLE, Int.reduceEq, Int.reduceToNat, reduceIte, reduceCtorEq]) (by simp only [go_sem, ↓zB_ren, hoi2, implies_true, hnew, List.length_nil, List.map_nil, List.length_cons, List.map_cons, List.replicate_succ, List.replicate_zero, List.set_cons_zero, List.set_cons_succ, List.take_succ_cons, List.take_zero, List.take_nil, List.length_append, List.map_append, List.cons_append, List.nil_append, List.drop_succ_cons, List.drop_zero, List.append_nil, List.getElem?_cons_zero, List.getElem?_cons_succ, Nat.reduceAdd, Nat.reduceSub, Nat.reduceMul, Nat.reduceDiv, Nat.reduceMod, Nat.reduceEqDiff, Nat.reduceLeDiff, Nat.reduceLT, Int.reduceLT, Int.reduceLE, Int.reduceEq, Int.reduceToNat, reduceIte, reduceCtorEq, eq_self, true_implies, not_true_eq_false, not_false_eq_true, false_implies, and_true, true_and, decide_true, decide_false, Bool.not_true, Bool.not_false])⟩
    show i + 1 ≤ l.length
    omega
  · have hci : ¬ (i : Int) < (l.length : Int) := by omega
    simp only [go_sem, C35L0, Nat.reduceAdd, Nat.reduceSub, Nat.reduceMul, Nat.reduceDiv, Nat.reduceMod, Nat.reduceEqDiff, Nat.reduceLeDiff, Nat.reduceLT, Int.reduceLT, Int.reduceLE, Int.reduceEq, Int.reduceToNat, reduceIte, reduceCtorEq, List.length_nil, List.map_nil, List.length_cons, List.map_cons, List.replicate_succ, List.replicate_zero, List.set_cons_zero, List.set_cons_succ, List.take_succ_cons, List.take_zero, List.take_nil, List.length_append, List.map_append, List.cons_append, List.nil_append, List.drop_succ_cons, List.drop_zero, List.append_nil, List.getElem?_cons_zero, List.getElem?_cons_succ, eq_self, true_implies, not_true_eq_false, not_false_eq_true, false_implies, and_true, true_and, decide_true, decide_false, Bool.not_true, Bool.not_false, hci]
    rw [List.take_of_length_le (by omega)]
    exact ⟨_, 0, rfl, rfl, fun _ => rfl⟩

theorem dns_inj : ∀ {l m : List Dn}, l.map Dn.enc = m.map Dn.enc → allOk H l → allOk H m → l = m
  | [], [], _, _, _ => rfl
  | [], _ :: _, h, _, _ => by cases h
  | _ :: _, [], h, _, _ => by cases h
  | x :: l, y :: m, h, ha, hb => by
    rw [List.map_cons, List.map_cons] at h
    injection h with h1 h2
    have h3 := dns_inj h2 (fun d hd => ha d (by simp [hd])) (fun d hd => hb d (by simp [hd]))
    have hx := ha x (by simp)
    have hy := hb y (by simp)
    obtain ⟨xs, xi, xc, xv, xn, xr, xw⟩ := x
    obtain ⟨ys, yi, yc, yv, yn, yr, yw⟩ := y
    simp only [Dn.enc, List.cons.injEq, AV.int.injEq, AV.str.injEq, true_and, and_true] at h1
    obtain ⟨rfl, rfl, rfl, rfl, rfl, rfl⟩ := h1
    have : xr = yr := List.map_inj_right (fun _ _ => Rw.enc_one) |>.1 (Arr.uniq hx.1 hy.1 (by decide))
    rw [this, h3]
noncomputable def dnsOf (H : Heap) (v : AV) : Option (List Dn) := open Classical in if h : ∃ l : List Dn, Arr H 6 v (l.map Dn.enc) ∧ allOk H l ∧ l.length < 1000 then some (Classical.choose h) else none
theorem dnsOf_eq {v : AV} {l : List Dn} (h : Arr H 6 v (l.map Dn.enc)) (ha : allOk H l) (hl : l.length < 1000) : dnsOf H v = some l := by
  unfold dnsOf
  have hex : ∃ l : List Dn, Arr H 6 v (l.map Dn.enc) ∧ allOk H l ∧ l.length < 1000 := ⟨l, h, ha, hl⟩
  rw [dif_pos hex]
  congr 1
  have hc := Classical.choose_spec hex
  exact dns_inj (Arr.uniq hc.1 h (by decide)) hc.2.1 ha
theorem dnsOf_spec {v : AV} {l : List Dn} (h : dnsOf H v = some l) : Arr H 6 v (l.map Dn.enc) ∧ allOk H l ∧ l.length < 1000 := by
  unfold dnsOf at h
  split at h
  · rename_i hex
    cases h
    exact Classical.choose_spec hex
  · cases h
noncomputable def od (H : Heap) (v : AV) (c : List Dn → RC) : RC := match dnsOf H v with | some l => c l | none => .fail
theorem od_eq {v : AV} {l : List Dn} (h : Arr H 6 v (l.map Dn.enc)) (ha : allOk H l) (hl : l.length < 1000) (c : List Dn → RC) : od H v c = c l := by
  unfold od; rw [dnsOf_eq h ha hl]
theorem od_ok {v r : AV} {c : List Dn → RC} {G : Heap} (h : od H v c = .ok r G) : ∃ l : List Dn, Arr H 6 v (l.map Dn.enc) ∧ allOk H l ∧ l.length < 1000 ∧ c l = .ok r G := by
  unfold od at h
  split at h
  · rename_i l hl
    obtain ⟨h1, h2, h3⟩ := dnsOf_spec hl
    exact ⟨l, h1, h2, h3, h⟩
  · cases h
noncomputable def orw (H : Heap) (v : AV) (c : List Rw → RC) : RC := match rwsOf H v with | some l => c l | none => .fail
theorem orw_eq {v : AV} {l : List Rw} (h : Arr H 3 v (l.map Rw.enc)) (hl : l.length ≤ 9223372036854775807) (c : List Rw → RC) : orw H v c = c l := by
  unfold orw; rw [rwsOf_eq h hl]
theorem orw_ok {v r : AV} {c : List Rw → RC} {G : Heap} (h : orw H v c = .ok r G) : ∃ l : List Rw, Arr H 3 v (l.map Rw.enc) ∧ l.length ≤ 9223372036854775807 ∧ c l = .ok r G := by
  unfold orw at h
  split at h
  · rename_i l hl
    obtain ⟨h1, h2⟩ := rwsOf_spec hl
    exact ⟨l, h1, h2, h⟩
  · cases h
noncomputable instance (l : List Dn) : Decidable (upD l) := Classical.propDecidable _
noncomputable instance (l : List Dn) (d : Dn) : Decidable (keepsD l d) := Classical.propDecidable _
noncomputable def EO3 : FuncId → List AV → Heap → RC
  | 31, [.agg [.int .i64 c, .str s, .int .i64 n, v], .agg [.int .i64 c2, .str s2, .int .i64 n2, v2]], H => orw H v fun l => orw H v2 fun l2 => .ok (.bool (decide (sameA ⟨c, s, n, l, v⟩ ⟨c2, s2, n2, l2, v2⟩))) H
  | 32, [v, w], H => od H v fun l => od H w fun m => .ok (.bool (decide (sameD l m))) H
  | 33, [v, .agg [.int .i64 s, .int .i64 i, .int .i64 c, .str x, .int .i64 n, rv]], H => od H v fun l => orw H rv fun rs => if upD l then .ok (outV H.nx 6 (withD l ⟨s, i, c, x, n, rs, rv⟩).length) (H.ext [outB 6 ((withD l ⟨s, i, c, x, n, rs, rv⟩).map Dn.enc)]) else .fail
  | 34, [v, .agg [.int .i64 s, .int .i64 i, .int .i64 c, .str x, .int .i64 n, rv]], H => od H v fun l => orw H rv fun rs => if upD l then (if keepsD l ⟨s, i, c, x, n, rs, rv⟩ then .ok v H else .ok (outV H.nx 6 (withD l ⟨s, i, c, x, n, rs, rv⟩).length) (H.ext [outB 6 ((withD l ⟨s, i, c, x, n, rs, rv⟩).map Dn.enc)])) else .fail
  | 35, [v, u], H => od H v fun l => od H u fun b => if upD b then .ok (zV (nilB u) H.nx 6 (joinP l b).length) (H.ext [zB (nilB u) 6 ((joinP l b).map Dn.enc)]) else .fail
  | 36, [u, v], H => od H u fun a => od H v fun l => if upD a ∧ upD l then .ok (selV (anyFresh a l) u H.nx (joinR a l).length) (H.ext [selB (anyFresh a l) ((joinR a l).map Dn.enc)]) else .fail
  | _, _, _ => .fail
theorem good_EO3 : Ev.Good Try.prog EO3 := by
  intro f args H r G he φ w args' ha hw
  refine (?_ : FnOk Try.prog f args H fun v' G' => v' = r ∧ G' = G).one φ w args' ha hw
  unfold EO3 at he
  split at he
  · obtain ⟨l, h1, h2, he⟩ := orw_ok he
    obtain ⟨m, h4, h5, he⟩ := orw_ok he
    cases he
    exact f31_ok (a := ⟨_, _, _, _, _⟩) (b := ⟨_, _, _, _, _⟩) ⟨h1, h2⟩ ⟨h4, h5⟩
  · obtain ⟨l, h1, h2, h3, he⟩ := od_ok he
    obtain ⟨m, h4, h5, h6, he⟩ := od_ok he
    cases he
    exact f32_ok h1 h4 h2 h5 (by omega)
  · obtain ⟨l, h1, h2, h3, he⟩ := od_ok he
    obtain ⟨m, h4, h5, he⟩ := orw_ok he
    split at he
    · rename_i hup
      cases he
      exact f33_ok (d := ⟨_, _, _, _, _, _, _⟩) h1 h2 ⟨h4, h5⟩ hup (by omega)
    · cases he
  · obtain ⟨l, h1, h2, h3, he⟩ := od_ok he
    obtain ⟨m, h4, h5, he⟩ := orw_ok he
    split at he
    · rename_i hup
      split at he
      · rename_i hk
        cases he
        exact f34_keep (d := ⟨_, _, _, _, _, _, _⟩) h1 h2 ⟨h4, h5⟩ (by omega) hk
      · rename_i hk
        cases he
        exact f34_with (d := ⟨_, _, _, _, _, _, _⟩) h1 h2 ⟨h4, h5⟩ hup (by omega) hk
    · cases he
  · obtain ⟨l, h1, h2, h3, he⟩ := od_ok he
    obtain ⟨b, h4, h5, h6, he⟩ := od_ok he
    split at he
    · rename_i hup
      cases he
      exact f35_at h1 h4 h2 h5 hup (by omega) (by omega)
    · cases he
  · obtain ⟨a, h1, h2, h3, he⟩ := od_ok he
    obtain ⟨l, h4, h5, h6, he⟩ := od_ok he
    split at he
    · rename_i hup
      cases he
      exact f36_ok h1 h4 h2 h5 hup.1 hup.2 (by omega) (by omega)
    · cases he
  · cases he
end Go.Proofs
/- once: the law of what was done, walked. -/

set_option linter.all false
set_option linter.all false
set_option maxRecDepth 100000
namespace Go.Proofs
open Go Go.Ev
variable {H : Heap}

theorem sameA_self (a : An) : sameA a a := ⟨rfl, rfl, rfl, rfl⟩
section
variable {v u : AV} {a b : List Dn} {d : Dn}
theorem i31 {p : An} (hp : p.ok H) (z : Bool) (L : List Blk) (i : Nat) (h : L[i]? = some (zB z 3 (p.rows.map Rw.enc))) :
    EO3 31 [.agg [.int .i64 p.code, .str p.val, .int .i64 p.ver, zV z (H.key i) 3 p.rows.length], .agg [.int .i64 p.code, .str p.val, .int .i64 p.ver, p.rv]] (H.ext L) = .ok (.bool true) (H.ext L) := by
  show orw (H.ext L) _ (fun l => orw (H.ext L) p.rv fun l2 => RC.ok (.bool (decide (sameA ⟨p.code, p.val, p.ver, l, _⟩ ⟨p.code, p.val, p.ver, l2, p.rv⟩))) (H.ext L)) = _
  rw [orw_eq (arr_zV h (List.length_map ..)) hp.2, orw_eq (hp.1.ext L) hp.2, decide_eq_true]
  exact ⟨rfl, rfl, rfl, rfl⟩
theorem i32 {L : List Blk} {v w : AV} {l : List Dn} (h1 : Arr (H.ext L) 6 v (l.map Dn.enc)) (h2 : Arr (H.ext L) 6 w (l.map Dn.enc)) (ha : allOk H l) (hl : l.length < 1000) :
    EO3 32 [v, w] (H.ext L) = .ok (.bool true) (H.ext L) := by
  show od (H.ext L) v (fun l => od (H.ext L) w fun m => RC.ok (.bool (decide (sameD l m))) (H.ext L)) = _
  rw [od_eq h1 (ha.ext L) hl, od_eq h2 (ha.ext L) hl, decide_eq_true (sameD_self l)]
theorem i33 (hA : Arr H 6 v (a.map Dn.enc)) (ha : allOk H a) (hl : a.length < 1000) (hup : upD a) (hd : d.an.ok H) (L : List Blk) :
    EO3 33 [v, .agg [.int .i64 d.ses, .int .i64 d.id, .int .i64 d.an.code, .str d.an.val, .int .i64 d.an.ver, d.an.rv]] (H.ext L) = .ok (outV (H.key L.length) 6 (withD a d).length) (H.ext (L ++ [outB 6 ((withD a d).map Dn.enc)])) := by
  show od (H.ext L) v (fun l => orw (H.ext L) d.an.rv fun rs => if upD l then RC.ok (outV (H.ext L).nx 6 (withD l ⟨d.ses, d.id, d.an.code, d.an.val, d.an.ver, rs, d.an.rv⟩).length) ((H.ext L).ext [outB 6 ((withD l ⟨d.ses, d.id, d.an.code, d.an.val, d.an.ver, rs, d.an.rv⟩).map Dn.enc)]) else .fail) = _
  rw [od_eq (hA.ext L) (ha.ext L) hl, orw_eq (hd.1.ext L) hd.2, if_pos hup, Heap.nx_ext, Heap.ext_append]
theorem i34 (hA : Arr H 6 v (a.map Dn.enc)) (ha : allOk H a) (hl : a.length < 1000) (hup : upD a) (hd : d.an.ok H) (L : List Blk) :
    EO3 34 [v, .agg [.int .i64 d.ses, .int .i64 d.id, .int .i64 d.an.code, .str d.an.val, .int .i64 d.an.ver, d.an.rv]] (H.ext L) = if keepsD a d then .ok v (H.ext L) else .ok (outV (H.key L.length) 6 (withD a d).length) (H.ext (L ++ [outB 6 ((withD a d).map Dn.enc)])) := by
  show od (H.ext L) v (fun l => orw (H.ext L) d.an.rv fun rs => if upD l then (if keepsD l ⟨d.ses, d.id, d.an.code, d.an.val, d.an.ver, rs, d.an.rv⟩ then RC.ok v (H.ext L) else RC.ok (outV (H.ext L).nx 6 (withD l ⟨d.ses, d.id, d.an.code, d.an.val, d.an.ver, rs, d.an.rv⟩).length) ((H.ext L).ext [outB 6 ((withD l ⟨d.ses, d.id, d.an.code, d.an.val, d.an.ver, rs, d.an.rv⟩).map Dn.enc)])) else .fail) = _
  rw [od_eq (hA.ext L) (ha.ext L) hl, orw_eq (hd.1.ext L) hd.2, if_pos hup, Heap.nx_ext, Heap.ext_append]
theorem i35 (hA : Arr H 6 v (a.map Dn.enc)) (ha : allOk H a) (hal : a.length < 1000) (hB : Arr H 6 u (b.map Dn.enc)) (hb : allOk H b) (hbl : b.length < 1000) (hup : upD b) (L : List Blk) :
    EO3 35 [v, u] (H.ext L) = .ok (zV (nilB u) (H.key L.length) 6 (joinP a b).length) (H.ext (L ++ [zB (nilB u) 6 ((joinP a b).map Dn.enc)])) := by
  show od (H.ext L) v (fun l => od (H.ext L) u fun b => if upD b then RC.ok (zV (nilB u) (H.ext L).nx 6 (joinP l b).length) ((H.ext L).ext [zB (nilB u) 6 ((joinP l b).map Dn.enc)]) else .fail) = _
  rw [od_eq (hA.ext L) (ha.ext L) hal, od_eq (hB.ext L) (hb.ext L) hbl, if_pos hup, Heap.nx_ext, Heap.ext_append]
theorem i36 (hA : Arr H 6 v (a.map Dn.enc)) (ha : allOk H a) (hal : a.length < 1000) (hB : Arr H 6 u (b.map Dn.enc)) (hb : allOk H b) (hbl : b.length < 1000) (hua : upD a) (hub : upD b) (L : List Blk) :
    EO3 36 [v, u] (H.ext L) = .ok (selV (anyFresh a b) v (H.key L.length) (joinP a b).length) (H.ext (L ++ [selB (anyFresh a b) ((joinP a b).map Dn.enc)])) := by
  show od (H.ext L) v (fun a => od (H.ext L) u fun l => if upD a ∧ upD l then RC.ok (selV (anyFresh a l) v (H.ext L).nx (joinR a l).length) ((H.ext L).ext [selB (anyFresh a l) ((joinR a l).map Dn.enc)]) else .fail) = _
  rw [od_eq (hA.ext L) (ha.ext L) hal, od_eq (hB.ext L) (hb.ext L) hbl, if_pos ⟨hua, hub⟩, Heap.nx_ext, Heap.ext_append, joinR_eq hua hub]
end
theorem f6_ok {v u : AV} {a b : List Dn} {d : Dn} (hA : Arr H 6 v (a.map Dn.enc)) (hB : Arr H 6 u (b.map Dn.enc)) (ha : allOk H a) (hb : allOk H b) (hd : d.an.ok H) (hal : a.length ≤ 9223372036854775807) (hbl : b.length ≤ 9223372036854775807) (s id : Int) :
    FnOk Try.prog 6 [v, u, .agg d.enc, .int .i64 s, .int .i64 id] H fun r G => r = .bool true ∧ G = H := by
  refine FnOk.assume fun hok => ?_
  refine FnOk.drop (R := fun r => r = .bool true) ?_ (by rintro v rfl ρ; rw [AV.ren])
  refine FnOk.of_WW Try.func6 rfl C6ok R6ok EO3 good_EO3 ?_
  simp only [go_sem, C6, Dn.enc, Nat.reduceAdd, Nat.reduceSub, Nat.reduceMul, Nat.reduceDiv, Nat.reduceMod, Nat.reduceEqDiff, Nat.reduceLeDiff, Nat.reduceLT, Int.reduceLT, Int.reduceLE, Int.reduceEq, Int.reduceToNat, reduceIte, reduceCtorEq, List.length_nil, List.map_nil, List.length_cons, List.map_cons, List.replicate_succ, List.replicate_zero, List.set_cons_zero, List.set_cons_succ, List.take_succ_cons, List.take_zero, List.take_nil, List.length_append, List.map_append, List.cons_append, List.nil_append, List.drop_succ_cons, List.drop_zero, List.append_nil, List.getElem?_cons_zero, List.getElem?_cons_succ, eq_self, true_implies, not_true_eq_false, not_false_eq_true, false_implies, and_true, true_and, decide_true, decide_false, Bool.not_true, Bool.not_false]
  refine CL.one f25_ok ?_
  simp only [go_sem, agg_z, one_z, Nat.reduceAdd, Nat.reduceSub, Nat.reduceMul, Nat.reduceDiv, Nat.reduceMod, Nat.reduceEqDiff, Nat.reduceLeDiff, Nat.reduceLT, Int.reduceLT, Int.reduceLE, Int.reduceEq, Int.reduceToNat, reduceIte, reduceCtorEq, List.length_nil, List.map_nil, List.length_cons, List.map_cons, List.replicate_succ, List.replicate_zero, List.set_cons_zero, List.set_cons_succ, List.take_succ_cons, List.take_zero, List.take_nil, List.length_append, List.map_append, List.cons_append, List.nil_append, List.drop_succ_cons, List.drop_zero, List.append_nil, List.getElem?_cons_zero, List.getElem?_cons_succ, eq_self, true_implies, not_true_eq_false, not_false_eq_true, false_implies, and_true, true_and, decide_true, decide_false, Bool.not_true, Bool.not_false]
  refine CL.bool (f26_ok (hA.ext _) (ha.ext _) hal) (fun g1 => ?_) (fun g1 => ?_)
  rotate_left
  · simp only [go_sem, Nat.reduceAdd, Nat.reduceSub, Nat.reduceMul, Nat.reduceDiv, Nat.reduceMod, Nat.reduceEqDiff, Nat.reduceLeDiff, Nat.reduceLT, Int.reduceLT, Int.reduceLE, Int.reduceEq, Int.reduceToNat, reduceIte, reduceCtorEq, List.length_nil, List.map_nil, List.length_cons, List.map_cons, List.replicate_succ, List.replicate_zero, List.set_cons_zero, List.set_cons_succ, List.take_succ_cons, List.take_zero, List.take_nil, List.length_append, List.map_append, List.cons_append, List.nil_append, List.drop_succ_cons, List.drop_zero, List.append_nil, List.getElem?_cons_zero, List.getElem?_cons_succ, eq_self, true_implies, not_true_eq_false, not_false_eq_true, false_implies, and_true, true_and, decide_true, decide_false, Bool.not_true, Bool.not_false]; exact ⟨_, rfl⟩
  simp only [go_sem, agg_z, one_z, Nat.reduceAdd, Nat.reduceSub, Nat.reduceMul, Nat.reduceDiv, Nat.reduceMod, Nat.reduceEqDiff, Nat.reduceLeDiff, Nat.reduceLT, Int.reduceLT, Int.reduceLE, Int.reduceEq, Int.reduceToNat, reduceIte, reduceCtorEq, List.length_nil, List.map_nil, List.length_cons, List.map_cons, List.replicate_succ, List.replicate_zero, List.set_cons_zero, List.set_cons_succ, List.take_succ_cons, List.take_zero, List.take_nil, List.length_append, List.map_append, List.cons_append, List.nil_append, List.drop_succ_cons, List.drop_zero, List.append_nil, List.getElem?_cons_zero, List.getElem?_cons_succ, eq_self, true_implies, not_true_eq_false, not_false_eq_true, false_implies, and_true, true_and, decide_true, decide_false, Bool.not_true, Bool.not_false]
  refine CL.bool (f26_ok (hB.ext _) (hb.ext _) hbl) (fun g2 => ?_) (fun g2 => ?_)
  rotate_left
  · simp only [go_sem, Nat.reduceAdd, Nat.reduceSub, Nat.reduceMul, Nat.reduceDiv, Nat.reduceMod, Nat.reduceEqDiff, Nat.reduceLeDiff, Nat.reduceLT, Int.reduceLT, Int.reduceLE, Int.reduceEq, Int.reduceToNat, reduceIte, reduceCtorEq, List.length_nil, List.map_nil, List.length_cons, List.map_cons, List.replicate_succ, List.replicate_zero, List.set_cons_zero, List.set_cons_succ, List.take_succ_cons, List.take_zero, List.take_nil, List.length_append, List.map_append, List.cons_append, List.nil_append, List.drop_succ_cons, List.drop_zero, List.append_nil, List.getElem?_cons_zero, List.getElem?_cons_succ, eq_self, true_implies, not_true_eq_false, not_false_eq_true, false_implies, and_true, true_and, decide_true, decide_false, Bool.not_true, Bool.not_false]; exact ⟨_, rfl⟩
  simp only [go_sem, agg_z, one_z, Nat.reduceAdd, Nat.reduceSub, Nat.reduceMul, Nat.reduceDiv, Nat.reduceMod, Nat.reduceEqDiff, Nat.reduceLeDiff, Nat.reduceLT, Int.reduceLT, Int.reduceLE, Int.reduceEq, Int.reduceToNat, reduceIte, reduceCtorEq, List.length_nil, List.map_nil, List.length_cons, List.map_cons, List.replicate_succ, List.replicate_zero, List.set_cons_zero, List.set_cons_succ, List.take_succ_cons, List.take_zero, List.take_nil, List.length_append, List.map_append, List.cons_append, List.nil_append, List.drop_succ_cons, List.drop_zero, List.append_nil, List.getElem?_cons_zero, List.getElem?_cons_succ, eq_self, true_implies, not_true_eq_false, not_false_eq_true, false_implies, and_true, true_and, decide_true, decide_false, Bool.not_true, Bool.not_false]
  have hdo : ∀ L, allOk (H.ext L) [d] := fun L => one_ok (hd.ext L)
  refine CL.bool (f26_ok (l := [d]) (arr_row rfl rfl) (hdo _) (by simp)) (fun g3 => ?_) (fun g3 => ?_)
  rotate_left
  · simp only [go_sem, Nat.reduceAdd, Nat.reduceSub, Nat.reduceMul, Nat.reduceDiv, Nat.reduceMod, Nat.reduceEqDiff, Nat.reduceLeDiff, Nat.reduceLT, Int.reduceLT, Int.reduceLE, Int.reduceEq, Int.reduceToNat, reduceIte, reduceCtorEq, List.length_nil, List.map_nil, List.length_cons, List.map_cons, List.replicate_succ, List.replicate_zero, List.set_cons_zero, List.set_cons_succ, List.take_succ_cons, List.take_zero, List.take_nil, List.length_append, List.map_append, List.cons_append, List.nil_append, List.drop_succ_cons, List.drop_zero, List.append_nil, List.getElem?_cons_zero, List.getElem?_cons_succ, eq_self, true_implies, not_true_eq_false, not_false_eq_true, false_implies, and_true, true_and, decide_true, decide_false, Bool.not_true, Bool.not_false]; exact ⟨_, rfl⟩
  have hla := g1.2
  have hlb := g2.2
  simp only [go_sem, agg_z, one_z, Nat.reduceAdd, Nat.reduceSub, Nat.reduceMul, Nat.reduceDiv, Nat.reduceMod, Nat.reduceEqDiff, Nat.reduceLeDiff, Nat.reduceLT, Int.reduceLT, Int.reduceLE, Int.reduceEq, Int.reduceToNat, reduceIte, reduceCtorEq, List.length_nil, List.map_nil, List.length_cons, List.map_cons, List.replicate_succ, List.replicate_zero, List.set_cons_zero, List.set_cons_succ, List.take_succ_cons, List.take_zero, List.take_nil, List.length_append, List.map_append, List.cons_append, List.nil_append, List.drop_succ_cons, List.drop_zero, List.append_nil, List.getElem?_cons_zero, List.getElem?_cons_succ, eq_self, true_implies, not_true_eq_false, not_false_eq_true, false_implies, and_true, true_and, decide_true, decide_false, Bool.not_true, Bool.not_false]
  refine CL.one (f27_ok (hA.ext _) (ha.ext _) (by omega)) ?_
  simp only [go_sem, agg_z, one_z, Nat.reduceAdd, Nat.reduceSub, Nat.reduceMul, Nat.reduceDiv, Nat.reduceMod, Nat.reduceEqDiff, Nat.reduceLeDiff, Nat.reduceLT, Int.reduceLT, Int.reduceLE, Int.reduceEq, Int.reduceToNat, reduceIte, reduceCtorEq, List.length_nil, List.map_nil, List.length_cons, List.map_cons, List.replicate_succ, List.replicate_zero, List.set_cons_zero, List.set_cons_succ, List.take_succ_cons, List.take_zero, List.take_nil, List.length_append, List.map_append, List.cons_append, List.nil_append, List.drop_succ_cons, List.drop_zero, List.append_nil, List.getElem?_cons_zero, List.getElem?_cons_succ, eq_self, true_implies, not_true_eq_false, not_false_eq_true, false_implies, and_true, true_and, decide_true, decide_false, Bool.not_true, Bool.not_false]
  refine CL.one (f28_ok (hA.ext _) (ha.ext _) (by omega)) ?_
  by_cases hda : isDone a
  rotate_left
  · rw [decide_eq_false hda]
    simp only [go_sem, agg_z, one_z, Nat.reduceAdd, Nat.reduceSub, Nat.reduceMul, Nat.reduceDiv, Nat.reduceMod, Nat.reduceEqDiff, Nat.reduceLeDiff, Nat.reduceLT, Int.reduceLT, Int.reduceLE, Int.reduceEq, Int.reduceToNat, reduceIte, reduceCtorEq, List.length_nil, List.map_nil, List.length_cons, List.map_cons, List.replicate_succ, List.replicate_zero, List.set_cons_zero, List.set_cons_succ, List.take_succ_cons, List.take_zero, List.take_nil, List.length_append, List.map_append, List.cons_append, List.nil_append, List.drop_succ_cons, List.drop_zero, List.append_nil, List.getElem?_cons_zero, List.getElem?_cons_succ, eq_self, true_implies, not_true_eq_false, not_false_eq_true, false_implies, and_true, true_and, decide_true, decide_false, Bool.not_true, Bool.not_false]
    refine CL.one (f28_ok (hA.ext _) (ha.ext _) (by omega)) ?_
    rw [decide_eq_false hda]
    simp only [go_sem, Nat.reduceAdd, Nat.reduceSub, Nat.reduceMul, Nat.reduceDiv, Nat.reduceMod, Nat.reduceEqDiff, Nat.reduceLeDiff, Nat.reduceLT, Int.reduceLT, Int.reduceLE, Int.reduceEq, Int.reduceToNat, reduceIte, reduceCtorEq, List.length_nil, List.map_nil, List.length_cons, List.map_cons, List.replicate_succ, List.replicate_zero, List.set_cons_zero, List.set_cons_succ, List.take_succ_cons, List.take_zero, List.take_nil, List.length_append, List.map_append, List.cons_append, List.nil_append, List.drop_succ_cons, List.drop_zero, List.append_nil, List.getElem?_cons_zero, List.getElem?_cons_succ, eq_self, true_implies, not_true_eq_false, not_false_eq_true, false_implies, and_true, true_and, decide_true, decide_false, Bool.not_true, Bool.not_false]; exact ⟨_, rfl⟩
  rw [decide_eq_true hda]
  simp only [go_sem, agg_z, one_z, Nat.reduceAdd, Nat.reduceSub, Nat.reduceMul, Nat.reduceDiv, Nat.reduceMod, Nat.reduceEqDiff, Nat.reduceLeDiff, Nat.reduceLT, Int.reduceLT, Int.reduceLE, Int.reduceEq, Int.reduceToNat, reduceIte, reduceCtorEq, List.length_nil, List.map_nil, List.length_cons, List.map_cons, List.replicate_succ, List.replicate_zero, List.set_cons_zero, List.set_cons_succ, List.take_succ_cons, List.take_zero, List.take_nil, List.length_append, List.map_append, List.cons_append, List.nil_append, List.drop_succ_cons, List.drop_zero, List.append_nil, List.getElem?_cons_zero, List.getElem?_cons_succ, eq_self, true_implies, not_true_eq_false, not_false_eq_true, false_implies, and_true, true_and, decide_true, decide_false, Bool.not_true, Bool.not_false]
  refine CL.one (f28_ok (hA.ext _) (ha.ext _) (by omega)) ?_
  rw [decide_eq_true hda]
  simp only [go_sem, agg_z, one_z, Nat.reduceAdd, Nat.reduceSub, Nat.reduceMul, Nat.reduceDiv, Nat.reduceMod, Nat.reduceEqDiff, Nat.reduceLeDiff, Nat.reduceLT, Int.reduceLT, Int.reduceLE, Int.reduceEq, Int.reduceToNat, reduceIte, reduceCtorEq, List.length_nil, List.map_nil, List.length_cons, List.map_cons, List.replicate_succ, List.replicate_zero, List.set_cons_zero, List.set_cons_succ, List.take_succ_cons, List.take_zero, List.take_nil, List.length_append, List.map_append, List.cons_append, List.nil_append, List.drop_succ_cons, List.drop_zero, List.append_nil, List.getElem?_cons_zero, List.getElem?_cons_succ, eq_self, true_implies, not_true_eq_false, not_false_eq_true, false_implies, and_true, true_and, decide_true, decide_false, Bool.not_true, Bool.not_false]
  refine CL.bool (f28_ok (hB.ext _) (hb.ext _) (by omega)) (fun hdb => ?_) (fun hdb => ?_)
  rotate_left
  · simp only [go_sem, Nat.reduceAdd, Nat.reduceSub, Nat.reduceMul, Nat.reduceDiv, Nat.reduceMod, Nat.reduceEqDiff, Nat.reduceLeDiff, Nat.reduceLT, Int.reduceLT, Int.reduceLE, Int.reduceEq, Int.reduceToNat, reduceIte, reduceCtorEq, List.length_nil, List.map_nil, List.length_cons, List.map_cons, List.replicate_succ, List.replicate_zero, List.set_cons_zero, List.set_cons_succ, List.take_succ_cons, List.take_zero, List.take_nil, List.length_append, List.map_append, List.cons_append, List.nil_append, List.drop_succ_cons, List.drop_zero, List.append_nil, List.getElem?_cons_zero, List.getElem?_cons_succ, eq_self, true_implies, not_true_eq_false, not_false_eq_true, false_implies, and_true, true_and, decide_true, decide_false, Bool.not_true, Bool.not_false]; exact ⟨_, rfl⟩
  simp only [go_sem, agg_z, one_z, Nat.reduceAdd, Nat.reduceSub, Nat.reduceMul, Nat.reduceDiv, Nat.reduceMod, Nat.reduceEqDiff, Nat.reduceLeDiff, Nat.reduceLT, Int.reduceLT, Int.reduceLE, Int.reduceEq, Int.reduceToNat, reduceIte, reduceCtorEq, List.length_nil, List.map_nil, List.length_cons, List.map_cons, List.replicate_succ, List.replicate_zero, List.set_cons_zero, List.set_cons_succ, List.take_succ_cons, List.take_zero, List.take_nil, List.length_append, List.map_append, List.cons_append, List.nil_append, List.drop_succ_cons, List.drop_zero, List.append_nil, List.getElem?_cons_zero, List.getElem?_cons_succ, eq_self, true_implies, not_true_eq_false, not_false_eq_true, false_implies, and_true, true_and, decide_true, decide_false, Bool.not_true, Bool.not_false]
  refine CL.bool (f28_ok (l := [d]) (arr_row rfl rfl) (hdo _) (by simp)) (fun g4 => ?_) (fun g4 => ?_)
  rotate_left
  · simp only [go_sem, Nat.reduceAdd, Nat.reduceSub, Nat.reduceMul, Nat.reduceDiv, Nat.reduceMod, Nat.reduceEqDiff, Nat.reduceLeDiff, Nat.reduceLT, Int.reduceLT, Int.reduceLE, Int.reduceEq, Int.reduceToNat, reduceIte, reduceCtorEq, List.length_nil, List.map_nil, List.length_cons, List.map_cons, List.replicate_succ, List.replicate_zero, List.set_cons_zero, List.set_cons_succ, List.take_succ_cons, List.take_zero, List.take_nil, List.length_append, List.map_append, List.cons_append, List.nil_append, List.drop_succ_cons, List.drop_zero, List.append_nil, List.getElem?_cons_zero, List.getElem?_cons_succ, eq_self, true_implies, not_true_eq_false, not_false_eq_true, false_implies, and_true, true_and, decide_true, decide_false, Bool.not_true, Bool.not_false]; exact ⟨_, rfl⟩
  have hua := hda.upDD
  have hub := hdb.upDD
  simp only [go_sem, agg_z, one_z, Nat.reduceAdd, Nat.reduceSub, Nat.reduceMul, Nat.reduceDiv, Nat.reduceMod, Nat.reduceEqDiff, Nat.reduceLeDiff, Nat.reduceLT, Int.reduceLT, Int.reduceLE, Int.reduceEq, Int.reduceToNat, reduceIte, reduceCtorEq, List.length_nil, List.map_nil, List.length_cons, List.map_cons, List.replicate_succ, List.replicate_zero, List.set_cons_zero, List.set_cons_succ, List.take_succ_cons, List.take_zero, List.take_nil, List.length_append, List.map_append, List.cons_append, List.nil_append, List.drop_succ_cons, List.drop_zero, List.append_nil, List.getElem?_cons_zero, List.getElem?_cons_succ, eq_self, true_implies, not_true_eq_false, not_false_eq_true, false_implies, and_true, true_and, decide_true, decide_false, Bool.not_true, Bool.not_false]
  refine CL.of (f29_ok (hA.ext _) (ha.ext _) (by omega) hua hda.rows s id) ?_
  rintro _ _ ⟨z, rfl, rfl⟩
  simp only [go_sem, ansV, agg_z, one_z, Nat.reduceAdd, Nat.reduceSub, Nat.reduceMul, Nat.reduceDiv, Nat.reduceMod, Nat.reduceEqDiff, Nat.reduceLeDiff, Nat.reduceLT, Int.reduceLT, Int.reduceLE, Int.reduceEq, Int.reduceToNat, reduceIte, reduceCtorEq, List.length_nil, List.map_nil, List.length_cons, List.map_cons, List.replicate_succ, List.replicate_zero, List.set_cons_zero, List.set_cons_succ, List.take_succ_cons, List.take_zero, List.take_nil, List.length_append, List.map_append, List.cons_append, List.nil_append, List.drop_succ_cons, List.drop_zero, List.append_nil, List.getElem?_cons_zero, List.getElem?_cons_succ, eq_self, true_implies, not_true_eq_false, not_false_eq_true, false_implies, and_true, true_and, decide_true, decide_false, Bool.not_true, Bool.not_false]
  refine CL.of (f30_ok (hA.ext _) (ha.ext _) (by omega) s id) ?_
  rintro _ _ ⟨rfl, rfl⟩
  have hp := stands_an ha s id
  generalize stands a s id = p at *
  obtain ⟨p, n⟩ := p
  simp only [go_sem, An.enc, agg_z, one_z, Nat.reduceAdd, Nat.reduceSub, Nat.reduceMul, Nat.reduceDiv, Nat.reduceMod, Nat.reduceEqDiff, Nat.reduceLeDiff, Nat.reduceLT, Int.reduceLT, Int.reduceLE, Int.reduceEq, Int.reduceToNat, reduceIte, reduceCtorEq, List.length_nil, List.map_nil, List.length_cons, List.map_cons, List.replicate_succ, List.replicate_zero, List.set_cons_zero, List.set_cons_succ, List.take_succ_cons, List.take_zero, List.take_nil, List.length_append, List.map_append, List.cons_append, List.nil_append, List.drop_succ_cons, List.drop_zero, List.append_nil, List.getElem?_cons_zero, List.getElem?_cons_succ, eq_self, true_implies, not_true_eq_false, not_false_eq_true, false_implies, and_true, true_and, decide_true, decide_false, Bool.not_true, Bool.not_false]
  rw [i31 hp z _ 3 rfl]
  simp only [go_sem, agg_z, one_z, Nat.reduceAdd, Nat.reduceSub, Nat.reduceMul, Nat.reduceDiv, Nat.reduceMod, Nat.reduceEqDiff, Nat.reduceLeDiff, Nat.reduceLT, Int.reduceLT, Int.reduceLE, Int.reduceEq, Int.reduceToNat, reduceIte, reduceCtorEq, List.length_nil, List.map_nil, List.length_cons, List.map_cons, List.replicate_succ, List.replicate_zero, List.set_cons_zero, List.set_cons_succ, List.take_succ_cons, List.take_zero, List.take_nil, List.length_append, List.map_append, List.cons_append, List.nil_append, List.drop_succ_cons, List.drop_zero, List.append_nil, List.getElem?_cons_zero, List.getElem?_cons_succ, eq_self, true_implies, not_true_eq_false, not_false_eq_true, false_implies, and_true, true_and, decide_true, decide_false, Bool.not_true, Bool.not_false]
  rw [i33 hA ha (by omega) hua hd]
  simp only [go_sem, agg_z, one_z, Nat.reduceAdd, Nat.reduceSub, Nat.reduceMul, Nat.reduceDiv, Nat.reduceMod, Nat.reduceEqDiff, Nat.reduceLeDiff, Nat.reduceLT, Int.reduceLT, Int.reduceLE, Int.reduceEq, Int.reduceToNat, reduceIte, reduceCtorEq, List.length_nil, List.map_nil, List.length_cons, List.map_cons, List.replicate_succ, List.replicate_zero, List.set_cons_zero, List.set_cons_succ, List.take_succ_cons, List.take_zero, List.take_nil, List.length_append, List.map_append, List.cons_append, List.nil_append, List.drop_succ_cons, List.drop_zero, List.append_nil, List.getElem?_cons_zero, List.getElem?_cons_succ, eq_self, true_implies, not_true_eq_false, not_false_eq_true, false_implies, and_true, true_and, decide_true, decide_false, Bool.not_true, Bool.not_false]
  rw [i34 hA ha (by omega) hua hd]
  have hwok := withD_ok ha hd
  have hwl := withD_len (l := a) (d := d)
  have hjok := joinP_ok ha hb
  have hjl := joinP_len (a := a) (b := b)
  have hno := joinR_none (a := a) (b := b)
  rw [joinR_eq hua hub] at hno
  by_cases hk : keepsD a d
  · rw [if_pos hk]
    have hwo := withD_old hua hk
    rw [hwo]
    simp only [go_sem, agg_z, one_z, Nat.reduceAdd, Nat.reduceSub, Nat.reduceMul, Nat.reduceDiv, Nat.reduceMod, Nat.reduceEqDiff, Nat.reduceLeDiff, Nat.reduceLT, Int.reduceLT, Int.reduceLE, Int.reduceEq, Int.reduceToNat, reduceIte, reduceCtorEq, List.length_nil, List.map_nil, List.length_cons, List.map_cons, List.replicate_succ, List.replicate_zero, List.set_cons_zero, List.set_cons_succ, List.take_succ_cons, List.take_zero, List.take_nil, List.length_append, List.map_append, List.cons_append, List.nil_append, List.drop_succ_cons, List.drop_zero, List.append_nil, List.getElem?_cons_zero, List.getElem?_cons_succ, eq_self, true_implies, not_true_eq_false, not_false_eq_true, false_implies, and_true, true_and, decide_true, decide_false, Bool.not_true, Bool.not_false]
    rw [i32 (l := a) (by exact arr_outV rfl (List.length_map ..)) (hA.ext _) ha (by omega)]
    simp only [go_sem, agg_z, one_z, Nat.reduceAdd, Nat.reduceSub, Nat.reduceMul, Nat.reduceDiv, Nat.reduceMod, Nat.reduceEqDiff, Nat.reduceLeDiff, Nat.reduceLT, Int.reduceLT, Int.reduceLE, Int.reduceEq, Int.reduceToNat, reduceIte, reduceCtorEq, List.length_nil, List.map_nil, List.length_cons, List.map_cons, List.replicate_succ, List.replicate_zero, List.set_cons_zero, List.set_cons_succ, List.take_succ_cons, List.take_zero, List.take_nil, List.length_append, List.map_append, List.cons_append, List.nil_append, List.drop_succ_cons, List.drop_zero, List.append_nil, List.getElem?_cons_zero, List.getElem?_cons_succ, eq_self, true_implies, not_true_eq_false, not_false_eq_true, false_implies, and_true, true_and, decide_true, decide_false, Bool.not_true, Bool.not_false]
    rw [i35 hA ha (by omega) hB hb (by omega) hub]
    simp only [go_sem, agg_z, one_z, Nat.reduceAdd, Nat.reduceSub, Nat.reduceMul, Nat.reduceDiv, Nat.reduceMod, Nat.reduceEqDiff, Nat.reduceLeDiff, Nat.reduceLT, Int.reduceLT, Int.reduceLE, Int.reduceEq, Int.reduceToNat, reduceIte, reduceCtorEq, List.length_nil, List.map_nil, List.length_cons, List.map_cons, List.replicate_succ, List.replicate_zero, List.set_cons_zero, List.set_cons_succ, List.take_succ_cons, List.take_zero, List.take_nil, List.length_append, List.map_append, List.cons_append, List.nil_append, List.drop_succ_cons, List.drop_zero, List.append_nil, List.getElem?_cons_zero, List.getElem?_cons_succ, eq_self, true_implies, not_true_eq_false, not_false_eq_true, false_implies, and_true, true_and, decide_true, decide_false, Bool.not_true, Bool.not_false]
    rw [i36 hA ha (by omega) hB hb (by omega) hua hub]
    simp only [go_sem, agg_z, one_z, Nat.reduceAdd, Nat.reduceSub, Nat.reduceMul, Nat.reduceDiv, Nat.reduceMod, Nat.reduceEqDiff, Nat.reduceLeDiff, Nat.reduceLT, Int.reduceLT, Int.reduceLE, Int.reduceEq, Int.reduceToNat, reduceIte, reduceCtorEq, List.length_nil, List.map_nil, List.length_cons, List.map_cons, List.replicate_succ, List.replicate_zero, List.set_cons_zero, List.set_cons_succ, List.take_succ_cons, List.take_zero, List.take_nil, List.length_append, List.map_append, List.cons_append, List.nil_append, List.drop_succ_cons, List.drop_zero, List.append_nil, List.getElem?_cons_zero, List.getElem?_cons_succ, eq_self, true_implies, not_true_eq_false, not_false_eq_true, false_implies, and_true, true_and, decide_true, decide_false, Bool.not_true, Bool.not_false]
    rw [i32 (l := joinP a b) (by exact arr_zV rfl (List.length_map ..)) (by exact selArr rfl (List.length_map ..) fun h => by rw [hno h]; exact hA) hjok (by omega)]
    simp only [go_sem, agg_z, one_z, Nat.reduceAdd, Nat.reduceSub, Nat.reduceMul, Nat.reduceDiv, Nat.reduceMod, Nat.reduceEqDiff, Nat.reduceLeDiff, Nat.reduceLT, Int.reduceLT, Int.reduceLE, Int.reduceEq, Int.reduceToNat, reduceIte, reduceCtorEq, List.length_nil, List.map_nil, List.length_cons, List.map_cons, List.replicate_succ, List.replicate_zero, List.set_cons_zero, List.set_cons_succ, List.take_succ_cons, List.take_zero, List.take_nil, List.length_append, List.map_append, List.cons_append, List.nil_append, List.drop_succ_cons, List.drop_zero, List.append_nil, List.getElem?_cons_zero, List.getElem?_cons_succ, eq_self, true_implies, not_true_eq_false, not_false_eq_true, false_implies, and_true, true_and, decide_true, decide_false, Bool.not_true, Bool.not_false]
    exact ⟨_, rfl⟩
  · rw [if_neg hk]
    simp only [go_sem, agg_z, one_z, Nat.reduceAdd, Nat.reduceSub, Nat.reduceMul, Nat.reduceDiv, Nat.reduceMod, Nat.reduceEqDiff, Nat.reduceLeDiff, Nat.reduceLT, Int.reduceLT, Int.reduceLE, Int.reduceEq, Int.reduceToNat, reduceIte, reduceCtorEq, List.length_nil, List.map_nil, List.length_cons, List.map_cons, List.replicate_succ, List.replicate_zero, List.set_cons_zero, List.set_cons_succ, List.take_succ_cons, List.take_zero, List.take_nil, List.length_append, List.map_append, List.cons_append, List.nil_append, List.drop_succ_cons, List.drop_zero, List.append_nil, List.getElem?_cons_zero, List.getElem?_cons_succ, eq_self, true_implies, not_true_eq_false, not_false_eq_true, false_implies, and_true, true_and, decide_true, decide_false, Bool.not_true, Bool.not_false]
    rw [i32 (l := withD a d) (by exact arr_outV rfl (List.length_map ..)) (by exact arr_outV rfl (List.length_map ..)) hwok (by omega)]
    simp only [go_sem, agg_z, one_z, Nat.reduceAdd, Nat.reduceSub, Nat.reduceMul, Nat.reduceDiv, Nat.reduceMod, Nat.reduceEqDiff, Nat.reduceLeDiff, Nat.reduceLT, Int.reduceLT, Int.reduceLE, Int.reduceEq, Int.reduceToNat, reduceIte, reduceCtorEq, List.length_nil, List.map_nil, List.length_cons, List.map_cons, List.replicate_succ, List.replicate_zero, List.set_cons_zero, List.set_cons_succ, List.take_succ_cons, List.take_zero, List.take_nil, List.length_append, List.map_append, List.cons_append, List.nil_append, List.drop_succ_cons, List.drop_zero, List.append_nil, List.getElem?_cons_zero, List.getElem?_cons_succ, eq_self, true_implies, not_true_eq_false, not_false_eq_true, false_implies, and_true, true_and, decide_true, decide_false, Bool.not_true, Bool.not_false]
    rw [i35 hA ha (by omega) hB hb (by omega) hub]
    simp only [go_sem, agg_z, one_z, Nat.reduceAdd, Nat.reduceSub, Nat.reduceMul, Nat.reduceDiv, Nat.reduceMod, Nat.reduceEqDiff, Nat.reduceLeDiff, Nat.reduceLT, Int.reduceLT, Int.reduceLE, Int.reduceEq, Int.reduceToNat, reduceIte, reduceCtorEq, List.length_nil, List.map_nil, List.length_cons, List.map_cons, List.replicate_succ, List.replicate_zero, List.set_cons_zero, List.set_cons_succ, List.take_succ_cons, List.take_zero, List.take_nil, List.length_append, List.map_append, List.cons_append, List.nil_append, List.drop_succ_cons, List.drop_zero, List.append_nil, List.getElem?_cons_zero, List.getElem?_cons_succ, eq_self, true_implies, not_true_eq_false, not_false_eq_true, false_implies, and_true, true_and, decide_true, decide_false, Bool.not_true, Bool.not_false]
    rw [i36 hA ha (by omega) hB hb (by omega) hua hub]
    simp only [go_sem, agg_z, one_z, Nat.reduceAdd, Nat.reduceSub, Nat.reduceMul, Nat.reduceDiv, Nat.reduceMod, Nat.reduceEqDiff, Nat.reduceLeDiff, Nat.reduceLT, Int.reduceLT, Int.reduceLE, Int.reduceEq, Int.reduceToNat, reduceIte, reduceCtorEq, List.length_nil, List.map_nil, List.length_cons, List.map_cons, List.replicate_succ, List.replicate_zero, List.set_cons_zero, List.set_cons_succ, List.take_succ_cons, List.take_zero, List.take_nil, List.length_append, List.map_append, List.cons_append, List.nil_append, List.drop_succ_cons, List.drop_zero, List.append_nil, List.getElem?_cons_zero, List.getElem?_cons_succ, eq_self, true_implies, not_true_eq_false, not_false_eq_true, false_implies, and_true, true_and, decide_true, decide_false, Bool.not_true, Bool.not_false]
    rw [i32 (l := joinP a b) (by exact arr_zV rfl (List.length_map ..)) (by exact selArr rfl (List.length_map ..) fun h => by rw [hno h]; exact hA) hjok (by omega)]
    simp only [go_sem, agg_z, one_z, Nat.reduceAdd, Nat.reduceSub, Nat.reduceMul, Nat.reduceDiv, Nat.reduceMod, Nat.reduceEqDiff, Nat.reduceLeDiff, Nat.reduceLT, Int.reduceLT, Int.reduceLE, Int.reduceEq, Int.reduceToNat, reduceIte, reduceCtorEq, List.length_nil, List.map_nil, List.length_cons, List.map_cons, List.replicate_succ, List.replicate_zero, List.set_cons_zero, List.set_cons_succ, List.take_succ_cons, List.take_zero, List.take_nil, List.length_append, List.map_append, List.cons_append, List.nil_append, List.drop_succ_cons, List.drop_zero, List.append_nil, List.getElem?_cons_zero, List.getElem?_cons_succ, eq_self, true_implies, not_true_eq_false, not_false_eq_true, false_implies, and_true, true_and, decide_true, decide_false, Bool.not_true, Bool.not_false]
    exact ⟨_, rfl⟩
end Go.Proofs
