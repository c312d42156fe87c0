/- once: one more in its session's place as the law has it: walked. -/
import Derived.Test.YtiadcabmonbgiaaZ15
set_option linter.all false
set_option linter.all false
set_option maxRecDepth 100000
namespace Go.Proofs
open Go Go.Ev
variable {H : Heap}

def newD (_ d : Dn) : Dn := d
theorem putGD_lo {f : Dn → Dn → Dn} {d : Dn} {q : List Dn} : ∀ {p : List Dn}, (∀ x ∈ p, x.ses < d.ses) → putGD f (p ++ q) d = p ++ putGD f q d
  | [], _ => rfl
  | x :: p, h => by
    rw [List.cons_append, putGD, if_pos (h x (by simp)), putGD_lo (p := p) fun y hy => h y (by simp [hy])]; rfl
theorem putGD_hi {f : Dn → Dn → Dn} {d c : Dn} : ∀ {p : List Dn}, (∃ x ∈ p, d.ses ≤ x.ses) → putGD f (p ++ [c]) d = putGD f p d ++ [c]
  | [], h => by obtain ⟨x, h, _⟩ := h; cases h
  | x :: p, h => by
    rw [List.cons_append, putGD, putGD]
    by_cases h1 : x.ses < d.ses
    · rw [if_pos h1, if_pos h1, putGD_hi (p := p) ?_]; · rfl
      obtain ⟨y, hy, h2⟩ := h
      rcases List.mem_cons.1 hy with rfl | hy
      · omega
      · exact ⟨y, hy, h2⟩
    · rw [if_neg h1, if_neg h1]
      by_cases h2 : x.ses = d.ses
      · rw [if_pos h2, if_pos h2]; rfl
      · rw [if_neg h2, if_neg h2]; rfl
theorem putGD_same {f g : Dn → Dn → Dn} {d : Dn} : ∀ {l : List Dn}, (∀ x ∈ l, x.ses = d.ses → f x d = g x d) → putGD f l d = putGD g l d
  | [], _ => rfl
  | x :: l, h => by
    rw [putGD, putGD, putGD_same (l := l) fun y hy => h y (by simp [hy])]
    by_cases h2 : x.ses = d.ses
    · rw [h x (by simp) h2]
    · rw [if_neg h2, if_neg h2]
def anyGe (l : List Dn) (d : Dn) : Bool := l.any fun c => decide (d.ses ≤ c.ses)
theorem anyGe_t {l : List Dn} {d : Dn} : anyGe l d = true ↔ ∃ x ∈ l, d.ses ≤ x.ses := by
  unfold anyGe
  rw [List.any_eq_true]
  exact ⟨fun ⟨x, h1, h2⟩ => ⟨x, h1, of_decide_eq_true h2⟩, fun ⟨x, h1, h2⟩ => ⟨x, h1, decide_eq_true h2⟩⟩
theorem anyGe_f {l : List Dn} {d : Dn} : anyGe l d = false ↔ ∀ x ∈ l, x.ses < d.ses := by
  rw [← Bool.not_eq_true, anyGe_t]
  exact ⟨fun h x hx => Classical.byContradiction fun g => h ⟨x, hx, by omega⟩, fun h ⟨x, hx, g⟩ => by have := h x hx; omega⟩
/-- what is gathered of the first ones -/
noncomputable def accR (l : List Dn) (d : Dn) : List Dn := if anyGe l d then putGD newD l d else l
theorem accR_ok {l : List Dn} {d : Dn} (h : allOk H l) (hd : d.an.ok H) : allOk H (accR l d) := fun c hc => by
  unfold accR at hc
  split at hc
  · rcases mem_putGD hc with rfl | hc | ⟨x, _, _, rfl⟩
    · exact hd
    · exact h c hc
    · exact hd
  · exact h c hc
theorem accR_len {l : List Dn} {d : Dn} : (accR l d).length ≤ l.length + 1 := by
  unfold accR
  split
  · exact putGD_len
  · omega
theorem any_snoc (l : List Dn) (c d : Dn) : anyGe (l ++ [c]) d = (anyGe l d || decide (d.ses ≤ c.ses)) := by
  unfold anyGe; rw [List.any_append, List.any_cons, List.any_nil, Bool.or_false]
theorem accR_lo {l : List Dn} {c d : Dn} (h : anyGe l d = false) (hc : ¬ d.ses ≤ c.ses) : anyGe (l ++ [c]) d = false ∧ accR (l ++ [c]) d = accR l d ++ [c] := by
  have h1 : anyGe (l ++ [c]) d = false := by rw [any_snoc, h, decide_eq_false hc]; rfl
  refine ⟨h1, ?_⟩
  unfold accR
  rw [h1, h]; rfl
theorem accR_now {l : List Dn} {c d : Dn} (h : anyGe l d = false) (hc : d.ses ≤ c.ses) : anyGe (l ++ [c]) d = true ∧ (¬ c.ses = d.ses → accR (l ++ [c]) d = accR l d ++ [d] ++ [c]) ∧ (c.ses = d.ses → accR (l ++ [c]) d = accR l d ++ [d]) := by
  have h1 : anyGe (l ++ [c]) d = true := by rw [any_snoc, h, decide_eq_true hc]; rfl
  refine ⟨h1, fun hn => ?_, fun hn => ?_⟩
  · unfold accR
    rw [h1, h, if_pos rfl, if_neg (by decide), putGD_lo (anyGe_f.1 h), putGD, if_neg (by omega), if_neg hn, List.append_assoc]; rfl
  · unfold accR
    rw [h1, h, if_pos rfl, if_neg (by decide), putGD_lo (anyGe_f.1 h), putGD, if_neg (by omega), if_pos hn]; rfl
theorem accR_hi {l : List Dn} {c d : Dn} (h : anyGe l d = true) : anyGe (l ++ [c]) d = true ∧ accR (l ++ [c]) d = accR l d ++ [c] := by
  have h1 : anyGe (l ++ [c]) d = true := by rw [any_snoc, h]; rfl
  refine ⟨h1, ?_⟩
  unfold accR
  rw [h1, h, if_pos rfl, if_pos rfl, putGD_hi (anyGe_t.1 h)]
def keepsD (l : List Dn) (d : Dn) : Prop := ∃ x, findD l d.ses = some x ∧ d.id < x.id
theorem withD_old {l : List Dn} {d : Dn} (h : upD l) (hk : keepsD l d) : withD l d = l := by
  obtain ⟨x, h1, h2⟩ := hk
  refine upD_ext (withD_up h) h fun k => ?_
  rw [find_with h]
  by_cases e : d.ses = k
  · subst e
    rw [if_pos rfl, h1]
    show some (lateD x d) = _
    rw [lateD, if_neg (by omega)]
  · rw [if_neg e]
theorem withD_new {l : List Dn} {d : Dn} (h : upD l) (hk : ¬ keepsD l d) : withD l d = putGD newD l d := by
  refine putGD_same fun x hx hs => ?_
  have := findD_at h hx
  rw [hs] at this
  have hle : x.id ≤ d.id := Classical.byContradiction fun g => hk ⟨x, this, by omega⟩
  rw [lateD, if_pos hle]; rfl
theorem withD_end {l : List Dn} {d : Dn} (h : upD l) (hk : ¬ keepsD l d) : (anyGe l d = true → withD l d = accR l d) ∧ (anyGe l d = false → withD l d = accR l d ++ [d]) := by
  rw [withD_new h hk]
  refine ⟨fun g => ?_, fun g => ?_⟩
  · unfold accR; rw [g, if_pos rfl]
  · have := putGD_lo (f := newD) (q := []) (anyGe_f.1 g)
    rw [List.append_nil] at this
    unfold accR; rw [g, if_neg (by decide), this]; rfl
theorem take_snoc {l : List Dn} {i : Nat} {c : Dn} (h : l[i]? = some c) : l.take (i + 1) = l.take i ++ [c] := by
  obtain ⟨hl, rfl⟩ := List.getElem?_eq_some_iff.1 h
  rw [List.take_succ_eq_append_getElem hl]
theorem rise_take {l : List Dn} {i : Nat} {c d : Dn} (hup : upD l) (h : l[i]? = some c) (hg : anyGe (l.take i) d = true) : ¬ c.ses = d.ses := by
  obtain ⟨x, hx, hle⟩ := anyGe_t.1 hg
  obtain ⟨q, hq⟩ := List.mem_iff_getElem?.1 hx
  rw [List.getElem?_take] at hq
  split at hq
  · rename_i hlt
    have := upD_rises hup q i x c hlt hq h
    omega
  · cases hq
theorem f34_keep {v : AV} {l : List Dn} {d : Dn} (hA : Arr H 6 v (l.map Dn.enc)) (ha : allOk H l) (hd : d.an.ok H) (hl : l.length < 100000) (hk : keepsD l d) :
    FnOk Try.prog 34 [v, .agg d.enc] H fun r G => r = v ∧ G = H := by
  refine FnOk.assume fun hok => ?_
  obtain ⟨x, hx, hlt⟩ := hk
  have hren := hA.ren
  refine FnOk.dropOld (R := fun r => r = v) ?_ (by rintro _ rfl top σ; exact hren top σ)
  refine FnOk.of_WW Try.func34 rfl C34ok R34ok E0 good_E0 ?_
  simp only [go_sem, C34, Nat.reduceAdd, Nat.reduceSub, Nat.reduceMul, Nat.reduceDiv, Nat.reduceMod, Nat.reduceEqDiff, Nat.reduceLeDiff, Nat.reduceLT, Int.reduceLT, Int.reduceLE, Int.reduceEq, Int.reduceToNat, reduceIte, reduceCtorEq, List.length_nil, List.map_nil, List.length_cons, List.map_cons, List.replicate_succ, List.replicate_zero, List.set_cons_zero, List.set_cons_succ, List.take_succ_cons, List.take_zero, List.take_nil, List.length_append, List.map_append, List.cons_append, List.nil_append, List.drop_succ_cons, List.drop_zero, List.append_nil, List.getElem?_cons_zero, List.getElem?_cons_succ, eq_self, true_implies, not_true_eq_false, not_false_eq_true, false_implies, and_true, true_and, decide_true, decide_false, Bool.not_true, Bool.not_false, Dn.enc]
  refine CL.of (f56_ok (hA.ext _) (ha.ext _) (by omega) d.ses) ?_
  rintro _ _ ⟨rfl, rfl⟩
  rw [hx]
  have hlt' : d.id < (foundD (some x)).id := hlt
  simp only [go_sem, Option.isSome_some, Dn.enc, hlt', Nat.reduceAdd, Nat.reduceSub, Nat.reduceMul, Nat.reduceDiv, Nat.reduceMod, Nat.reduceEqDiff, Nat.reduceLeDiff, Nat.reduceLT, Int.reduceLT, Int.reduceLE, Int.reduceEq, Int.reduceToNat, reduceIte, reduceCtorEq, List.length_nil, List.map_nil, List.length_cons, List.map_cons, List.replicate_succ, List.replicate_zero, List.set_cons_zero, List.set_cons_succ, List.take_succ_cons, List.take_zero, List.take_nil, List.length_append, List.map_append, List.cons_append, List.nil_append, List.drop_succ_cons, List.drop_zero, List.append_nil, List.getElem?_cons_zero, List.getElem?_cons_succ, eq_self, true_implies, not_true_eq_false, not_false_eq_true, false_implies, and_true, true_and, decide_true, decide_false, Bool.not_true, Bool.not_false]
  exact ⟨_, rfl⟩
theorem f34_with {v : AV} {l : List Dn} {d : Dn} (hA : Arr H 6 v (l.map Dn.enc)) (ha : allOk H l) (hd : d.an.ok H) (hup : upD l) (hl : l.length < 100000) (hk : ¬ keepsD l d) :
    FnOk Try.prog 34 [v, .agg d.enc] H fun r G => r = outV H.nx 6 (withD l d).length ∧ G = H.ext [outB 6 ((withD l d).map Dn.enc)] := by
  refine FnOk.assume fun hok => ?_
  refine FnOk.dropO' (List.length_map ..) (withD_ok ha hd).rens ?_
  refine FnOk.of_WW Try.func34 rfl C34ok R34ok E0 good_E0 ?_
  have hlen := fun G => hA.len G; simp only [List.length_map] at hlen; have hren := hA.ren
  have hdren := hd.ren
  have hap : ∀ i, allOk H (l.take i) := fun i c hc => ha c (List.mem_of_mem_take hc)
  have hend := withD_end hup hk
  have hacc0 : accR [] d = [] := rfl
  have hany0 : anyGe [] d = false := rfl
  simp only [go_sem, C34, Nat.reduceAdd, Nat.reduceSub, Nat.reduceMul, Nat.reduceDiv, Nat.reduceMod, Nat.reduceEqDiff, Nat.reduceLeDiff, Nat.reduceLT, Int.reduceLT, Int.reduceLE, Int.reduceEq, Int.reduceToNat, reduceIte, reduceCtorEq, List.length_nil, List.map_nil, List.length_cons, List.map_cons, List.replicate_succ, List.replicate_zero, List.set_cons_zero, List.set_cons_succ, List.take_succ_cons, List.take_zero, List.take_nil, List.length_append, List.map_append, List.cons_append, List.nil_append, List.drop_succ_cons, List.drop_zero, List.append_nil, List.getElem?_cons_zero, List.getElem?_cons_succ, eq_self, true_implies, not_true_eq_false, not_false_eq_true, false_implies, and_true, true_and, decide_true, decide_false, Bool.not_true, Bool.not_false, Dn.enc]
  refine CL.of (f56_ok (hA.ext _) (ha.ext _) (by omega) d.ses) ?_
  rintro _ _ ⟨rfl, rfl⟩
  have hgt : (findD l d.ses).isSome = true → ¬ d.id < (foundD (findD l d.ses)).id := fun h g => by
    obtain ⟨x, hx⟩ := Option.isSome_iff_exists.1 h
    rw [hx] at g
    exact hk ⟨x, hx, g⟩
  generalize foundD (findD l d.ses) = x at *
  have hgt2 : ∀ b, (findD l d.ses).isSome = b → (b = true → ¬ d.id < x.id) := fun b h g => hgt (h.trans g)
  generalize (findD l d.ses).isSome = b at *
  cases b
  rotate_left
  · have hgt' := hgt rfl
    simp only [go_sem, Dn.enc, hgt', Nat.reduceAdd, Nat.reduceSub, Nat.reduceMul, Nat.reduceDiv, Nat.reduceMod, Nat.reduceEqDiff, Nat.reduceLeDiff, Nat.reduceLT, Int.reduceLT, Int.reduceLE, Int.reduceEq, Int.reduceToNat, reduceIte, reduceCtorEq, List.length_nil, List.map_nil, List.length_cons, List.map_cons, List.replicate_succ, List.replicate_zero, List.set_cons_zero, List.set_cons_succ, List.take_succ_cons, List.take_zero, List.take_nil, List.length_append, List.map_append, List.cons_append, List.nil_append, List.drop_succ_cons, List.drop_zero, List.append_nil, List.getElem?_cons_zero, List.getElem?_cons_succ, eq_self, true_implies, not_true_eq_false, not_false_eq_true, false_implies, and_true, true_and, decide_true, decide_false, Bool.not_true, Bool.not_false]
    refine LL.st good_E0 (fun i : Nat => l.length - i) (fun i => i ≤ l.length)
      (fun i => [(.z, v), ((.o (.o .z)), .ptr (H.key 0) 0), ((.o (.o (.o .z))), outV (H.key 1) 6 (accR (l.take i) d).length), ((.i (.o (.o .z))), .bool (anyGe (l.take i) d)), ((.o (.i (.o .z))), .int .i64 i)])
      (fun i => [.row true 6 [[.int .i64 d.ses, .int .i64 d.id, .int .i64 d.an.code, .str d.an.val, .int .i64 d.an.ver, d.an.rv]], outB 6 ((accR (l.take i) d).map Dn.enc)]) ?_ 0 (σ := [0, 1]) (Wk.of rfl (by decide) (by simp only [go_sem, hren, outV_ren', List.take_zero, hacc0, hany0, List.length_nil, List.map_nil, List.length_cons, List.map_cons, List.replicate_succ, List.replicate_zero, List.set_cons_zero, List.set_cons_succ, List.take_succ_cons, List.take_zero, List.take_nil, List.length_append, List.map_append, List.cons_append, List.nil_append, List.drop_succ_cons, List.drop_zero, List.append_nil, List.getElem?_cons_zero, List.getElem?_cons_succ, Nat.reduceAdd, Nat.reduceSub, Nat.reduceMul, Nat.reduceDiv, Nat.reduceMod, Nat.reduceEqDiff, Nat.reduceLeDiff, Nat.reduceLT, Int.reduceLT, Int.reduceLE, Int.reduceEq, Int.reduceToNat, reduceIte, reduceCtorEq]) (by simp only [go_sem, List.take_zero, hacc0, hdren, ↓outB_ren', implies_true, List.length_nil, List.map_nil, List.length_cons, List.map_cons, List.replicate_succ, List.replicate_zero, List.set_cons_zero, List.set_cons_succ, List.take_succ_cons, List.take_zero, List.take_nil, List.length_append, List.map_append, List.cons_append, List.nil_append, List.drop_succ_cons, List.drop_zero, List.append_nil, List.getElem?_cons_zero, List.getElem?_cons_succ, Nat.reduceAdd, Nat.reduceSub, Nat.reduceMul, Nat.reduceDiv, Nat.reduceMod, Nat.reduceEqDiff, Nat.reduceLeDiff, Nat.reduceLT, Int.reduceLT, Int.reduceLE, Int.reduceEq, Int.reduceToNat, reduceIte, reduceCtorEq, eq_self, true_implies, not_true_eq_false, not_false_eq_true, false_implies, and_true, true_and, decide_true, decide_false, Bool.not_true, Bool.not_false])) (Nat.zero_le _)
    rintro i hi
    have hoi := accR_ok (hap i) hd
    have hln := accR_len (l := l.take i) (d := d)
    rw [List.length_take] at hln
    by_cases hlt : i < l.length
    · obtain ⟨kk, r, ex', cap', wr, rows, hv, hrho, hgo, hrow⟩ := hA.at hok (j := i) (by rw [List.length_map]; exact hlt); simp only [List.length_map, List.getElem_map] at hv hrow; cases hv; have hget : l[i]? = some l[i] := List.getElem?_eq_getElem hlt; generalize l[i] = c at hrow hget; have hw := wrap_succ (n := i) (by omega); have hci : (i : Int) < (l.length : Int) := (by omega); have hsi : i + 1 ≤ l.length := (by omega)
      have hco := ha c (List.mem_of_getElem? hget)
      have htk := take_snoc hget
      have hoi2 := (accR_ok (hap (i + 1)) hd).rens
      rw [htk] at hoi2
      have hrise := rise_take (d := d) hup hget
      cases hany : anyGe (l.take i) d
      · by_cases hge : d.ses ≤ c.ses
        · obtain ⟨n1, n2, n3⟩ := accR_now hany hge
          by_cases hne : c.ses = d.ses
          · have hnew := n3 hne
            rw [hnew] at hoi2
            have hneT := eq_true hne
            simp only [go_sem, ↓appR_hide, C34L0, Nat.reduceAdd, Nat.reduceSub, Nat.reduceMul, Nat.reduceDiv, Nat.reduceMod, Nat.reduceEqDiff, Nat.reduceLeDiff, Nat.reduceLT, Int.reduceLT, Int.reduceLE, Int.reduceEq, Int.reduceToNat, reduceIte, reduceCtorEq, List.length_nil, List.map_nil, List.length_cons, List.map_cons, List.replicate_succ, List.replicate_zero, List.set_cons_zero, List.set_cons_succ, List.take_succ_cons, List.take_zero, List.take_nil, List.length_append, List.map_append, List.cons_append, List.nil_append, List.drop_succ_cons, List.drop_zero, List.append_nil, List.getElem?_cons_zero, List.getElem?_cons_succ, eq_self, true_implies, not_true_eq_false, not_false_eq_true, false_implies, and_true, true_and, decide_true, decide_false, Bool.not_true, Bool.not_false, hlen, hci, hsi, hgo, hrow, hw, hge, hany, hneT, Dn.enc]
            refine RW_app _ [.int .i64 d.ses, .int .i64 d.id, .int .i64 d.an.code, .str d.an.val, .int .i64 d.an.ver, d.an.rv] rfl (List.length_map ..) rfl (okBig_le (by omega) (by decide)) ?_
            simp only [go_sem, ↓appR_hide, Nat.reduceAdd, Nat.reduceSub, Nat.reduceMul, Nat.reduceDiv, Nat.reduceMod, Nat.reduceEqDiff, Nat.reduceLeDiff, Nat.reduceLT, Int.reduceLT, Int.reduceLE, Int.reduceEq, Int.reduceToNat, reduceIte, reduceCtorEq, List.length_nil, List.map_nil, List.length_cons, List.map_cons, List.replicate_succ, List.replicate_zero, List.set_cons_zero, List.set_cons_succ, List.take_succ_cons, List.take_zero, List.take_nil, List.length_append, List.map_append, List.cons_append, List.nil_append, List.drop_succ_cons, List.drop_zero, List.append_nil, List.getElem?_cons_zero, List.getElem?_cons_succ, eq_self, true_implies, not_true_eq_false, not_false_eq_true, false_implies, and_true, true_and, decide_true, decide_false, Bool.not_true, Bool.not_false, hlen, hci, hsi, hgo, hrow, hw, hneT, Dn.enc]
            rw [show outB 6 ((accR (l.take i) d).map Dn.enc ++ [[.int .i64 d.ses, .int .i64 d.id, .int .i64 d.an.code, .str d.an.val, .int .i64 d.an.ver, d.an.rv]]) = outB 6 ((accR (l.take i) d ++ [d]).map Dn.enc) by rw [List.map_append]; rfl]
            exact ⟨i + 1, by show l.length - (i + 1) < l.length - i; omega, by show i + 1 ≤ l.length; omega, _, [0, 3], rfl, Wk.of rfl (by decide) (by simp only [go_sem, outV_ren', hrho, htk, hnew, n1, hany, List.length_nil, List.map_nil, List.length_cons, List.map_cons, List.replicate_succ, List.replicate_zero, List.set_cons_zero, List.set_cons_succ, List.take_succ_cons, List.take_zero, List.take_nil, List.length_append, List.map_append, List.cons_append, List.nil_append, List.drop_succ_cons, List.drop_zero, List.append_nil, List.getElem?_cons_zero, List.getElem?_cons_succ, Nat.reduceAdd, Nat.reduceSub, Nat.reduceMul, Nat.reduceDiv, Nat.reduceMod, Nat.reduceEqDiff, Nat.reduceLeDiff, Nat.reduceLT, Int.reduceLT, Int.reduceLE, Int.reduceEq, Int.reduceToNat, reduceIte, reduceCtorEq]) (by simp only [go_sem, ↓outB_ren', htk, hnew, hdren, hoi.rens, Dn.ren1 hd, Dn.ren1 hco, implies_true, List.length_nil, List.map_nil, List.length_cons, List.map_cons, List.replicate_succ, List.replicate_zero, List.set_cons_zero, List.set_cons_succ, List.take_succ_cons, List.take_zero, List.take_nil, List.length_append, List.map_append, List.cons_append, List.nil_append, List.drop_succ_cons, List.drop_zero, List.append_nil, List.getElem?_cons_zero, List.getElem?_cons_succ, Nat.reduceAdd, Nat.reduceSub, Nat.reduceMul, Nat.reduceDiv, Nat.reduceMod, Nat.reduceEqDiff, Nat.reduceLeDiff, Nat.reduceLT, Int.reduceLT, Int.reduceLE, Int.reduceEq, Int.reduceToNat, reduceIte, reduceCtorEq, eq_self, true_implies, not_true_eq_false, not_false_eq_true, false_implies, and_true, true_and, decide_true, decide_false, Bool.not_true, Bool.not_false])⟩
          · have hnew := n2 hne
            rw [hnew] at hoi2
            simp only [go_sem, ↓appR_hide, C34L0, Nat.reduceAdd, Nat.reduceSub, Nat.reduceMul, Nat.reduceDiv, Nat.reduceMod, Nat.reduceEqDiff, Nat.reduceLeDiff, Nat.reduceLT, Int.reduceLT, Int.reduceLE, Int.reduceEq, Int.reduceToNat, reduceIte, reduceCtorEq, List.length_nil, List.map_nil, List.length_cons, List.map_cons, List.replicate_succ, List.replicate_zero, List.set_cons_zero, List.set_cons_succ, List.take_succ_cons, List.take_zero, List.take_nil, List.length_append, List.map_append, List.cons_append, List.nil_append, List.drop_succ_cons, List.drop_zero, List.append_nil, List.getElem?_cons_zero, List.getElem?_cons_succ, eq_self, true_implies, not_true_eq_false, not_false_eq_true, false_implies, and_true, true_and, decide_true, decide_false, Bool.not_true, Bool.not_false, hlen, hci, hsi, hgo, hrow, hw, hge, hany, hne, Dn.enc]
            refine RW_app _ [.int .i64 d.ses, .int .i64 d.id, .int .i64 d.an.code, .str d.an.val, .int .i64 d.an.ver, d.an.rv] rfl (List.length_map ..) rfl (okBig_le (by omega) (by decide)) ?_
            simp only [go_sem, ↓appR_hide, Nat.reduceAdd, Nat.reduceSub, Nat.reduceMul, Nat.reduceDiv, Nat.reduceMod, Nat.reduceEqDiff, Nat.reduceLeDiff, Nat.reduceLT, Int.reduceLT, Int.reduceLE, Int.reduceEq, Int.reduceToNat, reduceIte, reduceCtorEq, List.length_nil, List.map_nil, List.length_cons, List.map_cons, List.replicate_succ, List.replicate_zero, List.set_cons_zero, List.set_cons_succ, List.take_succ_cons, List.take_zero, List.take_nil, List.length_append, List.map_append, List.cons_append, List.nil_append, List.drop_succ_cons, List.drop_zero, List.append_nil, List.getElem?_cons_zero, List.getElem?_cons_succ, eq_self, true_implies, not_true_eq_false, not_false_eq_true, false_implies, and_true, true_and, decide_true, decide_false, Bool.not_true, Bool.not_false, hlen, hci, hsi, hgo, hrow, hw, hne, Dn.enc]
            refine RW_app (n := (accR (l.take i) d).length + 1) ((accR (l.take i) d).map Dn.enc ++ [[.int .i64 d.ses, .int .i64 d.id, .int .i64 d.an.code, .str d.an.val, .int .i64 d.an.ver, d.an.rv]]) [.int .i64 c.ses, .int .i64 c.id, .int .i64 c.an.code, .str c.an.val, .int .i64 c.an.ver, c.an.rv] rfl (by rw [List.length_append, List.length_map]; rfl) rfl (okBig_le (by omega) (by decide)) ?_
            simp only [go_sem, ↓appR_hide, Nat.reduceAdd, Nat.reduceSub, Nat.reduceMul, Nat.reduceDiv, Nat.reduceMod, Nat.reduceEqDiff, Nat.reduceLeDiff, Nat.reduceLT, Int.reduceLT, Int.reduceLE, Int.reduceEq, Int.reduceToNat, reduceIte, reduceCtorEq, List.length_nil, List.map_nil, List.length_cons, List.map_cons, List.replicate_succ, List.replicate_zero, List.set_cons_zero, List.set_cons_succ, List.take_succ_cons, List.take_zero, List.take_nil, List.length_append, List.map_append, List.cons_append, List.nil_append, List.drop_succ_cons, List.drop_zero, List.append_nil, List.getElem?_cons_zero, List.getElem?_cons_succ, eq_self, true_implies, not_true_eq_false, not_false_eq_true, false_implies, and_true, true_and, decide_true, decide_false, Bool.not_true, Bool.not_false, hlen, hci, hsi, hgo, hrow, hw, hne, Dn.enc]
            rw [show outB 6 ((accR (l.take i) d).map Dn.enc ++ [[.int .i64 d.ses, .int .i64 d.id, .int .i64 d.an.code, .str d.an.val, .int .i64 d.an.ver, d.an.rv]] ++ [[.int .i64 c.ses, .int .i64 c.id, .int .i64 c.an.code, .str c.an.val, .int .i64 c.an.ver, c.an.rv]]) = outB 6 ((accR (l.take i) d ++ [d] ++ [c]).map Dn.enc) by rw [List.map_append, List.map_append]; rfl]
            exact ⟨i + 1, by show l.length - (i + 1) < l.length - i; omega, by show i + 1 ≤ l.length; omega, _, [0, 5], rfl, Wk.of rfl (by decide) (by simp only [go_sem, outV_ren', hrho, htk, hnew, n1, hany, List.length_nil, List.map_nil, List.length_cons, List.map_cons, List.replicate_succ, List.replicate_zero, List.set_cons_zero, List.set_cons_succ, List.take_succ_cons, List.take_zero, List.take_nil, List.length_append, List.map_append, List.cons_append, List.nil_append, List.drop_succ_cons, List.drop_zero, List.append_nil, List.getElem?_cons_zero, List.getElem?_cons_succ, Nat.reduceAdd, Nat.reduceSub, Nat.reduceMul, Nat.reduceDiv, Nat.reduceMod, Nat.reduceEqDiff, Nat.reduceLeDiff, Nat.reduceLT, Int.reduceLT, Int.reduceLE, Int.reduceEq, Int.reduceToNat, reduceIte, reduceCtorEq]) (by simp only [go_sem, ↓outB_ren', htk, hnew, hdren, hoi.rens, Dn.ren1 hd, Dn.ren1 hco, implies_true, List.length_nil, List.map_nil, List.length_cons, List.map_cons, List.replicate_succ, List.replicate_zero, List.set_cons_zero, List.set_cons_succ, List.take_succ_cons, List.take_zero, List.take_nil, List.length_append, List.map_append, List.cons_append, List.nil_append, List.drop_succ_cons, List.drop_zero, List.append_nil, List.getElem?_cons_zero, List.getElem?_cons_succ, Nat.reduceAdd, Nat.reduceSub, Nat.reduceMul, Nat.reduceDiv, Nat.reduceMod, Nat.reduceEqDiff, Nat.reduceLeDiff, Nat.reduceLT, Int.reduceLT, Int.reduceLE, Int.reduceEq, Int.reduceToNat, reduceIte, reduceCtorEq, eq_self, true_implies, not_true_eq_false, not_false_eq_true, false_implies, and_true, true_and, decide_true, decide_false, Bool.not_true, Bool.not_false])⟩
        · obtain ⟨n1, hnew⟩ := accR_lo hany hge
          rw [hnew] at hoi2
          have hne : ¬ c.ses = d.ses := by omega
          simp only [go_sem, ↓appR_hide, C34L0, Nat.reduceAdd, Nat.reduceSub, Nat.reduceMul, Nat.reduceDiv, Nat.reduceMod, Nat.reduceEqDiff, Nat.reduceLeDiff, Nat.reduceLT, Int.reduceLT, Int.reduceLE, Int.reduceEq, Int.reduceToNat, reduceIte, reduceCtorEq, List.length_nil, List.map_nil, List.length_cons, List.map_cons, List.replicate_succ, List.replicate_zero, List.set_cons_zero, List.set_cons_succ, List.take_succ_cons, List.take_zero, List.take_nil, List.length_append, List.map_append, List.cons_append, List.nil_append, List.drop_succ_cons, List.drop_zero, List.append_nil, List.getElem?_cons_zero, List.getElem?_cons_succ, eq_self, true_implies, not_true_eq_false, not_false_eq_true, false_implies, and_true, true_and, decide_true, decide_false, Bool.not_true, Bool.not_false, hlen, hci, hsi, hgo, hrow, hw, hge, hany, hne, Dn.enc]
          refine RW_app _ [.int .i64 c.ses, .int .i64 c.id, .int .i64 c.an.code, .str c.an.val, .int .i64 c.an.ver, c.an.rv] rfl (List.length_map ..) rfl (okBig_le (by omega) (by decide)) ?_
          simp only [go_sem, ↓appR_hide, Nat.reduceAdd, Nat.reduceSub, Nat.reduceMul, Nat.reduceDiv, Nat.reduceMod, Nat.reduceEqDiff, Nat.reduceLeDiff, Nat.reduceLT, Int.reduceLT, Int.reduceLE, Int.reduceEq, Int.reduceToNat, reduceIte, reduceCtorEq, List.length_nil, List.map_nil, List.length_cons, List.map_cons, List.replicate_succ, List.replicate_zero, List.set_cons_zero, List.set_cons_succ, List.take_succ_cons, List.take_zero, List.take_nil, List.length_append, List.map_append, List.cons_append, List.nil_append, List.drop_succ_cons, List.drop_zero, List.append_nil, List.getElem?_cons_zero, List.getElem?_cons_succ, eq_self, true_implies, not_true_eq_false, not_false_eq_true, false_implies, and_true, true_and, decide_true, decide_false, Bool.not_true, Bool.not_false, hlen, hci, hsi, hgo, hrow, hw, hne, Dn.enc]
          rw [show outB 6 ((accR (l.take i) d).map Dn.enc ++ [[.int .i64 c.ses, .int .i64 c.id, .int .i64 c.an.code, .str c.an.val, .int .i64 c.an.ver, c.an.rv]]) = outB 6 ((accR (l.take i) d ++ [c]).map Dn.enc) by rw [List.map_append]; rfl]
          exact ⟨i + 1, by show l.length - (i + 1) < l.length - i; omega, by show i + 1 ≤ l.length; omega, _, [0, 3], rfl, Wk.of rfl (by decide) (by simp only [go_sem, outV_ren', hrho, htk, hnew, n1, hany, List.length_nil, List.map_nil, List.length_cons, List.map_cons, List.replicate_succ, List.replicate_zero, List.set_cons_zero, List.set_cons_succ, List.take_succ_cons, List.take_zero, List.take_nil, List.length_append, List.map_append, List.cons_append, List.nil_append, List.drop_succ_cons, List.drop_zero, List.append_nil, List.getElem?_cons_zero, List.getElem?_cons_succ, Nat.reduceAdd, Nat.reduceSub, Nat.reduceMul, Nat.reduceDiv, Nat.reduceMod, Nat.reduceEqDiff, Nat.reduceLeDiff, Nat.reduceLT, Int.reduceLT, Int.reduceLE, Int.reduceEq, Int.reduceToNat, reduceIte, reduceCtorEq]) (by simp only [go_sem, ↓outB_ren', htk, hnew, hdren, hoi.rens, Dn.ren1 hd, Dn.ren1 hco, implies_true, List.length_nil, List.map_nil, List.length_cons, List.map_cons, List.replicate_succ, List.replicate_zero, List.set_cons_zero, List.set_cons_succ, List.take_succ_cons, List.take_zero, List.take_nil, List.length_append, List.map_append, List.cons_append, List.nil_append, List.drop_succ_cons, List.drop_zero, List.append_nil, List.getElem?_cons_zero, List.getElem?_cons_succ, Nat.reduceAdd, Nat.reduceSub, Nat.reduceMul, Nat.reduceDiv, Nat.reduceMod, Nat.reduceEqDiff, Nat.reduceLeDiff, Nat.reduceLT, Int.reduceLT, Int.reduceLE, Int.reduceEq, Int.reduceToNat, reduceIte, reduceCtorEq, eq_self, true_implies, not_true_eq_false, not_false_eq_true, false_implies, and_true, true_and, decide_true, decide_false, Bool.not_true, Bool.not_false])⟩
      · obtain ⟨n1, hnew⟩ := accR_hi (c := c) hany
        rw [hnew] at hoi2
        have hne := hrise hany
        simp only [go_sem, ↓appR_hide, C34L0, Nat.reduceAdd, Nat.reduceSub, Nat.reduceMul, Nat.reduceDiv, Nat.reduceMod, Nat.reduceEqDiff, Nat.reduceLeDiff, Nat.reduceLT, Int.reduceLT, Int.reduceLE, Int.reduceEq, Int.reduceToNat, reduceIte, reduceCtorEq, List.length_nil, List.map_nil, List.length_cons, List.map_cons, List.replicate_succ, List.replicate_zero, List.set_cons_zero, List.set_cons_succ, List.take_succ_cons, List.take_zero, List.take_nil, List.length_append, List.map_append, List.cons_append, List.nil_append, List.drop_succ_cons, List.drop_zero, List.append_nil, List.getElem?_cons_zero, List.getElem?_cons_succ, eq_self, true_implies, not_true_eq_false, not_false_eq_true, false_implies, and_true, true_and, decide_true, decide_false, Bool.not_true, Bool.not_false, hlen, hci, hsi, hgo, hrow, hw, hany, hne, Dn.enc]
        refine RW_app _ [.int .i64 c.ses, .int .i64 c.id, .int .i64 c.an.code, .str c.an.val, .int .i64 c.an.ver, c.an.rv] rfl (List.length_map ..) rfl (okBig_le (by omega) (by decide)) ?_
        simp only [go_sem, ↓appR_hide, Nat.reduceAdd, Nat.reduceSub, Nat.reduceMul, Nat.reduceDiv, Nat.reduceMod, Nat.reduceEqDiff, Nat.reduceLeDiff, Nat.reduceLT, Int.reduceLT, Int.reduceLE, Int.reduceEq, Int.reduceToNat, reduceIte, reduceCtorEq, List.length_nil, List.map_nil, List.length_cons, List.map_cons, List.replicate_succ, List.replicate_zero, List.set_cons_zero, List.set_cons_succ, List.take_succ_cons, List.take_zero, List.take_nil, List.length_append, List.map_append, List.cons_append, List.nil_append, List.drop_succ_cons, List.drop_zero, List.append_nil, List.getElem?_cons_zero, List.getElem?_cons_succ, eq_self, true_implies, not_true_eq_false, not_false_eq_true, false_implies, and_true, true_and, decide_true, decide_false, Bool.not_true, Bool.not_false, hlen, hci, hsi, hgo, hrow, hw, hne, Dn.enc]
        rw [show outB 6 ((accR (l.take i) d).map Dn.enc ++ [[.int .i64 c.ses, .int .i64 c.id, .int .i64 c.an.code, .str c.an.val, .int .i64 c.an.ver, c.an.rv]]) = outB 6 ((accR (l.take i) d ++ [c]).map Dn.enc) by rw [List.map_append]; rfl]
        exact ⟨i + 1, by show l.length - (i + 1) < l.length - i; omega, by show i + 1 ≤ l.length; omega, _, [0, 3], rfl, Wk.of rfl (by decide) (by simp only [go_sem, outV_ren', hrho, htk, hnew, n1, hany, List.length_nil, List.map_nil, List.length_cons, List.map_cons, List.replicate_succ, List.replicate_zero, List.set_cons_zero, List.set_cons_succ, List.take_succ_cons, List.take_zero, List.take_nil, List.length_append, List.map_append, List.cons_append, List.nil_append, List.drop_succ_cons, List.drop_zero, List.append_nil, List.getElem?_cons_zero, List.getElem?_cons_succ, Nat.reduceAdd, Nat.reduceSub, Nat.reduceMul, Nat.reduceDiv, Nat.reduceMod, Nat.reduceEqDiff, Nat.reduceLeDiff, Nat.reduceLT, Int.reduceLT, Int.reduceLE, Int.reduceEq, Int.reduceToNat, reduceIte, reduceCtorEq]) (by simp only [go_sem, ↓outB_ren', htk, hnew, hdren, hoi.rens, Dn.ren1 hd, Dn.ren1 hco, implies_true, List.length_nil, List.map_nil, List.length_cons, List.map_cons, List.replicate_succ, List.replicate_zero, List.set_cons_zero, List.set_cons_succ, List.take_succ_cons, List.take_zero, List.take_nil, List.length_append, List.map_append, List.cons_append, List.nil_append, List.drop_succ_cons, List.drop_zero, List.append_nil, List.getElem?_cons_zero, List.getElem?_cons_succ, Nat.reduceAdd, Nat.reduceSub, Nat.reduceMul, Nat.reduceDiv, Nat.reduceMod, Nat.reduceEqDiff, Nat.reduceLeDiff, Nat.reduceLT, Int.reduceLT, Int.reduceLE, Int.reduceEq, Int.reduceToNat, reduceIte, reduceCtorEq, eq_self, true_implies, not_true_eq_false, not_false_eq_true, false_implies, and_true, true_and, decide_true, decide_false, Bool.not_true, Bool.not_false])⟩
    · have hci : ¬ (i : Int) < (l.length : Int) := by omega
      have htk : l.take i = l := List.take_of_length_le (by omega)
      rw [htk] at hoi hln ⊢
      cases hany : anyGe l d
      · have hnew := hend.2 hany
        simp only [go_sem, ↓appR_hide, C34L0, Nat.reduceAdd, Nat.reduceSub, Nat.reduceMul, Nat.reduceDiv, Nat.reduceMod, Nat.reduceEqDiff, Nat.reduceLeDiff, Nat.reduceLT, Int.reduceLT, Int.reduceLE, Int.reduceEq, Int.reduceToNat, reduceIte, reduceCtorEq, List.length_nil, List.map_nil, List.length_cons, List.map_cons, List.replicate_succ, List.replicate_zero, List.set_cons_zero, List.set_cons_succ, List.take_succ_cons, List.take_zero, List.take_nil, List.length_append, List.map_append, List.cons_append, List.nil_append, List.drop_succ_cons, List.drop_zero, List.append_nil, List.getElem?_cons_zero, List.getElem?_cons_succ, eq_self, true_implies, not_true_eq_false, not_false_eq_true, false_implies, and_true, true_and, decide_true, decide_false, Bool.not_true, Bool.not_false, hlen, hci, hany, Dn.enc]
        refine RW_app _ [.int .i64 d.ses, .int .i64 d.id, .int .i64 d.an.code, .str d.an.val, .int .i64 d.an.ver, d.an.rv] rfl (List.length_map ..) rfl (okBig_le (by omega) (by decide)) ?_
        simp only [go_sem, ↓appR_hide, Nat.reduceAdd, Nat.reduceSub, Nat.reduceMul, Nat.reduceDiv, Nat.reduceMod, Nat.reduceEqDiff, Nat.reduceLeDiff, Nat.reduceLT, Int.reduceLT, Int.reduceLE, Int.reduceEq, Int.reduceToNat, reduceIte, reduceCtorEq, List.length_nil, List.map_nil, List.length_cons, List.map_cons, List.replicate_succ, List.replicate_zero, List.set_cons_zero, List.set_cons_succ, List.take_succ_cons, List.take_zero, List.take_nil, List.length_append, List.map_append, List.cons_append, List.nil_append, List.drop_succ_cons, List.drop_zero, List.append_nil, List.getElem?_cons_zero, List.getElem?_cons_succ, eq_self, true_implies, not_true_eq_false, not_false_eq_true, false_implies, and_true, true_and, decide_true, decide_false, Bool.not_true, Bool.not_false, Dn.enc]
        rw [hnew]
        exact ⟨_, 3, by rw [List.length_append]; rfl, rfl, fun _ => by rw [List.map_append]; rfl⟩
      · have hnew := hend.1 hany
        simp only [go_sem, ↓appR_hide, C34L0, Nat.reduceAdd, Nat.reduceSub, Nat.reduceMul, Nat.reduceDiv, Nat.reduceMod, Nat.reduceEqDiff, Nat.reduceLeDiff, Nat.reduceLT, Int.reduceLT, Int.reduceLE, Int.reduceEq, Int.reduceToNat, reduceIte, reduceCtorEq, List.length_nil, List.map_nil, List.length_cons, List.map_cons, List.replicate_succ, List.replicate_zero, List.set_cons_zero, List.set_cons_succ, List.take_succ_cons, List.take_zero, List.take_nil, List.length_append, List.map_append, List.cons_append, List.nil_append, List.drop_succ_cons, List.drop_zero, List.append_nil, List.getElem?_cons_zero, List.getElem?_cons_succ, eq_self, true_implies, not_true_eq_false, not_false_eq_true, false_implies, and_true, true_and, decide_true, decide_false, Bool.not_true, Bool.not_false, hlen, hci, hany, Dn.enc]
        rw [hnew]
        exact ⟨_, 1, rfl, rfl, fun _ => rfl⟩
  · simp only [go_sem, Dn.enc, Nat.reduceAdd, Nat.reduceSub, Nat.reduceMul, Nat.reduceDiv, Nat.reduceMod, Nat.reduceEqDiff, Nat.reduceLeDiff, Nat.reduceLT, Int.reduceLT, Int.reduceLE, Int.reduceEq, Int.reduceToNat, reduceIte, reduceCtorEq, List.length_nil, List.map_nil, List.length_cons, List.map_cons, List.replicate_succ, List.replicate_zero, List.set_cons_zero, List.set_cons_succ, List.take_succ_cons, List.take_zero, List.take_nil, List.length_append, List.map_append, List.cons_append, List.nil_append, List.drop_succ_cons, List.drop_zero, List.append_nil, List.getElem?_cons_zero, List.getElem?_cons_succ, eq_self, true_implies, not_true_eq_false, not_false_eq_true, false_implies, and_true, true_and, decide_true, decide_false, Bool.not_true, Bool.not_false]
    refine LL.st good_E0 (fun i : Nat => l.length - i) (fun i => i ≤ l.length)
      (fun i => [(.z, v), ((.o (.o .z)), .ptr (H.key 0) 0), ((.o (.o (.o .z))), outV (H.key 1) 6 (accR (l.take i) d).length), ((.i (.o (.o .z))), .bool (anyGe (l.take i) d)), ((.o (.i (.o .z))), .int .i64 i)])
      (fun i => [.row true 6 [[.int .i64 d.ses, .int .i64 d.id, .int .i64 d.an.code, .str d.an.val, .int .i64 d.an.ver, d.an.rv]], outB 6 ((accR (l.take i) d).map Dn.enc)]) ?_ 0 (σ := [0, 1]) (Wk.of rfl (by decide) (by simp only [go_sem, hren, outV_ren', List.take_zero, hacc0, hany0, List.length_nil, List.map_nil, List.length_cons, List.map_cons, List.replicate_succ, List.replicate_zero, List.set_cons_zero, List.set_cons_succ, List.take_succ_cons, List.take_zero, List.take_nil, List.length_append, List.map_append, List.cons_append, List.nil_append, List.drop_succ_cons, List.drop_zero, List.append_nil, List.getElem?_cons_zero, List.getElem?_cons_succ, Nat.reduceAdd, Nat.reduceSub, Nat.reduceMul, Nat.reduceDiv, Nat.reduceMod, Nat.reduceEqDiff, Nat.reduceLeDiff, Nat.reduceLT, Int.reduceLT, Int.reduceLE, Int.reduceEq, Int.reduceToNat, reduceIte, reduceCtorEq]) (by simp only [go_sem, List.take_zero, hacc0, hdren, ↓outB_ren', implies_true, List.length_nil, List.map_nil, List.length_cons, List.map_cons, List.replicate_succ, List.replicate_zero, List.set_cons_zero, List.set_cons_succ, List.take_succ_cons, List.take_zero, List.take_nil, List.length_append, List.map_append, List.cons_append, List.nil_append, List.drop_succ_cons, List.drop_zero, List.append_nil, List.getElem?_cons_zero, List.getElem?_cons_succ, Nat.reduceAdd, Nat.reduceSub, Nat.reduceMul, Nat.reduceDiv, Nat.reduceMod, Nat.reduceEqDiff, Nat.reduceLeDiff, Nat.reduceLT, Int.reduceLT, Int.reduceLE, Int.reduceEq, Int.reduceToNat, reduceIte, reduceCtorEq, eq_self, true_implies, not_true_eq_false, not_false_eq_true, false_implies, and_true, true_and, decide_true, decide_false, Bool.not_true, Bool.not_false])) (Nat.zero_le _)
    rintro i hi
    have hoi := accR_ok (hap i) hd
    have hln := accR_len (l := l.take i) (d := d)
    rw [List.length_take] at hln
    by_cases hlt : i < l.length
    · obtain ⟨kk, r, ex', cap', wr, rows, hv, hrho, hgo, hrow⟩ := hA.at hok (j := i) (by rw [List.length_map]; exact hlt); simp only [List.length_map, List.getElem_map] at hv hrow; cases hv; have hget : l[i]? = some l[i] := List.getElem?_eq_getElem hlt; generalize l[i] = c at hrow hget; have hw := wrap_succ (n := i) (by omega); have hci : (i : Int) < (l.length : Int) := (by omega); have hsi : i + 1 ≤ l.length := (by omega)
      have hco := ha c (List.mem_of_getElem? hget)
      have htk := take_snoc hget
      have hoi2 := (accR_ok (hap (i + 1)) hd).rens
      rw [htk] at hoi2
      have hrise := rise_take (d := d) hup hget
      cases hany : anyGe (l.take i) d
      · by_cases hge : d.ses ≤ c.ses
        · obtain ⟨n1, n2, n3⟩ := accR_now hany hge
          by_cases hne : c.ses = d.ses
          · have hnew := n3 hne
            rw [hnew] at hoi2
            have hneT := eq_true hne
            simp only [go_sem, ↓appR_hide, C34L0, Nat.reduceAdd, Nat.reduceSub, Nat.reduceMul, Nat.reduceDiv, Nat.reduceMod, Nat.reduceEqDiff, Nat.reduceLeDiff, Nat.reduceLT, Int.reduceLT, Int.reduceLE, Int.reduceEq, Int.reduceToNat, reduceIte, reduceCtorEq, List.length_nil, List.map_nil, List.length_cons, List.map_cons, List.replicate_succ, List.replicate_zero, List.set_cons_zero, List.set_cons_succ, List.take_succ_cons, List.take_zero, List.take_nil, List.length_append, List.map_append, List.cons_append, List.nil_append, List.drop_succ_cons, List.drop_zero, List.append_nil, List.getElem?_cons_zero, List.getElem?_cons_succ, eq_self, true_implies, not_true_eq_false, not_false_eq_true, false_implies, and_true, true_and, decide_true, decide_false, Bool.not_true, Bool.not_false, hlen, hci, hsi, hgo, hrow, hw, hge, hany, hneT, Dn.enc]
            refine RW_app _ [.int .i64 d.ses, .int .i64 d.id, .int .i64 d.an.code, .str d.an.val, .int .i64 d.an.ver, d.an.rv] rfl (List.length_map ..) rfl (okBig_le (by omega) (by decide)) ?_
            simp only [go_sem, ↓appR_hide, Nat.reduceAdd, Nat.reduceSub, Nat.reduceMul, Nat.reduceDiv, Nat.reduceMod, Nat.reduceEqDiff, Nat.reduceLeDiff, Nat.reduceLT, Int.reduceLT, Int.reduceLE, Int.reduceEq, Int.reduceToNat, reduceIte, reduceCtorEq, List.length_nil, List.map_nil, List.length_cons, List.map_cons, List.replicate_succ, List.replicate_zero, List.set_cons_zero, List.set_cons_succ, List.take_succ_cons, List.take_zero, List.take_nil, List.length_append, List.map_append, List.cons_append, List.nil_append, List.drop_succ_cons, List.drop_zero, List.append_nil, List.getElem?_cons_zero, List.getElem?_cons_succ, eq_self, true_implies, not_true_eq_false, not_false_eq_true, false_implies, and_true, true_and, decide_true, decide_false, Bool.not_true, Bool.not_false, hlen, hci, hsi, hgo, hrow, hw, hneT, Dn.enc]
            rw [show outB 6 ((accR (l.take i) d).map Dn.enc ++ [[.int .i64 d.ses, .int .i64 d.id, .int .i64 d.an.code, .str d.an.val, .int .i64 d.an.ver, d.an.rv]]) = outB 6 ((accR (l.take i) d ++ [d]).map Dn.enc) by rw [List.map_append]; rfl]
            exact ⟨i + 1, by show l.length - (i + 1) < l.length - i; omega, by show i + 1 ≤ l.length; omega, _, [0, 3], rfl, Wk.of rfl (by decide) (by simp only [go_sem, outV_ren', hrho, htk, hnew, n1, hany, List.length_nil, List.map_nil, List.length_cons, List.map_cons, List.replicate_succ, List.replicate_zero, List.set_cons_zero, List.set_cons_succ, List.take_succ_cons, List.take_zero, List.take_nil, List.length_append, List.map_append, List.cons_append, List.nil_append, List.drop_succ_cons, List.drop_zero, List.append_nil, List.getElem?_cons_zero, List.getElem?_cons_succ, Nat.reduceAdd, Nat.reduceSub, Nat.reduceMul, Nat.reduceDiv, Nat.reduceMod, Nat.reduceEqDiff, Nat.reduceLeDiff, Nat.reduceLT, Int.reduceLT, Int.reduceLE, Int.reduceEq, Int.reduceToNat, reduceIte, reduceCtorEq]) (by simp only [go_sem, ↓outB_ren', htk, hnew, hdren, hoi.rens, Dn.ren1 hd, Dn.ren1 hco, implies_true, List.length_nil, List.map_nil, List.length_cons, List.map_cons, List.replicate_succ, List.replicate_zero, List.set_cons_zero, List.set_cons_succ, List.take_succ_cons, List.take_zero, List.take_nil, List.length_append, List.map_append, List.cons_append, List.nil_append, List.drop_succ_cons, List.drop_zero, List.append_nil, List.getElem?_cons_zero, List.getElem?_cons_succ, Nat.reduceAdd, Nat.reduceSub, Nat.reduceMul, Nat.reduceDiv, Nat.reduceMod, Nat.reduceEqDiff, Nat.reduceLeDiff, Nat.reduceLT, Int.reduceLT, Int.reduceLE, Int.reduceEq, Int.reduceToNat, reduceIte, reduceCtorEq, eq_self, true_implies, not_true_eq_false, not_false_eq_true, false_implies, and_true, true_and, decide_true, decide_false, Bool.not_true, Bool.not_false])⟩
          · have hnew := n2 hne
            rw [hnew] at hoi2
            simp only [go_sem, ↓appR_hide, C34L0, Nat.reduceAdd, Nat.reduceSub, Nat.reduceMul, Nat.reduceDiv, Nat.reduceMod, Nat.reduceEqDiff, Nat.reduceLeDiff, Nat.reduceLT, Int.reduceLT, Int.reduceLE, Int.reduceEq, Int.reduceToNat, reduceIte, reduceCtorEq, List.length_nil, List.map_nil, List.length_cons, List.map_cons, List.replicate_succ, List.replicate_zero, List.set_cons_zero, List.set_cons_succ, List.take_succ_cons, List.take_zero, List.take_nil, List.length_append, List.map_append, List.cons_append, List.nil_append, List.drop_succ_cons, List.drop_zero, List.append_nil, List.getElem?_cons_zero, List.getElem?_cons_succ, eq_self, true_implies, not_true_eq_false, not_false_eq_true, false_implies, and_true, true_and, decide_true, decide_false, Bool.not_true, Bool.not_false, hlen, hci, hsi, hgo, hrow, hw, hge, hany, hne, Dn.enc]
            refine RW_app _ [.int .i64 d.ses, .int .i64 d.id, .int .i64 d.an.code, .str d.an.val, .int .i64 d.an.ver, d.an.rv] rfl (List.length_map ..) rfl (okBig_le (by omega) (by decide)) ?_
            simp only [go_sem, ↓appR_hide, Nat.reduceAdd, Nat.reduceSub, Nat.reduceMul, Nat.reduceDiv, Nat.reduceMod, Nat.reduceEqDiff, Nat.reduceLeDiff, Nat.reduceLT, Int.reduceLT, Int.reduceLE, Int.reduceEq, Int.reduceToNat, reduceIte, reduceCtorEq, List.length_nil, List.map_nil, List.length_cons, List.map_cons, List.replicate_succ, List.replicate_zero, List.set_cons_zero, List.set_cons_succ, List.take_succ_cons, List.take_zero, List.take_nil, List.length_append, List.map_append, List.cons_append, List.nil_append, List.drop_succ_cons, List.drop_zero, List.append_nil, List.getElem?_cons_zero, List.getElem?_cons_succ, eq_self, true_implies, not_true_eq_false, not_false_eq_true, false_implies, and_true, true_and, decide_true, decide_false, Bool.not_true, Bool.not_false, hlen, hci, hsi, hgo, hrow, hw, hne, Dn.enc]
            refine RW_app (n := (accR (l.take i) d).length + 1) ((accR (l.take i) d).map Dn.enc ++ [[.int .i64 d.ses, .int .i64 d.id, .int .i64 d.an.code, .str d.an.val, .int .i64 d.an.ver, d.an.rv]]) [.int .i64 c.ses, .int .i64 c.id, .int .i64 c.an.code, .str c.an.val, .int .i64 c.an.ver, c.an.rv] rfl (by rw [List.length_append, List.length_map]; rfl) rfl (okBig_le (by omega) (by decide)) ?_
            simp only [go_sem, ↓appR_hide, Nat.reduceAdd, Nat.reduceSub, Nat.reduceMul, Nat.reduceDiv, Nat.reduceMod, Nat.reduceEqDiff, Nat.reduceLeDiff, Nat.reduceLT, Int.reduceLT, Int.reduceLE, Int.reduceEq, Int.reduceToNat, reduceIte, reduceCtorEq, List.length_nil, List.map_nil, List.length_cons, List.map_cons, List.replicate_succ, List.replicate_zero, List.set_cons_zero, List.set_cons_succ, List.take_succ_cons, List.take_zero, List.take_nil, List.length_append, List.map_append, List.cons_append, List.nil_append, List.drop_succ_cons, List.drop_zero, List.append_nil, List.getElem?_cons_zero, List.getElem?_cons_succ, eq_self, true_implies, not_true_eq_false, not_false_eq_true, false_implies, and_true, true_and, decide_true, decide_false, Bool.not_true, Bool.not_false, hlen, hci, hsi, hgo, hrow, hw, hne, Dn.enc]
            rw [show outB 6 ((accR (l.take i) d).map Dn.enc ++ [[.int .i64 d.ses, .int .i64 d.id, .int .i64 d.an.code, .str d.an.val, .int .i64 d.an.ver, d.an.rv]] ++ [[.int .i64 c.ses, .int .i64 c.id, .int .i64 c.an.code, .str c.an.val, .int .i64 c.an.ver, c.an.rv]]) = outB 6 ((accR (l.take i) d ++ [d] ++ [c]).map Dn.enc) by rw [List.map_append, List.map_append]; rfl]
            exact ⟨i + 1, by show l.length - (i + 1) < l.length - i; omega, by show i + 1 ≤ l.length; omega, _, [0, 5], rfl, Wk.of rfl (by decide) (by simp only [go_sem, outV_ren', hrho, htk, hnew, n1, hany, List.length_nil, List.map_nil, List.length_cons, List.map_cons, List.replicate_succ, List.replicate_zero, List.set_cons_zero, List.set_cons_succ, List.take_succ_cons, List.take_zero, List.take_nil, List.length_append, List.map_append, List.cons_append, List.nil_append, List.drop_succ_cons, List.drop_zero, List.append_nil, List.getElem?_cons_zero, List.getElem?_cons_succ, Nat.reduceAdd, Nat.reduceSub, Nat.reduceMul, Nat.reduceDiv, Nat.reduceMod, Nat.reduceEqDiff, Nat.reduceLeDiff, Nat.reduceLT, Int.reduceLT, Int.reduceLE, Int.reduceEq, Int.reduceToNat, reduceIte, reduceCtorEq]) (by simp only [go_sem, ↓outB_ren', htk, hnew, hdren, hoi.rens, Dn.ren1 hd, Dn.ren1 hco, implies_true, List.length_nil, List.map_nil, List.length_cons, List.map_cons, List.replicate_succ, List.replicate_zero, List.set_cons_zero, List.set_cons_succ, List.take_succ_cons, List.take_zero, List.take_nil, List.length_append, List.map_append, List.cons_append, List.nil_append, List.drop_succ_cons, List.drop_zero, List.append_nil, List.getElem?_cons_zero, List.getElem?_cons_succ, Nat.reduceAdd, Nat.reduceSub, Nat.reduceMul, Nat.reduceDiv, Nat.reduceMod, Nat.reduceEqDiff, Nat.reduceLeDiff, Nat.reduceLT, Int.reduceLT, Int.reduceLE, Int.reduceEq, Int.reduceToNat, reduceIte, reduceCtorEq, eq_self, true_implies, not_true_eq_false, not_false_eq_true, false_implies, and_true, true_and, decide_true, decide_false, Bool.not_true, Bool.not_false])⟩
        · obtain ⟨n1, hnew⟩ := accR_lo hany hge
          rw [hnew] at hoi2
          have hne : ¬ c.ses = d.ses := by omega
          simp only [go_sem, ↓appR_hide, C34L0, Nat.reduceAdd, Nat.reduceSub, Nat.reduceMul, Nat.reduceDiv, Nat.reduceMod, Nat.reduceEqDiff, Nat.reduceLeDiff, Nat.reduceLT, Int.reduceLT, Int.reduceLE, Int.reduceEq, Int.reduceToNat, reduceIte, reduceCtorEq, List.length_nil, List.map_nil, List.length_cons, List.map_cons, List.replicate_succ, List.replicate_zero, List.set_cons_zero, List.set_cons_succ, List.take_succ_cons, List.take_zero, List.take_nil, List.length_append, List.map_append, List.cons_append, List.nil_append, List.drop_succ_cons, List.drop_zero, List.append_nil, List.getElem?_cons_zero, List.getElem?_cons_succ, eq_self, true_implies, not_true_eq_false, not_false_eq_true, false_implies, and_true, true_and, decide_true, decide_false, Bool.not_true, Bool.not_false, hlen, hci, hsi, hgo, hrow, hw, hge, hany, hne, Dn.enc]
          refine RW_app _ [.int .i64 c.ses, .int .i64 c.id, .int .i64 c.an.code, .str c.an.val, .int .i64 c.an.ver, c.an.rv] rfl (List.length_map ..) rfl (okBig_le (by omega) (by decide)) ?_
          simp only [go_sem, ↓appR_hide, Nat.reduceAdd, Nat.reduceSub, Nat.reduceMul, Nat.reduceDiv, Nat.reduceMod, Nat.reduceEqDiff, Nat.reduceLeDiff, Nat.reduceLT, Int.reduceLT, Int.reduceLE, Int.reduceEq, Int.reduceToNat, reduceIte, reduceCtorEq, List.length_nil, List.map_nil, List.length_cons, List.map_cons, List.replicate_succ, List.replicate_zero, List.set_cons_zero, List.set_cons_succ, List.take_succ_cons, List.take_zero, List.take_nil, List.length_append, List.map_append, List.cons_append, List.nil_append, List.drop_succ_cons, List.drop_zero, List.append_nil, List.getElem?_cons_zero, List.getElem?_cons_succ, eq_self, true_implies, not_true_eq_false, not_false_eq_true, false_implies, and_true, true_and, decide_true, decide_false, Bool.not_true, Bool.not_false, hlen, hci, hsi, hgo, hrow, hw, hne, Dn.enc]
          rw [show outB 6 ((accR (l.take i) d).map Dn.enc ++ [[.int .i64 c.ses, .int .i64 c.id, .int .i64 c.an.code, .str c.an.val, .int .i64 c.an.ver, c.an.rv]]) = outB 6 ((accR (l.take i) d ++ [c]).map Dn.enc) by rw [List.map_append]; rfl]
          exact ⟨i + 1, by show l.length - (i + 1) < l.length - i; omega, by show i + 1 ≤ l.length; omega, _, [0, 3], rfl, Wk.of rfl (by decide) (by simp only [go_sem, outV_ren', hrho, htk, hnew, n1, hany, List.length_nil, List.map_nil, List.length_cons, List.map_cons, List.replicate_succ, List.replicate_zero, List.set_cons_zero, List.set_cons_succ, List.take_succ_cons, List.take_zero, List.take_nil, List.length_append, List.map_append, List.cons_append, List.nil_append, List.drop_succ_cons, List.drop_zero, List.append_nil, List.getElem?_cons_zero, List.getElem?_cons_succ, Nat.reduceAdd, Nat.reduceSub, Nat.reduceMul, Nat.reduceDiv, Nat.reduceMod, Nat.reduceEqDiff, Nat.reduceLeDiff, Nat.reduceLT, Int.reduceLT, Int.reduceLE, Int.reduceEq, Int.reduceToNat, reduceIte, reduceCtorEq]) (by simp only [go_sem, ↓outB_ren', htk, hnew, hdren, hoi.rens, Dn.ren1 hd, Dn.ren1 hco, implies_true, List.length_nil, List.map_nil, List.length_cons, List.map_cons, List.replicate_succ, List.replicate_zero, List.set_cons_zero, List.set_cons_succ, List.take_succ_cons, List.take_zero, List.take_nil, List.length_append, List.map_append, List.cons_append, List.nil_append, List.drop_succ_cons, List.drop_zero, List.append_nil, List.getElem?_cons_zero, List.getElem?_cons_succ, Nat.reduceAdd, Nat.reduceSub, Nat.reduceMul, Nat.reduceDiv, Nat.reduceMod, Nat.reduceEqDiff, Nat.reduceLeDiff, Nat.reduceLT, Int.reduceLT, Int.reduceLE, Int.reduceEq, Int.reduceToNat, reduceIte, reduceCtorEq, eq_self, true_implies, not_true_eq_false, not_false_eq_true, false_implies, and_true, true_and, decide_true, decide_false, Bool.not_true, Bool.not_false])⟩
      · obtain ⟨n1, hnew⟩ := accR_hi (c := c) hany
        rw [hnew] at hoi2
        have hne := hrise hany
        simp only [go_sem, ↓appR_hide, C34L0, Nat.reduceAdd, Nat.reduceSub, Nat.reduceMul, Nat.reduceDiv, Nat.reduceMod, Nat.reduceEqDiff, Nat.reduceLeDiff, Nat.reduceLT, Int.reduceLT, Int.reduceLE, Int.reduceEq, Int.reduceToNat, reduceIte, reduceCtorEq, List.length_nil, List.map_nil, List.length_cons, List.map_cons, List.replicate_succ, List.replicate_zero, List.set_cons_zero, List.set_cons_succ, List.take_succ_cons, List.take_zero, List.take_nil, List.length_append, List.map_append, List.cons_append, List.nil_append, List.drop_succ_cons, List.drop_zero, List.append_nil, List.getElem?_cons_zero, List.getElem?_cons_succ, eq_self, true_implies, not_true_eq_false, not_false_eq_true, false_implies, and_true, true_and, decide_true, decide_false, Bool.not_true, Bool.not_false, hlen, hci, hsi, hgo, hrow, hw, hany, hne, Dn.enc]
        refine RW_app _ [.int .i64 c.ses, .int .i64 c.id, .int .i64 c.an.code, .str c.an.val, .int .i64 c.an.ver, c.an.rv] rfl (List.length_map ..) rfl (okBig_le (by omega) (by decide)) ?_
        simp only [go_sem, ↓appR_hide, Nat.reduceAdd, Nat.reduceSub, Nat.reduceMul, Nat.reduceDiv, Nat.reduceMod, Nat.reduceEqDiff, Nat.reduceLeDiff, Nat.reduceLT, Int.reduceLT, Int.reduceLE, Int.reduceEq, Int.reduceToNat, reduceIte, reduceCtorEq, List.length_nil, List.map_nil, List.length_cons, List.map_cons, List.replicate_succ, List.replicate_zero, List.set_cons_zero, List.set_cons_succ, List.take_succ_cons, List.take_zero, List.take_nil, List.length_append, List.map_append, List.cons_append, List.nil_append, List.drop_succ_cons, List.drop_zero, List.append_nil, List.getElem?_cons_zero, List.getElem?_cons_succ, eq_self, true_implies, not_true_eq_false, not_false_eq_true, false_implies, and_true, true_and, decide_true, decide_false, Bool.not_true, Bool.not_false, hlen, hci, hsi, hgo, hrow, hw, hne, Dn.enc]
        rw [show outB 6 ((accR (l.take i) d).map Dn.enc ++ [[.int .i64 c.ses, .int .i64 c.id, .int .i64 c.an.code, .str c.an.val, .int .i64 c.an.ver, c.an.rv]]) = outB 6 ((accR (l.take i) d ++ [c]).map Dn.enc) by rw [List.map_append]; rfl]
        exact ⟨i + 1, by show l.length - (i + 1) < l.length - i; omega, by show i + 1 ≤ l.length; omega, _, [0, 3], rfl, Wk.of rfl (by decide) (by simp only [go_sem, outV_ren', hrho, htk, hnew, n1, hany, List.length_nil, List.map_nil, List.length_cons, List.map_cons, List.replicate_succ, List.replicate_zero, List.set_cons_zero, List.set_cons_succ, List.take_succ_cons, List.take_zero, List.take_nil, List.length_append, List.map_append, List.cons_append, List.nil_append, List.drop_succ_cons, List.drop_zero, List.append_nil, List.getElem?_cons_zero, List.getElem?_cons_succ, Nat.reduceAdd, Nat.reduceSub, Nat.reduceMul, Nat.reduceDiv, Nat.reduceMod, Nat.reduceEqDiff, Nat.reduceLeDiff, Nat.reduceLT, Int.reduceLT, Int.reduceLE, Int.reduceEq, Int.reduceToNat, reduceIte, reduceCtorEq]) (by simp only [go_sem, ↓outB_ren', htk, hnew, hdren, hoi.rens, Dn.ren1 hd, Dn.ren1 hco, implies_true, List.length_nil, List.map_nil, List.length_cons, List.map_cons, List.replicate_succ, List.replicate_zero, List.set_cons_zero, List.set_cons_succ, List.take_succ_cons, List.take_zero, List.take_nil, List.length_append, List.map_append, List.cons_append, List.nil_append, List.drop_succ_cons, List.drop_zero, List.append_nil, List.getElem?_cons_zero, List.getElem?_cons_succ, Nat.reduceAdd, Nat.reduceSub, Nat.reduceMul, Nat.reduceDiv, Nat.reduceMod, Nat.reduceEqDiff, Nat.reduceLeDiff, Nat.reduceLT, Int.reduceLT, Int.reduceLE, Int.reduceEq, Int.reduceToNat, reduceIte, reduceCtorEq, eq_self, true_implies, not_true_eq_false, not_false_eq_true, false_implies, and_true, true_and, decide_true, decide_false, Bool.not_true, Bool.not_false])⟩
    · have hci : ¬ (i : Int) < (l.length : Int) := by omega
      have htk : l.take i = l := List.take_of_length_le (by omega)
      rw [htk] at hoi hln ⊢
      cases hany : anyGe l d
      · have hnew := hend.2 hany
        simp only [go_sem, ↓appR_hide, C34L0, Nat.reduceAdd, Nat.reduceSub, Nat.reduceMul, Nat.reduceDiv, Nat.reduceMod, Nat.reduceEqDiff, Nat.reduceLeDiff, Nat.reduceLT, Int.reduceLT, Int.reduceLE, Int.reduceEq, Int.reduceToNat, reduceIte, reduceCtorEq, List.length_nil, List.map_nil, List.length_cons, List.map_cons, List.replicate_succ, List.replicate_zero, List.set_cons_zero, List.set_cons_succ, List.take_succ_cons, List.take_zero, List.take_nil, List.length_append, List.map_append, List.cons_append, List.nil_append, List.drop_succ_cons, List.drop_zero, List.append_nil, List.getElem?_cons_zero, List.getElem?_cons_succ, eq_self, true_implies, not_true_eq_false, not_false_eq_true, false_implies, and_true, true_and, decide_true, decide_false, Bool.not_true, Bool.not_false, hlen, hci, hany, Dn.enc]
        refine RW_app _ [.int .i64 d.ses, .int .i64 d.id, .int .i64 d.an.code, .str d.an.val, .int .i64 d.an.ver, d.an.rv] rfl (List.length_map ..) rfl (okBig_le (by omega) (by decide)) ?_
        simp only [go_sem, ↓appR_hide, Nat.reduceAdd, Nat.reduceSub, Nat.reduceMul, Nat.reduceDiv, Nat.reduceMod, Nat.reduceEqDiff, Nat.reduceLeDiff, Nat.reduceLT, Int.reduceLT, Int.reduceLE, Int.reduceEq, Int.reduceToNat, reduceIte, reduceCtorEq, List.length_nil, List.map_nil, List.length_cons, List.map_cons, List.replicate_succ, List.replicate_zero, List.set_cons_zero, List.set_cons_succ, List.take_succ_cons, List.take_zero, List.take_nil, List.length_append, List.map_append, List.cons_append, List.nil_append, List.drop_succ_cons, List.drop_zero, List.append_nil, List.getElem?_cons_zero, List.getElem?_cons_succ, eq_self, true_implies, not_true_eq_false, not_false_eq_true, false_implies, and_true, true_and, decide_true, decide_false, Bool.not_true, Bool.not_false, Dn.enc]
        rw [hnew]
        exact ⟨_, 3, by rw [List.length_append]; rfl, rfl, fun _ => by rw [List.map_append]; rfl⟩
      · have hnew := hend.1 hany
        simp only [go_sem, ↓appR_hide, C34L0, Nat.reduceAdd, Nat.reduceSub, Nat.reduceMul, Nat.reduceDiv, Nat.reduceMod, Nat.reduceEqDiff, Nat.reduceLeDiff, Nat.reduceLT, Int.reduceLT, Int.reduceLE, Int.reduceEq, Int.reduceToNat, reduceIte, reduceCtorEq, List.length_nil, List.map_nil, List.length_cons, List.map_cons, List.replicate_succ, List.replicate_zero, List.set_cons_zero, List.set_cons_succ, List.take_succ_cons, List.take_zero, List.take_nil, List.length_append, List.map_append, List.cons_append, List.nil_append, List.drop_succ_cons, List.drop_zero, List.append_nil, List.getElem?_cons_zero, List.getElem?_cons_succ, eq_self, true_implies, not_true_eq_false, not_false_eq_true, false_implies, and_true, true_and, decide_true, decide_false, Bool.not_true, Bool.not_false, hlen, hci, hany, Dn.enc]
        rw [hnew]
        exact ⟨_, 1, rfl, rfl, fun _ => rfl⟩
end Go.Proofs
/- once: as the law has it, how a request stands, both joined: walked. -/

set_option linter.all false
set_option linter.all false
set_option maxRecDepth 100000
namespace Go.Proofs
open Go Go.Ev
variable {H : Heap}

theorem stands_an {H : Heap} {l : List Dn} (ha : allOk H l) (s id : Int) : (stands l s id).1.ok H := by
  unfold stands
  cases h : findD l s with
  | none => exact zeroA_ok
  | some d =>
    dsimp only
    split
    · exact zeroA_ok
    · split
      · exact ha d (findD_mem h).1
      · exact zeroA_ok
theorem f30_ok {v : AV} {l : List Dn} (hA : Arr H 6 v (l.map Dn.enc)) (ha : allOk H l) (hl : l.length < 100000) (s id : Int) :
    FnOk Try.prog 30 [v, .int .i64 s, .int .i64 id] H fun r G => r = .tup [.agg (stands l s id).1.enc, .int .i64 (stands l s id).2] ∧ G = H := by
  refine FnOk.assume fun hok => ?_
  refine FnOk.dropOld (R := fun r => r = .tup [.agg (stands l s id).1.enc, .int .i64 (stands l s id).2]) ?_ ?_
  · refine FnOk.of_WW Try.func30 rfl C30ok R30ok E0 good_E0 ?_
    simp only [go_sem, C30, Nat.reduceAdd, Nat.reduceSub, Nat.reduceMul, Nat.reduceDiv, Nat.reduceMod, Nat.reduceEqDiff, Nat.reduceLeDiff, Nat.reduceLT, Int.reduceLT, Int.reduceLE, Int.reduceEq, Int.reduceToNat, reduceIte, reduceCtorEq, List.length_nil, List.map_nil, List.length_cons, List.map_cons, List.replicate_succ, List.replicate_zero, List.set_cons_zero, List.set_cons_succ, List.take_succ_cons, List.take_zero, List.take_nil, List.length_append, List.map_append, List.cons_append, List.nil_append, List.drop_succ_cons, List.drop_zero, List.append_nil, List.getElem?_cons_zero, List.getElem?_cons_succ, eq_self, true_implies, not_true_eq_false, not_false_eq_true, false_implies, and_true, true_and, decide_true, decide_false, Bool.not_true, Bool.not_false]
    refine CL.of (f56_ok (hA.ext _) (ha.ext _) (by omega) s) ?_
    rintro _ _ ⟨rfl, rfl⟩
    cases hf : findD l s with
    | none =>
      rw [stands_none hf]
      simp only [go_sem, Option.isSome_none, foundD, zeroD, zeroA, Option.getD_none, Dn.enc, An.enc, Nat.reduceAdd, Nat.reduceSub, Nat.reduceMul, Nat.reduceDiv, Nat.reduceMod, Nat.reduceEqDiff, Nat.reduceLeDiff, Nat.reduceLT, Int.reduceLT, Int.reduceLE, Int.reduceEq, Int.reduceToNat, reduceIte, reduceCtorEq, List.length_nil, List.map_nil, List.length_cons, List.map_cons, List.replicate_succ, List.replicate_zero, List.set_cons_zero, List.set_cons_succ, List.take_succ_cons, List.take_zero, List.take_nil, List.length_append, List.map_append, List.cons_append, List.nil_append, List.drop_succ_cons, List.drop_zero, List.append_nil, List.getElem?_cons_zero, List.getElem?_cons_succ, eq_self, true_implies, not_true_eq_false, not_false_eq_true, false_implies, and_true, true_and, decide_true, decide_false, Bool.not_true, Bool.not_false]
      first | exact ⟨rfl, _, rfl⟩ | exact ⟨_, rfl⟩
    | some d =>
      rw [stands_some hf]
      simp only [go_sem, Option.isSome_some, foundD, zeroA, Option.getD_some, Dn.enc, Nat.reduceAdd, Nat.reduceSub, Nat.reduceMul, Nat.reduceDiv, Nat.reduceMod, Nat.reduceEqDiff, Nat.reduceLeDiff, Nat.reduceLT, Int.reduceLT, Int.reduceLE, Int.reduceEq, Int.reduceToNat, reduceIte, reduceCtorEq, List.length_nil, List.map_nil, List.length_cons, List.map_cons, List.replicate_succ, List.replicate_zero, List.set_cons_zero, List.set_cons_succ, List.take_succ_cons, List.take_zero, List.take_nil, List.length_append, List.map_append, List.cons_append, List.nil_append, List.drop_succ_cons, List.drop_zero, List.append_nil, List.getElem?_cons_zero, List.getElem?_cons_succ, eq_self, true_implies, not_true_eq_false, not_false_eq_true, false_implies, and_true, true_and, decide_true, decide_false, Bool.not_true, Bool.not_false]
      refine ⟨fun g => ?_, fun g => ⟨fun g2 => ?_, fun g2 => ?_⟩⟩
      · rw [if_pos g]; exact ⟨rfl, _, rfl⟩
      · rw [if_neg g, if_pos g2]; exact ⟨rfl, _, rfl⟩
      · rw [if_neg g, if_neg g2]; exact ⟨rfl, _, rfl⟩
  · rintro _ rfl top σ
    have := (stands_an ha s id).ren top σ
    simp only [An.enc, AV.ren, AV.rens, this]
def freshD (a : List Dn) (c : Dn) : Prop := ∀ x, findD a c.ses = some x → x.id < c.id
noncomputable instance (a : List Dn) (c : Dn) : Decidable (freshD a c) := Classical.propDecidable _
noncomputable def joinR (a b : List Dn) : List Dn := b.foldl (fun acc c => if freshD a c then withD acc c else acc) a
noncomputable def anyFresh (a b : List Dn) : Bool := b.any fun c => decide (freshD a c)
theorem joinR_snoc (a p : List Dn) (c : Dn) : joinR a (p ++ [c]) = if freshD a c then withD (joinR a p) c else joinR a p := by
  unfold joinR; rw [List.foldl_append]; rfl
theorem fresh_snoc (a p : List Dn) (c : Dn) : anyFresh a (p ++ [c]) = (anyFresh a p || decide (freshD a c)) := by
  unfold anyFresh; rw [List.any_append, List.any_cons, List.any_nil, Bool.or_false]
theorem foldR_up {a : List Dn} : ∀ {b x : List Dn}, upD x → upD (b.foldl (fun acc c => if freshD a c then withD acc c else acc) x)
  | [], _, h => h
  | c :: b, x, h => by
    rw [List.foldl_cons]
    refine foldR_up (b := b) ?_
    split
    · exact withD_up h
    · exact h
theorem joinR_up {a b : List Dn} (h : upD a) : upD (joinR a b) := foldR_up h
theorem foldR_ok {a : List Dn} : ∀ {b x : List Dn}, allOk H b → allOk H x → allOk H (b.foldl (fun acc c => if freshD a c then withD acc c else acc) x)
  | [], _, _, h => h
  | c :: b, x, hb, h => by
    rw [List.foldl_cons]
    refine foldR_ok (b := b) (fun d hd => hb d (by simp [hd])) ?_
    split
    · exact withD_ok h (hb c (by simp))
    · exact h
theorem joinR_ok {a b : List Dn} (ha : allOk H a) (hb : allOk H b) : allOk H (joinR a b) := foldR_ok hb ha
theorem foldR_len {a : List Dn} : ∀ {b x : List Dn}, (b.foldl (fun acc c => if freshD a c then withD acc c else acc) x).length ≤ x.length + b.length
  | [], x => by simp
  | c :: b, x => by
    rw [List.foldl_cons]
    have h1 := foldR_len (a := a) (b := b) (x := if freshD a c then withD x c else x)
    have h2 : (if freshD a c then withD x c else x).length ≤ x.length + 1 := by
      split
      · exact withD_len
      · omega
    rw [List.length_cons]; omega
theorem joinR_len {a b : List Dn} : (joinR a b).length ≤ a.length + b.length := foldR_len
/-- a session's entry, of both joined -/
theorem find_foldR {a : List Dn} (s : Int) : ∀ {b x : List Dn}, upD b → upD x → (∀ c ∈ b, findD x c.ses = findD a c.ses) →
    findD (b.foldl (fun acc c => if freshD a c then withD acc c else acc) x) s = match findD b s with | none => findD x s | some c => laterO (findD x s) (some c)
  | [], x, _, _, _ => rfl
  | c :: b, x, hb, hx, he => by
    obtain ⟨h1, h2⟩ := upD_cons.1 hb
    have hc := he c (by simp)
    have hnew : ∀ d ∈ b, findD (if freshD a c then withD x c else x) d.ses = findD a d.ses := fun d hd => by
      split
      · rw [find_with hx, if_neg (by have := h1 d hd; omega)]; exact he d (by simp [hd])
      · exact he d (by simp [hd])
    have hup : upD (if freshD a c then withD x c else x) := by
      split
      · exact withD_up hx
      · exact hx
    rw [List.foldl_cons, find_foldR s h2 hup hnew, findD]
    by_cases e : c.ses = s
    · subst e
      rw [if_pos rfl, findD_none (l := b) (fun d hd g => by have := h1 d hd; omega)]
      dsimp only
      by_cases hf : freshD a c
      · rw [if_pos hf, find_with hx, if_pos rfl, hc]
        cases h : findD a c.ses with
        | none => rfl
        | some y =>
          have := hf y h
          show some (lateD y c) = some (lateD c y)
          rw [lateD, lateD, if_pos (by omega), if_neg (by omega)]
      · rw [if_neg hf, hc]
        cases h : findD a c.ses with
        | none => exact absurd (fun y hy => by rw [h] at hy; cases hy) hf
        | some y =>
          have : ¬ y.id < c.id := fun g => hf fun z hz => by rw [h] at hz; cases hz; exact g
          show some y = some (lateD c y)
          rw [lateD, if_pos (by omega)]
    · rw [if_neg e]
      have hk : findD (if freshD a c then withD x c else x) s = findD x s := by
        split
        · rw [find_with hx, if_neg e]
        · rfl
      rw [hk]
theorem joinR_eq {a b : List Dn} (ha : upD a) (hb : upD b) : joinR a b = joinP a b := by
  refine upD_ext (joinR_up ha) (joinP_up hb) fun s => ?_
  rw [find_join s ha hb]
  have := find_foldR (a := a) s hb ha (fun _ _ => rfl)
  unfold joinR
  rw [this]
  cases findD b s <;> cases findD a s <;> rfl
theorem joinR_other {a p : List Dn} (hp : upD p) (ha : upD a) {s : Int} (h : ∀ x ∈ p, ¬ x.ses = s) : findD (joinR a p) s = findD a s := by
  have := find_foldR (a := a) s hp ha (fun _ _ => rfl)
  rw [findD_none h] at this
  exact this
def selV (c : Bool) (u : AV) (k : K) (n : Nat) : AV := match c with | true => outV k 6 n | false => u
def selB (c : Bool) (xs : List (List AV)) : Blk := match c with | true => outB 6 xs | false => .dead
theorem selV_ren {ρ : K → K} {u : AV} (hu : u.ren ρ = u) (c : Bool) (k : K) (n : Nat) : AV.ren ρ (selV c u k n) = selV c u (ρ k) n := by
  cases c
  · exact hu
  · exact outV_ren' ..
theorem selB_ren {ρ : K → K} {xs : List (List AV)} (h : xs.map (AV.rens ρ) = xs) (c : Bool) : Blk.ren ρ (selB c xs) = selB c xs := by
  cases c
  · rfl
  · exact outB_ren' _ h
theorem selArr {c : Bool} {u : AV} {L : List Blk} {i n : Nat} {xs : List (List AV)} (h : L[i]? = some (selB c xs)) (hn : xs.length = n) (hu : c = false → Arr H 6 u xs) : Arr (H.ext L) 6 (selV c u (H.key i) n) xs := by
  cases c
  · exact (hu rfl).ext _
  · exact arr_outV h hn
theorem FnOk.dropS {f : FuncId} {args : List AV} {c : Bool} {u : AV} {n : Nat} {xs : List (List AV)} (hu : ∀ top σ, u.ren (rho H top σ) = u) (hx : ∀ top σ, xs.map (AV.rens (rho H top σ)) = xs)
    (h : FnOk Try.prog f args H fun v G => ∃ l i, v = selV c u (H.key i) n ∧ G = H.ext l ∧ ((selB c xs).live → l[i]? = some (selB c xs))) :
    FnOk Try.prog f args H fun v G => v = selV c u H.nx n ∧ G = H.ext [selB c xs] := by
  refine h.wk ?_
  rintro v G ⟨l, i, rfl, rfl, hl⟩
  refine ⟨l, [selB c xs], [i], selV c u H.nx n, rfl, ?_, rfl, by simp, ?_, rfl, rfl⟩
  · rw [selV_ren (hu _ _), ← Heap.key_zero, rho_key rfl]
  · intro q hq
    simp only [List.zip_cons_cons, List.zip_nil_left, List.mem_singleton] at hq
    subst hq
    intro hlive
    show l[i]? = some (Blk.ren _ (selB c xs))
    rw [selB_ren (hx _ _), hl hlive]
theorem joinR_none {a b : List Dn} : anyFresh a b = false → joinR a b = a := by
  intro h
  have key : ∀ (b x : List Dn), anyFresh a b = false → b.foldl (fun acc c => if freshD a c then withD acc c else acc) x = x := by
    intro b
    induction b with
    | nil => intro x _; rfl
    | cons c b ih =>
      intro x h
      unfold anyFresh at h
      rw [List.any_cons, Bool.or_eq_false_iff] at h
      rw [List.foldl_cons, if_neg (of_decide_eq_false h.1)]
      exact ih x h.2
  exact key b a h
theorem f36_ok {u v : AV} {a l : List Dn} (hB : Arr H 6 u (a.map Dn.enc)) (hA : Arr H 6 v (l.map Dn.enc)) (ha : allOk H a) (hb : allOk H l) (hua : upD a) (hub : upD l) (hal : a.length < 10000) (hl : l.length < 10000) :
    FnOk Try.prog 36 [u, v] H fun r G => r = selV (anyFresh a l) u H.nx (joinR a l).length ∧ G = H.ext [selB (anyFresh a l) ((joinR a l).map Dn.enc)] := by
  refine FnOk.assume fun hok => ?_
  have hren2 := hB.ren
  refine FnOk.dropS hren2 (joinR_ok ha hb).rens ?_
  refine FnOk.of_WW Try.func36 rfl C36ok R36ok E0 good_E0 ?_
  have hlen := fun G => hA.len G; simp only [List.length_map] at hlen; have hren := hA.ren
  have hokJ : ∀ i, allOk H (joinR a (l.take i)) := fun i => joinR_ok ha fun d hd => hb d (List.mem_of_mem_take hd)
  simp only [go_sem, C36, Nat.reduceAdd, Nat.reduceSub, Nat.reduceMul, Nat.reduceDiv, Nat.reduceMod, Nat.reduceEqDiff, Nat.reduceLeDiff, Nat.reduceLT, Int.reduceLT, Int.reduceLE, Int.reduceEq, Int.reduceToNat, reduceIte, reduceCtorEq, List.length_nil, List.map_nil, List.length_cons, List.map_cons, List.replicate_succ, List.replicate_zero, List.set_cons_zero, List.set_cons_succ, List.take_succ_cons, List.take_zero, List.take_nil, List.length_append, List.map_append, List.cons_append, List.nil_append, List.drop_succ_cons, List.drop_zero, List.append_nil, List.getElem?_cons_zero, List.getElem?_cons_succ, eq_self, true_implies, not_true_eq_false, not_false_eq_true, false_implies, and_true, true_and, decide_true, decide_false, Bool.not_true, Bool.not_false]
  have h0 : joinR a [] = a := rfl
  have h00 : anyFresh a [] = false := rfl
  refine LL.st good_E0 (fun i : Nat => l.length - i) (fun i => i ≤ l.length)
    (fun i => [(.z, u), ((.o .z), v), ((.o (.i .z)), selV (anyFresh a (l.take i)) u (H.key 0) (joinR a (l.take i)).length), ((.i (.i .z)), .int .i64 i)])
    (fun i => [selB (anyFresh a (l.take i)) ((joinR a (l.take i)).map Dn.enc)]) ?_ 0 (σ := [0]) (Wk.of rfl (by decide) (by simp only [go_sem, hren, hren2, List.take_zero, h0, h00, selV, List.length_nil, List.map_nil, List.length_cons, List.map_cons, List.replicate_succ, List.replicate_zero, List.set_cons_zero, List.set_cons_succ, List.take_succ_cons, List.take_zero, List.take_nil, List.length_append, List.map_append, List.cons_append, List.nil_append, List.drop_succ_cons, List.drop_zero, List.append_nil, List.getElem?_cons_zero, List.getElem?_cons_succ, Nat.reduceAdd, Nat.reduceSub, Nat.reduceMul, Nat.reduceDiv, Nat.reduceMod, Nat.reduceEqDiff, Nat.reduceLeDiff, Nat.reduceLT, Int.reduceLT, Int.reduceLE, Int.reduceEq, Int.reduceToNat, reduceIte, reduceCtorEq]) (by simp only [go_sem, List.take_zero, h0, h00, selB, List.length_nil, List.map_nil, List.length_cons, List.map_cons, List.replicate_succ, List.replicate_zero, List.set_cons_zero, List.set_cons_succ, List.take_succ_cons, List.take_zero, List.take_nil, List.length_append, List.map_append, List.cons_append, List.nil_append, List.drop_succ_cons, List.drop_zero, List.append_nil, List.getElem?_cons_zero, List.getElem?_cons_succ, Nat.reduceAdd, Nat.reduceSub, Nat.reduceMul, Nat.reduceDiv, Nat.reduceMod, Nat.reduceEqDiff, Nat.reduceLeDiff, Nat.reduceLT, Int.reduceLT, Int.reduceLE, Int.reduceEq, Int.reduceToNat, reduceIte, reduceCtorEq, eq_self, true_implies, not_true_eq_false, not_false_eq_true, false_implies, and_true, true_and, decide_true, decide_false, Bool.not_true, Bool.not_false])) (Nat.zero_le _)
  rintro i hi
  by_cases hlt : i < l.length
  · obtain ⟨kk, r, ex', cap', wr, rows, hv, hrho, hgo, hrow⟩ := hA.at hok (j := i) (by rw [List.length_map]; exact hlt); simp only [List.length_map, List.getElem_map] at hv hrow; cases hv; have hget : l[i]? = some l[i] := List.getElem?_eq_getElem hlt; generalize l[i] = c at hrow hget; have hw := wrap_succ (n := i) (by omega); have hci : (i : Int) < (l.length : Int) := (by omega); have hsi : i + 1 ≤ l.length := (by omega)
    have hco := hb c (List.mem_of_getElem? hget)
    have htk := take_snoc hget
    have hsn := joinR_snoc a (l.take i) c
    have hfn := fresh_snoc a (l.take i) c
    have hlen2 := joinR_len (a := a) (b := l.take i)
    rw [List.length_take] at hlen2
    have hoi := hokJ i
    have hoi2 := (hokJ (i + 1)).rens
    have hupJ : upD (joinR a (l.take i)) := joinR_up hua
    have hother : findD (joinR a (l.take i)) c.ses = findD a c.ses := joinR_other (List.Pairwise.sublist (List.take_sublist _ _) hub) hua fun x hx => by
      obtain ⟨q, hq⟩ := List.mem_iff_getElem?.1 hx
      rw [List.getElem?_take] at hq
      split at hq
      · rename_i hlt
        have := upD_rises hub q i x c hlt hq hget
        omega
      · cases hq
    have hnone := joinR_none (a := a) (b := l.take i)
    rw [htk] at hoi2
    simp only [go_sem, C36L0, Nat.reduceAdd, Nat.reduceSub, Nat.reduceMul, Nat.reduceDiv, Nat.reduceMod, Nat.reduceEqDiff, Nat.reduceLeDiff, Nat.reduceLT, Int.reduceLT, Int.reduceLE, Int.reduceEq, Int.reduceToNat, reduceIte, reduceCtorEq, List.length_nil, List.map_nil, List.length_cons, List.map_cons, List.replicate_succ, List.replicate_zero, List.set_cons_zero, List.set_cons_succ, List.take_succ_cons, List.take_zero, List.take_nil, List.length_append, List.map_append, List.cons_append, List.nil_append, List.drop_succ_cons, List.drop_zero, List.append_nil, List.getElem?_cons_zero, List.getElem?_cons_succ, eq_self, true_implies, not_true_eq_false, not_false_eq_true, false_implies, and_true, true_and, decide_true, decide_false, Bool.not_true, Bool.not_false, hlen, hci, hsi, hgo, hrow, hw, Dn.enc]
    refine CL.of (f56_ok (hB.ext _) (ha.ext _) (by omega) c.ses) ?_
    rintro _ _ ⟨rfl, rfl⟩
    have hfresh : freshD a c → ¬ keepsD (joinR a (l.take i)) c := fun hf ⟨x, h1, h2⟩ => by
      rw [hother] at h1
      have := hf x h1; omega
    have harr : ∀ (L : List Blk), L[0]? = some (selB (anyFresh a (l.take i)) ((joinR a (l.take i)).map Dn.enc)) → Arr (H.ext L) 6 (selV (anyFresh a (l.take i)) u (H.key 0) (joinR a (l.take i)).length) ((joinR a (l.take i)).map Dn.enc) := fun L h =>
      selArr h (List.length_map ..) fun h => by rw [hnone h]; exact hB
    have hz1 : ∀ (k : K) (n : Nat), selV true u k n = outV k 6 n := fun _ _ => rfl
    have hz2 : ∀ xs : List (List AV), selB true xs = outB 6 xs := fun _ => rfl
    cases hf : findD a c.ses with
    | none =>
      have hfr : freshD a c := fun x hx => by rw [hf] at hx; cases hx
      rw [if_pos hfr] at hsn
      rw [decide_eq_true hfr, Bool.or_true] at hfn
      rw [hsn] at hoi2
      simp only [go_sem, Option.isSome_none, foundD, zeroD, zeroA, Option.getD_none, Dn.enc, hlen, hsi, hgo, hrow, Nat.reduceAdd, Nat.reduceSub, Nat.reduceMul, Nat.reduceDiv, Nat.reduceMod, Nat.reduceEqDiff, Nat.reduceLeDiff, Nat.reduceLT, Int.reduceLT, Int.reduceLE, Int.reduceEq, Int.reduceToNat, reduceIte, reduceCtorEq, List.length_nil, List.map_nil, List.length_cons, List.map_cons, List.replicate_succ, List.replicate_zero, List.set_cons_zero, List.set_cons_succ, List.take_succ_cons, List.take_zero, List.take_nil, List.length_append, List.map_append, List.cons_append, List.nil_append, List.drop_succ_cons, List.drop_zero, List.append_nil, List.getElem?_cons_zero, List.getElem?_cons_succ, eq_self, true_implies, not_true_eq_false, not_false_eq_true, false_implies, and_true, true_and, decide_true, decide_false, Bool.not_true, Bool.not_false]
      refine CL.of (f34_with (l := joinR a (l.take i)) (d := c) (harr _ rfl) (hoi.ext _) (hco.ext _) hupJ (by omega) (hfresh hfr)) ?_
      rintro _ _ ⟨rfl, rfl⟩
      simp only [go_sem, Nat.reduceAdd, Nat.reduceSub, Nat.reduceMul, Nat.reduceDiv, Nat.reduceMod, Nat.reduceEqDiff, Nat.reduceLeDiff, Nat.reduceLT, Int.reduceLT, Int.reduceLE, Int.reduceEq, Int.reduceToNat, reduceIte, reduceCtorEq, List.length_nil, List.map_nil, List.length_cons, List.map_cons, List.replicate_succ, List.replicate_zero, List.set_cons_zero, List.set_cons_succ, List.take_succ_cons, List.take_zero, List.take_nil, List.length_append, List.map_append, List.cons_append, List.nil_append, List.drop_succ_cons, List.drop_zero, List.append_nil, List.getElem?_cons_zero, List.getElem?_cons_succ, eq_self, true_implies, not_true_eq_false, not_false_eq_true, false_implies, and_true, true_and, decide_true, decide_false, Bool.not_true, Bool.not_false, hw]
      refine ⟨i + 1, by show l.length - (i + 1) < l.length - i; omega, by show i + 1 ≤ l.length; omega, _, [2], rfl, Wk.of rfl (by decide) (by simp only [go_sem, outV_ren', hrho, hren2, htk, hsn, hfn, hz1, List.length_nil, List.map_nil, List.length_cons, List.map_cons, List.replicate_succ, List.replicate_zero, List.set_cons_zero, List.set_cons_succ, List.take_succ_cons, List.take_zero, List.take_nil, List.length_append, List.map_append, List.cons_append, List.nil_append, List.drop_succ_cons, List.drop_zero, List.append_nil, List.getElem?_cons_zero, List.getElem?_cons_succ, Nat.reduceAdd, Nat.reduceSub, Nat.reduceMul, Nat.reduceDiv, Nat.reduceMod, Nat.reduceEqDiff, Nat.reduceLeDiff, Nat.reduceLT, Int.reduceLT, Int.reduceLE, Int.reduceEq, Int.reduceToNat, reduceIte, reduceCtorEq]) (by simp only [go_sem, ↓outB_ren', htk, hsn, hfn, hz2, hoi2, implies_true, List.length_nil, List.map_nil, List.length_cons, List.map_cons, List.replicate_succ, List.replicate_zero, List.set_cons_zero, List.set_cons_succ, List.take_succ_cons, List.take_zero, List.take_nil, List.length_append, List.map_append, List.cons_append, List.nil_append, List.drop_succ_cons, List.drop_zero, List.append_nil, List.getElem?_cons_zero, List.getElem?_cons_succ, Nat.reduceAdd, Nat.reduceSub, Nat.reduceMul, Nat.reduceDiv, Nat.reduceMod, Nat.reduceEqDiff, Nat.reduceLeDiff, Nat.reduceLT, Int.reduceLT, Int.reduceLE, Int.reduceEq, Int.reduceToNat, reduceIte, reduceCtorEq, eq_self, true_implies, not_true_eq_false, not_false_eq_true, false_implies, and_true, true_and, decide_true, decide_false, Bool.not_true, Bool.not_false])⟩
    | some x =>
      simp only [go_sem, Option.isSome_some, foundD, Option.getD_some, Dn.enc, hlen, hsi, hgo, hrow, Nat.reduceAdd, Nat.reduceSub, Nat.reduceMul, Nat.reduceDiv, Nat.reduceMod, Nat.reduceEqDiff, Nat.reduceLeDiff, Nat.reduceLT, Int.reduceLT, Int.reduceLE, Int.reduceEq, Int.reduceToNat, reduceIte, reduceCtorEq, List.length_nil, List.map_nil, List.length_cons, List.map_cons, List.replicate_succ, List.replicate_zero, List.set_cons_zero, List.set_cons_succ, List.take_succ_cons, List.take_zero, List.take_nil, List.length_append, List.map_append, List.cons_append, List.nil_append, List.drop_succ_cons, List.drop_zero, List.append_nil, List.getElem?_cons_zero, List.getElem?_cons_succ, eq_self, true_implies, not_true_eq_false, not_false_eq_true, false_implies, and_true, true_and, decide_true, decide_false, Bool.not_true, Bool.not_false]
      refine ⟨fun g => ?_, fun g => ?_⟩
      · have hfr : freshD a c := fun y hy => by rw [hf] at hy; cases hy; exact g
        rw [if_pos hfr] at hsn
        rw [decide_eq_true hfr, Bool.or_true] at hfn
        rw [hsn] at hoi2
        refine CL.of (f34_with (l := joinR a (l.take i)) (d := c) (harr _ rfl) (hoi.ext _) (hco.ext _) hupJ (by omega) (hfresh hfr)) ?_
        rintro _ _ ⟨rfl, rfl⟩
        simp only [go_sem, Nat.reduceAdd, Nat.reduceSub, Nat.reduceMul, Nat.reduceDiv, Nat.reduceMod, Nat.reduceEqDiff, Nat.reduceLeDiff, Nat.reduceLT, Int.reduceLT, Int.reduceLE, Int.reduceEq, Int.reduceToNat, reduceIte, reduceCtorEq, List.length_nil, List.map_nil, List.length_cons, List.map_cons, List.replicate_succ, List.replicate_zero, List.set_cons_zero, List.set_cons_succ, List.take_succ_cons, List.take_zero, List.take_nil, List.length_append, List.map_append, List.cons_append, List.nil_append, List.drop_succ_cons, List.drop_zero, List.append_nil, List.getElem?_cons_zero, List.getElem?_cons_succ, eq_self, true_implies, not_true_eq_false, not_false_eq_true, false_implies, and_true, true_and, decide_true, decide_false, Bool.not_true, Bool.not_false, hw]
        refine ⟨i + 1, by show l.length - (i + 1) < l.length - i; omega, by show i + 1 ≤ l.length; omega, _, [2], rfl, Wk.of rfl (by decide) (by simp only [go_sem, outV_ren', hrho, hren2, htk, hsn, hfn, hz1, List.length_nil, List.map_nil, List.length_cons, List.map_cons, List.replicate_succ, List.replicate_zero, List.set_cons_zero, List.set_cons_succ, List.take_succ_cons, List.take_zero, List.take_nil, List.length_append, List.map_append, List.cons_append, List.nil_append, List.drop_succ_cons, List.drop_zero, List.append_nil, List.getElem?_cons_zero, List.getElem?_cons_succ, Nat.reduceAdd, Nat.reduceSub, Nat.reduceMul, Nat.reduceDiv, Nat.reduceMod, Nat.reduceEqDiff, Nat.reduceLeDiff, Nat.reduceLT, Int.reduceLT, Int.reduceLE, Int.reduceEq, Int.reduceToNat, reduceIte, reduceCtorEq]) (by simp only [go_sem, ↓outB_ren', htk, hsn, hfn, hz2, hoi2, implies_true, List.length_nil, List.map_nil, List.length_cons, List.map_cons, List.replicate_succ, List.replicate_zero, List.set_cons_zero, List.set_cons_succ, List.take_succ_cons, List.take_zero, List.take_nil, List.length_append, List.map_append, List.cons_append, List.nil_append, List.drop_succ_cons, List.drop_zero, List.append_nil, List.getElem?_cons_zero, List.getElem?_cons_succ, Nat.reduceAdd, Nat.reduceSub, Nat.reduceMul, Nat.reduceDiv, Nat.reduceMod, Nat.reduceEqDiff, Nat.reduceLeDiff, Nat.reduceLT, Int.reduceLT, Int.reduceLE, Int.reduceEq, Int.reduceToNat, reduceIte, reduceCtorEq, eq_self, true_implies, not_true_eq_false, not_false_eq_true, false_implies, and_true, true_and, decide_true, decide_false, Bool.not_true, Bool.not_false])⟩
      · have hfr : ¬ freshD a c := fun h => g (h x hf)
        rw [if_neg hfr] at hsn
        rw [decide_eq_false hfr, Bool.or_false] at hfn
        refine ⟨i + 1, by show l.length - (i + 1) < l.length - i; omega, by show i + 1 ≤ l.length; omega, _, [0], rfl, Wk.of rfl (by decide) (by simp only [go_sem, ↓selV_ren, hrho, hren2, htk, hsn, hfn, hw, List.length_nil, List.map_nil, List.length_cons, List.map_cons, List.replicate_succ, List.replicate_zero, List.set_cons_zero, List.set_cons_succ, List.take_succ_cons, List.take_zero, List.take_nil, List.length_append, List.map_append, List.cons_append, List.nil_append, List.drop_succ_cons, List.drop_zero, List.append_nil, List.getElem?_cons_zero, List.getElem?_cons_succ, Nat.reduceAdd, Nat.reduceSub, Nat.reduceMul, Nat.reduceDiv, Nat.reduceMod, Nat.reduceEqDiff, Nat.reduceLeDiff, Nat.reduceLT, Int.reduceLT, Int.reduceLE, Int.reduceEq, Int.reduceToNat, reduceIte, reduceCtorEq]) (by simp only [go_sem, ↓selB_ren, htk, hsn, hfn, hoi.rens, implies_true, List.length_nil, List.map_nil, List.length_cons, List.map_cons, List.replicate_succ, List.replicate_zero, List.set_cons_zero, List.set_cons_succ, List.take_succ_cons, List.take_zero, List.take_nil, List.length_append, List.map_append, List.cons_append, List.nil_append, List.drop_succ_cons, List.drop_zero, List.append_nil, List.getElem?_cons_zero, List.getElem?_cons_succ, Nat.reduceAdd, Nat.reduceSub, Nat.reduceMul, Nat.reduceDiv, Nat.reduceMod, Nat.reduceEqDiff, Nat.reduceLeDiff, Nat.reduceLT, Int.reduceLT, Int.reduceLE, Int.reduceEq, Int.reduceToNat, reduceIte, reduceCtorEq, eq_self, true_implies, not_true_eq_false, not_false_eq_true, false_implies, and_true, true_and, decide_true, decide_false, Bool.not_true, Bool.not_false])⟩
  · have hci : ¬ (i : Int) < (l.length : Int) := by omega
    simp only [go_sem, C36L0, Nat.reduceAdd, Nat.reduceSub, Nat.reduceMul, Nat.reduceDiv, Nat.reduceMod, Nat.reduceEqDiff, Nat.reduceLeDiff, Nat.reduceLT, Int.reduceLT, Int.reduceLE, Int.reduceEq, Int.reduceToNat, reduceIte, reduceCtorEq, List.length_nil, List.map_nil, List.length_cons, List.map_cons, List.replicate_succ, List.replicate_zero, List.set_cons_zero, List.set_cons_succ, List.take_succ_cons, List.take_zero, List.take_nil, List.length_append, List.map_append, List.cons_append, List.nil_append, List.drop_succ_cons, List.drop_zero, List.append_nil, List.getElem?_cons_zero, List.getElem?_cons_succ, eq_self, true_implies, not_true_eq_false, not_false_eq_true, false_implies, and_true, true_and, decide_true, decide_false, Bool.not_true, Bool.not_false, hlen, hci]
    rw [List.take_of_length_le (by omega)]
    exact ⟨_, 0, rfl, rfl, fun _ => rfl⟩
end Go.Proofs
