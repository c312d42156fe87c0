/- once: how a request stands: walked. -/
import Derived.Test.YtiadcabmonbgiaaZ14
set_option linter.all false
set_option linter.all false
set_option maxRecDepth 100000
namespace Go.Proofs
open Go Go.Ev
variable {H : Heap}

theorem agg_z {β : Type} (z : Bool) (k : K) (e n : Nat) (f : β) (c : List AV → β) : asAggC (zV z k e n) f c = f := by
  cases n with
  | zero => cases z <;> rfl
  | succ n => rfl
theorem one_z (z : Bool) (k : K) (e n : Nat) : AV.one (zV z k e n) = true := by
  cases n with
  | zero => cases z <;> rfl
  | succ n => rfl
theorem clo55 : CloFn Try.prog 55 3 40 [.str [], .str [], .int .i64 0] := ⟨⟨Try.f55, Try.func55, by kernel_rfl, by kernel_rfl⟩, rfl, by decide⟩
def stands (l : List Dn) (s id : Int) : An × Int := match findD l s with
  | none => (zeroA, 0)
  | some d => if d.id < id then (zeroA, 0) else if id = d.id then (d.an, 1) else (zeroA, 2)
/-- an answer with a number, its rows of one's own -/
def ansV (z : Bool) (k : K) (p : An × Int) : AV := .tup [.agg [.int .i64 p.1.code, .str p.1.val, .int .i64 p.1.ver, zV z k 3 p.1.rows.length], .int .i64 p.2]
theorem ansV_ren (ρ : K → K) (z : Bool) (k : K) (p : An × Int) : AV.ren ρ (ansV z k p) = ansV z (ρ k) p := by simp only [ansV, AV.ren, AV.rens, zV_ren]
theorem FnOk.dropA {f : FuncId} {args : List AV} {p : An × Int}
    (h : FnOk Try.prog f args H fun v G => ∃ z l i, v = ansV z (H.key i) p ∧ G = H.ext l ∧ ((zB z 3 (p.1.rows.map Rw.enc)).live → l[i]? = some (zB z 3 (p.1.rows.map Rw.enc)))) :
    FnOk Try.prog f args H fun v G => ∃ z, v = ansV z H.nx p ∧ G = H.ext [zB z 3 (p.1.rows.map Rw.enc)] := by
  refine h.wk ?_
  rintro v G ⟨z, l, i, rfl, rfl, hl⟩
  refine ⟨l, [zB z 3 (p.1.rows.map Rw.enc)], [i], ansV z H.nx p, rfl, ?_, rfl, by simp, ?_, z, rfl, rfl⟩
  · rw [ansV_ren, ← Heap.key_zero, rho_key rfl]
  · intro q hq
    simp only [List.zip_cons_cons, List.zip_nil_left, List.mem_singleton] at hq
    subst hq
    intro hlive
    show l[i]? = some (Blk.ren _ (zB z 3 (p.1.rows.map Rw.enc)))
    rw [zB_ren _ (Rw.map_rens _ _), hl hlive]
theorem stands_none {l : List Dn} {s id : Int} (h : findD l s = none) : stands l s id = (zeroA, 0) := by rw [stands, h]
theorem stands_some {l : List Dn} {s id : Int} {d : Dn} (h : findD l s = some d) : stands l s id = if d.id < id then (zeroA, 0) else if id = d.id then (d.an, 1) else (zeroA, 2) := by rw [stands, h]
theorem f29_ok {v : AV} {l : List Dn} (hA : Arr H 6 v (l.map Dn.enc)) (ha : allOk H l) (hl : l.length < 9223372036854775807) (hup : upD l) (hr : ∀ d ∈ l, (d.an.rows.length : Int) ≤ 16) (s id : Int) :
    FnOk Try.prog 29 [v, .int .i64 s, .int .i64 id] H fun r G => ∃ z, r = ansV z H.nx (stands l s id) ∧ G = H.ext [zB z 3 ((stands l s id).1.rows.map Rw.enc)] := by
  refine FnOk.assume fun hok => ?_
  refine FnOk.dropA ?_
  refine FnOk.of_WW Try.func29 rfl C29ok R29ok E0 good_E0 ?_
  have hlen := fun G => hA.len G; simp only [List.length_map] at hlen; have hren := hA.ren
  simp only [go_sem, C29, Nat.reduceAdd, Nat.reduceSub, Nat.reduceMul, Nat.reduceDiv, Nat.reduceMod, Nat.reduceEqDiff, Nat.reduceLeDiff, Nat.reduceLT, Int.reduceLT, Int.reduceLE, Int.reduceEq, Int.reduceToNat, reduceIte, reduceCtorEq, List.length_nil, List.map_nil, List.length_cons, List.map_cons, List.replicate_succ, List.replicate_zero, List.set_cons_zero, List.set_cons_succ, List.take_succ_cons, List.take_zero, List.take_nil, List.length_append, List.map_append, List.cons_append, List.nil_append, List.drop_succ_cons, List.drop_zero, List.append_nil, List.getElem?_cons_zero, List.getElem?_cons_succ, eq_self, true_implies, not_true_eq_false, not_false_eq_true, false_implies, and_true, true_and, decide_true, decide_false, Bool.not_true, Bool.not_false, hlen]
  refine LL.st good_E0 (fun i : Nat => l.length - i) (fun i => i ≤ l.length ∧ ∀ j d, j < i → l[j]? = some d → ¬ (d.ses = s ∧ id ≤ d.id))
    (fun i => [((.o .z), .int .i64 s), ((.i .z), .int .i64 id), ((.i (.i .z)), .ptr (H.key 0) 0), ((.i (.i (.o .z))), v), ((.o (.o (.i .z))), .int .i64 l.length), ((.i (.o (.i .z))), .int .i64 i)])
    (fun i => [.row true 4 [[.int .i64 0, .str [], .int .i64 0, .nils]]]) ?_ 0 (σ := [0]) (Wk.of rfl (by decide) (by simp only [go_sem, hren, List.length_nil, List.map_nil, List.length_cons, List.map_cons, List.replicate_succ, List.replicate_zero, List.set_cons_zero, List.set_cons_succ, List.take_succ_cons, List.take_zero, List.take_nil, List.length_append, List.map_append, List.cons_append, List.nil_append, List.drop_succ_cons, List.drop_zero, List.append_nil, List.getElem?_cons_zero, List.getElem?_cons_succ, Nat.reduceAdd, Nat.reduceSub, Nat.reduceMul, Nat.reduceDiv, Nat.reduceMod, Nat.reduceEqDiff, Nat.reduceLeDiff, Nat.reduceLT, Int.reduceLT, Int.reduceLE, Int.reduceEq, Int.reduceToNat, reduceIte, reduceCtorEq]) (by simp only [go_sem, List.length_nil, List.map_nil, List.length_cons, List.map_cons, List.replicate_succ, List.replicate_zero, List.set_cons_zero, List.set_cons_succ, List.take_succ_cons, List.take_zero, List.take_nil, List.length_append, List.map_append, List.cons_append, List.nil_append, List.drop_succ_cons, List.drop_zero, List.append_nil, List.getElem?_cons_zero, List.getElem?_cons_succ, Nat.reduceAdd, Nat.reduceSub, Nat.reduceMul, Nat.reduceDiv, Nat.reduceMod, Nat.reduceEqDiff, Nat.reduceLeDiff, Nat.reduceLT, Int.reduceLT, Int.reduceLE, Int.reduceEq, Int.reduceToNat, reduceIte, reduceCtorEq, eq_self, true_implies, not_true_eq_false, not_false_eq_true, false_implies, and_true, true_and, decide_true, decide_false, Bool.not_true, Bool.not_false])) ⟨Nat.zero_le _, fun j d h => absurd h (Nat.not_lt_zero _)⟩
  rintro i ⟨hi, hno⟩
  by_cases hlt : i < l.length
  · obtain ⟨kk, r, ex', cap', wr, rows, hv, hrho, hgo, hrow⟩ := hA.at hok (j := i) (by rw [List.length_map]; exact hlt); simp only [List.length_map, List.getElem_map] at hv hrow; cases hv; have hget : l[i]? = some l[i] := List.getElem?_eq_getElem hlt; generalize l[i] = c at hrow hget; have hw := wrap_succ (n := i) (by omega); have hci : (i : Int) < (l.length : Int) := (by omega); have hsi : i + 1 ≤ l.length := (by omega)
    have hco := ha c (List.mem_of_getElem? hget)
    simp only [go_sem, C29L0, Nat.reduceAdd, Nat.reduceSub, Nat.reduceMul, Nat.reduceDiv, Nat.reduceMod, Nat.reduceEqDiff, Nat.reduceLeDiff, Nat.reduceLT, Int.reduceLT, Int.reduceLE, Int.reduceEq, Int.reduceToNat, reduceIte, reduceCtorEq, List.length_nil, List.map_nil, List.length_cons, List.map_cons, List.replicate_succ, List.replicate_zero, List.set_cons_zero, List.set_cons_succ, List.take_succ_cons, List.take_zero, List.take_nil, List.length_append, List.map_append, List.cons_append, List.nil_append, List.drop_succ_cons, List.drop_zero, List.append_nil, List.getElem?_cons_zero, List.getElem?_cons_succ, eq_self, true_implies, not_true_eq_false, not_false_eq_true, false_implies, and_true, true_and, decide_true, decide_false, Bool.not_true, Bool.not_false, hci, hsi, hgo, hrow, hw, Dn.enc]
    have hfind : c.ses = s → findD l s = some c := fun h => by subst h; exact findD_at hup (List.mem_of_getElem? hget)
    have hnext : ¬ (c.ses = s ∧ id ≤ c.id) → ∀ j d, j < i + 1 → l[j]? = some d → ¬ (d.ses = s ∧ id ≤ d.id) := fun hc j d hj hd => by
      rcases Nat.lt_or_ge j i with h | h
      · exact hno j d h hd
      · obtain rfl : j = i := by omega
        rw [hget] at hd; cases hd; exact hc
    refine ⟨fun g => ?_, fun g => ⟨fun g2 => ?_, fun g2 => ⟨fun g3 => ?_, fun g3 => ?_⟩⟩⟩
    · exact ⟨i + 1, by show l.length - (i + 1) < l.length - i; omega, ⟨by omega, hnext fun h => g h.1⟩, _, [0], rfl, Wk.of rfl (by decide) (by simp only [go_sem, hren, hrho, hw, List.length_nil, List.map_nil, List.length_cons, List.map_cons, List.replicate_succ, List.replicate_zero, List.set_cons_zero, List.set_cons_succ, List.take_succ_cons, List.take_zero, List.take_nil, List.length_append, List.map_append, List.cons_append, List.nil_append, List.drop_succ_cons, List.drop_zero, List.append_nil, List.getElem?_cons_zero, List.getElem?_cons_succ, Nat.reduceAdd, Nat.reduceSub, Nat.reduceMul, Nat.reduceDiv, Nat.reduceMod, Nat.reduceEqDiff, Nat.reduceLeDiff, Nat.reduceLT, Int.reduceLT, Int.reduceLE, Int.reduceEq, Int.reduceToNat, reduceIte, reduceCtorEq]) (by simp only [go_sem, List.length_nil, List.map_nil, List.length_cons, List.map_cons, List.replicate_succ, List.replicate_zero, List.set_cons_zero, List.set_cons_succ, List.take_succ_cons, List.take_zero, List.take_nil, List.length_append, List.map_append, List.cons_append, List.nil_append, List.drop_succ_cons, List.drop_zero, List.append_nil, List.getElem?_cons_zero, List.getElem?_cons_succ, Nat.reduceAdd, Nat.reduceSub, Nat.reduceMul, Nat.reduceDiv, Nat.reduceMod, Nat.reduceEqDiff, Nat.reduceLeDiff, Nat.reduceLT, Int.reduceLT, Int.reduceLE, Int.reduceEq, Int.reduceToNat, reduceIte, reduceCtorEq, eq_self, true_implies, not_true_eq_false, not_false_eq_true, false_implies, and_true, true_and, decide_true, decide_false, Bool.not_true, Bool.not_false])⟩
    · exact ⟨i + 1, by show l.length - (i + 1) < l.length - i; omega, ⟨by omega, hnext fun h => by omega⟩, _, [0], rfl, Wk.of rfl (by decide) (by simp only [go_sem, hren, hrho, hw, List.length_nil, List.map_nil, List.length_cons, List.map_cons, List.replicate_succ, List.replicate_zero, List.set_cons_zero, List.set_cons_succ, List.take_succ_cons, List.take_zero, List.take_nil, List.length_append, List.map_append, List.cons_append, List.nil_append, List.drop_succ_cons, List.drop_zero, List.append_nil, List.getElem?_cons_zero, List.getElem?_cons_succ, Nat.reduceAdd, Nat.reduceSub, Nat.reduceMul, Nat.reduceDiv, Nat.reduceMod, Nat.reduceEqDiff, Nat.reduceLeDiff, Nat.reduceLT, Int.reduceLT, Int.reduceLE, Int.reduceEq, Int.reduceToNat, reduceIte, reduceCtorEq]) (by simp only [go_sem, List.length_nil, List.map_nil, List.length_cons, List.map_cons, List.replicate_succ, List.replicate_zero, List.set_cons_zero, List.set_cons_succ, List.take_succ_cons, List.take_zero, List.take_nil, List.length_append, List.map_append, List.cons_append, List.nil_append, List.drop_succ_cons, List.drop_zero, List.append_nil, List.getElem?_cons_zero, List.getElem?_cons_succ, Nat.reduceAdd, Nat.reduceSub, Nat.reduceMul, Nat.reduceDiv, Nat.reduceMod, Nat.reduceEqDiff, Nat.reduceLeDiff, Nat.reduceLT, Int.reduceLT, Int.reduceLE, Int.reduceEq, Int.reduceToNat, reduceIte, reduceCtorEq, eq_self, true_implies, not_true_eq_false, not_false_eq_true, false_implies, and_true, true_and, decide_true, decide_false, Bool.not_true, Bool.not_false])⟩
    · have hst : stands l s id = (c.an, 1) := by rw [stands_some (hfind (Classical.not_not.1 g)), if_neg g2, if_pos g3]
      have hrr := hr c (List.mem_of_getElem? hget)
      refine CL.of (clone_z' clo55 (hco.1.ext _) (by rw [List.length_map]; omega) (fun _ _ => Rw.map_rens _ _)) ?_
      rintro _ _ ⟨z, rfl, rfl⟩
      simp only [go_sem, agg_z, one_z, Nat.reduceAdd, Nat.reduceSub, Nat.reduceMul, Nat.reduceDiv, Nat.reduceMod, Nat.reduceEqDiff, Nat.reduceLeDiff, Nat.reduceLT, Int.reduceLT, Int.reduceLE, Int.reduceEq, Int.reduceToNat, reduceIte, reduceCtorEq, List.length_nil, List.map_nil, List.length_cons, List.map_cons, List.replicate_succ, List.replicate_zero, List.set_cons_zero, List.set_cons_succ, List.take_succ_cons, List.take_zero, List.take_nil, List.length_append, List.map_append, List.cons_append, List.nil_append, List.drop_succ_cons, List.drop_zero, List.append_nil, List.getElem?_cons_zero, List.getElem?_cons_succ, eq_self, true_implies, not_true_eq_false, not_false_eq_true, false_implies, and_true, true_and, decide_true, decide_false, Bool.not_true, Bool.not_false]
      exact ⟨z, _, 2, by rw [hst]; rfl, rfl, fun _ => by rw [hst]; rfl⟩
    · have hst : stands l s id = (zeroA, 2) := by rw [stands_some (hfind (Classical.not_not.1 g)), if_neg g2, if_neg g3]
      rw [hst]
      exact ⟨true, _, 0, rfl, rfl, fun h => h.elim⟩
  · have hci : ¬ (i : Int) < (l.length : Int) := by omega
    simp only [go_sem, C29L0, Nat.reduceAdd, Nat.reduceSub, Nat.reduceMul, Nat.reduceDiv, Nat.reduceMod, Nat.reduceEqDiff, Nat.reduceLeDiff, Nat.reduceLT, Int.reduceLT, Int.reduceLE, Int.reduceEq, Int.reduceToNat, reduceIte, reduceCtorEq, List.length_nil, List.map_nil, List.length_cons, List.map_cons, List.replicate_succ, List.replicate_zero, List.set_cons_zero, List.set_cons_succ, List.take_succ_cons, List.take_zero, List.take_nil, List.length_append, List.map_append, List.cons_append, List.nil_append, List.drop_succ_cons, List.drop_zero, List.append_nil, List.getElem?_cons_zero, List.getElem?_cons_succ, eq_self, true_implies, not_true_eq_false, not_false_eq_true, false_implies, and_true, true_and, decide_true, decide_false, Bool.not_true, Bool.not_false, hci]
    have hst : stands l s id = (zeroA, 0) := by
      cases hf : findD l s with
      | none => rw [stands_none hf]
      | some d =>
        obtain ⟨h1, h2⟩ := findD_mem hf
        obtain ⟨j, hj⟩ := List.mem_iff_getElem?.1 h1
        have := hno j d (by have := (List.getElem?_eq_some_iff.1 hj).1; omega) hj
        rw [stands_some hf, if_pos (by omega)]
    rw [hst]
    exact ⟨true, _, 0, rfl, rfl, fun h => h.elim⟩
end Go.Proofs
/- once: the known answers: walked. -/

set_option linter.all false
set_option linter.all false
set_option maxRecDepth 100000
namespace Go.Proofs
open Go Go.Ev
variable {H : Heap}

/-- an answer with a version alone -/
def verA (n : Int) : An := ⟨0, [], n, [], .nils⟩
theorem verA_ok (n : Int) : (verA n).ok H := ⟨.inl ⟨rfl, rfl⟩, (by decide : (0 : Nat) ≤ 9223372036854775807)⟩
theorem verA_isAns {n : Int} (h : 0 ≤ n) (h2 : n < 281474976710656) : isAns (verA n) := ⟨⟨Int.le_refl 0, (by decide : (0 : Int) < 281474976710656), h, h2, (by decide : ((0 : Nat) : Int) ≤ 255)⟩, (by decide : ((0 : Nat) : Int) ≤ 16), fun ⟨r, h, _⟩ => by cases h⟩
theorem one_ok {H : Heap} {d : Dn} (h : d.an.ok H) : allOk H [d] := fun c hc => by rw [List.mem_singleton.1 hc]; exact h
theorem one_up (d : Dn) : upD [d] := List.pairwise_singleton ..
abbrev kn1 : Dn := ⟨1, 4, verA 2⟩
abbrev kn2 : Dn := ⟨1, 9, zeroA⟩
abbrev kn3 : Dn := ⟨1, 2, zeroA⟩
theorem kn_up : withD [kn2] kn1 = [kn2] := by rw [withD, putGD, if_neg (by decide), if_pos rfl]; rw [lateD, if_neg (by decide)]
theorem kn_join : joinP [kn1] [kn2] = [kn2] := kn_up
theorem kn_low : withD [kn1] kn3 = [kn1] := by rw [withD, putGD, if_neg (by decide), if_pos rfl]; rw [lateD, if_neg (by decide)]
theorem kn_done : isDone [kn1] := done_iff.2 ⟨fun c hc => by rw [List.mem_singleton.1 hc]; exact ⟨by decide, verA_isAns (by decide) (by decide)⟩, one_up _⟩
theorem kn_bad : ¬ isDone [zeroD] := fun h => absurd ((done_iff.1 h).1 zeroD (by simp)).1.2.2.1 (by decide)
theorem f25_ok : FnOk Try.prog 25 [] H fun r G => r = .bool true ∧ G = H := by
  refine FnOk.assume fun hok => ?_
  refine FnOk.drop (R := fun r => r = .bool true) ?_ (by rintro v rfl ρ; rw [AV.ren])
  refine FnOk.of_WW Try.func25 rfl C25ok R25ok E0 good_E0 ?_
  simp only [go_sem, C25, Nat.reduceAdd, Nat.reduceSub, Nat.reduceMul, Nat.reduceDiv, Nat.reduceMod, Nat.reduceEqDiff, Nat.reduceLeDiff, Nat.reduceLT, Int.reduceLT, Int.reduceLE, Int.reduceEq, Int.reduceToNat, reduceIte, reduceCtorEq, List.length_nil, List.map_nil, List.length_cons, List.map_cons, List.replicate_succ, List.replicate_zero, List.set_cons_zero, List.set_cons_succ, List.take_succ_cons, List.take_zero, List.take_nil, List.length_append, List.map_append, List.cons_append, List.nil_append, List.drop_succ_cons, List.drop_zero, List.append_nil, List.getElem?_cons_zero, List.getElem?_cons_succ, eq_self, true_implies, not_true_eq_false, not_false_eq_true, false_implies, and_true, true_and, decide_true, decide_false, Bool.not_true, Bool.not_false]
  refine CL.of (f33_ok (l := []) (d := kn1) (.inl ⟨rfl, rfl⟩) (fun d h => by cases h) (verA_ok _) .nil (by decide)) ?_
  rintro _ _ ⟨rfl, rfl⟩
  rw [show withD [] kn1 = [kn1] from rfl]
  simp only [go_sem, Nat.reduceAdd, Nat.reduceSub, Nat.reduceMul, Nat.reduceDiv, Nat.reduceMod, Nat.reduceEqDiff, Nat.reduceLeDiff, Nat.reduceLT, Int.reduceLT, Int.reduceLE, Int.reduceEq, Int.reduceToNat, reduceIte, reduceCtorEq, List.length_nil, List.map_nil, List.length_cons, List.map_cons, List.replicate_succ, List.replicate_zero, List.set_cons_zero, List.set_cons_succ, List.take_succ_cons, List.take_zero, List.take_nil, List.length_append, List.map_append, List.cons_append, List.nil_append, List.drop_succ_cons, List.drop_zero, List.append_nil, List.getElem?_cons_zero, List.getElem?_cons_succ, eq_self, true_implies, not_true_eq_false, not_false_eq_true, false_implies, and_true, true_and, decide_true, decide_false, Bool.not_true, Bool.not_false]
  have hR : ∀ d ∈ [kn1], (d.an.rows.length : Int) ≤ 16 := fun d h => by rw [List.mem_singleton.1 h]; decide
  have s1 : stands [kn1] 1 4 = (verA 2, 1) := by rw [stands_some (d := kn1) (by rw [findD, if_pos rfl]), if_neg (by decide), if_pos rfl]
  have s2 : stands [kn1] 1 5 = (zeroA, 0) := by rw [stands_some (d := kn1) (by rw [findD, if_pos rfl]), if_pos (by decide)]
  have s3 : stands [kn1] 1 3 = (zeroA, 2) := by rw [stands_some (d := kn1) (by rw [findD, if_pos rfl]), if_neg (by decide), if_neg (by decide)]
  have s4 : stands [kn1] 0 1 = (zeroA, 0) := by rw [stands_none (by rw [findD, if_neg (by decide)]; rfl)]
  refine CL.of (f29_ok (l := [kn1]) (arr_row rfl rfl) (one_ok (verA_ok _)) (by decide) (one_up _) hR 1 4) ?_
  rintro _ _ ⟨z1, rfl, rfl⟩
  simp only [go_sem, s1, ansV, agg_z, one_z, Nat.reduceAdd, Nat.reduceSub, Nat.reduceMul, Nat.reduceDiv, Nat.reduceMod, Nat.reduceEqDiff, Nat.reduceLeDiff, Nat.reduceLT, Int.reduceLT, Int.reduceLE, Int.reduceEq, Int.reduceToNat, reduceIte, reduceCtorEq, List.length_nil, List.map_nil, List.length_cons, List.map_cons, List.replicate_succ, List.replicate_zero, List.set_cons_zero, List.set_cons_succ, List.take_succ_cons, List.take_zero, List.take_nil, List.length_append, List.map_append, List.cons_append, List.nil_append, List.drop_succ_cons, List.drop_zero, List.append_nil, List.getElem?_cons_zero, List.getElem?_cons_succ, eq_self, true_implies, not_true_eq_false, not_false_eq_true, false_implies, and_true, true_and, decide_true, decide_false, Bool.not_true, Bool.not_false]
  refine CL.of (f29_ok (l := [kn1]) (arr_row rfl rfl) (one_ok (verA_ok _)) (by decide) (one_up _) hR 1 5) ?_
  rintro _ _ ⟨z2, rfl, rfl⟩
  simp only [go_sem, s2, ansV, agg_z, one_z, Nat.reduceAdd, Nat.reduceSub, Nat.reduceMul, Nat.reduceDiv, Nat.reduceMod, Nat.reduceEqDiff, Nat.reduceLeDiff, Nat.reduceLT, Int.reduceLT, Int.reduceLE, Int.reduceEq, Int.reduceToNat, reduceIte, reduceCtorEq, List.length_nil, List.map_nil, List.length_cons, List.map_cons, List.replicate_succ, List.replicate_zero, List.set_cons_zero, List.set_cons_succ, List.take_succ_cons, List.take_zero, List.take_nil, List.length_append, List.map_append, List.cons_append, List.nil_append, List.drop_succ_cons, List.drop_zero, List.append_nil, List.getElem?_cons_zero, List.getElem?_cons_succ, eq_self, true_implies, not_true_eq_false, not_false_eq_true, false_implies, and_true, true_and, decide_true, decide_false, Bool.not_true, Bool.not_false]
  refine CL.of (f29_ok (l := [kn1]) (arr_row rfl rfl) (one_ok (verA_ok _)) (by decide) (one_up _) hR 1 3) ?_
  rintro _ _ ⟨z3, rfl, rfl⟩
  simp only [go_sem, s3, ansV, agg_z, one_z, Nat.reduceAdd, Nat.reduceSub, Nat.reduceMul, Nat.reduceDiv, Nat.reduceMod, Nat.reduceEqDiff, Nat.reduceLeDiff, Nat.reduceLT, Int.reduceLT, Int.reduceLE, Int.reduceEq, Int.reduceToNat, reduceIte, reduceCtorEq, List.length_nil, List.map_nil, List.length_cons, List.map_cons, List.replicate_succ, List.replicate_zero, List.set_cons_zero, List.set_cons_succ, List.take_succ_cons, List.take_zero, List.take_nil, List.length_append, List.map_append, List.cons_append, List.nil_append, List.drop_succ_cons, List.drop_zero, List.append_nil, List.getElem?_cons_zero, List.getElem?_cons_succ, eq_self, true_implies, not_true_eq_false, not_false_eq_true, false_implies, and_true, true_and, decide_true, decide_false, Bool.not_true, Bool.not_false]
  refine CL.of (f29_ok (l := [kn1]) (arr_row rfl rfl) (one_ok (verA_ok _)) (by decide) (one_up _) hR 0 1) ?_
  rintro _ _ ⟨z4, rfl, rfl⟩
  simp only [go_sem, s4, ansV, agg_z, one_z, Nat.reduceAdd, Nat.reduceSub, Nat.reduceMul, Nat.reduceDiv, Nat.reduceMod, Nat.reduceEqDiff, Nat.reduceLeDiff, Nat.reduceLT, Int.reduceLT, Int.reduceLE, Int.reduceEq, Int.reduceToNat, reduceIte, reduceCtorEq, List.length_nil, List.map_nil, List.length_cons, List.map_cons, List.replicate_succ, List.replicate_zero, List.set_cons_zero, List.set_cons_succ, List.take_succ_cons, List.take_zero, List.take_nil, List.length_append, List.map_append, List.cons_append, List.nil_append, List.drop_succ_cons, List.drop_zero, List.append_nil, List.getElem?_cons_zero, List.getElem?_cons_succ, eq_self, true_implies, not_true_eq_false, not_false_eq_true, false_implies, and_true, true_and, decide_true, decide_false, Bool.not_true, Bool.not_false]
  refine CL.of (f35_ok (l := [kn1]) (b := [kn2]) (arr_row rfl rfl) (arr_row rfl rfl) (one_ok (verA_ok _)) (one_ok zeroA_ok) (one_up _) (by decide) (by decide)) ?_
  rintro _ _ ⟨z5, rfl, rfl⟩
  have hz5 : ∀ k, zV z5 k 6 (joinP [kn1] [kn2]).length = .slice k 0 1 6 false 1 := fun k => by rw [kn_join]; rfl
  have hz6 : zB z5 6 ((joinP [kn1] [kn2]).map Dn.enc) = .row true 6 [kn2.enc] := by rw [kn_join]; rfl
  rw [hz5, hz6]
  have hv2 : (verA 2).ver = 2 := rfl
  simp only [go_sem, agg_z, one_z, Nat.reduceAdd, Nat.reduceSub, Nat.reduceMul, Nat.reduceDiv, Nat.reduceMod, Nat.reduceEqDiff, Nat.reduceLeDiff, Nat.reduceLT, Int.reduceLT, Int.reduceLE, Int.reduceEq, Int.reduceToNat, reduceIte, reduceCtorEq, List.length_nil, List.map_nil, List.length_cons, List.map_cons, List.replicate_succ, List.replicate_zero, List.set_cons_zero, List.set_cons_succ, List.take_succ_cons, List.take_zero, List.take_nil, List.length_append, List.map_append, List.cons_append, List.nil_append, List.drop_succ_cons, List.drop_zero, List.append_nil, List.getElem?_cons_zero, List.getElem?_cons_succ, eq_self, true_implies, not_true_eq_false, not_false_eq_true, false_implies, and_true, true_and, decide_true, decide_false, Bool.not_true, Bool.not_false]
  refine CL.one (f27_ok (l := [kn1]) (arr_row rfl rfl) (one_ok (verA_ok _)) (by decide)) ?_
  rw [decide_eq_true kn_done]
  simp only [go_sem, hv2, Dn.enc, Nat.reduceAdd, Nat.reduceSub, Nat.reduceMul, Nat.reduceDiv, Nat.reduceMod, Nat.reduceEqDiff, Nat.reduceLeDiff, Nat.reduceLT, Int.reduceLT, Int.reduceLE, Int.reduceEq, Int.reduceToNat, reduceIte, reduceCtorEq, List.length_nil, List.map_nil, List.length_cons, List.map_cons, List.replicate_succ, List.replicate_zero, List.set_cons_zero, List.set_cons_succ, List.take_succ_cons, List.take_zero, List.take_nil, List.length_append, List.map_append, List.cons_append, List.nil_append, List.drop_succ_cons, List.drop_zero, List.append_nil, List.getElem?_cons_zero, List.getElem?_cons_succ, eq_self, true_implies, not_true_eq_false, not_false_eq_true, false_implies, and_true, true_and, decide_true, decide_false, Bool.not_true, Bool.not_false]
  refine CL.of (f33_ok (l := [kn1]) (d := kn3) (arr_row rfl rfl) (one_ok (verA_ok _)) zeroA_ok (one_up _) (by decide)) ?_
  rintro _ _ ⟨rfl, rfl⟩
  rw [kn_low]
  simp only [go_sem, hv2, Dn.enc, Nat.reduceAdd, Nat.reduceSub, Nat.reduceMul, Nat.reduceDiv, Nat.reduceMod, Nat.reduceEqDiff, Nat.reduceLeDiff, Nat.reduceLT, Int.reduceLT, Int.reduceLE, Int.reduceEq, Int.reduceToNat, reduceIte, reduceCtorEq, List.length_nil, List.map_nil, List.length_cons, List.map_cons, List.replicate_succ, List.replicate_zero, List.set_cons_zero, List.set_cons_succ, List.take_succ_cons, List.take_zero, List.take_nil, List.length_append, List.map_append, List.cons_append, List.nil_append, List.drop_succ_cons, List.drop_zero, List.append_nil, List.getElem?_cons_zero, List.getElem?_cons_succ, eq_self, true_implies, not_true_eq_false, not_false_eq_true, false_implies, and_true, true_and, decide_true, decide_false, Bool.not_true, Bool.not_false]
  refine CL.one (f27_ok (l := [zeroD]) (arr_row rfl rfl) (one_ok zeroA_ok) (by decide)) ?_
  rw [decide_eq_false kn_bad]
  simp only [go_sem, hv2, Dn.enc, Nat.reduceAdd, Nat.reduceSub, Nat.reduceMul, Nat.reduceDiv, Nat.reduceMod, Nat.reduceEqDiff, Nat.reduceLeDiff, Nat.reduceLT, Int.reduceLT, Int.reduceLE, Int.reduceEq, Int.reduceToNat, reduceIte, reduceCtorEq, List.length_nil, List.map_nil, List.length_cons, List.map_cons, List.replicate_succ, List.replicate_zero, List.set_cons_zero, List.set_cons_succ, List.take_succ_cons, List.take_zero, List.take_nil, List.length_append, List.map_append, List.cons_append, List.nil_append, List.drop_succ_cons, List.drop_zero, List.append_nil, List.getElem?_cons_zero, List.getElem?_cons_succ, eq_self, true_implies, not_true_eq_false, not_false_eq_true, false_implies, and_true, true_and, decide_true, decide_false, Bool.not_true, Bool.not_false]
  exact ⟨_, rfl⟩
end Go.Proofs
/- once: what was done in one of two is done in both joined: the plain law and the walk. -/

set_option linter.all false
set_option linter.all false
set_option maxRecDepth 100000
namespace Go.Proofs
open Go Go.Ev
variable {H : Heap}

noncomputable def laterO : Option Dn → Option Dn → Option Dn
  | none, y => y
  | some x, none => some x
  | some x, some y => some (lateD y x)
theorem find_with {l : List Dn} {x : Dn} (h : upD l) (s : Int) : findD (withD l x) s = if x.ses = s then laterO (some x) (findD l s) else findD l s := by
  rw [withD, findD_put lateD_ses h]
  cases findD l s <;> rfl
theorem find_join (s : Int) : ∀ {a b : List Dn}, upD a → upD b → findD (joinP a b) s = laterO (findD a s) (findD b s)
  | [], b, _, _ => rfl
  | x :: a, b, ha, hb => by
    obtain ⟨h1, h2⟩ := upD_cons.1 ha
    show findD (joinP a (withD b x)) s = _
    rw [find_join s h2 (withD_up hb), find_with hb, findD]
    by_cases e : x.ses = s
    · rw [if_pos e, if_pos e, findD_none (l := a) (fun d hd g => by have := h1 d hd; omega)]
      rfl
    · rw [if_neg e, if_neg e]
def num (o : Option Dn) (id : Int) : Int := match o with
  | none => 0
  | some d => if d.id < id then 0 else if id = d.id then 1 else 2
theorem stands_num (l : List Dn) (s id : Int) : (stands l s id).2 = num (findD l s) id := by
  unfold stands num
  cases findD l s with
  | none => rfl
  | some d => dsimp only; split <;> first | rfl | (split <;> rfl)
theorem num_pos (o : Option Dn) (id : Int) : 0 ≤ num o id ∧ num o id ≤ 2 := by
  cases o with
  | none => exact ⟨Int.le_refl _, (by decide : (0 : Int) ≤ 2)⟩
  | some d =>
    show 0 ≤ (if d.id < id then (0 : Int) else if id = d.id then 1 else 2) ∧ _ ≤ (2 : Int)
    show 0 ≤ (if d.id < id then (0 : Int) else if id = d.id then 1 else 2) ∧ (if d.id < id then (0 : Int) else if id = d.id then 1 else 2) ≤ (2 : Int)
    split
    · decide
    · split <;> decide
theorem num_later (x y : Option Dn) (id : Int) : num (laterO x y) id = max (num x id) (num y id) := by
  cases x with
  | none => exact (Int.max_eq_right (num_pos y id).1).symm
  | some x =>
    cases y with
    | none => exact (Int.max_eq_left (num_pos _ id).1).symm
    | some y =>
      show (if (lateD y x).id < id then (0 : Int) else if id = (lateD y x).id then 1 else 2) = max (if x.id < id then (0 : Int) else if id = x.id then 1 else 2) (if y.id < id then (0 : Int) else if id = y.id then 1 else 2)
      unfold lateD
      by_cases h : y.id ≤ x.id
      · rw [if_pos h]; split <;> split <;> first | omega | (split <;> first | omega | (split <;> omega))
      · rw [if_neg h]; split <;> split <;> first | omega | (split <;> first | omega | (split <;> omega))
theorem join_self : ∀ {m a : List Dn}, upD a → (∀ d ∈ m, d ∈ a) → joinP m a = a
  | [], a, _, _ => rfl
  | x :: m, a, h, hm => by
    have hx : withD a x = a := by
      refine upD_ext (withD_up h) h fun k => ?_
      rw [find_with h]
      by_cases e : x.ses = k
      · subst e
        rw [if_pos rfl, findD_at h (hm x (by simp))]
        show some (lateD x x) = _
        rw [lateD, if_pos (Int.le_refl _)]
      · rw [if_neg e]
    show joinP m (withD a x) = a
    rw [hx]
    exact join_self h fun d hd => hm d (by simp [hd])
def bare (d : Dn) : Dn := ⟨d.ses, 0, zeroA⟩
theorem bare_up {l : List Dn} (h : upD l) : upD (l.map bare) := by
  unfold upD; rw [List.pairwise_map]; exact h
theorem bare_find (k : Int) : ∀ l : List Dn, findD (l.map bare) k = (findD l k).map bare
  | [] => rfl
  | d :: l => by
    rw [List.map_cons, findD, findD, bare_find k l]
    by_cases e : d.ses = k
    · rw [if_pos e, if_pos (by exact e)]; rfl
    · rw [if_neg e, if_neg (by exact e)]
theorem join_len {a b : List Dn} (ha : upD a) (hb : upD b) : (joinP a b).length = (joinP b a).length := by
  have : (joinP a b).map bare = (joinP b a).map bare := by
    refine upD_ext (bare_up (joinP_up hb)) (bare_up (joinP_up ha)) fun k => ?_
    rw [bare_find, bare_find, find_join k ha hb, find_join k hb ha]
    cases h1 : findD a k with
    | none => cases findD b k <;> rfl
    | some x =>
      cases h2 : findD b k with
      | none => rfl
      | some y =>
        obtain ⟨e1, _⟩ := findD_key h1
        obtain ⟨e2, _⟩ := findD_key h2
        show some (bare (lateD y x)) = some (bare (lateD x y))
        unfold lateD bare
        split <;> split <;> simp_all
  have := congrArg List.length this
  rwa [List.length_map, List.length_map] at this
theorem mem_join {c : Dn} : ∀ {a b : List Dn}, c ∈ joinP a b → c ∈ a ∨ c ∈ b
  | [], b, h => .inr h
  | x :: a, b, h => by
    rcases mem_join (a := a) (b := withD b x) h with h | h
    · exact .inl (by simp [h])
    · rcases mem_withD h with rfl | h
      · exact .inl (by simp)
      · exact .inr h
theorem join_done {a b : List Dn} (ha : isDone a) (hb : isDone b) : isDone (joinP a b) := done_iff.2 ⟨fun c hc => by
  rcases mem_join hc with h | h
  · exact (done_iff.1 ha).1 c h
  · exact (done_iff.1 hb).1 c h, joinP_up hb.upDD⟩
theorem sameD_self (l : List Dn) : sameD l l := ⟨rfl, fun i c d h1 h2 => by rw [h1] at h2; cases h2; exact ⟨rfl, rfl, rfl, rfl, rfl, rfl⟩⟩
theorem isDone.rows {l : List Dn} (h : isDone l) : ∀ d ∈ l, (d.an.rows.length : Int) ≤ 16 := fun d hd => ((done_iff.1 h).1 d hd).2.2.1
theorem f7_ok {u v : AV} {a b : List Dn} (hA : Arr H 6 v (a.map Dn.enc)) (hB : Arr H 6 u (b.map Dn.enc)) (ha : allOk H a) (hb : allOk H b) (hal : a.length ≤ 9223372036854775807) (hbl : b.length ≤ 9223372036854775807) {p q : Nat} (hp : p < 256) (hq : q < 256) :
    FnOk Try.prog 7 [v, u, .int .u8 (p : Int), .int .u8 (q : Int)] H fun r G => r = .bool true ∧ G = H := by
  refine FnOk.assume fun hok => ?_
  refine FnOk.drop (R := fun r => r = .bool true) ?_ (by rintro v rfl ρ; rw [AV.ren])
  refine FnOk.of_WW Try.func7 rfl C7ok R7ok E0 good_E0 ?_
  have hm : ((p : Int).tmod 3) = ((p % 3 : Nat) : Int) := rfl
  have hk3 : p % 3 < 3 := Nat.mod_lt _ (by decide)
  generalize p % 3 = j at *
  have hj0 : IntKind.i64.wrap (j : Int) = (j : Int) := wrap_i64 (by omega) (by omega)
  have hq0 : IntKind.i64.wrap (q : Int) = (q : Int) := wrap_i64 (by omega) (by omega)
  have hq1 := wrap_succ (n := q) (by omega)
  simp only [go_sem, C7, Nat.reduceAdd, Nat.reduceSub, Nat.reduceMul, Nat.reduceDiv, Nat.reduceMod, Nat.reduceEqDiff, Nat.reduceLeDiff, Nat.reduceLT, Int.reduceLT, Int.reduceLE, Int.reduceEq, Int.reduceToNat, reduceIte, reduceCtorEq, List.length_nil, List.map_nil, List.length_cons, List.map_cons, List.replicate_succ, List.replicate_zero, List.set_cons_zero, List.set_cons_succ, List.take_succ_cons, List.take_zero, List.take_nil, List.length_append, List.map_append, List.cons_append, List.nil_append, List.drop_succ_cons, List.drop_zero, List.append_nil, List.getElem?_cons_zero, List.getElem?_cons_succ, eq_self, true_implies, not_true_eq_false, not_false_eq_true, false_implies, and_true, true_and, decide_true, decide_false, Bool.not_true, Bool.not_false]
  refine CL.one f25_ok ?_
  simp only [go_sem, Nat.reduceAdd, Nat.reduceSub, Nat.reduceMul, Nat.reduceDiv, Nat.reduceMod, Nat.reduceEqDiff, Nat.reduceLeDiff, Nat.reduceLT, Int.reduceLT, Int.reduceLE, Int.reduceEq, Int.reduceToNat, reduceIte, reduceCtorEq, List.length_nil, List.map_nil, List.length_cons, List.map_cons, List.replicate_succ, List.replicate_zero, List.set_cons_zero, List.set_cons_succ, List.take_succ_cons, List.take_zero, List.take_nil, List.length_append, List.map_append, List.cons_append, List.nil_append, List.drop_succ_cons, List.drop_zero, List.append_nil, List.getElem?_cons_zero, List.getElem?_cons_succ, eq_self, true_implies, not_true_eq_false, not_false_eq_true, false_implies, and_true, true_and, decide_true, decide_false, Bool.not_true, Bool.not_false]
  refine CL.bool (f26_ok hA ha hal) (fun g1 => ?_) (fun g1 => ?_)
  rotate_left
  · simp only [go_sem, Nat.reduceAdd, Nat.reduceSub, Nat.reduceMul, Nat.reduceDiv, Nat.reduceMod, Nat.reduceEqDiff, Nat.reduceLeDiff, Nat.reduceLT, Int.reduceLT, Int.reduceLE, Int.reduceEq, Int.reduceToNat, reduceIte, reduceCtorEq, List.length_nil, List.map_nil, List.length_cons, List.map_cons, List.replicate_succ, List.replicate_zero, List.set_cons_zero, List.set_cons_succ, List.take_succ_cons, List.take_zero, List.take_nil, List.length_append, List.map_append, List.cons_append, List.nil_append, List.drop_succ_cons, List.drop_zero, List.append_nil, List.getElem?_cons_zero, List.getElem?_cons_succ, eq_self, true_implies, not_true_eq_false, not_false_eq_true, false_implies, and_true, true_and, decide_true, decide_false, Bool.not_true, Bool.not_false]; exact ⟨_, rfl⟩
  simp only [go_sem, Nat.reduceAdd, Nat.reduceSub, Nat.reduceMul, Nat.reduceDiv, Nat.reduceMod, Nat.reduceEqDiff, Nat.reduceLeDiff, Nat.reduceLT, Int.reduceLT, Int.reduceLE, Int.reduceEq, Int.reduceToNat, reduceIte, reduceCtorEq, List.length_nil, List.map_nil, List.length_cons, List.map_cons, List.replicate_succ, List.replicate_zero, List.set_cons_zero, List.set_cons_succ, List.take_succ_cons, List.take_zero, List.take_nil, List.length_append, List.map_append, List.cons_append, List.nil_append, List.drop_succ_cons, List.drop_zero, List.append_nil, List.getElem?_cons_zero, List.getElem?_cons_succ, eq_self, true_implies, not_true_eq_false, not_false_eq_true, false_implies, and_true, true_and, decide_true, decide_false, Bool.not_true, Bool.not_false]
  refine CL.bool (f26_ok hB hb hbl) (fun g2 => ?_) (fun g2 => ?_)
  rotate_left
  · simp only [go_sem, Nat.reduceAdd, Nat.reduceSub, Nat.reduceMul, Nat.reduceDiv, Nat.reduceMod, Nat.reduceEqDiff, Nat.reduceLeDiff, Nat.reduceLT, Int.reduceLT, Int.reduceLE, Int.reduceEq, Int.reduceToNat, reduceIte, reduceCtorEq, List.length_nil, List.map_nil, List.length_cons, List.map_cons, List.replicate_succ, List.replicate_zero, List.set_cons_zero, List.set_cons_succ, List.take_succ_cons, List.take_zero, List.take_nil, List.length_append, List.map_append, List.cons_append, List.nil_append, List.drop_succ_cons, List.drop_zero, List.append_nil, List.getElem?_cons_zero, List.getElem?_cons_succ, eq_self, true_implies, not_true_eq_false, not_false_eq_true, false_implies, and_true, true_and, decide_true, decide_false, Bool.not_true, Bool.not_false]; exact ⟨_, rfl⟩
  have hla := g1.2
  have hlb := g2.2
  simp only [go_sem, Nat.reduceAdd, Nat.reduceSub, Nat.reduceMul, Nat.reduceDiv, Nat.reduceMod, Nat.reduceEqDiff, Nat.reduceLeDiff, Nat.reduceLT, Int.reduceLT, Int.reduceLE, Int.reduceEq, Int.reduceToNat, reduceIte, reduceCtorEq, List.length_nil, List.map_nil, List.length_cons, List.map_cons, List.replicate_succ, List.replicate_zero, List.set_cons_zero, List.set_cons_succ, List.take_succ_cons, List.take_zero, List.take_nil, List.length_append, List.map_append, List.cons_append, List.nil_append, List.drop_succ_cons, List.drop_zero, List.append_nil, List.getElem?_cons_zero, List.getElem?_cons_succ, eq_self, true_implies, not_true_eq_false, not_false_eq_true, false_implies, and_true, true_and, decide_true, decide_false, Bool.not_true, Bool.not_false]
  refine CL.bool (f28_ok hA ha (by omega)) (fun g3 => ?_) (fun g3 => ?_)
  rotate_left
  · simp only [go_sem, Nat.reduceAdd, Nat.reduceSub, Nat.reduceMul, Nat.reduceDiv, Nat.reduceMod, Nat.reduceEqDiff, Nat.reduceLeDiff, Nat.reduceLT, Int.reduceLT, Int.reduceLE, Int.reduceEq, Int.reduceToNat, reduceIte, reduceCtorEq, List.length_nil, List.map_nil, List.length_cons, List.map_cons, List.replicate_succ, List.replicate_zero, List.set_cons_zero, List.set_cons_succ, List.take_succ_cons, List.take_zero, List.take_nil, List.length_append, List.map_append, List.cons_append, List.nil_append, List.drop_succ_cons, List.drop_zero, List.append_nil, List.getElem?_cons_zero, List.getElem?_cons_succ, eq_self, true_implies, not_true_eq_false, not_false_eq_true, false_implies, and_true, true_and, decide_true, decide_false, Bool.not_true, Bool.not_false]; exact ⟨_, rfl⟩
  simp only [go_sem, Nat.reduceAdd, Nat.reduceSub, Nat.reduceMul, Nat.reduceDiv, Nat.reduceMod, Nat.reduceEqDiff, Nat.reduceLeDiff, Nat.reduceLT, Int.reduceLT, Int.reduceLE, Int.reduceEq, Int.reduceToNat, reduceIte, reduceCtorEq, List.length_nil, List.map_nil, List.length_cons, List.map_cons, List.replicate_succ, List.replicate_zero, List.set_cons_zero, List.set_cons_succ, List.take_succ_cons, List.take_zero, List.take_nil, List.length_append, List.map_append, List.cons_append, List.nil_append, List.drop_succ_cons, List.drop_zero, List.append_nil, List.getElem?_cons_zero, List.getElem?_cons_succ, eq_self, true_implies, not_true_eq_false, not_false_eq_true, false_implies, and_true, true_and, decide_true, decide_false, Bool.not_true, Bool.not_false]
  refine CL.bool (f28_ok hB hb (by omega)) (fun g4 => ?_) (fun g4 => ?_)
  rotate_left
  · simp only [go_sem, Nat.reduceAdd, Nat.reduceSub, Nat.reduceMul, Nat.reduceDiv, Nat.reduceMod, Nat.reduceEqDiff, Nat.reduceLeDiff, Nat.reduceLT, Int.reduceLT, Int.reduceLE, Int.reduceEq, Int.reduceToNat, reduceIte, reduceCtorEq, List.length_nil, List.map_nil, List.length_cons, List.map_cons, List.replicate_succ, List.replicate_zero, List.set_cons_zero, List.set_cons_succ, List.take_succ_cons, List.take_zero, List.take_nil, List.length_append, List.map_append, List.cons_append, List.nil_append, List.drop_succ_cons, List.drop_zero, List.append_nil, List.getElem?_cons_zero, List.getElem?_cons_succ, eq_self, true_implies, not_true_eq_false, not_false_eq_true, false_implies, and_true, true_and, decide_true, decide_false, Bool.not_true, Bool.not_false]; exact ⟨_, rfl⟩
  have hua := g3.upDD
  have hub := g4.upDD
  have hlj := joinP_len (a := a) (b := b)
  have hlk := joinP_len (a := b) (b := a)
  have hdj := join_done g3 g4
  have hdk := join_done g4 g3
  have hoj := joinP_ok ha hb
  have hokk := joinP_ok hb ha
  simp only [go_sem, Nat.reduceAdd, Nat.reduceSub, Nat.reduceMul, Nat.reduceDiv, Nat.reduceMod, Nat.reduceEqDiff, Nat.reduceLeDiff, Nat.reduceLT, Int.reduceLT, Int.reduceLE, Int.reduceEq, Int.reduceToNat, reduceIte, reduceCtorEq, List.length_nil, List.map_nil, List.length_cons, List.map_cons, List.replicate_succ, List.replicate_zero, List.set_cons_zero, List.set_cons_succ, List.take_succ_cons, List.take_zero, List.take_nil, List.length_append, List.map_append, List.cons_append, List.nil_append, List.drop_succ_cons, List.drop_zero, List.append_nil, List.getElem?_cons_zero, List.getElem?_cons_succ, eq_self, true_implies, not_true_eq_false, not_false_eq_true, false_implies, and_true, true_and, decide_true, decide_false, Bool.not_true, Bool.not_false]
  refine CL.of (f35_ok hA hB ha hb hub (by omega) (by omega)) ?_
  rintro _ _ ⟨z1, rfl, rfl⟩
  simp only [go_sem, Nat.reduceAdd, Nat.reduceSub, Nat.reduceMul, Nat.reduceDiv, Nat.reduceMod, Nat.reduceEqDiff, Nat.reduceLeDiff, Nat.reduceLT, Int.reduceLT, Int.reduceLE, Int.reduceEq, Int.reduceToNat, reduceIte, reduceCtorEq, List.length_nil, List.map_nil, List.length_cons, List.map_cons, List.replicate_succ, List.replicate_zero, List.set_cons_zero, List.set_cons_succ, List.take_succ_cons, List.take_zero, List.take_nil, List.length_append, List.map_append, List.cons_append, List.nil_append, List.drop_succ_cons, List.drop_zero, List.append_nil, List.getElem?_cons_zero, List.getElem?_cons_succ, eq_self, true_implies, not_true_eq_false, not_false_eq_true, false_implies, and_true, true_and, decide_true, decide_false, Bool.not_true, Bool.not_false]
  refine CL.of (f35_ok (hB.ext _) (hA.ext _) (hb.ext _) (ha.ext _) hua (by omega) (by omega)) ?_
  rintro _ _ ⟨z2, rfl, rfl⟩
  simp only [go_sem, Nat.reduceAdd, Nat.reduceSub, Nat.reduceMul, Nat.reduceDiv, Nat.reduceMod, Nat.reduceEqDiff, Nat.reduceLeDiff, Nat.reduceLT, Int.reduceLT, Int.reduceLE, Int.reduceEq, Int.reduceToNat, reduceIte, reduceCtorEq, List.length_nil, List.map_nil, List.length_cons, List.map_cons, List.replicate_succ, List.replicate_zero, List.set_cons_zero, List.set_cons_succ, List.take_succ_cons, List.take_zero, List.take_nil, List.length_append, List.map_append, List.cons_append, List.nil_append, List.drop_succ_cons, List.drop_zero, List.append_nil, List.getElem?_cons_zero, List.getElem?_cons_succ, eq_self, true_implies, not_true_eq_false, not_false_eq_true, false_implies, and_true, true_and, decide_true, decide_false, Bool.not_true, Bool.not_false, hm, hj0, hq0, hq1]
  refine CL.of (f29_ok (hA.ext _) (ha.ext _) (by omega) hua g3.rows _ _) ?_
  rintro _ _ ⟨z3, rfl, rfl⟩
  simp only [go_sem, ansV, agg_z, one_z, Nat.reduceAdd, Nat.reduceSub, Nat.reduceMul, Nat.reduceDiv, Nat.reduceMod, Nat.reduceEqDiff, Nat.reduceLeDiff, Nat.reduceLT, Int.reduceLT, Int.reduceLE, Int.reduceEq, Int.reduceToNat, reduceIte, reduceCtorEq, List.length_nil, List.map_nil, List.length_cons, List.map_cons, List.replicate_succ, List.replicate_zero, List.set_cons_zero, List.set_cons_succ, List.take_succ_cons, List.take_zero, List.take_nil, List.length_append, List.map_append, List.cons_append, List.nil_append, List.drop_succ_cons, List.drop_zero, List.append_nil, List.getElem?_cons_zero, List.getElem?_cons_succ, eq_self, true_implies, not_true_eq_false, not_false_eq_true, false_implies, and_true, true_and, decide_true, decide_false, Bool.not_true, Bool.not_false]
  refine CL.of (f29_ok (hB.ext _) (hb.ext _) (by omega) hub g4.rows _ _) ?_
  rintro _ _ ⟨z4, rfl, rfl⟩
  simp only [go_sem, ansV, agg_z, one_z, Nat.reduceAdd, Nat.reduceSub, Nat.reduceMul, Nat.reduceDiv, Nat.reduceMod, Nat.reduceEqDiff, Nat.reduceLeDiff, Nat.reduceLT, Int.reduceLT, Int.reduceLE, Int.reduceEq, Int.reduceToNat, reduceIte, reduceCtorEq, List.length_nil, List.map_nil, List.length_cons, List.map_cons, List.replicate_succ, List.replicate_zero, List.set_cons_zero, List.set_cons_succ, List.take_succ_cons, List.take_zero, List.take_nil, List.length_append, List.map_append, List.cons_append, List.nil_append, List.drop_succ_cons, List.drop_zero, List.append_nil, List.getElem?_cons_zero, List.getElem?_cons_succ, eq_self, true_implies, not_true_eq_false, not_false_eq_true, false_implies, and_true, true_and, decide_true, decide_false, Bool.not_true, Bool.not_false]
  refine CL.of (f29_ok (l := joinP a b) (by exact arr_zV rfl (List.length_map ..)) (hoj.ext _) (by omega) hdj.upDD hdj.rows _ _) ?_
  rintro _ _ ⟨z5, rfl, rfl⟩
  simp only [go_sem, ansV, agg_z, one_z, Nat.reduceAdd, Nat.reduceSub, Nat.reduceMul, Nat.reduceDiv, Nat.reduceMod, Nat.reduceEqDiff, Nat.reduceLeDiff, Nat.reduceLT, Int.reduceLT, Int.reduceLE, Int.reduceEq, Int.reduceToNat, reduceIte, reduceCtorEq, List.length_nil, List.map_nil, List.length_cons, List.map_cons, List.replicate_succ, List.replicate_zero, List.set_cons_zero, List.set_cons_succ, List.take_succ_cons, List.take_zero, List.take_nil, List.length_append, List.map_append, List.cons_append, List.nil_append, List.drop_succ_cons, List.drop_zero, List.append_nil, List.getElem?_cons_zero, List.getElem?_cons_succ, eq_self, true_implies, not_true_eq_false, not_false_eq_true, false_implies, and_true, true_and, decide_true, decide_false, Bool.not_true, Bool.not_false]
  refine CL.of (f29_ok (l := joinP b a) (by exact arr_zV rfl (List.length_map ..)) (hokk.ext _) (by omega) hdk.upDD hdk.rows _ _) ?_
  rintro _ _ ⟨z6, rfl, rfl⟩
  have e1 : (stands (joinP b a) j (q + 1 : Nat)).2 = max (stands a j (q + 1 : Nat)).2 (stands b j (q + 1 : Nat)).2 := by
    rw [stands_num, stands_num, stands_num, find_join _ hub hua, num_later, Int.max_comm]
  have e2 : (stands (joinP a b) j (q + 1 : Nat)).2 = max (stands a j (q + 1 : Nat)).2 (stands b j (q + 1 : Nat)).2 := by
    rw [stands_num, stands_num, stands_num, find_join _ hua hub, num_later]
  simp only [go_sem, ansV, agg_z, one_z, Nat.reduceAdd, Nat.reduceSub, Nat.reduceMul, Nat.reduceDiv, Nat.reduceMod, Nat.reduceEqDiff, Nat.reduceLeDiff, Nat.reduceLT, Int.reduceLT, Int.reduceLE, Int.reduceEq, Int.reduceToNat, reduceIte, reduceCtorEq, List.length_nil, List.map_nil, List.length_cons, List.map_cons, List.replicate_succ, List.replicate_zero, List.set_cons_zero, List.set_cons_succ, List.take_succ_cons, List.take_zero, List.take_nil, List.length_append, List.map_append, List.cons_append, List.nil_append, List.drop_succ_cons, List.drop_zero, List.append_nil, List.getElem?_cons_zero, List.getElem?_cons_succ, eq_self, true_implies, not_true_eq_false, not_false_eq_true, false_implies, and_true, true_and, decide_true, decide_false, Bool.not_true, Bool.not_false]
  refine CL.one (f27_ok (l := joinP a b) (by exact arr_zV rfl (List.length_map ..)) (hoj.ext _) (by omega)) ?_
  rw [decide_eq_true hdj]
  simp only [go_sem, e1, e2, Nat.reduceAdd, Nat.reduceSub, Nat.reduceMul, Nat.reduceDiv, Nat.reduceMod, Nat.reduceEqDiff, Nat.reduceLeDiff, Nat.reduceLT, Int.reduceLT, Int.reduceLE, Int.reduceEq, Int.reduceToNat, reduceIte, reduceCtorEq, List.length_nil, List.map_nil, List.length_cons, List.map_cons, List.replicate_succ, List.replicate_zero, List.set_cons_zero, List.set_cons_succ, List.take_succ_cons, List.take_zero, List.take_nil, List.length_append, List.map_append, List.cons_append, List.nil_append, List.drop_succ_cons, List.drop_zero, List.append_nil, List.getElem?_cons_zero, List.getElem?_cons_succ, eq_self, true_implies, not_true_eq_false, not_false_eq_true, false_implies, and_true, true_and, decide_true, decide_false, Bool.not_true, Bool.not_false]
  refine CL.of (f35_ok (hA.ext _) (hA.ext _) (ha.ext _) (ha.ext _) hua (by omega) (by omega)) ?_
  rintro _ _ ⟨z7, rfl, rfl⟩
  rw [join_self hua fun d hd => hd]
  simp only [go_sem, Nat.reduceAdd, Nat.reduceSub, Nat.reduceMul, Nat.reduceDiv, Nat.reduceMod, Nat.reduceEqDiff, Nat.reduceLeDiff, Nat.reduceLT, Int.reduceLT, Int.reduceLE, Int.reduceEq, Int.reduceToNat, reduceIte, reduceCtorEq, List.length_nil, List.map_nil, List.length_cons, List.map_cons, List.replicate_succ, List.replicate_zero, List.set_cons_zero, List.set_cons_succ, List.take_succ_cons, List.take_zero, List.take_nil, List.length_append, List.map_append, List.cons_append, List.nil_append, List.drop_succ_cons, List.drop_zero, List.append_nil, List.getElem?_cons_zero, List.getElem?_cons_succ, eq_self, true_implies, not_true_eq_false, not_false_eq_true, false_implies, and_true, true_and, decide_true, decide_false, Bool.not_true, Bool.not_false]
  refine CL.one (f32_ok (l := a) (m := a) (by exact arr_zV rfl (List.length_map ..)) (hA.ext _) (ha.ext _) (ha.ext _) (by omega)) ?_
  rw [decide_eq_true (sameD_self a)]
  simp only [go_sem, join_len hua hub, Nat.reduceAdd, Nat.reduceSub, Nat.reduceMul, Nat.reduceDiv, Nat.reduceMod, Nat.reduceEqDiff, Nat.reduceLeDiff, Nat.reduceLT, Int.reduceLT, Int.reduceLE, Int.reduceEq, Int.reduceToNat, reduceIte, reduceCtorEq, List.length_nil, List.map_nil, List.length_cons, List.map_cons, List.replicate_succ, List.replicate_zero, List.set_cons_zero, List.set_cons_succ, List.take_succ_cons, List.take_zero, List.take_nil, List.length_append, List.map_append, List.cons_append, List.nil_append, List.drop_succ_cons, List.drop_zero, List.append_nil, List.getElem?_cons_zero, List.getElem?_cons_succ, eq_self, true_implies, not_true_eq_false, not_false_eq_true, false_implies, and_true, true_and, decide_true, decide_false, Bool.not_true, Bool.not_false]
  exact ⟨_, rfl⟩
end Go.Proofs
