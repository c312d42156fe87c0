/- once: how a request stands: walked. -/
import Derived.Test.YtiadcabmonbgiaaZ14
set_option linter.all false
set_option linter.all false
set_option maxRecDepth 100000
namespace Go.Proofs
open Go Go.Ev
variable {H : Heap}

theorem agg_z {β : Type} (z : Bool) (k : K) (e n : Nat) (f : β) (c : List AV → β) : asAggC (zV z k e n) f c = f := by
  cases n with
  | zero => cases z <;> rfl
  | succ n => rfl
theorem one_z (z : Bool) (k : K) (e n : Nat) : AV.one (zV z k e n) = true := by
  cases n with
  | zero => cases z <;> rfl
  | succ n => rfl
theorem clo55 : CloFn Try.prog 55 3 40 [.str [], .str [], .int .i64 0] := ⟨⟨Try.f55, Try.func55, by kernel_rfl, by kernel_rfl⟩, rfl, by decide⟩
def stands (l : List Dn) (s id : Int) : An × Int := match findD l s with
  | none => (zeroA, 0)
  | some d => if d.id < id then (zeroA, 0) else if id = d.id then (d.an, 1) else (zeroA, 2)
/-- an answer with a number, its rows of one's own -/
def ansV (z : Bool) (k : K) (p : An × Int) : AV := .tup [.agg [.int .i64 p.1.code, .str p.1.val, .int .i64 p.1.ver, zV z k 3 p.1.rows.length], .int .i64 p.2]
theorem ansV_ren (ρ : K → K) (z : Bool) (k : K) (p : An × Int) : AV.ren ρ (ansV z k p) = ansV z (ρ k) p := by simp only [ansV, AV.ren, AV.rens, zV_ren]
theorem FnOk.dropA {f : FuncId} {args : List AV} {p : An × Int}
    (h : FnOk Try.prog f args H fun v G => ∃ z l i, v = ansV z (H.key i) p ∧ G = H.ext l ∧ ((zB z 3 (p.1.rows.map Rw.enc)).live → l[i]? = some (zB z 3 (p.1.rows.map Rw.enc)))) :
    FnOk Try.prog f args H fun v G => ∃ z, v = ansV z H.nx p ∧ G = H.ext [zB z 3 (p.1.rows.map Rw.enc)] := by
  refine h.wk ?_
  rintro v G ⟨z, l, i, rfl, rfl, hl⟩
  refine ⟨l, [zB z 3 (p.1.rows.map Rw.enc)], [i], ansV z H.nx p, rfl, ?_, rfl, by simp, ?_, z, rfl, rfl⟩
  · rw [ansV_ren, ← Heap.key_zero, rho_key rfl]
  · intro q hq
    simp only [List.zip_cons_cons, List.zip_nil_left, List.mem_singleton] at hq
    subst hq
    intro hlive
    show l[i]? = some (Blk.ren _ (zB z 3 (p.1.rows.map Rw.enc)))
    rw [zB_ren _ (Rw.map_rens _ _), hl hlive]
theorem stands_none {l : List Dn} {s id : Int} (h : findD l s = none) : stands l s id = (zeroA, 0) := by rw [stands, h]
theorem stands_some {l : List Dn} {s id : Int} {d : Dn} (h : findD l s = some d) : stands l s id = if d.id < id then (zeroA, 0) else if id = d.id then (d.an, 1) else (zeroA, 2) := by rw [stands, h]
theorem f29_ok {v : AV} {l : List Dn} (hA : Arr H 6 v (l.map Dn.enc)) (ha : allOk H l) (hl : l.length < 9223372036854775807) (hup : upD l) (hr : ∀ d ∈ l, (d.an.rows.length : Int) ≤ 16) (s id : Int) :
    FnOk Try.prog 29 [v, .int .i64 s, .int .i64 id] H fun r G => ∃ z, r = ansV z H.nx (stands l s id) ∧ G = H.ext [zB z 3 ((stands l s id).1.rows.map Rw.enc)] := by
  refine FnOk.assume fun hok => ?_
  refine FnOk.dropA ?_
  refine FnOk.of_WW Try.func29 rfl C29ok R29ok E0 good_E0 ?_
  have hlen := fun G => hA.len G; simp only [List.length_map] at hlen; have hren := hA.ren
  simp only [go_sem, C29, Nat.reduceAdd, Nat.reduceSub, Nat.reduceMul, Nat.reduceDiv, Nat.reduceMod, Nat.reduceEqDiff, Nat.reduceLeDiff, Nat.reduceLT, Int.reduceLT, Int.reduceLE, Int.reduceEq, Int.reduceToNat, reduceIte, reduceCtorEq, List.length_nil, List.map_nil, List.length_cons, List.map_cons, List.replicate_succ, List.replicate_zero, List.set_cons_zero, List.set_cons_succ, List.take_succ_cons, List.take_zero, List.take_nil, List.length_append, List.map_append, List.cons_append, List.nil_append, List.drop_succ_cons, List.drop_zero, List.append_nil, List.getElem?_cons_zero, List.getElem?_cons_succ, eq_self, true_implies, not_true_eq_false, not_false_eq_true, false_implies, and_true, true_and, decide_true, decide_false, Bool.not_true, Bool.not_false, hlen]
  refine LL.st good_E0 (fun i : Nat => l.length - i) (fun i => i ≤ l.length ∧ ∀ j d, j < i → l[j]? = some d → ¬ (d.ses = s ∧ id ≤ d.id))
    (fun i => [((.o .z), .int .i64 s), ((.i .z), .int .i64 id), ((.i (.i .z)), .ptr (H.key 0) 0), ((.i (.i (.o .z))), v), ((.o (.o (.i .z))), .int .i64 l.length), ((.i (.o (.i .z))), .int .i64 i)])
    (fun i => [.row true 4 [[.int .i64 0, .str [], .int .i64 0, .nils]]]) ?_ 0 (σ := [0]) (Wk.of rfl (by decide) (by simp only [go_sem, hren, List.length_nil, List.map_nil, List.length_cons, List.map_cons, List.replicate_succ, List.replicate_zero, List.set_cons_zero, List.set_cons_succ, List.take_succ_cons, List.take_zero, List.take_nil, List.length_append, List.map_append, List.cons_append, List.nil_append, List.drop_succ_cons, List.drop_zero, List.append_nil, List.getElem?_cons_zero, List.getElem?_cons_succ, Nat.reduceAdd, Nat.reduceSub, Nat.reduceMul, Nat.reduceDiv, Nat.reduceMod, Nat.reduceEqDiff, Nat.reduceLeDiff, Nat.reduceLT, Int.reduceLT, Int.reduceLE, Int.reduceEq, Int.reduceToNat, reduceIte, reduceCtorEq]) (by simp only [go_sem, List.length_nil, List.map_nil, List.length_cons, List.map_cons, List.replicate_succ, List.replicate_zero, List.set_cons_zero, List.set_cons_succ, List.take_succ_cons, List.take_zero, List.take_nil, List.length_append, List.map_append, List.cons_append, List.nil_append, List.drop_succ_cons, List.drop_zero, List.append_nil, List.getElem?_cons_zero, List.getElem?_cons_succ, Nat.reduceAdd, Nat.reduceSub, Nat.reduceMul, Nat.reduceDiv, Nat.reduceMod, Nat.reduceEqDiff, Nat.reduceLeDiff, Nat.reduceLT, Int.reduceLT, Int.reduceLE, Int.reduceEq, Int.reduceToNat, reduceIte, reduceCtorEq, eq_self, true_implies, not_true_eq_false, not_false_eq_true, false_implies, and_true, true_and, decide_true, decide_false, Bool.not_true, Bool.not_false])) ⟨Nat.zero_le _, fun j d h => absurd h (Nat.not_lt_zero _)⟩
  rintro i ⟨hi, hno⟩
  by_cases hlt : i < l.length
  · obtain ⟨kk, r, ex', cap', wr, rows, hv, hrho, hgo, hrow⟩ := hA.at hok (j := i) (by rw [List.length_map]; exact hlt); simp only [List.length_map, List.getElem_map] at hv hrow; cases hv; have hget : l[i]? = some l[i] := List.getElem?_eq_getElem hlt; generalize l[i] = c at hrow hget; have hw := wrap_succ (n := i) (by omega); have hci : (i : Int) < (l.length : Int) := (by omega); have hsi : i + 1 ≤ l.length := (by omega)
    have hco := ha c (List.mem_of_getElem? hget)
    simp only [go_sem, C29L0, Nat.reduceAdd, Nat.reduceSub, Nat.reduceMul, Nat.reduceDiv, Nat.reduceMod, Nat.reduceEqDiff, Nat.reduceLeDiff, Nat.reduceLT, Int.reduceLT, Int.reduceLE, Int.reduceEq, Int.reduceToNat, reduceIte, reduceCtorEq, List.length_nil, List.map_nil, List.length_cons, List.map_cons, List.replicate_succ, List.replicate_zero, List.set_cons_zero, List.set_cons_succ, List.take_succ_cons, List.take_zero, List.take_nil, List.length_append, List.map_append, List.cons_append, List.nil_append, List.drop_succ_cons, List.drop_zero, List.append_nil, List.getElem?_cons_zero, List.getElem?_cons_succ, eq_self, true_implies, not_true_eq_false, not_false_eq_true, false_implies, and_true, true_and, decide_true, decide_false, Bool.not_true, Bool.not_false, hci, hsi, hgo, hrow, hw, Dn.enc]
    have hfind : c.ses = s → findD l s = some c := fun h => by subst h; exact findD_at hup (List.mem_of_getElem? hget)
    have hnext : ¬ (c.ses = s ∧ id ≤ c.id) → ∀ j d, j < i + 1 → l[j]? = some d → ¬ (d.ses = s ∧ id ≤ d.id) := fun hc j d hj hd => by
      rcases Nat.lt_or_ge j i with h | h
      · exact hno j d h hd
      · obtain rfl : j = i := by omega
        rw [hget] at hd; cases hd; exact hc
    refine ⟨fun g => ?_, fun g => ⟨fun g2 => ?_, fun g2 => ⟨fun g3 => ?_, fun g3 => ?_⟩⟩⟩
    · exact ⟨i + 1, by show l.length - (i + 1) < l.length - i; omega, ⟨by omega, hnext fun h => g h.1⟩, _, [0], rfl, Wk.of rfl (by decide) (by simp only [go_sem, hren, hrho, hw, List.length_nil, List.map_nil, List.length_cons, List.map_cons, List.replicate_succ, List.replicate_zero, List.set_cons_zero, List.set_cons_succ, List.take_succ_cons, List.take_zero, List.take_nil, List.length_append, List.map_append, List.cons_append, List.nil_append, List.drop_succ_cons, List.drop_zero, List.append_nil, List.getElem?_cons_zero, List.getElem?_cons_succ, Nat.reduceAdd, Nat.reduceSub, Nat.reduceMul, Nat.reduceDiv, Nat.reduceMod, Nat.reduceEqDiff, Nat.reduceLeDiff, Nat.reduceLT, Int.reduceLT, Int.reduceLE, Int.reduceEq, Int.reduceToNat, reduceIte, reduceCtorEq]) (by simp only [go_sem, List.length_nil, List.map_nil, List.length_cons, List.map_cons, List.replicate_succ, List.replicate_zero, List.set_cons_zero, List.set_cons_succ, List.take_succ_cons, List.take_zero, List.take_nil, List.length_append, List.map_append, List.cons_append, List.nil_append, List.drop_succ_cons, List.drop_zero, List.append_nil, List.getElem?_cons_zero, List.getElem?_cons_succ, Nat.reduceAdd, Nat.reduceSub, Nat.reduceMul, Nat.reduceDiv, Nat.reduceMod, Nat.reduceEqDiff, Nat.reduceLeDiff, Nat.reduceLT, Int.reduceLT, Int.reduceLE, Int.reduceEq, Int.reduceToNat, reduceIte, reduceCtorEq, eq_self, true_implies, not_true_eq_false, not_false_eq_true, false_implies, and_true, true_and, decide_true, decide_false, Bool.not_true, Bool.not_false])⟩
    · exact ⟨i + 1, by show l.length - (i + 1) < l.length - i; omega, ⟨by omega, hnext fun h => by omega⟩, _, [0], rfl, Wk.of rfl (by decide) (by simp only [go_sem, hren, hrho, hw, List.length_nil, List.map_nil, List.length_cons, List.map_cons, List.replicate_succ, List.replicate_zero, List.set_cons_zero, List.set_cons_succ, List.take_succ_cons, List.take_zero, List.take_nil, List.length_append, List.map_append, List.cons_append, List.nil_append, List.drop_succ_cons, List.drop_zero, List.append_nil, List.getElem?_cons_zero, List.getElem?_cons_succ, Nat.reduceAdd, Nat.reduceSub, Nat.reduceMul, Nat.reduceDiv, Nat.reduceMod, Nat.reduceEqDiff, Nat.reduceLeDiff, Nat.reduceLT, Int.reduceLT, Int.reduceLE, Int.reduceEq, Int.reduceToNat, reduceIte, reduceCtorEq]) (by simp only [go_sem, List.length_nil, List.map_nil, List.length_cons, List.map_cons, List.replicate_succ, List.replicate_zero, List.set_cons_zero, List.set_cons_succ, List.take_succ_cons, List.take_zero, List.take_nil, List.length_append, List.map_append, List.cons_append, List.nil_append, List.drop_succ_cons, List.drop_zero, List.append_nil, List.getElem?_cons_zero, List.getElem?_cons_succ, Nat.reduceAdd, Nat.reduceSub, Nat.reduceMul, Nat.reduceDiv, Nat.reduceMod, Nat.reduceEqDiff, Nat.reduceLeDiff, Nat.reduceLT, Int.reduceLT, Int.reduceLE, Int.reduceEq, Int.reduceToNat, reduceIte, reduceCtorEq, eq_self, true_implies, not_true_eq_false, not_false_eq_true, false_implies, and_true, true_and, decide_true, decide_false, Bool.not_true, Bool.not_false])⟩
    · have hst : stands l s id = (c.an, 1) := by rw [stands_some (hfind (Classical.not_not.1 g)), if_neg g2, if_pos g3]
      have hrr := hr c (List.mem_of_getElem? hget)
      refine CL.of (clone_z' clo55 (hco.1.ext _) (by rw [List.length_map]; omega) (fun _ _ => Rw.map_rens _ _)) ?_
      rintro _ _ ⟨z, rfl, rfl⟩
      simp only [go_sem, agg_z, one_z, Nat.reduceAdd, Nat.reduceSub, Nat.reduceMul, Nat.reduceDiv, Nat.reduceMod, Nat.reduceEqDiff, Nat.reduceLeDiff, Nat.reduceLT, Int.reduceLT, Int.reduceLE, Int.reduceEq, Int.reduceToNat, reduceIte, reduceCtorEq, List.length_nil, List.map_nil, List.length_cons, List.map_cons, List.replicate_succ, List.replicate_zero, List.set_cons_zero, List.set_cons_succ, List.take_succ_cons, List.take_zero, List.take_nil, List.length_append, List.map_append, List.cons_append, List.nil_append, List.drop_succ_cons, List.drop_zero, List.append_nil, List.getElem?_cons_zero, List.getElem?_cons_succ, eq_self, true_implies, not_true_eq_false, not_false_eq_true, false_implies, and_true, true_and, decide_true, decide_false, Bool.not_true, Bool.not_false]
      exact ⟨z, _, 2, by rw [hst]; rfl, rfl, fun _ => by rw [hst]; rfl⟩
    · have hst : stands l s id = (zeroA, 2) := by rw [stands_some (hfind (Classical.not_not.1 g)), if_neg g2, if_neg g3]
      rw [hst]
      exact ⟨true, _, 0, rfl, rfl, fun h => h.elim⟩
  · have hci : ¬ (i : Int) < (l.length : Int) := by omega
    simp only [go_sem, C29L0, Nat.reduceAdd, Nat.reduceSub, Nat.reduceMul, Nat.reduceDiv, Nat.reduceMod, Nat.reduceEqDiff, Nat.reduceLeDiff, Nat.reduceLT, Int.reduceLT, Int.reduceLE, Int.reduceEq, Int.reduceToNat, reduceIte, reduceCtorEq, List.length_nil, List.map_nil, List.length_cons, List.map_cons, List.replicate_succ, List.replicate_zero, List.set_cons_zero, List.set_cons_succ, List.take_succ_cons, List.take_zero, List.take_nil, List.length_append, List.map_append, List.cons_append, List.nil_append, List.drop_succ_cons, List.drop_zero, List.append_nil, List.getElem?_cons_zero, List.getElem?_cons_succ, eq_self, true_implies, not_true_eq_false, not_false_eq_true, false_implies, and_true, true_and, decide_true, decide_false, Bool.not_true, Bool.not_false, hci]
    have hst : stands l s id = (zeroA, 0) := by
      cases hf : findD l s with
      | none => rw [stands_none hf]
      | some d =>
        obtain ⟨h1, h2⟩ := findD_mem hf
        obtain ⟨j, hj⟩ := List.mem_iff_getElem?.1 h1
        have := hno j d (by have := (List.getElem?_eq_some_iff.1 hj).1; omega) hj
        rw [stands_some hf, if_pos (by omega)]
    rw [hst]
    exact ⟨true, _, 0, rfl, rfl, fun h => h.elim⟩
end Go.Proofs
/- once: the known answers: walked. -/

set_option linter.all false
set_option linter.all false
set_option maxRecDepth 100000
namespace Go.Proofs
open Go Go.Ev
variable {H : Heap}

/-- an answer with a version alone -/
def verA (n : Int) : An := ⟨0, [], n, [], .nils⟩
theorem verA_ok (n : Int) : (verA n).ok H := ⟨.inl ⟨rfl, rfl⟩, (by decide : (0 : Nat) < 9223372036854775807)⟩
theorem verA_isAns {n : Int} (h : 0 ≤ n) (h2 : n < 281474976710656) : isAns (verA n) := ⟨⟨Int.le_refl 0, (by decide : (0 : Int) < 281474976710656), h, h2, (by decide : ((0 : Nat) : Int) ≤ 255)⟩, (by decide : ((0 : Nat) : Int) ≤ 16), fun ⟨r, h, _⟩ => by cases h⟩
theorem one_ok {H : Heap} {d : Dn} (h : d.an.ok H) : allOk H [d] := fun c hc => by rw [List.mem_singleton.1 hc]; exact h
theorem one_up (d : Dn) : upD [d] := List.pairwise_singleton ..
abbrev kn1 : Dn := ⟨1, 4, verA 2⟩
abbrev kn2 : Dn := ⟨1, 9, zeroA⟩
abbrev kn3 : Dn := ⟨1, 2, zeroA⟩
theorem kn_up : withD [kn2] kn1 = [kn2] := by rw [withD, putGD, if_neg (by decide), if_pos rfl]; rw [lateD, if_neg (by decide)]
theorem kn_join : joinP [kn1] [kn2] = [kn2] := kn_up
theorem kn_low : withD [kn1] kn3 = [kn1] := by rw [withD, putGD, if_neg (by decide), if_pos rfl]; rw [lateD, if_neg (by decide)]
theorem kn_done : isDone [kn1] := done_iff.2 ⟨fun c hc => by rw [List.mem_singleton.1 hc]; exact ⟨by decide, verA_isAns (by decide) (by decide)⟩, one_up _⟩
theorem kn_bad : ¬ isDone [zeroD] := fun h => absurd ((done_iff.1 h).1 zeroD (by simp)).1.2.2.1 (by decide)
theorem f25_ok : FnOk Try.prog 25 [] H fun r G => r = .bool true ∧ G = H := by
  refine FnOk.assume fun hok => ?_
  refine FnOk.drop (R := fun r => r = .bool true) ?_ (by rintro v rfl ρ; rw [AV.ren])
  refine FnOk.of_WW Try.func25 rfl C25ok R25ok E0 good_E0 ?_
  simp only [go_sem, C25, Nat.reduceAdd, Nat.reduceSub, Nat.reduceMul, Nat.reduceDiv, Nat.reduceMod, Nat.reduceEqDiff, Nat.reduceLeDiff, Nat.reduceLT, Int.reduceLT, Int.reduceLE, Int.reduceEq, Int.reduceToNat, reduceIte, reduceCtorEq, List.length_nil, List.map_nil, List.length_cons, List.map_cons, List.replicate_succ, List.replicate_zero, List.set_cons_zero, List.set_cons_succ, List.take_succ_cons, List.take_zero, List.take_nil, List.length_append, List.map_append, List.cons_append, List.nil_append, List.drop_succ_cons, List.drop_zero, List.append_nil, List.getElem?_cons_zero, List.getElem?_cons_succ, eq_self, true_implies, not_true_eq_false, not_false_eq_true, false_implies, and_true, true_and, decide_true, decide_false, Bool.not_true, Bool.not_false]
  refine CL.of (f33_ok (l := []) (d := kn1) (.inl ⟨rfl, rfl⟩) (fun d h => by cases h) (verA_ok _) .nil (by decide)) ?_
  rintro _ _ ⟨rfl, rfl⟩
  rw [show withD [] kn1 = [kn1] from rfl]
  simp only [go_sem, Nat.reduceAdd, Nat.reduceSub, Nat.reduceMul, Nat.reduceDiv, Nat.reduceMod, Nat.reduceEqDiff, Nat.reduceLeDiff, Nat.reduceLT, Int.reduceLT, Int.reduceLE, Int.reduceEq, Int.reduceToNat, reduceIte, reduceCtorEq, List.length_nil, List.map_nil, List.length_cons, List.map_cons, List.replicate_succ, List.replicate_zero, List.set_cons_zero, List.set_cons_succ, List.take_succ_cons, List.take_zero, List.take_nil, List.length_append, List.map_append, List.cons_append, List.nil_append, List.drop_succ_cons, List.drop_zero, List.append_nil, List.getElem?_cons_zero, List.getElem?_cons_succ, eq_self, true_implies, not_true_eq_false, not_false_eq_true, false_implies, and_true, true_and, decide_true, decide_false, Bool.not_true, Bool.not_false]
  have hR : ∀ d ∈ [kn1], (d.an.rows.length : Int) ≤ 16 := fun d h => by rw [List.mem_singleton.1 h]; decide
  have s1 : stands [kn1] 1 4 = (verA 2, 1) := by rw [stands_some (d := kn1) (by rw [findD, if_pos rfl]), if_neg (by decide), if_pos rfl]
  have s2 : stands [kn1] 1 5 = (zeroA, 0) := by rw [stands_some (d := kn1) (by rw [findD, if_pos rfl]), if_pos (by decide)]
  have s3 : stands [kn1] 1 3 = (zeroA, 2) := by rw [stands_some (d := kn1) (by rw [findD, if_pos rfl]), if_neg (by decide), if_neg (by decide)]
  have s4 : stands [kn1] 0 1 = (zeroA, 0) := by rw [stands_none (by rw [findD, if_neg (by decide)]; rfl)]
  refine CL.of (f29_ok (l := [kn1]) (arr_row rfl rfl) (one_ok (verA_ok _)) (by decide) (one_up _) hR 1 4) ?_
  rintro _ _ ⟨z1, rfl, rfl⟩
  simp only [go_sem, s1, ansV, agg_z, one_z, Nat.reduceAdd, Nat.reduceSub, Nat.reduceMul, Nat.reduceDiv, Nat.reduceMod, Nat.reduceEqDiff, Nat.reduceLeDiff, Nat.reduceLT, Int.reduceLT, Int.reduceLE, Int.reduceEq, Int.reduceToNat, reduceIte, reduceCtorEq, List.length_nil, List.map_nil, List.length_cons, List.map_cons, List.replicate_succ, List.replicate_zero, List.set_cons_zero, List.set_cons_succ, List.take_succ_cons, List.take_zero, List.take_nil, List.length_append, List.map_append, List.cons_append, List.nil_append, List.drop_succ_cons, List.drop_zero, List.append_nil, List.getElem?_cons_zero, List.getElem?_cons_succ, eq_self, true_implies, not_true_eq_false, not_false_eq_true, false_implies, and_true, true_and, decide_true, decide_false, Bool.not_true, Bool.not_false]
  refine CL.of (f29_ok (l := [kn1]) (arr_row rfl rfl) (one_ok (verA_ok _)) (by decide) (one_up _) hR 1 5) ?_
  rintro _ _ ⟨z2, rfl, rfl⟩
  simp only [go_sem, s2, ansV, agg_z, one_z, Nat.reduceAdd, Nat.reduceSub, Nat.reduceMul, Nat.reduceDiv, Nat.reduceMod, Nat.reduceEqDiff, Nat.reduceLeDiff, Nat.reduceLT, Int.reduceLT, Int.reduceLE, Int.reduceEq, Int.reduceToNat, reduceIte, reduceCtorEq, List.length_nil, List.map_nil, List.length_cons, List.map_cons, List.replicate_succ, List.replicate_zero, List.set_cons_zero, List.set_cons_succ, List.take_succ_cons, List.take_zero, List.take_nil, List.length_append, List.map_append, List.cons_append, List.nil_append, List.drop_succ_cons, List.drop_zero, List.append_nil, List.getElem?_cons_zero, List.getElem?_cons_succ, eq_self, true_implies, not_true_eq_false, not_false_eq_true, false_implies, and_true, true_and, decide_true, decide_false, Bool.not_true, Bool.not_false]
  refine CL.of (f29_ok (l := [kn1]) (arr_row rfl rfl) (one_ok (verA_ok _)) (by decide) (one_up _) hR 1 3) ?_
  rintro _ _ ⟨z3, rfl, rfl⟩
  simp only [go_sem, s3, ansV, agg_z, one_z, Nat.reduceAdd, Nat.reduceSub, Nat.reduceMul, Nat.reduceDiv, Nat.reduceMod, Nat.reduceEqDiff, Nat.reduceLeDiff, Nat.reduceLT, Int.reduceLT, Int.reduceLE, Int.reduceEq, Int.reduceToNat, reduceIte, reduceCtorEq, List.length_nil, List.map_nil, List.length_cons, List.map_cons, List.replicate_succ, List.replicate_zero, List.set_cons_zero, List.set_cons_succ, List.take_succ_cons, List.take_zero, List.take_nil, List.length_append, List.map_append, List.cons_append, List.nil_append, List.drop_succ_cons, List.drop_zero, List.append_nil, List.getElem?_cons_zero, List.getElem?_cons_succ, eq_self, true_implies, not_true_eq_false, not_false_eq_true, false_implies, and_true, true_and, decide_true, decide_false, Bool.not_true, Bool.not_false]
  refine CL.of (f29_ok (l := [kn1]) (arr_row rfl rfl) (one_ok (verA_ok _)) (by decide) (one_up _) hR 0 1) ?_
  rintro _ _ ⟨z4, rfl, rfl⟩
  simp only [go_sem, s4, ansV, agg_z, one_z, Nat.reduceAdd, Nat.reduceSub, Nat.reduceMul, Nat.reduceDiv, Nat.reduceMod, Nat.reduceEqDiff, Nat.reduceLeDiff, Nat.reduceLT, Int.reduceLT, Int.reduceLE, Int.reduceEq, Int.reduceToNat, reduceIte, reduceCtorEq, List.length_nil, List.map_nil, List.length_cons, List.map_cons, List.replicate_succ, List.replicate_zero, List.set_cons_zero, List.set_cons_succ, List.take_succ_cons, List.take_zero, List.take_nil, List.length_append, List.map_append, List.cons_append, List.nil_append, List.drop_succ_cons, List.drop_zero, List.append_nil, List.getElem?_cons_zero, List.getElem?_cons_succ, eq_self, true_implies, not_true_eq_false, not_false_eq_true, false_implies, and_true, true_and, decide_true, decide_false, Bool.not_true, Bool.not_false]
  refine CL.of (f35_ok (l := [kn1]) (b := [kn2]) (arr_row rfl rfl) (arr_row rfl rfl) (one_ok (verA_ok _)) (one_ok zeroA_ok) (one_up _) (by decide) (by decide)) ?_
  rintro _ _ ⟨z5, rfl, rfl⟩
  have hz5 : ∀ k, zV z5 k 6 (joinP [kn1] [kn2]).length = .slice k 0 1 6 false 1 := fun k => by rw [kn_join]; rfl
  have hz6 : zB z5 6 ((joinP [kn1] [kn2]).map Dn.enc) = .row true 6 [kn2.enc] := by rw [kn_join]; rfl
  rw [hz5, hz6]
  have hv2 : (verA 2).ver = 2 := rfl
  simp only [go_sem, agg_z, one_z, Nat.reduceAdd, Nat.reduceSub, Nat.reduceMul, Nat.reduceDiv, Nat.reduceMod, Nat.reduceEqDiff, Nat.reduceLeDiff, Nat.reduceLT, Int.reduceLT, Int.reduceLE, Int.reduceEq, Int.reduceToNat, reduceIte, reduceCtorEq, List.length_nil, List.map_nil, List.length_cons, List.map_cons, List.replicate_succ, List.replicate_zero, List.set_cons_zero, List.set_cons_succ, List.take_succ_cons, List.take_zero, List.take_nil, List.length_append, List.map_append, List.cons_append, List.nil_append, List.drop_succ_cons, List.drop_zero, List.append_nil, List.getElem?_cons_zero, List.getElem?_cons_succ, eq_self, true_implies, not_true_eq_false, not_false_eq_true, false_implies, and_true, true_and, decide_true, decide_false, Bool.not_true, Bool.not_false]
  refine CL.one (f27_ok (l := [kn1]) (arr_row rfl rfl) (one_ok (verA_ok _)) (by decide)) ?_
  rw [decide_eq_true kn_done]
  simp only [go_sem, hv2, Dn.enc, Nat.reduceAdd, Nat.reduceSub, Nat.reduceMul, Nat.reduceDiv, Nat.reduceMod, Nat.reduceEqDiff, Nat.reduceLeDiff, Nat.reduceLT, Int.reduceLT, Int.reduceLE, Int.reduceEq, Int.reduceToNat, reduceIte, reduceCtorEq, List.length_nil, List.map_nil, List.length_cons, List.map_cons, List.replicate_succ, List.replicate_zero, List.set_cons_zero, List.set_cons_succ, List.take_succ_cons, List.take_zero, List.take_nil, List.length_append, List.map_append, List.cons_append, List.nil_append, List.drop_succ_cons, List.drop_zero, List.append_nil, List.getElem?_cons_zero, List.getElem?_cons_succ, eq_self, true_implies, not_true_eq_false, not_false_eq_true, false_implies, and_true, true_and, decide_true, decide_false, Bool.not_true, Bool.not_false]
  refine CL.of (f33_ok (l := [kn1]) (d := kn3) (arr_row rfl rfl) (one_ok (verA_ok _)) zeroA_ok (one_up _) (by decide)) ?_
  rintro _ _ ⟨rfl, rfl⟩
  rw [kn_low]
  simp only [go_sem, hv2, Dn.enc, Nat.reduceAdd, Nat.reduceSub, Nat.reduceMul, Nat.reduceDiv, Nat.reduceMod, Nat.reduceEqDiff, Nat.reduceLeDiff, Nat.reduceLT, Int.reduceLT, Int.reduceLE, Int.reduceEq, Int.reduceToNat, reduceIte, reduceCtorEq, List.length_nil, List.map_nil, List.length_cons, List.map_cons, List.replicate_succ, List.replicate_zero, List.set_cons_zero, List.set_cons_succ, List.take_succ_cons, List.take_zero, List.take_nil, List.length_append, List.map_append, List.cons_append, List.nil_append, List.drop_succ_cons, List.drop_zero, List.append_nil, List.getElem?_cons_zero, List.getElem?_cons_succ, eq_self, true_implies, not_true_eq_false, not_false_eq_true, false_implies, and_true, true_and, decide_true, decide_false, Bool.not_true, Bool.not_false]
  refine CL.one (f27_ok (l := [zeroD]) (arr_row rfl rfl) (one_ok zeroA_ok) (by decide)) ?_
  rw [decide_eq_false kn_bad]
  simp only [go_sem, hv2, Dn.enc, Nat.reduceAdd, Nat.reduceSub, Nat.reduceMul, Nat.reduceDiv, Nat.reduceMod, Nat.reduceEqDiff, Nat.reduceLeDiff, Nat.reduceLT, Int.reduceLT, Int.reduceLE, Int.reduceEq, Int.reduceToNat, reduceIte, reduceCtorEq, List.length_nil, List.map_nil, List.length_cons, List.map_cons, List.replicate_succ, List.replicate_zero, List.set_cons_zero, List.set_cons_succ, List.take_succ_cons, List.take_zero, List.take_nil, List.length_append, List.map_append, List.cons_append, List.nil_append, List.drop_succ_cons, List.drop_zero, List.append_nil, List.getElem?_cons_zero, List.getElem?_cons_succ, eq_self, true_implies, not_true_eq_false, not_false_eq_true, false_implies, and_true, true_and, decide_true, decide_false, Bool.not_true, Bool.not_false]
  exact ⟨_, rfl⟩
end Go.Proofs
/- once: requests of sessions that rise: the plain law and the walk. -/

set_option linter.all false
set_option linter.all false
set_option maxRecDepth 100000
namespace Go.Proofs
open Go Go.Ev
variable {H : Heap}

def updR (F : Nat → Nat) (k m : Nat) : Nat → Nat := fun j => if j = k then m else F j
def cellR (j : Nat) : List AV := [.int .i64 (j : Int)]
def row3 (F : Nat → Nat) : List (List AV) := [cellR (F 0), cellR (F 1), cellR (F 2)]
theorem row3_rens (ρ : K → K) (F : Nat → Nat) : (row3 F).map (AV.rens ρ) = row3 F := by simp only [row3, cellR, List.map_cons, List.map_nil, AV.rens, AV.ren]
theorem row3_len (F : Nat → Nat) : (row3 F).length = 3 := rfl
theorem row3_get (F : Nat → Nat) {k : Nat} (h : k < 3) : (row3 F)[k]? = some [.int .i64 (F k : Int)] := by
  rcases k with _ | _ | _ | k
  · rfl
  · rfl
  · rfl
  · omega
theorem row3_set (F : Nat → Nat) {k m : Nat} (h : k < 3) : (row3 F).set k [.int .i64 (m : Int)] = row3 (updR F k m) := by
  rcases k with _ | _ | _ | k
  · rfl
  · rfl
  · rfl
  · omega
/-- of each session, its last number -/
def lastR (ks : List Nat) : Nat → Nat → Nat
  | 0 => fun _ => 0
  | i + 1 => updR (lastR ks i) (ks.getD i 0 % 3) (lastR ks i (ks.getD i 0 % 3) + 1 + ks.getD i 0 / 3 % 4)
theorem lastR_succ (ks : List Nat) (i : Nat) : lastR ks (i + 1) = updR (lastR ks i) (ks.getD i 0 % 3) (lastR ks i (ks.getD i 0 % 3) + 1 + ks.getD i 0 / 3 % 4) := rfl
noncomputable def runD (ks : List Nat) : Nat → List Dn
  | 0 => []
  | i + 1 => withD (runD ks i) ⟨(ks.getD i 0 % 3 : Nat), (lastR ks (i + 1) (ks.getD i 0 % 3) : Nat), verA i⟩
structure RunI (F : Nat → Nat) (l : List Dn) (i : Nat) : Prop where
  up : upD l
  le : ∀ k, F k ≤ 4 * i
  len : l.length ≤ i
  ok : ∀ d ∈ l, (0 ≤ d.ses ∧ d.ses < 3 ∧ 1 ≤ d.id ∧ d.id ≤ 1000) ∧ ∃ n : Nat, n < 1000 ∧ d.an = verA n
  no : ∀ k : Nat, F k = 0 → findD l k = none
  yes : ∀ k : Nat, 0 < F k → ∃ d, findD l k = some d ∧ d.id = F k
theorem RunI.done {F : Nat → Nat} {l : List Dn} {i : Nat} (h : RunI F l i) : isDone l := done_iff.2 ⟨fun c hc => by
  obtain ⟨h1, n, h2, h3⟩ := h.ok c hc
  refine ⟨⟨h1.1, h1.2.1, h1.2.2.1, by omega⟩, ?_⟩
  rw [h3]; exact verA_isAns (by omega) (by omega), h.up⟩
theorem RunI.allOk {F : Nat → Nat} {l : List Dn} {i : Nat} (h : RunI F l i) (H : Heap) : allOk H l := fun c hc => by
  obtain ⟨_, n, _, h3⟩ := h.ok c hc
  rw [h3]; exact verA_ok _
theorem RunI.rows {F : Nat → Nat} {l : List Dn} {i : Nat} (h : RunI F l i) : ∀ d ∈ l, (d.an.rows.length : Int) ≤ 16 := fun c hc => by
  obtain ⟨_, n, _, h3⟩ := h.ok c hc
  rw [h3]; exact (by decide : ((0 : Nat) : Int) ≤ 16)
theorem RunI.zero (ks : List Nat) : RunI (lastR ks 0) (runD ks 0) 0 := ⟨.nil, fun _ => Nat.le_refl _, Nat.le_refl _, fun d h => (by cases h), fun _ _ => rfl, fun k h => absurd h (Nat.lt_irrefl _)⟩
theorem RunI.step {F : Nat → Nat} {l : List Dn} {i k m : Nat} (h : RunI F l i) (hi : i < 60) (hk : k < 3) (hm : m = F k + 1 ∨ m = F k + 1 + 1 ∨ m = F k + 1 + 2 ∨ m = F k + 1 + 3) :
    RunI (updR F k m) (withD l ⟨(k : Nat), (m : Nat), verA i⟩) (i + 1) ∧ findD (withD l ⟨(k : Nat), (m : Nat), verA i⟩) k = some ⟨(k : Nat), (m : Nat), verA i⟩ := by
  have hle := h.le k
  have hf : ∀ j : Nat, findD (withD l ⟨(k : Nat), (m : Nat), verA i⟩) j = if k = j then some ⟨(k : Nat), (m : Nat), verA i⟩ else findD l j := fun j => by
    rw [withD, findD_put lateD_ses h.up]
    by_cases e : k = j
    · subst e
      rw [if_pos rfl, if_pos rfl]
      rcases Nat.eq_zero_or_pos (F k) with h0 | h0
      · rw [h.no k h0]
      · obtain ⟨d, h1, h2⟩ := h.yes k h0
        rw [h1]
        show some (lateD d _) = _
        rw [lateD, if_pos (by show d.id ≤ (m : Int); omega)]
    · rw [if_neg (by show ¬ (k : Int) = (j : Int); omega), if_neg e]
  refine ⟨⟨withD_up h.up, fun j => ?_, ?_, fun d hd => ?_, fun j hj => ?_, fun j hj => ?_⟩, by rw [hf, if_pos rfl]⟩
  · unfold updR
    split
    · omega
    · have := h.le j; omega
  · have := h.len
    exact Nat.le_trans withD_len (by omega)
  · rcases mem_withD hd with rfl | hd
    · refine ⟨⟨?_, ?_, ?_, ?_⟩, i, by omega, rfl⟩
      · show (0 : Int) ≤ (k : Int); omega
      · show (k : Int) < 3; omega
      · show (1 : Int) ≤ (m : Int); omega
      · show (m : Int) ≤ 1000; omega
    · exact h.ok d hd
  · unfold updR at hj
    split at hj
    · omega
    · rename_i e
      rw [hf, if_neg (fun g => e g.symm)]; exact h.no j hj
  · unfold updR at hj ⊢
    split at hj
    · rename_i e
      rw [hf, if_pos e.symm]
      exact ⟨_, rfl, by rw [if_pos e]⟩
    · rename_i e
      rw [hf, if_neg (fun g => e g.symm), if_neg e]; exact h.yes j hj
theorem RunI.run (ks : List Nat) : ∀ i, i ≤ 60 → RunI (lastR ks i) (runD ks i) i
  | 0, _ => RunI.zero ks
  | i + 1, hi => by
    have h := RunI.run ks i (by omega)
    have hx := (h.step (k := ks.getD i 0 % 3) (m := lastR ks i (ks.getD i 0 % 3) + 1 + ks.getD i 0 / 3 % 4) (by omega) (by omega) (by omega)).1
    have : lastR ks (i + 1) (ks.getD i 0 % 3) = lastR ks i (ks.getD i 0 % 3) + 1 + ks.getD i 0 / 3 % 4 := by
      rw [lastR_succ]; unfold updR; rw [if_pos rfl]
    rw [runD, this]
    exact hx
theorem f8_ok {v : AV} {ks : List Nat} (hA : Arr H 1 v (ks.map fun (k : Nat) => [AV.int .u8 (k : Int)])) (hks : ∀ k ∈ ks, k < 256) {a : Nat} (ha : a < 256) :
    FnOk Try.prog 8 [v, .int .u8 (a : Int)] H fun r G => r = .bool true ∧ G = H := by
  refine FnOk.assume fun hok => ?_
  refine FnOk.drop (R := fun r => r = .bool true) ?_ (by rintro v rfl ρ; rw [AV.ren])
  refine FnOk.of_WW Try.func8 rfl C8ok R8ok E0 good_E0 ?_
  have hlen := fun G => hA.len G
  simp only [List.length_map] at hlen
  have hren := hA.ren
  simp only [go_sem, C8, Nat.reduceAdd, Nat.reduceSub, Nat.reduceMul, Nat.reduceDiv, Nat.reduceMod, Nat.reduceEqDiff, Nat.reduceLeDiff, Nat.reduceLT, Int.reduceLT, Int.reduceLE, Int.reduceEq, Int.reduceToNat, reduceIte, reduceCtorEq, List.length_nil, List.map_nil, List.length_cons, List.map_cons, List.replicate_succ, List.replicate_zero, List.set_cons_zero, List.set_cons_succ, List.take_succ_cons, List.take_zero, List.take_nil, List.length_append, List.map_append, List.cons_append, List.nil_append, List.drop_succ_cons, List.drop_zero, List.append_nil, List.getElem?_cons_zero, List.getElem?_cons_succ, eq_self, true_implies, not_true_eq_false, not_false_eq_true, false_implies, and_true, true_and, decide_true, decide_false, Bool.not_true, Bool.not_false]
  refine CL.one f25_ok ?_
  simp only [go_sem, Nat.reduceAdd, Nat.reduceSub, Nat.reduceMul, Nat.reduceDiv, Nat.reduceMod, Nat.reduceEqDiff, Nat.reduceLeDiff, Nat.reduceLT, Int.reduceLT, Int.reduceLE, Int.reduceEq, Int.reduceToNat, reduceIte, reduceCtorEq, List.length_nil, List.map_nil, List.length_cons, List.map_cons, List.replicate_succ, List.replicate_zero, List.set_cons_zero, List.set_cons_succ, List.take_succ_cons, List.take_zero, List.take_nil, List.length_append, List.map_append, List.cons_append, List.nil_append, List.drop_succ_cons, List.drop_zero, List.append_nil, List.getElem?_cons_zero, List.getElem?_cons_succ, eq_self, true_implies, not_true_eq_false, not_false_eq_true, false_implies, and_true, true_and, decide_true, decide_false, Bool.not_true, Bool.not_false, hlen]
  refine ⟨fun h1 => ⟨_, rfl⟩, fun h1 => ?_⟩
  refine LL.st good_E0 (fun i : Nat => ks.length - i) (fun i => i ≤ ks.length)
    (fun i => [(.z, v), ((.o .z), .int .u8 (a : Int)), ((.o (.i .z)), outV (H.key 1) 6 (runD ks i).length), ((.i (.i .z)), .ptr (H.key 0) 0), ((.o (.o (.o .z))), .int .i64 i)])
    (fun i => [.row true 1 (row3 (lastR ks i)), outB 6 ((runD ks i).map Dn.enc)]) ?_ 0 (σ := [0, 1]) ?_ (Nat.zero_le _)
  · rintro i hi
    by_cases hlt : i < ks.length
    · obtain ⟨kk, r, ex', cap', wr, rows, hv, hrho, hgo, hrow⟩ := hA.at hok (j := i) (by rw [List.length_map]; exact hlt)
      simp only [List.length_map, List.getElem_map] at hv hrow
      cases hv
      have hgd : ks.getD i 0 = ks[i] := by rw [List.getD_eq_getElem?_getD, List.getElem?_eq_getElem hlt]; rfl
      have hk256 := hks ks[i] (List.getElem_mem hlt)
      have hL := lastR_succ ks i
      have hR : runD ks (i + 1) = withD (runD ks i) ⟨(ks.getD i 0 % 3 : Nat), (lastR ks (i + 1) (ks.getD i 0 % 3) : Nat), verA i⟩ := rfl
      have hI := RunI.run ks i (by omega)
      rw [hgd] at hL hR
      generalize ks[i] = k at hrow hgd hk256 hL hR
      have hw := wrap_succ (n := i) (by omega)
      have hci : (i : Int) < (ks.length : Int) := by omega
      have hsi : i + 1 ≤ ks.length := by omega
      have hm : ((k : Int).tmod 3) = ((k % 3 : Nat) : Int) := rfl
      have hq : ((IntKind.u8.wrap ((k : Int).tdiv 3)).tmod 4) = ((k / 3 % 4 : Nat) : Int) := by rw [show (k : Int).tdiv 3 = ((k / 3 : Nat) : Int) from rfl, wrap_u8 (m := k / 3) (by omega)]; rfl
      have hk3 : k % 3 < 3 := Nat.mod_lt _ (by decide)
      have hk4 : k / 3 % 4 < 4 := Nat.mod_lt _ (by decide)
      generalize k % 3 = j at *
      generalize k / 3 % 4 = q at *
      have hlj := hI.le j
      have hj0 : IntKind.i64.wrap (j : Int) = (j : Int) := wrap_i64 (by omega) (by omega)
      have hq0 : IntKind.i64.wrap (q : Int) = (q : Int) := wrap_i64 (by omega) (by omega)
      have hj4 : j ≤ 2 := by omega
      have hgj := row3_get (lastR ks i) hk3
      have hset := row3_set (lastR ks i) (m := lastR ks i j + 1 + q) hk3
      have hst := hI.step (k := j) (m := lastR ks i j + 1 + q) (by omega) hk3 (by omega)
      have hw1 := wrap_succ (n := lastR ks i j) (by omega)
      have hw2 : IntKind.i64.wrap (((lastR ks i j + 1 : Nat) : Int) + (q : Int)) = ((lastR ks i j + 1 + q : Nat) : Int) := by rw [wrap_i64 (by omega) (by omega)]; omega
      rw [show lastR ks (i + 1) j = lastR ks i j + 1 + q by rw [hL]; unfold updR; rw [if_pos rfl]] at hR
      rw [← hL] at hset hst
      rw [← hR] at hst
      obtain ⟨hI2, hfd⟩ := hst
      have hgj2 := row3_get (lastR ks (i + 1)) hk3
      rw [show lastR ks (i + 1) j = lastR ks i j + 1 + q by rw [hL]; unfold updR; rw [if_pos rfl]] at hgj2
      generalize lastR ks i j + 1 + q = m at *
      simp only [go_sem, C8L0, Nat.reduceAdd, Nat.reduceSub, Nat.reduceMul, Nat.reduceDiv, Nat.reduceMod, Nat.reduceEqDiff, Nat.reduceLeDiff, Nat.reduceLT, Int.reduceLT, Int.reduceLE, Int.reduceEq, Int.reduceToNat, reduceIte, reduceCtorEq, List.length_nil, List.map_nil, List.length_cons, List.map_cons, List.replicate_succ, List.replicate_zero, List.set_cons_zero, List.set_cons_succ, List.take_succ_cons, List.take_zero, List.take_nil, List.length_append, List.map_append, List.cons_append, List.nil_append, List.drop_succ_cons, List.drop_zero, List.append_nil, List.getElem?_cons_zero, List.getElem?_cons_succ, eq_self, true_implies, not_true_eq_false, not_false_eq_true, false_implies, and_true, true_and, decide_true, decide_false, Bool.not_true, Bool.not_false, hlen, hci, hsi, hgo, hrow, hw, hm, hq, hj0, hq0, hj4, hgj, hset, hw1, hw2, hgj2]
      refine CL.of (f33_ok (l := runD ks i) (d := ⟨(j : Nat), (m : Nat), verA i⟩) (by exact arr_outV rfl (List.length_map ..)) (hI.allOk _) (verA_ok _) hI.up (by have := hI.len; omega)) ?_
      rintro _ _ ⟨rfl, rfl⟩
      rw [← hR]
      simp only [go_sem, Nat.reduceAdd, Nat.reduceSub, Nat.reduceMul, Nat.reduceDiv, Nat.reduceMod, Nat.reduceEqDiff, Nat.reduceLeDiff, Nat.reduceLT, Int.reduceLT, Int.reduceLE, Int.reduceEq, Int.reduceToNat, reduceIte, reduceCtorEq, List.length_nil, List.map_nil, List.length_cons, List.map_cons, List.replicate_succ, List.replicate_zero, List.set_cons_zero, List.set_cons_succ, List.take_succ_cons, List.take_zero, List.take_nil, List.length_append, List.map_append, List.cons_append, List.nil_append, List.drop_succ_cons, List.drop_zero, List.append_nil, List.getElem?_cons_zero, List.getElem?_cons_succ, eq_self, true_implies, not_true_eq_false, not_false_eq_true, false_implies, and_true, true_and, decide_true, decide_false, Bool.not_true, Bool.not_false]
      refine CL.one (f27_ok (l := runD ks (i + 1)) (by exact arr_outV rfl (List.length_map ..)) (hI2.allOk _) (by have := hI2.len; omega)) ?_
      rw [decide_eq_true hI2.done]
      simp only [go_sem, Nat.reduceAdd, Nat.reduceSub, Nat.reduceMul, Nat.reduceDiv, Nat.reduceMod, Nat.reduceEqDiff, Nat.reduceLeDiff, Nat.reduceLT, Int.reduceLT, Int.reduceLE, Int.reduceEq, Int.reduceToNat, reduceIte, reduceCtorEq, List.length_nil, List.map_nil, List.length_cons, List.map_cons, List.replicate_succ, List.replicate_zero, List.set_cons_zero, List.set_cons_succ, List.take_succ_cons, List.take_zero, List.take_nil, List.length_append, List.map_append, List.cons_append, List.nil_append, List.drop_succ_cons, List.drop_zero, List.append_nil, List.getElem?_cons_zero, List.getElem?_cons_succ, eq_self, true_implies, not_true_eq_false, not_false_eq_true, false_implies, and_true, true_and, decide_true, decide_false, Bool.not_true, Bool.not_false, hj4, hgj2]
      refine CL.of (f29_ok (l := runD ks (i + 1)) (by exact arr_outV rfl (List.length_map ..)) (hI2.allOk _) (by have := hI2.len; omega) hI2.up hI2.rows _ _) ?_
      rintro _ _ ⟨z, rfl, rfl⟩
      rw [show stands (runD ks (i + 1)) j m = (verA i, 1) by rw [stands_some hfd, if_neg (Int.lt_irrefl _), if_pos rfl]]
      have hvi : (verA i).ver = (i : Int) := rfl
      simp only [go_sem, ansV, agg_z, one_z, hvi, hw, Nat.reduceAdd, Nat.reduceSub, Nat.reduceMul, Nat.reduceDiv, Nat.reduceMod, Nat.reduceEqDiff, Nat.reduceLeDiff, Nat.reduceLT, Int.reduceLT, Int.reduceLE, Int.reduceEq, Int.reduceToNat, reduceIte, reduceCtorEq, List.length_nil, List.map_nil, List.length_cons, List.map_cons, List.replicate_succ, List.replicate_zero, List.set_cons_zero, List.set_cons_succ, List.take_succ_cons, List.take_zero, List.take_nil, List.length_append, List.map_append, List.cons_append, List.nil_append, List.drop_succ_cons, List.drop_zero, List.append_nil, List.getElem?_cons_zero, List.getElem?_cons_succ, eq_self, true_implies, not_true_eq_false, not_false_eq_true, false_implies, and_true, true_and, decide_true, decide_false, Bool.not_true, Bool.not_false]
      exact ⟨i + 1, by show ks.length - (i + 1) < ks.length - i; omega, by show i + 1 ≤ ks.length; omega, _, [0, 2], rfl, Wk.of rfl (by decide) (by simp only [go_sem, outV_ren', hrho, List.length_nil, List.map_nil, List.length_cons, List.map_cons, List.replicate_succ, List.replicate_zero, List.set_cons_zero, List.set_cons_succ, List.take_succ_cons, List.take_zero, List.take_nil, List.length_append, List.map_append, List.cons_append, List.nil_append, List.drop_succ_cons, List.drop_zero, List.append_nil, List.getElem?_cons_zero, List.getElem?_cons_succ, Nat.reduceAdd, Nat.reduceSub, Nat.reduceMul, Nat.reduceDiv, Nat.reduceMod, Nat.reduceEqDiff, Nat.reduceLeDiff, Nat.reduceLT, Int.reduceLT, Int.reduceLE, Int.reduceEq, Int.reduceToNat, reduceIte, reduceCtorEq]) (by simp only [go_sem, ↓outB_ren', ↓zB_ren, row3_rens, implies_true, (hI2.allOk H).rens, List.length_nil, List.map_nil, List.length_cons, List.map_cons, List.replicate_succ, List.replicate_zero, List.set_cons_zero, List.set_cons_succ, List.take_succ_cons, List.take_zero, List.take_nil, List.length_append, List.map_append, List.cons_append, List.nil_append, List.drop_succ_cons, List.drop_zero, List.append_nil, List.getElem?_cons_zero, List.getElem?_cons_succ, Nat.reduceAdd, Nat.reduceSub, Nat.reduceMul, Nat.reduceDiv, Nat.reduceMod, Nat.reduceEqDiff, Nat.reduceLeDiff, Nat.reduceLT, Int.reduceLT, Int.reduceLE, Int.reduceEq, Int.reduceToNat, reduceIte, reduceCtorEq, eq_self, true_implies, not_true_eq_false, not_false_eq_true, false_implies, and_true, true_and, decide_true, decide_false, Bool.not_true, Bool.not_false])⟩
    · have hci : ¬ (i : Int) < (ks.length : Int) := by omega
      obtain rfl : i = ks.length := by omega
      have hI := RunI.run ks ks.length (by omega)
      generalize lastR ks ks.length = F at *
      generalize runD ks ks.length = l at *
      have hm : ((a : Int).tmod 3) = ((a % 3 : Nat) : Int) := rfl
      have hk3 : a % 3 < 3 := Nat.mod_lt _ (by decide)
      generalize a % 3 = j at *
      have hlj := hI.le j
      have hj0 : IntKind.i64.wrap (j : Int) = (j : Int) := wrap_i64 (by omega) (by omega)
      have hj4 : j ≤ 2 := by omega
      have hgj := row3_get F hk3
      have hw1 := wrap_succ (n := F j) (by omega)
      have hw2 : IntKind.i64.wrap ((F j : Int) - 1) = (F j : Int) - 1 := wrap_i64 (by omega) (by omega)
      simp only [go_sem, C8L0, Nat.reduceAdd, Nat.reduceSub, Nat.reduceMul, Nat.reduceDiv, Nat.reduceMod, Nat.reduceEqDiff, Nat.reduceLeDiff, Nat.reduceLT, Int.reduceLT, Int.reduceLE, Int.reduceEq, Int.reduceToNat, reduceIte, reduceCtorEq, List.length_nil, List.map_nil, List.length_cons, List.map_cons, List.replicate_succ, List.replicate_zero, List.set_cons_zero, List.set_cons_succ, List.take_succ_cons, List.take_zero, List.take_nil, List.length_append, List.map_append, List.cons_append, List.nil_append, List.drop_succ_cons, List.drop_zero, List.append_nil, List.getElem?_cons_zero, List.getElem?_cons_succ, eq_self, true_implies, not_true_eq_false, not_false_eq_true, false_implies, and_true, true_and, decide_true, decide_false, Bool.not_true, Bool.not_false, hlen, hci, hm, hj0, hj4, hgj, hw1]
      refine CL.of (f29_ok (l := l) (by exact arr_outV rfl (List.length_map ..)) (hI.allOk _) (by have := hI.len; omega) hI.up hI.rows _ _) ?_
      rintro _ _ ⟨z, rfl, rfl⟩
      have hs1 : (stands l j (F j + 1 : Nat)).2 = 0 := by
        rcases Nat.eq_zero_or_pos (F j) with h0 | h0
        · rw [stands_none (hI.no j h0)]
        · obtain ⟨d, h1, h2⟩ := hI.yes j h0
          rw [stands_some h1, if_pos (by omega)]
      have hs2 : ¬ (F j : Int) = 0 → (stands l j ((F j : Int) - 1)).2 = 2 := fun h0 => by
        obtain ⟨d, h1, h2⟩ := hI.yes j (by omega)
        rw [stands_some h1, if_neg (by omega), if_neg (by omega)]
      simp only [go_sem, ansV, agg_z, one_z, hj4, hgj, hw2, Nat.reduceAdd, Nat.reduceSub, Nat.reduceMul, Nat.reduceDiv, Nat.reduceMod, Nat.reduceEqDiff, Nat.reduceLeDiff, Nat.reduceLT, Int.reduceLT, Int.reduceLE, Int.reduceEq, Int.reduceToNat, reduceIte, reduceCtorEq, List.length_nil, List.map_nil, List.length_cons, List.map_cons, List.replicate_succ, List.replicate_zero, List.set_cons_zero, List.set_cons_succ, List.take_succ_cons, List.take_zero, List.take_nil, List.length_append, List.map_append, List.cons_append, List.nil_append, List.drop_succ_cons, List.drop_zero, List.append_nil, List.getElem?_cons_zero, List.getElem?_cons_succ, eq_self, true_implies, not_true_eq_false, not_false_eq_true, false_implies, and_true, true_and, decide_true, decide_false, Bool.not_true, Bool.not_false]
      refine CL.of (f29_ok (l := l) (by exact arr_outV rfl (List.length_map ..)) (hI.allOk _) (by have := hI.len; omega) hI.up hI.rows _ _) ?_
      rintro _ _ ⟨z2, rfl, rfl⟩
      simp only [go_sem, ansV, agg_z, one_z, hj4, hgj, hw2, hs1, Nat.reduceAdd, Nat.reduceSub, Nat.reduceMul, Nat.reduceDiv, Nat.reduceMod, Nat.reduceEqDiff, Nat.reduceLeDiff, Nat.reduceLT, Int.reduceLT, Int.reduceLE, Int.reduceEq, Int.reduceToNat, reduceIte, reduceCtorEq, List.length_nil, List.map_nil, List.length_cons, List.map_cons, List.replicate_succ, List.replicate_zero, List.set_cons_zero, List.set_cons_succ, List.take_succ_cons, List.take_zero, List.take_nil, List.length_append, List.map_append, List.cons_append, List.nil_append, List.drop_succ_cons, List.drop_zero, List.append_nil, List.getElem?_cons_zero, List.getElem?_cons_succ, eq_self, true_implies, not_true_eq_false, not_false_eq_true, false_implies, and_true, true_and, decide_true, decide_false, Bool.not_true, Bool.not_false]
      exact ⟨fun h0 => ⟨_, rfl⟩, fun h0 => ⟨fun _ => ⟨_, rfl⟩, fun g => absurd (hs2 h0) g⟩⟩
  · exact Wk.of rfl (by decide) (by simp only [go_sem, hren, List.length_nil, List.map_nil, List.length_cons, List.map_cons, List.replicate_succ, List.replicate_zero, List.set_cons_zero, List.set_cons_succ, List.take_succ_cons, List.take_zero, List.take_nil, List.length_append, List.map_append, List.cons_append, List.nil_append, List.drop_succ_cons, List.drop_zero, List.append_nil, List.getElem?_cons_zero, List.getElem?_cons_succ, Nat.reduceAdd, Nat.reduceSub, Nat.reduceMul, Nat.reduceDiv, Nat.reduceMod, Nat.reduceEqDiff, Nat.reduceLeDiff, Nat.reduceLT, Int.reduceLT, Int.reduceLE, Int.reduceEq, Int.reduceToNat, reduceIte, reduceCtorEq]; rfl) (by simp only [go_sem, ↓outB_ren', ↓zB_ren, row3_rens, implies_true, List.length_nil, List.map_nil, List.length_cons, List.map_cons, List.replicate_succ, List.replicate_zero, List.set_cons_zero, List.set_cons_succ, List.take_succ_cons, List.take_zero, List.take_nil, List.length_append, List.map_append, List.cons_append, List.nil_append, List.drop_succ_cons, List.drop_zero, List.append_nil, List.getElem?_cons_zero, List.getElem?_cons_succ, Nat.reduceAdd, Nat.reduceSub, Nat.reduceMul, Nat.reduceDiv, Nat.reduceMod, Nat.reduceEqDiff, Nat.reduceLeDiff, Nat.reduceLT, Int.reduceLT, Int.reduceLE, Int.reduceEq, Int.reduceToNat, reduceIte, reduceCtorEq, eq_self, true_implies, not_true_eq_false, not_false_eq_true, false_implies, and_true, true_and, decide_true, decide_false, Bool.not_true, Bool.not_false]; exact ⟨rfl, fun h => h.elim⟩)
end Go.Proofs
