/- index: sameness of cells, walked. -/
import Derived.Test.YtiadcabmonbgiaaW5Z
set_option linter.all false
set_option maxRecDepth 100000
namespace Go.Proofs
open Go Go.Ev
variable {H : Heap}

theorem f19_ok {v w : AV} {l m : List Cell} (hA : Arr H 5 v (l.map Cell.enc)) (hB : Arr H 5 w (m.map Cell.enc)) (hl : l.length < 4294967296) (hm : m.length < 4294967296) :
    FnOk Try.prog 19 [v, w] H fun r G => r = .bool (decide (l = m)) ∧ G = H := by
  refine FnOk.assume fun hok => ?_
  refine FnOk.drop (R := fun r => r = .bool (decide (l = m))) ?_ (by rintro v rfl ρ; rw [AV.ren])
  refine FnOk.of_WW Try.func19 rfl C19ok R19ok E0 good_E0 ?_
  rcases hA.forms with ⟨rfl, hnil⟩ | ⟨k, off, ex, cap, rfl, hrho⟩ <;> rcases hB.forms with ⟨rfl, hnil2⟩ | ⟨k2, off2, ex2, cap2, rfl, hrho2⟩
  · have hn0 : l.length = 0 := by simpa using hnil
    have hm0 : m.length = 0 := by simpa using hnil2
    by_cases hlen : l.length = m.length
    · have hle : (l.length : Int) = (m.length : Int) := by omega
      have h0 : (0 : Int) = (m.length : Int) := by omega
      have h0 : (l.length : Int) = 0 := by omega
      simp only [go_sem, C19, Nat.reduceAdd, Nat.reduceSub, Nat.reduceMul, Nat.reduceDiv, Nat.reduceMod, Nat.reduceEqDiff, Nat.reduceLeDiff, Nat.reduceLT, Int.reduceLT, Int.reduceLE, Int.reduceEq, Int.reduceToNat, reduceIte, reduceCtorEq, List.length_map, hle, h0.symm]
      refine LL.st good_E0 (fun i : Nat => l.length - i) (fun i => i ≤ l.length ∧ ∀ j, j < i → l[j]? = m[j]?)
        (fun i => [(.z, .nils), ((.o .z), .nils), ((.o (.i .z)), .int .i64 i)])
        (fun i => []) ?_ 0 (σ := []) (Wk.mk' rfl (by decide) (by simp only [go_sem, List.length_map, hn0, hm0, Nat.reduceAdd, Nat.reduceSub, Nat.reduceMul, Nat.reduceDiv, Nat.reduceMod, Nat.reduceEqDiff, Nat.reduceLeDiff, Nat.reduceLT, Int.reduceLT, Int.reduceLE, Int.reduceEq, Int.reduceToNat, reduceIte, reduceCtorEq]) (by simp only [go_sem, List.length_map, hn0, hm0, Nat.reduceAdd, Nat.reduceSub, Nat.reduceMul, Nat.reduceDiv, Nat.reduceMod, Nat.reduceEqDiff, Nat.reduceLeDiff, Nat.reduceLT, Int.reduceLT, Int.reduceLE, Int.reduceEq, Int.reduceToNat, reduceIte, reduceCtorEq])) ⟨by omega, by simp⟩
      rintro i ⟨hi, hno⟩
      by_cases hlt : i < l.length
      · exact absurd hlt (by omega)
      · have hci : ¬ (i : Int) < (l.length : Int) := by omega
        simp only [go_sem, C19L0, Nat.reduceAdd, Nat.reduceSub, Nat.reduceMul, Nat.reduceDiv, Nat.reduceMod, Nat.reduceEqDiff, Nat.reduceLeDiff, Nat.reduceLT, Int.reduceLT, Int.reduceLE, Int.reduceEq, Int.reduceToNat, reduceIte, reduceCtorEq, List.length_map, hci, show ¬ (i : Int) < 0 by omega]
        refine ⟨bool_t (List.ext_getElem? fun j => ?_), _, rfl⟩
        rcases Nat.lt_or_ge j l.length with g | g
        · exact hno j (by omega)
        · rw [List.getElem?_eq_none g, List.getElem?_eq_none (by omega)]
    · have hne : ¬ (l.length : Int) = (m.length : Int) := by omega
      have h0 : ¬ (0 : Int) = (m.length : Int) := by omega
      have h0 : ¬ (l.length : Int) = 0 := by omega
      exact absurd (hn0.trans hm0.symm) hlen
  · have hn0 : l.length = 0 := by simpa using hnil
    skip
    by_cases hlen : l.length = m.length
    · have hle : (l.length : Int) = (m.length : Int) := by omega
      have h0 : (0 : Int) = (m.length : Int) := by omega
      skip
      simp only [go_sem, C19, Nat.reduceAdd, Nat.reduceSub, Nat.reduceMul, Nat.reduceDiv, Nat.reduceMod, Nat.reduceEqDiff, Nat.reduceLeDiff, Nat.reduceLT, Int.reduceLT, Int.reduceLE, Int.reduceEq, Int.reduceToNat, reduceIte, reduceCtorEq, List.length_map, hle, h0.symm]
      refine LL.st good_E0 (fun i : Nat => l.length - i) (fun i => i ≤ l.length ∧ ∀ j, j < i → l[j]? = m[j]?)
        (fun i => [(.z, .nils), ((.o .z), .slice k2 off2 (m.map Cell.enc).length 5 ex2 cap2), ((.o (.i .z)), .int .i64 i)])
        (fun i => []) ?_ 0 (σ := []) (Wk.mk' rfl (by decide) (by simp only [go_sem, List.length_map, hn0, hrho2, Nat.reduceAdd, Nat.reduceSub, Nat.reduceMul, Nat.reduceDiv, Nat.reduceMod, Nat.reduceEqDiff, Nat.reduceLeDiff, Nat.reduceLT, Int.reduceLT, Int.reduceLE, Int.reduceEq, Int.reduceToNat, reduceIte, reduceCtorEq]) (by simp only [go_sem, List.length_map, hn0, hrho2, Nat.reduceAdd, Nat.reduceSub, Nat.reduceMul, Nat.reduceDiv, Nat.reduceMod, Nat.reduceEqDiff, Nat.reduceLeDiff, Nat.reduceLT, Int.reduceLT, Int.reduceLE, Int.reduceEq, Int.reduceToNat, reduceIte, reduceCtorEq])) ⟨by omega, by simp⟩
      rintro i ⟨hi, hno⟩
      by_cases hlt : i < l.length
      · exact absurd hlt (by omega)
      · have hci : ¬ (i : Int) < (l.length : Int) := by omega
        simp only [go_sem, C19L0, Nat.reduceAdd, Nat.reduceSub, Nat.reduceMul, Nat.reduceDiv, Nat.reduceMod, Nat.reduceEqDiff, Nat.reduceLeDiff, Nat.reduceLT, Int.reduceLT, Int.reduceLE, Int.reduceEq, Int.reduceToNat, reduceIte, reduceCtorEq, List.length_map, hci, show ¬ (i : Int) < 0 by omega]
        refine ⟨bool_t (List.ext_getElem? fun j => ?_), _, rfl⟩
        rcases Nat.lt_or_ge j l.length with g | g
        · exact hno j (by omega)
        · rw [List.getElem?_eq_none g, List.getElem?_eq_none (by omega)]
    · have hne : ¬ (l.length : Int) = (m.length : Int) := by omega
      have h0 : ¬ (0 : Int) = (m.length : Int) := by omega
      skip
      simp only [go_sem, C19, Nat.reduceAdd, Nat.reduceSub, Nat.reduceMul, Nat.reduceDiv, Nat.reduceMod, Nat.reduceEqDiff, Nat.reduceLeDiff, Nat.reduceLT, Int.reduceLT, Int.reduceLE, Int.reduceEq, Int.reduceToNat, reduceIte, reduceCtorEq, List.length_map, hne, h0]
      exact ⟨bool_f fun h => hlen (by rw [h]), _, rfl⟩
  · skip
    have hm0 : m.length = 0 := by simpa using hnil2
    by_cases hlen : l.length = m.length
    · have hle : (l.length : Int) = (m.length : Int) := by omega
      skip
      have h0 : (l.length : Int) = 0 := by omega
      simp only [go_sem, C19, Nat.reduceAdd, Nat.reduceSub, Nat.reduceMul, Nat.reduceDiv, Nat.reduceMod, Nat.reduceEqDiff, Nat.reduceLeDiff, Nat.reduceLT, Int.reduceLT, Int.reduceLE, Int.reduceEq, Int.reduceToNat, reduceIte, reduceCtorEq, List.length_map, h0]
      refine LL.st good_E0 (fun i : Nat => l.length - i) (fun i => i ≤ l.length ∧ ∀ j, j < i → l[j]? = m[j]?)
        (fun i => [(.z, .slice k off (l.map Cell.enc).length 5 ex cap), ((.o .z), .nils), ((.o (.i .z)), .int .i64 i)])
        (fun i => []) ?_ 0 (σ := []) (Wk.mk' rfl (by decide) (by simp only [go_sem, List.length_map, hrho, hm0, Nat.reduceAdd, Nat.reduceSub, Nat.reduceMul, Nat.reduceDiv, Nat.reduceMod, Nat.reduceEqDiff, Nat.reduceLeDiff, Nat.reduceLT, Int.reduceLT, Int.reduceLE, Int.reduceEq, Int.reduceToNat, reduceIte, reduceCtorEq]) (by simp only [go_sem, List.length_map, hrho, hm0, Nat.reduceAdd, Nat.reduceSub, Nat.reduceMul, Nat.reduceDiv, Nat.reduceMod, Nat.reduceEqDiff, Nat.reduceLeDiff, Nat.reduceLT, Int.reduceLT, Int.reduceLE, Int.reduceEq, Int.reduceToNat, reduceIte, reduceCtorEq])) ⟨by omega, by simp⟩
      rintro i ⟨hi, hno⟩
      by_cases hlt : i < l.length
      · exact absurd hlt (by omega)
      · have hci : ¬ (i : Int) < (l.length : Int) := by omega
        simp only [go_sem, C19L0, Nat.reduceAdd, Nat.reduceSub, Nat.reduceMul, Nat.reduceDiv, Nat.reduceMod, Nat.reduceEqDiff, Nat.reduceLeDiff, Nat.reduceLT, Int.reduceLT, Int.reduceLE, Int.reduceEq, Int.reduceToNat, reduceIte, reduceCtorEq, List.length_map, hci]
        refine ⟨bool_t (List.ext_getElem? fun j => ?_), _, rfl⟩
        rcases Nat.lt_or_ge j l.length with g | g
        · exact hno j (by omega)
        · rw [List.getElem?_eq_none g, List.getElem?_eq_none (by omega)]
    · have hne : ¬ (l.length : Int) = (m.length : Int) := by omega
      skip
      have h0 : ¬ (l.length : Int) = 0 := by omega
      simp only [go_sem, C19, Nat.reduceAdd, Nat.reduceSub, Nat.reduceMul, Nat.reduceDiv, Nat.reduceMod, Nat.reduceEqDiff, Nat.reduceLeDiff, Nat.reduceLT, Int.reduceLT, Int.reduceLE, Int.reduceEq, Int.reduceToNat, reduceIte, reduceCtorEq, List.length_map, hne, h0]
      exact ⟨bool_f fun h => hlen (by rw [h]), _, rfl⟩
  · skip
    skip
    by_cases hlen : l.length = m.length
    · have hle : (l.length : Int) = (m.length : Int) := by omega
      skip
      skip
      simp only [go_sem, C19, Nat.reduceAdd, Nat.reduceSub, Nat.reduceMul, Nat.reduceDiv, Nat.reduceMod, Nat.reduceEqDiff, Nat.reduceLeDiff, Nat.reduceLT, Int.reduceLT, Int.reduceLE, Int.reduceEq, Int.reduceToNat, reduceIte, reduceCtorEq, List.length_map, hle]
      refine LL.st good_E0 (fun i : Nat => l.length - i) (fun i => i ≤ l.length ∧ ∀ j, j < i → l[j]? = m[j]?)
        (fun i => [(.z, .slice k off (l.map Cell.enc).length 5 ex cap), ((.o .z), .slice k2 off2 (m.map Cell.enc).length 5 ex2 cap2), ((.o (.i .z)), .int .i64 i)])
        (fun i => []) ?_ 0 (σ := []) (Wk.mk' rfl (by decide) (by simp only [go_sem, List.length_map, hrho, hrho2, Nat.reduceAdd, Nat.reduceSub, Nat.reduceMul, Nat.reduceDiv, Nat.reduceMod, Nat.reduceEqDiff, Nat.reduceLeDiff, Nat.reduceLT, Int.reduceLT, Int.reduceLE, Int.reduceEq, Int.reduceToNat, reduceIte, reduceCtorEq]) (by simp only [go_sem, List.length_map, hrho, hrho2, Nat.reduceAdd, Nat.reduceSub, Nat.reduceMul, Nat.reduceDiv, Nat.reduceMod, Nat.reduceEqDiff, Nat.reduceLeDiff, Nat.reduceLT, Int.reduceLT, Int.reduceLE, Int.reduceEq, Int.reduceToNat, reduceIte, reduceCtorEq])) ⟨by omega, by simp⟩
      rintro i ⟨hi, hno⟩
      by_cases hlt : i < l.length
      · obtain ⟨kk, r, ex', cap', wr, rows, hv, hk, hg, _, hat⟩ := hA.pick (j := i) (by simpa using hlt)
        have hrow := hat i (by simpa using hlt)
        have hgo := Heap.get_ext_old hok hg
        have hw := wrap_succ (n := i) (by omega)
        have hci : (i : Int) < (l.length : Int) := by omega
        have hsi : i + 1 ≤ l.length := by omega
        have hget : l[i]? = some l[i] := List.getElem?_eq_getElem hlt
        cases hv
        obtain ⟨kk2, r2, ex2', cap2', wr2, rows2, hv2, hk2, hg2, _, hat2⟩ := hB.pick (j := i) (by simpa [hlen] using hlt)
        have hrow2 := hat2 i (by simpa [hlen] using hlt)
        have hgo2 := Heap.get_ext_old hok hg2
        have hci2 : (i : Int) < (m.length : Int) := by omega
        have hsi2 : i + 1 ≤ m.length := by omega
        have hget2 : m[i]? = some m[i] := List.getElem?_eq_getElem (by omega)
        cases hv2
        have hbad : ¬ l[i] = m[i] → ¬ l = m := fun h e => h (Option.some.inj (by rw [← hget, ← hget2, e]))
        simp only [go_sem, C19L0, Nat.reduceAdd, Nat.reduceSub, Nat.reduceMul, Nat.reduceDiv, Nat.reduceMod, Nat.reduceEqDiff, Nat.reduceLeDiff, Nat.reduceLT, Int.reduceLT, Int.reduceLE, Int.reduceEq, Int.reduceToNat, reduceIte, reduceCtorEq, List.length_map, hw, hgo, hrow, hci, hsi, List.getElem?_eq_getElem hlt, Cell.enc, hrow2, hgo2, hci2, hsi2, hget2]
        have hex : l[i] = m[i] ↔ l[i].key = m[i].key ∧ l[i].value = m[i].value ∧ l[i].ver = m[i].ver ∧ l[i].del = m[i].del ∧ l[i].floor = m[i].floor := by
          cases l[i]; cases m[i]; simp
        refine ⟨fun a1 => ⟨fun a2 => ⟨fun a3 => ⟨fun a4 => ⟨fun a5 => ?_, fun h => ⟨bool_f (hbad fun e => h (hex.1 e).2.2.2.2), _, rfl⟩⟩, fun h => ⟨bool_f (hbad fun e => h (hex.1 e).2.2.2.1), _, rfl⟩⟩, fun h => ⟨bool_f (hbad fun e => h (hex.1 e).2.2.1), _, rfl⟩⟩, fun h => ⟨bool_f (hbad fun e => h (hex.1 e).2.1), _, rfl⟩⟩, fun h => ⟨bool_f (hbad fun e => h (hex.1 e).1), _, rfl⟩⟩
        refine ⟨i + 1, by show l.length - (i + 1) < l.length - i; omega, ?_, _, [], rfl, Wk.mk' rfl (by decide) (by simp only [go_sem, hrho, List.length_map, hrho2, Nat.reduceAdd, Nat.reduceSub, Nat.reduceMul, Nat.reduceDiv, Nat.reduceMod, Nat.reduceEqDiff, Nat.reduceLeDiff, Nat.reduceLT, Int.reduceLT, Int.reduceLE, Int.reduceEq, Int.reduceToNat, reduceIte, reduceCtorEq]) (by simp only [go_sem, hrho, List.length_map, hrho2, Nat.reduceAdd, Nat.reduceSub, Nat.reduceMul, Nat.reduceDiv, Nat.reduceMod, Nat.reduceEqDiff, Nat.reduceLeDiff, Nat.reduceLT, Int.reduceLT, Int.reduceLE, Int.reduceEq, Int.reduceToNat, reduceIte, reduceCtorEq])⟩
        refine ⟨by omega, fun j hj => ?_⟩
        rcases Nat.lt_or_ge j i with g | g
        · exact hno j g
        · obtain rfl : j = i := by omega
          rw [hget, hget2, hex.2 ⟨a1, a2, a3, a4, a5⟩]
      · have hci : ¬ (i : Int) < (l.length : Int) := by omega
        simp only [go_sem, C19L0, Nat.reduceAdd, Nat.reduceSub, Nat.reduceMul, Nat.reduceDiv, Nat.reduceMod, Nat.reduceEqDiff, Nat.reduceLeDiff, Nat.reduceLT, Int.reduceLT, Int.reduceLE, Int.reduceEq, Int.reduceToNat, reduceIte, reduceCtorEq, List.length_map, hci]
        refine ⟨bool_t (List.ext_getElem? fun j => ?_), _, rfl⟩
        rcases Nat.lt_or_ge j l.length with g | g
        · exact hno j (by omega)
        · rw [List.getElem?_eq_none g, List.getElem?_eq_none (by omega)]
    · have hne : ¬ (l.length : Int) = (m.length : Int) := by omega
      skip
      skip
      simp only [go_sem, C19, Nat.reduceAdd, Nat.reduceSub, Nat.reduceMul, Nat.reduceDiv, Nat.reduceMod, Nat.reduceEqDiff, Nat.reduceLeDiff, Nat.reduceLT, Int.reduceLT, Int.reduceLE, Int.reduceEq, Int.reduceToNat, reduceIte, reduceCtorEq, List.length_map, hne]
      exact ⟨bool_f fun h => hlen (by rw [h]), _, rfl⟩

end Go.Proofs
