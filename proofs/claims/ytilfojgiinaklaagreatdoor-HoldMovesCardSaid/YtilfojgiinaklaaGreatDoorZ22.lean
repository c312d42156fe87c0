/- The document's shards: Is, Same: walked (ported). -/
import Derived.Test.YtilfojgiinaklaaGreatDoorZ21
import Derived.Test.YtilfojgiinaklaaGreatDoorProg
import Derived.KernelRfl
set_option linter.all false
set_option maxRecDepth 100000
namespace Go.Proofs
open Go Go.Ev
variable {H : Heap}
theorem f65_ok (k : List Nat) : FnOk Tryz.prog 65 [.str k] H fun v G => v = .bool (decide (isKey k)) ∧ G = H := by
  refine FnOk.of_WW Tryz.func65 rfl C65ok R65ok E0 good_E0 ?_
  simp only [go_sem, C65]
  have hl : (1 : Int) ≤ (k.length : Int) ↔ ¬ k = [] := by cases k <;> simp; omega
  repeat' (first | apply And.intro | intro _)
  all_goals first | exact Heap.ext_nil H | simp_all [isKey]
theorem f61_ok (f t : List Nat) : FnOk Tryz.prog 61 [.agg [.str f, .str t]] H fun v G => v = .bool (decide (isSpan f t)) ∧ G = H := by
  refine FnOk.drop (R := fun v => v = .bool (decide (isSpan f t))) ?_ (by rintro v rfl ρ; rw [AV.ren])
  refine FnOk.of_WW Tryz.func61 rfl C61ok R61ok E0 good_E0 ?_
  simp only [go_sem, C61, not_leS]
  repeat' (first | apply And.intro | intro _)
  all_goals first | exact ⟨_, rfl⟩ | exact bool_t (by unfold isSpan; grind) | exact bool_f (by unfold isSpan; grind)
theorem f64_ok (f t k : List Nat) : FnOk Tryz.prog 64 [.agg [.str f, .str t], .str k] H fun v G => v = .bool (decide (has f t k)) ∧ G = H := by
  refine FnOk.drop (R := fun v => v = .bool (decide (has f t k))) ?_ (by rintro v rfl ρ; rw [AV.ren])
  refine FnOk.of_WW Tryz.func64 rfl C64ok R64ok E0 good_E0 ?_
  simp only [go_sem, C64]
  refine CL.bool (f61_ok _ _) (fun h1 => ?_) (fun h1 => ?_)
  all_goals simp only [go_sem]
  · refine CL.bool (f65_ok _) (fun h2 => ?_) (fun h2 => ?_)
    all_goals simp only [go_sem]
    all_goals repeat' (first | apply And.intro | intro _)
    all_goals first | exact ⟨_, rfl⟩ | exact bool_t (by unfold has; grind) | exact bool_f (by unfold has; grind)
  · exact ⟨bool_f (by unfold has; grind), _, rfl⟩
theorem f151_ok (c : Cell) : FnOk Tryz.prog 151 [.agg c.enc] H fun v G => v = .bool (decide (cellIs c)) ∧ G = H := by
  refine FnOk.drop (R := fun v => v = .bool (decide (cellIs c))) ?_ (by rintro v rfl ρ; rw [AV.ren])
  refine FnOk.of_WW Tryz.func151 rfl C151ok R151ok E0 good_E0 ?_
  obtain ⟨key, value, ver, del, floor⟩ := c
  cases del
  all_goals simp only [go_sem, C151, Cell.enc]
  all_goals refine CL.bool (f65_ok _) (fun h1 => ?_) (fun h1 => ?_)
  all_goals simp only [go_sem]
  all_goals repeat' (first | apply And.intro | intro _)
  all_goals first | exact ⟨_, rfl⟩ | exact bool_t (by unfold cellIs mayBe; grind) | exact bool_f (by unfold cellIs mayBe; grind)
theorem f109_ok {v : AV} {l : List Cell} (hA : Arr H 5 v (l.map Cell.enc)) (hl : l.length < 4294967296) (key : List Nat) :
    FnOk Tryz.prog 109 [v, .str key] H fun r G => r = .tup [.agg (getL l key).1.enc, .bool (getL l key).2] ∧ G = H := by
  refine FnOk.assume fun hok => ?_
  refine FnOk.drop (R := fun r => r = .tup [.agg (getL l key).1.enc, .bool (getL l key).2]) ?_ (by rintro v rfl ρ; simp only [AV.ren, AV.rens, Cell.rens])
  refine FnOk.of_WW Tryz.func109 rfl C109ok R109ok E0 good_E0 ?_
  rcases hA.forms with ⟨rfl, hnil⟩ | ⟨k, off, ex, cap, rfl, hrho⟩
  · have hn0 : l.length = 0 := by simpa using hnil
    simp only [go_sem, C109]
    refine LL.st good_E0 (fun i : Nat => l.length - i) (fun i => i ≤ l.length ∧ ∀ x ∈ l.take i, x.key ≠ key)
      (fun i => [(.z, .nils), ((.o .z), .str key), ((.i (.o .z)), .ptr (H.key 0) 0), ((.i (.i .z)), .int .i64 i)])
      (fun i => [.row true 5 [[.str [], .str [], .int .i64 0, .bool false, .int .i64 0]]]) ?_ 0 (σ := [0]) (Wk.mk' rfl (by decide) (by simp only [go_sem, List.length_map, hn0]) (by simp only [go_sem, List.length_map, hn0])) ⟨by omega, by simp⟩
    rintro i ⟨hi, hno⟩
    by_cases hlt : i < l.length
    · exact absurd hlt (by omega)
    · have hci : ¬ (i : Int) < (l.length : Int) := by omega
      have := getL_none (l := l) (key := key) (by rw [take_all (by omega)] at hno; exact hno)
      simp only [go_sem, List.length_map, hci, show ¬ (i : Int) < 0 by omega]
      rw [this]
      exact ⟨rfl, _, rfl⟩
  · simp only [go_sem, C109]
    refine LL.st good_E0 (fun i : Nat => l.length - i) (fun i => i ≤ l.length ∧ ∀ x ∈ l.take i, x.key ≠ key)
      (fun i => [(.z, .slice k off (l.map Cell.enc).length 5 ex cap), ((.o .z), .str key), ((.i (.o .z)), .ptr (H.key 0) 0), ((.i (.i .z)), .int .i64 i)])
      (fun i => [.row true 5 [[.str [], .str [], .int .i64 0, .bool false, .int .i64 0]]]) ?_ 0 (σ := [0]) (Wk.mk' rfl (by decide) (by simp only [go_sem, List.length_map, hrho]) (by simp only [go_sem, List.length_map, hrho])) ⟨by omega, by simp⟩
    rintro i ⟨hi, hno⟩
    by_cases hlt : i < l.length
    · obtain ⟨kk, r, ex', cap', wr, rows, hv, hk, hg, _, hat⟩ := hA.pick (j := i) (by simpa using hlt)
      have hrow := hat i (by simpa using hlt)
      have hgo := Heap.get_ext_old hok hg
      have hw := wrap_succ (n := i) (by omega)
      have hci : (i : Int) < (l.length : Int) := by omega
      have hsi : i + 1 ≤ l.length := by omega
      have hget : l[i]? = some l[i] := List.getElem?_eq_getElem hlt
      cases hv
      simp only [go_sem, List.length_map, hw, hgo, hrow, hci, hsi, List.getElem?_eq_getElem hlt, Cell.enc]
      refine ⟨fun he => ?_, fun he => ?_⟩
      · have := getL_at hno hget he
        rw [this]
        exact ⟨rfl, _, rfl⟩
      · refine ⟨i + 1, by show l.length - (i + 1) < l.length - i; omega, ⟨by omega, ?_⟩, _, [0], rfl, Wk.mk' rfl (by decide) (by simp only [go_sem, hrho, List.length_map]) (by simp only [go_sem, hrho, List.length_map])⟩
        rw [take_next hget]
        intro x hx
        rcases List.mem_append.1 hx with h | h
        · exact hno x h
        · simp only [List.mem_singleton] at h; subst h; exact he
    · have hci : ¬ (i : Int) < (l.length : Int) := by omega
      have := getL_none (l := l) (key := key) (by rw [take_all (by omega)] at hno; exact hno)
      simp only [go_sem, List.length_map, hci]
      rw [this]
      exact ⟨rfl, _, rfl⟩
noncomputable def F24 : FuncId → List AV → Option AV
  | 151, [.agg [.str k, .str v, .int .i64 n, .bool d, .int .i64 f]] => some (.bool (decide (cellIs ⟨k, v, n, d, f⟩)))
  | _, _ => none
theorem good_F24 : Ev.Good Tryz.prog (pureE F24) := by
  refine good_pureE fun f args v h H => ?_
  unfold F24 at h
  split at h
  · cases h; exact f151_ok ⟨_, _, _, _, _⟩
  · cases h
theorem e24 (k v : List Nat) (n : Int) (d : Bool) (f : Int) (H : Heap) : pureE F24 151 [.agg [.str k, .str v, .int .i64 n, .bool d, .int .i64 f]] H = .ok (.bool (decide (cellIs ⟨k, v, n, d, f⟩))) H := rfl
noncomputable def F46 : FuncId → List AV → Option AV
  | 64, [.agg [.str f, .str t], .str k] => some (.bool (decide (has f t k)))
  | _, _ => none
theorem good_F46 : Ev.Good Tryz.prog (pureE F46) := by
  refine good_pureE fun f args v h H => ?_
  unfold F46 at h
  split at h
  · cases h; exact f64_ok _ _ _
  · cases h
theorem e46 (f t k : List Nat) (H : Heap) : pureE F46 64 [.agg [.str f, .str t], .str k] H = .ok (.bool (decide (has f t k))) H := rfl
theorem f108_ok {v : AV} {l : List Cell} (hA : Arr H 5 v (l.map Cell.enc)) (hl : l.length < 4294967296) :
    FnOk Tryz.prog 108 [v] H fun r G => r = .bool (decide (isIdx l)) ∧ G = H := by
  refine FnOk.assume fun hok => ?_
  refine FnOk.drop (R := fun r => r = .bool (decide (isIdx l))) ?_ (by rintro v rfl ρ; rw [AV.ren])
  refine FnOk.of_WW Tryz.func108 rfl C108ok R108ok (pureE F24) good_F24 ?_
  rcases hA.forms with ⟨rfl, hnil⟩ | ⟨k, off, ex, cap, rfl, hrho⟩
  · have hn0 : l.length = 0 := by simpa using hnil
    simp only [go_sem, C108]
    refine LL.st good_F24 (fun i : Nat => l.length - i) (fun i => i ≤ l.length ∧ ∀ j, j < i → okAt l j)
      (fun i => [(.z, .nils), ((.o (.o .z)), .int .i64 i)])
      (fun i => []) ?_ 0 (σ := []) (Wk.mk' rfl (by decide) (by simp only [go_sem, List.length_map, hn0]) (by simp only [go_sem, List.length_map, hn0])) ⟨by omega, by simp⟩
    rintro i ⟨hi, hno⟩
    by_cases hlt : i < l.length
    · exact absurd hlt (by omega)
    · have hci : ¬ (i : Int) < (l.length : Int) := by omega
      simp only [go_sem, List.length_map, hci, show ¬ (i : Int) < 0 by omega]
      exact ⟨bool_t fun j hj => hno j (by omega), _, rfl⟩
  · simp only [go_sem, C108]
    refine LL.st good_F24 (fun i : Nat => l.length - i) (fun i => i ≤ l.length ∧ ∀ j, j < i → okAt l j)
      (fun i => [(.z, .slice k off (l.map Cell.enc).length 5 ex cap), ((.o (.o .z)), .int .i64 i)])
      (fun i => []) ?_ 0 (σ := []) (Wk.mk' rfl (by decide) (by simp only [go_sem, List.length_map, hrho]) (by simp only [go_sem, List.length_map, hrho])) ⟨by omega, by simp⟩
    rintro i ⟨hi, hno⟩
    by_cases hlt : i < l.length
    · obtain ⟨kk, r, ex', cap', wr, rows, hv, hk, hg, _, hat⟩ := hA.pick (j := i) (by simpa using hlt)
      have hrow := hat i (by simpa using hlt)
      have hgo := Heap.get_ext_old hok hg
      have hw := wrap_succ (n := i) (by omega)
      have hci : (i : Int) < (l.length : Int) := by omega
      have hsi : i + 1 ≤ l.length := by omega
      have hget : l[i]? = some l[i] := List.getElem?_eq_getElem hlt
      cases hv
      have hbad : ¬ okAt l i → ¬ isIdx l := fun h g => h (g i hlt)
      have hbad1 : ¬ cellIs ⟨l[i].key, l[i].value, l[i].ver, l[i].del, l[i].floor⟩ → ¬ isIdx l := fun h => hbad (by rintro ⟨c, hc, g, _⟩; rw [hget] at hc; cases hc; exact h g)
      rcases Nat.eq_zero_or_pos i with h0 | h0
      · subst h0
        have hw0 : IntKind.i64.wrap (0 + 1) = ((0 + 1 : Nat) : Int) := rfl
        have hci0 : (0 : Int) < (l.length : Int) := hci
        have hrow0 : rows[r]? = (l.map Cell.enc)[0]? := hrow
        simp only [go_sem, e24, List.length_map, hw, hgo, hrow, hci, hsi, List.getElem?_eq_getElem hlt, Cell.enc, hw0, hci0, hrow0, Int.lt_irrefl, Int.ofNat_zero]
        refine ⟨fun h1 => ?_, fun h1 => ⟨bool_f (hbad1 h1), _, rfl⟩⟩
        refine ⟨0 + 1, by show l.length - (0 + 1) < l.length - 0; omega, ?_, _, [], rfl, Wk.mk' rfl (by decide) (by simp only [go_sem, hrho, List.length_map]) (by simp only [go_sem, hrho, List.length_map])⟩
        refine ⟨by omega, fun j hj => ?_⟩
        obtain rfl : j = 0 := by omega
        exact ⟨_, hget, h1, fun h => absurd h (by omega)⟩
      · obtain ⟨j, rfl⟩ : ∃ j, i = j + 1 := ⟨i - 1, by omega⟩
        have hrow' := hat j (by simp only [List.length_map]; omega)
        have hp : IntKind.i64.wrap (((j + 1 : Nat) : Int) - 1) = (j : Int) := by rw [wrap_i64 (by omega) (by omega)]; omega
        have hpos : (0 : Int) < ((j + 1 : Nat) : Int) := by omega
        have hltj : (j : Int) < (l.length : Int) := by omega
        have hsj : j + 1 ≤ l.length := by omega
        have hgetj : l[j]? = some l[j] := List.getElem?_eq_getElem (by omega)
        simp only [go_sem, e24, List.length_map, hw, hgo, hrow, hci, hsi, List.getElem?_eq_getElem hlt, Cell.enc, hrow', hp, hpos, hltj, hsj, hgetj]
        refine ⟨fun h1 => ⟨fun h2 => ⟨bool_f (hbad ?_), _, rfl⟩, fun h2 => ?_⟩, fun h1 => ⟨bool_f (hbad1 h1), _, rfl⟩⟩
        · rintro ⟨c, hc, _, hlt'⟩
          obtain ⟨d, hd, hlt'⟩ := hlt' (by omega)
          rw [hget] at hc
          rw [Nat.add_sub_cancel, hgetj] at hd
          cases hc; cases hd
          exact h2 hlt'
        · refine ⟨(j + 1) + 1, by show l.length - ((j + 1) + 1) < l.length - (j + 1); omega, ?_, _, [], rfl, Wk.mk' rfl (by decide) (by simp only [go_sem, hrho, List.length_map]) (by simp only [go_sem, hrho, List.length_map])⟩
          refine ⟨by omega, fun x hx => ?_⟩
          rcases Nat.lt_or_ge x (j + 1) with g | g
          · exact hno x g
          · obtain rfl : x = j + 1 := by omega
            exact ⟨_, hget, h1, fun _ => ⟨_, hgetj, Classical.not_not.1 h2⟩⟩
    · have hci : ¬ (i : Int) < (l.length : Int) := by omega
      simp only [go_sem, List.length_map, hci]
      exact ⟨bool_t fun j hj => hno j (by omega), _, rfl⟩
theorem f53_ok {v w : AV} {l m : List Cell} (hA : Arr H 5 v (l.map Cell.enc)) (hB : Arr H 5 w (m.map Cell.enc)) (hl : l.length < 4294967296) (hm : m.length < 4294967296) :
    FnOk Tryz.prog 53 [v, w] H fun r G => r = .bool (decide (l = m)) ∧ G = H := by
  refine FnOk.assume fun hok => ?_
  refine FnOk.drop (R := fun r => r = .bool (decide (l = m))) ?_ (by rintro v rfl ρ; rw [AV.ren])
  refine FnOk.of_WW Tryz.func53 rfl C53ok R53ok E0 good_E0 ?_
  rcases hA.forms with ⟨rfl, hnil⟩ | ⟨k, off, ex, cap, rfl, hrho⟩ <;> rcases hB.forms with ⟨rfl, hnil2⟩ | ⟨k2, off2, ex2, cap2, rfl, hrho2⟩
  · have hn0 : l.length = 0 := by simpa using hnil
    have hm0 : m.length = 0 := by simpa using hnil2
    by_cases hlen : l.length = m.length
    · have hle : (l.length : Int) = (m.length : Int) := by omega
      have h0 : (0 : Int) = (m.length : Int) := by omega
      have h0 : (l.length : Int) = 0 := by omega
      simp only [go_sem, C53, List.length_map, hle, h0.symm]
      refine LL.st good_E0 (fun i : Nat => l.length - i) (fun i => i ≤ l.length ∧ ∀ j, j < i → l[j]? = m[j]?)
        (fun i => [(.z, .nils), ((.o .z), .nils), ((.o (.i .z)), .int .i64 i)])
        (fun i => []) ?_ 0 (σ := []) (Wk.mk' rfl (by decide) (by simp only [go_sem, List.length_map, hn0, hm0]) (by simp only [go_sem, List.length_map, hn0, hm0])) ⟨by omega, by simp⟩
      rintro i ⟨hi, hno⟩
      by_cases hlt : i < l.length
      · exact absurd hlt (by omega)
      · have hci : ¬ (i : Int) < (l.length : Int) := by omega
        simp only [go_sem, List.length_map, hci, show ¬ (i : Int) < 0 by omega]
        refine ⟨bool_t (List.ext_getElem? fun j => ?_), _, rfl⟩
        rcases Nat.lt_or_ge j l.length with g | g
        · exact hno j (by omega)
        · rw [List.getElem?_eq_none g, List.getElem?_eq_none (by omega)]
    · have hne : ¬ (l.length : Int) = (m.length : Int) := by omega
      have h0 : ¬ (0 : Int) = (m.length : Int) := by omega
      have h0 : ¬ (l.length : Int) = 0 := by omega
      exact absurd (hn0.trans hm0.symm) hlen
  · have hn0 : l.length = 0 := by simpa using hnil
    skip
    by_cases hlen : l.length = m.length
    · have hle : (l.length : Int) = (m.length : Int) := by omega
      have h0 : (0 : Int) = (m.length : Int) := by omega
      skip
      simp only [go_sem, C53, List.length_map, hle, h0.symm]
      refine LL.st good_E0 (fun i : Nat => l.length - i) (fun i => i ≤ l.length ∧ ∀ j, j < i → l[j]? = m[j]?)
        (fun i => [(.z, .nils), ((.o .z), .slice k2 off2 (m.map Cell.enc).length 5 ex2 cap2), ((.o (.i .z)), .int .i64 i)])
        (fun i => []) ?_ 0 (σ := []) (Wk.mk' rfl (by decide) (by simp only [go_sem, List.length_map, hn0, hrho2]) (by simp only [go_sem, List.length_map, hn0, hrho2])) ⟨by omega, by simp⟩
      rintro i ⟨hi, hno⟩
      by_cases hlt : i < l.length
      · exact absurd hlt (by omega)
      · have hci : ¬ (i : Int) < (l.length : Int) := by omega
        simp only [go_sem, List.length_map, hci, show ¬ (i : Int) < 0 by omega]
        refine ⟨bool_t (List.ext_getElem? fun j => ?_), _, rfl⟩
        rcases Nat.lt_or_ge j l.length with g | g
        · exact hno j (by omega)
        · rw [List.getElem?_eq_none g, List.getElem?_eq_none (by omega)]
    · have hne : ¬ (l.length : Int) = (m.length : Int) := by omega
      have h0 : ¬ (0 : Int) = (m.length : Int) := by omega
      skip
      simp only [go_sem, C53, List.length_map, hne, h0]
      exact ⟨bool_f fun h => hlen (by rw [h]), _, rfl⟩
  · skip
    have hm0 : m.length = 0 := by simpa using hnil2
    by_cases hlen : l.length = m.length
    · have hle : (l.length : Int) = (m.length : Int) := by omega
      skip
      have h0 : (l.length : Int) = 0 := by omega
      simp only [go_sem, C53, List.length_map, h0]
      refine LL.st good_E0 (fun i : Nat => l.length - i) (fun i => i ≤ l.length ∧ ∀ j, j < i → l[j]? = m[j]?)
        (fun i => [(.z, .slice k off (l.map Cell.enc).length 5 ex cap), ((.o .z), .nils), ((.o (.i .z)), .int .i64 i)])
        (fun i => []) ?_ 0 (σ := []) (Wk.mk' rfl (by decide) (by simp only [go_sem, List.length_map, hrho, hm0]) (by simp only [go_sem, List.length_map, hrho, hm0])) ⟨by omega, by simp⟩
      rintro i ⟨hi, hno⟩
      by_cases hlt : i < l.length
      · exact absurd hlt (by omega)
      · have hci : ¬ (i : Int) < (l.length : Int) := by omega
        simp only [go_sem, List.length_map, hci]
        refine ⟨bool_t (List.ext_getElem? fun j => ?_), _, rfl⟩
        rcases Nat.lt_or_ge j l.length with g | g
        · exact hno j (by omega)
        · rw [List.getElem?_eq_none g, List.getElem?_eq_none (by omega)]
    · have hne : ¬ (l.length : Int) = (m.length : Int) := by omega
      skip
      have h0 : ¬ (l.length : Int) = 0 := by omega
      simp only [go_sem, C53, List.length_map, hne, h0]
      exact ⟨bool_f fun h => hlen (by rw [h]), _, rfl⟩
  · skip
    skip
    by_cases hlen : l.length = m.length
    · have hle : (l.length : Int) = (m.length : Int) := by omega
      skip
      skip
      simp only [go_sem, C53, List.length_map, hle]
      refine LL.st good_E0 (fun i : Nat => l.length - i) (fun i => i ≤ l.length ∧ ∀ j, j < i → l[j]? = m[j]?)
        (fun i => [(.z, .slice k off (l.map Cell.enc).length 5 ex cap), ((.o .z), .slice k2 off2 (m.map Cell.enc).length 5 ex2 cap2), ((.o (.i .z)), .int .i64 i)])
        (fun i => []) ?_ 0 (σ := []) (Wk.mk' rfl (by decide) (by simp only [go_sem, List.length_map, hrho, hrho2]) (by simp only [go_sem, List.length_map, hrho, hrho2])) ⟨by omega, by simp⟩
      rintro i ⟨hi, hno⟩
      by_cases hlt : i < l.length
      · obtain ⟨kk, r, ex', cap', wr, rows, hv, hk, hg, _, hat⟩ := hA.pick (j := i) (by simpa using hlt)
        have hrow := hat i (by simpa using hlt)
        have hgo := Heap.get_ext_old hok hg
        have hw := wrap_succ (n := i) (by omega)
        have hci : (i : Int) < (l.length : Int) := by omega
        have hsi : i + 1 ≤ l.length := by omega
        have hget : l[i]? = some l[i] := List.getElem?_eq_getElem hlt
        cases hv
        obtain ⟨kk2, r2, ex2', cap2', wr2, rows2, hv2, hk2, hg2, _, hat2⟩ := hB.pick (j := i) (by simpa [hlen] using hlt)
        have hrow2 := hat2 i (by simpa [hlen] using hlt)
        have hgo2 := Heap.get_ext_old hok hg2
        have hci2 : (i : Int) < (m.length : Int) := by omega
        have hsi2 : i + 1 ≤ m.length := by omega
        have hget2 : m[i]? = some m[i] := List.getElem?_eq_getElem (by omega)
        cases hv2
        have hbad : ¬ l[i] = m[i] → ¬ l = m := fun h e => h (Option.some.inj (by rw [← hget, ← hget2, e]))
        simp only [go_sem, List.length_map, hw, hgo, hrow, hci, hsi, List.getElem?_eq_getElem hlt, Cell.enc, hrow2, hgo2, hci2, hsi2, hget2]
        have hex : l[i] = m[i] ↔ l[i].key = m[i].key ∧ l[i].value = m[i].value ∧ l[i].ver = m[i].ver ∧ l[i].del = m[i].del ∧ l[i].floor = m[i].floor := by
          cases l[i]; cases m[i]; simp
        refine ⟨fun a1 => ⟨fun a2 => ⟨fun a3 => ⟨fun a4 => ⟨fun a5 => ?_, fun h => ⟨bool_f (hbad fun e => h (hex.1 e).2.2.2.2), _, rfl⟩⟩, fun h => ⟨bool_f (hbad fun e => h (hex.1 e).2.2.2.1), _, rfl⟩⟩, fun h => ⟨bool_f (hbad fun e => h (hex.1 e).2.2.1), _, rfl⟩⟩, fun h => ⟨bool_f (hbad fun e => h (hex.1 e).2.1), _, rfl⟩⟩, fun h => ⟨bool_f (hbad fun e => h (hex.1 e).1), _, rfl⟩⟩
        refine ⟨i + 1, by show l.length - (i + 1) < l.length - i; omega, ?_, _, [], rfl, Wk.mk' rfl (by decide) (by simp only [go_sem, hrho, List.length_map, hrho2]) (by simp only [go_sem, hrho, List.length_map, hrho2])⟩
        refine ⟨by omega, fun j hj => ?_⟩
        rcases Nat.lt_or_ge j i with g | g
        · exact hno j g
        · obtain rfl : j = i := by omega
          rw [hget, hget2, hex.2 ⟨a1, a2, a3, a4, a5⟩]
      · have hci : ¬ (i : Int) < (l.length : Int) := by omega
        simp only [go_sem, List.length_map, hci]
        refine ⟨bool_t (List.ext_getElem? fun j => ?_), _, rfl⟩
        rcases Nat.lt_or_ge j l.length with g | g
        · exact hno j (by omega)
        · rw [List.getElem?_eq_none g, List.getElem?_eq_none (by omega)]
    · have hne : ¬ (l.length : Int) = (m.length : Int) := by omega
      skip
      skip
      simp only [go_sem, C53, List.length_map, hne]
      exact ⟨bool_f fun h => hlen (by rw [h]), _, rfl⟩
theorem f99_ok {a : An} (h : a.ok H) : FnOk Tryz.prog 99 [.agg a.enc] H fun r G => r = .bool (decide (isAns a)) ∧ G = H := by
  refine FnOk.assume fun hok => ?_
  refine FnOk.drop (R := fun r => r = .bool (decide (isAns a))) ?_ (by rintro v rfl ρ; rw [AV.ren])
  refine FnOk.of_WW Tryz.func99 rfl C99ok R99ok E0 good_E0 ?_
  obtain ⟨code, val, ver, l, v⟩ := a
  obtain ⟨hA, hl⟩ := h
  simp only at hA hl
  have hlen := fun G => hA.len G
  simp only [List.length_map] at hlen
  have hren := hA.ren
  simp only [go_sem, C99, An.enc, hlen]
  refine LL.st good_E0 (fun i : Nat => l.length - i) (fun i => i ≤ l.length ∧ ∀ j d, j < i → l[j]? = some d → ¬ badR d)
    (fun i => [((.o .z), .ptr (H.key 0) 0), ((.o (.o .z)), .int .i64 i)]) (fun i => [.row true 4 [[.int .i64 code, .str val, .int .i64 ver, v]]]) ?_ 0 (σ := [0]) (Wk.of rfl (by decide) (by simp only [go_sem, hren]) (by simp only [go_sem, hren])) ⟨Nat.zero_le _, fun j d h => absurd h (Nat.not_lt_zero _)⟩
  rintro i ⟨hi, hno⟩
  by_cases hlt : i < l.length
  · obtain ⟨kk, r, ex', cap', wr, rows, hv, hrho, hgo, hrow⟩ := hA.at hok (j := i) (by rw [List.length_map]; exact hlt); simp only [List.length_map, List.getElem_map] at hv hrow; cases hv; have hget : l[i]? = some l[i] := List.getElem?_eq_getElem hlt; generalize l[i] = c at hrow hget; have hw := wrap_succ (n := i) (by omega); have hci : (i : Int) < (l.length : Int) := (by omega); have hsi : i + 1 ≤ l.length := (by omega)
    have hbad : badR c → AV.bool false = .bool (decide (isAns ⟨code, val, ver, l, .slice kk (r * 3) l.length 3 ex' cap'⟩)) := fun g => bool_f fun e => e.2.2 ⟨c, List.mem_of_getElem? hget, g⟩
    simp only [go_sem, hci, hsi, hgo, hrow, hw, hlen, Rw.enc]
    refine ⟨fun g => ⟨hbad (.inl g), _, rfl⟩, fun g1 => ⟨fun g => ⟨hbad (.inr (.inl g)), _, rfl⟩, fun g2 => ⟨fun g => ⟨hbad (.inr (.inr (.inl g))), _, rfl⟩, fun g3 => ⟨fun g => ⟨hbad (.inr (.inr (.inr g))), _, rfl⟩, fun g4 => ?_⟩⟩⟩⟩
    refine ⟨i + 1, by show l.length - (i + 1) < l.length - i; omega, ⟨by omega, fun j d hj hd => ?_⟩, _, [0], rfl, Wk.of rfl (by decide) (by simp only [go_sem, hren, hrho, hw]) (by simp only [go_sem, hren, hrho])⟩
    rcases Nat.lt_or_ge j i with h | h
    · exact hno j d h hd
    · obtain rfl : j = i := by omega
      rw [hget] at hd; cases hd
      rintro (h | h | h | h)
      · exact g1 h
      · exact g2 h
      · exact g3 h
      · exact g4 h
  · have hci : ¬ (i : Int) < (l.length : Int) := by omega
    have hnb : ¬ anyBad l := by
      rintro ⟨d, hd, hb⟩
      obtain ⟨j, hj⟩ := List.mem_iff_getElem?.1 hd
      exact absurd hb (hno j d (by have := (List.getElem?_eq_some_iff.1 hj).1; omega) hj)
    simp only [go_sem, hci, hlen]
    refine ⟨fun g1 => ⟨fun g2 => ⟨fun g3 => ⟨fun g4 => ⟨fun g5 => ⟨fun g6 => ⟨bool_t ⟨⟨g1, g2, g3, g4, g5⟩, g6, hnb⟩, _, rfl⟩, fun g => ⟨bool_f fun e => g e.2.1, _, rfl⟩⟩, fun g => ⟨bool_f fun e => g e.1.2.2.2.2, _, rfl⟩⟩, fun g => ⟨bool_f fun e => g e.1.2.2.2.1, _, rfl⟩⟩, fun g => ⟨bool_f fun e => g e.1.2.2.1, _, rfl⟩⟩, fun g => ⟨bool_f fun e => g e.1.2.1, _, rfl⟩⟩, fun g => ⟨bool_f fun e => g e.1.1, _, rfl⟩⟩
theorem f105_ok {a b : An} (ha : a.ok H) (hb : b.ok H) : FnOk Tryz.prog 105 [.agg a.enc, .agg b.enc] H fun r G => r = .bool (decide (sameA a b)) ∧ G = H := by
  refine FnOk.assume fun hok => ?_
  refine FnOk.drop (R := fun r => r = .bool (decide (sameA a b))) ?_ (by rintro v rfl ρ; rw [AV.ren])
  refine FnOk.of_WW Tryz.func105 rfl C105ok R105ok E0 good_E0 ?_
  obtain ⟨code, val, ver, l, v⟩ := a
  obtain ⟨code2, val2, ver2, m, w⟩ := b
  obtain ⟨hA, hl⟩ := ha
  obtain ⟨hB, hm⟩ := hb
  simp only at hA hl hB hm
  have hlen := fun G => hA.len G; simp only [List.length_map] at hlen; have hren := hA.ren
  have hlen2 := fun G => hB.len G
  simp only [List.length_map] at hlen2
  have hren2 := hB.ren
  simp only [go_sem, C105, An.enc, hlen, hlen2]
  refine ⟨fun g => ⟨bool_f fun e => g e.1, _, rfl⟩, fun g1 => ⟨fun g => ⟨bool_f fun e => g e.2.1, _, rfl⟩, fun g2 => ⟨fun g => ⟨bool_f fun e => g e.2.2.1, _, rfl⟩, fun g3 => ⟨fun g => ⟨bool_f fun e => g (by rw [show l = m from e.2.2.2]), _, rfl⟩, fun g4 => ?_⟩⟩⟩⟩
  have g1 := Classical.not_not.1 g1
  have g2 := Classical.not_not.1 g2
  have g3 := Classical.not_not.1 g3
  have hlm : l.length = m.length := by omega
  subst g1 g2 g3
  refine LL.st good_E0 (fun i : Nat => l.length - i) (fun i => i ≤ l.length ∧ ∀ j, j < i → l[j]? = m[j]?)
    (fun i => [((.i .z), .ptr (H.key 0) 0), ((.o (.o .z)), .ptr (H.key 1) 0), ((.o (.i .z)), .int .i64 i)]) (fun i => [.row true 4 [[.int .i64 code, .str val, .int .i64 ver, v]], .row true 4 [[.int .i64 code, .str val, .int .i64 ver, w]]]) ?_ 0 (σ := [0, 1]) (Wk.of rfl (by decide) (by simp only [go_sem, hren, hren2]) (by simp only [go_sem, hren, hren2])) ⟨Nat.zero_le _, fun j h => absurd h (Nat.not_lt_zero _)⟩
  rintro i ⟨hi, hno⟩
  by_cases hlt : i < l.length
  · obtain ⟨kk2, r2, ex2, cap2, wr2, rows2, hv2, hrho2, hgo2, hrow2⟩ := hB.at hok (j := i) (by rw [List.length_map]; omega)
    simp only [List.length_map, List.getElem_map] at hv2 hrow2
    have hget2 : m[i]? = some (m[i]'(by omega)) := List.getElem?_eq_getElem (by omega)
    generalize m[i]'(by omega) = d at hrow2 hget2
    obtain ⟨kk, r, ex', cap', wr, rows, hv, hrho, hgo, hrow⟩ := hA.at hok (j := i) (by rw [List.length_map]; exact hlt); simp only [List.length_map, List.getElem_map] at hv hrow; cases hv; have hget : l[i]? = some l[i] := List.getElem?_eq_getElem hlt; generalize l[i] = c at hrow hget; have hw := wrap_succ (n := i) (by omega); have hci : (i : Int) < (l.length : Int) := (by omega); have hsi : i + 1 ≤ l.length := (by omega)
    subst hv2
    have hsi2 : i + 1 ≤ m.length := by omega
    simp only [go_sem, hlen, hlen2, hci, hsi, hsi2, hgo, hgo2, hrow, hrow2, hw, Rw.enc]
    have hbad : ¬ c = d → ∀ v w, AV.bool false = .bool (decide (sameA ⟨code, val, ver, l, v⟩ ⟨code, val, ver, m, w⟩)) := fun h v w => bool_f fun e => h (by rw [show l = m from e.2.2.2, hget2] at hget; exact (Option.some.inj hget).symm)
    refine ⟨fun g1 => ⟨fun g2 => ⟨fun g3 => ?_, fun g => ⟨hbad (fun e => g (by rw [e])) _ _, _, rfl⟩⟩, fun g => ⟨hbad (fun e => g (by rw [e])) _ _, _, rfl⟩⟩, fun g => ⟨hbad (fun e => g (by rw [e])) _ _, _, rfl⟩⟩
    refine ⟨i + 1, by show l.length - (i + 1) < l.length - i; omega, ⟨by omega, fun j hj => ?_⟩, _, [0, 1], rfl, Wk.of rfl (by decide) (by simp only [go_sem, hrho, hrho2]) (by simp only [go_sem, hrho, hrho2])⟩
    rcases Nat.lt_or_ge j i with h | h
    · exact hno j h
    · obtain rfl : j = i := by omega
      rw [hget, hget2, Rw.enc_inj ⟨g1, g2, g3⟩]
  · have hci : ¬ (i : Int) < (l.length : Int) := by omega
    simp only [go_sem, hci, hlen]
    refine ⟨bool_t ⟨rfl, rfl, rfl, List.ext_getElem? fun j => ?_⟩, _, rfl⟩
    rcases Nat.lt_or_ge j l.length with h | h
    · exact hno j (by omega)
    · show l[j]? = m[j]?
      rw [List.getElem?_eq_none h, List.getElem?_eq_none (by omega)]
noncomputable def EO2 : FuncId → List AV → Heap → RC
  | 99, [.agg [.int .i64 c, .str s, .int .i64 n, v]], H => match rwsOf H v with | some l => .ok (.bool (decide (isAns ⟨c, s, n, l, v⟩))) H | none => .fail
  | 105, [.agg [.int .i64 c, .str s, .int .i64 n, v], .agg [.int .i64 c2, .str s2, .int .i64 n2, v2]], H => match rwsOf H v with | some l => (match rwsOf H v2 with | some l2 => .ok (.bool (decide (sameA ⟨c, s, n, l, v⟩ ⟨c2, s2, n2, l2, v2⟩))) H | none => .fail) | none => .fail
  | _, _, _ => .fail
theorem good_EO2 : Ev.Good Tryz.prog EO2 := by
  intro f args H r G he φ w args' ha hw
  refine (?_ : FnOk Tryz.prog f args H fun v' G' => v' = r ∧ G' = G).one φ w args' ha hw
  unfold EO2 at he
  split at he
  · split at he
    · rename_i hl
      cases he
      exact f99_ok (a := ⟨_, _, _, _, _⟩) (rwsOf_spec hl)
    · cases he
  · split at he
    · rename_i hl
      split at he
      · rename_i hl2
        cases he
        exact f105_ok (a := ⟨_, _, _, _, _⟩) (b := ⟨_, _, _, _, _⟩) (rwsOf_spec hl) (rwsOf_spec hl2)
      · cases he
    · cases he
  · cases he
theorem e54 {a : An} (h : a.ok H) : EO2 99 [.agg [.int .i64 a.code, .str a.val, .int .i64 a.ver, a.rv]] H = .ok (.bool (decide (isAns a))) H := by
  show (match rwsOf H a.rv with | some l => RC.ok (.bool (decide (isAns ⟨a.code, a.val, a.ver, l, a.rv⟩))) H | none => .fail) = _
  rw [rwsOf_eq h.1 h.2]
theorem e31 {a b : An} (h : a.ok H) (g : b.ok H) : EO2 105 [.agg [.int .i64 a.code, .str a.val, .int .i64 a.ver, a.rv], .agg [.int .i64 b.code, .str b.val, .int .i64 b.ver, b.rv]] H = .ok (.bool (decide (sameA a b))) H := by
  show (match rwsOf H a.rv with | some l => (match rwsOf H b.rv with | some l2 => RC.ok (.bool (decide (sameA ⟨a.code, a.val, a.ver, l, a.rv⟩ ⟨b.code, b.val, b.ver, l2, b.rv⟩))) H | none => .fail) | none => .fail) = _
  rw [rwsOf_eq h.1 h.2, rwsOf_eq g.1 g.2]
theorem f55_ok {v w : AV} {l m : List Dn} (hA : Arr H 6 v (l.map Dn.enc)) (hB : Arr H 6 w (m.map Dn.enc)) (ha : allOk H l) (hb : allOk H m) (hl : l.length < 9223372036854775807) :
    FnOk Tryz.prog 55 [v, w] H fun r G => r = .bool (decide (sameD l m)) ∧ G = H := by
  refine FnOk.assume fun hok => ?_
  refine FnOk.drop (R := fun r => r = .bool (decide (sameD l m))) ?_ (by rintro v rfl ρ; rw [AV.ren])
  refine FnOk.of_WW Tryz.func55 rfl C55ok R55ok EO2 good_EO2 ?_
  have hlen := fun G => hA.len G; simp only [List.length_map] at hlen; have hren := hA.ren
  have hlen2 := fun G => hB.len G
  simp only [List.length_map] at hlen2
  have hren2 := hB.ren
  simp only [go_sem, C55, hlen, hlen2]
  refine ⟨fun h => ⟨bool_f fun e => h (by rw [e.1]), _, rfl⟩, fun h => ?_⟩
  have hlm : l.length = m.length := by have := Classical.not_not.1 h; omega
  refine LL.st good_EO2 (fun i : Nat => l.length - i) (fun i => i ≤ l.length ∧ ∀ (j : Nat) (c d : Dn), j < i → l[j]? = some c → m[j]? = some d → sameDn c d)
    (fun i => [(.z, v), ((.o .z), w), ((.o (.i .z)), .int .i64 i)]) (fun i => []) ?_ 0 (σ := []) (Wk.of rfl (by decide) (by simp only [go_sem, hren, hren2]) (by simp only [go_sem])) ⟨Nat.zero_le _, fun j c d h => absurd h (Nat.not_lt_zero _)⟩
  rintro i ⟨hi, hno⟩
  by_cases hlt : i < l.length
  · obtain ⟨kk2, r2, ex2, cap2, wr2, rows2, hv2, hrho2, hgo2, hrow2⟩ := hB.at hok (j := i) (by rw [List.length_map]; omega)
    simp only [List.length_map, List.getElem_map] at hv2 hrow2
    have hget2 : m[i]? = some (m[i]'(by omega)) := List.getElem?_eq_getElem (by omega)
    generalize m[i]'(by omega) = d at hrow2 hget2
    obtain ⟨kk, r, ex', cap', wr, rows, hv, hrho, hgo, hrow⟩ := hA.at hok (j := i) (by rw [List.length_map]; exact hlt); simp only [List.length_map, List.getElem_map] at hv hrow; cases hv; have hget : l[i]? = some l[i] := List.getElem?_eq_getElem hlt; generalize l[i] = c at hrow hget; have hw := wrap_succ (n := i) (by omega); have hci : (i : Int) < (l.length : Int) := (by omega); have hsi : i + 1 ≤ l.length := (by omega)
    subst hv2
    have hsi2 : i + 1 ≤ m.length := by omega
    have hco := ha c (List.mem_of_getElem? hget)
    have hdo := hb d (List.mem_of_getElem? hget2)
    have he := fun L => e31 (hco.ext L) (hdo.ext L)
    simp only [go_sem, off6, hlen, hlen2, hci, hsi, hsi2, hgo, hgo2, hrow, hrow2, hw, Dn.enc, he]
    have hbad : ¬ sameDn c d → AV.bool false = .bool (decide (sameD l m)) := fun h => bool_f fun e => h (e.2 i c d hget hget2)
    refine ⟨fun g => ⟨hbad fun e => g e.1, _, rfl⟩, fun g1 => ⟨fun g => ⟨hbad fun e => g e.2.1, _, rfl⟩, fun g2 => ⟨fun g3 => ?_, fun g => ⟨hbad fun e => g e.2.2, _, rfl⟩⟩⟩⟩
    refine ⟨i + 1, by show l.length - (i + 1) < l.length - i; omega, ⟨by omega, fun j c' d' hj hc hd => ?_⟩, _, [], rfl, Wk.of rfl (by decide) (by simp only [go_sem, hrho, hrho2]) (by simp only [go_sem])⟩
    rcases Nat.lt_or_ge j i with h | h
    · exact hno j c' d' h hc hd
    · obtain rfl : j = i := by omega
      rw [hget] at hc; rw [hget2] at hd; cases hc; cases hd
      exact ⟨Classical.not_not.1 g1, Classical.not_not.1 g2, g3⟩
  · have hci : ¬ (i : Int) < (l.length : Int) := by omega
    simp only [go_sem, hci, hlen]
    refine ⟨bool_t ⟨hlm, fun j c d hc hd => hno j c d (by have := (List.getElem?_eq_some_iff.1 hc).1; omega) hc hd⟩, _, rfl⟩
theorem f63_ok {v : AV} {l : List Dn} (hA : Arr H 6 v (l.map Dn.enc)) (ha : allOk H l) (hl : l.length < 9223372036854775807) :
    FnOk Tryz.prog 63 [v] H fun r G => r = .bool (decide (isDone l)) ∧ G = H := by
  refine FnOk.assume fun hok => ?_
  refine FnOk.drop (R := fun r => r = .bool (decide (isDone l))) ?_ (by rintro v rfl ρ; rw [AV.ren])
  refine FnOk.of_WW Tryz.func63 rfl C63ok R63ok EO2 good_EO2 ?_
  have hlen := fun G => hA.len G; simp only [List.length_map] at hlen; have hren := hA.ren
  simp only [go_sem, C63, hlen]
  refine LL.st good_EO2 (fun i : Nat => l.length - i) (fun i => i ≤ l.length ∧ ∀ j, j < i → okDt l j)
    (fun i => [(.z, v), ((.o (.o .z)), .int .i64 i)]) (fun i => []) ?_ 0 (σ := []) (Wk.of rfl (by decide) (by simp only [go_sem, hren]) (by simp only [go_sem])) ⟨Nat.zero_le _, fun j h => absurd h (Nat.not_lt_zero _)⟩
  rintro i ⟨hi, hno⟩
  by_cases hlt : i < l.length
  · obtain ⟨kk, r, ex', cap', wr, rows, hv, hrho, hgo, hrow⟩ := hA.at hok (j := i) (by rw [List.length_map]; exact hlt); simp only [List.length_map, List.getElem_map] at hv hrow; cases hv; have hget : l[i]? = some l[i] := List.getElem?_eq_getElem hlt; generalize l[i] = c at hrow hget; have hw := wrap_succ (n := i) (by omega); have hci : (i : Int) < (l.length : Int) := (by omega); have hsi : i + 1 ≤ l.length := (by omega)
    have hco := ha c (List.mem_of_getElem? hget)
    have he := fun L => e54 (hco.ext L)
    have hbad : ¬ okDt l i → AV.bool false = .bool (decide (isDone l)) := fun h => bool_f fun g => h (g i hlt)
    have hb1 : ¬ okD c → ¬ okDt l i := fun g ⟨c', h1, h2, _⟩ => by rw [hget] at h1; cases h1; exact g h2
    rcases i with _ | i
    · have hrow0 : rows[r]? = some c.enc := hrow
      have hci0 : (0 : Int) < (l.length : Int) := hci
      have hsi0 : 1 ≤ l.length := hsi
      simp only [go_sem, off6, hci0, hsi0, hgo, hrow0, hlen, Dn.enc, he, Int.ofNat_zero, Int.lt_irrefl]
      refine ⟨fun g => ⟨hbad (hb1 fun e => absurd e.1.1 (by omega)), _, rfl⟩, fun g1 => ⟨fun g => ⟨hbad (hb1 fun e => absurd e.1.2.1 (by omega)), _, rfl⟩, fun g2 => ⟨fun g => ⟨hbad (hb1 fun e => absurd e.1.2.2.1 (by omega)), _, rfl⟩, fun g3 => ⟨fun g => ⟨hbad (hb1 fun e => absurd e.1.2.2.2 (by omega)), _, rfl⟩, fun g4 => ⟨fun g5 => ?_, fun g => ⟨hbad (hb1 fun e => g e.2), _, rfl⟩⟩⟩⟩⟩⟩
      refine ⟨0 + 1, by show l.length - (0 + 1) < l.length - 0; omega, ⟨by omega, fun j hj => ?_⟩, _, [], rfl, Wk.of rfl (by decide) (by simp only [go_sem, hren, hrho, hw, wrap01]) (by simp only [go_sem])⟩
      obtain rfl : j = 0 := by omega
      exact ⟨c, hget, ⟨⟨by omega, by omega, by omega, by omega⟩, g5⟩, fun h => absurd h (by decide)⟩
    · have hpos : (0 : Int) < ((i + 1 : Nat) : Int) := by omega
      have hp : IntKind.i64.wrap (((i + 1 : Nat) : Int) - 1) = (i : Int) := by rw [wrap_i64 (by omega) (by omega)]; omega
      have hltj : i < l.length := by omega
      obtain ⟨kk2, r2, ex2, cap2, wr2, rows2, hv2, _, hgo2, hrow2⟩ := hA.at hok (j := i) (by rw [List.length_map]; exact hltj); simp only [List.length_map, List.getElem_map] at hv2 hrow2; have hgetd : l[i]? = some l[i] := List.getElem?_eq_getElem hltj; generalize l[i] = d at hrow2 hgetd; injection hv2 with e1 e2 e3 e4 e5 e6; have e2' : r2 = r := (by omega); subst e1 e2'; have hrr := hgo2 []; rw [hgo []] at hrr; cases hrr
      have hsj : i + 1 ≤ l.length := by omega
      have hi0 : (0 : Int) ≤ (i : Int) := by omega
      simp only [go_sem, off6, hci, hsi, hgo, hrow, hrow2, hw, hlen, Dn.enc, he, hpos, hp, hi0, hsj]
      refine ⟨fun g => ⟨hbad (hb1 fun e => absurd e.1.1 (by omega)), _, rfl⟩, fun g1 => ⟨fun g => ⟨hbad (hb1 fun e => absurd e.1.2.1 (by omega)), _, rfl⟩, fun g2 => ⟨fun g => ⟨hbad (hb1 fun e => absurd e.1.2.2.1 (by omega)), _, rfl⟩, fun g3 => ⟨fun g => ⟨hbad (hb1 fun e => absurd e.1.2.2.2 (by omega)), _, rfl⟩, fun g4 => ⟨fun g5 => ⟨fun g6 => ⟨hbad ?_, _, rfl⟩, fun g6 => ?_⟩, fun g => ⟨hbad (hb1 fun e => g e.2), _, rfl⟩⟩⟩⟩⟩⟩
      · rintro ⟨c', h1, _, h2⟩
        obtain ⟨d', h3, h4⟩ := h2 (by omega)
        rw [hget] at h1; cases h1
        rw [Nat.add_sub_cancel, hgetd] at h3; cases h3
        omega
      · refine ⟨i + 1 + 1, by show l.length - (i + 1 + 1) < l.length - (i + 1); omega, ⟨by omega, fun j hj => ?_⟩, _, [], rfl, Wk.of rfl (by decide) (by simp only [go_sem, hren, hrho, hw, wrap01]) (by simp only [go_sem])⟩
        rcases Nat.lt_or_ge j (i + 1) with h | h
        · exact hno j h
        · obtain rfl : j = i + 1 := by omega
          exact ⟨c, hget, ⟨⟨by omega, by omega, by omega, by omega⟩, g5⟩, fun _ => ⟨d, by rw [Nat.add_sub_cancel]; exact hgetd, by omega⟩⟩
  · have hci : ¬ (i : Int) < (l.length : Int) := by omega
    simp only [go_sem, hci, hlen]
    exact ⟨bool_t fun j hj => hno j (by omega), _, rfl⟩
theorem f110_ok (e : Evn) : FnOk Tryz.prog 110 [.agg e.enc] H fun r G => r = .bool (decide (isEv e)) ∧ G = H := by
  refine FnOk.drop (R := fun r => r = .bool (decide (isEv e))) ?_ (by rintro v rfl ρ; rw [AV.ren])
  refine FnOk.of_WW Tryz.func110 rfl C110ok R110ok E0 good_E0 ?_
  simp only [go_sem, C110, Evn.enc]
  refine CL.one (f151_ok ⟨e.key, e.val, e.ver, e.del, 0⟩) ?_
  simp only [go_sem]
  have hz : cellIs ⟨e.key, e.val, e.ver, e.del, 0⟩ ↔ isEv e := ⟨fun h => h.1, fun h => ⟨h, Int.le_refl _, by have := h.2.2.2.1; show (0 : Int) ≤ e.ver; omega⟩⟩
  exact ⟨fun g => ⟨bool_t (hz.1 g), _, rfl⟩, fun g => ⟨bool_f fun h => g (hz.2 h), _, rfl⟩⟩
theorem f62_ok {v u : AV} {l : List Evn} {cs : List Cell} (hA : Arr H 4 v (l.map Evn.enc)) (hB : Arr H 5 u (cs.map Cell.enc)) (hl : l.length < 4294967296) (hc : cs.length < 4294967296) :
    FnOk Tryz.prog 62 [v, u] H fun r G => r = .bool (decide (isHist l cs)) ∧ G = H := by
  refine FnOk.assume fun hok => ?_
  refine FnOk.drop (R := fun r => r = .bool (decide (isHist l cs))) ?_ (by rintro v rfl ρ; rw [AV.ren])
  refine FnOk.of_WW Tryz.func62 rfl C62ok R62ok E0 good_E0 ?_
  have hlen := fun G => hA.len G; simp only [List.length_map] at hlen; have hren := hA.ren
  have hren2 := hB.ren
  have hlen2 := fun G => hB.len G
  simp only [List.length_map] at hlen2
  simp only [go_sem, C62]
  refine CL.bool (f108_ok (hB.ext _) hc) (fun g1 => ?_) (fun g1 => ?_)
  rotate_left
  · simp only [go_sem]
    exact ⟨bool_f fun h => g1 h.1, _, rfl⟩
  simp only [go_sem, hlen]
  refine LL.st good_E0 (fun i : Nat => l.length - i) (fun i => i ≤ l.length ∧ ∀ j d, j < i → l[j]? = some d → (getL cs d.key).2 = true ∧ isEv d)
    (fun i => [(.z, v), ((.o .z), u), ((.o (.i .z)), .int .i64 i)]) (fun i => []) ?_ 0 (σ := []) (Wk.of rfl (by decide) (by simp only [go_sem, hren, hren2]) (by simp only [go_sem, hren])) ⟨Nat.zero_le _, fun j d h => absurd h (Nat.not_lt_zero _)⟩
  rintro i ⟨hi, hno⟩
  by_cases hlt : i < l.length
  · obtain ⟨kk, r, ex', cap', wr, rows, hv, hrho, hgo, hrow⟩ := hA.at hok (j := i) (by rw [List.length_map]; exact hlt); simp only [List.length_map, List.getElem_map] at hv hrow; cases hv; have hget : l[i]? = some l[i] := List.getElem?_eq_getElem hlt; generalize l[i] = e at hrow hget; have hw := wrap_succ (n := i) (by omega); have hci : (i : Int) < (l.length : Int) := (by omega); have hsi : i + 1 ≤ l.length := (by omega)
    have hbad : ¬ ((getL cs e.key).2 = true ∧ isEv e) → AV.bool false = .bool (decide (isHist l cs)) := fun h => bool_f fun g => h (g.2.1 e (List.mem_of_getElem? hget))
    simp only [go_sem, hci, hsi, hgo, hrow, hw, hlen, Evn.enc]
    refine CL.of (f109_ok (hB.ext _) hc e.key) ?_
    rintro _ G' ⟨rfl, hG⟩
    rw [hG]
    clear hG
    generalize hq : getL cs e.key = q at *
    obtain ⟨q, b⟩ := q
    cases b
    · simp only [go_sem, Cell.enc]
      exact ⟨hbad fun h => (by cases h.1), _, rfl⟩
    · simp only [go_sem, Cell.enc, hsi, hgo, hrow, Evn.enc]
      refine CL.bool (f110_ok e) (fun g => ?_) (fun g => ?_)
      · simp only [go_sem]
        refine ⟨i + 1, by show l.length - (i + 1) < l.length - i; omega, ⟨by omega, fun j d hj hd => ?_⟩, _, [], rfl, Wk.of rfl (by decide) (by simp only [go_sem, hren2, hrho, hw]) (by simp only [go_sem, hrho])⟩
        rcases Nat.lt_or_ge j i with h | h
        · exact hno j d h hd
        · obtain rfl : j = i := by omega
          rw [hget] at hd; cases hd; exact ⟨by rw [hq], g⟩
      · simp only [go_sem]
        exact ⟨hbad fun h => g h.2, _, rfl⟩
  · have hci : ¬ (i : Int) < (l.length : Int) := by omega
    have hall : ∀ e ∈ l, (getL cs e.key).2 = true ∧ isEv e := fun e he => by
      obtain ⟨j, hj⟩ := List.mem_iff_getElem?.1 he
      exact hno j e (by have := (List.getElem?_eq_some_iff.1 hj).1; omega) hj
    simp only [go_sem, hlen, hci]
    clear hlt hci hno hi
    refine LL.st good_E0 (fun i : Nat => cs.length - i) (fun i => i ≤ cs.length ∧ ∀ j d, j < i → cs[j]? = some d → ofH l d)
      (fun i => [(.z, v), ((.o .z), u), ((.i (.o (.o .z))), .int .i64 i)]) (fun i => []) ?_ 0 (σ := []) (Wk.of rfl (by decide) (by simp only [go_sem, hren, hren2]) (by simp only [go_sem, hren])) ⟨Nat.zero_le _, fun j d h => absurd h (Nat.not_lt_zero _)⟩
    rintro m ⟨hm, hno⟩
    by_cases hlt : m < cs.length
    · obtain ⟨kk, r, ex', cap', wr, rows, hv, hrho, hgo, hrow⟩ := hB.at hok (j := m) (by rw [List.length_map]; exact hlt)
      simp only [List.length_map, List.getElem_map] at hv hrow
      cases hv
      have hget : cs[m]? = some cs[m] := List.getElem?_eq_getElem hlt
      have hfl := (g1.cell (List.getElem_mem hlt)).floor
      generalize cs[m] = c at hrow hget hfl
      have hwm := wrap_succ (n := m) (by omega)
      have hci : (m : Int) < (cs.length : Int) := (by omega)
      have hsi : m + 1 ≤ cs.length := (by omega)
      have hbad : ¬ ofH l c → AV.bool false = .bool (decide (isHist l cs)) := fun h => bool_f fun g => h (g.2.2 c (List.mem_of_getElem? hget))
      simp only [go_sem, hlen2, hci, hsi, hgo, hrow, Cell.enc]
      refine LL.st good_E0 (fun s : Nat × Int => l.length - s.1) (fun s => s.1 ≤ l.length ∧ (0 ≤ s.2 ∧ s.2 ≤ 1000000000000 + s.1) ∧ runR c l c.floor = runR c (l.drop s.1) s.2)
        (fun s => [(.z, v), ((.o .z), .slice kk (r * 5) cs.length 5 ex' cap'), ((.i (.o (.o .z))), .int .i64 m), ((.o (.i (.o .z))), .ptr (H.key 0) 0), ((.i (.i (.o .z))), .int .i64 s.2), ((.o (.o (.i .z))), .int .i64 s.1)]) (fun s => [.row true 5 [[.str c.key, .str c.value, .int .i64 c.ver, .bool c.del, .int .i64 c.floor]]]) ?_ (0, c.floor) (σ := [0]) (Wk.of rfl (by decide) (by simp only [go_sem, hren, hrho]) (by simp only [go_sem])) ⟨Nat.zero_le _, ⟨hfl.1, by show c.floor ≤ 1000000000000 + ((0 : Nat) : Int); omega⟩, rfl⟩
      rintro ⟨i, v'⟩ ⟨hi, hat, hrun⟩
      simp only at hi hat hrun
      have hren3 := hren
      by_cases hlt : i < l.length
      · obtain ⟨kk2, r2, ex2, cap2, wr2, rows2, hv2, hrho2, hgo2, hrow2⟩ := hA.at hok (j := i) (by rw [List.length_map]; exact hlt)
        simp only [List.length_map, List.getElem_map] at hv2 hrow2
        have hget2 : l[i]? = some l[i] := List.getElem?_eq_getElem hlt
        generalize l[i] = e at hrow2 hget2
        subst hv2
        have hw := wrap_succ (n := i) (by omega)
        have hci2 : (i : Int) < (l.length : Int) := (by omega)
        have hsi2 : i + 1 ≤ l.length := (by omega)
        rw [drop_at hget2, runR] at hrun
        have hw2 : IntKind.i64.wrap (v' + 1) = v' + 1 := wrap_i64 (by omega) (by omega)
        simp only [go_sem, hlen, hci2, hsi2, hgo2, hrow2, hw, hw2, Evn.enc]
        have hno' : runR c l c.floor = none → AV.bool false = .bool (decide (isHist l cs)) := fun h => hbad fun g => by rw [ofH_iff, h] at g; cases g
        have hnext : ∀ w, (0 ≤ w ∧ w ≤ 1000000000000 + ((i + 1 : Nat) : Int)) → runR c l c.floor = runR c (l.drop (i + 1)) w → (i + 1 ≤ l.length ∧ (0 ≤ w ∧ w ≤ 1000000000000 + ((i + 1 : Nat) : Int)) ∧ runR c l c.floor = runR c (l.drop (i + 1)) w) := fun w h1 h2 => ⟨by omega, h1, h2⟩
        refine ⟨fun g => ?_, fun g => ⟨fun g2 => ?_, fun g2 => ?_⟩⟩
        · rw [if_neg g] at hrun
          exact ⟨(i + 1, v'), by show l.length - (i + 1) < l.length - i; omega, hnext v' (by omega) hrun, _, [0], rfl, Wk.of rfl (by decide) (by simp only [go_sem, hrho, hrho2, hw]) (by simp only [go_sem])⟩
        · rw [if_pos (Classical.not_not.1 g), if_neg fun h => g2 h.1] at hrun
          exact ⟨hno' hrun, _, rfl⟩
        · rw [if_pos (Classical.not_not.1 g)] at hrun
          have hk := Classical.not_not.1 g2
          refine ⟨fun g3 => ⟨fun g4 => ?_, fun g4 => ⟨fun g5 => ?_, fun g5 => ?_⟩⟩, fun g3 => ?_⟩
          · rw [if_neg fun h => g4 (h.2 g3).1] at hrun
            exact ⟨hno' hrun, _, rfl⟩
          · rw [if_neg fun h => g5 (h.2 g3).2] at hrun
            exact ⟨hno' hrun, _, rfl⟩
          · rw [if_pos ⟨hk, fun _ => ⟨Classical.not_not.1 g4, Classical.not_not.1 g5⟩⟩] at hrun
            exact ⟨(i + 1, v' + 1), by show l.length - (i + 1) < l.length - i; omega, hnext (v' + 1) (by omega) hrun, _, [0], rfl, Wk.of rfl (by decide) (by simp only [go_sem, hrho, hrho2, hw]) (by simp only [go_sem])⟩
          · rw [if_pos ⟨hk, fun h => absurd h g3⟩] at hrun
            exact ⟨(i + 1, v' + 1), by show l.length - (i + 1) < l.length - i; omega, hnext (v' + 1) (by omega) hrun, _, [0], rfl, Wk.of rfl (by decide) (by simp only [go_sem, hrho, hrho2, hw]) (by simp only [go_sem])⟩
      · have hci2 : ¬ (i : Int) < (l.length : Int) := by omega
        rw [List.drop_eq_nil_of_le (by omega), runR] at hrun
        simp only [go_sem, hlen, hci2]
        refine ⟨fun g => ⟨hbad fun h => ?_, _, rfl⟩, fun g => ?_⟩
        · rw [ofH_iff, hrun] at h; exact g (Option.some.inj h)
        · have hof : ofH l c := by rw [ofH_iff, hrun, Classical.not_not.1 g]
          refine ⟨m + 1, by show cs.length - (m + 1) < cs.length - m; omega, ⟨by omega, fun j d hj hd => ?_⟩, _, [], rfl, Wk.of rfl (by decide) (by simp only [go_sem, hren, hrho, hwm]) (by simp only [go_sem])⟩
          rcases Nat.lt_or_ge j m with h | h
          · exact hno j d h hd
          · obtain rfl : j = m := by omega
            rw [hget] at hd; cases hd; exact hof
    · have hci : ¬ (m : Int) < (cs.length : Int) := by omega
      simp only [go_sem, hlen2, hci]
      exact ⟨bool_t ⟨g1, hall, fun c hcm => by
        obtain ⟨j, hj⟩ := List.mem_iff_getElem?.1 hcm
        exact hno j c (by have := (List.getElem?_eq_some_iff.1 hj).1; omega) hj⟩, _, rfl⟩
theorem f24_ok {s : Sh} (h : s.ok H) : FnOk Tryz.prog 24 [.agg s.enc] H fun r G => r = .bool (decide (isSh s)) ∧ G = H := by
  refine FnOk.assume fun hok => ?_
  refine FnOk.drop (R := fun r => r = .bool (decide (isSh s))) ?_ (by rintro v rfl ρ; rw [AV.ren])
  refine FnOk.of_WW Tryz.func24 rfl C24ok R24ok (pureE F46) good_F46 ?_
  have hlen := fun G => h.e.len G
  simp only [List.length_map] at hlen
  have clen := fun G => h.c.len G
  simp only [List.length_map] at clen
  have hcl := h.cl
  simp only [go_sem, C24, Sh.enc]
  have hbad : ¬ isSh s → AV.bool false = .bool (decide (isSh s)) := fun g => bool_f g
  refine ⟨fun g1 => ⟨hbad fun g => absurd g.1.1 (by omega), _, rfl⟩, fun g1 => ⟨fun g2 => ⟨hbad fun g => absurd g.1.2.1 (by omega), _, rfl⟩, fun g2 => ⟨fun g3 => ⟨hbad fun g => absurd g.1.2.2.1 (by omega), _, rfl⟩, fun g3 => ⟨fun g4 => ⟨hbad fun g => absurd g.1.2.2.2 (by omega), _, rfl⟩, fun g4 => ?_⟩⟩⟩⟩
  refine CL.bool (f61_ok s.fr s.to) (fun g5 => ?_) (fun g5 => ?_)
  rotate_left
  · simp only [go_sem]
    exact ⟨hbad fun g => g5 g.2.1, _, rfl⟩
  simp only [go_sem, hlen]
  refine ⟨fun g7 => ⟨hbad fun g => absurd g.2.2.2.1 (by omega), _, rfl⟩, fun g7 => ?_⟩
  refine CL.bool (f62_ok (h.e.ext _) (h.c.ext _) h.el h.cl) (fun g8 => ?_) (fun g8 => ?_)
  rotate_left
  · simp only [go_sem]
    exact ⟨hbad fun g => g8 g.2.2.2.2.1, _, rfl⟩
  simp only [go_sem]
  refine CL.bool (f63_ok (h.d.ext _) (h.dok.ext _) (by have := h.dl; omega)) (fun g9 => ?_) (fun g9 => ?_)
  rotate_left
  · simp only [go_sem]
    exact ⟨hbad fun g => g9 g.2.2.2.2.2, _, rfl⟩
  simp only [go_sem]
  have cren := h.c.ren
  have eren := h.e.ren
  have dren := h.d.ren
  refine LL.st good_F46 (fun i : Nat => s.cells.length - i) (fun i => i ≤ s.cells.length ∧ ∀ j d, j < i → s.cells[j]? = some d → has s.fr s.to d.key)
    (fun i => [((.o .z), .ptr (H.key 0) 0), ((.o (.o .z)), .int .i64 i)]) (fun i => [.row true 8 [[.int .i64 s.id, .int .i64 s.ep, .str s.fr, .str s.to, .bool s.frz, s.cv, s.ev, s.dv]]]) ?_ 0 (σ := [0]) (Wk.of rfl (by decide) (by simp only [go_sem, cren, eren, dren]) (by simp only [go_sem, cren, eren, dren])) ⟨Nat.zero_le _, fun j d h => absurd h (Nat.not_lt_zero _)⟩
  rintro i ⟨hi, hno⟩
  by_cases hlt : i < s.cells.length
  · obtain ⟨kk, r, ex', cap', wr, rows, hv, hrho, hgo, hrow⟩ := h.c.at hok (j := i) (by rw [List.length_map]; exact hlt)
    simp only [List.length_map, List.getElem_map] at hv hrow
    have hget : s.cells[i]? = some s.cells[i] := List.getElem?_eq_getElem hlt
    generalize s.cells[i] = e at hrow hget
    have hw := wrap_succ (n := i) (by omega)
    have hci : (i : Int) < (s.cells.length : Int) := (by omega)
    have hsi : i + 1 ≤ s.cells.length := (by omega)
    simp only [go_sem, hv, hci, hsi, hgo, hrow, hw, Cell.enc, e46]
    refine ⟨fun g => ⟨i + 1, by show s.cells.length - (i + 1) < s.cells.length - i; omega, ⟨by omega, fun j d hj hd => ?_⟩, _, [0], rfl, Wk.of rfl (by decide) (by simp only [go_sem, hv, hrho, eren, dren]) (by simp only [go_sem, hv, hrho, eren, dren])⟩, fun g => ⟨hbad fun h => g (h.2.2.1 _ (List.mem_of_getElem? hget)), _, rfl⟩⟩
    by_cases hji : j < i
    · exact hno j d hji hd
    · have : j = i := by omega
      subst this
      rw [hget] at hd
      cases hd
      exact g
  · have hci : ¬ (i : Int) < (s.cells.length : Int) := (by omega)
    simp only [go_sem, hci, clen]
    refine ⟨bool_t ⟨⟨by omega, by omega, by omega, by omega⟩, g5, fun c hc => ?_, by omega, g8, g9⟩, _, rfl⟩
    obtain ⟨j, hj, he⟩ := List.getElem_of_mem hc
    exact hno j c (by omega) (by rw [← he]; exact List.getElem?_eq_getElem hj)
theorem f54_ok {v w : AV} {l m : List Evn} (hA : Arr H 4 v (l.map Evn.enc)) (hB : Arr H 4 w (m.map Evn.enc)) (hl : l.length < 9223372036854775807) :
    FnOk Tryz.prog 54 [v, w] H fun r G => r = .bool (decide (l = m)) ∧ G = H := by
  refine FnOk.assume fun hok => ?_
  refine FnOk.drop (R := fun r => r = .bool (decide (l = m))) ?_ (by rintro v rfl ρ; rw [AV.ren])
  refine FnOk.of_WW Tryz.func54 rfl C54ok R54ok E0 good_E0 ?_
  have hlen := fun G => hA.len G; simp only [List.length_map] at hlen; have hren := hA.ren
  have hlen2 := fun G => hB.len G
  simp only [List.length_map] at hlen2
  have hren2 := hB.ren
  simp only [go_sem, C54, hlen, hlen2]
  refine ⟨fun h => ⟨bool_f fun e : l = m => h (by rw [e]), _, rfl⟩, fun h => ?_⟩
  have hlm : l.length = m.length := by have := Classical.not_not.1 h; omega
  refine LL.st good_E0 (fun i : Nat => l.length - i) (fun i => i ≤ l.length ∧ ∀ j, j < i → l[j]? = m[j]?)
    (fun i => [(.z, v), ((.o .z), w), ((.o (.i .z)), .int .i64 i)]) (fun i => []) ?_ 0 (σ := []) (Wk.of rfl (by decide) (by simp only [go_sem, hren, hren2]) (by simp only [go_sem])) ⟨Nat.zero_le _, fun j h => absurd h (Nat.not_lt_zero _)⟩
  rintro i ⟨hi, hno⟩
  by_cases hlt : i < l.length
  · obtain ⟨kk2, r2, ex2, cap2, wr2, rows2, hv2, hrho2, hgo2, hrow2⟩ := hB.at hok (j := i) (by rw [List.length_map]; omega)
    simp only [List.length_map, List.getElem_map] at hv2 hrow2
    have hget2 : m[i]? = some (m[i]'(by omega)) := List.getElem?_eq_getElem (by omega)
    generalize m[i]'(by omega) = d at hrow2 hget2
    obtain ⟨kk, r, ex', cap', wr, rows, hv, hrho, hgo, hrow⟩ := hA.at hok (j := i) (by rw [List.length_map]; exact hlt); simp only [List.length_map, List.getElem_map] at hv hrow; cases hv; have hget : l[i]? = some l[i] := List.getElem?_eq_getElem hlt; generalize l[i] = c at hrow hget; have hw := wrap_succ (n := i) (by omega); have hci : (i : Int) < (l.length : Int) := (by omega); have hsi : i + 1 ≤ l.length := (by omega)
    subst hv2
    have hsi2 : i + 1 ≤ m.length := by omega
    have hbad : ¬ c = d → AV.bool false = .bool (decide (l = m)) := fun h => bool_f fun e => h (by rw [e, hget2] at hget; exact (Option.some.inj hget).symm)
    by_cases hcd : c = d
    · subst hcd
      obtain ⟨ck, cn, cv, cd⟩ := c
      cases cd
      all_goals
        simp only [go_sem, hlen, hlen2, hci, hsi, hsi2, hgo, hgo2, hrow, hrow2, hw, Evn.enc]
        refine ⟨i + 1, by show l.length - (i + 1) < l.length - i; omega, ⟨by omega, fun j hj => ?_⟩, _, [], rfl, Wk.of rfl (by decide) (by simp only [go_sem, hrho, hrho2]) (by simp only [go_sem])⟩
        rcases Nat.lt_or_ge j i with h | h
        · exact hno j h
        · obtain rfl : j = i := by omega
          rw [hget, hget2]
    · have hb := hbad hcd
      obtain ⟨ck, cn, cv, cd⟩ := c
      obtain ⟨dk, dn, dv, dd⟩ := d
      cases cd <;> cases dd
      all_goals
        simp only [go_sem, hlen, hlen2, hci, hsi, hsi2, hgo, hgo2, hrow, hrow2, hw, Evn.enc]
        repeat' (first | apply And.intro | intro _)
      all_goals first | exact hb | exact ⟨_, rfl⟩ | (exfalso; apply hcd; simp_all)
  · have hci : ¬ (i : Int) < (l.length : Int) := by omega
    simp only [go_sem, hci, hlen]
    refine ⟨bool_t (List.ext_getElem? fun j => ?_), _, rfl⟩
    rcases Nat.lt_or_ge j l.length with h | h
    · exact hno j (by omega)
    · rw [List.getElem?_eq_none h, List.getElem?_eq_none (by omega)]
theorem f19_same {a b : Sh} (ha : a.ok H) (hb : b.ok H) (h : sameSh a b) : FnOk Tryz.prog 19 [.agg a.enc, .agg b.enc] H fun r G => r = .bool true ∧ G = H := by
  refine FnOk.drop (R := fun r => r = .bool true) ?_ (by rintro v rfl ρ; rw [AV.ren])
  refine FnOk.of_WW Tryz.func19 rfl C19ok R19ok E0 good_E0 ?_
  obtain ⟨id, ep, fr, to, frz, cs, es, ds, cv, ev, dv⟩ := a
  obtain ⟨id', ep', fr', to', frz', cs', es', ds', cv', ev', dv'⟩ := b
  obtain ⟨h1, h2, h3, h4, h5, h6, h7, h8⟩ := h
  dsimp only at h1 h2 h3 h4 h5 h6 h7 h8
  subst h1 h2 h3 h4 h5 h6 h7 h8
  have q1 := ha.cl
  have q2 := ha.el
  have q3 := ha.dl
  dsimp only at q1 q2 q3
  cases frz
  all_goals
    simp only [go_sem, C19, Sh.enc]
    refine CL.bool (f53_ok (ha.c.ext _) (hb.c.ext _) q1 q1) (fun _ => ?_) (fun g => absurd rfl g)
    simp only [go_sem]
    refine CL.bool (f54_ok (ha.e.ext _) (hb.e.ext _) (by dsimp only; omega)) (fun _ => ?_) (fun g => absurd rfl g)
    simp only [go_sem]
    refine CL.bool (f55_ok (ha.d.ext _) (hb.d.ext _) (ha.dok.ext _) (hb.dok.ext _) (by dsimp only; omega)) (fun _ => ?_) (fun g => absurd (sameD_self _) g)
    simp only [go_sem]
    exact ⟨_, rfl⟩
end Go.Proofs
/- The laid-out code of the functions that are walked. Printed by a program. -/

set_option linter.all false
set_option maxRecDepth 100000
namespace Go.Proofs
open Go Go.Ev K
noncomputable def C5 := mkC Tryz.prog Tryz.f5 150
theorem C5ok : CCok Tryz.prog Tryz.f5 150 C5 := mkC_ok _
@[go_sem] theorem call5 (a H) : callC Tryz.prog 5 a H = .call 5 a := callC_ok (by kernel_rfl) a H
theorem R5ok : resKs Tryz.prog Tryz.f5.results.toList = some [(RK.tmp z)] := by kernel_rfl

noncomputable def C11 := mkC Tryz.prog Tryz.f11 9
theorem C11ok : CCok Tryz.prog Tryz.f11 9 C11 := mkC_ok _
@[go_sem] theorem call11 (a H) : callC Tryz.prog 11 a H = .call 11 a := callC_ok (by kernel_rfl) a H
theorem R11ok : resKs Tryz.prog Tryz.f11.results.toList = some [(RK.tmp z)] := by kernel_rfl

noncomputable def C13 := mkC Tryz.prog Tryz.f13 56
theorem C13ok : CCok Tryz.prog Tryz.f13 56 C13 := mkC_ok _
@[go_sem] theorem call13 (a H) : callC Tryz.prog 13 a H = .call 13 a := callC_ok (by kernel_rfl) a H
theorem R13ok : resKs Tryz.prog Tryz.f13.results.toList = some [(RK.cell z.o.i true 4), (RK.tmp z.i.o)] := by kernel_rfl

noncomputable def C14 := mkC Tryz.prog Tryz.f14 8
theorem C14ok : CCok Tryz.prog Tryz.f14 8 C14 := mkC_ok _
@[go_sem] theorem call14 (a H) : callC Tryz.prog 14 a H = .call 14 a := callC_ok (by kernel_rfl) a H
theorem R14ok : resKs Tryz.prog Tryz.f14.results.toList = some [(RK.cell z.o.i true 16)] := by kernel_rfl

noncomputable def C21 := mkC Tryz.prog Tryz.f21 13
theorem C21ok : CCok Tryz.prog Tryz.f21 13 C21 := mkC_ok _
@[go_sem] theorem call21 (a H) : callC Tryz.prog 21 a H = .call 21 a := callC_ok (by kernel_rfl) a H
theorem R21ok : resKs Tryz.prog Tryz.f21.results.toList = some [(RK.cell z.o.i true 8), (RK.tmp z.i.o)] := by kernel_rfl

noncomputable def C22 := mkC Tryz.prog Tryz.f22 13
theorem C22ok : CCok Tryz.prog Tryz.f22 13 C22 := mkC_ok _
@[go_sem] theorem call22 (a H) : callC Tryz.prog 22 a H = .call 22 a := callC_ok (by kernel_rfl) a H
theorem R22ok : resKs Tryz.prog Tryz.f22.results.toList = some [(RK.cell z.o.i true 8), (RK.tmp z.i.o)] := by kernel_rfl

noncomputable def C12 := mkC Tryz.prog Tryz.f12 3
theorem C12ok : CCok Tryz.prog Tryz.f12 3 C12 := mkC_ok _
@[go_sem] theorem call12 (a H) : callC Tryz.prog 12 a H = .call 12 a := callC_ok (by kernel_rfl) a H
theorem R12ok : resKs Tryz.prog Tryz.f12.results.toList = some [(RK.tmp z)] := by kernel_rfl

noncomputable def C15 := mkC Tryz.prog Tryz.f15 13
theorem C15ok : CCok Tryz.prog Tryz.f15 13 C15 := mkC_ok _
@[go_sem] theorem call15 (a H) : callC Tryz.prog 15 a H = .call 15 a := callC_ok (by kernel_rfl) a H
theorem R15ok : resKs Tryz.prog Tryz.f15.results.toList = some [(RK.cell z.o.i true 8), (RK.tmp z.i.o)] := by kernel_rfl

noncomputable def C9 := mkC Tryz.prog Tryz.f9 82
theorem C9ok : CCok Tryz.prog Tryz.f9 82 C9 := mkC_ok _
@[go_sem] theorem call9 (a H) : callC Tryz.prog 9 a H = .call 9 a := callC_ok (by kernel_rfl) a H
theorem R9ok : resKs Tryz.prog Tryz.f9.results.toList = some [(RK.cell z.i true 16), (RK.tmp z.o.o)] := by kernel_rfl

noncomputable def C8 := mkC Tryz.prog Tryz.f8 81
theorem C8ok : CCok Tryz.prog Tryz.f8 81 C8 := mkC_ok _
@[go_sem] theorem call8 (a H) : callC Tryz.prog 8 a H = .call 8 a := callC_ok (by kernel_rfl) a H
theorem R8ok : resKs Tryz.prog Tryz.f8.results.toList = some [(RK.tmp z.i)] := by kernel_rfl

noncomputable def C18 := mkC Tryz.prog Tryz.f18 23
theorem C18ok : CCok Tryz.prog Tryz.f18 23 C18 := mkC_ok _
@[go_sem] theorem call18 (a H) : callC Tryz.prog 18 a H = .call 18 a := callC_ok (by kernel_rfl) a H
theorem R18ok : resKs Tryz.prog Tryz.f18.results.toList = some [(RK.tmp z.o.i)] := by kernel_rfl

noncomputable def C17 := mkC Tryz.prog Tryz.f17 22
theorem C17ok : CCok Tryz.prog Tryz.f17 22 C17 := mkC_ok _
@[go_sem] theorem call17 (a H) : callC Tryz.prog 17 a H = .call 17 a := callC_ok (by kernel_rfl) a H
theorem R17ok : resKs Tryz.prog Tryz.f17.results.toList = some [(RK.tmp z.i)] := by kernel_rfl

noncomputable def C23 := mkC Tryz.prog Tryz.f23 11
theorem C23ok : CCok Tryz.prog Tryz.f23 11 C23 := mkC_ok _
@[go_sem] theorem call23 (a H) : callC Tryz.prog 23 a H = .call 23 a := callC_ok (by kernel_rfl) a H
theorem R23ok : resKs Tryz.prog Tryz.f23.results.toList = some [(RK.cell z.i true 16)] := by kernel_rfl

noncomputable def C38 := mkC Tryz.prog Tryz.f38 46
theorem C38ok : CCok Tryz.prog Tryz.f38 46 C38 := mkC_ok _
@[go_sem] theorem call38 (a H) : callC Tryz.prog 38 a H = .call 38 a := callC_ok (by kernel_rfl) a H
theorem R38ok : resKs Tryz.prog Tryz.f38.results.toList = some [(RK.tmp z.o.i)] := by kernel_rfl

noncomputable def C39 := mkC Tryz.prog Tryz.f39 40
theorem C39ok : CCok Tryz.prog Tryz.f39 40 C39 := mkC_ok _
@[go_sem] theorem call39 (a H) : callC Tryz.prog 39 a H = .call 39 a := callC_ok (by kernel_rfl) a H
theorem R39ok : resKs Tryz.prog Tryz.f39.results.toList = some [(RK.cell z.o.i true 4), (RK.tmp z.i.o)] := by kernel_rfl

noncomputable def C41 := mkC Tryz.prog Tryz.f41 61
theorem C41ok : CCok Tryz.prog Tryz.f41 61 C41 := mkC_ok _
@[go_sem] theorem call41 (a H) : callC Tryz.prog 41 a H = .call 41 a := callC_ok (by kernel_rfl) a H
theorem R41ok : resKs Tryz.prog Tryz.f41.results.toList = some [(RK.tmp z.o.i)] := by kernel_rfl

noncomputable def C44 := mkC Tryz.prog Tryz.f44 17
theorem C44ok : CCok Tryz.prog Tryz.f44 17 C44 := mkC_ok _
@[go_sem] theorem call44 (a H) : callC Tryz.prog 44 a H = .call 44 a := callC_ok (by kernel_rfl) a H
theorem R44ok : resKs Tryz.prog Tryz.f44.results.toList = some [(RK.cell z.o.i true 8), (RK.tmp z.i.o)] := by kernel_rfl

noncomputable def C45 := mkC Tryz.prog Tryz.f45 11
theorem C45ok : CCok Tryz.prog Tryz.f45 11 C45 := mkC_ok _
@[go_sem] theorem call45 (a H) : callC Tryz.prog 45 a H = .call 45 a := callC_ok (by kernel_rfl) a H
theorem R45ok : resKs Tryz.prog Tryz.f45.results.toList = some [(RK.tmp z.o.i)] := by kernel_rfl

noncomputable def C57 := mkC Tryz.prog Tryz.f57 13
theorem C57ok : CCok Tryz.prog Tryz.f57 13 C57 := mkC_ok _
@[go_sem] theorem call57 (a H) : callC Tryz.prog 57 a H = .call 57 a := callC_ok (by kernel_rfl) a H
theorem R57ok : resKs Tryz.prog Tryz.f57.results.toList = some [(RK.tmp z.o.o)] := by kernel_rfl

noncomputable def C59 := mkC Tryz.prog Tryz.f59 27
theorem C59ok : CCok Tryz.prog Tryz.f59 27 C59 := mkC_ok _
@[go_sem] theorem call59 (a H) : callC Tryz.prog 59 a H = .call 59 a := callC_ok (by kernel_rfl) a H
theorem R59ok : resKs Tryz.prog Tryz.f59.results.toList = some [(RK.tmp z.o.o)] := by kernel_rfl

noncomputable def C46 := mkC Tryz.prog Tryz.f46 8
theorem C46ok : CCok Tryz.prog Tryz.f46 8 C46 := mkC_ok _
@[go_sem] theorem call46 (a H) : callC Tryz.prog 46 a H = .call 46 a := callC_ok (by kernel_rfl) a H
theorem R46ok : resKs Tryz.prog Tryz.f46.results.toList = some [(RK.tmp z.o.o)] := by kernel_rfl

noncomputable def C32 := mkC Tryz.prog Tryz.f32 20
theorem C32ok : CCok Tryz.prog Tryz.f32 20 C32 := mkC_ok _
@[go_sem] theorem call32 (a H) : callC Tryz.prog 32 a H = .call 32 a := callC_ok (by kernel_rfl) a H
theorem R32ok : resKs Tryz.prog Tryz.f32.results.toList = some [(RK.tmp z.i)] := by kernel_rfl

noncomputable def C34 := mkC Tryz.prog Tryz.f34 25
theorem C34ok : CCok Tryz.prog Tryz.f34 25 C34 := mkC_ok _
@[go_sem] theorem call34 (a H) : callC Tryz.prog 34 a H = .call 34 a := callC_ok (by kernel_rfl) a H
theorem R34ok : resKs Tryz.prog Tryz.f34.results.toList = some [(RK.tmp z.i)] := by kernel_rfl

noncomputable def C35 := mkC Tryz.prog Tryz.f35 30
theorem C35ok : CCok Tryz.prog Tryz.f35 30 C35 := mkC_ok _
@[go_sem] theorem call35 (a H) : callC Tryz.prog 35 a H = .call 35 a := callC_ok (by kernel_rfl) a H
theorem R35ok : resKs Tryz.prog Tryz.f35.results.toList = some [(RK.tmp z.i)] := by kernel_rfl

noncomputable def C27 := mkC Tryz.prog Tryz.f27 85
theorem C27ok : CCok Tryz.prog Tryz.f27 85 C27 := mkC_ok _
@[go_sem] theorem call27 (a H) : callC Tryz.prog 27 a H = .call 27 a := callC_ok (by kernel_rfl) a H
theorem R27ok : resKs Tryz.prog Tryz.f27.results.toList = some [(RK.tmp z.i)] := by kernel_rfl

noncomputable def C29 := mkC Tryz.prog Tryz.f29 55
theorem C29ok : CCok Tryz.prog Tryz.f29 55 C29 := mkC_ok _
@[go_sem] theorem call29 (a H) : callC Tryz.prog 29 a H = .call 29 a := callC_ok (by kernel_rfl) a H
theorem R29ok : resKs Tryz.prog Tryz.f29.results.toList = some [(RK.tmp z.i)] := by kernel_rfl

noncomputable def C52 := mkC Tryz.prog Tryz.f52 38
theorem C52ok : CCok Tryz.prog Tryz.f52 38 C52 := mkC_ok _
@[go_sem] theorem call52 (a H) : callC Tryz.prog 52 a H = .call 52 a := callC_ok (by kernel_rfl) a H
theorem R52ok : resKs Tryz.prog Tryz.f52.results.toList = some [(RK.cell z.i true 8)] := by kernel_rfl

@[go_sem] theorem call60 (a H) : callC Tryz.prog 60 a H = .call 60 a := callC_ok (by kernel_rfl) a H
noncomputable def C79 := mkC Tryz.prog Tryz.f79 9
theorem C79ok : CCok Tryz.prog Tryz.f79 9 C79 := mkC_ok _
@[go_sem] theorem call79 (a H) : callC Tryz.prog 79 a H = .call 79 a := callC_ok (by kernel_rfl) a H
theorem R79ok : resKs Tryz.prog Tryz.f79.results.toList = some [(RK.tmp z.o.i)] := by kernel_rfl

noncomputable def C80 := mkC Tryz.prog Tryz.f80 6
theorem C80ok : CCok Tryz.prog Tryz.f80 6 C80 := mkC_ok _
@[go_sem] theorem call80 (a H) : callC Tryz.prog 80 a H = .call 80 a := callC_ok (by kernel_rfl) a H
theorem R80ok : resKs Tryz.prog Tryz.f80.results.toList = some [(RK.tmp z.i)] := by kernel_rfl

noncomputable def C81 := mkC Tryz.prog Tryz.f81 7
theorem C81ok : CCok Tryz.prog Tryz.f81 7 C81 := mkC_ok _
@[go_sem] theorem call81 (a H) : callC Tryz.prog 81 a H = .call 81 a := callC_ok (by kernel_rfl) a H
theorem R81ok : resKs Tryz.prog Tryz.f81.results.toList = some [] := by kernel_rfl

noncomputable def C82 := mkC Tryz.prog Tryz.f82 14
theorem C82ok : CCok Tryz.prog Tryz.f82 14 C82 := mkC_ok _
@[go_sem] theorem call82 (a H) : callC Tryz.prog 82 a H = .call 82 a := callC_ok (by kernel_rfl) a H
theorem R82ok : resKs Tryz.prog Tryz.f82.results.toList = some [] := by kernel_rfl

noncomputable def C84 := mkC Tryz.prog Tryz.f84 20
theorem C84ok : CCok Tryz.prog Tryz.f84 20 C84 := mkC_ok _
@[go_sem] theorem call84 (a H) : callC Tryz.prog 84 a H = .call 84 a := callC_ok (by kernel_rfl) a H
theorem R84ok : resKs Tryz.prog Tryz.f84.results.toList = some [(RK.tmp z.o.i)] := by kernel_rfl

noncomputable def C85 := mkC Tryz.prog Tryz.f85 19
theorem C85ok : CCok Tryz.prog Tryz.f85 19 C85 := mkC_ok _
@[go_sem] theorem call85 (a H) : callC Tryz.prog 85 a H = .call 85 a := callC_ok (by kernel_rfl) a H
theorem R85ok : resKs Tryz.prog Tryz.f85.results.toList = some [(RK.tmp z.i)] := by kernel_rfl

noncomputable def C87 := mkC Tryz.prog Tryz.f87 26
theorem C87ok : CCok Tryz.prog Tryz.f87 26 C87 := mkC_ok _
@[go_sem] theorem call87 (a H) : callC Tryz.prog 87 a H = .call 87 a := callC_ok (by kernel_rfl) a H
theorem R87ok : resKs Tryz.prog Tryz.f87.results.toList = some [] := by kernel_rfl

noncomputable def C88 := mkC Tryz.prog Tryz.f88 27
theorem C88ok : CCok Tryz.prog Tryz.f88 27 C88 := mkC_ok _
@[go_sem] theorem call88 (a H) : callC Tryz.prog 88 a H = .call 88 a := callC_ok (by kernel_rfl) a H
theorem R88ok : resKs Tryz.prog Tryz.f88.results.toList = some [(RK.cell z.i.i true 8), (RK.tmp z.o.o.o)] := by kernel_rfl

noncomputable def C89 := mkC Tryz.prog Tryz.f89 58
theorem C89ok : CCok Tryz.prog Tryz.f89 58 C89 := mkC_ok _
@[go_sem] theorem call89 (a H) : callC Tryz.prog 89 a H = .call 89 a := callC_ok (by kernel_rfl) a H
theorem R89ok : resKs Tryz.prog Tryz.f89.results.toList = some [(RK.tmp z.i.i)] := by kernel_rfl

noncomputable def C91 := mkC Tryz.prog Tryz.f91 50
theorem C91ok : CCok Tryz.prog Tryz.f91 50 C91 := mkC_ok _
@[go_sem] theorem call91 (a H) : callC Tryz.prog 91 a H = .call 91 a := callC_ok (by kernel_rfl) a H
theorem R91ok : resKs Tryz.prog Tryz.f91.results.toList = some [] := by kernel_rfl
end Go.Proofs
/- The laid-out code of the functions that are walked. Printed by a program. -/

set_option linter.all false
set_option maxRecDepth 100000
namespace Go.Proofs
open Go Go.Ev K
noncomputable def C98 := mkC Tryz.prog Tryz.f98 19
theorem C98ok : CCok Tryz.prog Tryz.f98 19 C98 := mkC_ok _
@[go_sem] theorem call98 (a H) : callC Tryz.prog 98 a H = .call 98 a := callC_ok (by kernel_rfl) a H
theorem R98ok : resKs Tryz.prog Tryz.f98.results.toList = some [(RK.tmp z.o.i)] := by kernel_rfl

noncomputable def C74 := mkC Tryz.prog Tryz.f74 56
theorem C74ok : CCok Tryz.prog Tryz.f74 56 C74 := mkC_ok _
@[go_sem] theorem call74 (a H) : callC Tryz.prog 74 a H = .call 74 a := callC_ok (by kernel_rfl) a H
theorem R74ok : resKs Tryz.prog Tryz.f74.results.toList = some [(RK.tmp z.i), (RK.tmp z.o.o), (RK.tmp z.o.i)] := by kernel_rfl

noncomputable def C75 := mkC Tryz.prog Tryz.f75 22
theorem C75ok : CCok Tryz.prog Tryz.f75 22 C75 := mkC_ok _
@[go_sem] theorem call75 (a H) : callC Tryz.prog 75 a H = .call 75 a := callC_ok (by kernel_rfl) a H
theorem R75ok : resKs Tryz.prog Tryz.f75.results.toList = some [(RK.tmp z.i.i)] := by kernel_rfl

noncomputable def C77 := mkC Tryz.prog Tryz.f77 45
theorem C77ok : CCok Tryz.prog Tryz.f77 45 C77 := mkC_ok _
@[go_sem] theorem call77 (a H) : callC Tryz.prog 77 a H = .call 77 a := callC_ok (by kernel_rfl) a H
theorem R77ok : resKs Tryz.prog Tryz.f77.results.toList = some [(RK.tmp z.o.i), (RK.tmp z.i.o), (RK.tmp z.i.i)] := by kernel_rfl

noncomputable def C68 := mkC Tryz.prog Tryz.f68 45
theorem C68ok : CCok Tryz.prog Tryz.f68 45 C68 := mkC_ok _
@[go_sem] theorem call68 (a H) : callC Tryz.prog 68 a H = .call 68 a := callC_ok (by kernel_rfl) a H
theorem R68ok : resKs Tryz.prog Tryz.f68.results.toList = some [(RK.tmp z.o.i)] := by kernel_rfl

noncomputable def C71 := mkC Tryz.prog Tryz.f71 4
theorem C71ok : CCok Tryz.prog Tryz.f71 4 C71 := mkC_ok _
@[go_sem] theorem call71 (a H) : callC Tryz.prog 71 a H = .call 71 a := callC_ok (by kernel_rfl) a H
theorem R71ok : resKs Tryz.prog Tryz.f71.results.toList = some [(RK.tmp z.i)] := by kernel_rfl

noncomputable def C128 := mkC Tryz.prog Tryz.f128 9
theorem C128ok : CCok Tryz.prog Tryz.f128 9 C128 := mkC_ok _
@[go_sem] theorem call128 (a H) : callC Tryz.prog 128 a H = .call 128 a := callC_ok (by kernel_rfl) a H
theorem R128ok : resKs Tryz.prog Tryz.f128.results.toList = some [] := by kernel_rfl

noncomputable def C129 := mkC Tryz.prog Tryz.f129 19
theorem C129ok : CCok Tryz.prog Tryz.f129 19 C129 := mkC_ok _
@[go_sem] theorem call129 (a H) : callC Tryz.prog 129 a H = .call 129 a := callC_ok (by kernel_rfl) a H
theorem R129ok : resKs Tryz.prog Tryz.f129.results.toList = some [(RK.tmp z.o.i)] := by kernel_rfl

noncomputable def C130 := mkC Tryz.prog Tryz.f130 18
theorem C130ok : CCok Tryz.prog Tryz.f130 18 C130 := mkC_ok _
@[go_sem] theorem call130 (a H) : callC Tryz.prog 130 a H = .call 130 a := callC_ok (by kernel_rfl) a H
theorem R130ok : resKs Tryz.prog Tryz.f130.results.toList = some [(RK.tmp z.i)] := by kernel_rfl

noncomputable def C131 := mkC Tryz.prog Tryz.f131 20
theorem C131ok : CCok Tryz.prog Tryz.f131 20 C131 := mkC_ok _
@[go_sem] theorem call131 (a H) : callC Tryz.prog 131 a H = .call 131 a := callC_ok (by kernel_rfl) a H
theorem R131ok : resKs Tryz.prog Tryz.f131.results.toList = some [(RK.tmp z.o.i)] := by kernel_rfl

noncomputable def C132 := mkC Tryz.prog Tryz.f132 148
theorem C132ok : CCok Tryz.prog Tryz.f132 148 C132 := mkC_ok _
@[go_sem] theorem call132 (a H) : callC Tryz.prog 132 a H = .call 132 a := callC_ok (by kernel_rfl) a H
theorem R132ok : resKs Tryz.prog Tryz.f132.results.toList = some [] := by kernel_rfl

noncomputable def C133 := mkC Tryz.prog Tryz.f133 8
theorem C133ok : CCok Tryz.prog Tryz.f133 8 C133 := mkC_ok _
@[go_sem] theorem call133 (a H) : callC Tryz.prog 133 a H = .call 133 a := callC_ok (by kernel_rfl) a H
theorem R133ok : resKs Tryz.prog Tryz.f133.results.toList = some [(RK.tmp z.i)] := by kernel_rfl

noncomputable def C134 := mkC Tryz.prog Tryz.f134 6
theorem C134ok : CCok Tryz.prog Tryz.f134 6 C134 := mkC_ok _
@[go_sem] theorem call134 (a H) : callC Tryz.prog 134 a H = .call 134 a := callC_ok (by kernel_rfl) a H
theorem R134ok : resKs Tryz.prog Tryz.f134.results.toList = some [(RK.tmp z.i)] := by kernel_rfl

noncomputable def C139 := mkC Tryz.prog Tryz.f139 42
theorem C139ok : CCok Tryz.prog Tryz.f139 42 C139 := mkC_ok _
@[go_sem] theorem call139 (a H) : callC Tryz.prog 139 a H = .call 139 a := callC_ok (by kernel_rfl) a H
theorem R139ok : resKs Tryz.prog Tryz.f139.results.toList = some [(RK.tmp z.o.i)] := by kernel_rfl

@[go_sem] theorem call140 (a H) : callC Tryz.prog 140 a H = .call 140 a := callC_ok (by kernel_rfl) a H
noncomputable def C141 := mkC Tryz.prog Tryz.f141 9
theorem C141ok : CCok Tryz.prog Tryz.f141 9 C141 := mkC_ok _
@[go_sem] theorem call141 (a H) : callC Tryz.prog 141 a H = .call 141 a := callC_ok (by kernel_rfl) a H
theorem R141ok : resKs Tryz.prog Tryz.f141.results.toList = some [(RK.tmp z.o.o)] := by kernel_rfl

noncomputable def C142 := mkC Tryz.prog Tryz.f142 21
theorem C142ok : CCok Tryz.prog Tryz.f142 21 C142 := mkC_ok _
@[go_sem] theorem call142 (a H) : callC Tryz.prog 142 a H = .call 142 a := callC_ok (by kernel_rfl) a H
theorem R142ok : resKs Tryz.prog Tryz.f142.results.toList = some [(RK.tmp z.o.i)] := by kernel_rfl

noncomputable def C145 := mkC Tryz.prog Tryz.f145 9
theorem C145ok : CCok Tryz.prog Tryz.f145 9 C145 := mkC_ok _
@[go_sem] theorem call145 (a H) : callC Tryz.prog 145 a H = .call 145 a := callC_ok (by kernel_rfl) a H
theorem R145ok : resKs Tryz.prog Tryz.f145.results.toList = some [(RK.tmp z.o.o)] := by kernel_rfl

noncomputable def C146 := mkC Tryz.prog Tryz.f146 42
theorem C146ok : CCok Tryz.prog Tryz.f146 42 C146 := mkC_ok _
@[go_sem] theorem call146 (a H) : callC Tryz.prog 146 a H = .call 146 a := callC_ok (by kernel_rfl) a H
theorem R146ok : resKs Tryz.prog Tryz.f146.results.toList = some [(RK.tmp z.o.i)] := by kernel_rfl

noncomputable def C113 := mkC Tryz.prog Tryz.f113 26
theorem C113ok : CCok Tryz.prog Tryz.f113 26 C113 := mkC_ok _
@[go_sem] theorem call113 (a H) : callC Tryz.prog 113 a H = .call 113 a := callC_ok (by kernel_rfl) a H
theorem R113ok : resKs Tryz.prog Tryz.f113.results.toList = some [(RK.tmp z.o.i)] := by kernel_rfl

noncomputable def C166 := mkC Tryz.prog Tryz.f166 63
theorem C166ok : CCok Tryz.prog Tryz.f166 63 C166 := mkC_ok _
@[go_sem] theorem call166 (a H) : callC Tryz.prog 166 a H = .call 166 a := callC_ok (by kernel_rfl) a H
theorem R166ok : resKs Tryz.prog Tryz.f166.results.toList = some [] := by kernel_rfl

noncomputable def C167 := mkC Tryz.prog Tryz.f167 6
theorem C167ok : CCok Tryz.prog Tryz.f167 6 C167 := mkC_ok _
@[go_sem] theorem call167 (a H) : callC Tryz.prog 167 a H = .call 167 a := callC_ok (by kernel_rfl) a H
theorem R167ok : resKs Tryz.prog Tryz.f167.results.toList = some [(RK.tmp z.i)] := by kernel_rfl

noncomputable def C168 := mkC Tryz.prog Tryz.f168 53
theorem C168ok : CCok Tryz.prog Tryz.f168 53 C168 := mkC_ok _
@[go_sem] theorem call168 (a H) : callC Tryz.prog 168 a H = .call 168 a := callC_ok (by kernel_rfl) a H
theorem R168ok : resKs Tryz.prog Tryz.f168.results.toList = some [] := by kernel_rfl

noncomputable def C177 := mkC Tryz.prog Tryz.f177 25
theorem C177ok : CCok Tryz.prog Tryz.f177 25 C177 := mkC_ok _
@[go_sem] theorem call177 (a H) : callC Tryz.prog 177 a H = .call 177 a := callC_ok (by kernel_rfl) a H
theorem R177ok : resKs Tryz.prog Tryz.f177.results.toList = some [(RK.tmp z.i)] := by kernel_rfl

noncomputable def C196 := mkC Tryz.prog Tryz.f196 19
theorem C196ok : CCok Tryz.prog Tryz.f196 19 C196 := mkC_ok _
@[go_sem] theorem call196 (a H) : callC Tryz.prog 196 a H = .call 196 a := callC_ok (by kernel_rfl) a H
theorem R196ok : resKs Tryz.prog Tryz.f196.results.toList = some [(RK.tmp z.o.i)] := by kernel_rfl

noncomputable def C202 := mkC Tryz.prog Tryz.f202 53
theorem C202ok : CCok Tryz.prog Tryz.f202 53 C202 := mkC_ok _
@[go_sem] theorem call202 (a H) : callC Tryz.prog 202 a H = .call 202 a := callC_ok (by kernel_rfl) a H
theorem R202ok : resKs Tryz.prog Tryz.f202.results.toList = some [] := by kernel_rfl
end Go.Proofs
/- a number taken of bytes: walked. -/




set_option linter.all false
set_option linter.all false
set_option maxRecDepth 100000
namespace Go.Proofs
open Go Go.Ev
variable {H : Heap}

theorem and63u {b : Nat} (h : b < 256) : IntKind.u8.wrap ((BitVec.ofInt IntKind.u8.bits (b : Int) &&& BitVec.ofInt IntKind.u8.bits 63).toNat : Int) = ((b % 64 : Nat) : Int) := by
  have h1 : (BitVec.ofInt IntKind.u8.bits (b : Int) &&& BitVec.ofInt IntKind.u8.bits 63).toNat = b % 64 := by
    rw [BitVec.toNat_and, BitVec.toNat_ofInt, BitVec.toNat_ofInt]
    show ((b : Int) % ((2 ^ 8 : Nat) : Int)).toNat &&& ((63 : Int) % ((2 ^ 8 : Nat) : Int)).toNat = _
    rw [show ((b : Int) % ((2 ^ 8 : Nat) : Int)).toNat = b by omega, show ((63 : Int) % ((2 ^ 8 : Nat) : Int)).toNat = 2 ^ 6 - 1 by decide, Nat.and_two_pow_sub_one_eq_mod]
  rw [h1]
  exact wrap_u8 (by omega)
theorem bin_and63u {β : Type} (ek : EK) (pk : Option (List LK)) (lit : Bool) {b : Nat} (h : b < 256) (f : β) (c : AV → β) : binV Tryz.prog ek pk lit .and (.int .u8 (b : Int)) (.int .u8 63) f c = c (.int .u8 ((b % 64 : Nat) : Int)) := by rw [bin_and, and63u h]
theorem pow64_le {i : Nat} (hi : i < 8) : 64 ^ i ≤ 4398046511104 := by
  have : 64 ^ i ≤ 64 ^ 7 := Nat.pow_le_pow_right (by decide) (by omega)
  simpa using this
theorem mul_lt64 {r p : Nat} (hr : r < 64) (hp : p ≤ 4398046511104) : r * p < 281474976710656 := by
  have h1 : r * p ≤ 63 * p := Nat.mul_le_mul_right p (by omega)
  omega
theorem pow64 (i : Nat) : 64 ^ i = 2 ^ (6 * i) := by rw [Nat.pow_mul]
theorem bin_shl64 {β : Type} (ek : EK) (pk : Option (List LK)) (lit : Bool) {r i : Nat} (hr : r < 64) (hi : i < 8) (f : β) (c : AV → β) : binV Tryz.prog ek pk lit .shl (.int .i64 (r : Int)) (.int .i64 ((6 * i : Nat) : Int)) f c = c (.int .i64 ((r * 64 ^ i : Nat) : Int)) := by
  have hb : min (6 * i) IntKind.i64.bits = 6 * i := Nat.min_eq_left (by show 6 * i ≤ 64; omega)
  have h2 : (r : Int) * 2 ^ (6 * i) = ((r * 64 ^ i : Nat) : Int) := by rw [pow64]; push_cast; rfl
  have h3 := mul_lt64 hr (pow64_le hi)
  rw [bin_shl, hb, h2, wrap_i64 (by omega) (by omega)]
theorem bin_or64n {β : Type} (ek : EK) (pk : Option (List LK)) (lit : Bool) {a r i : Nat} (ha : a < 64 ^ i) (hr : r < 64) (hi : i < 8) (f : β) (c : AV → β) : binV Tryz.prog ek pk lit .or (.int .i64 (a : Int)) (.int .i64 ((r * 64 ^ i : Nat) : Int)) f c = c (.int .i64 ((a + r * 64 ^ i : Nat) : Int)) := by
  have h3 := mul_lt64 hr (pow64_le hi)
  have h4 := pow64_le hi
  have h1 : (BitVec.ofInt IntKind.i64.bits (a : Int) ||| BitVec.ofInt IntKind.i64.bits ((r * 64 ^ i : Nat) : Int)).toNat = a + r * 64 ^ i := by
    rw [BitVec.toNat_or, BitVec.toNat_ofInt, BitVec.toNat_ofInt]
    show ((a : Int) % ((2 ^ 64 : Nat) : Int)).toNat ||| (((r * 64 ^ i : Nat) : Int) % ((2 ^ 64 : Nat) : Int)).toNat = _
    generalize hq : r * 64 ^ i = q at h3
    rw [show ((a : Int) % ((2 ^ 64 : Nat) : Int)).toNat = a by omega, show ((q : Int) % ((2 ^ 64 : Nat) : Int)).toNat = q by omega, ← hq, Nat.or_comm, Nat.mul_comm, pow64, ← Nat.two_pow_add_eq_or_of_lt (by rw [← pow64]; exact ha), Nat.add_comm]
  generalize hq : r * 64 ^ i = q at h1 h3
  rw [bin_or, h1, wrap_i64 (by omega) (by omega)]
/-- its first byte -/
def hdN (m : Nat) : Nat := if m < 64 then m else 64 + m % 64
theorem numT_cons (m : Nat) : ∃ t, numT m = hdN m :: t := by
  unfold hdN
  by_cases h : m < 64
  · exact ⟨[], by rw [numT_lo h, if_pos h]⟩
  · exact ⟨numT (m / 64), by rw [numT_hi h, if_neg h]⟩
theorem f74_num {n : Nat} (hn : n < 281474976710656) {l : List Nat} (hl : l.length < 1000000) : FnOk Tryz.prog 74 [.str (numT n ++ l)] H fun r G => r = .tup [.int .i64 n, .str l, .nili] ∧ G = H := by
  refine FnOk.drop (R := fun r => r = .tup [.int .i64 n, .str l, .nili]) ?_ (by rintro v rfl ρ; simp only [AV.ren, AV.rens])
  refine FnOk.of_WW Tryz.func74 rfl C74ok R74ok E0 good_E0 ?_
  obtain ⟨s, hs⟩ : ∃ s, s = numT n ++ l := ⟨_, rfl⟩
  rw [← hs]
  simp only [go_sem, C74]
  refine LL.st good_E0 (fun i : Nat => 8 - i) (fun i => i < 8 ∧ s.drop i = numT (n / 64 ^ i) ++ l ∧ (i = 0 ∨ 0 < n / 64 ^ i)) (fun i => [(.z, .str s), ((.o (.i .z)), .int .i64 (n % 64 ^ i : Nat)), ((.o (.o (.o .z))), .int .i64 i)]) (fun _ => []) ?_ 0 (σ := [])
    (Wk.of rfl (by decide) (by simp only [go_sem, Nat.pow_zero, Nat.mod_one]; first | done | rfl | trace_state) (by simp only [go_sem])) ⟨by decide, by rw [List.drop_zero, Nat.pow_zero, Nat.div_one, hs], .inl rfl⟩
  rintro i ⟨hi, hd, hz⟩
  obtain ⟨m, hm⟩ : ∃ m, m = n / 64 ^ i := ⟨_, rfl⟩
  rw [← hm] at hd hz
  obtain ⟨t, ht⟩ := numT_cons m
  have hb : hdN m ≤ 127 := by unfold hdN; split <;> omega
  have hget : s[i]? = some (hdN m) := by
    have := congrArg (·[0]?) hd
    rw [ht] at this
    simpa using this
  obtain ⟨hlt, -⟩ := List.getElem?_eq_some_iff.1 hget
  have hdr : s.drop (i + 1) = t ++ l := by
    have := congrArg (List.drop 1) hd
    rw [ht, List.drop_drop] at this
    simpa [Nat.add_comm] using this
  have c1 : ¬ (s.length : Int) ≤ (i : Int) := by omega
  have c0 : (i : Int) < 8 := by omega
  have c2 : ¬ (127 : Int) < (hdN m : Int) := by omega
  have hw6 : IntKind.i64.wrap (6 * (i : Int)) = ((6 * i : Nat) : Int) := by rw [wrap_i64 (by omega) (by omega)]; push_cast; rfl
  have hwi : IntKind.i64.wrap ((i : Int) + 1) = ((i + 1 : Nat) : Int) := wrap_succ (by omega)
  have hle : i + 1 ≤ s.length := hlt
  have hdc : ∀ {β : Type} (f : β) (c : List Nat → β), dropC f (i + 1) s c = c (t ++ l) := fun f c => by rw [dropC_eq, if_pos hle, hdr]
  have hr : hdN m % 64 < 64 := Nat.mod_lt _ (by decide)
  have ha : n % 64 ^ i < 64 ^ i := Nat.mod_lt _ (Nat.pow_pos (by decide))
  have A := fun f c => bin_and63u (β := R1) .no none true (b := hdN m) (by omega) f c
  have S := fun f c => bin_shl64 (β := R1) .no none false hr hi f c
  have O := fun f c => bin_or64n (β := R1) .no none false ha hr hi f c
  have hwc : IntKind.i64.wrap ((hdN m % 64 : Nat) : Int) = ((hdN m % 64 : Nat) : Int) := wrap_i64 (by omega) (by omega)
  have h0i : (0 : Int) ≤ ((i + 1 : Nat) : Int) := by omega
  have hmod : hdN m % 64 = m % 64 := by unfold hdN; split <;> omega
  simp only [go_sem, c0, c1, hget, c2, ↓A, ↓S, ↓O, hw6, hwc, hwi, hdc, h0i, Int.toNat_natCast]
  have hret : ((hdN m : Nat) : Int) < 64 → AV.tup [AV.int .i64 ((n % 64 ^ i + hdN m % 64 * 64 ^ i : Nat) : Int), .str (t ++ l), .nili] = .tup [.int .i64 n, .str l, .nili] := fun h => by
    have hm64 : m < 64 := by
      refine Nat.lt_of_not_le fun h6 => ?_
      unfold hdN at h
      rw [if_neg (by omega)] at h
      omega
    have ht0 : t = [] := by
      rw [numT_lo hm64] at ht
      exact (List.cons.inj ht).2.symm
    have e : n % 64 ^ i + hdN m % 64 * 64 ^ i = n := by
      rw [hmod, Nat.mod_eq_of_lt hm64, hm, Nat.mul_comm, Nat.mod_add_div]
    rw [e, ht0]
    rfl
  have hnx : ¬ ((hdN m : Nat) : Int) < 64 → (i + 1 < 8 ∧ s.drop (i + 1) = numT (n / 64 ^ (i + 1)) ++ l ∧ (i + 1 = 0 ∨ 0 < n / 64 ^ (i + 1))) ∧ n % 64 ^ (i + 1) = n % 64 ^ i + hdN m % 64 * 64 ^ i := fun h => by
    have hm64 : ¬ m < 64 := fun h6 => by
      unfold hdN at h
      rw [if_pos h6] at h
      omega
    have hq : n / 64 ^ (i + 1) = m / 64 := by rw [Nat.pow_succ, ← Nat.div_div_eq_div_mul, hm]
    have ht1 : t = numT (m / 64) := by
      rw [numT_hi hm64] at ht
      exact (List.cons.inj ht).2.symm
    have hpos : 0 < m / 64 := by omega
    refine ⟨⟨?_, by rw [hdr, ht1, hq], .inr (by rw [hq]; exact hpos)⟩, by rw [Nat.mod_pow_succ, hmod, hm, Nat.mul_comm]⟩
    refine Nat.lt_of_not_le fun h8 => ?_
    have h7 : 64 ^ 8 ≤ 64 ^ (i + 1) := Nat.pow_le_pow_right (by decide) h8
    have h9 : n < 64 ^ (i + 1) := Nat.lt_of_lt_of_le hn h7
    rw [← hq, Nat.div_eq_of_lt h9] at hpos
    exact absurd hpos (Nat.lt_irrefl _)
  refine ⟨fun h0 => ⟨fun hi0 => ?_, fun _ => ⟨fun hs64 => ⟨hret hs64, _, rfl⟩, fun hs64 => ?_⟩⟩, fun h0 => ⟨fun hs64 => ⟨hret hs64, _, rfl⟩, fun hs64 => ?_⟩⟩
  · rcases hz with rfl | hz
    · exact absurd hi0 (by decide)
    · refine absurd h0 ?_
      unfold hdN
      split <;> omega
  all_goals
    obtain ⟨hg, hnm⟩ := hnx hs64
    exact ⟨i + 1, by show 8 - (i + 1) < 8 - i; omega, hg, _, [], rfl, Wk.of rfl (by decide) (by simp only [go_sem, hnm]; first | done | rfl | trace_state) (by simp only [go_sem])⟩
end Go.Proofs
