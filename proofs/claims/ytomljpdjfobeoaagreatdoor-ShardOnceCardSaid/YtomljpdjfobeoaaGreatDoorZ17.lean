/- Small functions of keys, spans, cells, walked. -/
import Derived.Test.YtomljpdjfobeoaaGreatDoorZ16
set_option linter.all false
set_option maxRecDepth 100000
namespace Go.Proofs
open Go Go.Ev
variable {H : Heap}
theorem bool_t {p : Prop} [Decidable p] (h : p) : AV.bool true = .bool (decide p) := by rw [decide_eq_true h]
theorem bool_f {p : Prop} [Decidable p] (h : ¬p) : AV.bool false = .bool (decide p) := by rw [decide_eq_false h]
def isKey (k : List Nat) : Prop := ¬ k = [] ∧ (k.length : Int) ≤ 8
instance (k : List Nat) : Decidable (isKey k) := inferInstanceAs (Decidable (_ ∧ _))
theorem f105_ok (k : List Nat) : FnOk Tryz.prog 105 [.str k] H fun v G => v = .bool (decide (isKey k)) ∧ G = H := by
  refine FnOk.of_WW Tryz.func105 rfl C105ok R105ok E0 good_E0 ?_
  simp only [go_sem, C105]
  repeat' (first | apply And.intro | intro _)
  all_goals first | exact Heap.ext_nil H | simp_all [isKey]
def isSpan (f t : List Nat) : Prop := (f.length : Int) ≤ 8 ∧ (t.length : Int) ≤ 8 ∧ (t = [] ∨ ltS f t)
noncomputable instance (f t : List Nat) : Decidable (isSpan f t) := inferInstanceAs (Decidable (_ ∧ _))
theorem f62_ok (f t : List Nat) : FnOk Tryz.prog 62 [.agg [.str f, .str t]] H fun v G => v = .bool (decide (isSpan f t)) ∧ G = H := by
  refine FnOk.drop (R := fun v => v = .bool (decide (isSpan f t))) ?_ (by rintro v rfl ρ; rw [AV.ren])
  refine FnOk.of_WW Tryz.func62 rfl C62ok R62ok E0 good_E0 ?_
  simp only [go_sem, C62, not_leS]
  repeat' (first | apply And.intro | intro _)
  all_goals first | exact ⟨_, rfl⟩ | exact bool_t (by unfold isSpan; grind) | exact bool_f (by unfold isSpan; grind)
def mayBe (k v : List Nat) (n : Int) (d : Bool) : Prop := isKey k ∧ (v.length : Int) ≤ 12 ∧ (d = true → v = []) ∧ 1 ≤ n ∧ n ≤ 1000000000000
instance (k v : List Nat) (n : Int) (d : Bool) : Decidable (mayBe k v n d) := inferInstanceAs (Decidable (_ ∧ _))
theorem f142_ok (f t : List Nat) (v : Int) (d : Bool) : FnOk Tryz.prog 142 [.str f, .str t, .int .i64 v, .bool d] H fun r G => r = .bool (decide (mayBe f t v d)) ∧ G = H := by
  refine FnOk.of_WW Tryz.func142 rfl C142ok R142ok E0 good_E0 ?_
  cases d
  all_goals simp only [go_sem, C142]
  all_goals refine CL.bool (f105_ok _) (fun h1 => ?_) (fun h1 => ?_)
  all_goals simp only [go_sem]
  all_goals repeat' (first | apply And.intro | intro _)
  all_goals first | exact Heap.ext_nil H | exact bool_t (by unfold mayBe; grind) | exact bool_f (by unfold mayBe; grind)

structure Cell where
  key : List Nat
  value : List Nat
  ver : Int
  del : Bool
  floor : Int
  deriving DecidableEq
def Cell.enc (c : Cell) : List AV := [.str c.key, .str c.value, .int .i64 c.ver, .bool c.del, .int .i64 c.floor]
@[go_sem] theorem Cell.rens (ρ : K → K) (c : Cell) : AV.rens ρ c.enc = c.enc := by simp only [Cell.enc, AV.rens, AV.ren]
theorem Cell.map_rens (ρ : K → K) (l : List Cell) : (l.map Cell.enc).map (AV.rens ρ) = l.map Cell.enc := by
  rw [List.map_map]; exact List.map_congr_left fun c _ => Cell.rens ρ c
theorem f107_ok (c : Cell) : FnOk Tryz.prog 107 [.agg c.enc] H fun v G => v = .bool (decide (0 < c.ver ∧ c.del = false)) ∧ G = H := by
  refine FnOk.drop (R := fun v => v = .bool (decide (0 < c.ver ∧ c.del = false))) ?_ (by rintro v rfl ρ; rw [AV.ren])
  refine FnOk.of_WW Tryz.func107 rfl C107ok R107ok E0 good_E0 ?_
  simp only [go_sem, C107, Cell.enc]
  repeat' (first | apply And.intro | intro _)
  all_goals first | exact ⟨_, rfl⟩ | (cases h : c.del <;> simp_all)
def has (f t k : List Nat) : Prop := isSpan f t ∧ isKey k ∧ ¬ ltS k f ∧ (t = [] ∨ ltS k t)
noncomputable instance (f t k : List Nat) : Decidable (has f t k) := inferInstanceAs (Decidable (_ ∧ _))
theorem f61_ok (f t k : List Nat) : FnOk Tryz.prog 61 [.agg [.str f, .str t], .str k] H fun v G => v = .bool (decide (has f t k)) ∧ G = H := by
  refine FnOk.drop (R := fun v => v = .bool (decide (has f t k))) ?_ (by rintro v rfl ρ; rw [AV.ren])
  refine FnOk.of_WW Tryz.func61 rfl C61ok R61ok E0 good_E0 ?_
  simp only [go_sem, C61]
  refine CL.bool (f62_ok _ _) (fun h1 => ?_) (fun h1 => ?_)
  all_goals simp only [go_sem]
  · refine CL.bool (f105_ok _) (fun h2 => ?_) (fun h2 => ?_)
    all_goals simp only [go_sem]
    all_goals repeat' (first | apply And.intro | intro _)
    all_goals first | exact ⟨_, rfl⟩ | exact bool_t (by unfold has; grind) | exact bool_f (by unfold has; grind)
  · exact ⟨bool_f (by unfold has; grind), _, rfl⟩
def cellIs (c : Cell) : Prop := mayBe c.key c.value c.ver c.del ∧ 0 ≤ c.floor ∧ c.floor ≤ c.ver
instance (c : Cell) : Decidable (cellIs c) := inferInstanceAs (Decidable (_ ∧ _))
theorem f141_ok (c : Cell) : FnOk Tryz.prog 141 [.agg c.enc] H fun v G => v = .bool (decide (cellIs c)) ∧ G = H := by
  refine FnOk.drop (R := fun v => v = .bool (decide (cellIs c))) ?_ (by rintro v rfl ρ; rw [AV.ren])
  refine FnOk.of_WW Tryz.func141 rfl C141ok R141ok E0 good_E0 ?_
  simp only [go_sem, C141, Cell.enc]
  refine CL.bool (f142_ok _ _ _ _) (fun h1 => ?_) (fun h1 => ?_)
  all_goals simp only [go_sem]
  all_goals repeat' (first | apply And.intro | intro _)
  all_goals first | exact ⟨_, rfl⟩ | exact bool_t (by unfold cellIs; grind) | exact bool_f (by unfold cellIs; grind)
end Go.Proofs
/- index: Get, walked. -/

set_option linter.all false
set_option maxRecDepth 100000
namespace Go.Proofs
open Go Go.Ev
variable {H : Heap}
def Cell.zero : Cell := ⟨[], [], 0, false, 0⟩
def getL (l : List Cell) (key : List Nat) : Cell × Bool := match l with
  | [] => (⟨key, [], 0, false, 0⟩, false)
  | c :: l => if c.key = key then (c, true) else getL l key
theorem getL_at {key : List Nat} : ∀ {l : List Cell} {i : Nat} {c : Cell}, (∀ x ∈ l.take i, x.key ≠ key) → l[i]? = some c → c.key = key → getL l key = (c, true)
  | [], i, c, _, h, _ => by simp at h
  | x :: l, 0, c, _, h, hc => by simp at h; subst h; rw [getL, if_pos hc]
  | x :: l, i + 1, c, hn, h, hc => by
    rw [getL, if_neg (hn x (by simp))]
    exact getL_at (i := i) (fun y hy => hn y (by simp [hy])) (by simpa using h) hc
theorem getL_none {key : List Nat} : ∀ {l : List Cell}, (∀ x ∈ l, x.key ≠ key) → getL l key = (⟨key, [], 0, false, 0⟩, false)
  | [], _ => rfl
  | x :: l, h => by rw [getL, if_neg (h x (by simp))]; exact getL_none fun y hy => h y (by simp [hy])
theorem take_all {α : Type} {l : List α} {i : Nat} (h : l.length ≤ i) : l.take i = l := List.take_of_length_le h
theorem take_next {α : Type} {l : List α} {i : Nat} {c : α} (h : l[i]? = some c) : l.take (i + 1) = l.take i ++ [c] := by
  rw [List.take_succ, h]; rfl


theorem f106_ok {v : AV} {l : List Cell} (hA : Arr H 5 v (l.map Cell.enc)) (hl : l.length < 4294967296) (key : List Nat) :
    FnOk Tryz.prog 106 [v, .str key] H fun r G => r = .tup [.agg (getL l key).1.enc, .bool (getL l key).2] ∧ G = H := by
  refine FnOk.assume fun hok => ?_
  refine FnOk.drop (R := fun r => r = .tup [.agg (getL l key).1.enc, .bool (getL l key).2]) ?_ (by rintro v rfl ρ; simp only [AV.ren, AV.rens, Cell.rens])
  refine FnOk.of_WW Tryz.func106 rfl C106ok R106ok E0 good_E0 ?_
  rcases hA.forms with ⟨rfl, hnil⟩ | ⟨k, off, ex, cap, rfl, hrho⟩
  · have hn0 : l.length = 0 := by simpa using hnil
    simp only [go_sem, C106]
    refine LL.st good_E0 (fun i : Nat => l.length - i) (fun i => i ≤ l.length ∧ ∀ x ∈ l.take i, x.key ≠ key)
      (fun i => [(.o .z, .str key), (.i (.o .z), .ptr (H.key 0) 0), (.i (.o (.o .z)), .nils), (.o (.i (.o .z)), .int .i64 l.length), (.i (.i (.o .z)), .int .i64 i)])
      (fun i => [.row true 5 [[.str [], .str [], .int .i64 0, .bool false, .int .i64 0]]]) ?_ 0 (σ := [0]) (Wk.mk' rfl (by decide) (by simp only [go_sem, List.length_map, hn0]) (by simp only [go_sem, List.length_map, hn0])) ⟨by omega, by simp⟩
    rintro i ⟨hi, hno⟩
    by_cases hlt : i < l.length
    · exact absurd hlt (by omega)
    · have hci : ¬ (i : Int) < (l.length : Int) := by omega
      have := getL_none (l := l) (key := key) (by rw [take_all (by omega)] at hno; exact hno)
      simp only [go_sem, C106L0, hci]
      rw [this]
      exact ⟨rfl, _, rfl⟩
  · have hn0 : True := trivial
    simp only [go_sem, C106]
    refine LL.st good_E0 (fun i : Nat => l.length - i) (fun i => i ≤ l.length ∧ ∀ x ∈ l.take i, x.key ≠ key)
      (fun i => [(.o .z, .str key), (.i (.o .z), .ptr (H.key 0) 0), (.i (.o (.o .z)), .slice k off (l.map Cell.enc).length 5 ex cap), (.o (.i (.o .z)), .int .i64 l.length), (.i (.i (.o .z)), .int .i64 i)])
      (fun i => [.row true 5 [[.str [], .str [], .int .i64 0, .bool false, .int .i64 0]]]) ?_ 0 (σ := [0]) (Wk.mk' rfl (by decide) (by simp only [go_sem, List.length_map, hrho]) (by simp only [go_sem, List.length_map, hrho])) ⟨by omega, by simp⟩
    rintro i ⟨hi, hno⟩
    by_cases hlt : i < l.length
    · obtain ⟨kk, r, ex', cap', wr, rows, hv, hk, hg, _, hat⟩ := hA.pick (j := i) (by simpa using hlt)
      have hrow := hat i (by simpa using hlt)
      have hgo := Heap.get_ext_old hok hg
      have hw := wrap_succ (n := i) (by omega)
      have hci : (i : Int) < (l.length : Int) := by omega
      have hsi : i + 1 ≤ l.length := by omega
      cases hv
      simp only [go_sem, C106L0, List.length_map, hw, hgo, hrow, hci, hsi, List.getElem?_eq_getElem hlt, Cell.enc]
      have hget : l[i]? = some l[i] := List.getElem?_eq_getElem hlt
      refine ⟨fun he => ?_, fun he => ?_⟩
      · have := getL_at hno hget he
        rw [this]
        exact ⟨rfl, _, rfl⟩
      · refine ⟨i + 1, by show l.length - (i + 1) < l.length - i; omega, ⟨by omega, ?_⟩, _, [0], rfl, Wk.mk' rfl (by decide) (by simp only [go_sem, hrho, List.length_map]) (by simp only [go_sem, hrho, List.length_map])⟩
        rw [take_next hget]
        intro x hx
        rcases List.mem_append.1 hx with h | h
        · exact hno x h
        · simp only [List.mem_singleton] at h; subst h; exact he
    · have hci : ¬ (i : Int) < (l.length : Int) := by omega
      have := getL_none (l := l) (key := key) (by rw [take_all (by omega)] at hno; exact hno)
      simp only [go_sem, C106L0, hci]
      rw [this]
      exact ⟨rfl, _, rfl⟩
end Go.Proofs
/- index: loops that only read, walked. -/

set_option linter.all false
set_option maxRecDepth 100000
namespace Go.Proofs
open Go Go.Ev
variable {H : Heap}

def few (l : List Cell) : Prop := (∀ c ∈ l, (c.key.length : Int) ≤ 20 ∧ (c.value.length : Int) ≤ 40) ∧ (l.length : Int) ≤ 30
instance (l : List Cell) : Decidable (few l) := inferInstanceAs (Decidable (_ ∧ _))

end Go.Proofs
/- index: the order of cells, walked. -/

set_option linter.all false
set_option maxRecDepth 100000
namespace Go.Proofs
open Go Go.Ev
variable {H : Heap}

def okAt (l : List Cell) (j : Nat) : Prop := ∃ c, l[j]? = some c ∧ cellIs c ∧ (0 < j → ∃ d, l[j - 1]? = some d ∧ ltS d.key c.key)
def isIdx (l : List Cell) : Prop := ∀ j, j < l.length → okAt l j
noncomputable instance (l : List Cell) : Decidable (isIdx l) := Classical.propDecidable _

theorem f115_ok {v : AV} {l : List Cell} (hA : Arr H 5 v (l.map Cell.enc)) (hl : l.length < 4294967296) :
    FnOk Tryz.prog 115 [v] H fun r G => r = .bool (decide (isIdx l)) ∧ G = H := by
  refine FnOk.assume fun hok => ?_
  refine FnOk.drop (R := fun r => r = .bool (decide (isIdx l))) ?_ (by rintro v rfl ρ; rw [AV.ren])
  refine FnOk.of_WW Tryz.func115 rfl C115ok R115ok E0 good_E0 ?_
  rcases hA.forms with ⟨rfl, hnil⟩ | ⟨k, off, ex, cap, rfl, hrho⟩
  · have hn0 : l.length = 0 := by simpa using hnil
    simp only [go_sem, C115]
    refine LL.st good_E0 (fun i : Nat => l.length - i) (fun i => i ≤ l.length ∧ ∀ j, j < i → okAt l j)
      (fun i => [(.z, .nils), ((.o (.i .z)), .nils), ((.i (.i .z)), .int .i64 l.length), ((.o (.o (.o .z))), .int .i64 i)])
      (fun i => []) ?_ 0 (σ := []) (Wk.mk' rfl (by decide) (by simp only [go_sem, List.length_map, hn0]) (by simp only [go_sem, List.length_map, hn0])) ⟨by omega, by simp⟩
    rintro i ⟨hi, hno⟩
    by_cases hlt : i < l.length
    · exact absurd hlt (by omega)
    · have hci : ¬ (i : Int) < (l.length : Int) := by omega
      simp only [go_sem, C115L0, List.length_map, hci, show ¬ (i : Int) < 0 by omega]
      exact ⟨bool_t fun j hj => hno j (by omega), _, rfl⟩
  · simp only [go_sem, C115]
    refine LL.st good_E0 (fun i : Nat => l.length - i) (fun i => i ≤ l.length ∧ ∀ j, j < i → okAt l j)
      (fun i => [(.z, .slice k off (l.map Cell.enc).length 5 ex cap), ((.o (.i .z)), .slice k off (l.map Cell.enc).length 5 ex cap), ((.i (.i .z)), .int .i64 l.length), ((.o (.o (.o .z))), .int .i64 i)])
      (fun i => []) ?_ 0 (σ := []) (Wk.mk' rfl (by decide) (by simp only [go_sem, List.length_map, hrho]) (by simp only [go_sem, List.length_map, hrho])) ⟨by omega, by simp⟩
    rintro i ⟨hi, hno⟩
    by_cases hlt : i < l.length
    · obtain ⟨kk, r, ex', cap', wr, rows, hv, hk, hg, _, hat⟩ := hA.pick (j := i) (by simpa using hlt)
      have hrow := hat i (by simpa using hlt)
      have hgo := Heap.get_ext_old hok hg
      have hw := wrap_succ (n := i) (by omega)
      have hci : (i : Int) < (l.length : Int) := by omega
      have hsi : i + 1 ≤ l.length := by omega
      have hget : l[i]? = some l[i] := List.getElem?_eq_getElem hlt
      cases hv
      have hbad : ¬ okAt l i → ¬ isIdx l := fun h g => h (g i hlt)
      simp only [go_sem, C115L0, List.length_map, hw, hgo, hrow, hci, hsi, List.getElem?_eq_getElem hlt, Cell.enc]
      refine CL.bool (f141_ok l[i]) (fun h1 => ?_) (fun h1 => ?_)
      · rcases Nat.eq_zero_or_pos i with h0 | h0
        · subst h0
          have hw0 : IntKind.i64.wrap (0 + 1) = ((0 + 1 : Nat) : Int) := rfl
          simp only [go_sem, List.length_map, hw, hgo, hrow, hci, hsi, List.getElem?_eq_getElem hlt, Cell.enc, Int.lt_irrefl, Int.ofNat_zero, hw0]
          refine ⟨0 + 1, by show l.length - (0 + 1) < l.length - 0; omega, ?_, _, [], rfl, Wk.mk' rfl (by decide) (by simp only [go_sem, hrho, List.length_map]) (by simp only [go_sem, hrho, List.length_map])⟩
          refine ⟨by omega, fun j hj => ?_⟩
          obtain rfl : j = 0 := by omega
          exact ⟨_, hget, h1, fun h => absurd h (by omega)⟩
        · obtain ⟨j, rfl⟩ : ∃ j, i = j + 1 := ⟨i - 1, by omega⟩
          have hrow' := hat j (by simp only [List.length_map]; omega)
          have hp : IntKind.i64.wrap (((j + 1 : Nat) : Int) - 1) = (j : Int) := by rw [wrap_i64 (by omega) (by omega)]; omega
          have hpos : (0 : Int) < ((j + 1 : Nat) : Int) := by omega
          have hltj : (j : Int) < (l.length : Int) := by omega
          have hsj : j + 1 ≤ l.length := by omega
          have hgetj : l[j]? = some l[j] := List.getElem?_eq_getElem (by omega)
          simp only [go_sem, List.length_map, hw, hgo, hrow, hci, hsi, List.getElem?_eq_getElem hlt, Cell.enc, hrow', hp, hpos, hltj, hsj, hgetj]
          refine ⟨fun h2 => ⟨bool_f (hbad ?_), _, rfl⟩, fun h2 => ?_⟩
          · rintro ⟨c, hc, _, hlt'⟩
            obtain ⟨d, hd, hlt'⟩ := hlt' (by omega)
            rw [hget] at hc
            rw [Nat.add_sub_cancel, hgetj] at hd
            cases hc; cases hd
            exact h2 hlt'
          · refine ⟨(j + 1) + 1, by show l.length - ((j + 1) + 1) < l.length - (j + 1); omega, ?_, _, [], rfl, Wk.mk' rfl (by decide) (by simp only [go_sem, hrho, List.length_map]) (by simp only [go_sem, hrho, List.length_map])⟩
            refine ⟨by omega, fun x hx => ?_⟩
            rcases Nat.lt_or_ge x (j + 1) with g | g
            · exact hno x g
            · obtain rfl : x = j + 1 := by omega
              exact ⟨_, hget, h1, fun _ => ⟨_, hgetj, Classical.not_not.1 h2⟩⟩
      · simp only [go_sem, List.length_map, hw, hgo, hrow, hci, hsi, List.getElem?_eq_getElem hlt, Cell.enc]
        exact ⟨bool_f (hbad (by rintro ⟨c, hc, h, _⟩; rw [hget] at hc; cases hc; exact h1 h)), _, rfl⟩
    · have hci : ¬ (i : Int) < (l.length : Int) := by omega
      simp only [go_sem, C115L0, List.length_map, hci]
      exact ⟨bool_t fun j hj => hno j (by omega), _, rfl⟩

end Go.Proofs
/- index: the reference order of cells and sameness, walked. -/

set_option linter.all false
set_option maxRecDepth 100000
namespace Go.Proofs
open Go Go.Ev
variable {H : Heap}

noncomputable def F46 : FuncId → List AV → Option AV
  | 78, [.agg [.str f, .str t], .str k] => some (.bool (decide (has f t k)))
  | _, _ => none
theorem e46 (f t k : List Nat) (H : Heap) : pureE F46 78 [.agg [.str f, .str t], .str k] H = .ok (.bool (decide (has f t k))) H := rfl

end Go.Proofs
/- index: sameness of cells, walked. -/

set_option linter.all false
set_option maxRecDepth 100000
namespace Go.Proofs
open Go Go.Ev
variable {H : Heap}

theorem f44_ok {v w : AV} {l m : List Cell} (hA : Arr H 5 v (l.map Cell.enc)) (hB : Arr H 5 w (m.map Cell.enc)) (hl : l.length < 4294967296) (hm : m.length < 4294967296) :
    FnOk Tryz.prog 44 [v, w] H fun r G => r = .bool (decide (l = m)) ∧ G = H := by
  refine FnOk.assume fun hok => ?_
  refine FnOk.drop (R := fun r => r = .bool (decide (l = m))) ?_ (by rintro v rfl ρ; rw [AV.ren])
  refine FnOk.of_WW Tryz.func44 rfl C44ok R44ok E0 good_E0 ?_
  rcases hA.forms with ⟨rfl, hnil⟩ | ⟨k, off, ex, cap, rfl, hrho⟩ <;> rcases hB.forms with ⟨rfl, hnil2⟩ | ⟨k2, off2, ex2, cap2, rfl, hrho2⟩
  · have hn0 : l.length = 0 := by simpa using hnil
    have hm0 : m.length = 0 := by simpa using hnil2
    by_cases hlen : l.length = m.length
    · have hle : (l.length : Int) = (m.length : Int) := by omega
      have h0 : (0 : Int) = (m.length : Int) := by omega
      have h0 : (l.length : Int) = 0 := by omega
      simp only [go_sem, C44, List.length_map, hle, h0.symm]
      refine LL.st good_E0 (fun i : Nat => l.length - i) (fun i => i ≤ l.length ∧ ∀ j, j < i → l[j]? = m[j]?)
        (fun i => [(.z, .nils), ((.o .z), .nils), ((.o (.i .z)), .int .i64 i)])
        (fun i => []) ?_ 0 (σ := []) (Wk.mk' rfl (by decide) (by simp only [go_sem, List.length_map, hn0, hm0]) (by simp only [go_sem, List.length_map, hn0, hm0])) ⟨by omega, by simp⟩
      rintro i ⟨hi, hno⟩
      by_cases hlt : i < l.length
      · exact absurd hlt (by omega)
      · have hci : ¬ (i : Int) < (l.length : Int) := by omega
        simp only [go_sem, C44L0, List.length_map, hci, show ¬ (i : Int) < 0 by omega]
        refine ⟨bool_t (List.ext_getElem? fun j => ?_), _, rfl⟩
        rcases Nat.lt_or_ge j l.length with g | g
        · exact hno j (by omega)
        · rw [List.getElem?_eq_none g, List.getElem?_eq_none (by omega)]
    · have hne : ¬ (l.length : Int) = (m.length : Int) := by omega
      have h0 : ¬ (0 : Int) = (m.length : Int) := by omega
      have h0 : ¬ (l.length : Int) = 0 := by omega
      exact absurd (hn0.trans hm0.symm) hlen
  · have hn0 : l.length = 0 := by simpa using hnil
    skip
    by_cases hlen : l.length = m.length
    · have hle : (l.length : Int) = (m.length : Int) := by omega
      have h0 : (0 : Int) = (m.length : Int) := by omega
      skip
      simp only [go_sem, C44, List.length_map, hle, h0.symm]
      refine LL.st good_E0 (fun i : Nat => l.length - i) (fun i => i ≤ l.length ∧ ∀ j, j < i → l[j]? = m[j]?)
        (fun i => [(.z, .nils), ((.o .z), .slice k2 off2 (m.map Cell.enc).length 5 ex2 cap2), ((.o (.i .z)), .int .i64 i)])
        (fun i => []) ?_ 0 (σ := []) (Wk.mk' rfl (by decide) (by simp only [go_sem, List.length_map, hn0, hrho2]) (by simp only [go_sem, List.length_map, hn0, hrho2])) ⟨by omega, by simp⟩
      rintro i ⟨hi, hno⟩
      by_cases hlt : i < l.length
      · exact absurd hlt (by omega)
      · have hci : ¬ (i : Int) < (l.length : Int) := by omega
        simp only [go_sem, C44L0, List.length_map, hci, show ¬ (i : Int) < 0 by omega]
        refine ⟨bool_t (List.ext_getElem? fun j => ?_), _, rfl⟩
        rcases Nat.lt_or_ge j l.length with g | g
        · exact hno j (by omega)
        · rw [List.getElem?_eq_none g, List.getElem?_eq_none (by omega)]
    · have hne : ¬ (l.length : Int) = (m.length : Int) := by omega
      have h0 : ¬ (0 : Int) = (m.length : Int) := by omega
      skip
      simp only [go_sem, C44, List.length_map, hne, h0]
      exact ⟨bool_f fun h => hlen (by rw [h]), _, rfl⟩
  · skip
    have hm0 : m.length = 0 := by simpa using hnil2
    by_cases hlen : l.length = m.length
    · have hle : (l.length : Int) = (m.length : Int) := by omega
      skip
      have h0 : (l.length : Int) = 0 := by omega
      simp only [go_sem, C44, List.length_map, h0]
      refine LL.st good_E0 (fun i : Nat => l.length - i) (fun i => i ≤ l.length ∧ ∀ j, j < i → l[j]? = m[j]?)
        (fun i => [(.z, .slice k off (l.map Cell.enc).length 5 ex cap), ((.o .z), .nils), ((.o (.i .z)), .int .i64 i)])
        (fun i => []) ?_ 0 (σ := []) (Wk.mk' rfl (by decide) (by simp only [go_sem, List.length_map, hrho, hm0]) (by simp only [go_sem, List.length_map, hrho, hm0])) ⟨by omega, by simp⟩
      rintro i ⟨hi, hno⟩
      by_cases hlt : i < l.length
      · exact absurd hlt (by omega)
      · have hci : ¬ (i : Int) < (l.length : Int) := by omega
        simp only [go_sem, C44L0, List.length_map, hci]
        refine ⟨bool_t (List.ext_getElem? fun j => ?_), _, rfl⟩
        rcases Nat.lt_or_ge j l.length with g | g
        · exact hno j (by omega)
        · rw [List.getElem?_eq_none g, List.getElem?_eq_none (by omega)]
    · have hne : ¬ (l.length : Int) = (m.length : Int) := by omega
      skip
      have h0 : ¬ (l.length : Int) = 0 := by omega
      simp only [go_sem, C44, List.length_map, hne, h0]
      exact ⟨bool_f fun h => hlen (by rw [h]), _, rfl⟩
  · skip
    skip
    by_cases hlen : l.length = m.length
    · have hle : (l.length : Int) = (m.length : Int) := by omega
      skip
      skip
      simp only [go_sem, C44, List.length_map, hle]
      refine LL.st good_E0 (fun i : Nat => l.length - i) (fun i => i ≤ l.length ∧ ∀ j, j < i → l[j]? = m[j]?)
        (fun i => [(.z, .slice k off (l.map Cell.enc).length 5 ex cap), ((.o .z), .slice k2 off2 (m.map Cell.enc).length 5 ex2 cap2), ((.o (.i .z)), .int .i64 i)])
        (fun i => []) ?_ 0 (σ := []) (Wk.mk' rfl (by decide) (by simp only [go_sem, List.length_map, hrho, hrho2]) (by simp only [go_sem, List.length_map, hrho, hrho2])) ⟨by omega, by simp⟩
      rintro i ⟨hi, hno⟩
      by_cases hlt : i < l.length
      · obtain ⟨kk, r, ex', cap', wr, rows, hv, hk, hg, _, hat⟩ := hA.pick (j := i) (by simpa using hlt)
        have hrow := hat i (by simpa using hlt)
        have hgo := Heap.get_ext_old hok hg
        have hw := wrap_succ (n := i) (by omega)
        have hci : (i : Int) < (l.length : Int) := by omega
        have hsi : i + 1 ≤ l.length := by omega
        have hget : l[i]? = some l[i] := List.getElem?_eq_getElem hlt
        cases hv
        obtain ⟨kk2, r2, ex2', cap2', wr2, rows2, hv2, hk2, hg2, _, hat2⟩ := hB.pick (j := i) (by simpa [hlen] using hlt)
        have hrow2 := hat2 i (by simpa [hlen] using hlt)
        have hgo2 := Heap.get_ext_old hok hg2
        have hci2 : (i : Int) < (m.length : Int) := by omega
        have hsi2 : i + 1 ≤ m.length := by omega
        have hget2 : m[i]? = some m[i] := List.getElem?_eq_getElem (by omega)
        cases hv2
        have hbad : ¬ l[i] = m[i] → ¬ l = m := fun h e => h (Option.some.inj (by rw [← hget, ← hget2, e]))
        simp only [go_sem, C44L0, List.length_map, hw, hgo, hrow, hci, hsi, List.getElem?_eq_getElem hlt, Cell.enc, hrow2, hgo2, hci2, hsi2, hget2]
        have hex : l[i] = m[i] ↔ l[i].key = m[i].key ∧ l[i].value = m[i].value ∧ l[i].ver = m[i].ver ∧ l[i].del = m[i].del ∧ l[i].floor = m[i].floor := by
          cases l[i]; cases m[i]; simp
        refine ⟨fun a1 => ⟨fun a2 => ⟨fun a3 => ⟨fun a4 => ⟨fun a5 => ?_, fun h => ⟨bool_f (hbad fun e => h (hex.1 e).2.2.2.2), _, rfl⟩⟩, fun h => ⟨bool_f (hbad fun e => h (hex.1 e).2.2.2.1), _, rfl⟩⟩, fun h => ⟨bool_f (hbad fun e => h (hex.1 e).2.2.1), _, rfl⟩⟩, fun h => ⟨bool_f (hbad fun e => h (hex.1 e).2.1), _, rfl⟩⟩, fun h => ⟨bool_f (hbad fun e => h (hex.1 e).1), _, rfl⟩⟩
        refine ⟨i + 1, by show l.length - (i + 1) < l.length - i; omega, ?_, _, [], rfl, Wk.mk' rfl (by decide) (by simp only [go_sem, hrho, List.length_map, hrho2]) (by simp only [go_sem, hrho, List.length_map, hrho2])⟩
        refine ⟨by omega, fun j hj => ?_⟩
        rcases Nat.lt_or_ge j i with g | g
        · exact hno j g
        · obtain rfl : j = i := by omega
          rw [hget, hget2, hex.2 ⟨a1, a2, a3, a4, a5⟩]
      · have hci : ¬ (i : Int) < (l.length : Int) := by omega
        simp only [go_sem, C44L0, List.length_map, hci]
        refine ⟨bool_t (List.ext_getElem? fun j => ?_), _, rfl⟩
        rcases Nat.lt_or_ge j l.length with g | g
        · exact hno j (by omega)
        · rw [List.getElem?_eq_none g, List.getElem?_eq_none (by omega)]
    · have hne : ¬ (l.length : Int) = (m.length : Int) := by omega
      skip
      skip
      simp only [go_sem, C44, List.length_map, hne]
      exact ⟨bool_f fun h => hlen (by rw [h]), _, rfl⟩

end Go.Proofs
/- index: the cells of a span, walked. -/


set_option linter.all false
set_option maxRecDepth 100000
namespace Go.Proofs
open Go Go.Ev
variable {H : Heap}

noncomputable def withinL (f t : List Nat) (l : List Cell) : List Cell := l.filter fun c => decide (has f t c.key)
theorem withinL_yes {f t : List Nat} {l : List Cell} {i : Nat} {c : Cell} (h : l[i]? = some c) (h2 : has f t c.key) : withinL f t (l.take (i + 1)) = withinL f t (l.take i) ++ [c] := by
  rw [take_next h]; simp [withinL, h2]
theorem withinL_no {f t : List Nat} {l : List Cell} {i : Nat} {c : Cell} (h : l[i]? = some c) (h2 : ¬ has f t c.key) : withinL f t (l.take (i + 1)) = withinL f t (l.take i) := by
  rw [take_next h]; simp [withinL, h2]
theorem withinL_len (f t : List Nat) (l : List Cell) (i : Nat) : (withinL f t (l.take i)).length ≤ i := Nat.le_trans (List.length_filter_le _ _) (by simp; omega)

theorem f73_ok {v : AV} {l : List Cell} (hA : Arr H 5 v (l.map Cell.enc)) (hl : l.length < 4294967296) (f t : List Nat) :
    FnOk Tryz.prog 73 [v, .agg [.str f, .str t]] H fun r G => r = outV H.nx 5 (withinL f t l).length ∧ G = H.ext (outL 5 ((withinL f t l).map Cell.enc)) := by
  refine FnOk.assume fun hok => ?_
  rw [show (withinL f t l).length = ((withinL f t l).map Cell.enc).length from (List.length_map ..).symm]
  refine FnOk.dropV (Cell.map_rens · _) ?_
  rw [List.length_map]
  refine FnOk.of_WW Tryz.func73 rfl C73ok R73ok E0 good_E0 ?_
  rcases hA.forms with ⟨rfl, hnil⟩ | ⟨k, off, ex, cap, rfl, hrho⟩
  · have hn0 : l.length = 0 := by simpa using hnil
    simp only [go_sem, C73]
    refine LL.st good_E0 (fun i : Nat => l.length - i) (fun i => i ≤ l.length)
      (fun i => [((.o (.o .z)), .ptr (H.key 0) 0), ((.o (.i .z)), outV (H.key 1) 5 (withinL f t (l.take i)).length), ((.i (.o (.o .z))), .nils), ((.o (.i (.o .z))), .int .i64 l.length), ((.i (.i (.o .z))), .int .i64 i)])
      (fun i => [.row true 2 [[.str f, .str t]], outB 5 ((withinL f t (l.take i)).map Cell.enc)]) ?_ 0 (σ := [0, 1]) (Wk.mk' rfl (by decide) (by simp only [go_sem, List.length_map, hn0, withinL, List.filter_nil]) (by simp only [go_sem, List.length_map, hn0, withinL, List.filter_nil])) (by omega)
    rintro i hi
    by_cases hlt : i < l.length
    · exact absurd hlt (by omega)
    · have hci : ¬ (i : Int) < (l.length : Int) := by omega
      simp only [go_sem, C73L0, List.length_map, hci, show ¬ (i : Int) < 0 by omega]
      rw [take_all (by omega)]
      exact ⟨_, 1, rfl, rfl, rfl⟩
  · simp only [go_sem, C73]
    refine LL.st good_E0 (fun i : Nat => l.length - i) (fun i => i ≤ l.length)
      (fun i => [((.o (.o .z)), .ptr (H.key 0) 0), ((.o (.i .z)), outV (H.key 1) 5 (withinL f t (l.take i)).length), ((.i (.o (.o .z))), .slice k off (l.map Cell.enc).length 5 ex cap), ((.o (.i (.o .z))), .int .i64 l.length), ((.i (.i (.o .z))), .int .i64 i)])
      (fun i => [.row true 2 [[.str f, .str t]], outB 5 ((withinL f t (l.take i)).map Cell.enc)]) ?_ 0 (σ := [0, 1]) (Wk.mk' rfl (by decide) (by simp only [go_sem, List.length_map, hrho, withinL, List.filter_nil]) (by simp only [go_sem, List.length_map, hrho, withinL, List.filter_nil])) (by omega)
    rintro i hi
    by_cases hlt : i < l.length
    · obtain ⟨kk, r, ex', cap', wr, rows, hv, hk, hg, _, hat⟩ := hA.pick (j := i) (by simpa using hlt)
      have hrow := hat i (by simpa using hlt)
      have hgo := Heap.get_ext_old hok hg
      have hw := wrap_succ (n := i) (by omega)
      have hci : (i : Int) < (l.length : Int) := by omega
      have hsi : i + 1 ≤ l.length := by omega
      have hget : l[i]? = some l[i] := List.getElem?_eq_getElem hlt
      cases hv
      have hlen := withinL_len f t l i
      rcases hx : withinL f t (l.take i) with _ | ⟨x, xs⟩
      · simp only [go_sem, C73L0, e46, List.length_map, hw, hgo, hrow, hci, hsi, List.getElem?_eq_getElem hlt, Cell.enc]
        refine CL.bool (f61_ok f t l[i].key) (fun h1 => ?_) (fun h1 => ?_)
        · have hnew : withinL f t (l.take (i + 1)) = [l[i]] := by rw [withinL_yes hget h1, hx]; rfl
          try simp only [go_sem, List.length_map, hw, hgo, hrow, hci, hsi, List.getElem?_eq_getElem hlt, Cell.enc]
          refine ⟨i + 1, by show l.length - (i + 1) < l.length - i; omega, ?_, _, [0, 4], rfl, Wk.mk' rfl (by decide) (by simp only [go_sem, hrho, List.length_map, hnew, Cell.enc, Cell.map_rens]) (by simp only [go_sem, hrho, List.length_map, hnew, Cell.enc, Cell.map_rens])⟩
          omega
        · have hnew : withinL f t (l.take (i + 1)) = [] := by rw [withinL_no hget h1, hx]
          try simp only [go_sem, List.length_map, hw, hgo, hrow, hci, hsi, List.getElem?_eq_getElem hlt, Cell.enc]
          refine ⟨i + 1, by show l.length - (i + 1) < l.length - i; omega, ?_, _, [0, 1], rfl, Wk.mk' rfl (by decide) (by simp only [go_sem, hrho, List.length_map, hnew, Cell.enc, Cell.map_rens]) (by simp only [go_sem, hrho, List.length_map, hnew, Cell.enc, Cell.map_rens])⟩
          omega
      · have hfull : ¬ xs.length + 1 ≤ xs.length := by omega
        have htk : List.take xs.length (xs.map Cell.enc) = xs.map Cell.enc := List.take_of_length_le (by simp)
        have hself : xs.length ≤ xs.length := Nat.le_refl _
        have hmx : (2 * (xs.length + 1 + 1) + 192) * 56 ≤ 281474976710656 := by rw [hx] at hlen; simp only [List.length_cons] at hlen; omega
        simp only [go_sem, C73L0, e46, List.length_map, hw, hgo, hrow, hci, hsi, List.getElem?_eq_getElem hlt, Cell.enc, hfull, htk, hself, hmx]
        refine CL.bool (f61_ok f t l[i].key) (fun h1 => ?_) (fun h1 => ?_)
        · have hnew : withinL f t (l.take (i + 1)) = x :: (xs ++ [l[i]]) := by rw [withinL_yes hget h1, hx]; rfl
          try simp only [go_sem, List.length_map, hw, hgo, hrow, hci, hsi, List.getElem?_eq_getElem hlt, Cell.enc, hfull, htk, hself, hmx]
          refine ⟨i + 1, by show l.length - (i + 1) < l.length - i; omega, ?_, _, [0, 4], rfl, Wk.mk' rfl (by decide) (by simp only [go_sem, hrho, List.length_map, hnew, Cell.enc, Cell.map_rens]) (by simp only [go_sem, hrho, List.length_map, hnew, Cell.enc, Cell.map_rens])⟩
          omega
        · have hnew : withinL f t (l.take (i + 1)) = x :: xs := by rw [withinL_no hget h1, hx]
          try simp only [go_sem, List.length_map, hw, hgo, hrow, hci, hsi, List.getElem?_eq_getElem hlt, Cell.enc]
          refine ⟨i + 1, by show l.length - (i + 1) < l.length - i; omega, ?_, _, [0, 1], rfl, Wk.mk' rfl (by decide) (by simp only [go_sem, hrho, List.length_map, hnew, Cell.enc, Cell.map_rens]) (by simp only [go_sem, hrho, List.length_map, hnew, Cell.enc, Cell.map_rens])⟩
          omega
    · have hci : ¬ (i : Int) < (l.length : Int) := by omega
      simp only [go_sem, C73L0, List.length_map, hci]
      rw [take_all (by omega)]
      exact ⟨_, 1, rfl, rfl, rfl⟩

end Go.Proofs
/- index: the rows of a span, walked. -/

set_option linter.all false
set_option maxRecDepth 100000
namespace Go.Proofs
open Go Go.Ev
variable {H : Heap}

def there (c : Cell) : Prop := 0 < c.ver ∧ c.del = false
instance (c : Cell) : Decidable (there c) := inferInstanceAs (Decidable (_ ∧ _))
def Cell.row (c : Cell) : List AV := [.str c.key, .str c.value, .int .i64 c.ver]
end Go.Proofs
/- index: a cell put in its place, walked. -/


set_option linter.all false
set_option maxRecDepth 100000
namespace Go.Proofs
open Go Go.Ev
variable {H : Heap}

theorem clo50 : CloFn Tryz.prog 80 5 56 [.str [], .str [], .int .i64 0, .bool false, .int .i64 0] := ⟨⟨Tryz.f80, Tryz.func80, by kernel_rfl, by kernel_rfl⟩, rfl, by decide⟩
theorem ins51 : InsFn Tryz.prog 151 5 56 [.str [], .str [], .int .i64 0, .bool false, .int .i64 0] := ⟨⟨Tryz.f151, 155, 156, Tryz.func151, by kernel_rfl, by kernel_rfl, by kernel_rfl, by kernel_rfl⟩, rfl, by decide⟩
/-- the cell c put among the cells l -/
noncomputable def withL (l : List Cell) (c : Cell) : List Cell :=
  match l with
  | [] => [c]
  | d :: l => if ltS d.key c.key then d :: withL l c else if d.key = c.key then c :: l else c :: d :: l
theorem withL_at : ∀ (l : List Cell) (c : Cell) (i : Nat), (∀ j d, j < i → l[j]? = some d → ltS d.key c.key) → i ≤ l.length →
    (∀ d, l[i]? = some d → ¬ ltS d.key c.key) → withL l c = l.take i ++ c :: (match l[i]? with | none => [] | some d => if d.key = c.key then l.drop (i + 1) else l.drop i)
  | [], c, i, _, hi, _ => by
    obtain rfl : i = 0 := by simpa using hi
    rfl
  | d :: l, c, 0, _, _, h => by
    have := h d rfl
    simp [withL, this]
    split <;> rfl
  | d :: l, c, i + 1, h, hi, h2 => by
    have h1 := h 0 d (by omega) rfl
    have ih := withL_at l c i (fun j e hj he => h (j + 1) e (by omega) (by simpa using he)) (by simpa using hi) (fun e he => h2 e (by simpa using he))
    simp only [withL, h1, if_true, ih, List.take_succ_cons, List.cons_append, List.getElem?_cons_succ, List.drop_succ_cons]

noncomputable def withC (l : List Cell) (c : Cell) : List Cell := if cellIs c then withL l c else l
/-- a slice handed back that is nil only where the given one is -/
def frV (v : AV) (k : K) (esz n : Nat) : AV := match v with | .nils => outV k esz n | _ => .slice k 0 n esz false n
def frL (v : AV) (esz : Nat) (xs : List (List AV)) : List Blk := match v with | .nils => outL esz xs | _ => [.row true esz xs]

theorem f139_nil {c : Cell} : FnOk Tryz.prog 139 [.nils, .agg c.enc] H fun r G => r = frV (.nils) H.nx 5 (withC [] c).length ∧ G = H.ext (frL (.nils) 5 ((withC [] c).map Cell.enc)) := by
  refine FnOk.assume fun hok => ?_
  by_cases hc : cellIs c
  · rw [withC, if_pos hc]
    refine FnOk.drop1 (esz := 5) (n := 1) (ex := false) (cap := 1) (b := .row true 5 [c.enc]) ?_ (fun ρ => by simp only [Blk.ren, List.map_cons, List.map_nil, Cell.rens])
    refine FnOk.of_WW Tryz.func139 rfl C139ok R139ok E0 good_E0 ?_
    simp only [go_sem, C139, Cell.enc]
    refine CL.of (clone_nil clo50) ?_
    rintro _ _ ⟨rfl, rfl⟩
    simp only [go_sem, Cell.enc]
    refine CL.bool (f141_ok c) (fun h1 => ?_) (fun h1 => absurd hc h1)
    simp only [go_sem]
    refine LL.st good_E0 (fun i : Nat => 0) (fun i => True)
      (fun i => [((.o (.o .z)), .ptr (H.key 0) 0), ((.o (.i .z)), .nils), ((.i (.i .z)), .int .i64 0)])
      (fun i => [.row true 5 [c.enc]]) ?_ 0 (σ := [0]) (Wk.mk' rfl (by decide) (by simp only [go_sem, Cell.enc]) (by simp only [go_sem, Cell.enc])) trivial
    rintro i -
    simp only [go_sem, C139L0, Cell.enc]
    refine CL.of (insert_nil ins51 (x := c.enc) (wr := true) (by rw [Heap.get_ext_key _ _ _ (by simp)]; rfl) (by decide)) ?_
    rintro _ _ ⟨rfl, rfl⟩
    simp only [go_sem]
    exact ⟨_, 2, rfl, rfl, rfl⟩
  · rw [withC, if_neg hc]
    refine (FnOk.drop (R := fun r => r = .nils) ?_ (by rintro v rfl ρ; rw [AV.ren])).mono (by rintro v G ⟨rfl, rfl⟩; exact ⟨rfl, (Heap.ext_nil _).symm⟩)
    refine FnOk.of_WW Tryz.func139 rfl C139ok R139ok E0 good_E0 ?_
    simp only [go_sem, C139, Cell.enc]
    refine CL.of (clone_nil clo50) ?_
    rintro _ _ ⟨rfl, rfl⟩
    simp only [go_sem, Cell.enc]
    refine CL.bool (f141_ok c) (fun h1 => absurd h1 hc) (fun h1 => ?_)
    simp only [go_sem]
    exact ⟨_, rfl⟩

theorem f139_zero {c : Cell} {k : K} {off : Nat} {ex : Bool} {cap : Nat} : FnOk Tryz.prog 139 [.slice k off 0 5 ex cap, .agg c.enc] H fun r G => r = frV (.slice k off 0 5 ex cap) H.nx 5 (withC [] c).length ∧ G = H.ext (frL (.slice k off 0 5 ex cap) 5 ((withC [] c).map Cell.enc)) := by
  refine FnOk.assume fun hok => ?_
  by_cases hc : cellIs c
  · rw [withC, if_pos hc]
    refine FnOk.drop1 (esz := 5) (n := 1) (ex := false) (cap := 1) (b := .row true 5 [c.enc]) ?_ (fun ρ => by simp only [Blk.ren, List.map_cons, List.map_nil, Cell.rens])
    refine FnOk.of_WW Tryz.func139 rfl C139ok R139ok E0 good_E0 ?_
    simp only [go_sem, C139, Cell.enc]
    refine CL.of (clone_zero clo50) ?_
    rintro _ _ ⟨rfl, rfl⟩
    simp only [go_sem, Cell.enc]
    refine CL.bool (f141_ok c) (fun h1 => ?_) (fun h1 => absurd hc h1)
    simp only [go_sem]
    refine LL.st good_E0 (fun i : Nat => 0) (fun i => True)
      (fun i => [((.o (.o .z)), .ptr (H.key 0) 0), ((.o (.i .z)), .slice (H.key 1) 0 0 5 true 0), ((.i (.i .z)), .int .i64 0)])
      (fun i => [.row true 5 [c.enc], .row true 5 []]) ?_ 0 (σ := [0, 1]) (Wk.mk' rfl (by decide) (by simp only [go_sem, Cell.enc]) (by simp only [go_sem, Cell.enc])) trivial
    rintro i -
    simp only [go_sem, C139L0, Cell.enc]
    refine CL.of (insert_zero ins51 (x := c.enc) (wr := true) (by rw [Heap.get_ext_key _ _ _ (by simp)]; rfl) (by rw [Heap.get_ext_key _ _ _ (by simp)]; rfl) (by decide)) ?_
    rintro _ _ ⟨rfl, rfl⟩
    simp only [go_sem]
    exact ⟨_, 3, rfl, rfl, rfl⟩
  · rw [withC, if_neg hc]
    refine FnOk.loose (FnOk.drop1 (esz := 5) (n := 0) (ex := true) (cap := 0) (b := .row true 5 []) ?_ (fun ρ => rfl))
    refine FnOk.of_WW Tryz.func139 rfl C139ok R139ok E0 good_E0 ?_
    simp only [go_sem, C139, Cell.enc]
    refine CL.of (clone_zero clo50) ?_
    rintro _ _ ⟨rfl, rfl⟩
    simp only [go_sem, Cell.enc]
    refine CL.bool (f141_ok c) (fun h1 => absurd h1 hc) (fun h1 => ?_)
    simp only [go_sem]
    exact ⟨_, 1, rfl, rfl, rfl⟩

theorem f139_arr {c : Cell} {l : List Cell} {k : K} {off : Nat} {ex : Bool} {cap : Nat} (hA : Arr H 5 (.slice k off (l.map Cell.enc).length 5 ex cap) (l.map Cell.enc)) (h0 : 0 < l.length) (hl : l.length < 4294967295) :
    FnOk Tryz.prog 139 [.slice k off (l.map Cell.enc).length 5 ex cap, .agg c.enc] H fun r G => r = .slice H.nx 0 (withC l c).length 5 false (withC l c).length ∧ G = H.ext [.row true 5 ((withC l c).map Cell.enc)] := by
  refine FnOk.assume fun hok => ?_
  have hmb : (2 * (l.map Cell.enc).length + 192) * 56 ≤ 281474976710656 := by rw [List.length_map]; omega
  have hclo := clone_any clo50 (hA.ext [.row true 5 [c.enc]]) hmb (Cell.map_rens · l)
  refine FnOk.drop1 (esz := 5) (n := (withC l c).length) (ex := false) (cap := (withC l c).length) (b := .row true 5 ((withC l c).map Cell.enc)) ?_ (fun ρ => by rw [Blk.ren, Cell.map_rens])
  refine FnOk.of_WW Tryz.func139 rfl C139ok R139ok E0 good_E0 ?_
  simp only [go_sem, C139, Cell.enc]
  simp only [Cell.enc, List.length_map] at hclo
  refine CL.of hclo ?_
  rintro v G (⟨rfl, hn, rfl⟩ | ⟨rfl, rfl⟩)
  · exact absurd (congrArg List.length hn) (by rw [List.length_map, List.length_nil]; omega)
  have hins : ∀ i ≤ l.length, _ := fun i (hi : i ≤ l.length) => insert_own (H := H.ext [.row true 5 [c.enc], .row true 5 (l.map Cell.enc), .row true 5 [c.enc]]) ins51 (kv := H.key 2) (k := H.key 1) (x := c.enc) (i := i) (rows := l.map Cell.enc) (fun e => absurd (congrArg K.toNat e) (by rw [Heap.toNat_key, Heap.toNat_key]; omega)) (by rw [Heap.get_ext_key _ _ _ (by simp)]; rfl) (by rw [Heap.get_ext_key _ _ _ (by simp)]; rfl) (by rw [List.length_map]; omega) (by rw [List.length_map]; omega) (by rw [List.length_map]; omega) (by rw [List.length_map]; omega)
  simp only [Cell.enc, List.length_map] at hins
  simp only [go_sem, List.length_map]
  refine CL.bool (f141_ok c) (fun h1 => ?_) (fun h1 => ?_)
  · simp only [go_sem]
    rw [withC, if_pos h1]
    refine LL.st good_E0 (fun i : Nat => l.length - i) (fun i => i ≤ l.length ∧ ∀ j d, j < i → l[j]? = some d → ltS d.key c.key)
      (fun i => [((.o (.o .z)), .ptr (H.key 0) 0), ((.o (.i .z)), .slice (H.key 1) 0 l.length 5 false l.length), ((.i (.i .z)), .int .i64 i)])
      (fun i => [.row true 5 [c.enc], .row true 5 (l.map Cell.enc)]) ?_ 0 (σ := [0, 1]) (Wk.mk' rfl (by decide) (by simp only [go_sem, Cell.enc, Cell.map_rens]) (by simp only [go_sem, Cell.enc, Cell.map_rens])) ⟨by omega, by intro j d h; omega⟩
    rintro i ⟨hi, hno⟩
    have hins := hins i hi
    by_cases hlt : i < l.length
    · have hw := wrap_succ (n := i) (by omega)
      have hci : (i : Int) < (l.length : Int) := by omega
      have hsi : i + 1 ≤ l.length := by omega
      have hget : l[i]? = some l[i] := List.getElem?_eq_getElem hlt
      have hmi : (l.map Cell.enc)[i]? = some l[i].enc := by rw [List.getElem?_map, hget]; rfl
      simp only [go_sem, C139L0, hw, hci, hsi, hmi, hget, Cell.enc]
      refine ⟨fun h2 => ?_, fun h2 => ?_⟩
      · refine ⟨i + 1, by show l.length - (i + 1) < l.length - i; omega, ⟨by omega, ?_⟩, _, [0, 1], rfl, Wk.mk' rfl (by decide) (by simp only [go_sem, List.length_map, Cell.map_rens]) (by simp only [go_sem, List.length_map, Cell.map_rens])⟩
        intro j d hj hd
        rcases Nat.lt_or_ge j i with g | g
        · exact hno j d g hd
        · obtain rfl : j = i := by omega
          rw [hget] at hd; cases hd; exact h2
      · have hwl := withL_at l c i hno hi (fun d hd => by rw [hget] at hd; cases hd; exact h2)
        rw [hget] at hwl
        refine ⟨fun h3 => ?_, fun h3 => ?_⟩
        · rw [hwl]
          simp only [h3, if_true]
          have hlen : (List.take i l ++ c :: List.drop (i + 1) l).length = l.length := by rw [List.length_append, List.length_take, List.length_cons, List.length_drop]; omega
          rw [hlen]
          refine ⟨_, 1, rfl, rfl, ?_⟩
          rw [List.map_append, List.map_cons, List.map_take, List.map_drop]
          rw [show [AV.str c.key, AV.str c.value, AV.int .i64 c.ver, AV.bool c.del, AV.int .i64 c.floor] = c.enc from rfl, List.set_eq_take_append_cons_drop, if_pos (by rw [List.length_map]; exact hlt)]
          rfl
        · refine CL.of hins ?_
          rintro _ _ ⟨rfl, rfl⟩
          simp only [go_sem, List.length_map]
          rw [hwl]
          simp only [h3, if_false]
          have hlen : (List.take i l ++ c :: List.drop i l).length = l.length + 1 := by rw [List.length_append, List.length_take, List.length_cons, List.length_drop]; omega
          rw [hlen, Heap.set_ext_key _ _ _ _ (by simp), Heap.ext_append]
          refine ⟨_, 3, rfl, rfl, ?_⟩
          rw [List.map_append, List.map_cons]
          first | rw [List.map_take, List.map_drop] | rw [List.map_take, List.map_nil]
          rfl
    · have hci : ¬ (i : Int) < (l.length : Int) := by omega
      have hin : i = l.length := by omega
      have hnone : l[i]? = none := List.getElem?_eq_none (by omega)
      have hwl := withL_at l c i hno hi (fun d hd => by rw [hnone] at hd; cases hd)
      rw [hnone] at hwl
      simp only [go_sem, C139L0, List.length_map, hci, Cell.enc]
      refine CL.of hins ?_
      rintro _ _ ⟨rfl, rfl⟩
      simp only [go_sem, List.length_map]
      rw [hwl]
      have hlen : (List.take i l ++ [c]).length = l.length + 1 := by rw [List.length_append, List.length_take, List.length_cons, List.length_nil]; omega
      have hdr : List.drop i (l.map Cell.enc) = [] := List.drop_of_length_le (by rw [List.length_map]; omega)
      simp only [hdr]
      rw [hlen, Heap.set_ext_key _ _ _ _ (by simp), Heap.ext_append]
      refine ⟨_, 3, rfl, rfl, ?_⟩
      rw [List.map_append, List.map_cons]
      first | rw [List.map_take, List.map_drop] | rw [List.map_take, List.map_nil]
      rfl
  · simp only [go_sem]
    rw [withC, if_neg h1]
    exact ⟨_, 1, rfl, rfl, rfl⟩

end Go.Proofs
/- index: the reference way to put a cell in its place, walked. -/

set_option linter.all false
set_option maxRecDepth 100000
namespace Go.Proofs
open Go Go.Ev
variable {H : Heap}

theorem f139_ok {v : AV} {l : List Cell} (hA : Arr H 5 v (l.map Cell.enc)) (hl : l.length < 4294967295) (c : Cell) :
    FnOk Tryz.prog 139 [v, .agg c.enc] H fun r G => r = frV v H.nx 5 (withC l c).length ∧ G = H.ext (frL v 5 ((withC l c).map Cell.enc)) := by
  rcases hA.forms with ⟨rfl, hnil⟩ | ⟨k, off, ex, cap, rfl, _⟩
  · obtain rfl : l = [] := List.map_eq_nil_iff.1 hnil
    exact f139_nil
  · rcases Nat.eq_zero_or_pos l.length with h0 | h0
    · obtain rfl := List.length_eq_zero_iff.1 h0
      exact f139_zero
    · exact f139_arr hA h0 hl
noncomputable def stepW (c : Cell) (s : List Cell × Bool) (d : Cell) : List Cell × Bool :=
  let s' := if s.2 = false ∧ ¬ ltS d.key c.key then (s.1 ++ [c], true) else s
  (if d.key = c.key then s'.1 else s'.1 ++ [d], s'.2)
noncomputable def runW (c : Cell) (l : List Cell) : List Cell × Bool := l.foldl (stepW c) ([], false)
noncomputable def refW (l : List Cell) (c : Cell) : List Cell := if (runW c l).2 then (runW c l).1 else (runW c l).1 ++ [c]
end Go.Proofs
/- index: the law that both ways tell the same, walked. -/

set_option linter.all false
set_option maxRecDepth 100000
namespace Go.Proofs
open Go Go.Ev
variable {H : Heap}

theorem filter_all {c : Cell} : ∀ (l : List Cell) (a : List Cell), (∀ d ∈ l, d.key ≠ c.key) → l.foldl (stepW c) (a, true) = (a ++ l, true)
  | [], a, _ => by simp
  | d :: l, a, h => by
    have h1 := h d (by simp)
    rw [List.foldl_cons, show stepW c (a, true) d = (a ++ [d], true) by simp [stepW, h1], filter_all l _ fun x hx => h x (by simp [hx])]
    simp
theorem fold_withL {c : Cell} : ∀ (l : List Cell) (a : List Cell), List.Pairwise (fun x y => ltS x.key y.key) l → (if (l.foldl (stepW c) (a, false)).2 then (l.foldl (stepW c) (a, false)).1 else (l.foldl (stepW c) (a, false)).1 ++ [c]) = a ++ withL l c
  | [], a, _ => by simp [withL]
  | d :: l, a, h => by
    rw [List.pairwise_cons] at h
    rw [List.foldl_cons, withL]
    by_cases h1 : ltS d.key c.key
    · have hne : d.key ≠ c.key := fun e => ltS_irrefl _ (e ▸ h1)
      rw [show stepW c (a, false) d = (a ++ [d], false) by simp [stepW, h1, hne], fold_withL l _ h.2, if_pos h1]
      simp
    · rw [if_neg h1]
      by_cases h2 : d.key = c.key
      · rw [show stepW c (a, false) d = (a ++ [c], true) by simp [stepW, h2, ltS_irrefl], filter_all l _ (fun x hx e => ltS_irrefl _ (show ltS c.key c.key by have := h.1 x hx; rw [e, h2] at this; exact this)), if_pos h2]
        simp
      · have h3 : ltS c.key d.key := by rcases ltS_tri d.key c.key with g | g | g; exact absurd g h1; exact absurd g h2; exact g
        rw [show stepW c (a, false) d = (a ++ [c] ++ [d], true) by simp [stepW, h1, h2], filter_all l _ (fun x hx e => ltS_irrefl _ (show ltS c.key c.key by have := ltS_trans h3 (h.1 x hx); rw [e] at this; exact this)), if_neg h2]
        simp
theorem isIdx_pair {l : List Cell} (h : isIdx l) : List.Pairwise (fun x y => ltS x.key y.key) l := by
  have key : ∀ (n i : Nat) (c d : Cell), l[i]? = some c → l[i + n + 1]? = some d → ltS c.key d.key := by
    intro n
    induction n with
    | zero =>
      intro i c d hc hd
      obtain ⟨d', h1, _, h2⟩ := h (i + 1) (List.getElem?_eq_some_iff.1 hd).1
      rw [show i + 0 + 1 = i + 1 from rfl, h1] at hd; cases hd
      obtain ⟨c', h3, h4⟩ := h2 (by omega)
      rw [Nat.add_sub_cancel, hc] at h3; cases h3
      exact h4
    | succ n ih =>
      intro i c d hc hd
      have hi := (List.getElem?_eq_some_iff.1 hd).1
      obtain ⟨e, he⟩ : ∃ e, l[i + 1]? = some e := ⟨_, List.getElem?_eq_getElem (by omega)⟩
      obtain ⟨e', h1, _, h2⟩ := h (i + 1) (by omega)
      rw [he] at h1; cases h1
      obtain ⟨c', h3, h4⟩ := h2 (by omega)
      rw [Nat.add_sub_cancel, hc] at h3; cases h3
      exact ltS_trans h4 (ih (i + 1) e d he (by rw [← hd]; congr 1; omega))
  rw [List.pairwise_iff_getElem]
  intro i j hi hj hij
  exact key (j - i - 1) i _ _ (List.getElem?_eq_getElem hi) (by rw [show i + (j - i - 1) + 1 = j by omega]; exact List.getElem?_eq_getElem hj)
theorem refW_eq {l : List Cell} (h : isIdx l) (c : Cell) : refW l c = withL l c := fold_withL l [] (isIdx_pair h)
end Go.Proofs
/- once: numbers and texts as bytes, answers that may be: walked. -/


set_option linter.all false
set_option maxRecDepth 100000
namespace Go.Proofs
open Go Go.Ev
variable {H : Heap}

def byteV (b : Nat) : AV := .int .u8 (b : Int)
/-- a byte, in a cell -/
def byteC (b : Nat) : List AV := [byteV b]
theorem byteC_rens (ρ : K → K) (l : List Nat) : (l.map byteC).map (AV.rens ρ) = l.map byteC := by
  rw [List.map_map]
  refine List.map_congr_left fun j _ => ?_
  show [AV.ren ρ (.int .u8 (j : Int))] = _
  rw [AV.ren]; rfl
theorem byteC_ren1 (ρ : K → K) (b : Nat) : AV.rens ρ (byteC b) = byteC b := by show [AV.ren ρ (.int .u8 (b : Int))] = _; rw [AV.ren]; rfl
theorem bytesC_all {β : Type} : ∀ {l : List Nat} (_ : ∀ b ∈ l, b ≤ 255) (f : β) (c : List Nat → β), bytesC (l.map byteV) f c = c l
  | [], _, _, _ => rfl
  | b :: l, h, f, c => by
    show bif' (Nat.beq (kn .u8) 4) (bif' (Nat.ble b 255) (bytesC (l.map byteV) f fun r => c (b :: r)) f) f = _
    rw [show Nat.beq (kn .u8) 4 = true from rfl, bif_true, show Nat.ble b 255 = true by rw [Nat.ble_eq]; exact h b (by simp), bif_true]
    exact bytesC_all (fun x hx => h x (by simp [hx])) f _
theorem flat_bytes : ∀ l : List Nat, (l.map byteC).flatten = l.map byteV
  | [] => rfl
  | b :: l => by rw [List.map_cons, List.flatten_cons, flat_bytes l]; rfl
theorem read_bytes {β : Type} {l : List Nat} (h : 0 < l.length) (f : β) (c : List AV → β) : readC f 1 (l.map byteC) 0 l.length c = c (l.map byteV) := by
  match l, h with
  | b :: l, _ =>
    by_cases hl : l = []
    · subst hl
      simp only [List.map_cons, List.map_nil, List.length_cons, List.length_nil]
      rfl
    · have h1 : 0 < l.length := List.length_pos_iff.2 hl
      have h2 : ((b :: l).map byteC).flatten = (b :: l).map byteV := flat_bytes _
      unfold readC
      simp only [fN_eq, nthL_eq, Nat.zero_div, Nat.zero_mod, dropL_eq, List.drop_zero, flatL_eq, h2, takeC_eq, Nat.zero_add, List.length_map, Nat.le_refl, if_true]
      show bif' (Nat.beq 0 0 && Nat.beq (b :: l).length 1) (c [byteV b]) (bif' (Nat.ble (b :: l).length 1) (if (b :: l).length ≤ 1 then c _ else f) (c (List.take (b :: l).length _))) = _
      rw [show Nat.beq (b :: l).length 1 = false by rw [Bool.eq_false_iff]; intro e; rw [Nat.beq_eq] at e; simp at e; exact hl e, show Nat.ble (b :: l).length 1 = false by rw [Bool.eq_false_iff]; intro e; rw [Nat.ble_eq, List.length_cons] at e; omega]
      show c _ = c _
      rw [List.take_of_length_le (by rw [List.length_map]; exact Nat.le_refl _)]
theorem and63 {m : Nat} (h : m < 9223372036854775808) : IntKind.i64.wrap ((BitVec.ofInt IntKind.i64.bits (m : Int) &&& BitVec.ofInt IntKind.i64.bits 63).toNat : Int) = ((m % 64 : Nat) : Int) := by
  have h1 : (BitVec.ofInt IntKind.i64.bits (m : Int) &&& BitVec.ofInt IntKind.i64.bits 63).toNat = m % 64 := by
    rw [BitVec.toNat_and, BitVec.toNat_ofInt, BitVec.toNat_ofInt]
    show ((m : Int) % ((2 ^ 64 : Nat) : Int)).toNat &&& ((63 : Int) % ((2 ^ 64 : Nat) : Int)).toNat = _
    rw [show ((m : Int) % ((2 ^ 64 : Nat) : Int)).toNat = m by omega, show ((63 : Int) % ((2 ^ 64 : Nat) : Int)).toNat = 2 ^ 6 - 1 by decide, Nat.and_two_pow_sub_one_eq_mod]
  rw [h1]
  exact wrap_i64 (by omega) (by omega)
theorem or64 {r : Nat} (h : r < 64) : IntKind.i64.wrap ((BitVec.ofInt IntKind.i64.bits 64 ||| BitVec.ofInt IntKind.i64.bits (r : Int)).toNat : Int) = ((64 + r : Nat) : Int) := by
  have h1 : (BitVec.ofInt IntKind.i64.bits 64 ||| BitVec.ofInt IntKind.i64.bits (r : Int)).toNat = 64 + r := by
    rw [BitVec.toNat_or, BitVec.toNat_ofInt, BitVec.toNat_ofInt]
    show ((64 : Int) % ((2 ^ 64 : Nat) : Int)).toNat ||| ((r : Int) % ((2 ^ 64 : Nat) : Int)).toNat = _
    rw [show ((r : Int) % ((2 ^ 64 : Nat) : Int)).toNat = r by omega, show ((64 : Int) % ((2 ^ 64 : Nat) : Int)).toNat = 2 ^ 6 * 1 by decide]
    exact (Nat.two_pow_add_eq_or_of_lt (i := 6) h 1).symm
  rw [h1]
  exact wrap_i64 (by omega) (by omega)
theorem bin_and63 {β : Type} {P : Program} (ek : EK) (pk : Option (List LK)) (lit : Bool) {m : Nat} (h : m < 9223372036854775808) (f : β) (c : AV → β) : binV P ek pk lit .and (.int .i64 (m : Int)) (.int .i64 63) f c = c (.int .i64 ((m % 64 : Nat) : Int)) := by rw [bin_and, and63 h]
theorem bin_or64 {β : Type} {P : Program} (ek : EK) (pk : Option (List LK)) (lit : Bool) {r : Nat} (h : r < 64) (f : β) (c : AV → β) : binV P ek pk lit .or (.int .i64 64) (.int .i64 (r : Int)) f c = c (.int .i64 ((64 + r : Nat) : Int)) := by rw [bin_or, or64 h]
@[go_sem] theorem bin_shr6 {β : Type} {P : Program} (ek : EK) (pk : Option (List LK)) (lit : Bool) (a : Int) (f : β) (c : AV → β) : binV P ek pk lit .shr (.int .i64 a) (.int .u64 6) f c = c (.int .i64 (a.fdiv 64)) := bin_shr ek pk lit .i64 a f c .u64 6
/-- a number's bytes -/
def numT (n : Nat) : List Nat := if h : n < 64 then [n] else (64 + n % 64) :: numT (n / 64)
termination_by n
decreasing_by omega
theorem numT_lo {n : Nat} (h : n < 64) : numT n = [n] := by rw [numT, dif_pos h]
theorem numT_hi {n : Nat} (h : ¬ n < 64) : numT n = (64 + n % 64) :: numT (n / 64) := by rw [numT, dif_neg h]
theorem numT_len : ∀ (k n : Nat), n < 64 ^ (k + 1) → (numT n).length ≤ k + 1
  | 0, n, h => by rw [numT_lo (by simpa using h)]; simp
  | k + 1, n, h => by
    by_cases hn : n < 64
    · rw [numT_lo hn]; simp
    · rw [numT_hi hn, List.length_cons]
      have : n / 64 < 64 ^ (k + 1) := by
        rw [Nat.div_lt_iff_lt_mul (by decide)]
        rw [Nat.pow_succ] at h
        exact h
      have := numT_len k (n / 64) this
      omega
theorem numT_pos (n : Nat) : 0 < (numT n).length := by
  by_cases hn : n < 64
  · rw [numT_lo hn]; simp
  · rw [numT_hi hn]; simp
theorem numT_small {n : Nat} (h : n < 9223372036854775808) : (numT n).length ≤ 11 := numT_len 10 n (by omega)
theorem f144_ok {n : Nat} (hn : n < 9223372036854775808) : FnOk Tryz.prog 144 [.int .i64 (n : Int)] H fun r G => r = .str (numT n) ∧ G = H := by
  refine FnOk.drop (R := fun r => r = .str (numT n)) ?_ (by rintro v rfl ρ; rw [AV.ren])
  refine FnOk.of_WW Tryz.func144 rfl C144ok R144ok E0 good_E0 ?_
  have hmax : max (n : Int) 0 = (n : Int) := by omega
  simp only [go_sem, C144, hmax]
  refine LL.st good_E0 (fun s : Nat × List Nat => s.1) (fun s => s.1 ≤ n ∧ s.2 ++ numT s.1 = numT n ∧ ∀ b ∈ s.2, b ≤ 255)
    (fun s => [(.z, .int .i64 s.1), ((.o (.o .z)), outV (H.key 0) 1 s.2.length)]) (fun s => [outB 1 (s.2.map byteC)]) ?_ (n, []) (σ := [0]) (Wk.of rfl (by decide) (by simp only [go_sem]) (by simp only [go_sem, ↓outB_ren', ↓zB_ren, byteC_rens, byteC_ren1, implies_true])) ⟨Nat.le_refl _, rfl, by simp⟩
  rintro ⟨m, acc⟩ ⟨hm, hacc, hby⟩
  simp only at hm hacc hby
  have hlen := congrArg List.length hacc
  rw [List.length_append] at hlen
  have h11 := numT_small hn
  have hmp := numT_pos m
  by_cases hlt : m < 64
  · have hc : ¬ (64 : Int) ≤ (m : Int) := by omega
    have hw := wrap_u8 (m := m) (by omega)
    simp only [go_sem, ↓appR_hide, C144L0, hc, hw]
    refine RW_app _ (byteC m) rfl (List.length_map ..) rfl (okBig_le (by omega) (by decide)) ?_
    have hs : acc.map byteC ++ [byteC m] = (acc ++ [m]).map byteC := by rw [List.map_append]; rfl
    have hsl : (acc ++ [m]).length = acc.length + 1 := by rw [List.length_append]; rfl
    have hB := outB_pos (e := 1) (xs := (acc ++ [m]).map byteC) (by rw [List.length_map, hsl]; omega)
    have hrd := fun c => read_bytes (l := acc ++ [m]) (by omega) R1.fail c
    have hall := fun c => bytesC_all (l := acc ++ [m]) (fun b hb => by
      rcases List.mem_append.1 hb with h | h
      · exact hby b h
      · rw [List.mem_singleton] at h; omega) R1.fail c
    rw [hsl] at hrd
    rw [hs, hB]
    rw [numT_lo hlt] at hacc
    rw [hacc] at hall hrd ⊢
    simp only [go_sem, hrd, hall]
    exact ⟨_, rfl⟩
  · have hc : (64 : Int) ≤ (m : Int) := by omega
    have ha := fun f c => bin_and63 (β := R1) (P := Tryz.prog) .no none true (m := m) (by omega) f c
    have hr : m % 64 < 64 := Nat.mod_lt _ (by decide)
    have ho := fun f c => bin_or64 (β := R1) (P := Tryz.prog) .no none true hr f c
    have hu := wrap_u8 (m := 64 + m % 64) (by omega)
    have hs : Int.fdiv (m : Int) 64 = ((m / 64 : Nat) : Int) := by rw [Int.fdiv_eq_ediv_of_nonneg _ (by decide)]; omega
    simp only [go_sem, ↓appR_hide, C144L0, hc, ↓ha, ↓ho, hu, hs]
    refine RW_app _ (byteC (64 + m % 64)) rfl (List.length_map ..) rfl (okBig_le (by omega) (by decide)) ?_
    have hs2 : acc.map byteC ++ [byteC (64 + m % 64)] = (acc ++ [64 + m % 64]).map byteC := by rw [List.map_append]; rfl
    rw [hs2]
    simp only [go_sem, hs]
    refine ⟨(m / 64, acc ++ [64 + m % 64]), by show m / 64 < m; omega, ⟨by show m / 64 ≤ n; omega, ?_, ?_⟩, _, [2], rfl, Wk.of rfl (by decide) (by simp only [go_sem, outV_ren']) (by simp only [go_sem, ↓outB_ren', ↓zB_ren, byteC_rens, byteC_ren1, implies_true])⟩
    · show (acc ++ [64 + m % 64]) ++ numT (m / 64) = numT n
      rw [← hacc, numT_hi hlt, List.append_assoc]; rfl
    · intro b hb
      rcases List.mem_append.1 hb with h | h
      · exact hby b h
      · rw [List.mem_singleton] at h; omega
end Go.Proofs
/- once: texts as bytes, answers that may be: walked. -/

set_option linter.all false
set_option maxRecDepth 100000
namespace Go.Proofs
open Go Go.Ev
variable {H : Heap}

def textT (s : List Nat) : List Nat := numT s.length ++ s
theorem f145_ok {s : List Nat} (hs : s.length < 4611686018427387904) : FnOk Tryz.prog 145 [.str s] H fun r G => r = .str (textT s) ∧ G = H := by
  refine FnOk.drop (R := fun r => r = .str (textT s)) ?_ (by rintro v rfl ρ; rw [AV.ren])
  refine FnOk.of_WW Tryz.func145 rfl C145ok R145ok E0 good_E0 ?_
  have h := numT_small (n := s.length) (by omega)
  have hle : (numT s.length).length + s.length ≤ 9223372036854775807 := by omega
  simp only [go_sem, C145]
  refine CL.one (f144_ok (by omega)) ?_
  simp only [go_sem, hle]
  exact ⟨rfl, _, rfl⟩
/-- a row of an answer -/
structure Rw where
  k : List Nat
  v : List Nat
  ver : Int
def Rw.enc (r : Rw) : List AV := [.str r.k, .str r.v, .int .i64 r.ver]
theorem Rw.rens (ρ : K → K) (c : Rw) : AV.rens ρ c.enc = c.enc := by simp only [Rw.enc, AV.rens, AV.ren]
theorem Rw.map_rens (ρ : K → K) (l : List Rw) : (l.map Rw.enc).map (AV.rens ρ) = l.map Rw.enc := by
  rw [List.map_map]; exact List.map_congr_left fun c _ => Rw.rens ρ c
theorem Rw.enc_inj {c d : Rw} (h : c.k = d.k ∧ c.v = d.v ∧ c.ver = d.ver) : c = d := by cases c; cases d; simp_all
def badR (r : Rw) : Prop := (255 : Int) < (r.k.length : Int) ∨ (255 : Int) < (r.v.length : Int) ∨ r.ver < 0 ∨ (281474976710656 : Int) ≤ r.ver
instance (r : Rw) : Decidable (badR r) := inferInstanceAs (Decidable (_ ∨ _))
theorem f152_ok (c : Rw) : FnOk Tryz.prog 152 [.agg c.enc] H fun r G => r = .bool (decide (badR c)) ∧ G = H := by
  refine FnOk.drop (R := fun r => r = .bool (decide (badR c))) ?_ (by rintro v rfl ρ; rw [AV.ren])
  refine FnOk.of_WW Tryz.func152 rfl C152ok R152ok E0 good_E0 ?_
  simp only [go_sem, C152, Rw.enc]
  refine ⟨fun h => ⟨bool_t (.inl h), _, rfl⟩, fun h1 => ⟨fun h => ⟨bool_t (.inr (.inl h)), _, rfl⟩, fun h2 => ⟨fun h => ⟨bool_t (.inr (.inr (.inl h))), _, rfl⟩, fun h3 => ⟨fun h => ⟨bool_t (.inr (.inr (.inr h))), _, rfl⟩, fun h4 => ⟨bool_f ?_, _, rfl⟩⟩⟩⟩⟩
  rintro (h | h | h | h)
  · exact h1 h
  · exact h2 h
  · exact h3 h
  · exact h4 h
def anyBad (l : List Rw) : Prop := ∃ r ∈ l, badR r
noncomputable instance (l : List Rw) : Decidable (anyBad l) := Classical.propDecidable _
theorem f157_ok {v : AV} {l : List Rw} (hA : Arr H 3 v (l.map Rw.enc)) (hl : l.length ≤ 9223372036854775807) :
    FnOk Tryz.prog 157 [v, .fn (.func 152) [] []] H fun r G => (∃ n : Int, r = .int .i64 n ∧ (0 ≤ n ↔ anyBad l)) ∧ G = H := by
  refine FnOk.assume fun hok => ?_
  refine FnOk.drop (R := fun r => ∃ n : Int, r = .int .i64 n ∧ (0 ≤ n ↔ anyBad l)) ?_ (by rintro v ⟨n, rfl, _⟩ ρ; rw [AV.ren])
  refine FnOk.of_WW Tryz.func157 rfl C157ok R157ok E0 good_E0 ?_
  have hlen := fun G => hA.len G; simp only [List.length_map] at hlen; have hren := hA.ren
  simp only [go_sem, C157, hlen]
  refine LL.st good_E0 (fun i : Nat => l.length - i) (fun i => i ≤ l.length ∧ ∀ j d, j < i → l[j]? = some d → ¬ badR d)
    (fun i => [(.z, v), ((.o .z), .fn (.func 152) [] []), ((.i (.i .z)), v), ((.o (.o (.o .z))), .int .i64 l.length), ((.i (.o (.o .z))), .int .i64 i)]) (fun i => []) ?_ 0 (σ := []) (Wk.of rfl (by decide) (by simp only [go_sem, hren]) (by simp only [go_sem])) ⟨Nat.zero_le _, fun j d h => absurd h (Nat.not_lt_zero _)⟩
  rintro i ⟨hi, hno⟩
  by_cases hlt : i < l.length
  · obtain ⟨kk, r, ex', cap', wr, rows, hv, hrho, hgo, hrow⟩ := hA.at hok (j := i) (by rw [List.length_map]; exact hlt); simp only [List.length_map, List.getElem_map] at hv hrow; cases hv; have hget : l[i]? = some l[i] := List.getElem?_eq_getElem hlt; generalize l[i] = c at hrow hget; have hw := wrap_succ (n := i) (by omega); have hci : (i : Int) < (l.length : Int) := (by omega); have hsi : i + 1 ≤ l.length := (by omega)
    simp only [go_sem, C157L0, hci, hsi, hgo, hrow, hw, Rw.enc]
    refine CL.bool (f152_ok c) (fun g => ?_) (fun g => ?_)
    · simp only [go_sem]
      exact ⟨⟨_, rfl, fun _ => ⟨c, List.mem_of_getElem? hget, g⟩, fun _ => by omega⟩, _, rfl⟩
    · simp only [go_sem, hw]
      refine ⟨i + 1, by show l.length - (i + 1) < l.length - i; omega, ⟨by omega, fun j d hj hd => ?_⟩, _, [], rfl, Wk.of rfl (by decide) (by simp only [go_sem, hren, hrho, hw]) (by simp only [go_sem])⟩
      rcases Nat.lt_or_ge j i with h | h
      · exact hno j d h hd
      · obtain rfl : j = i := by omega
        rw [hget] at hd; cases hd; exact g
  · have hci : ¬ (i : Int) < (l.length : Int) := by omega
    simp only [go_sem, C157L0, hci]
    refine ⟨⟨_, rfl, fun h => absurd h (by decide), ?_⟩, _, rfl⟩
    rintro ⟨d, hd, hb⟩
    obtain ⟨j, hj⟩ := List.mem_iff_getElem?.1 hd
    exact absurd hb (hno j d (by have := (List.getElem?_eq_some_iff.1 hj).1; omega) hj)
theorem f153_ok {v : AV} {l : List Rw} (hA : Arr H 3 v (l.map Rw.enc)) (hl : l.length ≤ 9223372036854775807) :
    FnOk Tryz.prog 153 [v, .fn (.func 152) [] []] H fun r G => r = .bool (decide (anyBad l)) ∧ G = H := by
  refine FnOk.drop (R := fun r => r = .bool (decide (anyBad l))) ?_ (by rintro v rfl ρ; rw [AV.ren])
  refine FnOk.of_WW Tryz.func153 rfl C153ok R153ok E0 good_E0 ?_
  simp only [go_sem, C153]
  refine CL.of (f157_ok (hA.ext []) hl) ?_
  rintro _ _ ⟨⟨n, rfl, hn⟩, rfl⟩
  simp only [go_sem]
  exact ⟨fun h => ⟨bool_t (hn.1 h), [], rfl⟩, fun h => ⟨bool_f fun e => h (hn.2 e), [], rfl⟩⟩
/-- an answer, with where its rows lie -/
structure An where
  code : Int
  val : List Nat
  ver : Int
  rows : List Rw
  rv : AV
def An.enc (a : An) : List AV := [.int .i64 a.code, .str a.val, .int .i64 a.ver, a.rv]
def An.ok (H : Heap) (a : An) : Prop := Arr H 3 a.rv (a.rows.map Rw.enc) ∧ a.rows.length ≤ 9223372036854775807
theorem An.ok.ext {a : An} (h : a.ok H) (L : List Blk) : a.ok (H.ext L) := ⟨h.1.ext L, h.2⟩
def isAns (a : An) : Prop := (0 ≤ a.code ∧ a.code < 281474976710656 ∧ 0 ≤ a.ver ∧ a.ver < 281474976710656 ∧ (a.val.length : Int) ≤ 255) ∧ (a.rows.length : Int) ≤ 16 ∧ ¬ anyBad a.rows
noncomputable instance (a : An) : Decidable (isAns a) := Classical.propDecidable _
theorem f143_ok {a : An} (h : a.ok H) : FnOk Tryz.prog 143 [.agg a.enc] H fun r G => r = .bool (decide (isAns a)) ∧ G = H := by
  refine FnOk.drop (R := fun r => r = .bool (decide (isAns a))) ?_ (by rintro v rfl ρ; rw [AV.ren])
  refine FnOk.of_WW Tryz.func143 rfl C143ok R143ok E0 good_E0 ?_
  have hlen := fun G => h.1.len G
  simp only [List.length_map] at hlen
  simp only [go_sem, C143, An.enc, hlen]
  refine ⟨fun g => ⟨bool_f fun e => absurd e.1.1 (by omega), _, rfl⟩, fun g1 => ⟨fun g => ⟨bool_f fun e => absurd e.1.2.1 (by omega), _, rfl⟩, fun g2 => ⟨fun g => ⟨bool_f fun e => absurd e.1.2.2.1 (by omega), _, rfl⟩, fun g3 => ⟨fun g => ⟨bool_f fun e => absurd e.1.2.2.2.1 (by omega), _, rfl⟩, fun g4 => ⟨fun g => ⟨bool_f fun e => absurd e.1.2.2.2.2 (by omega), _, rfl⟩, fun g5 => ⟨fun g => ⟨bool_f fun e => absurd e.2.1 (by omega), _, rfl⟩, fun g6 => ?_⟩⟩⟩⟩⟩⟩
  refine CL.bool (f153_ok (h.1.ext _) h.2) (fun g7 => ?_) (fun g7 => ?_)
  · simp only [go_sem]
    exact ⟨bool_f fun e => e.2.2 g7, _, rfl⟩
  · simp only [go_sem]
    exact ⟨bool_t ⟨⟨by omega, by omega, by omega, by omega, by omega⟩, by omega, g7⟩, _, rfl⟩
end Go.Proofs
/- once: an answer's bytes; whether an answer may be, by the document: walked. -/

set_option linter.all false
set_option maxRecDepth 100000
namespace Go.Proofs
open Go Go.Ev
variable {H : Heap}

theorem f126_ok {a : An} (h : a.ok H) : FnOk Tryz.prog 126 [.agg a.enc] H fun r G => r = .bool (decide (isAns a)) ∧ G = H := by
  refine FnOk.assume fun hok => ?_
  refine FnOk.drop (R := fun r => r = .bool (decide (isAns a))) ?_ (by rintro v rfl ρ; rw [AV.ren])
  refine FnOk.of_WW Tryz.func126 rfl C126ok R126ok E0 good_E0 ?_
  obtain ⟨code, val, ver, l, v⟩ := a
  obtain ⟨hA, hl⟩ := h
  simp only at hA hl
  have hlen := fun G => hA.len G
  simp only [List.length_map] at hlen
  have hren := hA.ren
  simp only [go_sem, C126, An.enc, hlen]
  refine LL.st good_E0 (fun i : Nat => l.length - i) (fun i => i ≤ l.length ∧ ∀ j d, j < i → l[j]? = some d → ¬ badR d)
    (fun i => [((.o .z), .ptr (H.key 0) 0), ((.o (.o .z)), .int .i64 i)]) (fun i => [.row true 4 [[.int .i64 code, .str val, .int .i64 ver, v]]]) ?_ 0 (σ := [0]) (Wk.of rfl (by decide) (by simp only [go_sem, hren]) (by simp only [go_sem, hren])) ⟨Nat.zero_le _, fun j d h => absurd h (Nat.not_lt_zero _)⟩
  rintro i ⟨hi, hno⟩
  by_cases hlt : i < l.length
  · obtain ⟨kk, r, ex', cap', wr, rows, hv, hrho, hgo, hrow⟩ := hA.at hok (j := i) (by rw [List.length_map]; exact hlt); simp only [List.length_map, List.getElem_map] at hv hrow; cases hv; have hget : l[i]? = some l[i] := List.getElem?_eq_getElem hlt; generalize l[i] = c at hrow hget; have hw := wrap_succ (n := i) (by omega); have hci : (i : Int) < (l.length : Int) := (by omega); have hsi : i + 1 ≤ l.length := (by omega)
    have hbad : badR c → AV.bool false = .bool (decide (isAns ⟨code, val, ver, l, .slice kk (r * 3) l.length 3 ex' cap'⟩)) := fun g => bool_f fun e => e.2.2 ⟨c, List.mem_of_getElem? hget, g⟩
    simp only [go_sem, C126L0, hci, hsi, hgo, hrow, hw, hlen, Rw.enc]
    refine ⟨fun g => ⟨hbad (.inl g), _, rfl⟩, fun g1 => ⟨fun g => ⟨hbad (.inr (.inl g)), _, rfl⟩, fun g2 => ⟨fun g => ⟨hbad (.inr (.inr (.inl g))), _, rfl⟩, fun g3 => ⟨fun g => ⟨hbad (.inr (.inr (.inr g))), _, rfl⟩, fun g4 => ?_⟩⟩⟩⟩
    refine ⟨i + 1, by show l.length - (i + 1) < l.length - i; omega, ⟨by omega, fun j d hj hd => ?_⟩, _, [0], rfl, Wk.of rfl (by decide) (by simp only [go_sem, hren, hrho, hw]) (by simp only [go_sem, hren, hrho])⟩
    rcases Nat.lt_or_ge j i with h | h
    · exact hno j d h hd
    · obtain rfl : j = i := by omega
      rw [hget] at hd; cases hd
      rintro (h | h | h | h)
      · exact g1 h
      · exact g2 h
      · exact g3 h
      · exact g4 h
  · have hci : ¬ (i : Int) < (l.length : Int) := by omega
    have hnb : ¬ anyBad l := by
      rintro ⟨d, hd, hb⟩
      obtain ⟨j, hj⟩ := List.mem_iff_getElem?.1 hd
      exact absurd hb (hno j d (by have := (List.getElem?_eq_some_iff.1 hj).1; omega) hj)
    simp only [go_sem, C126L0, hci, hlen]
    refine ⟨fun g1 => ⟨fun g2 => ⟨fun g3 => ⟨fun g4 => ⟨fun g5 => ⟨fun g6 => ⟨bool_t ⟨⟨g1, g2, g3, g4, g5⟩, g6, hnb⟩, _, rfl⟩, fun g => ⟨bool_f fun e => g e.2.1, _, rfl⟩⟩, fun g => ⟨bool_f fun e => g e.1.2.2.2.2, _, rfl⟩⟩, fun g => ⟨bool_f fun e => g e.1.2.2.2.1, _, rfl⟩⟩, fun g => ⟨bool_f fun e => g e.1.2.2.1, _, rfl⟩⟩, fun g => ⟨bool_f fun e => g e.1.2.1, _, rfl⟩⟩, fun g => ⟨bool_f fun e => g e.1.1, _, rfl⟩⟩
noncomputable def EO1 : FuncId → List AV → Heap → RC
  | 144, [.int .i64 n], H => if 0 ≤ n ∧ n < 9223372036854775808 then .ok (.str (numT n.toNat)) H else .fail
  | 145, [.str s], H => if s.length < 4611686018427387904 then .ok (.str (textT s)) H else .fail
  | _, _, _ => .fail
theorem good_EO1 : Ev.Good Tryz.prog EO1 := by
  intro f args H r G he φ w args' ha hw
  refine (?_ : FnOk Tryz.prog f args H fun v' G' => v' = r ∧ G' = G).one φ w args' ha hw
  unfold EO1 at he
  split at he
  · rename_i n
    split at he
    · rename_i hn
      cases he
      have := f144_ok (H := H) (n := n.toNat) (by omega)
      rwa [Int.toNat_of_nonneg hn.1] at this
    · cases he
  · split at he
    · rename_i hs
      cases he
      exact f145_ok hs
    · cases he
  · cases he
theorem e69 {n : Int} (h0 : 0 ≤ n) (h1 : n < 9223372036854775808) (H : Heap) : EO1 144 [.int .i64 n] H = .ok (.str (numT n.toNat)) H := if_pos ⟨h0, h1⟩
theorem e70 {s : List Nat} (h : s.length < 4611686018427387904) (H : Heap) : EO1 145 [.str s] H = .ok (.str (textT s)) H := if_pos h
def rowT (r : Rw) : List Nat := (textT r.k ++ textT r.v) ++ numT r.ver.toNat
def headT (a : An) : List Nat := ((numT a.code.toNat ++ textT a.val) ++ numT a.ver.toNat) ++ numT a.rows.length
def ansP (a : An) (i : Nat) : List Nat := (a.rows.take i).foldl (fun s r => s ++ rowT r) (headT a)
noncomputable def ansT (a : An) : List Nat := open Classical in if isAns a then ansP a a.rows.length else []
theorem ansP_succ {a : An} {i : Nat} {c : Rw} (h : a.rows[i]? = some c) : ansP a (i + 1) = ansP a i ++ rowT c := by
  obtain ⟨hl, rfl⟩ := List.getElem?_eq_some_iff.1 h
  unfold ansP
  rw [List.take_succ_eq_append_getElem hl, List.foldl_append]; rfl
theorem textT_len {s : List Nat} (h : (s.length : Int) ≤ 255) : (textT s).length ≤ 266 := by
  unfold textT
  rw [List.length_append]
  have := numT_small (n := s.length) (by omega)
  omega
theorem foldl_len (l : List Rw) : ∀ s : List Nat, s.length ≤ (l.foldl (fun s r => s ++ rowT r) s).length := by
  induction l with
  | nil => intro s; exact Nat.le_refl _
  | cons r l ih =>
    intro s
    refine Nat.le_trans ?_ (ih _)
    rw [List.length_append]; omega
theorem ansT_nil {a : An} : ansT a = [] ↔ ¬ isAns a := by
  unfold ansT
  by_cases h : isAns a
  · rw [if_pos h]
    refine ⟨fun e => ?_, fun g => absurd h g⟩
    have h1 := foldl_len (a.rows.take a.rows.length) (headT a)
    have h2 : (headT a).length = 0 := by
      have := congrArg List.length e
      unfold ansP at this
      rw [this] at h1
      simpa using h1
    unfold headT at h2
    have := numT_pos a.rows.length
    simp only [List.length_append] at h2
    omega
  · rw [if_neg h]; exact ⟨fun _ => h, fun _ => rfl⟩
theorem f119_ok {a : An} (h : a.ok H) : FnOk Tryz.prog 119 [.agg a.enc] H fun r G => r = .str (ansT a) ∧ G = H := by
  refine FnOk.assume fun hok => ?_
  refine FnOk.drop (R := fun r => r = .str (ansT a)) ?_ (by rintro v rfl ρ; rw [AV.ren])
  refine FnOk.of_WW Tryz.func119 rfl C119ok R119ok EO1 good_EO1 ?_
  have hans : isAns a → ansT a = ansP a a.rows.length := fun g => by unfold ansT; rw [if_pos g]
  have hnot : ¬ isAns a → ansT a = [] := ansT_nil.2
  have hsucc := @ansP_succ a
  have h0 : ansP a 0 = headT a := rfl
  have hbox := h
  obtain ⟨hA, hl⟩ := h
  have hlen := fun G => hA.len G
  simp only [List.length_map] at hlen
  have hren := hA.ren
  simp only [go_sem, C119, An.enc]
  refine CL.bool (f143_ok (a := a) (hbox.ext _)) (fun g => ?_) (fun g => ?_)
  · have hnb : ∀ r ∈ a.rows, ¬ badR r := fun r hr hb => g.2.2 ⟨r, hr, hb⟩
    have hr16 := g.2.1
    obtain ⟨c1, c2, c3, c4, c5⟩ := g.1
    have x1 := fun G => e69 c1 (by omega) G
    have x2 := fun G => e70 (s := a.val) (by omega) G
    have x3 := fun G => e69 c3 (by omega) G
    have x4 := fun G => e69 (n := (a.rows.length : Int)) (by omega) (by omega) G
    rw [Int.toNat_natCast] at x4
    have n1 := numT_small (n := a.code.toNat) (by omega)
    have n2 := textT_len c5
    have n3 := numT_small (n := a.ver.toNat) (by omega)
    have n4 := numT_small (n := a.rows.length) (by omega)
    have m1 : (numT a.code.toNat).length + (textT a.val).length ≤ 9223372036854775807 := by omega
    have m2 : (numT a.code.toNat).length + (textT a.val).length + (numT a.ver.toNat).length ≤ 9223372036854775807 := by omega
    have m3 : (numT a.code.toNat).length + (textT a.val).length + (numT a.ver.toNat).length + (numT a.rows.length).length ≤ 9223372036854775807 := by omega
    have mh : (headT a).length ≤ 1000 := by unfold headT; rw [List.length_append, List.length_append, List.length_append]; omega
    have hhead : numT a.code.toNat ++ textT a.val ++ numT a.ver.toNat ++ numT a.rows.length = headT a := rfl
    simp only [go_sem, hlen, x1, x2, x3, x4, m1, m2, m3, hhead]
    have hfin := hans g
    obtain ⟨code, val, ver, l, v⟩ := a
    simp only at hA hl hlen hren hnb hr16 hfin hsucc
    refine LL.st good_EO1 (fun i : Nat => l.length - i) (fun i => i ≤ l.length ∧ (ansP ⟨code, val, ver, l, v⟩ i).length ≤ 1000 + 1000 * i)
      (fun i => [((.o (.o .z)), .str (ansP ⟨code, val, ver, l, v⟩ i)), ((.i (.i (.o (.i .z)))), v), ((.o (.o (.i (.i .z)))), .int .i64 l.length), ((.i (.o (.i (.i .z)))), .int .i64 i)]) (fun i => []) ?_ 0 (σ := []) (Wk.of rfl (by decide) (by simp only [go_sem, hren, h0]) (by simp only [go_sem])) ⟨Nat.zero_le _, by rw [h0]; omega⟩
    rintro i ⟨hi, hpl⟩
    by_cases hlt : i < l.length
    · generalize hP : ansP ⟨code, val, ver, l, v⟩ = P at *
      obtain ⟨kk, r, ex', cap', wr, rows, hv, hrho, hgo, hrow⟩ := hA.at hok (j := i) (by rw [List.length_map]; exact hlt); simp only [List.length_map, List.getElem_map] at hv hrow; cases hv; have hget : l[i]? = some l[i] := List.getElem?_eq_getElem hlt; generalize l[i] = c at hrow hget; have hw := wrap_succ (n := i) (by omega); have hci : (i : Int) < (l.length : Int) := (by omega); have hsi : i + 1 ≤ l.length := (by omega)
      have hb := hnb c (List.mem_of_getElem? hget)
      have hs := hsucc hget
      have b1 : (c.k.length : Int) ≤ 255 := Int.not_lt.1 fun e => hb (.inl e)
      have b2 : (c.v.length : Int) ≤ 255 := Int.not_lt.1 fun e => hb (.inr (.inl e))
      have b3 : 0 ≤ c.ver := Int.not_lt.1 fun e => hb (.inr (.inr (.inl e)))
      have b4 : c.ver < 281474976710656 := Int.not_le.1 fun e => hb (.inr (.inr (.inr e)))
      have y1 := fun G => e70 (s := c.k) (by omega) G
      have y2 := fun G => e70 (s := c.v) (by omega) G
      have y3 := fun G => e69 b3 (by omega) G
      have n1 := textT_len b1
      have n2 := textT_len b2
      have n3 := numT_small (n := c.ver.toNat) (by omega)
      have q1 : (textT c.k).length + (textT c.v).length ≤ 9223372036854775807 := by omega
      have q2 : (textT c.k).length + (textT c.v).length + (numT c.ver.toNat).length ≤ 9223372036854775807 := by omega
      have q3 : (P i).length + ((textT c.k).length + (textT c.v).length + (numT c.ver.toNat).length) ≤ 9223372036854775807 := by omega
      have hrow2 : textT c.k ++ textT c.v ++ numT c.ver.toNat = rowT c := rfl
      have hrl : (rowT c).length = (textT c.k).length + (textT c.v).length + (numT c.ver.toNat).length := by unfold rowT; rw [List.length_append, List.length_append]
      simp only [go_sem, C119L0, hci, hsi, hgo, hrow, hw, Rw.enc, y1, y2, y3, q1, q2, q3, hrow2]
      refine ⟨by omega, i + 1, by show l.length - (i + 1) < l.length - i; omega, ⟨by omega, ?_⟩, _, [], rfl, Wk.of rfl (by decide) (by simp only [go_sem, hrho, hw, hs]) (by simp only [go_sem])⟩
      rw [hs, List.length_append]
      omega
    · have hci : ¬ (i : Int) < (l.length : Int) := by omega
      simp only [go_sem, C119L0, hci]
      rw [hfin, show i = l.length by omega]
      exact ⟨rfl, _, rfl⟩
  · simp only [go_sem]
    rw [hnot g]
    exact ⟨rfl, _, rfl⟩
end Go.Proofs
/- once: whether they are any, few, the same: walked. -/

set_option linter.all false
set_option maxRecDepth 100000
namespace Go.Proofs
open Go Go.Ev
variable {H : Heap}

/-- what was done of a session last -/
structure Dn where
  ses : Int
  id : Int
  an : An
theorem off6 (a b c : Nat) : a * 6 + b + c = a * 6 + (b + c) := Nat.add_assoc ..
theorem wrap01 : IntKind.i64.wrap (0 + 1) = 1 := rfl
def Dn.enc (d : Dn) : List AV := [.int .i64 d.ses, .int .i64 d.id, .int .i64 d.an.code, .str d.an.val, .int .i64 d.an.ver, d.an.rv]
def allOk (H : Heap) (l : List Dn) : Prop := ∀ d ∈ l, d.an.ok H
theorem allOk.ext {l : List Dn} (h : allOk H l) (L : List Blk) : allOk (H.ext L) l := fun d hd => (h d hd).ext L
theorem An.ok.ren {a : An} (h : a.ok H) (top : Nat) (σ : List Nat) : AV.ren (rho H top σ) a.rv = a.rv := h.1.ren top σ
theorem Dn.ren1 {d : Dn} (h : d.an.ok H) (top : Nat) (σ : List Nat) : AV.rens (rho H top σ) d.enc = d.enc := by
  simp only [Dn.enc, AV.rens, AV.ren, h.ren]
theorem allOk.rens {l : List Dn} (h : allOk H l) (top : Nat) (σ : List Nat) : (l.map Dn.enc).map (AV.rens (rho H top σ)) = l.map Dn.enc := by
  rw [List.map_map]; exact List.map_congr_left fun d hd => Dn.ren1 (h d hd) top σ
def okD (d : Dn) : Prop := (0 ≤ d.ses ∧ d.ses < 3 ∧ 1 ≤ d.id ∧ d.id ≤ 1000000000000) ∧ isAns d.an
def okDt (l : List Dn) (j : Nat) : Prop := ∃ c, l[j]? = some c ∧ okD c ∧ (0 < j → ∃ d, l[j - 1]? = some d ∧ d.ses < c.ses)
def isDone (l : List Dn) : Prop := ∀ j, j < l.length → okDt l j
noncomputable instance (l : List Dn) : Decidable (isDone l) := Classical.propDecidable _
theorem f65_ok {v : AV} {l : List Dn} (hA : Arr H 6 v (l.map Dn.enc)) (ha : allOk H l) (hl : l.length < 9223372036854775807) :
    FnOk Tryz.prog 65 [v] H fun r G => r = .bool (decide (isDone l)) ∧ G = H := by
  refine FnOk.assume fun hok => ?_
  refine FnOk.drop (R := fun r => r = .bool (decide (isDone l))) ?_ (by rintro v rfl ρ; rw [AV.ren])
  refine FnOk.of_WW Tryz.func65 rfl C65ok R65ok E0 good_E0 ?_
  have hlen := fun G => hA.len G; simp only [List.length_map] at hlen; have hren := hA.ren
  simp only [go_sem, C65, hlen]
  refine LL.st good_E0 (fun i : Nat => l.length - i) (fun i => i ≤ l.length ∧ ∀ j, j < i → okDt l j)
    (fun i => [(.z, v), ((.o (.i .z)), v), ((.i (.i .z)), .int .i64 l.length), ((.o (.o (.o .z))), .int .i64 i)]) (fun i => []) ?_ 0 (σ := []) (Wk.of rfl (by decide) (by simp only [go_sem, hren]) (by simp only [go_sem])) ⟨Nat.zero_le _, fun j h => absurd h (Nat.not_lt_zero _)⟩
  rintro i ⟨hi, hno⟩
  by_cases hlt : i < l.length
  · obtain ⟨kk, r, ex', cap', wr, rows, hv, hrho, hgo, hrow⟩ := hA.at hok (j := i) (by rw [List.length_map]; exact hlt); simp only [List.length_map, List.getElem_map] at hv hrow; cases hv; have hget : l[i]? = some l[i] := List.getElem?_eq_getElem hlt; generalize l[i] = c at hrow hget; have hw := wrap_succ (n := i) (by omega); have hci : (i : Int) < (l.length : Int) := (by omega); have hsi : i + 1 ≤ l.length := (by omega)
    have hco := ha c (List.mem_of_getElem? hget)
    have hbad : ¬ okDt l i → AV.bool false = .bool (decide (isDone l)) := fun h => bool_f fun g => h (g i hlt)
    have hb1 : ¬ okD c → ¬ okDt l i := fun g ⟨c', h1, h2, _⟩ => by rw [hget] at h1; cases h1; exact g h2
    have hend : ∀ L, WW Tryz.prog E0 Tryz.f65.ntmps H [] L (H.ext []) (fun _ _ _ => True) → True := fun _ _ => trivial
    simp only [go_sem, C65L0, hci, hsi, hgo, hrow, hw, Dn.enc]
    refine ⟨fun g1 => ⟨hbad (hb1 fun e => absurd e.1.1 (by omega)), _, rfl⟩, fun g1 => ⟨fun g2 => ⟨hbad (hb1 fun e => absurd e.1.2.1 (by omega)), _, rfl⟩, fun g2 => ?_⟩⟩
    rcases i with _ | i
    · simp only [go_sem, Int.ofNat_zero, Int.lt_irrefl]
      refine ⟨fun g3 => ⟨hbad (hb1 fun e => absurd e.1.2.2.1 (by omega)), _, rfl⟩, fun g3 => ⟨fun g4 => ⟨hbad (hb1 fun e => absurd e.1.2.2.2 (by omega)), _, rfl⟩, fun g4 => ?_⟩⟩
      refine CL.one (f119_ok (a := c.an) (hco.ext _)) ?_
      by_cases hans : isAns c.an
      · have hne : ¬ ansT c.an = [] := fun e => ansT_nil.1 e hans
        simp only [go_sem, hne, hw]
        refine ⟨0 + 1, by show l.length - (0 + 1) < l.length - 0; omega, ⟨by omega, fun j hj => ?_⟩, _, [], rfl, Wk.of rfl (by decide) (by simp only [go_sem, hren, hrho, hw, wrap01]) (by simp only [go_sem])⟩
        obtain rfl : j = 0 := by omega
        exact ⟨c, hget, ⟨⟨by omega, by omega, by omega, by omega⟩, hans⟩, fun h => absurd h (by decide)⟩
      · have hne : ansT c.an = [] := ansT_nil.2 hans
        simp only [go_sem, hne]
        exact ⟨hbad (hb1 fun e => hans e.2), _, rfl⟩
    · have hpos : (0 : Int) < ((i + 1 : Nat) : Int) := by omega
      have hp : IntKind.i64.wrap (((i + 1 : Nat) : Int) - 1) = (i : Int) := by rw [wrap_i64 (by omega) (by omega)]; omega
      have hltj : i < l.length := by omega
      obtain ⟨kk2, r2, ex2, cap2, wr2, rows2, hv2, _, hgo2, hrow2⟩ := hA.at hok (j := i) (by rw [List.length_map]; exact hltj); simp only [List.length_map, List.getElem_map] at hv2 hrow2; have hgetd : l[i]? = some l[i] := List.getElem?_eq_getElem hltj; generalize l[i] = d at hrow2 hgetd; injection hv2 with e1 e2 e3 e4 e5 e6; have e2' : r2 = r := (by omega); subst e1 e2'; have hrr := hgo2 []; rw [hgo []] at hrr; cases hrr
      have hsj : i + 1 ≤ l.length := by omega
      have hi0 : (0 : Int) ≤ (i : Int) := by omega
      simp only [go_sem, hpos, hp, hi0, hsj, hgo, hrow2, Dn.enc]
      refine ⟨fun g5 => ⟨hbad ?_, _, rfl⟩, fun g5 => ?_⟩
      · rintro ⟨c', h1, _, h2⟩
        obtain ⟨d', h3, h4⟩ := h2 (by omega)
        rw [hget] at h1; cases h1
        rw [Nat.add_sub_cancel, hgetd] at h3; cases h3
        omega
      refine ⟨fun g3 => ⟨hbad (hb1 fun e => absurd e.1.2.2.1 (by omega)), _, rfl⟩, fun g3 => ⟨fun g4 => ⟨hbad (hb1 fun e => absurd e.1.2.2.2 (by omega)), _, rfl⟩, fun g4 => ?_⟩⟩
      refine CL.one (f119_ok (a := c.an) (hco.ext _)) ?_
      by_cases hans : isAns c.an
      · have hne : ¬ ansT c.an = [] := fun e => ansT_nil.1 e hans
        simp only [go_sem, hne, hw]
        refine ⟨i + 1 + 1, by show l.length - (i + 1 + 1) < l.length - (i + 1); omega, ⟨by omega, fun j hj => ?_⟩, _, [], rfl, Wk.of rfl (by decide) (by simp only [go_sem, hren, hrho, hw, wrap01]) (by simp only [go_sem])⟩
        rcases Nat.lt_or_ge j (i + 1) with h | h
        · exact hno j h
        · obtain rfl : j = i + 1 := by omega
          exact ⟨c, hget, ⟨⟨by omega, by omega, by omega, by omega⟩, hans⟩, fun _ => ⟨d, by rw [Nat.add_sub_cancel]; exact hgetd, by omega⟩⟩
      · have hne : ansT c.an = [] := ansT_nil.2 hans
        simp only [go_sem, hne]
        exact ⟨hbad (hb1 fun e => hans e.2), _, rfl⟩
  · have hci : ¬ (i : Int) < (l.length : Int) := by omega
    simp only [go_sem, C65L0, hci]
    exact ⟨bool_t fun j hj => hno j (by omega), _, rfl⟩
def fewD (l : List Dn) : Prop := (∀ d ∈ l, (d.an.val.length : Int) ≤ 60 ∧ (d.an.rows.length : Int) ≤ 8) ∧ (l.length : Int) ≤ 10
instance (l : List Dn) : Decidable (fewD l) := inferInstanceAs (Decidable (_ ∧ _))
end Go.Proofs
/- once: the same answers, the same rows of what was done, where a session's is: walked. -/

set_option linter.all false
set_option maxRecDepth 100000
namespace Go.Proofs
open Go Go.Ev
variable {H : Heap}

def sameA (a b : An) : Prop := a.code = b.code ∧ a.val = b.val ∧ a.ver = b.ver ∧ a.rows = b.rows
noncomputable instance (a b : An) : Decidable (sameA a b) := Classical.propDecidable _
theorem f87_ok {a b : An} (ha : a.ok H) (hb : b.ok H) : FnOk Tryz.prog 87 [.agg a.enc, .agg b.enc] H fun r G => r = .bool (decide (sameA a b)) ∧ G = H := by
  refine FnOk.assume fun hok => ?_
  refine FnOk.drop (R := fun r => r = .bool (decide (sameA a b))) ?_ (by rintro v rfl ρ; rw [AV.ren])
  refine FnOk.of_WW Tryz.func87 rfl C87ok R87ok E0 good_E0 ?_
  obtain ⟨code, val, ver, l, v⟩ := a
  obtain ⟨code2, val2, ver2, m, w⟩ := b
  obtain ⟨hA, hl⟩ := ha
  obtain ⟨hB, hm⟩ := hb
  simp only at hA hl hB hm
  have hlen := fun G => hA.len G; simp only [List.length_map] at hlen; have hren := hA.ren
  have hlen2 := fun G => hB.len G
  simp only [List.length_map] at hlen2
  have hren2 := hB.ren
  simp only [go_sem, C87, An.enc, hlen, hlen2]
  refine ⟨fun g => ⟨bool_f fun e => g e.1, _, rfl⟩, fun g1 => ⟨fun g => ⟨bool_f fun e => g e.2.1, _, rfl⟩, fun g2 => ⟨fun g => ⟨bool_f fun e => g e.2.2.1, _, rfl⟩, fun g3 => ⟨fun g => ⟨bool_f fun e => g (by rw [show l = m from e.2.2.2]), _, rfl⟩, fun g4 => ?_⟩⟩⟩⟩
  have g1 := Classical.not_not.1 g1
  have g2 := Classical.not_not.1 g2
  have g3 := Classical.not_not.1 g3
  have hlm : l.length = m.length := by omega
  subst g1 g2 g3
  refine LL.st good_E0 (fun i : Nat => l.length - i) (fun i => i ≤ l.length ∧ ∀ j, j < i → l[j]? = m[j]?)
    (fun i => [((.i .z), .ptr (H.key 0) 0), ((.o (.o .z)), .ptr (H.key 1) 0), ((.o (.i .z)), .int .i64 i)]) (fun i => [.row true 4 [[.int .i64 code, .str val, .int .i64 ver, v]], .row true 4 [[.int .i64 code, .str val, .int .i64 ver, w]]]) ?_ 0 (σ := [0, 1]) (Wk.of rfl (by decide) (by simp only [go_sem, hren, hren2]) (by simp only [go_sem, hren, hren2])) ⟨Nat.zero_le _, fun j h => absurd h (Nat.not_lt_zero _)⟩
  rintro i ⟨hi, hno⟩
  by_cases hlt : i < l.length
  · obtain ⟨kk2, r2, ex2, cap2, wr2, rows2, hv2, hrho2, hgo2, hrow2⟩ := hB.at hok (j := i) (by rw [List.length_map]; omega)
    simp only [List.length_map, List.getElem_map] at hv2 hrow2
    have hget2 : m[i]? = some (m[i]'(by omega)) := List.getElem?_eq_getElem (by omega)
    generalize m[i]'(by omega) = d at hrow2 hget2
    obtain ⟨kk, r, ex', cap', wr, rows, hv, hrho, hgo, hrow⟩ := hA.at hok (j := i) (by rw [List.length_map]; exact hlt); simp only [List.length_map, List.getElem_map] at hv hrow; cases hv; have hget : l[i]? = some l[i] := List.getElem?_eq_getElem hlt; generalize l[i] = c at hrow hget; have hw := wrap_succ (n := i) (by omega); have hci : (i : Int) < (l.length : Int) := (by omega); have hsi : i + 1 ≤ l.length := (by omega)
    subst hv2
    have hsi2 : i + 1 ≤ m.length := by omega
    simp only [go_sem, C87L0, hlen, hlen2, hci, hsi, hsi2, hgo, hgo2, hrow, hrow2, hw, Rw.enc]
    have hbad : ¬ c = d → ∀ v w, AV.bool false = .bool (decide (sameA ⟨code, val, ver, l, v⟩ ⟨code, val, ver, m, w⟩)) := fun h v w => bool_f fun e => h (by rw [show l = m from e.2.2.2, hget2] at hget; exact (Option.some.inj hget).symm)
    refine ⟨fun g1 => ⟨fun g2 => ⟨fun g3 => ?_, fun g => ⟨hbad (fun e => g (by rw [e])) _ _, _, rfl⟩⟩, fun g => ⟨hbad (fun e => g (by rw [e])) _ _, _, rfl⟩⟩, fun g => ⟨hbad (fun e => g (by rw [e])) _ _, _, rfl⟩⟩
    refine ⟨i + 1, by show l.length - (i + 1) < l.length - i; omega, ⟨by omega, fun j hj => ?_⟩, _, [0, 1], rfl, Wk.of rfl (by decide) (by simp only [go_sem, hrho, hrho2]) (by simp only [go_sem, hrho, hrho2])⟩
    rcases Nat.lt_or_ge j i with h | h
    · exact hno j h
    · obtain rfl : j = i := by omega
      rw [hget, hget2, Rw.enc_inj ⟨g1, g2, g3⟩]
  · have hci : ¬ (i : Int) < (l.length : Int) := by omega
    simp only [go_sem, C87L0, hci, hlen]
    refine ⟨bool_t ⟨rfl, rfl, rfl, List.ext_getElem? fun j => ?_⟩, _, rfl⟩
    rcases Nat.lt_or_ge j l.length with h | h
    · exact hno j (by omega)
    · show l[j]? = m[j]?
      rw [List.getElem?_eq_none h, List.getElem?_eq_none (by omega)]
theorem Rw.enc_one {a b : Rw} (h : a.enc = b.enc) : a = b := by
  simp [Rw.enc] at h
  exact Rw.enc_inj h
noncomputable def rwsOf (H : Heap) (v : AV) : Option (List Rw) := open Classical in if h : ∃ l : List Rw, Arr H 3 v (l.map Rw.enc) ∧ l.length ≤ 9223372036854775807 then some (Classical.choose h) else none
theorem rwsOf_eq {v : AV} {l : List Rw} (h : Arr H 3 v (l.map Rw.enc)) (hl : l.length ≤ 9223372036854775807) : rwsOf H v = some l := by
  unfold rwsOf
  have hex : ∃ l : List Rw, Arr H 3 v (l.map Rw.enc) ∧ l.length ≤ 9223372036854775807 := ⟨l, h, hl⟩
  rw [dif_pos hex]
  congr 1
  have := Arr.uniq (Classical.choose_spec hex).1 h (by decide)
  exact List.map_inj_right (fun _ _ => Rw.enc_one) |>.1 this
theorem rwsOf_spec {v : AV} {l : List Rw} (h : rwsOf H v = some l) : Arr H 3 v (l.map Rw.enc) ∧ l.length ≤ 9223372036854775807 := by
  unfold rwsOf at h
  split at h
  · rename_i hex
    cases h
    exact Classical.choose_spec hex
  · cases h
noncomputable def EO2 : FuncId → List AV → Heap → RC
  | 126, [.agg [.int .i64 c, .str s, .int .i64 n, v]], H => match rwsOf H v with | some l => .ok (.bool (decide (isAns ⟨c, s, n, l, v⟩))) H | none => .fail
  | 87, [.agg [.int .i64 c, .str s, .int .i64 n, v], .agg [.int .i64 c2, .str s2, .int .i64 n2, v2]], H => match rwsOf H v with | some l => (match rwsOf H v2 with | some l2 => .ok (.bool (decide (sameA ⟨c, s, n, l, v⟩ ⟨c2, s2, n2, l2, v2⟩))) H | none => .fail) | none => .fail
  | _, _, _ => .fail
theorem good_EO2 : Ev.Good Tryz.prog EO2 := by
  intro f args H r G he φ w args' ha hw
  refine (?_ : FnOk Tryz.prog f args H fun v' G' => v' = r ∧ G' = G).one φ w args' ha hw
  unfold EO2 at he
  split at he
  · split at he
    · rename_i hl
      cases he
      exact f126_ok (a := ⟨_, _, _, _, _⟩) (rwsOf_spec hl)
    · cases he
  · split at he
    · rename_i hl
      split at he
      · rename_i hl2
        cases he
        exact f87_ok (a := ⟨_, _, _, _, _⟩) (b := ⟨_, _, _, _, _⟩) (rwsOf_spec hl) (rwsOf_spec hl2)
      · cases he
    · cases he
  · cases he
theorem e31 {a b : An} (h : a.ok H) (g : b.ok H) : EO2 87 [.agg [.int .i64 a.code, .str a.val, .int .i64 a.ver, a.rv], .agg [.int .i64 b.code, .str b.val, .int .i64 b.ver, b.rv]] H = .ok (.bool (decide (sameA a b))) H := by
  show (match rwsOf H a.rv with | some l => (match rwsOf H b.rv with | some l2 => RC.ok (.bool (decide (sameA ⟨a.code, a.val, a.ver, l, a.rv⟩ ⟨b.code, b.val, b.ver, l2, b.rv⟩))) H | none => .fail) | none => .fail) = _
  rw [rwsOf_eq h.1 h.2, rwsOf_eq g.1 g.2]
def sameDn (c d : Dn) : Prop := c.ses = d.ses ∧ c.id = d.id ∧ sameA c.an d.an
/-- the same rows of what was done -/
def sameD (l m : List Dn) : Prop := l.length = m.length ∧ ∀ (i : Nat) (c d : Dn), l[i]? = some c → m[i]? = some d → sameDn c d
noncomputable instance (l m : List Dn) : Decidable (sameD l m) := Classical.propDecidable _
theorem f46_ok {v w : AV} {l m : List Dn} (hA : Arr H 6 v (l.map Dn.enc)) (hB : Arr H 6 w (m.map Dn.enc)) (ha : allOk H l) (hb : allOk H m) (hl : l.length < 9223372036854775807) :
    FnOk Tryz.prog 46 [v, w] H fun r G => r = .bool (decide (sameD l m)) ∧ G = H := by
  refine FnOk.assume fun hok => ?_
  refine FnOk.drop (R := fun r => r = .bool (decide (sameD l m))) ?_ (by rintro v rfl ρ; rw [AV.ren])
  refine FnOk.of_WW Tryz.func46 rfl C46ok R46ok EO2 good_EO2 ?_
  have hlen := fun G => hA.len G; simp only [List.length_map] at hlen; have hren := hA.ren
  have hlen2 := fun G => hB.len G
  simp only [List.length_map] at hlen2
  have hren2 := hB.ren
  simp only [go_sem, C46, hlen, hlen2]
  refine ⟨fun h => ⟨bool_f fun e => h (by rw [e.1]), _, rfl⟩, fun h => ?_⟩
  have hlm : l.length = m.length := by have := Classical.not_not.1 h; omega
  refine LL.st good_EO2 (fun i : Nat => l.length - i) (fun i => i ≤ l.length ∧ ∀ (j : Nat) (c d : Dn), j < i → l[j]? = some c → m[j]? = some d → sameDn c d)
    (fun i => [(.z, v), ((.o .z), w), ((.o (.i .z)), .int .i64 i)]) (fun i => []) ?_ 0 (σ := []) (Wk.of rfl (by decide) (by simp only [go_sem, hren, hren2]) (by simp only [go_sem])) ⟨Nat.zero_le _, fun j c d h => absurd h (Nat.not_lt_zero _)⟩
  rintro i ⟨hi, hno⟩
  by_cases hlt : i < l.length
  · obtain ⟨kk2, r2, ex2, cap2, wr2, rows2, hv2, hrho2, hgo2, hrow2⟩ := hB.at hok (j := i) (by rw [List.length_map]; omega)
    simp only [List.length_map, List.getElem_map] at hv2 hrow2
    have hget2 : m[i]? = some (m[i]'(by omega)) := List.getElem?_eq_getElem (by omega)
    generalize m[i]'(by omega) = d at hrow2 hget2
    obtain ⟨kk, r, ex', cap', wr, rows, hv, hrho, hgo, hrow⟩ := hA.at hok (j := i) (by rw [List.length_map]; exact hlt); simp only [List.length_map, List.getElem_map] at hv hrow; cases hv; have hget : l[i]? = some l[i] := List.getElem?_eq_getElem hlt; generalize l[i] = c at hrow hget; have hw := wrap_succ (n := i) (by omega); have hci : (i : Int) < (l.length : Int) := (by omega); have hsi : i + 1 ≤ l.length := (by omega)
    subst hv2
    have hsi2 : i + 1 ≤ m.length := by omega
    have hco := ha c (List.mem_of_getElem? hget)
    have hdo := hb d (List.mem_of_getElem? hget2)
    have he := fun L => e31 (hco.ext L) (hdo.ext L)
    simp only [go_sem, off6, C46L0, hlen, hlen2, hci, hsi, hsi2, hgo, hgo2, hrow, hrow2, hw, Dn.enc, he]
    have hbad : ¬ sameDn c d → AV.bool false = .bool (decide (sameD l m)) := fun h => bool_f fun e => h (e.2 i c d hget hget2)
    refine ⟨fun g => ⟨hbad fun e => g e.1, _, rfl⟩, fun g1 => ⟨fun g => ⟨hbad fun e => g e.2.1, _, rfl⟩, fun g2 => ⟨fun g3 => ?_, fun g => ⟨hbad fun e => g e.2.2, _, rfl⟩⟩⟩⟩
    refine ⟨i + 1, by show l.length - (i + 1) < l.length - i; omega, ⟨by omega, fun j c' d' hj hc hd => ?_⟩, _, [], rfl, Wk.of rfl (by decide) (by simp only [go_sem, hrho, hrho2]) (by simp only [go_sem])⟩
    rcases Nat.lt_or_ge j i with h | h
    · exact hno j c' d' h hc hd
    · obtain rfl : j = i := by omega
      rw [hget] at hc; rw [hget2] at hd; cases hc; cases hd
      exact ⟨Classical.not_not.1 g1, Classical.not_not.1 g2, g3⟩
  · have hci : ¬ (i : Int) < (l.length : Int) := by omega
    simp only [go_sem, C46L0, hci, hlen]
    refine ⟨bool_t ⟨hlm, fun j c d hc hd => hno j c d (by have := (List.getElem?_eq_some_iff.1 hc).1; omega) hc hd⟩, _, rfl⟩
def findD : List Dn → Int → Option Dn
  | [], _ => none
  | d :: l, s => if d.ses = s then some d else findD l s
theorem findD_mem : ∀ {l : List Dn} {s : Int} {d : Dn}, findD l s = some d → d ∈ l ∧ d.ses = s
  | [], _, _, h => by cases h
  | c :: l, s, d, h => by
    unfold findD at h
    split at h
    · cases h; rename_i hk; exact ⟨by simp, hk⟩
    · obtain ⟨h1, h2⟩ := findD_mem h; exact ⟨by simp [h1], h2⟩
def zeroA : An := ⟨0, [], 0, [], .nils⟩
end Go.Proofs
