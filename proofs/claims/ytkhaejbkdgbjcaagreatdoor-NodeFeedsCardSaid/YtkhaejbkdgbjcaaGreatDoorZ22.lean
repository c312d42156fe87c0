/- The laid-out code of the functions that are walked. -/
import Derived.Test.YtkhaejbkdgbjcaaGreatDoorZ21
import Derived.Test.YtkhaejbkdgbjcaaGreatDoorProg
import Derived.KernelRfl
set_option linter.all false
set_option maxRecDepth 100000
namespace Go.Proofs
open Go Go.Ev K
noncomputable def C142 := mkC Tryz.prog Tryz.f142 16
theorem C142ok : CCok Tryz.prog Tryz.f142 16 C142 := mkC_ok _
@[go_sem] theorem call142 (a H) : callC Tryz.prog 142 a H = .call 142 a := callC_ok (by kernel_rfl) a H
theorem R142ok : resKs Tryz.prog Tryz.f142.results.toList = some [RK.tmp z.o.i] := by kernel_rfl
noncomputable def C185 := mkC Tryz.prog Tryz.f185 20
theorem C185ok : CCok Tryz.prog Tryz.f185 20 C185 := mkC_ok _
@[go_sem] theorem call185 (a H) : callC Tryz.prog 185 a H = .call 185 a := callC_ok (by kernel_rfl) a H
theorem R185ok : resKs Tryz.prog Tryz.f185.results.toList = some [RK.tmp z.o.i] := by kernel_rfl
noncomputable def C141 := mkC Tryz.prog Tryz.f141 64
theorem C141ok : CCok Tryz.prog Tryz.f141 64 C141 := mkC_ok _
@[go_sem] theorem call141 (a H) : callC Tryz.prog 141 a H = .call 141 a := callC_ok (by kernel_rfl) a H
theorem R141ok : resKs Tryz.prog Tryz.f141.results.toList = some [RK.tmp z.o.i.i, RK.tmp z.i.o.o] := by kernel_rfl
end Go.Proofs
/- token: where a key is, walked. -/



set_option linter.all false
set_option maxRecDepth 100000
namespace Go.Proofs
open Go Go.Ev
variable {H : Heap}

/-- how far one has seen of a key -/
structure Sn where
  key : List Nat
  ver : Int
def Sn.enc (c : Sn) : List AV := [.str c.key, .int .i64 c.ver]
theorem Sn.rens (ρ : K → K) (c : Sn) : AV.rens ρ c.enc = c.enc := by simp only [Sn.enc, AV.rens, AV.ren]
theorem Sn.map_rens (ρ : K → K) (l : List Sn) : (l.map Sn.enc).map (AV.rens ρ) = l.map Sn.enc := by
  rw [List.map_map]; exact List.map_congr_left fun c _ => Sn.rens ρ c
def hasAt (l : List Sn) (k : List Nat) (i : Nat) : Prop := ∃ c, l[i]? = some c ∧ c.key = k
noncomputable instance (l : List Sn) (k : List Nat) (i : Nat) : Decidable (hasAt l k i) := Classical.propDecidable _
end Go.Proofs
/- token: what has been seen, the plain law. -/

set_option linter.all false
set_option maxRecDepth 100000
namespace Go.Proofs
open Go Go.Ev
def okS (c : Sn) : Prop := isKey c.key ∧ 0 ≤ c.ver ∧ c.ver ≤ 1000000000000
def okTk (l : List Sn) (j : Nat) : Prop := ∃ c, l[j]? = some c ∧ okS c ∧ (0 < j → ∃ d, l[j - 1]? = some d ∧ ltS d.key c.key)
def isTok (l : List Sn) : Prop := ∀ j, j < l.length → okTk l j
noncomputable instance (l : List Sn) : Decidable (isTok l) := Classical.propDecidable _
abbrev up (l : List Sn) : Prop := l.Pairwise fun c d => ltS c.key d.key
theorem up_cons {c : Sn} {l : List Sn} : up (c :: l) ↔ (∀ d ∈ l, ltS c.key d.key) ∧ up l := List.pairwise_cons
theorem isTok_cons {c : Sn} {l : List Sn} : isTok (c :: l) ↔ okS c ∧ (∀ d, l[0]? = some d → ltS c.key d.key) ∧ isTok l := by
  constructor
  · intro h
    obtain ⟨c', h0, h1, _⟩ := h 0 (by simp)
    cases h0
    refine ⟨h1, fun d hd => ?_, fun j hj => ?_⟩
    · obtain ⟨e, g0, _, g2⟩ := h 1 (by have := (List.getElem?_eq_some_iff.1 hd).1; simp; omega)
      obtain ⟨c', g3, g4⟩ := g2 (by decide)
      rw [List.getElem?_cons_succ, hd] at g0; cases g0
      cases g3; exact g4
    · obtain ⟨e, g0, g1, g2⟩ := h (j + 1) (by simp; omega)
      rw [List.getElem?_cons_succ] at g0
      refine ⟨e, g0, g1, fun h0 => ?_⟩
      obtain ⟨c', g3, g4⟩ := g2 (by omega)
      rw [show j + 1 - 1 = (j - 1) + 1 by omega, List.getElem?_cons_succ] at g3
      exact ⟨c', g3, g4⟩
  · rintro ⟨h1, h2, h3⟩ j hj
    cases j with
    | zero => exact ⟨c, rfl, h1, fun h => absurd h (by decide)⟩
    | succ j =>
      obtain ⟨e, g0, g1, g2⟩ := h3 j (by simp at hj; omega)
      refine ⟨e, by rw [List.getElem?_cons_succ]; exact g0, g1, fun _ => ?_⟩
      cases j with
      | zero => exact ⟨c, rfl, h2 e g0⟩
      | succ j => obtain ⟨d, g3, g4⟩ := g2 (by omega); exact ⟨d, by simpa using g3, g4⟩
theorem tok_iff : ∀ {l : List Sn}, isTok l ↔ (∀ c ∈ l, okS c) ∧ up l
  | [] => ⟨fun _ => ⟨by simp, .nil⟩, fun _ j hj => by simp at hj⟩
  | c :: l => by
    rw [isTok_cons, tok_iff (l := l), up_cons]
    constructor
    · rintro ⟨h1, h2, h3, h4⟩
      refine ⟨by simpa using ⟨h1, h3⟩, fun d hd => ?_, h4⟩
      cases l with
      | nil => simp at hd
      | cons e l =>
        have he := h2 e rfl
        rcases List.mem_cons.1 hd with rfl | hd
        · exact he
        · exact ltS_trans he ((up_cons.1 h4).1 d hd)
    · rintro ⟨h1, h2, h4⟩
      exact ⟨h1 c (by simp), fun d hd => h2 d (List.mem_of_getElem? hd), fun d hd => h1 d (by simp [hd]), h4⟩
theorem isTok.up {l : List Sn} (h : isTok l) : up l := (tok_iff.1 h).2
/-- what is there of a key -/
noncomputable def getS : List Sn → List Nat → Option Sn
  | [], _ => none
  | c :: l, k => if c.key = k then some c else getS l k
theorem getS_none : ∀ {l : List Sn} {k : List Nat}, (∀ c ∈ l, ¬ c.key = k) → getS l k = none
  | [], _, _ => rfl
  | d :: l, k, h => by rw [getS, if_neg (h d (by simp)), getS_none fun c hc => h c (by simp [hc])]
end Go.Proofs
/- token: whether they are any, a key's version, the same, few: walked. -/



set_option linter.all false
set_option maxRecDepth 100000
namespace Go.Proofs
open Go Go.Ev
variable {H : Heap}

noncomputable def ofT (l : List Sn) (k : List Nat) : Int := match getS l k with | some c => c.ver | none => 0
theorem getS_first : ∀ {l : List Sn} {i : Nat} {c : Sn}, l[i]? = some c → (∀ j d, j < i → l[j]? = some d → ¬ d.key = c.key) → getS l c.key = some c
  | [], i, c, h, _ => by simp at h
  | d :: l, 0, c, h, _ => by cases h; rw [getS, if_pos rfl]
  | d :: l, i + 1, c, h, hn => by rw [getS, if_neg (hn 0 d (by omega) rfl), getS_first (i := i) (by simpa using h) fun j e hj he => hn (j + 1) e (by omega) (by simpa using he)]
theorem f185_ok {v : AV} {l : List Sn} (hA : Arr H 2 v (l.map Sn.enc)) (hl : l.length < 9223372036854775807) (k : List Nat) :
    FnOk Tryz.prog 185 [v, .str k] H fun r G => r = .int .i64 (ofT l k) ∧ G = H := by
  refine FnOk.assume fun hok => ?_
  refine FnOk.drop (R := fun r => r = .int .i64 (ofT l k)) ?_ (by rintro v rfl ρ; rw [AV.ren])
  refine FnOk.of_WW Tryz.func185 rfl C185ok R185ok E0 good_E0 ?_
  have hlen := fun G => hA.len G; simp only [List.length_map] at hlen; have hren := hA.ren
  simp only [go_sem, C185, hlen]
  refine LL.st good_E0 (fun i : Nat => l.length - i) (fun i => i ≤ l.length ∧ ∀ j d, j < i → l[j]? = some d → ¬ d.key = k)
    (fun i => [((.o .z), .str k), ((.o (.o (.o .z))), v), ((.i (.o (.o .z))), .int .i64 l.length), ((.o (.i (.o .z))), .int .i64 i)]) (fun i => []) ?_ 0 (σ := []) (Wk.of rfl (by decide) (by simp only [go_sem, hren]) (by simp only [go_sem])) ⟨Nat.zero_le _, fun j d h => absurd h (Nat.not_lt_zero _)⟩
  rintro i ⟨hi, hno⟩
  by_cases hlt : i < l.length
  · obtain ⟨kk, r, ex', cap', wr, rows, hv, hrho, hgo, hrow⟩ := hA.at hok (j := i) (by rw [List.length_map]; exact hlt); simp only [List.length_map, List.getElem_map] at hv hrow; cases hv; have hget : l[i]? = some l[i] := List.getElem?_eq_getElem hlt; generalize l[i] = c at hrow hget; have hw := wrap_succ (n := i) (by omega); have hci : (i : Int) < (l.length : Int) := (by omega); have hsi : i + 1 ≤ l.length := (by omega)
    simp only [go_sem, hci, hsi, hgo, hrow, hw, Sn.enc]
    refine ⟨fun g => ⟨?_, _, rfl⟩, fun g => ?_⟩
    · subst g
      rw [ofT, getS_first hget hno]
    · refine ⟨i + 1, by show l.length - (i + 1) < l.length - i; omega, ?_, _, [], rfl, Wk.of rfl (by decide) (by simp only [go_sem, hren, hrho, hw]) (by simp only [go_sem])⟩
      refine ⟨by omega, fun j d hj hd => ?_⟩
      rcases Nat.lt_or_ge j i with h | h
      · exact hno j d h hd
      · obtain rfl : j = i := by omega
        rw [hget] at hd; cases hd; exact g
  · have hci : ¬ (i : Int) < (l.length : Int) := by omega
    simp only [go_sem, hci]
    refine ⟨?_, _, rfl⟩
    rw [ofT, getS_none fun c hc => ?_]
    obtain ⟨j, hj⟩ := List.mem_iff_getElem?.1 hc
    exact hno j c (by have := (List.getElem?_eq_some_iff.1 hj).1; omega) hj
noncomputable instance : DecidableEq Sn := fun _ _ => Classical.propDecidable _
theorem Sn.enc_inj {c d : Sn} (h : c.key = d.key ∧ c.ver = d.ver) : c = d := by cases c; cases d; simp_all
def fewT (l : List Sn) : Prop := (∀ c ∈ l, (c.key.length : Int) ≤ 20) ∧ (l.length : Int) ≤ 30
instance (l : List Sn) : Decidable (fewT l) := inferInstanceAs (Decidable (_ ∧ _))
end Go.Proofs
/- where two spans meet, as the code has it: walked. -/


set_option linter.all false
set_option linter.all false
set_option maxRecDepth 100000
namespace Go.Proofs
open Go Go.Ev
variable {H : Heap}

noncomputable def maxS (a b : List Nat) : List Nat := if ltS a b then b else a
@[go_sem] theorem max_str {β : Type} (a b : List Nat) (f : β) (c : AV → β) : mm2 true (.str a) (.str b) f c = c (.str (maxS a b)) := by
  show bif' (bif' true (Bool.not (ltL a b)) (Bool.or (ltL a b) (eqL a b))) (c (.str a)) (c (.str b)) = _
  unfold maxS
  rw [bif_true, ltL_dec, bif_eq]
  by_cases h : ltS a b
  · rw [decide_eq_true h, if_pos h]; rfl
  · rw [decide_eq_false h, if_neg h]; rfl
noncomputable def lowS (a b : List Nat) : List Nat := if a = [] ∨ (¬ b = [] ∧ ltS b a) then b else a
def okMeet (f t f' t' : List Nat) : Prop := isSpan f t ∧ isSpan f' t' ∧ isSpan (maxS f f') (lowS t t')
noncomputable def meetV (f t f' t' : List Nat) : AV := open Classical in if okMeet f t f' t' then .tup [.agg [.str (maxS f f'), .str (lowS t t')], .bool true] else .tup [.agg [.str [], .str []], .bool false]
noncomputable def minS (a b : List Nat) : List Nat := if ltS b a then b else a
@[go_sem] theorem min_str {β : Type} (a b : List Nat) (f : β) (c : AV → β) : mm2 false (.str a) (.str b) f c = c (.str (minS a b)) := by
  show bif' (bif' false (Bool.not (ltL a b)) (Bool.or (ltL a b) (eqL a b))) (c (.str a)) (c (.str b)) = _
  unfold minS
  rw [bif_false, ltL_dec, eqL_eq, bif_eq]
  rcases ltS_tri a b with h | h | h
  · rw [decide_eq_true h, if_neg (ltS_asymm h)]; rfl
  · subst h; rw [if_neg (ltS_irrefl a)]; simp
  · rw [decide_eq_false (ltS_asymm h), if_pos h, decide_eq_false (by rintro rfl; exact ltS_irrefl _ h)]; rfl
theorem f142_ok (a b : List Nat) : FnOk Tryz.prog 142 [.str a, .str b] H fun r G => r = .str (lowS a b) ∧ G = H := by
  refine FnOk.drop (R := fun r => r = .str (lowS a b)) ?_ (by rintro v rfl ρ; rw [AV.ren])
  refine FnOk.of_WW Tryz.func142 rfl C142ok R142ok E0 good_E0 ?_
  simp only [go_sem, C142]
  refine ⟨fun h => ⟨by unfold lowS; rw [if_pos (.inl h)], _, rfl⟩, fun h => ⟨fun h2 => ⟨by unfold lowS; rw [if_neg fun g => g.elim h fun g => g.1 h2], _, rfl⟩, fun h2 => ⟨?_, _, rfl⟩⟩⟩
  unfold lowS minS
  by_cases h3 : ltS b a
  · rw [if_pos h3, if_pos (.inr ⟨h2, h3⟩)]
  · rw [if_neg h3, if_neg fun g => g.elim h fun g => h3 g.2]
noncomputable def F122 : FuncId → List AV → Option AV
  | 142, [.str a, .str b] => some (.str (lowS a b))
  | _, _ => none
theorem good_F122 : Ev.Good Tryz.prog (pureE F122) := by
  refine good_pureE fun f args v h H => ?_
  unfold F122 at h
  split at h
  · cases h; exact f142_ok _ _
  · cases h
theorem e122 (a b : List Nat) (H : Heap) : pureE F122 142 [.str a, .str b] H = .ok (.str (lowS a b)) H := rfl
theorem okMeet_iff {f t f' t' : List Nat} (h1 : isSpan f t) (h2 : isSpan f' t') : okMeet f t f' t' ↔ lowS t t' = [] ∨ ltS (maxS f f') (lowS t t') := by
  have hm : ((maxS f f').length : Int) ≤ 8 := by
    unfold maxS; split
    · exact h2.1
    · exact h1.1
  have hl : ((lowS t t').length : Int) ≤ 8 := by
    unfold lowS; split
    · exact h2.2.1
    · exact h1.2.1
  exact ⟨fun h => h.2.2.2.2, fun h => ⟨h1, h2, hm, hl, h⟩⟩
theorem f88_ok (f t f' t' : List Nat) : FnOk Tryz.prog 88 [.agg [.str f, .str t], .agg [.str f', .str t']] H fun r G => r = meetV f t f' t' ∧ G = H := by
  refine FnOk.drop (R := fun r => r = meetV f t f' t') ?_ (by rintro v rfl ρ; unfold meetV; split <;> simp only [AV.ren, AV.rens])
  refine FnOk.of_WW Tryz.func88 rfl C88ok R88ok (pureE F122) good_F122 ?_
  simp only [go_sem, C88, e122]
  have hbad : ¬ okMeet f t f' t' → ∀ L, AV.tup [.agg [.str [], .str []], .bool false] = meetV f t f' t' ∧ ∃ l, H.ext L = H.ext l := fun g L => ⟨by unfold meetV; rw [if_neg g], L, rfl⟩
  have hgood : okMeet f t f' t' → ∀ L, AV.tup [.agg [.str (maxS f f'), .str (lowS t t')], .bool true] = meetV f t f' t' ∧ ∃ l, H.ext L = H.ext l := fun g L => ⟨by unfold meetV; rw [if_pos g], L, rfl⟩
  refine CL.bool (f57_ok f t) (fun g1 => ?_) (fun g1 => ?_)
  rotate_left
  · simp only [go_sem]
    exact hbad (fun h => g1 h.1) _
  simp only [go_sem]
  refine CL.bool (f57_ok f' t') (fun g2 => ?_) (fun g2 => ?_)
  rotate_left
  · simp only [go_sem]
    exact hbad (fun h => g2 h.2.1) _
  have hi := okMeet_iff g1 g2
  by_cases g3 : lowS t t' = []
  · have z := eq_true g3
    simp only [go_sem, z]
    exact hgood (hi.2 (.inl g3)) _
  · have z := eq_false g3
    by_cases g4 : ltS (maxS f f') (lowS t t')
    · have z2 := eq_true g4
      simp only [go_sem, z, z2]
      exact hgood (hi.2 (.inr g4)) _
    · have z2 := eq_false g4
      simp only [go_sem, z, z2]
      exact hbad (fun h => (hi.1 h).elim g3 g4) _
end Go.Proofs
/- what comes behind what was seen, as the code has it: walked. -/

set_option linter.all false
set_option linter.all false
set_option maxRecDepth 100000
namespace Go.Proofs
open Go Go.Ev
variable {H : Heap}

theorem Sn.enc_one {a b : Sn} (h : a.enc = b.enc) : a = b := by
  cases a; cases b; simp [Sn.enc] at h; simp [h]
theorem sns_uniq {v : AV} {xs ys : List Sn} (h : Arr H 2 v (xs.map Sn.enc)) (h2 : Arr H 2 v (ys.map Sn.enc)) : xs = ys :=
  List.map_inj_right (fun _ _ => Sn.enc_one) |>.1 (Arr.uniq h h2 (by decide))
def A123 (H : Heap) (args : List AV) (q : List Sn × List Nat) : Prop := ∃ v, args = [v, .str q.2] ∧ Arr H 2 v (q.1.map Sn.enc) ∧ q.1.length < 9223372036854775807
noncomputable def EH (f : FuncId) (args : List AV) (H : Heap) : RC :=
  match f with
  | 185 => ot (A123 H args) fun q => .ok (.int .i64 (ofT q.1 q.2)) H
  | 56 => match args with | [.agg [.str f, .str t], .str k] => .ok (.bool (decide (has f t k))) H | _ => .fail
  | _ => .fail
theorem good_EH : Ev.Good Tryz.prog EH := by
  intro f args H r G he φ w args' ha hw
  refine (?_ : FnOk Tryz.prog f args H fun v' G' => v' = r ∧ G' = G).one φ w args' ha hw
  unfold EH at he
  split at he
  · obtain ⟨q, ⟨v, rfl, h1, h2⟩, hz⟩ := ot_ok he
    clear he
    cases hz
    exact f185_ok h1 h2 _
  · split at he
    · cases he; exact f56_ok _ _ _
    · cases he
  · cases he
theorem e123 {v : AV} {l : List Sn} (hA : Arr H 2 v (l.map Sn.enc)) (hl : l.length < 9223372036854775807) (k : List Nat) (L : List Blk) : EH 185 [v, .str k] (H.ext L) = .ok (.int .i64 (ofT l k)) (H.ext L) := by
  show ot (A123 (H.ext L) [v, .str k]) (fun q => .ok (.int .i64 (ofT q.1 q.2)) (H.ext L)) = _
  refine ot_eq (p := A123 (H.ext L) [v, .str k]) (x := (l, k)) ⟨v, rfl, hA.ext L, hl⟩ ?_ _
  rintro ⟨l', k'⟩ ⟨v', h1, h2, _⟩
  injection h1 with h1 h3
  injection h3 with h3 _
  injection h3 with h3
  subst h1 h3
  rw [sns_uniq (hA.ext L) h2]
theorem e61 (f t k : List Nat) (H : Heap) : EH 56 [.agg [.str f, .str t], .str k] H = .ok (.bool (decide (has f t k))) H := rfl
def tellE (f t : List Nat) (seen : List Sn) (e : Evn) : Prop := has f t e.key ∧ ofT seen e.key < e.ver
noncomputable instance (f t seen e) : Decidable (tellE f t seen e) := Classical.propDecidable _
noncomputable def tellL (f t : List Nat) (seen : List Sn) (l : List Evn) : List Evn := l.filter fun e => decide (tellE f t seen e)
theorem tellL_yes {f t : List Nat} {seen : List Sn} {l : List Evn} {i : Nat} {c : Evn} (h : l[i]? = some c) (h2 : tellE f t seen c) : tellL f t seen (l.take (i + 1)) = tellL f t seen (l.take i) ++ [c] := by
  rw [take_next h]; simp [tellL, h2]
theorem tellL_no {f t : List Nat} {seen : List Sn} {l : List Evn} {i : Nat} {c : Evn} (h : l[i]? = some c) (h2 : ¬ tellE f t seen c) : tellL f t seen (l.take (i + 1)) = tellL f t seen (l.take i) := by
  rw [take_next h]; simp [tellL, h2]
theorem tellL_len (f t : List Nat) (seen : List Sn) (l : List Evn) (i : Nat) : (tellL f t seen (l.take i)).length ≤ i := Nat.le_trans (List.length_filter_le _ _) (by simp; omega)
noncomputable def outI (f t : List Nat) (seen : List Sn) (n : Nat) (l : List Evn) (i : Nat) : List Evn := (tellL f t seen (l.take i)).take n
theorem outI_no {f t : List Nat} {seen : List Sn} {n : Nat} {l : List Evn} {i : Nat} {c : Evn} (h : l[i]? = some c) (h2 : ¬ tellE f t seen c) : outI f t seen n l (i + 1) = outI f t seen n l i := by
  unfold outI; rw [tellL_no h h2]
theorem outI_full {f t : List Nat} {seen : List Sn} {n : Nat} {l : List Evn} {i : Nat} {c : Evn} (h : l[i]? = some c) (h2 : ¬ (outI f t seen n l i).length < n) : outI f t seen n l (i + 1) = outI f t seen n l i := by
  by_cases g : tellE f t seen c
  · unfold outI at h2 ⊢
    rw [List.length_take] at h2
    rw [tellL_yes h g, List.take_append_of_le_length (by omega)]
  · exact outI_no h g
theorem outI_yes {f t : List Nat} {seen : List Sn} {n : Nat} {l : List Evn} {i : Nat} {c : Evn} (h : l[i]? = some c) (h2 : tellE f t seen c) (h3 : (outI f t seen n l i).length < n) : outI f t seen n l (i + 1) = outI f t seen n l i ++ [c] := by
  unfold outI at h3 ⊢
  rw [List.length_take] at h3
  have h4 : (tellL f t seen (l.take i)).length < n := by omega
  rw [tellL_yes h h2, List.take_of_length_le (l := tellL f t seen (l.take i)) (by omega), List.take_of_length_le (by rw [List.length_append]; exact h4)]
theorem outI_len (f t : List Nat) (seen : List Sn) (n : Nat) (l : List Evn) (i : Nat) : (outI f t seen n l i).length ≤ i := by
  unfold outI; rw [List.length_take]; have := tellL_len f t seen l i; omega
noncomputable def afterL (f t : List Nat) (seen : List Sn) (n : Nat) (l : List Evn) : List Evn := (tellL f t seen l).take n
theorem outI_all {f t : List Nat} {seen : List Sn} {n : Nat} {l : List Evn} {i : Nat} (hi : l.length ≤ i) : outI f t seen n l i = afterL f t seen n l := by
  unfold outI afterL; rw [List.take_of_length_le hi]
/-- some of what happened is no longer there -/
def lateW (f t : List Nat) (seen : List Sn) (cs : List Cell) : Prop := ∃ c ∈ withinL f t cs, ofT seen c.key < c.floor
theorem get_left {α : Type} {l l' : List α} {j : Nat} {x : α} (h : l[j]? = some x) : (l ++ l')[j]? = some x := by
  rw [List.getElem?_append_left (List.getElem?_eq_some_iff.1 h).1]; exact h
theorem get_last {α : Type} (l : List α) (x : α) : (l ++ [x])[l.length]? = some x := by
  rw [List.getElem?_append_right (Nat.le_refl _), Nat.sub_self]; rfl
def rowE (e : Evn) : Blk := .row true 4 [[.str e.key, .int .i64 e.ver, .str e.val, .bool e.del]]
theorem f141_ok {v u w : AV} {l : List Evn} {cs : List Cell} {seen : List Sn} (hA : Arr H 4 v (l.map Evn.enc)) (hB : Arr H 5 u (cs.map Cell.enc)) (hC : Arr H 2 w (seen.map Sn.enc)) (hl : l.length < 100000) (hc : cs.length < 100000) (hs : seen.length < 9223372036854775807) (f t : List Nat) (n : Nat) (hn : n < 100000) :
    FnOk Tryz.prog 141 [v, u, .agg [.str f, .str t], w, .int .i64 n] H fun r G => ∃ x L, G = H.ext L ∧ (lateW f t seen cs → r = .tup [.nils, .bool true]) ∧ (¬ lateW f t seen cs → r = .tup [x, .bool false] ∧ Arr G 4 x ((afterL f t seen n l).map Evn.enc)) := by
  refine FnOk.assume fun hok => ?_
  refine FnOk.of_WW Tryz.func141 rfl C141ok R141ok EH good_EH ?_
  simp only [go_sem, C141]
  refine CL.of (f184_at (hB.ext _) (by omega) f t) ?_
  rintro _ G' ⟨rfl, hG⟩
  obtain ⟨ws, hws⟩ : ∃ ws, ws = withinL f t cs := ⟨_, rfl⟩
  have hwl : ws.length ≤ cs.length := by rw [hws]; exact List.length_filter_le ..
  unfold lateW
  rw [← hws] at hG ⊢
  have hok1 : G'.ok := by rw [hG]; exact Heap.ok_ext (Heap.ok_ext hok _) _
  have b0 : G'.get (H.key 0) = some (.row true 2 [[.str f, .str t]]) := by rw [hG]; exact Heap.get_ext_old (Heap.ok_ext hok _) (get_first [_] []) _
  have hA1 : Arr G' 4 v (l.map Evn.enc) := by rw [hG]; exact (hA.ext _).ext _
  have hC1 : Arr G' 2 w (seen.map Sn.enc) := by rw [hG]; exact (hC.ext _).ext _
  obtain ⟨kw, hkw⟩ : ∃ k, k = (H.ext [.row true 2 [[.str f, .str t]]]).nx := ⟨_, rfl⟩
  have hW1 : Arr G' 5 (outV kw 5 ws.length) (ws.map Cell.enc) := by rw [hG, hkw, ← Heap.key_zero]; exact arr_outV (i := 0) rfl (List.length_map ..)
  have hL1 : ∃ L, G' = H.ext L := ⟨_, by rw [hG, Heap.ext_append]⟩
  rw [← hkw]
  clear hG hkw
  refine WW.nil ?_
  have hwlen := fun G => hW1.len G
  simp only [List.length_map] at hwlen
  simp only [go_sem, hwlen]
  obtain ⟨L1, hL1⟩ := hL1
  refine LL.sth good_EH (fun i : Nat => ws.length - i) (fun i G => (∃ L, G = G'.ext L) ∧ i ≤ ws.length ∧ ∀ j d, j < i → ws[j]? = some d → ¬ ofT seen d.key < d.floor)
    (fun i => [(.z, v), ((.o (.o .z)), w), ((.i (.o .z)), .int .i64 n), ((.o (.o (.o .z))), .ptr (H.key 0) 0), ((.o (.o (.i (.o .z)))), outV kw 5 ws.length), ((.i (.o (.i (.o .z)))), .int .i64 ws.length), ((.o (.i (.i (.o .z)))), .int .i64 i)]) ?_ 0 ⟨⟨_, rfl⟩, Nat.zero_le _, fun j d h => absurd h (Nat.not_lt_zero _)⟩ (Slots.all (by simp only [go_sem]))
  rintro i G2 ⟨⟨L, hL⟩, hi, hno⟩
  have hok2 : G2.ok := by rw [hL]; exact Heap.ok_ext hok1 _
  have hW2 : Arr G2 5 (outV kw 5 ws.length) (ws.map Cell.enc) := by rw [hL]; exact hW1.ext _
  have hC2 : Arr G2 2 w (seen.map Sn.enc) := by rw [hL]; exact hC1.ext _
  have b2 : G2.get (H.key 0) = some (.row true 2 [[.str f, .str t]]) := by rw [hL]; exact Heap.get_ext_old hok1 b0 _
  have r0 := Heap.get_ext_old hok2 b2
  have i123 := e123 hC2 hs
  by_cases hlt : i < ws.length
  · obtain ⟨kk, r, ex', cap', wr, rows, hv, hrho, hgo, hrow⟩ := hW2.at hok2 (j := i) (by rw [List.length_map]; exact hlt)
    simp only [List.length_map, List.getElem_map] at hv hrow
    have hget : ws[i]? = some ws[i] := List.getElem?_eq_getElem hlt
    generalize ws[i] = c at hrow hget
    have hw := wrap_succ (n := i) (by omega)
    have hci : (i : Int) < (ws.length : Int) := (by omega)
    have hsi : i + 1 ≤ ws.length := (by omega)
    simp only [go_sem, hv, hci, hsi, hgo, hrow, hw, Cell.enc, i123]
    refine ⟨fun g => ?_, fun g => ?_⟩
    · exact ⟨.nils, _, by rw [hL, hL1, Heap.ext_append, Heap.ext_append], by first | exact fun _ => rfl | exact fun _ => trivial | trivial, fun h => absurd ⟨c, List.mem_of_getElem? hget, g⟩ h⟩
    · refine ⟨i + 1, by show ws.length - (i + 1) < ws.length - i; omega, ⟨⟨_, by rw [hL, Heap.ext_append]⟩, hsi, fun j d hj hd => ?_⟩, Slots.all (by simp only [go_sem, hv]; first | done | exact ⟨rfl, trivial⟩ | trivial | rfl | trace_state)⟩
      rcases Nat.lt_or_ge j i with h | h
      · exact hno j d h hd
      · obtain rfl : j = i := by omega
        rw [hget] at hd; cases hd; exact g
  · have hci : ¬ (i : Int) < (ws.length : Int) := by omega
    have hno2 : ¬ ∃ c, c ∈ ws ∧ ofT seen c.key < c.floor := by
      rintro ⟨c, h1, h2⟩
      obtain ⟨j, hj⟩ := List.mem_iff_getElem?.1 h1
      exact hno j c (by have := (List.getElem?_eq_some_iff.1 hj).1; omega) hj h2
    have hA2 : Arr G2 4 v (l.map Evn.enc) := by rw [hL]; exact hA1.ext _
    have hlen := fun G => hA2.len G
    simp only [List.length_map] at hlen
    obtain ⟨L2, hL2⟩ : ∃ L, G2 = H.ext L := ⟨_, by rw [hL, hL1, Heap.ext_append]⟩
    clear hL hno hi hlt
    simp only [go_sem, hci, hlen]
    clear hci
    refine LL.sth good_EH (fun q : Nat × List Blk × Nat => l.length - q.1) (fun q G => G = G2.ext q.2.1 ∧ q.1 ≤ l.length ∧ (outI f t seen n l q.1 = [] ∨ q.2.1[q.2.2]? = some (outB 4 ((outI f t seen n l q.1).map Evn.enc))))
      (fun q => [((.o (.o .z)), w), ((.i (.o .z)), .int .i64 n), ((.o (.o (.o .z))), .ptr (H.key 0) 0), ((.o (.i (.o (.o (.o .z))))), v), ((.i (.i (.o (.o (.o .z))))), .int .i64 l.length), ((.o (.o (.i (.o (.o .z))))), .int .i64 q.1), ((.i (.i (.i .z))), outV (G2.key q.2.2) 4 (outI f t seen n l q.1).length)]) ?_ (0, [], 0) ⟨rfl, Nat.zero_le _, .inl (by unfold outI tellL; simp)⟩ (Slots.all (by simp only [go_sem, outI, tellL, List.filter_nil]; first | done | exact ⟨rfl, trivial⟩ | trivial | rfl | trace_state))
    rintro ⟨i, L, j⟩ G3 ⟨hL, hi, hon⟩
    dsimp only at hL hi hon
    have hok3 : G3.ok := by rw [hL]; exact Heap.ok_ext hok2 _
    have hA3 : Arr G3 4 v (l.map Evn.enc) := by rw [hL]; exact hA2.ext _
    have hC3 : Arr G3 2 w (seen.map Sn.enc) := by rw [hL]; exact hC2.ext _
    have b3 : G3.get (H.key 0) = some (.row true 2 [[.str f, .str t]]) := by rw [hL]; exact r0 _
    have r3 := Heap.get_ext_old hok3 b3
    have j123 := e123 hC3 hs
    have hln := outI_len f t seen n l i
    by_cases hlt : i < l.length
    · obtain ⟨kk, r, ex', cap', wr, rows, hv, hrho, hgo, hrow⟩ := hA3.at hok3 (j := i) (by rw [List.length_map]; exact hlt)
      simp only [List.length_map, List.getElem_map] at hv hrow
      have hget : l[i]? = some l[i] := List.getElem?_eq_getElem hlt
      generalize l[i] = e at hrow hget
      have hw := wrap_succ (n := i) (by omega)
      have hci : (i : Int) < (l.length : Int) := (by omega)
      have hsi : i + 1 ≤ l.length := (by omega)
      simp only [go_sem, ↓appR_hide, hv, hci, hsi, hgo, hrow, hw, Evn.enc, j123, e61, r3]
      have hs0 : ∀ l', outI f t seen n l (i + 1) = outI f t seen n l i → (outI f t seen n l (i + 1) = [] ∨ (L ++ l')[j]? = some (outB 4 ((outI f t seen n l (i + 1)).map Evn.enc))) := fun l' h => by
        rw [h]; exact hon.imp id fun g => get_left g
      refine ⟨fun g => ⟨fun g2 => ⟨fun g3 => ?_, fun g3 => ?_⟩, fun g2 => ?_⟩, fun g => ?_⟩
      · have hnew := outI_yes (n := n) hget (show tellE f t seen e from ⟨g, g2⟩) (by omega)
        have hml : (outI f t seen n l (i + 1)).length = (outI f t seen n l i).length + 1 := by rw [hnew, List.length_append]; rfl
        rw [hL, Heap.ext_append, Heap.key_ext]
        rcases hon with h0 | hj
        · rw [h0]
          have ha := appQ_nil (G := G2.ext (L ++ [.row true 4 [[.str e.key, .int .i64 e.ver, .str e.val, .bool e.del]], .row true 4 [[.str e.key, .int .i64 e.ver, .str e.val, .bool e.del]]])) (e := 4) (bytes := 48) (w := .slice (G2.key (L.length + 1)) 0 1 4 true 1) (ys := [[.str e.key, .int .i64 e.ver, .str e.val, .bool e.del]]) (by decide) (arr_row (i := L.length + 1) (get_two _ _ _).2 rfl) (by simp) (okBig_le (n := 1) (by decide) (by decide))
          rw [show outV (G2.key j) 4 ([] : List Evn).length = .nils from rfl, ha]
          simp only [go_sem, hw, Heap.key_ext]
          refine ⟨(i + 1, L ++ [rowE e, rowE e] ++ [outB 4 [[.str e.key, .int .i64 e.ver, .str e.val, .bool e.del]]], (L ++ [rowE e, rowE e]).length), by show l.length - (i + 1) < l.length - i; omega, ⟨rfl, hsi, .inr ?_⟩, Slots.all (by simp only [go_sem, hml, h0])⟩
          show (L ++ [rowE e, rowE e] ++ [outB 4 [[.str e.key, .int .i64 e.ver, .str e.val, .bool e.del]]])[(L ++ [rowE e, rowE e]).length]? = _
          rw [get_last, hnew, h0]
          rfl
        · have hb := appQ_out (H := G2) (L := L ++ [.row true 4 [[.str e.key, .int .i64 e.ver, .str e.val, .bool e.del]], .row true 4 [[.str e.key, .int .i64 e.ver, .str e.val, .bool e.del]]]) (i := j) (j := L.length + 1) (bytes := 48) (ex := true) (cap := 1) (y := [.str e.key, .int .i64 e.ver, .str e.val, .bool e.del]) (get_left hj) (List.length_map ..) (get_two _ _ _).2 (okBig_le (by omega) (by decide))
          rw [hb]
          simp only [go_sem, hw]
          refine ⟨(i + 1, (L ++ [rowE e, rowE e]).set j .dead ++ [outB 4 ((outI f t seen n l i).map Evn.enc ++ [[.str e.key, .int .i64 e.ver, .str e.val, .bool e.del]])], (L ++ [rowE e, rowE e]).length), by show l.length - (i + 1) < l.length - i; omega, ⟨rfl, hsi, .inr ?_⟩, Slots.all (by simp only [go_sem, hml])⟩
          show ((L ++ [rowE e, rowE e]).set j .dead ++ [outB 4 ((outI f t seen n l i).map Evn.enc ++ [[.str e.key, .int .i64 e.ver, .str e.val, .bool e.del]])])[(L ++ [rowE e, rowE e]).length]? = _
          rw [← List.length_set (i := j) (a := Blk.dead), get_last, hnew, List.map_append]
          rfl
      · have hsame := outI_full (n := n) hget (show ¬ (outI f t seen n l i).length < n by omega)
        exact ⟨(i + 1, L ++ [rowE e], j), by show l.length - (i + 1) < l.length - i; omega, ⟨by rw [hL, Heap.ext_append]; rfl, hsi, hs0 _ hsame⟩, Slots.all (by simp only [go_sem, hsame])⟩
      · have hsame := outI_no (f := f) (t := t) (seen := seen) (n := n) hget fun h => g2 h.2
        exact ⟨(i + 1, L ++ [rowE e], j), by show l.length - (i + 1) < l.length - i; omega, ⟨by rw [hL, Heap.ext_append]; rfl, hsi, hs0 _ hsame⟩, Slots.all (by simp only [go_sem, hsame])⟩
      · have hsame := outI_no (f := f) (t := t) (seen := seen) (n := n) hget fun h => g h.1
        exact ⟨(i + 1, L ++ [rowE e], j), by show l.length - (i + 1) < l.length - i; omega, ⟨by rw [hL, Heap.ext_append]; rfl, hsi, hs0 _ hsame⟩, Slots.all (by simp only [go_sem, hsame])⟩
    · have hci : ¬ (i : Int) < (l.length : Int) := by omega
      simp only [go_sem, hci]
      refine ⟨_, L2 ++ L, by rw [Heap.ext_nil, hL, hL2, Heap.ext_append], fun h => absurd h hno2, fun _ => ⟨rfl, ?_⟩⟩
      rw [Heap.ext_nil, hL, ← outI_all (i := i) (by omega)]
      rcases hon with h0 | hj
      · rw [h0]; exact .inl ⟨rfl, rfl⟩
      · exact arr_outV hj (List.length_map ..)
end Go.Proofs
/- Feed of a span: walked. -/

set_option linter.all false
set_option maxRecDepth 100000
namespace Go.Proofs
open Go Go.Ev
variable {H : Heap}
@[go_sem] theorem min_int' {β : Type} (k : IntKind) (a b : Int) (f : β) (c : AV → β) : mm2 false (.int k a) (.int k b) f c = c (.int k (min a b)) := by
  show bif' false (ltI a b fun z => bif' z (c (.int k b)) (c (.int k a))) (ltI b a fun z => bif' z (c (.int k b)) (c (.int k a))) = _
  rw [bif_false, ltI_eq, bif_eq]
  by_cases h : b < a
  · rw [decide_eq_true h, if_pos rfl, Int.min_eq_right (by omega)]
  · rw [decide_eq_false h, if_neg (by decide), Int.min_eq_left (by omega)]
theorem f86_ok {s : Sh} (h : s.ok H) {f t : List Nat} (hel : s.evs.length < 100000) (hcl : s.cells.length < 100000) {w : AV} {seen : List Sn} (hC : Arr H 2 w (seen.map Sn.enc)) (hs : seen.length < 9223372036854775807) (n : Int) (hok2 : okMeet s.fr s.to f t)
    (hno : ¬ lateW (maxS s.fr f) (lowS s.to t) seen s.cells) :
    FnOk Tryz.prog 86 [.agg s.enc, .agg [.str f, .str t], w, .int .i64 n] H fun r G => ∃ x L, G = H.ext L ∧ r = .tup [x, .bool false] ∧ Arr G 4 x ((afterL (maxS s.fr f) (lowS s.to t) seen (min (max n 0) 8).toNat s.evs).map Evn.enc) := by
  refine FnOk.assume fun hok => ?_
  refine FnOk.of_WW Tryz.func86 rfl C86ok R86ok E0 good_E0 ?_
  obtain ⟨m, hm, hm8⟩ : ∃ m : Nat, min (max n 0) 8 = (m : Int) ∧ m < 100000 := ⟨(min (max n 0) 8).toNat, by omega, by omega⟩
  rw [hm, Int.toNat_natCast]
  simp only [go_sem, C86, Sh.enc]
  refine CL.of (f88_ok s.fr s.to f t) ?_
  rintro _ _ ⟨rfl, rfl⟩
  unfold meetV
  rw [if_pos hok2]
  simp only [go_sem, hm]
  refine CL.of (f141_ok (h.e.ext _) (h.c.ext _) (hC.ext _) hel hcl hs _ _ m hm8) ?_
  rintro r G ⟨x, L, hG, h1, h2⟩
  obtain ⟨rfl, h3⟩ := h2 hno
  rw [hG] at h3 ⊢
  rw [Heap.ext_append] at h3 ⊢
  simp only [go_sem]
  exact ⟨_, _, rfl, rfl, h3⟩
end Go.Proofs
/- numbers of an answer: walked. -/


set_option linter.all false
set_option maxRecDepth 100000
namespace Go.Proofs
open Go Go.Ev
variable {H : Heap}
@[go_sem] theorem sz3 : ∀ h, (Tryz.prog.types[3]'h).size = 1 := by intro h; kernel_rfl
@[go_sem] theorem sz44 : ∀ h, (Tryz.prog.types[44]'h).size = 24 := by intro h; kernel_rfl
attribute [go_sem] cpyF
/-- a letter of numbers behind the first one -/
def numL (a b c : Int) : List AV := [.int .i64 0, .int .i64 0, .int .i64 0, .int .i64 0, .int .i64 a, .int .i64 b, .int .i64 c, .int .i64 0, .int .i64 0, .str [], .str [], .str [], .int .i64 0, .nils, .int .i64 0, .str [], .int .i64 0, .nils, .str [], .str [], .nils, .nils, .nils, .str []]
theorem f85_two (a b : Int) {k : K} {ex : Bool} {cap : Nat} (hk : H.get k = some (.row true 1 [[.int .i64 a], [.int .i64 b]])) : FnOk Tryz.prog 85 [.slice k 0 2 1 ex cap] H fun r G => r = .agg (numL a b 0) ∧ G = H := by
  refine FnOk.assume fun hok => ?_
  have hk' := fun L => Heap.get_ext_old hok hk L
  refine FnOk.drop (R := fun r => r = .agg (numL a b 0)) ?_ (by rintro v rfl ρ; simp only [numL, AV.ren, AV.rens])
  refine FnOk.of_WW Tryz.func85 rfl C85ok R85ok E0 good_E0 ?_
  simp only [go_sem, C85, hk', List.flatten_cons, List.flatten_nil, List.append_nil, List.length_cons, List.length_nil]
  refine ⟨fun h => absurd h (by decide), fun _ => ?_⟩
  have hm : Nat.min 2 4 = 2 := rfl
  have hr : ∀ {β : Type} (f : β) (x y : AV) (c : List AV → β), readC f 1 [[x], [y]] 0 2 c = c [x, y] := fun _ _ _ _ => rfl
  simp only [go_sem, hm, hr, List.flatten_cons, List.flatten_nil, List.append_nil, List.length_cons, List.length_nil, List.cons_append, List.nil_append]
  exact ⟨rfl, _, rfl⟩
theorem f85_three (a b c : Int) {k : K} {ex : Bool} {cap : Nat} (hk : H.get k = some (.row true 1 [[.int .i64 a], [.int .i64 b], [.int .i64 c]])) : FnOk Tryz.prog 85 [.slice k 0 3 1 ex cap] H fun r G => r = .agg (numL a b c) ∧ G = H := by
  refine FnOk.assume fun hok => ?_
  have hk' := fun L => Heap.get_ext_old hok hk L
  refine FnOk.drop (R := fun r => r = .agg (numL a b c)) ?_ (by rintro v rfl ρ; simp only [numL, AV.ren, AV.rens])
  refine FnOk.of_WW Tryz.func85 rfl C85ok R85ok E0 good_E0 ?_
  simp only [go_sem, C85, hk', List.flatten_cons, List.flatten_nil, List.append_nil, List.length_cons, List.length_nil]
  refine ⟨fun h => absurd h (by decide), fun _ => ?_⟩
  have hm : Nat.min 3 4 = 3 := rfl
  have hr : ∀ {β : Type} (f : β) (x y z : AV) (c : List AV → β), readC f 1 [[x], [y], [z]] 0 3 c = c [x, y, z] := fun _ _ _ _ _ => rfl
  simp only [go_sem, hm, hr, List.flatten_cons, List.flatten_nil, List.append_nil, List.length_cons, List.length_nil, List.cons_append, List.nil_append]
  exact ⟨rfl, _, rfl⟩
end Go.Proofs
/- The laid-out code of the functions that are walked. -/

set_option linter.all false
set_option maxRecDepth 100000
namespace Go.Proofs
open Go Go.Ev K
@[go_sem] theorem call132 (a H) : callC Tryz.prog 132 a H = .call 132 a := callC_ok (by kernel_rfl) a H
end Go.Proofs
/- Poll letters: walked. -/



set_option linter.all false
set_option maxRecDepth 100000
namespace Go.Proofs
open Go Go.Ev
variable {H : Heap}
def zO : List AV := [.int .i64 0, .str [], .str [], .str [], .int .i64 0, .nils]
theorem f69_run : isR (EK 69 [.int .i64 201] hp0) (.bool true) = true := by kernel_rfl
theorem f69_run0 : isR (EK 69 [.int .i64 0] hp0) (.bool true) = true := by kernel_rfl
theorem f130_run : isR (EK 130 [.agg zO] hp0) (.bool false) = true := by kernel_rfl
theorem f131_run : isR (EK 131 [.agg zO, .agg zO] hp0) (.bool true) = true := by kernel_rfl
theorem f132_run : isR (EK 132 [.agg [.int .i64 0, .str [], .int .i64 0, .nils], .agg [.int .i64 0, .str [], .int .i64 0, .nils]] hp0) (.bool true) = true := by kernel_rfl
theorem f69_ok : FnOk Tryz.prog 69 [.int .i64 201] H fun r G => r = .bool true ∧ G = H := FnOk.of_ev1 good_XL rfl rfl f69_run
theorem f69_ok0 : FnOk Tryz.prog 69 [.int .i64 0] H fun r G => r = .bool true ∧ G = H := FnOk.of_ev1 good_XL rfl rfl f69_run0
theorem f130_zero : FnOk Tryz.prog 130 [.agg zO] H fun r G => r = .bool false ∧ G = H := FnOk.of_ev1 good_XL rfl rfl f130_run
theorem f131_zero : FnOk Tryz.prog 131 [.agg zO, .agg zO] H fun r G => r = .bool true ∧ G = H := FnOk.of_ev1 good_XL rfl rfl f131_run
theorem f132_zero : FnOk Tryz.prog 132 [.agg [.int .i64 0, .str [], .int .i64 0, .nils], .agg [.int .i64 0, .str [], .int .i64 0, .nils]] H fun r G => r = .bool true ∧ G = H := FnOk.of_ev1 good_XL rfl rfl f132_run
def zAn : List AV := [.int .i64 0, .str [], .int .i64 0, .nils]
open Classical in
/-- parts of nothing, known -/
noncomputable def EPl : FuncId → List AV → Heap → RC := fun f args H =>
  if f = 130 ∧ args = [.agg zO] then .ok (.bool false) H
  else if f = 131 ∧ args = [.agg zO, .agg zO] then .ok (.bool true) H
  else if f = 132 ∧ args = [.agg zAn, .agg zAn] then .ok (.bool true) H else .fail
theorem good_EPl : Ev.Good Tryz.prog EPl := by
  intro f args H r G he φ w args' ha hw
  refine (?_ : FnOk Tryz.prog f args H fun v' G' => v' = r ∧ G' = G).one φ w args' ha hw
  unfold EPl at he
  split at he
  · rename_i h; obtain ⟨rfl, rfl⟩ := h; cases he; exact f130_zero
  · split at he
    · rename_i h; obtain ⟨rfl, rfl⟩ := h; cases he; exact f131_zero
    · split at he
      · rename_i h; obtain ⟨rfl, rfl⟩ := h; cases he; exact f132_zero
      · cases he
theorem ep130 (H : Heap) : EPl 130 [.agg zO] H = .ok (.bool false) H := by unfold EPl; rw [if_pos ⟨rfl, rfl⟩]
theorem ep131 (H : Heap) : EPl 131 [.agg zO, .agg zO] H = .ok (.bool true) H := by unfold EPl; rw [if_neg (by rintro ⟨h, _⟩; cases h), if_pos ⟨rfl, rfl⟩]
theorem ep132 (H : Heap) : EPl 132 [.agg zAn, .agg zAn] H = .ok (.bool true) H := by unfold EPl; rw [if_neg (by rintro ⟨h, _⟩; cases h), if_neg (by rintro ⟨h, _⟩; cases h), if_pos ⟨rfl, rfl⟩]
theorem f68_poll (a b c d e f g : AV) (fr to w u v : AV) (s : AV) : FnOk Tryz.prog 68 [.agg [.int .i64 3, a, b, c, d, e, f, g, .int .i64 0, .str [], .str [], .str [], .int .i64 0, .nils, .int .i64 0, .str [], .int .i64 0, .nils, fr, to, w, u, v, s]] H fun r G => r = .bool true ∧ G = H := by
  refine FnOk.drop (R := fun r => r = .bool true) ?_ (by rintro v rfl ρ; rw [AV.ren])
  refine FnOk.of_WW Tryz.func68 rfl C68ok R68ok EPl good_EPl ?_
  have e1 := ep130
  have e2 := ep131
  have e3 := ep132
  simp only [zO, zAn] at e1 e2 e3
  simp only [go_sem, C68, e1, e2, e3]
  have e4 : FnOk Tryz.prog 132 [.agg zAn, .agg zAn] (H.ext [.row true 24 [[.int .i64 3, a, b, c, d, e, f, g, .int .i64 0, .str [], .str [], .str [], .int .i64 0, .nils, .int .i64 0, .str [], .int .i64 0, .nils, fr, to, w, u, v, s]]]) fun r G => r = .bool true ∧ G = _ := f132_zero
  simp only [zAn] at e4
  refine CL.of e4 ?_
  rintro _ G' ⟨rfl, hG⟩; rw [hG]; clear hG
  simp only [go_sem]
  first | exact ⟨_, rfl⟩ | exact ⟨rfl, _, rfl⟩ | trace_state
end Go.Proofs
/- Numbers of a letter: walked. -/

set_option linter.all false
set_option maxRecDepth 100000
namespace Go.Proofs
open Go Go.Ev
variable {H : Heap}
theorem f67_ok {n : Int} (h0 : 0 ≤ n) (h1 : n ≤ 1000000000000) : FnOk Tryz.prog 67 [.int .i64 n] H fun r G => r = .bool false ∧ G = H := by
  refine FnOk.drop (R := fun r => r = .bool false) ?_ (by rintro v rfl ρ; rw [AV.ren])
  refine FnOk.of_WW Tryz.func67 rfl C67ok R67ok E0 good_E0 ?_
  have z0 : (n < 0) = False := eq_false (by omega)
  have z1 : (1000000000000 < n) = False := eq_false (by omega)
  simp only [go_sem, C67, z0, z1]
  first | exact ⟨_, rfl⟩ | exact ⟨rfl, _, rfl⟩ | trace_state
/-- may be sent -/
def okI (n : Int) : Prop := 0 ≤ n ∧ n ≤ 1000000000000
theorem f133_none {k : K} {wr : Bool} {b0 b1 b2 c0 c1 c2 c3 c4 c5 c6 c7 c8 c9 c10 c11 c12 c13 c14 c15 : AV} {a0 a1 a2 a3 a4 : Int} (hk : H.get k = some (.row wr 24 [[b0, b1, b2, .int .i64 a0, .int .i64 a1, .int .i64 a2, .int .i64 a3, .int .i64 a4, c0, c1, c2, c3, c4, c5, c6, c7, c8, c9, c10, c11, c12, c13, c14, c15]])) (h0 : okI a0) (h1 : okI a1) (h2 : okI a2) (h3 : okI a3) (h4 : okI a4) :
    FnOk Tryz.prog 133 [.slice k 3 5 1 true 5, .fn (.func 67) [] []] H fun r G => r = .int .i64 (-1) ∧ G = H := by
  refine FnOk.assume fun hok => ?_
  refine FnOk.drop (R := fun r => r = .int .i64 (-1)) ?_ (by rintro v rfl ρ; rw [AV.ren])
  refine FnOk.of_WW Tryz.func133 rfl C133ok R133ok E0 good_E0 ?_
  have hk' := fun L => Heap.get_ext_old hok hk L
  simp only [go_sem, C133]
  refine LL.sth good_E0 (fun i : Nat => 5 - i) (fun i M => M = H ∧ i ≤ 5)
    (fun i => [(.z, .slice k 3 5 1 true 5), ((.o .z), .fn (.func 67) [] []), ((.o (.o (.o .z))), .int .i64 5), ((.i (.o (.o .z))), .int .i64 i)]) ?_ 0 ⟨Heap.ext_nil H, Nat.zero_le _⟩ (Slots.all (by simp only [go_sem]; first | done | rfl | trace_state))
  rintro i M ⟨rfl, hi⟩
  rcases (show i = 0 ∨ i = 1 ∨ i = 2 ∨ i = 3 ∨ i = 4 ∨ i = 5 by omega) with rfl | rfl | rfl | rfl | rfl | rfl
  · simp only [go_sem, hk']
    refine CL.of (f67_ok h0.1 h0.2) ?_
    rintro _ G' ⟨rfl, hG⟩; rw [hG]; clear hG
    have hw : IntKind.i64.wrap (((0 : Nat) : Int) + 1) = ((1 : Nat) : Int) := rfl
    simp only [go_sem, hw]
    rw [Heap.ext_nil]
    exact ⟨1, by decide, ⟨rfl, by decide⟩, Slots.all (by simp only [go_sem]; first | done | rfl | trace_state)⟩
  · simp only [go_sem, hk']
    refine CL.of (f67_ok h1.1 h1.2) ?_
    rintro _ G' ⟨rfl, hG⟩; rw [hG]; clear hG
    have hw : IntKind.i64.wrap (((1 : Nat) : Int) + 1) = ((2 : Nat) : Int) := rfl
    simp only [go_sem, hw]
    rw [Heap.ext_nil]
    exact ⟨2, by decide, ⟨rfl, by decide⟩, Slots.all (by simp only [go_sem]; first | done | rfl | trace_state)⟩
  · simp only [go_sem, hk']
    refine CL.of (f67_ok h2.1 h2.2) ?_
    rintro _ G' ⟨rfl, hG⟩; rw [hG]; clear hG
    have hw : IntKind.i64.wrap (((2 : Nat) : Int) + 1) = ((3 : Nat) : Int) := rfl
    simp only [go_sem, hw]
    rw [Heap.ext_nil]
    exact ⟨3, by decide, ⟨rfl, by decide⟩, Slots.all (by simp only [go_sem]; first | done | rfl | trace_state)⟩
  · simp only [go_sem, hk']
    refine CL.of (f67_ok h3.1 h3.2) ?_
    rintro _ G' ⟨rfl, hG⟩; rw [hG]; clear hG
    have hw : IntKind.i64.wrap (((3 : Nat) : Int) + 1) = ((4 : Nat) : Int) := rfl
    simp only [go_sem, hw]
    rw [Heap.ext_nil]
    exact ⟨4, by decide, ⟨rfl, by decide⟩, Slots.all (by simp only [go_sem]; first | done | rfl | trace_state)⟩
  · simp only [go_sem, hk']
    refine CL.of (f67_ok h4.1 h4.2) ?_
    rintro _ G' ⟨rfl, hG⟩; rw [hG]; clear hG
    have hw : IntKind.i64.wrap (((4 : Nat) : Int) + 1) = ((5 : Nat) : Int) := rfl
    simp only [go_sem, hw]
    rw [Heap.ext_nil]
    exact ⟨5, by decide, ⟨rfl, by decide⟩, Slots.all (by simp only [go_sem]; first | done | rfl | trace_state)⟩
  · simp only [go_sem, hk']
    first | exact ⟨_, rfl⟩ | exact ⟨rfl, _, rfl⟩ | trace_state
end Go.Proofs
/- Poll letters: walked. -/

set_option linter.all false
set_option maxRecDepth 100000
namespace Go.Proofs
open Go Go.Ev
variable {H : Heap}
theorem f70_none {k : K} {wr : Bool} {b0 b1 b2 c0 c1 c2 c3 c4 c5 c6 c7 c8 c9 c10 c11 c12 c13 c14 c15 : AV} {a0 a1 a2 a3 a4 : Int} (hk : H.get k = some (.row wr 24 [[b0, b1, b2, .int .i64 a0, .int .i64 a1, .int .i64 a2, .int .i64 a3, .int .i64 a4, c0, c1, c2, c3, c4, c5, c6, c7, c8, c9, c10, c11, c12, c13, c14, c15]])) (h0 : okI a0) (h1 : okI a1) (h2 : okI a2) (h3 : okI a3) (h4 : okI a4) :
    FnOk Tryz.prog 70 [.slice k 3 5 1 true 5, .fn (.func 67) [] []] H fun r G => r = .bool false ∧ G = H := by
  refine FnOk.assume fun hok => ?_
  refine FnOk.drop (R := fun r => r = .bool false) ?_ (by rintro v rfl ρ; rw [AV.ren])
  refine FnOk.of_WW Tryz.func70 rfl C70ok R70ok E0 good_E0 ?_
  simp only [go_sem, C70]
  refine CL.of (f133_none (Heap.get_ext_old hok hk _) h0 h1 h2 h3 h4) ?_
  rintro _ G' ⟨rfl, hG⟩; rw [hG]; clear hG
  have z : ((0 : Int) ≤ -1) = False := eq_false (by decide)
  simp only [go_sem, z]
  first | exact ⟨_, rfl⟩ | exact ⟨rfl, _, rfl⟩ | trace_state
theorem f134_nil (f : AV) : FnOk Tryz.prog 134 [.nils, f] H fun r G => r = .int .i64 (-1) ∧ G = H := by
  refine FnOk.drop (R := fun r => r = .int .i64 (-1)) ?_ (by rintro v rfl ρ; rw [AV.ren])
  refine FnOk.of_WW Tryz.func134 rfl C134ok R134ok E0 good_E0 ?_
  simp only [go_sem, C134]
  refine LL.sth good_E0 (fun i : Nat => 5 - i) (fun i M => M = H ∧ i = 0)
    (fun i => [(.z, .nils), ((.o .z), f), ((.o (.o (.o .z))), .int .i64 0), ((.i (.o (.o .z))), .int .i64 0)]) ?_ 0 ⟨Heap.ext_nil H, rfl⟩ (Slots.all (by simp only [go_sem]; first | done | rfl | trace_state))
  rintro i M ⟨rfl, rfl⟩
  simp only [go_sem]
  first | exact ⟨_, rfl⟩ | exact ⟨rfl, _, rfl⟩ | trace_state
theorem f135_nil (f : AV) : FnOk Tryz.prog 135 [.nils, f] H fun r G => r = .int .i64 (-1) ∧ G = H := by
  refine FnOk.drop (R := fun r => r = .int .i64 (-1)) ?_ (by rintro v rfl ρ; rw [AV.ren])
  refine FnOk.of_WW Tryz.func135 rfl C135ok R135ok E0 good_E0 ?_
  simp only [go_sem, C135]
  refine LL.sth good_E0 (fun i : Nat => 5 - i) (fun i M => M = H ∧ i = 0)
    (fun i => [(.z, .nils), ((.o .z), f), ((.o (.o (.o .z))), .int .i64 0), ((.i (.o (.o .z))), .int .i64 0)]) ?_ 0 ⟨Heap.ext_nil H, rfl⟩ (Slots.all (by simp only [go_sem]; first | done | rfl | trace_state))
  rintro i M ⟨rfl, rfl⟩
  simp only [go_sem]
  first | exact ⟨_, rfl⟩ | exact ⟨rfl, _, rfl⟩ | trace_state
theorem f72_nil (f : AV) : FnOk Tryz.prog 72 [.nils, f] H fun r G => r = .bool false ∧ G = H := by
  refine FnOk.drop (R := fun r => r = .bool false) ?_ (by rintro v rfl ρ; rw [AV.ren])
  refine FnOk.of_WW Tryz.func72 rfl C72ok R72ok E0 good_E0 ?_
  simp only [go_sem, C72]
  refine CL.of (f134_nil f) ?_
  rintro _ G' ⟨rfl, hG⟩; rw [hG]; clear hG
  have z : ((0 : Int) ≤ -1) = False := eq_false (by decide)
  simp only [go_sem, z]
  first | exact ⟨_, rfl⟩ | exact ⟨rfl, _, rfl⟩ | trace_state
theorem f75_nil (f : AV) : FnOk Tryz.prog 75 [.nils, f] H fun r G => r = .bool false ∧ G = H := by
  refine FnOk.drop (R := fun r => r = .bool false) ?_ (by rintro v rfl ρ; rw [AV.ren])
  refine FnOk.of_WW Tryz.func75 rfl C75ok R75ok E0 good_E0 ?_
  simp only [go_sem, C75]
  refine CL.of (f135_nil f) ?_
  rintro _ G' ⟨rfl, hG⟩; rw [hG]; clear hG
  have z : ((0 : Int) ≤ -1) = False := eq_false (by decide)
  simp only [go_sem, z]
  first | exact ⟨_, rfl⟩ | exact ⟨rfl, _, rfl⟩ | trace_state
end Go.Proofs
/- token.Is: walked. -/


set_option linter.all false
set_option maxRecDepth 100000
namespace Go.Proofs
open Go Go.Ev
variable {H : Heap}
theorem f71_ok {v : AV} {l : List Sn} (hA : Arr H 2 v (l.map Sn.enc)) (hl : l.length < 9223372036854775807) :
    FnOk Tryz.prog 71 [v] H fun r G => r = .bool (decide (isTok l)) ∧ G = H := by
  refine FnOk.assume fun hok => ?_
  refine FnOk.drop (R := fun r => r = .bool (decide (isTok l))) ?_ (by rintro v rfl ρ; rw [AV.ren])
  refine FnOk.of_WW Tryz.func71 rfl C71ok R71ok E0 good_E0 ?_
  have hlen := fun G => hA.len G; simp only [List.length_map] at hlen; have hren := hA.ren
  simp only [go_sem, C71, hlen]
  refine LL.st good_E0 (fun i : Nat => l.length - i) (fun i => i ≤ l.length ∧ ∀ j, j < i → okTk l j)
    (fun i => [(.z, v), ((.o (.i .z)), v), ((.i (.i .z)), .int .i64 l.length), ((.o (.o (.o .z))), .int .i64 i)]) (fun i => []) ?_ 0 (σ := []) (Wk.of rfl (by decide) (by simp only [go_sem, hren]) (by simp only [go_sem])) ⟨Nat.zero_le _, fun j h => absurd h (Nat.not_lt_zero _)⟩
  rintro i ⟨hi, hno⟩
  by_cases hlt : i < l.length
  · obtain ⟨kk, r, ex', cap', wr, rows, hv, hrho, hgo, hrow⟩ := hA.at hok (j := i) (by rw [List.length_map]; exact hlt); simp only [List.length_map, List.getElem_map] at hv hrow; cases hv; have hget : l[i]? = some l[i] := List.getElem?_eq_getElem hlt; generalize l[i] = c at hrow hget; have hw := wrap_succ (n := i) (by omega); have hci : (i : Int) < (l.length : Int) := (by omega); have hsi : i + 1 ≤ l.length := (by omega)
    have hbad : ¬ okTk l i → AV.bool false = .bool (decide (isTok l)) := fun h => bool_f fun g => h (g i hlt)
    simp only [go_sem, hci, hsi, hgo, hrow, hw, Sn.enc]
    refine CL.bool (f117_ok c.key) (fun g1 => ?_) (fun g1 => ?_)
    · simp only [go_sem, hw]
      refine ⟨fun g2 => ⟨hbad ?_, _, rfl⟩, fun g2 => ⟨fun g3 => ⟨hbad ?_, _, rfl⟩, fun g3 => ?_⟩⟩
      · rintro ⟨c', h1, ⟨_, h2, _⟩, _⟩; rw [hget] at h1; cases h1; omega
      · rintro ⟨c', h1, ⟨_, _, h2⟩, _⟩; rw [hget] at h1; cases h1; omega
      · have hk : okS c := ⟨g1, by omega, by omega⟩
        rcases i with _ | i
        · simp only [go_sem, Int.ofNat_zero, Int.lt_irrefl]
          refine ⟨0 + 1, by show l.length - (0 + 1) < l.length - 0; omega, ⟨by omega, fun j hj => ?_⟩, _, [], rfl, Wk.of rfl (by decide) (by simp only [go_sem, hren, hrho, hw]) (by simp only [go_sem])⟩
          obtain rfl : j = 0 := by omega
          exact ⟨c, hget, hk, fun h => absurd h (by decide)⟩
        · have hpos : (0 : Int) < ((i + 1 : Nat) : Int) := by omega
          have hp : IntKind.i64.wrap (((i + 1 : Nat) : Int) - 1) = (i : Int) := by rw [wrap_i64 (by omega) (by omega)]; omega
          have hltj : i < l.length := by omega
          obtain ⟨kk2, r2, ex2, cap2, wr2, rows2, hv2, _, hgo2, hrow2⟩ := hA.at hok (j := i) (by rw [List.length_map]; exact hltj)
          simp only [List.length_map, List.getElem_map] at hv2 hrow2
          have hgetd : l[i]? = some l[i] := List.getElem?_eq_getElem hltj
          generalize l[i] = d at hrow2 hgetd
          injection hv2 with e1 e2 e3 e4 e5 e6
          have e2' : r2 = r := by omega
          subst e1 e2'
          have hrr := hgo2 []
          rw [hgo []] at hrr
          cases hrr
          have hsj : i + 1 ≤ l.length := by omega
          have hi0 : (0 : Int) ≤ (i : Int) := by omega
          simp only [go_sem, hpos, hp, hi0, hsj, hgo, hrow2, Sn.enc]
          refine ⟨fun g4 => ⟨hbad ?_, _, rfl⟩, fun g4 => ?_⟩
          · rintro ⟨c', h1, _, h2⟩
            obtain ⟨d', h3, h4⟩ := h2 (by omega)
            rw [hget] at h1; cases h1
            rw [Nat.add_sub_cancel, hgetd] at h3; cases h3
            exact g4 h4
          · refine ⟨i + 1 + 1, by show l.length - (i + 1 + 1) < l.length - (i + 1); omega, ⟨by omega, fun j hj => ?_⟩, _, [], rfl, Wk.of rfl (by decide) (by simp only [go_sem, hren, hrho, hw]) (by simp only [go_sem])⟩
            rcases Nat.lt_or_ge j (i + 1) with h | h
            · exact hno j h
            · obtain rfl : j = i + 1 := by omega
              exact ⟨c, hget, hk, fun _ => ⟨d, by rw [Nat.add_sub_cancel]; exact hgetd, Classical.not_not.1 g4⟩⟩
    · simp only [go_sem]
      refine ⟨hbad ?_, _, rfl⟩
      rintro ⟨c', h1, ⟨h2, _⟩, _⟩; rw [hget] at h1; cases h1; exact g1 h2
  · have hci : ¬ (i : Int) < (l.length : Int) := by omega
    simp only [go_sem, hci]
    exact ⟨bool_t fun j hj => hno j (by omega), _, rfl⟩
end Go.Proofs
/- letter.Is of a poll: walked. -/


set_option linter.all false
set_option maxRecDepth 100000
namespace Go.Proofs
open Go Go.Ev
variable {H : Heap}
/-- a poll -/
def pollP (cr : Int) (fr to : List Nat) (w : AV) : List AV := [.int .i64 3, .int .i64 201, .int .i64 0, .int .i64 2, .int .i64 cr, .int .i64 5, .int .i64 0, .int .i64 0, .int .i64 0, .str [], .str [], .str [], .int .i64 0, .nils, .int .i64 0, .str [], .int .i64 0, .nils, .str fr, .str to, w, .nils, .nils, .str []]
theorem f30_poll {cr : Int} {fr to : List Nat} {w : AV} {seen : List Sn} (hA : Arr H 2 w (seen.map Sn.enc)) (hl : seen.length ≤ 60) (ht : isTok seen) (hs : isSpan fr to) (hc : okI cr) : FnOk Tryz.prog 30 [.agg (pollP cr fr to w)] H fun r G => r = .bool true ∧ G = H := by
  refine FnOk.assume fun hok => ?_
  refine FnOk.drop (R := fun r => r = .bool true) ?_ (by rintro v rfl ρ; rw [AV.ren])
  refine FnOk.of_WW Tryz.func30 rfl C30ok R30ok E0 good_E0 ?_
  simp only [go_sem, C30, pollP]
  refine CL.of (f68_poll _ _ _ _ _ _ _ _ _ _ _ _ _) ?_
  rintro _ G' ⟨rfl, hG⟩; rw [hG]; clear hG
  simp only [go_sem]
  refine CL.of f69_ok ?_
  rintro _ G' ⟨rfl, hG⟩; rw [hG]; clear hG
  simp only [go_sem]
  refine CL.of f69_ok0 ?_
  rintro _ G' ⟨rfl, hG⟩; rw [hG]; clear hG
  simp only [go_sem]
  have h2 : okI 2 := ⟨by decide, by decide⟩
  have h5 : okI 5 := ⟨by decide, by decide⟩
  have h00 : okI 0 := ⟨by decide, by decide⟩
  have e0 : (H.ext [.row true 24 [pollP cr fr to w]]).get (H.key 0) = some (.row true 24 [pollP cr fr to w]) := get_lit rfl
  simp only [pollP] at e0
  refine ⟨by simp, CL.of (f70_none e0 h2 hc h5 h00 h00) ?_⟩
  rintro _ G' ⟨rfl, hG⟩; rw [hG]; clear hG
  simp only [go_sem]
  refine CL.of (f57_ok fr to) ?_
  rintro _ G' ⟨rfl, hG⟩; rw [hG]; clear hG
  have hs' : decide (isSpan fr to) = true := decide_eq_true hs
  have hlen := fun G => hA.len G
  simp only [List.length_map] at hlen
  have ht' : decide (isTok seen) = true := decide_eq_true ht
  have hl' : ((60 : Int) < (seen.length : Int)) = False := eq_false (by omega)
  simp only [go_sem, hs']
  refine CL.of (f71_ok (hA.ext _) (by omega)) ?_
  rintro _ G' ⟨rfl, hG⟩; rw [hG]; clear hG
  simp only [go_sem, ht', hlen, hl']
  refine CL.of (f72_nil _) ?_
  rintro _ G' ⟨rfl, hG⟩; rw [hG]; clear hG
  simp only [go_sem]
  refine CL.of (f75_nil _) ?_
  rintro _ G' ⟨rfl, hG⟩; rw [hG]; clear hG
  simp only [go_sem]
  first | exact ⟨_, rfl⟩ | exact ⟨rfl, _, rfl⟩ | trace_state
end Go.Proofs
/- Answers that wait, told exactly: walked. -/

set_option linter.all false
set_option maxRecDepth 100000
namespace Go.Proofs
open Go Go.Ev
variable {H : Heap}
section
variable {G : Heap} {kn kw : K}
theorem f84_moreE (hok : G.ok) {x0 kd : Int} {d1 d2 d3 x5 x6 x7 : AV} {n : Nat} {x : List AV} {xs : List (List AV)} (hn : G.get kn = some (.row true 8 [[.int .i64 x0, d1, d2, d3, outV kw 24 (n + 1), x5, x6, x7]])) (hw : G.get kw = some (.row true 24 (x :: xs))) (hl : xs.length = n) (hN : n < 100000) (t1 t3 : Int) (t0 t2 t4 t5 t6 t7 t8 t9 t10 t11 t12 t13 t14 t15 t16 t17 t18 t19 t20 t21 t22 t23 l0 l1 l2 l3 l4 l5 l6 l7 l8 l9 l10 l11 l12 l13 l14 l15 l16 l17 l18 l19 l20 l21 l22 l23 : AV) :
    ∃ X, FnOk Tryz.prog 84 [.ptr kn 0, .agg [t0, .int .i64 t1, t2, .int .i64 t3, t4, t5, t6, t7, t8, t9, t10, t11, t12, t13, t14, t15, t16, t17, t18, t19, t20, t21, t22, t23], .int .i64 kd, .agg [l0, l1, l2, l3, l4, l5, l6, l7, l8, l9, l10, l11, l12, l13, l14, l15, l16, l17, l18, l19, l20, l21, l22, l23]] G (fun r G' => r = .tup [] ∧ G' = X) ∧ (∃ kw', kw' ∉ [kn, kw] ∧ X.get kn = some (.row true 8 [[.int .i64 x0, d1, d2, d3, outV kw' 24 (n + 2), x5, x6, x7]]) ∧ X.get kw' = some (.row true 24 (x :: xs ++ [[.int .i64 kd, .int .i64 x0, .int .i64 t1, .int .i64 t3, l4, l5, l6, l7, l8, l9, l10, l11, l12, l13, l14, l15, l16, l17, l18, l19, l20, l21, l22, l23]]))) ∧ X.ok ∧ Kp [kn, kw] G X := by
  have hne : kw ≠ kn := by rintro rfl; rw [hw] at hn; cases hn
  have hdk : (G.set kw .dead).get kn = some (.row true 8 [[.int .i64 x0, d1, d2, d3, outV kw 24 (n + 1), x5, x6, x7]]) := by rw [Heap.get_set, if_neg hne]; exact hn
  have hdo : (G.set kw .dead).ok := Heap.ok_set hok hw
  have hD : Kp [kn, kw] G (G.set kw .dead) := ⟨fun j d hj hd => by rw [Heap.get_set, if_neg (by rintro rfl; simp at hj)]; exact hd, Nat.le_refl _⟩
  obtain ⟨e1, e2, e3, e4, e5⟩ := says_end hdo hdk hD (by simp) (by intro j hj; simp only [List.mem_cons, List.not_mem_nil, or_false] at hj; rcases hj with rfl | rfl <;> first | exact ⟨_, hn⟩ | exact ⟨_, hw⟩) hok (L := [.row true 24 [[t0, .int .i64 t1, t2, .int .i64 t3, t4, t5, t6, t7, t8, t9, t10, t11, t12, t13, t14, t15, t16, t17, t18, t19, t20, t21, t22, t23]], .row true 24 [[.int .i64 kd, .int .i64 x0, .int .i64 t1, .int .i64 t3, l4, l5, l6, l7, l8, l9, l10, l11, l12, l13, l14, l15, l16, l17, l18, l19, l20, l21, l22, l23]], .row true 24 [[.int .i64 kd, .int .i64 x0, .int .i64 t1, .int .i64 t3, l4, l5, l6, l7, l8, l9, l10, l11, l12, l13, l14, l15, l16, l17, l18, l19, l20, l21, l22, l23]], .row true 24 (x :: (xs ++ [[.int .i64 kd, .int .i64 x0, .int .i64 t1, .int .i64 t3, l4, l5, l6, l7, l8, l9, l10, l11, l12, l13, l14, l15, l16, l17, l18, l19, l20, l21, l22, l23]]))]) (i := 3) rfl (.row true 8 [[.int .i64 x0, d1, d2, d3, .slice (G.key 3) 0 (n + 2) 24 false (n + 2), x5, x6, x7]])
  refine ⟨_, ?_, ⟨_, e5, e1, e2⟩, e3, e4⟩
  refine FnOk.of_WW Tryz.func84 rfl C84ok R84ok E0 good_E0 ?_
  have hn' := fun L => Heap.get_ext_old hok hn L
  have ha : ∀ (L : List Blk) (y : List AV), L[2]? = some (.row true 24 [y]) → appQ 24 328 (some (.slice kw 0 (n + 1) 24 false (n + 1))) (some (.slice (G.key 2) 0 1 24 true 1)) (G.ext L) = .val (.slice ((G.set kw .dead).key L.length) 0 (n + 2) 24 false (n + 2)) ((G.set kw .dead).ext (L ++ [.row true 24 (x :: xs ++ [y])])) := fun L y hj => appQ_old hok hw hl (ex := true) (cap := 1) hj hN
  have hn2 := fun L => Heap.get_ext_old hdo hdk L
  have hs2 := fun b (l : List Blk) (α : Type) (c' : Heap → α) => Heap.setC_here hdo hdk b l c'
  simp only [go_sem, ↓appR_hide, C84, hn']
  rw [ha _ _ rfl]
  simp only [go_sem, hn2, hs2]
theorem f84_firstE (hok : G.ok) {x0 kd : Int} {d1 d2 d3 x5 x6 x7 : AV} (hn : G.get kn = some (.row true 8 [[.int .i64 x0, d1, d2, d3, .nils, x5, x6, x7]])) (t1 t3 : Int) (t0 t2 t4 t5 t6 t7 t8 t9 t10 t11 t12 t13 t14 t15 t16 t17 t18 t19 t20 t21 t22 t23 l0 l1 l2 l3 l4 l5 l6 l7 l8 l9 l10 l11 l12 l13 l14 l15 l16 l17 l18 l19 l20 l21 l22 l23 : AV) :
    ∃ X, FnOk Tryz.prog 84 [.ptr kn 0, .agg [t0, .int .i64 t1, t2, .int .i64 t3, t4, t5, t6, t7, t8, t9, t10, t11, t12, t13, t14, t15, t16, t17, t18, t19, t20, t21, t22, t23], .int .i64 kd, .agg [l0, l1, l2, l3, l4, l5, l6, l7, l8, l9, l10, l11, l12, l13, l14, l15, l16, l17, l18, l19, l20, l21, l22, l23]] G (fun r G' => r = .tup [] ∧ G' = X) ∧ (∃ kw', kw' ∉ [kn] ∧ X.get kn = some (.row true 8 [[.int .i64 x0, d1, d2, d3, outV kw' 24 1, x5, x6, x7]]) ∧ X.get kw' = some (.row true 24 [[.int .i64 kd, .int .i64 x0, .int .i64 t1, .int .i64 t3, l4, l5, l6, l7, l8, l9, l10, l11, l12, l13, l14, l15, l16, l17, l18, l19, l20, l21, l22, l23]])) ∧ X.ok ∧ Kp [kn] G X := by
  obtain ⟨e1, e2, e3, e4, e5⟩ := says_end (ks := [kn]) hok hn ⟨fun j d hj hd => hd, Nat.le_refl _⟩ (by simp) (by intro j hj; rw [List.mem_singleton.1 hj]; exact ⟨_, hn⟩) hok (L := [.row true 24 [[t0, .int .i64 t1, t2, .int .i64 t3, t4, t5, t6, t7, t8, t9, t10, t11, t12, t13, t14, t15, t16, t17, t18, t19, t20, t21, t22, t23]], .row true 24 [[.int .i64 kd, .int .i64 x0, .int .i64 t1, .int .i64 t3, l4, l5, l6, l7, l8, l9, l10, l11, l12, l13, l14, l15, l16, l17, l18, l19, l20, l21, l22, l23]], .row true 24 [[.int .i64 kd, .int .i64 x0, .int .i64 t1, .int .i64 t3, l4, l5, l6, l7, l8, l9, l10, l11, l12, l13, l14, l15, l16, l17, l18, l19, l20, l21, l22, l23]], .row true 24 [[.int .i64 kd, .int .i64 x0, .int .i64 t1, .int .i64 t3, l4, l5, l6, l7, l8, l9, l10, l11, l12, l13, l14, l15, l16, l17, l18, l19, l20, l21, l22, l23]]]) (i := 3) rfl (.row true 8 [[.int .i64 x0, d1, d2, d3, .slice (G.key 3) 0 1 24 false 1, x5, x6, x7]])
  refine ⟨_, ?_, ⟨_, e5, e1, e2⟩, e3, e4⟩
  refine FnOk.of_WW Tryz.func84 rfl C84ok R84ok E0 good_E0 ?_
  have hn' := fun L => Heap.get_ext_old hok hn L
  have hs2 := fun b (l : List Blk) (α : Type) (c' : Heap → α) => Heap.setC_here hok hn b l c'
  simp only [go_sem, C84, hn', hs2]
theorem f84_E (hok : G.ok) {x0 kd : Int} {d1 d2 d3 wv x5 x6 x7 : AV} {ws : List (List AV)} (hn : G.get kn = some (.row true 8 [[.int .i64 x0, d1, d2, d3, wv, x5, x6, x7]])) (hw : isWt G wv ws) (hN : ws.length < 100000) (t1 t3 : Int) (t0 t2 t4 t5 t6 t7 t8 t9 t10 t11 t12 t13 t14 t15 t16 t17 t18 t19 t20 t21 t22 t23 l0 l1 l2 l3 l4 l5 l6 l7 l8 l9 l10 l11 l12 l13 l14 l15 l16 l17 l18 l19 l20 l21 l22 l23 : AV) :
    ∃ X, FnOk Tryz.prog 84 [.ptr kn 0, .agg [t0, .int .i64 t1, t2, .int .i64 t3, t4, t5, t6, t7, t8, t9, t10, t11, t12, t13, t14, t15, t16, t17, t18, t19, t20, t21, t22, t23], .int .i64 kd, .agg [l0, l1, l2, l3, l4, l5, l6, l7, l8, l9, l10, l11, l12, l13, l14, l15, l16, l17, l18, l19, l20, l21, l22, l23]] G (fun r G' => r = .tup [] ∧ G' = X) ∧ (∃ wv', X.get kn = some (.row true 8 [[.int .i64 x0, d1, d2, d3, wv', x5, x6, x7]]) ∧ isWt X wv' (ws ++ [[.int .i64 kd, .int .i64 x0, .int .i64 t1, .int .i64 t3, l4, l5, l6, l7, l8, l9, l10, l11, l12, l13, l14, l15, l16, l17, l18, l19, l20, l21, l22, l23]])) ∧ X.ok ∧ Kp (kn :: wk wv) G X := by
  rcases hw with ⟨rfl, rfl⟩ | ⟨kw, hne, rfl, hw⟩
  · obtain ⟨X, h0, ⟨kw', _, h1, h2⟩, h3, h4⟩ := f84_firstE hok hn (kd := kd) t1 t3 t0 t2 t4 t5 t6 t7 t8 t9 t10 t11 t12 t13 t14 t15 t16 t17 t18 t19 t20 t21 t22 t23 l0 l1 l2 l3 l4 l5 l6 l7 l8 l9 l10 l11 l12 l13 l14 l15 l16 l17 l18 l19 l20 l21 l22 l23
    exact ⟨X, h0, ⟨_, h1, .inr ⟨kw', by simp, rfl, h2⟩⟩, h3, h4⟩
  · obtain ⟨x, xs, rfl⟩ : ∃ x xs, ws = x :: xs := by
      cases ws with
      | nil => exact absurd rfl hne
      | cons x xs => exact ⟨x, xs, rfl⟩
    obtain ⟨X, h0, ⟨kw', _, h1, h2⟩, h3, h4⟩ := f84_moreE hok hn hw rfl (by simp at hN; omega) (kd := kd) t1 t3 t0 t2 t4 t5 t6 t7 t8 t9 t10 t11 t12 t13 t14 t15 t16 t17 t18 t19 t20 t21 t22 t23 l0 l1 l2 l3 l4 l5 l6 l7 l8 l9 l10 l11 l12 l13 l14 l15 l16 l17 l18 l19 l20 l21 l22 l23
    refine ⟨X, h0, ⟨_, h1, .inr ⟨kw', by simp, ?_, h2⟩⟩, h3, h4⟩
    simp only [List.length_append, List.length_cons, List.length_nil]
end
end Go.Proofs
/- A node polled: walked. -/



set_option linter.all false
set_option maxRecDepth 100000
namespace Go.Proofs
open Go Go.Ev
theorem three_calls {P : Program} {f g h : FuncId} (hgf : g ≠ f) (hhf : h ≠ f) (hhg : h ≠ g) {a b c : List AV} {v u x : AV} {H H2 H3 G G2 G3 : Heap} (h1 : FnOk P f a H fun r J => r = v ∧ J = G) (h2 : FnOk P g b H2 fun r J => r = u ∧ J = G2) (h3 : FnOk P h c H3 fun r J => r = x ∧ J = G3) :
    ∃ E : FuncId → List AV → Heap → RC, Ev.Good P E ∧ E f a H = .ok v G ∧ E g b H2 = .ok u G2 ∧ E h c H3 = .ok x G3 :=
  ⟨withE (withE (withE E0 f a H v G) g b H2 u G2) h c H3 x G3, good_withE (good_withE (good_withE good_E0 h1) h2) h3, by rw [withE_ne (Ne.symm hhf), withE_ne (Ne.symm hgf), withE_eq], by rw [withE_ne (Ne.symm hhg), withE_eq], withE_eq ..⟩
section
variable {G : Heap} {kn kd kj kh : K}
theorem isNd.says {G X : Heap} {x5 x6 x7 wv : AV} {bs : List Nat} {n m : Nat} {ws ws' : List (List AV)} {s : Sh} (h : isNd G kn kd kj kh bs n m ws x5 x6 x7 s) (hn : G.get kn = some (.row true 8 [[.int .i64 0, .ptr kd 0, .ptr kj 0, .ptr kh 0, wv, x5, x6, x7]])) (hw : isWt G wv ws)
    (h1 : ∃ wv', X.get kn = some (.row true 8 [[.int .i64 0, .ptr kd 0, .ptr kj 0, .ptr kh 0, wv', x5, x6, x7]]) ∧ isWt X wv' ws') (h3 : X.ok) (h4 : Kp (kn :: wk wv) G X) : isNd X kn kd kj kh bs n m ws' x5 x6 x7 s := by
  obtain ⟨lv, hh⟩ := h.hold
  have hnw : ∀ {j x}, G.get j = some (.row true 2 [x]) → j ∉ kn :: wk wv := fun {j x} hb hm => by
    rcases List.mem_cons.1 hm with rfl | hm
    · rw [hn] at hb; cases hb
    · rcases hw with ⟨_, rfl⟩ | ⟨kw, a1, rfl, a3⟩
      · cases hm
      · cases ws with
        | nil => cases hm
        | cons w ws =>
          rw [List.mem_singleton.1 hm, a3] at hb; cases hb
  refine ⟨h3, h1, h4.keep _ _ (hnw h.disk) h.disk, h4.keep _ _ (hnw h.jour) h.jour, lv, hh.kp h4 h3 fun j hm => ?_⟩
  refine ⟨fun e => hnw hh.row (e ▸ hm), fun b hb => ?_⟩
  rcases List.mem_cons.1 hm with rfl | hm
  · rw [hn] at hb; cases hb; exact foreign_node
  · rcases hw with ⟨_, rfl⟩ | ⟨kw, a1, rfl, a3⟩
    · cases hm
    · cases ws with
      | nil => cases hm
      | cons w ws =>
        rw [List.mem_singleton.1 hm, a3] at hb; cases hb; exact foreign_wide (by decide)
/-- what is told of what isn't here -/
def feedN (n : Int) : List AV := [.int .i64 4, .int .i64 0, .int .i64 201, .int .i64 2, .int .i64 0, .int .i64 5, .int .i64 n, .int .i64 0, .int .i64 0, .str [], .str [], .str [], .int .i64 0, .nils, .int .i64 0, .str [], .int .i64 0, .nils, .str [], .str [], .nils, .nils, .nils, .str []]
theorem f32_none {x5 x6 x7 : AV} {bs : List Nat} {n m : Nat} {ws : List (List AV)} {s : Sh} {cr : Int} {fr to : List Nat} {w : AV} (h : isNd G kn kd kj kh bs n m ws x5 x6 x7 s) (hq : atQ fr s = false) (hN : ws.length < 100000) :
    FnOk Tryz.prog 32 [.ptr kn 0, .agg (pollP cr fr to w)] G fun r G' => r = .tup [] ∧ isNd G' kn kd kj kh bs n m (ws ++ [feedN 2]) x5 x6 x7 s := by
  obtain ⟨wv, hn, hw⟩ := h.row
  obtain ⟨lv, hh⟩ := h.hold
  have hx : idx (atQ fr) [s] 0 = -1 := by simp [idx, hq]
  obtain ⟨L0, hL0⟩ : ∃ L0, L0 = [Blk.row true 24 [pollP cr fr to w], .row true 8 [zS]] := ⟨_, rfl⟩
  obtain ⟨L1, hL1⟩ : ∃ L1, L1 = [Blk.row true 24 [pollP cr fr to w], .row true 8 [zS], .row true 1 [[.int .i64 0], [.int .i64 5], [.int .i64 2]]] := ⟨_, rfl⟩
  have c83 := f83_no (hh.ext L0) fr hx
  have c85 := f85_three (H := G.ext L1) 0 5 2 (k := G.key 2) (ex := true) (cap := 3) (by rw [hL1]; exact get_lit rfl)
  obtain ⟨X, c84, hx1, hx2, hx3⟩ := f84_E (Heap.ok_ext h.ok L1) (kd := 4) (Heap.get_ext_old h.ok hn L1) (hw.ext h.ok L1) hN 201 2 (.int .i64 3) (.int .i64 0) (.int .i64 cr) (.int .i64 5) (.int .i64 0) (.int .i64 0) (.int .i64 0) (.str []) (.str []) (.str []) (.int .i64 0) .nils (.int .i64 0) (.str []) (.int .i64 0) .nils (.str fr) (.str to) w .nils .nils (.str []) (.int .i64 0) (.int .i64 0) (.int .i64 0) (.int .i64 0) (.int .i64 0) (.int .i64 5) (.int .i64 2) (.int .i64 0) (.int .i64 0) (.str []) (.str []) (.str []) (.int .i64 0) .nils (.int .i64 0) (.str []) (.int .i64 0) .nils (.str []) (.str []) .nils .nils .nils (.str [])
  obtain ⟨E, hE, e1, e2, e3⟩ := three_calls (f := 83) (g := 85) (h := 84) (by decide) (by decide) (by decide) c83 c85 c84
  rw [hL0] at e1
  rw [hL1] at e2 e3
  simp only [pollP, zS, numL] at e1 e2 e3
  refine FnOk.of_WW Tryz.func32 rfl C32ok R32ok E hE ?_
  have hn' := fun L => Heap.get_ext_old h.ok hn L
  simp only [go_sem, C32, pollP, hn', e1, e2, e3]
  exact (h.ext L1).says (Heap.get_ext_old h.ok hn L1) (hw.ext h.ok L1) hx1 hx2 hx3
end
end Go.Proofs
/- Spans polled: reckoned. -/

set_option linter.all false
set_option maxRecDepth 100000
namespace Go.Proofs
open Go Go.Ev
variable {H : Heap}
def qF (p : Nat) : List Nat := if p = 0 then [99] else if p = 1 then [100] else if p = 2 then [99] else [112]
def qT (p : Nat) : List Nat := if p = 0 then [112] else if p = 1 then [109] else [122]
theorem run87_0 : isR (EK 87 [.agg [.str [99], .str [112]], .agg [.str [99], .str [112]]] hp0) (.bool true) = true := by kernel_rfl
theorem run87_1 : isR (EK 87 [.agg [.str [100], .str [109]], .agg [.str [99], .str [112]]] hp0) (.bool true) = true := by kernel_rfl
theorem run87_2 : isR (EK 87 [.agg [.str [99], .str [122]], .agg [.str [99], .str [112]]] hp0) (.bool false) = true := by kernel_rfl
theorem f87_sp {p : Nat} (h : p ≤ 2) : FnOk Tryz.prog 87 [.agg [.str (qF p), .str (qT p)], .agg [.str [99], .str [112]]] H fun r G => r = .bool (decide (p ≠ 2)) ∧ G = H := by
  rcases (show p = 0 ∨ p = 1 ∨ p = 2 by omega) with rfl | rfl | rfl
  · exact FnOk.of_ev1 good_XL rfl rfl run87_0
  · exact FnOk.of_ev1 good_XL rfl rfl run87_1
  · exact FnOk.of_ev1 good_XL rfl rfl run87_2
end Go.Proofs
/- A node polled of what is here: walked. -/

set_option linter.all false
set_option maxRecDepth 100000
namespace Go.Proofs
open Go Go.Ev
section
variable {G : Heap} {kn kd kj kh : K}
theorem f32_feed {x5 x6 x7 : AV} {bs : List Nat} {n m p : Nat} {ws : List (List AV)} {s : Sh} {cr : Int} {w : AV} {seen : List Sn} (h : isNd G kn kd kj kh bs n m ws x5 x6 x7 s) (hp : p ≤ 2) (hfr : s.fr = [99]) (hto : s.to = [112]) (hq : atQ (qF p) s = true) (hN : ws.length < 100000)
    (hA : Arr G 2 w (seen.map Sn.enc)) (hl : seen.length < 9223372036854775807) (hel : s.evs.length < 100000) (hcl : s.cells.length < 100000) (hm : okMeet s.fr s.to (qF p) (qT p)) (hno : ¬ lateW (maxS s.fr (qF p)) (lowS s.to (qT p)) seen s.cells) :
    FnOk Tryz.prog 32 [.ptr kn 0, .agg (pollP cr (qF p) (qT p) w)] G fun r G' => r = .tup [] ∧ ∃ x, isNd G' kn kd kj kh bs n m (ws ++ [[.int .i64 4, .int .i64 0, .int .i64 201, .int .i64 2, .int .i64 0, .int .i64 5, .int .i64 0, .int .i64 (if p = 2 then 1 else 0), .int .i64 0, .str [], .str [], .str [], .int .i64 0, .nils, .int .i64 0, .str [], .int .i64 0, .nils, .str (maxS s.fr (qF p)), .str (lowS s.to (qT p)), .nils, x, .nils, .str []]]) x5 x6 x7 s
      ∧ Arr G' 4 x ((afterL (maxS s.fr (qF p)) (lowS s.to (qT p)) seen (min (max cr 0) 8).toNat s.evs).map Evn.enc) := by
  obtain ⟨wv, hn, hw⟩ := h.row
  obtain ⟨lv, hh⟩ := h.hold
  have hso := hh.each s (List.mem_singleton_self _)
  obtain ⟨L0, hL0⟩ : ∃ L0, L0 = [Blk.row true 24 [pollP cr (qF p) (qT p) w], .row true 8 [zS]] := ⟨_, rfl⟩
  obtain ⟨E, hE, e1⟩ := one_call (f83_yes (hh.ext L0) (qF p) (i := 0) (idx_one hq) rfl)
  rw [hL0] at e1
  simp only [pollP, zS, Heap.key_ext, List.length_cons, List.length_nil, Nat.zero_add, Nat.reduceAdd] at e1
  refine FnOk.of_WW Tryz.func32 rfl C32ok R32ok E hE ?_
  have hn' := fun L => Heap.get_ext_old h.ok hn L
  simp only [go_sem, C32, pollP, hn', e1, Sh.cop, Sh.enc, copB, Heap.key_ext]
  refine CL.of (f85_two 0 5 (get_lit (i := 5) rfl)) ?_
  rintro _ G' ⟨rfl, hG⟩; rw [hG]; clear hG
  simp only [go_sem, numL]
  refine CL.of (f86_ok (s := s.cop (G.key 2) (G.key 3) (G.key 4)) (f := qF p) (t := qT p) (Sh.cop_ok hso rfl rfl rfl) hel hcl (hA.ext _) hl cr hm hno) ?_
  rintro _ G' ⟨x, L, hG, rfl, hx⟩
  have hM := hG
  obtain ⟨M, hMe⟩ : ∃ M, M = G' := ⟨_, rfl⟩
  rw [← hMe] at hM hx ⊢
  clear hG hMe
  have hMok : M.ok := by rw [hM]; exact Heap.ok_ext (Heap.ok_ext h.ok _) _
  have m0 := get_of_ext hM (i := 0) rfl
  have m1 := get_of_ext hM (i := 1) rfl
  have m6 := get_of_ext hM (i := 6) rfl
  have kne : ∀ {i j : Nat}, i ≠ j → G.key i ≠ G.key j := fun {i j} hij e => by
    have := congrArg K.toNat e
    rw [Heap.toNat_key, Heap.toNat_key] at this
    omega
  have hMn : M.get kn = some (.row true 8 [[.int .i64 0, .ptr kd 0, .ptr kj 0, .ptr kh 0, wv, x5, x6, x7]]) := by rw [hM, Heap.ext_append]; exact Heap.get_ext_old h.ok hn _
  have g0 := fun L => Heap.get_ext_old hMok m0 L
  have g1 := fun L => Heap.get_ext_old hMok m1 L
  have g6 := fun L => Heap.get_ext_old hMok m6 L
  have s6 := fun b (l : List Blk) (α : Type) (c' : Heap → α) => Heap.setC_here hMok m6 b l c'
  have s62 := fun b d (l : List Blk) (α : Type) (c' : Heap → α) => Heap.setC_set_here hMok m6 b d l c'
  have k6 := fun b (l : List Blk) => Heap.get_set_here hMok m6 b l
  have k0 := fun b (l : List Blk) => Heap.get_set_there hMok m0 (kne (i := 6) (j := 0) (by decide)) b l
  have k1 := fun b (l : List Blk) => Heap.get_set_there hMok m1 (kne (i := 6) (j := 1) (by decide)) b l
  have hag : ∀ {β : Type} (f : β) (c : List AV → β), asAggC x f c = f := by
    intro β f c
    rcases hx.forms with ⟨rfl, _⟩ | ⟨k, off, ex, cap, rfl, _⟩ <;> rfl
  have hone : x.one = true := by
    rcases hx.forms with ⟨rfl, _⟩ | ⟨k, off, ex, cap, rfl, _⟩ <;> rfl
  refine WW.nil ?_
  simp only [go_sem, g0, g1, g6, s6, s62, k6, k0, k1, hag, hone, bif_true]
  have c87 : ∀ J : Heap, FnOk Tryz.prog 87 [.agg [.str (qF p), .str (qT p)], .agg [.str s.fr, .str s.to]] J fun r G => r = .bool (decide (p ≠ 2)) ∧ G = J := fun J => by
    rw [hfr, hto]; exact f87_sp hp
  have kY : ∀ b l, isNd ((M.set (G.key 6) b).ext l) kn kd kj kh bs n m ws x5 x6 x7 s := fun b l => by
    obtain ⟨M2, e⟩ := set_of_ext hM (i := 6) (Nat.lt_of_sub_eq_succ rfl) b l
    rw [e]; exact h.ext M2
  have nY : ∀ b l, ((M.set (G.key 6) b).ext l).get kn = some (.row true 8 [[.int .i64 0, .ptr kd 0, .ptr kj 0, .ptr kh 0, wv, x5, x6, x7]]) := fun b l => Heap.get_set_there hMok hMn (ne_key h.ok hn 6).symm b l
  have wY : ∀ b l, isWt ((M.set (G.key 6) b).ext l) wv ws := fun b l => by
    obtain ⟨M2, e⟩ := set_of_ext hM (i := 6) (Nat.lt_of_sub_eq_succ rfl) b l
    rw [e]; exact hw.ext h.ok M2
  have xY : ∀ b l, Arr ((M.set (G.key 6) b).ext l) 4 x _ := fun b l => (hx.set m6 (by decide)).ext l
  have noY : ∀ b l, ∀ j ∈ kn :: wk wv, ∀ wr rows, ((M.set (G.key 6) b).ext l).get j = some (.row wr 4 rows) → ∀ r ∈ rows, r ∉ (afterL (maxS s.fr (qF p)) (lowS s.to (qT p)) seen (min (max cr 0) 8).toNat s.evs).map Evn.enc := fun b l j hj wr rows hg => by
    rcases List.mem_cons.1 hj with rfl | hj
    · rw [nY] at hg; cases hg
    · rcases wY b l with ⟨_, rfl⟩ | ⟨kw, a1, rfl, a3⟩
      · cases hj
      · cases ws with
        | nil => cases hj
        | cons w ws => rw [List.mem_singleton.1 hj, a3] at hg; cases hg
  refine CL.of (c87 _) ?_
  rintro _ G' ⟨rfl, hG⟩; rw [hG]; clear hG
  by_cases hp2 : p = 2
  · have hd : decide (p ≠ 2) = false := decide_eq_false (fun g => g hp2)
    simp only [go_sem, hd, g0, g1, g6, s6, s62, k6, k0, k1]
    refine CL.of (f88_ok s.fr s.to (qF p) (qT p)) ?_
    rintro _ G' ⟨rfl, hG⟩; rw [hG]; clear hG
    unfold meetV
    rw [if_pos hm]
    simp only [go_sem, g0, g1, g6, s6, s62, k6, k0, k1]
    have hif : (if p = 2 then (1 : Int) else 0) = 1 := if_pos hp2
    refine CL.of (f84_ok (kY _ _).ok (nY _ _) (wY _ _) hN 201 2 _ _ _ _ _ _ _ _ _ _ _ _ _ _ _ _ _ _ _ _ _ _ _ _ _ _ _ _ _ _ _ _ _ _ _ _ _ _ _ _ _ _ _ _ _ _) ?_
    rintro _ G' ⟨rfl, h1, h3, h4⟩
    simp only [go_sem, hif]
    exact ⟨x, (kY _ _).says (nY _ _) (wY _ _) h1 h3 h4, arr_kp (xY _ _) h4 (noY _ _)⟩
  · have hd : decide (p ≠ 2) = true := decide_eq_true hp2
    simp only [go_sem, hd, g0, g1, g6, s6, s62, k6, k0, k1]
    refine CL.of (f88_ok s.fr s.to (qF p) (qT p)) ?_
    rintro _ G' ⟨rfl, hG⟩; rw [hG]; clear hG
    unfold meetV
    rw [if_pos hm]
    simp only [go_sem, g0, g1, g6, s6, s62, k6, k0, k1]
    have hif : (if p = 2 then (1 : Int) else 0) = 0 := if_neg hp2
    refine CL.of (f84_ok (kY _ _).ok (nY _ _) (wY _ _) hN 201 2 _ _ _ _ _ _ _ _ _ _ _ _ _ _ _ _ _ _ _ _ _ _ _ _ _ _ _ _ _ _ _ _ _ _ _ _ _ _ _ _ _ _ _ _ _ _) ?_
    rintro _ G' ⟨rfl, h1, h3, h4⟩
    simp only [go_sem, hif]
    exact ⟨x, (kY _ _).says (nY _ _) (wY _ _) h1 h3 h4, arr_kp (xY _ _) h4 (noY _ _)⟩
end
end Go.Proofs
/- Take of a poll: walked. -/

set_option linter.all false
set_option maxRecDepth 100000
namespace Go.Proofs
open Go Go.Ev
section
variable {G : Heap} {kn kd kj kh : K}
theorem f10_poll {x5 x6 x7 : AV} {bs : List Nat} {n m : Nat} {ws : List (List AV)} {s : Sh} {cr : Int} {fr to : List Nat} {w : AV} {d : Sn} {Q : Heap → Prop} (h : isNd G kn kd kj kh bs n m ws x5 x6 x7 s) (hA : Arr G 2 w ([d].map Sn.enc)) (ht : isTok [d]) (hs : isSpan fr to) (hc : okI cr)
    (hp : ∀ L w', Arr (G.ext L) 2 w' ([d].map Sn.enc) → FnOk Tryz.prog 32 [.ptr kn 0, .agg (pollP cr fr to w')] (G.ext L) fun r G' => r = .tup [] ∧ Q G') :
    FnOk Tryz.prog 10 [.ptr kn 0, .agg (pollP cr fr to w)] G fun r G' => r = .tup [] ∧ Q G' := by
  obtain ⟨wv, hn, hw⟩ := h.row
  have e : FnOk Tryz.prog 30 [.agg (pollP cr fr to w)] (G.ext [.row true 24 [pollP cr fr to w]]) fun r G' => r = .bool true ∧ G' = G.ext [.row true 24 [pollP cr fr to w]] := f30_poll (hA.ext _) (by simp) ht hs hc
  obtain ⟨E, hE, he⟩ := one_call e
  simp only [pollP] at he
  refine FnOk.of_WW Tryz.func10 rfl C10ok R10ok E hE ?_
  have hn' := fun L => Heap.get_ext_old h.ok hn L
  simp only [go_sem, C10, pollP, hn', he]
  refine CL.of (clone_zd clo40 (hA.ext _) (by show (2 * 1 + 192) * 24 ≤ 281474976710656; decide) (fun top σ => Sn.map_rens _ _)) ?_
  rintro _ G' ⟨rfl, hG⟩; rw [hG]; clear hG
  simp only [go_sem, zV_pos (show 0 < 0 + 1 from Nat.zero_lt_succ 0), zB_pos (show 0 < [d.enc].length from Nat.zero_lt_succ 0)]
  have e32 := fun (L : List Blk) (hL : L[2]? = some (.row true 2 [d.enc])) => hp L (.slice (G.key 2) 0 1 2 false 1) (arr_row (i := 2) hL rfl)
  simp only [pollP] at e32
  refine CL.of (e32 _ (by rfl)) ?_
  rintro _ G' ⟨rfl, hq⟩
  simp only [go_sem]
  exact hq
end
end Go.Proofs
/- Cells, events of puts of one key. -/


set_option linter.all false
set_option maxRecDepth 100000
namespace Go.Proofs
open Go Go.Ev
def cKk (i : Nat) : Cell := ⟨[107], [118], i, false, 0⟩
def eKk (j : Nat) : Evn := ⟨[107], (j : Int) + 1, [118], false⟩
theorem kCE : ∀ i, kC i = (if i = 0 then [] else [cKk i]) ∧ kE i = (List.range i).map eKk
  | 0 => ⟨rfl, rfl⟩
  | i + 1 => by
    obtain ⟨h1, h2⟩ := kCE i
    have hg : (getL (kC i) [107]).1.ver = i ∧ (getL (kC i) [107]).1.floor = 0 := by
      rw [h1]
      by_cases hi : i = 0
      · subst hi; exact ⟨rfl, rfl⟩
      · rw [if_neg hi]; exact ⟨rfl, rfl⟩
    have hC : nextC (kC i) [107] [118] false = cKk (i + 1) := by unfold nextC cKk; rw [hg.1, hg.2]; rfl
    have hE : nextE (kC i) [107] [118] false = eKk i := by unfold nextE eKk; rw [hg.1]
    refine ⟨?_, ?_⟩
    · show refW (kC i) (nextC (kC i) [107] [118] false) = _
      have hw : refW (kC i) (cKk (i + 1)) = withL (kC i) (cKk (i + 1)) := by
        rw [h1]
        refine fold_withL _ [] ?_
        split
        · exact List.Pairwise.nil
        · exact List.pairwise_singleton ..
      rw [hC, if_neg (Nat.succ_ne_zero i), hw, h1]
      by_cases hi : i = 0
      · rw [if_pos hi]; rfl
      · rw [if_neg hi, withL, if_neg (show ¬ ltS (cKk i).key (cKk (i + 1)).key from ltS_irrefl _), if_pos (show (cKk i).key = (cKk (i + 1)).key from rfl)]
    · show kE i ++ [nextE (kC i) [107] [118] false] = _
      rw [hE, h2, List.range_succ, List.map_append]; rfl
theorem ofT_k (f : Int) : ofT [⟨[107], f⟩] [107] = f := by
  unfold ofT
  rw [getS, if_pos rfl]
/-- none of it is late -/
theorem late_k {a b : List Nat} {f i : Nat} : ¬ lateW a b [⟨[107], (f : Int)⟩] (kC i) := by
  rintro ⟨c, hc, hl⟩
  have hm : c ∈ kC i := (List.mem_filter.1 hc).1
  rw [(kCE i).1] at hm
  split at hm
  · cases hm
  · rw [List.mem_singleton.1 hm] at hl
    have h1 : ofT [⟨[107], (f : Int)⟩] (cKk i).key = f := ofT_k f
    rw [h1] at hl
    have h2 : (cKk i).floor = 0 := rfl
    omega
/-- what is told of it -/
theorem after_k {a b : List Nat} (hab : has a b [107]) {f i c : Nat} (hf : f ≤ i) : (afterL a b [⟨[107], (f : Int)⟩] c (kE i)) = ((List.range' f (i - f)).map eKk).take c := by
  unfold afterL tellL
  congr 1
  rw [(kCE i).2]
  have hsplit : List.range i = List.range' 0 f ++ List.range' f (i - f) := by
    have h := List.range'_append_1 (s := 0) (m := f) (n := i - f)
    rw [Nat.zero_add, show f + (i - f) = i by omega] at h
    rw [List.range_eq_range', h]
  have ht : ∀ j : Nat, tellE a b [⟨[107], (f : Int)⟩] (eKk j) ↔ f ≤ j := fun j => by
    unfold tellE
    have h1 : ofT [⟨[107], (f : Int)⟩] (eKk j).key = f := ofT_k f
    have h2 : (eKk j).ver = (j : Int) + 1 := rfl
    rw [h1, h2]
    exact ⟨fun h => by omega, fun h => ⟨hab, by omega⟩⟩
  rw [hsplit, List.map_append, List.filter_append]
  have h1 : List.filter (fun e => decide (tellE a b [⟨[107], (f : Int)⟩] e)) ((List.range' 0 f).map eKk) = [] := by
    refine List.filter_eq_nil_iff.2 fun e he => ?_
    obtain ⟨j, hj, rfl⟩ := List.mem_map.1 he
    have := (List.mem_range'_1.1 hj).2
    rw [decide_eq_false (fun h => by have := (ht j).1 h; omega)]
    decide
  have h2 : List.filter (fun e => decide (tellE a b [⟨[107], (f : Int)⟩] e)) ((List.range' f (i - f)).map eKk) = (List.range' f (i - f)).map eKk := by
    refine List.filter_eq_self.2 fun e he => ?_
    obtain ⟨j, hj, rfl⟩ := List.mem_map.1 he
    exact decide_eq_true ((ht j).2 (List.mem_range'_1.1 hj).1)
  rw [h1, h2, List.nil_append]
end Go.Proofs
/- The spans that NodeFeeds polls. -/

set_option linter.all false
set_option maxRecDepth 100000
namespace Go.Proofs
open Go Go.Ev
theorem isSpan_q {p : Nat} (h : p ≤ 3) : isSpan (qF p) (qT p) := by
  rcases (show p = 0 ∨ p = 1 ∨ p = 2 ∨ p = 3 by omega) with rfl | rfl | rfl | rfl <;> (unfold isSpan; decide)
theorem max_q {p : Nat} (h : p ≤ 2) : maxS [99] (qF p) = if p = 1 then [100] else [99] := by
  rcases (show p = 0 ∨ p = 1 ∨ p = 2 by omega) with rfl | rfl | rfl <;> (unfold maxS; decide)
theorem low_q {p : Nat} (h : p ≤ 2) : lowS [112] (qT p) = if p = 1 then [109] else [112] := by
  rcases (show p = 0 ∨ p = 1 ∨ p = 2 by omega) with rfl | rfl | rfl <;> (unfold lowS; decide)
theorem meet_q {p : Nat} (h : p ≤ 2) : okMeet [99] [112] (qF p) (qT p) := by
  refine ⟨has_k.1, isSpan_q (by omega), ?_⟩
  rw [max_q h, low_q h]
  by_cases hp : p = 1
  · rw [if_pos hp, if_pos hp]; unfold isSpan; decide
  · rw [if_neg hp, if_neg hp]; exact has_k.1
theorem has_q {p : Nat} (h : p ≤ 2) : has (maxS [99] (qF p)) (lowS [112] (qT p)) [107] := by
  refine ⟨(meet_q h).2.2, has_k.2.1, ?_, ?_⟩
  · rw [max_q h]; split <;> decide
  · rw [low_q h]; split <;> exact .inr (by decide)
theorem at_q {p : Nat} (h : p ≤ 2) {s : Sh} (h1 : s.fr = [99]) (h2 : s.to = [112]) (h3 : s.frz = false) : atQ (qF p) s = true := by
  unfold atQ
  rw [h1, h2, h3, if_neg Bool.false_ne_true]
  rcases (show p = 0 ∨ p = 1 ∨ p = 2 by omega) with rfl | rfl | rfl <;> decide
theorem at_q3 {s : Sh} (h1 : s.fr = [99]) (h2 : s.to = [112]) (h3 : s.frz = false) : atQ (qF 3) s = false := by
  unfold atQ
  rw [h1, h2, h3, if_neg Bool.false_ne_true]
  decide
theorem tok_q {f : Nat} (hf : f ≤ 19) : isTok [⟨[107], (f : Int)⟩] := tok_iff.2 ⟨fun c hc => by rw [List.mem_singleton.1 hc]; exact ⟨has_k.2.1, by show (0 : Int) ≤ f; omega, by show (f : Int) ≤ 1000000000000; omega⟩, List.pairwise_singleton ..⟩
end Go.Proofs
/- NodeFeeds: walked. -/


set_option linter.all false
set_option maxRecDepth 100000
namespace Go.Proofs
open Go Go.Ev
/-- the spans that are polled -/
def spL : List AV := [AV.str [99], AV.str [112], AV.str [100], AV.str [109], AV.str [99], AV.str [122], AV.str [112], AV.str [122]]
theorem sp_at {p : Nat} (h : p ≤ 3) : List.take 2 (List.drop (p * 2) spL) = [.str (qF p), .str (qT p)] ∧ 2 ≤ (List.drop (p * 2) spL).length := by
  rcases (show p = 0 ∨ p = 1 ∨ p = 2 ∨ p = 3 by omega) with rfl | rfl | rfl | rfl <;> exact ⟨rfl, by decide⟩
theorem f6_ok {n fr cr pt : Nat} (hn : n ≤ 255) (hf : fr ≤ 255) (hc : cr ≤ 255) (hp : pt ≤ 255) : FnOk Tryz.prog 6 [.int .u8 n, .int .u8 fr, .int .u8 cr, .int .u8 pt] hp0 fun r _ => r = .bool true := by
  refine FnOk.of_WW Tryz.func6 rfl C6ok R6ok E0 good_E0 ?_
  obtain ⟨k, hk0⟩ : ∃ k, k = n % 20 := ⟨_, rfl⟩
  have hk20 : k < 20 := by omega
  have hk : IntKind.i64.wrap ((n : Int).tmod 20) = (k : Int) := by
    rw [Int.tmod_eq_emod_of_nonneg (by omega), wrap_i64 (n := (n : Int) % 20) (by omega) (by omega)]; omega
  simp only [go_sem, C6]
  refine CL.of known_ok ?_
  rintro _ G' ⟨rfl, hG⟩; rw [hG]; clear hG
  simp only [go_sem]
  refine CL.of new_span ?_
  rintro _ M ⟨rfl, hNd⟩
  refine WW.nil ?_
  simp only [go_sem, hk]
  have hF0 : Fd k 0 M := ⟨Nat.zero_le _, _, _, _, _, _, hNd, putI_new 1 false has_k.1, rfl, rfl, rfl, rfl, Nat.zero_le _, by show 31 ≤ 31 + 100 * 0; decide, Nat.le_refl _, rfl⟩
  refine LL.sth good_E0 (fun i : Nat => k - i) (Fd k)
    (fun i => [(.z, .int .u8 n), ((.o .z), .int .u8 fr), ((.i .z), .int .u8 cr), ((.o (.o .z)), .int .u8 pt), ((.o (.i (.o .z))), .ptr (.i (.i (.o .z))) 0), ((.i (.i (.o .z))), .int .i64 k), ((.o (.o (.i .z))), .int .i64 i)]) ?_ 0 hF0 (Slots.all (by simp only [go_sem]; first | done | rfl | trace_state))
  intro i M hF
  have hi0 := hF.1
  have hw : IntKind.i64.wrap ((i : Int) + 1) = (i : Int) + 1 := wrap_i64 (by omega) (by omega)
  rw [Heap.ext_nil]
  simp only [go_sem, hw]
  refine ⟨fun hlt => ?_, fun hge => ?_⟩
  · have hlt' : i < k := by omega
    refine CL.of (f12_ok _ _) ?_
    rintro _ G' ⟨rfl, hG⟩; rw [hG]; clear hG
    simp only [go_sem]
    refine CL.of (f11_put (by omega) _) ?_
    rintro _ G' ⟨rfl, hG⟩; rw [hG]; clear hG
    simp only [go_sem]
    refine CL.of (hF.put hlt' hk20) ?_
    rintro _ M2 ⟨rfl, hF2⟩
    refine WW.nil ?_
    simp only [go_sem, hw]
    rw [Heap.ext_nil]
    exact ⟨i + 1, by show k - (i + 1) < k - i; omega, hF2, Slots.all (by simp only [go_sem]; first | done | rfl | trace_state)⟩
  · obtain rfl : i = k := by omega
    obtain ⟨_, bs, n0, m0, ws, s, hN, hP, h1, h2, h3, h4, h5, h6, h7, h8⟩ := hF
    refine CL.of (f13_ok hN) ?_
    rintro wv M2 ⟨-, hN2, -⟩
    refine WW.nil ?_
    obtain ⟨p, hp0⟩ : ∃ p, p = pt % 4 := ⟨_, rfl⟩
    obtain ⟨f, hf0⟩ : ∃ f, f = fr % (i + 1) := ⟨_, rfl⟩
    have hp4 : p ≤ 3 := by omega
    have hfi : f ≤ i := by rw [hf0]; exact Nat.le_of_lt_succ (Nat.mod_lt _ (Nat.succ_pos _))
    have hpt : (pt : Int).tmod 4 = (p : Int) := by rw [Int.tmod_eq_emod_of_nonneg (by omega)]; omega
    have hfr : (IntKind.i64.wrap (fr : Int)).tmod ((i : Int) + 1) = (f : Int) := by
      rw [wrap_i64 (n := (fr : Int)) (by omega) (by omega), Int.tmod_eq_emod_of_nonneg (by omega), hf0]
      exact (Int.natCast_emod fr (i + 1)).symm
    have hf2 : IntKind.i64.wrap (f : Int) = (f : Int) := wrap_i64 (by omega) (by omega)
    have hcr : IntKind.i64.wrap (cr : Int) = (cr : Int) := wrap_i64 (by omega) (by omega)
    have hi1 : ((i : Int) + 1 = 0) = False := eq_false (by omega)
    obtain ⟨hs1, hs2⟩ := sp_at hp4
    have hp5 : (p ≤ 3) = True := eq_true hp4
    have hs3 : (2 ≤ (List.drop (p * 2) spL).length) = True := eq_true hs2
    simp only [spL] at hs1 hs3
    simp only [go_sem, hpt, hw, hfr, hf2, hcr, hi1, hs1, hs3, hp5]
    have hfz : s.frz = false := hP.hd.2.2.2.2
    have hcr2 : okI (cr : Int) := ⟨by omega, by omega⟩
    by_cases hp2 : p ≤ 2
    · have e10 := fun (L : List Blk) (w : AV) (hw : Arr (M2.ext L) 2 w ([⟨[107], (f : Int)⟩].map Sn.enc)) => f10_poll (hN2.ext L) hw (tok_q (by omega)) (isSpan_q hp4) hcr2 (fun L' w' hw' => f32_feed ((hN2.ext L).ext L') hp2 h1 h2 (at_q hp2 h1 h2 hfz) (by decide) hw' (by show 1 < 9223372036854775807; decide) (by rw [hP.len]; omega) (by have := hP.cl; omega) (by rw [h1, h2]; exact meet_q hp2) (by rw [h4]; exact late_k))
      simp only [pollP] at e10
      refine CL.of (e10 _ _ (arr_row (i := 1) rfl rfl)) ?_
      rintro _ M3 ⟨rfl, x, hN3, hx⟩
      refine WW.nil ?_
      simp only [go_sem]
      refine CL.of (f13_ok hN3) ?_
      rintro wv2 M4 ⟨hw4, hN4, kp4⟩
      obtain ⟨wv3, hn3, -⟩ := hN3.row
      have hx4 := arr_kp hx kp4 (fun j hj wr rows hg => by
        simp only [List.mem_cons, List.not_mem_nil, or_false] at hj
        rcases hj with rfl | rfl
        · rw [hn3] at hg; cases hg
        · rw [hN3.disk] at hg; cases hg)
      rcases hw4 with ⟨e, _⟩ | ⟨kw, -, rfl, hkw⟩
      · simp at e
      rw [List.nil_append] at hkw
      have gw := fun L => Heap.get_ext_old hN4.ok hkw L
      have hlen := fun G => hx4.len G
      simp only [List.length_map] at hlen
      refine WW.nil ?_
      simp only [go_sem, gw, hlen, List.nil_append, List.length_cons, List.length_nil]
      obtain ⟨es, hes⟩ : ∃ es, es = afterL (maxS s.fr (qF p)) (lowS s.to (qT p)) [⟨[107], (f : Int)⟩] (min (max (cr : Int) 0) 8).toNat s.evs := ⟨_, rfl⟩
      rw [← hes] at hx4 hlen
      have hev : es = ((List.range' f (i - f)).map eKk).take (min cr 8) := by
        rw [hes, h1, h2, h3, after_k (has_q hp2) hfi, show (min (max (cr : Int) 0) 8).toNat = min cr 8 by omega]
      have hel : es.length = min (min cr 8) (i - f) := by rw [hev, List.length_take, List.length_map, List.length_range']
      refine ⟨fun g => absurd g (by rw [hpt]; omega), fun _ => ?_⟩
      refine LL.sth good_E0 (fun j : Nat => es.length - j) (fun j M => M = M4 ∧ j ≤ es.length)
        (fun j => [((.i .z), .int .u8 cr), ((.o (.o .z)), .int .u8 pt), ((.i (.i (.o .z))), .int .i64 i), ((.o (.i (.i .z))), .int .i64 f), ((.i (.i (.i .z))), outV kw 24 1), ((.o (.o (.o (.o .z)))), .int .i64 j)]) ?_ 0 ⟨Heap.ext_nil M4, Nat.zero_le _⟩ (Slots.all (by simp only [go_sem]; first | done | rfl | trace_state))
      rintro j M ⟨rfl, hj⟩
      rw [Heap.ext_nil]
      simp only [go_sem, hkw, gw, hlen, List.nil_append]
      have w1 : IntKind.i64.wrap ((f : Int) + 1) = (f : Int) + 1 := wrap_i64 (by omega) (by omega)
      have w2 : IntKind.i64.wrap ((f : Int) + 1 + (j : Int)) = (f : Int) + 1 + (j : Int) := wrap_i64 (by omega) (by omega)
      have w3 : IntKind.i64.wrap ((j : Int) + 1) = ((j + 1 : Nat) : Int) := by rw [wrap_i64 (by omega) (by omega)]; omega
      have w4 : IntKind.i64.wrap ((i : Int) - (f : Int)) = (i : Int) - (f : Int) := wrap_i64 (by omega) (by omega)
      refine ⟨fun hlt => ?_, fun hge => ?_⟩
      · have hlt' : j < es.length := by omega
        obtain ⟨kk, r, ex', cap', wr, rows, hv, hrho, hgo, hrow⟩ := hx4.at hN4.ok (j := j) (by rw [List.length_map]; exact hlt')
        simp only [List.length_map, List.getElem_map] at hv hrow
        have hej : es[j] = eKk (f + j) := by
          simp only [hev, List.getElem_take, List.getElem_map, List.getElem_range']
          congr 1; omega
        rw [hej] at hrow
        have hsi : j + 1 ≤ es.length := hlt'
        have hve : ((f + j : Nat) : Int) + 1 = (f : Int) + 1 + (j : Int) := by omega
        have hgo0 := hgo []
        rw [Heap.ext_nil] at hgo0
        simp only [go_sem, hv, hsi, hgo, hgo0, hrow, Evn.enc, eKk, w1, w2, w3, hve, gw, hkw]
        exact ⟨j + 1, by show es.length - (j + 1) < es.length - j; omega, ⟨rfl, hsi⟩, Slots.all (by simp only [go_sem, w3]; first | done | rfl | trace_state)⟩
      · have hje : j = es.length := by omega
        have hl2 : ((es.length : Nat) : Int) = min ((i : Int) - (f : Int)) (min (cr : Int) 8) := by rw [hel]; omega
        by_cases hp22 : p = 2
        · simp only [go_sem, hkw, gw, hlen, hpt, hcr, w4, hl2, hp22]
        · have hp2f : ((p : Int) = 2) = False := eq_false (by omega)
          simp only [go_sem, hkw, gw, hlen, hpt, hcr, w4, hl2, hp22, hp2f]
          first | done | trace_state
    · obtain rfl : p = 3 := by omega
      have e10 := fun (L : List Blk) (w : AV) (hw : Arr (M2.ext L) 2 w ([⟨[107], (f : Int)⟩].map Sn.enc)) => f10_poll (hN2.ext L) hw (tok_q (by omega)) (isSpan_q hp4) hcr2 (fun L' w' hw' => f32_none ((hN2.ext L).ext L') (at_q3 h1 h2 hfz) (by decide))
      simp only [pollP] at e10
      refine CL.of (e10 _ _ (arr_row (i := 1) rfl rfl)) ?_
      rintro _ M3 ⟨rfl, hN3⟩
      refine WW.nil ?_
      simp only [go_sem]
      refine CL.of (f13_ok hN3) ?_
      rintro wv2 M4 ⟨hw4, hN4, kp4⟩
      rcases hw4 with ⟨e, _⟩ | ⟨kw, -, rfl, hkw⟩
      · simp at e
      rw [List.nil_append] at hkw
      simp only [feedN] at hkw
      have gw := fun L => Heap.get_ext_old hN4.ok hkw L
      refine WW.nil ?_
      simp only [go_sem, gw, List.nil_append, List.length_cons, List.length_nil, hpt]
end Go.Proofs
