/- The told package variable: what a law's condition gives; a world that meets it. -/
import Derived.Test.YtomljpdjfobeoaaDoorZ21
import Derived.JoinedOf
set_option linter.all false
set_option maxRecDepth 100000
namespace Go.Proofs.YtomljpdjfobeoaaDoor
open Go Go.Ev Go.ChangeShapes Go.WideShapes Go.ChangeAt Go.RowKit
theorem Tryd.own : ownKnob Tryd.prog.godebug = none := by kernel_rfl
theorem Tryd.laidOut : laidOutB Tryd.prog = true := by kernel_rfl
theorem Tryd.et : Tryd.prog.globalNamed "errors.errorType" = some 0 := by kernel_rfl
theorem Tryd.rt : (Tryd.prog.cutTypes.find? (·.1 == "internal/reflectlite.rtype")).map (·.2) = some 147 := by kernel_rfl
theorem Tryd.size : Tryd.prog.types.size = 227 := by kernel_rfl
theorem Tryd.oneRow : ((List.range 227).filter fun t => Tryd.prog.rowNamed t [101, 114, 114, 111, 114]) = [26] := by kernel_rfl
/-- what is told -/
def laid0 : List (String × DataW Unit) := [("errors.errorType", Rows.laid_errors_errorType)]
/-- the variable's one cell -/
theorem handle_of_laid {W : World} (h : laidMetH Tryd.prog laid0 W) : W.cell? ⟨0, 0, none⟩ = some (.iface 147 (.agg #[.pointer (some ⟨1, 26, none⟩)])) := by
  have h' : laidMet Tryd.prog [] W ∧ handlesMet Tryd.prog laid0 W := h
  obtain ⟨name, u, ty, e1, e2, e3, e4, e5⟩ := h'.2 _ (List.mem_singleton.2 rfl)
  have en : name = [101, 114, 114, 111, 114] := (Option.some.inj e1).symm
  subst en
  obtain rfl := Option.some.inj (Tryd.rt.symm.trans e2)
  have hm : ty ∈ (List.range 227).filter fun t => Tryd.prog.rowNamed t [101, 114, 114, 111, 114] := List.mem_filter.2 ⟨List.mem_range.2 (by rw [← Tryd.size]; exact e3), e4⟩
  rw [Tryd.oneRow] at hm
  obtain rfl := List.mem_singleton.1 hm
  have hh : typeHandle Tryd.prog 26 = .pointer (some ⟨1, 26, none⟩) := by kernel_rfl
  rw [hh] at e5
  simpa using World.var?_cell Tryd.et e5 0
theorem rom_of_laid {W : World} (h : laidMetH Tryd.prog laid0 W) : ∀ g v, (g, v) ∈ romOf → W.cell? ⟨g, 0, none⟩ = some v := by
  intro g v hm
  have hm : (g, v) ∈ [(0, Value.iface 147 (.agg #[.pointer (some ⟨1, 26, none⟩)]))] := hm
  cases List.mem_singleton.1 hm
  exact handle_of_laid h
/-- a world that meets it -/
noncomputable def laidWorld (os : Os) : World :=
  let w0 := World.holding Tryd.prog os ⟨#[], #[], []⟩
  { w0 with heap := w0.heap.modify 0 fun
      | .cells _ t frozen => .cells #[.iface 147 (.agg #[.pointer (some ⟨1, 26, none⟩)])] t frozen
      | o => o }
theorem laidWorld_met (os : Os) (args : Array Value) : laidMetH Tryd.prog laid0 ((laidWorld os).forCall (fun _ _ => 0) ⟨#[], args, []⟩).memory :=
  laidMetH_of_parts (laidMet_nil _ _) (by kernel_rfl)
end Go.Proofs.YtomljpdjfobeoaaDoor
/- spans that meet, what was seen of a key: as the law has it: walked. -/

set_option linter.all false
set_option linter.all false
set_option maxRecDepth 100000
namespace Go.Proofs
open Go Go.Ev
variable {H : Heap}

noncomputable def maxS (a b : List Nat) : List Nat := if ltS a b then b else a
@[go_sem] theorem max_str {β : Type} (a b : List Nat) (f : β) (c : AV → β) : mm2 true (.str a) (.str b) f c = c (.str (maxS a b)) := by
  show bif' (bif' true (Bool.not (ltL a b)) (Bool.or (ltL a b) (eqL a b))) (c (.str a)) (c (.str b)) = _
  unfold maxS
  rw [bif_true, ltL_dec, bif_eq]
  by_cases h : ltS a b
  · rw [decide_eq_true h, if_pos h]; rfl
  · rw [decide_eq_false h, if_neg h]; rfl
noncomputable def lowS (a b : List Nat) : List Nat := if a = [] ∨ (¬ b = [] ∧ ltS b a) then b else a
theorem f39_ok (a b : List Nat) : FnOk Tryd.prog 39 [.str a, .str b] H fun r G => r = .str (lowS a b) ∧ G = H := by
  refine FnOk.drop (R := fun r => r = .str (lowS a b)) ?_ (by rintro v rfl ρ; rw [AV.ren])
  refine FnOk.of_WW Tryd.func39 rfl C39ok R39ok E0 good_E0 ?_
  simp only [go_sem, C39]
  unfold lowS
  exact ⟨fun h => ⟨by rw [if_pos (.inl h)], _, rfl⟩, fun h => ⟨fun h2 => ⟨fun h3 => ⟨by rw [if_pos (.inr ⟨h2, h3⟩)], _, rfl⟩, fun h3 => ⟨by rw [if_neg fun g => g.elim h fun g => h3 g.2], _, rfl⟩⟩, fun h2 => ⟨by rw [if_neg fun g => g.elim h fun g => h2 g.1], _, rfl⟩⟩⟩
noncomputable def F39 : FuncId → List AV → Option AV
  | 39, [.str a, .str b] => some (.str (lowS a b))
  | _, _ => none
theorem good_F39 : Ev.Good Tryd.prog (pureE F39) := by
  refine good_pureE fun f args v h H => ?_
  unfold F39 at h
  split at h
  · cases h; exact f39_ok _ _
  · cases h
theorem e39 (a b : List Nat) (H : Heap) : pureE F39 39 [.str a, .str b] H = .ok (.str (lowS a b)) H := rfl
/-- where two spans meet -/
def okMeet (f t f' t' : List Nat) : Prop := isSpan f t ∧ isSpan f' t' ∧ isSpan (maxS f f') (lowS t t')
noncomputable def meetV (f t f' t' : List Nat) : AV := open Classical in if okMeet f t f' t' then .tup [.agg [.str (maxS f f'), .str (lowS t t')], .bool true] else .tup [.agg [.str [], .str []], .bool false]
theorem f14_ok (f t f' t' : List Nat) : FnOk Tryd.prog 14 [.agg [.str f, .str t], .agg [.str f', .str t']] H fun r G => r = meetV f t f' t' ∧ G = H := by
  refine FnOk.drop (R := fun r => r = meetV f t f' t') ?_ (by rintro v rfl ρ; unfold meetV; split <;> simp only [AV.ren, AV.rens])
  refine FnOk.of_WW Tryd.func14 rfl C14ok R14ok (pureE F39) good_F39 ?_
  simp only [go_sem, C14, e39]
  have hbad : ¬ okMeet f t f' t' → ∀ L, AV.tup [.agg [.str [], .str []], .bool false] = meetV f t f' t' ∧ ∃ l, H.ext L = H.ext l := fun g L => ⟨by unfold meetV; rw [if_neg g], L, rfl⟩
  refine CL.bool (f40_ok f t) (fun g1 => ?_) (fun g1 => ?_)
  rotate_left
  · simp only [go_sem]
    exact hbad (fun h => g1 h.1) _
  simp only [go_sem]
  refine CL.bool (f40_ok f' t') (fun g2 => ?_) (fun g2 => ?_)
  rotate_left
  · simp only [go_sem]
    exact hbad (fun h => g2 h.2.1) _
  simp only [go_sem]
  refine CL.bool (f40_ok (maxS f f') (lowS t t')) (fun g3 => ?_) (fun g3 => ?_)
  rotate_left
  · simp only [go_sem]
    exact hbad (fun h => g3 h.2.2) _
  simp only [go_sem]
  exact ⟨by unfold meetV; rw [if_pos ⟨g1, g2, g3⟩], _, rfl⟩
end Go.Proofs
/- token: where a key is, walked. -/



set_option linter.all false
set_option maxRecDepth 100000
namespace Go.Proofs
open Go Go.Ev
variable {H : Heap}

/-- how far one has seen of a key -/
structure Sn where
  key : List Nat
  ver : Int
def Sn.enc (c : Sn) : List AV := [.str c.key, .int .i64 c.ver]
theorem Sn.rens (ρ : K → K) (c : Sn) : AV.rens ρ c.enc = c.enc := by simp only [Sn.enc, AV.rens, AV.ren]
theorem Sn.map_rens (ρ : K → K) (l : List Sn) : (l.map Sn.enc).map (AV.rens ρ) = l.map Sn.enc := by
  rw [List.map_map]; exact List.map_congr_left fun c _ => Sn.rens ρ c
theorem f111_ok (k : List Nat) : FnOk Tryd.prog 111 [.str k] H fun v G => v = .bool false ∧ G = H := by
  refine FnOk.of_WW Tryd.func111 rfl C111ok R111ok E0 good_E0 ?_
  simp only [go_sem, C111, Heap.ext_nil]
noncomputable def cmpS (a b : List Nat) : Int := if ltS a b then -1 else if ltS b a then 1 else 0
theorem f97_ok (a b : List Nat) : FnOk Tryd.prog 97 [.str a, .str b] H fun v G => v = .int .i64 (cmpS a b) ∧ G = H := by
  refine FnOk.of_WW Tryd.func97 rfl C97ok R97ok E0 good_E0 ?_
  simp only [go_sem, C97]
  refine CL.one (f111_ok a) ?_
  simp only [go_sem]
  refine CL.one (f111_ok b) ?_
  simp only [go_sem]
  unfold cmpS
  refine ⟨fun h => ⟨by rw [if_pos h], Heap.ext_nil H⟩, fun h => ⟨fun g => ⟨?_, Heap.ext_nil H⟩, fun g => ⟨?_, Heap.ext_nil H⟩⟩⟩
  · rw [if_neg h, if_pos (not_leS.1 g)]
  · rw [if_neg h, if_neg (fun e => g (not_leS.2 e))]
theorem f96_ok (c : Sn) (k : List Nat) : FnOk Tryd.prog 96 [.agg c.enc, .str k] H fun v G => v = .int .i64 (cmpS c.key k) ∧ G = H := by
  refine FnOk.drop (R := fun v => v = .int .i64 (cmpS c.key k)) ?_ (by rintro v rfl ρ; rw [AV.ren])
  refine FnOk.of_WW Tryd.func96 rfl C96ok R96ok E0 good_E0 ?_
  simp only [go_sem, C96, Sn.enc]
  refine CL.one (f97_ok _ _) ?_
  simp only [go_sem]
  exact ⟨_, rfl⟩
def hasAt (l : List Sn) (k : List Nat) (i : Nat) : Prop := ∃ c, l[i]? = some c ∧ c.key = k
noncomputable instance (l : List Sn) (k : List Nat) (i : Nat) : Decidable (hasAt l k i) := Classical.propDecidable _
/-- all ahead of it are less, none behind is -/
def lowAt (l : List Sn) (k : List Nat) (i : Nat) : Prop := i ≤ l.length ∧ (∀ q c, q < i → l[q]? = some c → ltS c.key k) ∧ ∀ q c, i ≤ q → l[q]? = some c → ¬ ltS c.key k
def rises (l : List Sn) : Prop := ∀ (p q : Nat) (c d : Sn), p < q → l[p]? = some c → l[q]? = some d → ltS c.key d.key
theorem f95_ok {v : AV} {l : List Sn} (hA : Arr H 2 v (l.map Sn.enc)) (hr : rises l) (hl : l.length < 4294967296) (k : List Nat) :
    FnOk Tryd.prog 95 [v, .str k, .fn (.func 96) [] []] H fun r G => (∃ i : Nat, lowAt l k i ∧ r = .tup [.int .i64 i, .bool (decide (hasAt l k i))]) ∧ G = H := by
  refine FnOk.assume fun hok => ?_
  refine FnOk.drop (R := fun r => ∃ i : Nat, lowAt l k i ∧ r = .tup [.int .i64 i, .bool (decide (hasAt l k i))]) ?_ (by rintro v ⟨i, _, rfl⟩ ρ; simp only [AV.ren, AV.rens])
  refine FnOk.of_WW Tryd.func95 rfl C95ok R95ok E0 good_E0 ?_
  have hlen := fun G => hA.len G
  simp only [List.length_map] at hlen
  have hren := hA.ren
  simp only [go_sem, C95, hlen]
  refine LL.st good_E0 (fun p : Nat × Nat => p.2 - p.1) (fun p => p.1 ≤ p.2 ∧ p.2 ≤ l.length ∧ (∀ q c, q < p.1 → l[q]? = some c → ltS c.key k) ∧ ∀ q c, p.2 ≤ q → l[q]? = some c → ¬ ltS c.key k)
    (fun p => [(.z, v), ((.o .z), .str k), ((.i .z), .fn (.func 96) [] []), ((.i (.o (.o .z))), .int .i64 l.length), ((.o (.i (.o .z))), .int .i64 p.1), ((.i (.i (.o .z))), .int .i64 p.2)])
    (fun p => []) ?_ (0, l.length) (σ := []) (Wk.of rfl (by decide) (by simp only [go_sem, hren]) (by simp only [go_sem])) ⟨Nat.zero_le _, Nat.le_refl _, fun q c h => absurd h (Nat.not_lt_zero _), fun q c h g => absurd (List.getElem?_eq_some_iff.1 g).1 (Nat.not_lt.2 h)⟩
  rintro ⟨i, j⟩ ⟨hij, hjl, h1, h2⟩
  simp only at hij hjl h1 h2
  by_cases hlt : i < j
  · have hc : (i : Int) < (j : Int) := by omega
    have hml : (i + j) / 2 < l.length := by omega
    obtain ⟨kk, r, ex', cap', wr, rows, hv, hrho, hgo, hrow⟩ := hA.at hok (j := (i + j) / 2) (by rw [List.length_map]; exact hml)
    simp only [List.length_map, List.getElem_map] at hv hrow
    cases hv
    have hgm : l[(i + j) / 2]? = some l[(i + j) / 2] := List.getElem?_eq_getElem hml
    generalize l[(i + j) / 2] = d at hrow hgm
    have hmid := half_mid (i := i) (j := j) (by omega)
    have hsi : (i + j) / 2 + 1 ≤ l.length := by omega
    have hlo : i ≤ (i + j) / 2 := by omega
    have hhi : (i + j) / 2 < j := by omega
    generalize (i + j) / 2 = m at *
    have hw := wrap_succ (n := m) (by omega)
    simp only [go_sem, C95L0, hc, hmid, hgo, hrow, hsi, Sn.enc]
    refine CL.one (f96_ok d k) ?_
    simp only [go_sem, hw]
    refine ⟨fun g => ?_, fun g => ?_⟩
    · refine ⟨(m + 1, j), by show j - (m + 1) < j - i; omega, ⟨by omega, hjl, fun q c hq hc' => ?_, h2⟩, _, [], rfl, Wk.of rfl (by decide) (by simp only [go_sem, hren, hrho]) (by simp only [go_sem])⟩
      have hlt' : ltS d.key k := by
        unfold cmpS at g
        by_cases e : ltS d.key k
        · exact e
        · rw [if_neg e] at g; split at g <;> omega
      rcases Nat.lt_or_ge q m with h | h
      · exact ltS_trans (hr q m c d h hc' hgm) hlt'
      · obtain rfl : q = m := by omega
        rw [hgm] at hc'; cases hc'; exact hlt'
    · refine ⟨(i, m), by show m - i < j - i; omega, ⟨hlo, by omega, h1, fun q c hq hc' => ?_⟩, _, [], rfl, Wk.of rfl (by decide) (by simp only [go_sem, hren, hrho]) (by simp only [go_sem])⟩
      have hge : ¬ ltS d.key k := fun e => g (by unfold cmpS; rw [if_pos e]; decide)
      rcases Nat.lt_or_ge m q with h | h
      · exact fun e => hge (ltS_trans (hr m q d c h hgm hc') e)
      · obtain rfl : q = m := by omega
        rw [hgm] at hc'; cases hc'; exact hge
  · obtain rfl : i = j := by omega
    have hc : ¬ (i : Int) < (i : Int) := by omega
    have hlow : lowAt l k i := ⟨hjl, h1, h2⟩
    rcases Nat.lt_or_ge i l.length with hil | hil
    · obtain ⟨kk, r, ex', cap', wr, rows, hv, hrho, hgo, hrow⟩ := hA.at hok (j := i) (by rw [List.length_map]; exact hil)
      simp only [List.length_map, List.getElem_map] at hv hrow
      cases hv
      have hgm : l[i]? = some l[i] := List.getElem?_eq_getElem hil
      generalize l[i] = d at hrow hgm
      have hci : (i : Int) < (l.length : Int) := by omega
      have hsi : i + 1 ≤ l.length := by omega
      simp only [go_sem, C95L0, hc, hgo, hrow, hsi, hci, Sn.enc]
      refine CL.one (f96_ok d k) ?_
      simp only [go_sem]
      have hat : cmpS d.key k = 0 ↔ hasAt l k i := by
        unfold cmpS hasAt
        constructor
        · intro h
          refine ⟨d, hgm, ?_⟩
          rcases ltS_tri d.key k with e | e | e
          · rw [if_pos e] at h; cases h
          · exact e
          · rw [if_neg (ltS_asymm e), if_pos e] at h; cases h
        · rintro ⟨c, hc', e⟩
          rw [hgm] at hc'; cases hc'
          rw [e, if_neg (ltS_irrefl _), if_neg (ltS_irrefl _)]
      refine ⟨fun h => ⟨⟨i, hlow, ?_⟩, _, rfl⟩, fun h => ⟨⟨i, hlow, ?_⟩, _, rfl⟩⟩
      · rw [decide_eq_true (hat.1 h)]
      · rw [decide_eq_false (fun e => h (hat.2 e))]
    · have hci : ¬ (i : Int) < (l.length : Int) := by omega
      simp only [go_sem, C95L0, hc, hci]
      refine ⟨⟨i, hlow, ?_⟩, _, rfl⟩
      rw [decide_eq_false (fun ⟨c, hc', _⟩ => by have := (List.getElem?_eq_some_iff.1 hc').1; omega)]
theorem f83_ok {v : AV} {l : List Sn} (hA : Arr H 2 v (l.map Sn.enc)) (hr : rises l) (hl : l.length < 4294967296) (k : List Nat) :
    FnOk Tryd.prog 83 [v, .str k] H fun r G => (∃ i : Nat, lowAt l k i ∧ r = .tup [.int .i64 i, .bool (decide (hasAt l k i))]) ∧ G = H := by
  refine FnOk.drop (R := fun r => ∃ i : Nat, lowAt l k i ∧ r = .tup [.int .i64 i, .bool (decide (hasAt l k i))]) ?_ (by rintro v ⟨i, _, rfl⟩ ρ; simp only [AV.ren, AV.rens])
  refine FnOk.of_WW Tryd.func83 rfl C83ok R83ok E0 good_E0 ?_
  simp only [go_sem, C83]
  refine CL.of (f95_ok (hA.ext []) hr hl k) ?_
  rintro _ _ ⟨⟨i, hi, rfl⟩, rfl⟩
  simp only [go_sem]
  exact ⟨fun h => ⟨⟨i, hi, by rw [decide_eq_true h]⟩, [], rfl⟩, fun h => ⟨⟨i, hi, by rw [decide_eq_false h]⟩, [], rfl⟩⟩
end Go.Proofs
/- token: what has been seen, the plain law. -/

set_option linter.all false
set_option maxRecDepth 100000
namespace Go.Proofs
open Go Go.Ev
def okS (c : Sn) : Prop := isKey c.key ∧ 0 ≤ c.ver ∧ c.ver ≤ 1000000000000
def okT (l : List Sn) (j : Nat) : Prop := ∃ c, l[j]? = some c ∧ okS c ∧ (0 < j → ∃ d, l[j - 1]? = some d ∧ ltS d.key c.key)
def isTok (l : List Sn) : Prop := ∀ j, j < l.length → okT l j
noncomputable instance (l : List Sn) : Decidable (isTok l) := Classical.propDecidable _
abbrev up (l : List Sn) : Prop := l.Pairwise fun c d => ltS c.key d.key
theorem up_cons {c : Sn} {l : List Sn} : up (c :: l) ↔ (∀ d ∈ l, ltS c.key d.key) ∧ up l := List.pairwise_cons
theorem isTok_cons {c : Sn} {l : List Sn} : isTok (c :: l) ↔ okS c ∧ (∀ d, l[0]? = some d → ltS c.key d.key) ∧ isTok l := by
  constructor
  · intro h
    obtain ⟨c', h0, h1, _⟩ := h 0 (by simp)
    cases h0
    refine ⟨h1, fun d hd => ?_, fun j hj => ?_⟩
    · obtain ⟨e, g0, _, g2⟩ := h 1 (by have := (List.getElem?_eq_some_iff.1 hd).1; simp; omega)
      obtain ⟨c', g3, g4⟩ := g2 (by decide)
      rw [List.getElem?_cons_succ, hd] at g0; cases g0
      cases g3; exact g4
    · obtain ⟨e, g0, g1, g2⟩ := h (j + 1) (by simp; omega)
      rw [List.getElem?_cons_succ] at g0
      refine ⟨e, g0, g1, fun h0 => ?_⟩
      obtain ⟨c', g3, g4⟩ := g2 (by omega)
      rw [show j + 1 - 1 = (j - 1) + 1 by omega, List.getElem?_cons_succ] at g3
      exact ⟨c', g3, g4⟩
  · rintro ⟨h1, h2, h3⟩ j hj
    cases j with
    | zero => exact ⟨c, rfl, h1, fun h => absurd h (by decide)⟩
    | succ j =>
      obtain ⟨e, g0, g1, g2⟩ := h3 j (by simp at hj; omega)
      refine ⟨e, by rw [List.getElem?_cons_succ]; exact g0, g1, fun _ => ?_⟩
      cases j with
      | zero => exact ⟨c, rfl, h2 e g0⟩
      | succ j => obtain ⟨d, g3, g4⟩ := g2 (by omega); exact ⟨d, by simpa using g3, g4⟩
theorem tok_iff : ∀ {l : List Sn}, isTok l ↔ (∀ c ∈ l, okS c) ∧ up l
  | [] => ⟨fun _ => ⟨by simp, .nil⟩, fun _ j hj => by simp at hj⟩
  | c :: l => by
    rw [isTok_cons, tok_iff (l := l), up_cons]
    constructor
    · rintro ⟨h1, h2, h3, h4⟩
      refine ⟨by simpa using ⟨h1, h3⟩, fun d hd => ?_, h4⟩
      cases l with
      | nil => simp at hd
      | cons e l =>
        have he := h2 e rfl
        rcases List.mem_cons.1 hd with rfl | hd
        · exact he
        · exact ltS_trans he ((up_cons.1 h4).1 d hd)
    · rintro ⟨h1, h2, h4⟩
      exact ⟨h1 c (by simp), fun d hd => h2 d (List.mem_of_getElem? hd), fun d hd => h1 d (by simp [hd]), h4⟩
theorem up_rises {l : List Sn} (h : up l) : rises l := by
  intro p q c d hpq hc hd
  obtain ⟨hp, rfl⟩ := List.getElem?_eq_some_iff.1 hc
  obtain ⟨hq, rfl⟩ := List.getElem?_eq_some_iff.1 hd
  exact List.pairwise_iff_getElem.1 h p q hp hq hpq
theorem isTok.up {l : List Sn} (h : isTok l) : up l := (tok_iff.1 h).2
/-- one put in its place, f where its key is there -/
noncomputable def putG (f : Sn → Sn → Sn) : List Sn → Sn → List Sn
  | [], x => [x]
  | d :: l, x => if ltS d.key x.key then d :: putG f l x else if d.key = x.key then f d x :: l else x :: d :: l
theorem lowAt_tail {d : Sn} {l : List Sn} {k : List Nat} {i : Nat} (h : lowAt (d :: l) k (i + 1)) : ltS d.key k ∧ lowAt l k i :=
  ⟨h.2.1 0 d (by omega) rfl, by have := h.1; simp at this; omega, fun q c hq hc => h.2.1 (q + 1) c (by omega) (by simpa using hc), fun q c hq hc => h.2.2 (q + 1) c (by omega) (by simpa using hc)⟩
theorem putG_has {f : Sn → Sn → Sn} {x : Sn} : ∀ {l : List Sn} {i : Nat} {d : Sn}, lowAt l x.key i → l[i]? = some d → d.key = x.key → putG f l x = l.set i (f d x)
  | [], i, d, _, h, _ => by simp at h
  | e :: l, 0, d, h, hd, hk => by
    cases hd
    rw [putG, if_neg (by rw [hk]; exact ltS_irrefl _), if_pos hk]; rfl
  | e :: l, i + 1, d, h, hd, hk => by
    obtain ⟨h1, h2⟩ := lowAt_tail h
    rw [putG, if_pos h1, putG_has h2 (by simpa using hd) hk]; rfl
theorem putG_not {f : Sn → Sn → Sn} {x : Sn} : ∀ {l : List Sn} {i : Nat}, lowAt l x.key i → ¬ hasAt l x.key i → putG f l x = l.take i ++ x :: l.drop i
  | [], i, h, _ => by
    obtain rfl : i = 0 := by have := h.1; simp at this; exact this
    rfl
  | e :: l, 0, h, hk => by
    have h1 : ¬ ltS e.key x.key := h.2.2 0 e (Nat.le_refl _) rfl
    rw [putG, if_neg h1, if_neg (fun g => hk ⟨e, rfl, g⟩)]; rfl
  | e :: l, i + 1, h, hk => by
    obtain ⟨h1, h2⟩ := lowAt_tail h
    rw [putG, if_pos h1, putG_not h2 (fun ⟨c, hc, g⟩ => hk ⟨c, by simpa using hc, g⟩)]; rfl
theorem mem_putG {f : Sn → Sn → Sn} {x c : Sn} : ∀ {l : List Sn}, c ∈ putG f l x → c = x ∨ c ∈ l ∨ ∃ d ∈ l, d.key = x.key ∧ c = f d x
  | [], h => by simp [putG] at h; exact .inl h
  | d :: l, h => by
    unfold putG at h
    split at h
    · rcases List.mem_cons.1 h with rfl | h
      · exact .inr (.inl (by simp))
      · rcases mem_putG h with h | h | ⟨e, h1, h2⟩
        · exact .inl h
        · exact .inr (.inl (by simp [h]))
        · exact .inr (.inr ⟨e, by simp [h1], h2⟩)
    · split at h
      · rename_i hk
        rcases List.mem_cons.1 h with rfl | h
        · exact .inr (.inr ⟨d, by simp, hk, rfl⟩)
        · exact .inr (.inl (by simp [h]))
      · rcases List.mem_cons.1 h with rfl | h
        · exact .inl rfl
        · exact .inr (.inl h)
theorem putG_up {f : Sn → Sn → Sn} (hf : ∀ d x, d.key = x.key → (f d x).key = x.key) {x : Sn} : ∀ {l : List Sn}, up l → up (putG f l x)
  | [], _ => List.pairwise_singleton _ _
  | d :: l, h => by
    obtain ⟨h1, h2⟩ := up_cons.1 h
    unfold putG
    split
    · rename_i hd
      refine up_cons.2 ⟨fun c hc => ?_, putG_up hf h2⟩
      rcases mem_putG hc with rfl | hc | ⟨e, he, hk, rfl⟩
      · exact hd
      · exact h1 c hc
      · rw [hf e x hk, ← hk]; exact h1 e he
    · rename_i hd
      split
      · rename_i hk
        exact up_cons.2 ⟨fun c hc => by rw [hf d x hk, ← hk]; exact h1 c hc, h2⟩
      · rename_i hk
        have hx : ltS x.key d.key := by
          rcases ltS_tri d.key x.key with e | e | e
          · exact absurd e hd
          · exact absurd e hk
          · exact e
        refine up_cons.2 ⟨fun c hc => ?_, h⟩
        rcases List.mem_cons.1 hc with rfl | hc
        · exact hx
        · exact ltS_trans hx (h1 c hc)
theorem putG_len {f : Sn → Sn → Sn} {x : Sn} : ∀ {l : List Sn}, (putG f l x).length ≤ l.length + 1
  | [] => by simp [putG]
  | d :: l => by
    unfold putG
    split
    · have := putG_len (f := f) (x := x) (l := l)
      simp only [List.length_cons]; omega
    · split <;> simp
theorem putG_pos {f : Sn → Sn → Sn} {x : Sn} {l : List Sn} : 0 < (putG f l x).length := by
  cases l with
  | nil => simp [putG]
  | cons d l => unfold putG; split <;> (try split) <;> simp
/-- what is there of a key -/
noncomputable def getS : List Sn → List Nat → Option Sn
  | [], _ => none
  | c :: l, k => if c.key = k then some c else getS l k
theorem getS_key : ∀ {l : List Sn} {k : List Nat} {c : Sn}, getS l k = some c → c.key = k ∧ c ∈ l
  | [], _, _, h => by cases h
  | d :: l, k, c, h => by
    unfold getS at h
    split at h
    · cases h; rename_i hk; exact ⟨hk, by simp⟩
    · obtain ⟨h1, h2⟩ := getS_key h; exact ⟨h1, by simp [h2]⟩
theorem getS_none : ∀ {l : List Sn} {k : List Nat}, (∀ c ∈ l, ¬ c.key = k) → getS l k = none
  | [], _, _ => rfl
  | d :: l, k, h => by rw [getS, if_neg (h d (by simp)), getS_none fun c hc => h c (by simp [hc])]
theorem getS_mem : ∀ {l : List Sn} {c : Sn}, up l → c ∈ l → getS l c.key = some c
  | d :: l, c, h, hc => by
    obtain ⟨h1, h2⟩ := up_cons.1 h
    rcases List.mem_cons.1 hc with rfl | hc
    · rw [getS, if_pos rfl]
    · rw [getS, if_neg (fun e => by have := h1 c hc; rw [e] at this; exact ltS_irrefl _ this), getS_mem h2 hc]
theorem getS_put {f : Sn → Sn → Sn} (hf : ∀ d x, d.key = x.key → (f d x).key = x.key) {x : Sn} : ∀ {l : List Sn} (_ : up l) (k : List Nat), getS (putG f l x) k = if x.key = k then some (match getS l k with | none => x | some d => f d x) else getS l k
  | [], _, k => by simp only [putG, getS]
  | d :: l, h, k => by
    obtain ⟨h1, h2⟩ := up_cons.1 h
    unfold putG
    split
    · rename_i hd
      rw [getS, getS_put hf h2 k, getS]
      by_cases hk : d.key = k
      · rw [if_pos hk, if_pos hk, if_neg (fun e => by rw [hk, e] at hd; exact ltS_irrefl _ hd)]
      · rw [if_neg hk, if_neg hk]
    · rename_i hd
      split
      · rename_i hk
        simp only [getS, hf d x hk]
        by_cases e : x.key = k
        · simp only [if_pos e, if_pos (hk.trans e)]
        · simp only [if_neg e, if_neg (fun g => e (hk.symm.trans g))]
      · rename_i hk
        have hx : ltS x.key d.key := by
          rcases ltS_tri d.key x.key with e | e | e
          · exact absurd e hd
          · exact absurd e hk
          · exact e
        by_cases e : x.key = k
        · subst e
          rw [getS, if_pos rfl, if_pos rfl, getS_none]
          intro c hc g
          rcases List.mem_cons.1 hc with rfl | hc
          · rw [g] at hx; exact ltS_irrefl _ hx
          · have := ltS_trans hx (h1 c hc); rw [g] at this; exact ltS_irrefl _ this
        · rw [getS, if_neg e, if_neg e]
theorem up_ext : ∀ {l m : List Sn}, up l → up m → (∀ k, getS l k = getS m k) → l = m
  | [], [], _, _, _ => rfl
  | [], d :: m, _, _, h => by have := h d.key; rw [getS, getS, if_pos rfl] at this; cases this
  | c :: l, [], _, _, h => by have := h c.key; rw [getS, getS, if_pos rfl] at this; cases this
  | c :: l, d :: m, hl, hm, h => by
    obtain ⟨h1, h2⟩ := up_cons.1 hl
    obtain ⟨g1, g2⟩ := up_cons.1 hm
    have hcd : c.key = d.key := by
      rcases ltS_tri c.key d.key with e | e | e
      · have := h c.key
        rw [getS, if_pos rfl] at this
        obtain ⟨hk, hmem⟩ := getS_key this.symm
        rcases List.mem_cons.1 hmem with rfl | hmem
        · exact absurd e (ltS_irrefl _)
        · exact absurd (ltS_trans e (g1 c hmem)) (ltS_irrefl _)
      · exact e
      · have := h d.key
        rw [getS.eq_2 d.key d m, if_pos rfl] at this
        obtain ⟨hk, hmem⟩ := getS_key this
        rcases List.mem_cons.1 hmem with rfl | hmem
        · exact absurd e (ltS_irrefl _)
        · exact absurd (ltS_trans e (h1 d hmem)) (ltS_irrefl _)
    have hce : c = d := by
      have := h c.key
      rw [getS, if_pos rfl, getS, if_pos hcd.symm] at this
      exact Option.some.inj this
    subst hce
    congr 1
    refine up_ext h2 g2 fun k => ?_
    by_cases e : c.key = k
    · rw [getS_none (fun x hx g => by have := h1 x hx; rw [e, g] at this; exact ltS_irrefl _ this), getS_none (fun x hx g => by have := g1 x hx; rw [e, g] at this; exact ltS_irrefl _ this)]
    · have := h k
      rwa [getS, if_neg e, getS, if_neg e] at this
end Go.Proofs
/- token: whether they are any, a key's version, the same, few: walked. -/

set_option linter.all false
set_option maxRecDepth 100000
namespace Go.Proofs
open Go Go.Ev
variable {H : Heap}

theorem f60_ok {v : AV} {l : List Sn} (hA : Arr H 2 v (l.map Sn.enc)) (hl : l.length < 9223372036854775807) :
    FnOk Tryd.prog 60 [v] H fun r G => r = .bool (decide (isTok l)) ∧ G = H := by
  refine FnOk.assume fun hok => ?_
  refine FnOk.drop (R := fun r => r = .bool (decide (isTok l))) ?_ (by rintro v rfl ρ; rw [AV.ren])
  refine FnOk.of_WW Tryd.func60 rfl C60ok R60ok E0 good_E0 ?_
  have hlen := fun G => hA.len G; simp only [List.length_map] at hlen; have hren := hA.ren
  simp only [go_sem, C60, hlen]
  refine LL.st good_E0 (fun i : Nat => l.length - i) (fun i => i ≤ l.length ∧ ∀ j, j < i → okT l j)
    (fun i => [(.z, v), ((.o (.i .z)), v), ((.i (.i .z)), .int .i64 l.length), ((.o (.o (.o .z))), .int .i64 i)]) (fun i => []) ?_ 0 (σ := []) (Wk.of rfl (by decide) (by simp only [go_sem, hren]) (by simp only [go_sem])) ⟨Nat.zero_le _, fun j h => absurd h (Nat.not_lt_zero _)⟩
  rintro i ⟨hi, hno⟩
  by_cases hlt : i < l.length
  · obtain ⟨kk, r, ex', cap', wr, rows, hv, hrho, hgo, hrow⟩ := hA.at hok (j := i) (by rw [List.length_map]; exact hlt); simp only [List.length_map, List.getElem_map] at hv hrow; cases hv; have hget : l[i]? = some l[i] := List.getElem?_eq_getElem hlt; generalize l[i] = c at hrow hget; have hw := wrap_succ (n := i) (by omega); have hci : (i : Int) < (l.length : Int) := (by omega); have hsi : i + 1 ≤ l.length := (by omega)
    have hbad : ¬ okT l i → AV.bool false = .bool (decide (isTok l)) := fun h => bool_f fun g => h (g i hlt)
    simp only [go_sem, C60L0, hci, hsi, hgo, hrow, hw, Sn.enc]
    refine CL.bool (f81_ok c.key) (fun g1 => ?_) (fun g1 => ?_)
    · simp only [go_sem, hw]
      refine ⟨fun g2 => ⟨hbad ?_, _, rfl⟩, fun g2 => ⟨fun g3 => ⟨hbad ?_, _, rfl⟩, fun g3 => ?_⟩⟩
      · rintro ⟨c', h1, ⟨_, h2, _⟩, _⟩; rw [hget] at h1; cases h1; omega
      · rintro ⟨c', h1, ⟨_, _, h2⟩, _⟩; rw [hget] at h1; cases h1; omega
      · have hk : okS c := ⟨g1, by omega, by omega⟩
        rcases i with _ | i
        · simp only [go_sem, Int.ofNat_zero, Int.lt_irrefl]
          refine ⟨0 + 1, by show l.length - (0 + 1) < l.length - 0; omega, ⟨by omega, fun j hj => ?_⟩, _, [], rfl, Wk.of rfl (by decide) (by simp only [go_sem, hren, hrho, hw]) (by simp only [go_sem])⟩
          obtain rfl : j = 0 := by omega
          exact ⟨c, hget, hk, fun h => absurd h (by decide)⟩
        · have hpos : (0 : Int) < ((i + 1 : Nat) : Int) := by omega
          have hp : IntKind.i64.wrap (((i + 1 : Nat) : Int) - 1) = (i : Int) := by rw [wrap_i64 (by omega) (by omega)]; omega
          have hltj : i < l.length := by omega
          obtain ⟨kk2, r2, ex2, cap2, wr2, rows2, hv2, _, hgo2, hrow2⟩ := hA.at hok (j := i) (by rw [List.length_map]; exact hltj)
          simp only [List.length_map, List.getElem_map] at hv2 hrow2
          have hgetd : l[i]? = some l[i] := List.getElem?_eq_getElem hltj
          generalize l[i] = d at hrow2 hgetd
          injection hv2 with e1 e2 e3 e4 e5 e6
          have e2' : r2 = r := by omega
          subst e1 e2'
          have hrr := hgo2 []
          rw [hgo []] at hrr
          cases hrr
          have hsj : i + 1 ≤ l.length := by omega
          have hi0 : (0 : Int) ≤ (i : Int) := by omega
          simp only [go_sem, hpos, hp, hi0, hsj, hgo, hrow2, Sn.enc]
          refine ⟨fun g4 => ⟨hbad ?_, _, rfl⟩, fun g4 => ?_⟩
          · rintro ⟨c', h1, _, h2⟩
            obtain ⟨d', h3, h4⟩ := h2 (by omega)
            rw [hget] at h1; cases h1
            rw [Nat.add_sub_cancel, hgetd] at h3; cases h3
            exact g4 h4
          · refine ⟨i + 1 + 1, by show l.length - (i + 1 + 1) < l.length - (i + 1); omega, ⟨by omega, fun j hj => ?_⟩, _, [], rfl, Wk.of rfl (by decide) (by simp only [go_sem, hren, hrho, hw]) (by simp only [go_sem])⟩
            rcases Nat.lt_or_ge j (i + 1) with h | h
            · exact hno j h
            · obtain rfl : j = i + 1 := by omega
              exact ⟨c, hget, hk, fun _ => ⟨d, by rw [Nat.add_sub_cancel]; exact hgetd, Classical.not_not.1 g4⟩⟩
    · simp only [go_sem]
      refine ⟨hbad ?_, _, rfl⟩
      rintro ⟨c', h1, ⟨h2, _⟩, _⟩; rw [hget] at h1; cases h1; exact g1 h2
  · have hci : ¬ (i : Int) < (l.length : Int) := by omega
    simp only [go_sem, C60L0, hci]
    exact ⟨bool_t fun j hj => hno j (by omega), _, rfl⟩
noncomputable def ofT (l : List Sn) (k : List Nat) : Int := match getS l k with | some c => c.ver | none => 0
theorem getS_first : ∀ {l : List Sn} {i : Nat} {c : Sn}, l[i]? = some c → (∀ j d, j < i → l[j]? = some d → ¬ d.key = c.key) → getS l c.key = some c
  | [], i, c, h, _ => by simp at h
  | d :: l, 0, c, h, _ => by cases h; rw [getS, if_pos rfl]
  | d :: l, i + 1, c, h, hn => by rw [getS, if_neg (hn 0 d (by omega) rfl), getS_first (i := i) (by simpa using h) fun j e hj he => hn (j + 1) e (by omega) (by simpa using he)]
theorem f66_ok {v : AV} {l : List Sn} (hA : Arr H 2 v (l.map Sn.enc)) (hl : l.length < 9223372036854775807) (k : List Nat) :
    FnOk Tryd.prog 66 [v, .str k] H fun r G => r = .int .i64 (ofT l k) ∧ G = H := by
  refine FnOk.assume fun hok => ?_
  refine FnOk.drop (R := fun r => r = .int .i64 (ofT l k)) ?_ (by rintro v rfl ρ; rw [AV.ren])
  refine FnOk.of_WW Tryd.func66 rfl C66ok R66ok E0 good_E0 ?_
  have hlen := fun G => hA.len G; simp only [List.length_map] at hlen; have hren := hA.ren
  simp only [go_sem, C66, hlen]
  refine LL.st good_E0 (fun i : Nat => l.length - i) (fun i => i ≤ l.length ∧ ∀ j d, j < i → l[j]? = some d → ¬ d.key = k)
    (fun i => [((.o .z), .str k), ((.o (.o (.o .z))), v), ((.i (.o (.o .z))), .int .i64 l.length), ((.o (.i (.o .z))), .int .i64 i)]) (fun i => []) ?_ 0 (σ := []) (Wk.of rfl (by decide) (by simp only [go_sem, hren]) (by simp only [go_sem])) ⟨Nat.zero_le _, fun j d h => absurd h (Nat.not_lt_zero _)⟩
  rintro i ⟨hi, hno⟩
  by_cases hlt : i < l.length
  · obtain ⟨kk, r, ex', cap', wr, rows, hv, hrho, hgo, hrow⟩ := hA.at hok (j := i) (by rw [List.length_map]; exact hlt); simp only [List.length_map, List.getElem_map] at hv hrow; cases hv; have hget : l[i]? = some l[i] := List.getElem?_eq_getElem hlt; generalize l[i] = c at hrow hget; have hw := wrap_succ (n := i) (by omega); have hci : (i : Int) < (l.length : Int) := (by omega); have hsi : i + 1 ≤ l.length := (by omega)
    simp only [go_sem, C66L0, hci, hsi, hgo, hrow, hw, Sn.enc]
    refine ⟨fun g => ⟨?_, _, rfl⟩, fun g => ?_⟩
    · subst g
      rw [ofT, getS_first hget hno]
    · refine ⟨i + 1, by show l.length - (i + 1) < l.length - i; omega, ?_, _, [], rfl, Wk.of rfl (by decide) (by simp only [go_sem, hren, hrho, hw]) (by simp only [go_sem])⟩
      refine ⟨by omega, fun j d hj hd => ?_⟩
      rcases Nat.lt_or_ge j i with h | h
      · exact hno j d h hd
      · obtain rfl : j = i := by omega
        rw [hget] at hd; cases hd; exact g
  · have hci : ¬ (i : Int) < (l.length : Int) := by omega
    simp only [go_sem, C66L0, hci]
    refine ⟨?_, _, rfl⟩
    rw [ofT, getS_none fun c hc => ?_]
    obtain ⟨j, hj⟩ := List.mem_iff_getElem?.1 hc
    exact hno j c (by have := (List.getElem?_eq_some_iff.1 hj).1; omega) hj
noncomputable instance : DecidableEq Sn := fun _ _ => Classical.propDecidable _
theorem Sn.enc_inj {c d : Sn} (h : c.key = d.key ∧ c.ver = d.ver) : c = d := by cases c; cases d; simp_all
theorem f15_ok {v w : AV} {l m : List Sn} (hA : Arr H 2 v (l.map Sn.enc)) (hB : Arr H 2 w (m.map Sn.enc)) (hl : l.length < 9223372036854775807) :
    FnOk Tryd.prog 15 [v, w] H fun r G => r = .bool (decide (l = m)) ∧ G = H := by
  refine FnOk.assume fun hok => ?_
  refine FnOk.drop (R := fun r => r = .bool (decide (l = m))) ?_ (by rintro v rfl ρ; rw [AV.ren])
  refine FnOk.of_WW Tryd.func15 rfl C15ok R15ok E0 good_E0 ?_
  have hlen := fun G => hA.len G; simp only [List.length_map] at hlen; have hren := hA.ren
  have hlen2 := fun G => hB.len G
  simp only [List.length_map] at hlen2
  have hren2 := hB.ren
  simp only [go_sem, C15, hlen, hlen2]
  refine ⟨fun h => ⟨bool_f fun e : l = m => h (by rw [e]), _, rfl⟩, fun h => ?_⟩
  have hlm : l.length = m.length := by have := Classical.not_not.1 h; omega
  refine LL.st good_E0 (fun i : Nat => l.length - i) (fun i => i ≤ l.length ∧ ∀ j, j < i → l[j]? = m[j]?)
    (fun i => [(.z, v), ((.o .z), w), ((.o (.i .z)), .int .i64 i)]) (fun i => []) ?_ 0 (σ := []) (Wk.of rfl (by decide) (by simp only [go_sem, hren, hren2]) (by simp only [go_sem])) ⟨Nat.zero_le _, fun j h => absurd h (Nat.not_lt_zero _)⟩
  rintro i ⟨hi, hno⟩
  by_cases hlt : i < l.length
  · obtain ⟨kk2, r2, ex2, cap2, wr2, rows2, hv2, hrho2, hgo2, hrow2⟩ := hB.at hok (j := i) (by rw [List.length_map]; omega)
    simp only [List.length_map, List.getElem_map] at hv2 hrow2
    have hget2 : m[i]? = some (m[i]'(by omega)) := List.getElem?_eq_getElem (by omega)
    generalize m[i]'(by omega) = d at hrow2 hget2
    obtain ⟨kk, r, ex', cap', wr, rows, hv, hrho, hgo, hrow⟩ := hA.at hok (j := i) (by rw [List.length_map]; exact hlt); simp only [List.length_map, List.getElem_map] at hv hrow; cases hv; have hget : l[i]? = some l[i] := List.getElem?_eq_getElem hlt; generalize l[i] = c at hrow hget; have hw := wrap_succ (n := i) (by omega); have hci : (i : Int) < (l.length : Int) := (by omega); have hsi : i + 1 ≤ l.length := (by omega)
    subst hv2
    have hsi2 : i + 1 ≤ m.length := by omega
    simp only [go_sem, C15L0, hlen, hlen2, hci, hsi, hsi2, hgo, hgo2, hrow, hrow2, hw, Sn.enc]
    have hbad : ¬ c = d → AV.bool false = .bool (decide (l = m)) := fun h => bool_f fun e => h (by rw [e, hget2] at hget; exact (Option.some.inj hget).symm)
    refine ⟨fun g1 => ⟨fun g2 => ?_, fun g2 => ⟨hbad fun e => g2 (by rw [e]), _, rfl⟩⟩, fun g1 => ⟨hbad fun e => g1 (by rw [e]), _, rfl⟩⟩
    refine ⟨i + 1, by show l.length - (i + 1) < l.length - i; omega, ⟨by omega, fun j hj => ?_⟩, _, [], rfl, Wk.of rfl (by decide) (by simp only [go_sem, hrho, hrho2]) (by simp only [go_sem])⟩
    rcases Nat.lt_or_ge j i with h | h
    · exact hno j h
    · obtain rfl : j = i := by omega
      rw [hget, hget2, Sn.enc_inj ⟨g1, g2⟩]
  · have hci : ¬ (i : Int) < (l.length : Int) := by omega
    simp only [go_sem, C15L0, hci, hlen]
    refine ⟨bool_t (List.ext_getElem? fun j => ?_), _, rfl⟩
    rcases Nat.lt_or_ge j l.length with h | h
    · exact hno j (by omega)
    · rw [List.getElem?_eq_none h, List.getElem?_eq_none (by omega)]
def fewT (l : List Sn) : Prop := (∀ c ∈ l, (c.key.length : Int) ≤ 20) ∧ (l.length : Int) ≤ 30
instance (l : List Sn) : Decidable (fewT l) := inferInstanceAs (Decidable (_ ∧ _))
end Go.Proofs
/- what comes behind what was seen: as the law has it: walked. -/


set_option linter.all false
set_option linter.all false
set_option maxRecDepth 100000
namespace Go.Proofs
open Go Go.Ev
variable {H : Heap}

theorem f80_ok {v : AV} {l : List Sn} (hA : Arr H 2 v (l.map Sn.enc)) (hl : l.length < 9223372036854775807) (k : List Nat) :
    FnOk Tryd.prog 80 [v, .str k] H fun r G => r = .int .i64 (ofT l k) ∧ G = H := by
  refine FnOk.assume fun hok => ?_
  refine FnOk.drop (R := fun r => r = .int .i64 (ofT l k)) ?_ (by rintro v rfl ρ; rw [AV.ren])
  refine FnOk.of_WW Tryd.func80 rfl C80ok R80ok E0 good_E0 ?_
  have hlen := fun G => hA.len G; simp only [List.length_map] at hlen; have hren := hA.ren
  simp only [go_sem, C80, hlen]
  refine LL.st good_E0 (fun i : Nat => l.length - i) (fun i => i ≤ l.length ∧ ∀ j d, j < i → l[j]? = some d → ¬ d.key = k)
    (fun i => [(.z, v), ((.o .z), .str k), ((.o (.i .z)), .int .i64 i)]) (fun i => []) ?_ 0 (σ := []) (Wk.of rfl (by decide) (by simp only [go_sem, hren]) (by simp only [go_sem])) ⟨Nat.zero_le _, fun j d h => absurd h (Nat.not_lt_zero _)⟩
  rintro i ⟨hi, hno⟩
  by_cases hlt : i < l.length
  · obtain ⟨kk, r, ex', cap', wr, rows, hv, hrho, hgo, hrow⟩ := hA.at hok (j := i) (by rw [List.length_map]; exact hlt); simp only [List.length_map, List.getElem_map] at hv hrow; cases hv; have hget : l[i]? = some l[i] := List.getElem?_eq_getElem hlt; generalize l[i] = c at hrow hget; have hw := wrap_succ (n := i) (by omega); have hci : (i : Int) < (l.length : Int) := (by omega); have hsi : i + 1 ≤ l.length := (by omega)
    simp only [go_sem, C80L0, hlen, hci, hsi, hgo, hrow, hw, Sn.enc]
    refine ⟨fun g => ⟨?_, _, rfl⟩, fun g => ?_⟩
    · subst g
      rw [ofT, getS_first hget hno]
    · refine ⟨i + 1, by show l.length - (i + 1) < l.length - i; omega, ?_, _, [], rfl, Wk.of rfl (by decide) (by simp only [go_sem, hren, hrho, hw]) (by simp only [go_sem])⟩
      refine ⟨by omega, fun j d hj hd => ?_⟩
      rcases Nat.lt_or_ge j i with h | h
      · exact hno j d h hd
      · obtain rfl : j = i := by omega
        rw [hget] at hd; cases hd; exact g
  · have hci : ¬ (i : Int) < (l.length : Int) := by omega
    simp only [go_sem, C80L0, hlen, hci]
    refine ⟨?_, _, rfl⟩
    rw [ofT, getS_none fun c hc => ?_]
    obtain ⟨j, hj⟩ := List.mem_iff_getElem?.1 hc
    exact hno j c (by have := (List.getElem?_eq_some_iff.1 hj).1; omega) hj
theorem Sn.enc_one {a b : Sn} (h : a.enc = b.enc) : a = b := by
  cases a; cases b; simp [Sn.enc] at h; simp [h]
theorem sns_uniq {v : AV} {xs ys : List Sn} (h : Arr H 2 v (xs.map Sn.enc)) (h2 : Arr H 2 v (ys.map Sn.enc)) : xs = ys :=
  List.map_inj_right (fun _ _ => Sn.enc_one) |>.1 (Arr.uniq h h2 (by decide))
def A80 (H : Heap) (args : List AV) (q : List Sn × List Nat) : Prop := ∃ v, args = [v, .str q.2] ∧ Arr H 2 v (q.1.map Sn.enc) ∧ q.1.length < 9223372036854775807
noncomputable def EA (f : FuncId) (args : List AV) (H : Heap) : RC :=
  match f with
  | 80 => ot (A80 H args) fun q => .ok (.int .i64 (ofT q.1 q.2)) H
  | f => pureE F46 f args H
theorem good_EA : Ev.Good Tryd.prog EA := by
  intro f args H r G he φ w args' ha hw
  unfold EA at he
  split at he
  · refine (?_ : FnOk Tryd.prog 80 args H fun v' G' => v' = r ∧ G' = G).one φ w args' ha hw
    obtain ⟨q, ⟨v, rfl, h1, h2⟩, hz⟩ := ot_ok he
    clear he
    cases hz
    exact f80_ok h1 h2 _
  · exact good_F46 _ args H r G he φ w args' ha hw
theorem e80 {v : AV} {l : List Sn} (hA : Arr H 2 v (l.map Sn.enc)) (hl : l.length < 9223372036854775807) (k : List Nat) (L : List Blk) : EA 80 [v, .str k] (H.ext L) = .ok (.int .i64 (ofT l k)) (H.ext L) := by
  show ot (A80 (H.ext L) [v, .str k]) (fun q => .ok (.int .i64 (ofT q.1 q.2)) (H.ext L)) = _
  refine ot_eq (p := A80 (H.ext L) [v, .str k]) (x := (l, k)) ⟨v, rfl, hA.ext L, hl⟩ ?_ _
  rintro ⟨l', k'⟩ ⟨v', h1, h2, _⟩
  injection h1 with h1 h3
  injection h3 with h3 _
  injection h3 with h3
  subst h1 h3
  rw [sns_uniq (hA.ext L) h2]
theorem e27 (f t k : List Nat) (H : Heap) : EA 27 [.agg [.str f, .str t], .str k] H = .ok (.bool (decide (has f t k))) H := rfl
def lateC (f t : List Nat) (seen : List Sn) (c : Cell) : Prop := has f t c.key ∧ ofT seen c.key < c.floor
def tellE (f t : List Nat) (seen : List Sn) (e : Evn) : Prop := has f t e.key ∧ ofT seen e.key < e.ver
noncomputable instance (f t seen e) : Decidable (tellE f t seen e) := Classical.propDecidable _
noncomputable def tellL (f t : List Nat) (seen : List Sn) (l : List Evn) : List Evn := l.filter fun e => decide (tellE f t seen e)
theorem tellL_yes {f t : List Nat} {seen : List Sn} {l : List Evn} {i : Nat} {c : Evn} (h : l[i]? = some c) (h2 : tellE f t seen c) : tellL f t seen (l.take (i + 1)) = tellL f t seen (l.take i) ++ [c] := by
  rw [take_next h]; simp [tellL, h2]
theorem tellL_no {f t : List Nat} {seen : List Sn} {l : List Evn} {i : Nat} {c : Evn} (h : l[i]? = some c) (h2 : ¬ tellE f t seen c) : tellL f t seen (l.take (i + 1)) = tellL f t seen (l.take i) := by
  rw [take_next h]; simp [tellL, h2]
theorem tellL_len (f t : List Nat) (seen : List Sn) (l : List Evn) (i : Nat) : (tellL f t seen (l.take i)).length ≤ i := Nat.le_trans (List.length_filter_le _ _) (by simp; omega)
noncomputable def afterL (f t : List Nat) (seen : List Sn) (n : Nat) (l : List Evn) : List Evn := (tellL f t seen l).take n
theorem afterL_all {f t : List Nat} {seen : List Sn} {n : Nat} {l : List Evn} {i : Nat} (hi : l.length ≤ i) (hn : (tellL f t seen (l.take i)).length ≤ n) : tellL f t seen (l.take i) = afterL f t seen n l := by
  rw [List.take_of_length_le hi] at hn ⊢
  exact (List.take_of_length_le hn).symm
theorem afterL_full {f t : List Nat} {seen : List Sn} {n : Nat} {l : List Evn} {i : Nat} (hn : (tellL f t seen (l.take i)).length = n) : tellL f t seen (l.take i) = afterL f t seen n l := by
  have : tellL f t seen l = tellL f t seen (l.take i) ++ tellL f t seen (l.drop i) := by
    unfold tellL; rw [← List.filter_append, List.take_append_drop]
  rw [afterL, this, ← hn, List.take_left']
  rfl
noncomputable def afterV (H : Heap) (f t : List Nat) (seen : List Sn) (n : Nat) (l : List Evn) (cs : List Cell) : AV := open Classical in if ∃ c ∈ cs, lateC f t seen c then .tup [.nils, .bool true] else .tup [outV (H.key 0) 4 (afterL f t seen n l).length, .bool false]
noncomputable def afterB (f t : List Nat) (seen : List Sn) (n : Nat) (l : List Evn) (cs : List Cell) : List Blk := open Classical in if ∃ c ∈ cs, lateC f t seen c then [] else [outB 4 ((afterL f t seen n l).map Evn.enc)]
theorem f58_ok {v u w : AV} {l : List Evn} {cs : List Cell} {seen : List Sn} (hA : Arr H 4 v (l.map Evn.enc)) (hB : Arr H 5 u (cs.map Cell.enc)) (hC : Arr H 2 w (seen.map Sn.enc)) (hl : l.length < 100000) (hc : cs.length < 4294967296) (hs : seen.length < 9223372036854775807) (f t : List Nat) (n : Nat) :
    FnOk Tryd.prog 58 [v, u, .agg [.str f, .str t], w, .int .i64 n] H fun r G => r = afterV H f t seen n l cs ∧ G = H.ext (afterB f t seen n l cs) := by
  refine FnOk.assume fun hok => ?_
  refine FnOk.dropW ?_
  refine FnOk.of_WW Tryd.func58 rfl C58ok R58ok EA good_EA ?_
  have hlen := fun G => hA.len G
  have hlen2 := fun G => hB.len G
  simp only [List.length_map] at hlen hlen2
  have hren := hA.ren
  have hren2 := hB.ren
  have hren3 := hC.ren
  have hof := e80 hC hs
  simp only [go_sem, C58]
  refine LL.st good_EA (fun i : Nat => cs.length - i) (fun i => i ≤ cs.length ∧ ∀ j d, j < i → cs[j]? = some d → ¬ lateC f t seen d)
    (fun i => [(.z, v), ((.o .z), u), ((.o (.o .z)), w), ((.i (.o .z)), .int .i64 n), ((.o (.o (.o .z))), .ptr (H.key 0) 0), ((.i (.o (.i .z))), .int .i64 i)]) (fun i => [.row true 2 [[.str f, .str t]]]) ?_ 0 (σ := [0]) (Wk.of rfl (by decide) (by simp only [go_sem, hren, hren2, hren3]) (by simp only [go_sem])) ⟨Nat.zero_le _, fun j d h => absurd h (Nat.not_lt_zero _)⟩
  rintro i ⟨hi, hno⟩
  by_cases hlt : i < cs.length
  · obtain ⟨kk, r, ex', cap', wr, rows, hv, hrho, hgo, hrow⟩ := hB.at hok (j := i) (by rw [List.length_map]; exact hlt); simp only [List.length_map, List.getElem_map] at hv hrow; have hget : cs[i]? = some cs[i] := List.getElem?_eq_getElem hlt; generalize cs[i] = c at hrow hget; have hw := wrap_succ (n := i) (by omega); have hci : (i : Int) < (cs.length : Int) := (by omega); have hsi : i + 1 ≤ cs.length := (by omega)
    simp only [go_sem, C58L0, hv, hci, hsi, hgo, hrow, hw, Cell.enc, e27, hof]
    have hnext : ¬ lateC f t seen c → ∀ j d, j < i + 1 → cs[j]? = some d → ¬ lateC f t seen d := fun g j d hj hd => by
      rcases Nat.lt_or_ge j i with h | h
      · exact hno j d h hd
      · obtain rfl : j = i := by omega
        rw [hget] at hd; cases hd; exact g
    refine ⟨fun g => ⟨fun g2 => ?_, fun g2 => ?_⟩, fun g => ?_⟩
    · have hex : ∃ c ∈ cs, lateC f t seen c := ⟨c, List.mem_of_getElem? hget, g, g2⟩
      unfold afterV afterB
      rw [if_pos hex, if_pos hex]
      exact ⟨_, [], by simp only [go_sem], rfl, rfl, by decide, by simp only [go_sem]⟩
    · refine ⟨i + 1, by show cs.length - (i + 1) < cs.length - i; omega, ⟨hsi, hnext fun h => g2 h.2⟩, _, [0], rfl, Wk.of rfl (by decide) (by simp only [go_sem, hren, hrho, hren3]) (by simp only [go_sem])⟩
    · refine ⟨i + 1, by show cs.length - (i + 1) < cs.length - i; omega, ⟨hsi, hnext fun h => g h.1⟩, _, [0], rfl, Wk.of rfl (by decide) (by simp only [go_sem, hren, hrho, hren3]) (by simp only [go_sem])⟩
  · have hci : ¬ (i : Int) < (cs.length : Int) := by omega
    simp only [go_sem, C58L0, hlen2, hci]
    have hno2 : ¬ ∃ c ∈ cs, lateC f t seen c := by
      rintro ⟨c, h1, h2⟩
      obtain ⟨j, hj⟩ := List.mem_iff_getElem?.1 h1
      exact hno j c (by have := (List.getElem?_eq_some_iff.1 hj).1; omega) hj h2
    unfold afterV afterB
    rw [if_neg hno2, if_neg hno2]
    refine LL.st good_EA (fun i : Nat => l.length - i) (fun i => i ≤ l.length ∧ (tellL f t seen (l.take i)).length ≤ n)
      (fun i => [(.z, v), ((.o (.o .z)), w), ((.i (.o .z)), .int .i64 n), ((.o (.o (.o .z))), .ptr (H.key 0) 0), ((.i (.i (.i .z))), outV (H.key 1) 4 (tellL f t seen (l.take i)).length), ((.o (.o (.o (.o .z)))), .int .i64 i)]) (fun i => [.row true 2 [[.str f, .str t]], outB 4 ((tellL f t seen (l.take i)).map Evn.enc)]) ?_ 0 (σ := [0, 1]) (Wk.of rfl (by decide) (by simp only [go_sem, hren, hren3, tellL, List.filter_nil]) (by simp only [go_sem, tellL, List.filter_nil])) ⟨Nat.zero_le _, Nat.zero_le _⟩
    clear hi hlt hci hno i
    rintro i ⟨hi, hon⟩
    have hln := tellL_len f t seen l i
    by_cases hlt : i < l.length
    · obtain ⟨kk, r, ex', cap', wr, rows, hv, hrho, hgo, hrow⟩ := hA.at hok (j := i) (by rw [List.length_map]; exact hlt); simp only [List.length_map, List.getElem_map] at hv hrow; have hget : l[i]? = some l[i] := List.getElem?_eq_getElem hlt; generalize l[i] = e at hrow hget; have hw := wrap_succ (n := i) (by omega); have hci : (i : Int) < (l.length : Int) := (by omega); have hsi : i + 1 ≤ l.length := (by omega)
      by_cases hfull : (tellL f t seen (l.take i)).length < n
      · have hfi : ((tellL f t seen (l.take i)).length : Int) < (n : Int) := (by omega)
        simp only [go_sem, ↓appR_hide, C58L1, hv, hci, hsi, hfi, hgo, hrow, hw, Evn.enc, e27, hof]
        refine ⟨fun g => ⟨fun g2 => ?_, fun g2 => ?_⟩, fun g => ?_⟩
        · have hnew := tellL_yes hget (show tellE f t seen e from ⟨g, g2⟩)
          refine RW_app _ [.str e.key, .int .i64 e.ver, .str e.val, .bool e.del] rfl (List.length_map ..) rfl (okBig_le (by omega) (by decide)) ?_
          simp only [go_sem, hw]
          rw [show outB 4 ((tellL f t seen (l.take i)).map Evn.enc ++ [[.str e.key, .int .i64 e.ver, .str e.val, .bool e.del]]) = outB 4 ((tellL f t seen (l.take i) ++ [e]).map Evn.enc) by rw [List.map_append]; rfl]
          exact ⟨i + 1, by show l.length - (i + 1) < l.length - i; omega, ⟨hsi, by rw [hnew, List.length_append]; show _ + 1 ≤ n; omega⟩, _, [0, 4], rfl, Wk.of rfl (by decide) (by simp only [go_sem, hrho, hren3, outV_ren', hnew]) (by simp only [go_sem, hnew, ↓outB_ren', Evn.map_rens, Evn.rens, implies_true])⟩
        · have hnew := tellL_no hget (show ¬ tellE f t seen e from fun h => g2 h.2)
          exact ⟨i + 1, by show l.length - (i + 1) < l.length - i; omega, ⟨hsi, by rw [hnew]; omega⟩, _, [0, 1], rfl, Wk.of rfl (by decide) (by simp only [go_sem, hrho, hren3, outV_ren', hnew]) (by simp only [go_sem, hnew, ↓outB_ren', Evn.map_rens, implies_true])⟩
        · have hnew := tellL_no hget (show ¬ tellE f t seen e from fun h => g h.1)
          exact ⟨i + 1, by show l.length - (i + 1) < l.length - i; omega, ⟨hsi, by rw [hnew]; omega⟩, _, [0, 1], rfl, Wk.of rfl (by decide) (by simp only [go_sem, hrho, hren3, outV_ren', hnew]) (by simp only [go_sem, hnew, ↓outB_ren', Evn.map_rens, implies_true])⟩
      · have hfi : ¬ ((tellL f t seen (l.take i)).length : Int) < (n : Int) := (by omega)
        have hall := afterL_full (f := f) (t := t) (seen := seen) (l := l) (i := i) (n := n) (by omega)
        simp only [go_sem, C58L1, hv, hci, hsi, hfi]
        rw [hall]
        exact ⟨_, [1], by simp only [go_sem, outV_ren'], rfl, rfl, by decide, by simp only [go_sem, ↓outB_ren', Evn.map_rens, implies_true]⟩
    · have hci : ¬ (i : Int) < (l.length : Int) := by omega
      have hall := afterL_all (f := f) (t := t) (seen := seen) (n := n) (l := l) (i := i) (by omega) hon
      simp only [go_sem, C58L1, hlen, hci]
      rw [hall]
      exact ⟨_, [1], by simp only [go_sem, outV_ren'], rfl, rfl, by decide, by simp only [go_sem, ↓outB_ren', Evn.map_rens, implies_true]⟩
end Go.Proofs
/- a feed as the law has it: walked. -/

set_option linter.all false
set_option linter.all false
set_option maxRecDepth 100000
namespace Go.Proofs
open Go Go.Ev
variable {H : Heap}

@[go_sem] theorem min_int {β : Type} (k : IntKind) (a b : Int) (f : β) (c : AV → β) : mm2 false (.int k a) (.int k b) f c = c (.int k (min a b)) := by
  show bif' false (ltI a b fun z => bif' z (c (.int k b)) (c (.int k a))) (ltI b a fun z => bif' z (c (.int k b)) (c (.int k a))) = _
  rw [bif_false, ltI_eq, bif_eq]
  by_cases h : b < a
  · rw [decide_eq_true h, if_pos rfl, Int.min_eq_right (by omega)]
  · rw [decide_eq_false h, if_neg (by decide), Int.min_eq_left (by omega)]
def feedN (n : Int) : Nat := (max 0 (min n 8)).toNat
theorem feedN_eq (n : Int) : max 0 (min n 8) = (feedN n : Int) := by unfold feedN; omega
noncomputable def feedV (H : Heap) (s : Sh) (f t : List Nat) (seen : List Sn) (n : Int) : AV := open Classical in if okMeet s.fr s.to f t then afterV H (maxS s.fr f) (lowS s.to t) seen (feedN n) s.evs s.cells else .tup [.nils, .bool false]
noncomputable def feedB (s : Sh) (f t : List Nat) (seen : List Sn) (n : Int) : List Blk := open Classical in if okMeet s.fr s.to f t then afterB (maxS s.fr f) (lowS s.to t) seen (feedN n) s.evs s.cells else []
theorem f29_ok {s : Sh} (h : s.ok H) {w : AV} {seen : List Sn} (hC : Arr H 2 w (seen.map Sn.enc)) (hs : seen.length < 9223372036854775807) (hel : s.evs.length < 100000) (f t : List Nat) (n : Int) :
    FnOk Tryd.prog 29 [.agg s.enc, .agg [.str f, .str t], w, .int .i64 n] H fun r G => r = feedV H s f t seen n ∧ G = H.ext (feedB s f t seen n) := by
  refine FnOk.assume fun hok => ?_
  refine FnOk.dropW ?_
  refine FnOk.of_WW Tryd.func29 rfl C29ok R29ok E0 good_E0 ?_
  simp only [go_sem, C29, Sh.enc]
  refine CL.of (f14_ok s.fr s.to f t) ?_
  rintro _ G' ⟨rfl, hG⟩
  rw [hG]
  clear hG
  unfold meetV feedV feedB
  by_cases hm : okMeet s.fr s.to f t
  · rw [if_pos hm, if_pos hm, if_pos hm]
    simp only [go_sem, feedN_eq]
    refine CL.of (f58_ok (h.e.ext _) (h.c.ext _) (hC.ext _) hel h.cl hs _ _ _) ?_
    rintro _ _ ⟨rfl, rfl⟩
    unfold afterV afterB
    by_cases hx : ∃ c ∈ s.cells, lateC (maxS s.fr f) (lowS s.to t) seen c
    · rw [if_pos hx, if_pos hx, if_pos hx]
      simp only [go_sem]
      exact ⟨_, [], rfl, rfl, .nil⟩
    · rw [if_neg hx, if_neg hx, if_neg hx]
      simp only [go_sem, Heap.key_ext]
      exact ⟨_, [3], by simp only [go_sem, outV_ren'], rfl, rfl, by decide, by simp only [go_sem, ↓outB_ren', Evn.map_rens, implies_true]⟩
  · rw [if_neg hm, if_neg hm, if_neg hm]
    simp only [go_sem]
    exact ⟨_, [], rfl, rfl, .nil⟩
end Go.Proofs
/- cut: CutKeys: the plain law and the walk. -/

set_option linter.all false
set_option linter.all false
set_option maxRecDepth 100000
namespace Go.Proofs
open Go Go.Ev
variable {H : Heap}

theorem ltS_succ : ∀ k : List Nat, ltS k (k ++ [0])
  | [] => rfl
  | a :: k => (ltS_cons ..).2 (.inr ⟨rfl, ltS_succ k⟩)
theorem no_between : ∀ {k x : List Nat}, ltS k x → ¬ ltS x (k ++ [0])
  | [], [], h, _ => by cases h
  | [], y :: ys, _, h2 => by
    rcases (ltS_cons ..).1 h2 with h | ⟨_, h⟩
    · exact absurd h (Nat.not_lt_zero _)
    · exact not_ltS_nil _ h
  | a :: k, [], h, _ => by cases h
  | a :: k, y :: ys, h, h2 => by
    rcases (ltS_cons ..).1 h with h3 | ⟨h5, h3⟩
    · rcases (ltS_cons ..).1 h2 with h4 | ⟨h6, h4⟩
      · omega
      · omega
    · rcases (ltS_cons ..).1 h2 with h4 | ⟨h6, h4⟩
      · omega
      · exact no_between (k := k) (x := ys) h3 h4
theorem getL_filter {k : List Nat} {p : Cell → Bool} : ∀ {l : List Cell}, (∀ c ∈ l, c.key = k → p c = true) → getL (l.filter p) k = getL l k
  | [], _ => rfl
  | c :: l, h => by
    have h' : ∀ c ∈ l, c.key = k → p c = true := fun c hc => h c (by simp [hc])
    by_cases hk : c.key = k
    · rw [List.filter_cons_of_pos (h c (by simp) hk), getL, getL, if_pos hk, if_pos hk]
    · rw [getL, if_neg hk]
      by_cases hp : p c = true
      · rw [List.filter_cons_of_pos hp, getL, if_neg hk, getL_filter h']
      · rw [List.filter_cons_of_neg hp, getL_filter h']
section
variable {f t k : List Nat} (hk : has f t k)
include hk
theorem max_key : maxS f k = k := by
  unfold maxS
  rcases ltS_tri f k with h | h | h
  · rw [if_pos h]
  · rw [h]; exact ite_self _
  · exact absurd h hk.2.2.1
theorem low_key : lowS t (k ++ [0]) = k ++ [0] := by
  unfold lowS
  rcases hk.2.2.2 with h | h
  · rw [if_pos (.inl h)]
  · rcases ltS_tri (k ++ [0]) t with g | g | g
    · rw [if_pos (.inr ⟨by simp, g⟩)]
    · rw [g]; exact ite_self _
    · exact absurd g (no_between h)
theorem key_span (h8 : ((k ++ [0]).length : Int) ≤ 8) : isSpan k (k ++ [0]) := ⟨hk.2.1.2, h8, .inr (ltS_succ k)⟩
theorem key_meet (h8 : ((k ++ [0]).length : Int) ≤ 8) : okMeet f t k (k ++ [0]) := by
  refine ⟨hk.1, key_span hk h8, ?_⟩
  rw [max_key hk, low_key hk]
  exact key_span hk h8
theorem has_one {x : List Nat} (h : has k (k ++ [0]) x) : x = k := by
  rcases ltS_tri x k with g | g | g
  · exact absurd g h.2.2.1
  · exact g
  · exact absurd (h.2.2.2.resolve_left (by simp)) (no_between g)
theorem get_within (l : List Cell) : getL (withinL f t l) k = getL l k := getL_filter fun c _ h => by rw [h]; exact decide_eq_true hk
theorem late_within (seen : List Sn) (l : List Cell) : (∃ c ∈ withinL f t l, lateC k (k ++ [0]) seen c) ↔ ∃ c ∈ l, lateC k (k ++ [0]) seen c := by
  constructor
  · rintro ⟨c, h1, h2⟩; exact ⟨c, (List.mem_filter.1 h1).1, h2⟩
  · rintro ⟨c, h1, h2⟩; exact ⟨c, List.mem_filter.2 ⟨h1, by rw [has_one hk h2.1]; exact decide_eq_true hk⟩, h2⟩
theorem tell_within (seen : List Sn) (l : List Evn) : tellL k (k ++ [0]) seen (evW f t l) = tellL k (k ++ [0]) seen l := by
  unfold tellL evW
  rw [List.filter_filter]
  refine List.filter_congr fun e _ => ?_
  by_cases h : tellE k (k ++ [0]) seen e
  · rw [decide_eq_true h, has_one hk h.1, decide_eq_true hk]; rfl
  · rw [decide_eq_false h]; rfl
theorem after_within (seen : List Sn) (n : Nat) (l : List Evn) : afterL k (k ++ [0]) seen n (evW f t l) = afterL k (k ++ [0]) seen n l := by
  unfold afterL; rw [tell_within hk]
end
/-- whether a feed of one key is late, and what it tells -/
noncomputable def keyLate (s : Sh) (k : List Nat) (seen : List Sn) : Bool := open Classical in decide (∃ c ∈ s.cells, lateC k (k ++ [0]) seen c)
noncomputable def keyTold (s : Sh) (k : List Nat) (seen : List Sn) (n : Int) : List Evn := open Classical in if ∃ c ∈ s.cells, lateC k (k ++ [0]) seen c then [] else afterL k (k ++ [0]) seen (feedN n) s.evs
theorem feed_key {s : Sh} {k : List Nat} (hk : has s.fr s.to k) (h8 : ((k ++ [0]).length : Int) ≤ 8) {w : AV} {seen : List Sn} (h : s.ok H) (hC : Arr H 2 w (seen.map Sn.enc)) (hs : seen.length < 9223372036854775807) (hel : s.evs.length < 100000) (n : Int) :
    FnOk Tryd.prog 29 [.agg s.enc, .agg [.str k, .str (k ++ [0])], w, .int .i64 n] H fun r G => r = .tup [outV (H.key 0) 4 (keyTold s k seen n).length, .bool (keyLate s k seen)] ∧ G = H.ext [outB 4 ((keyTold s k seen n).map Evn.enc)] := by
  refine FnOk.dropW ?_
  refine (f29_ok h hC hs hel k (k ++ [0]) n).mono ?_
  rintro _ _ ⟨rfl, rfl⟩
  unfold feedV feedB keyTold keyLate
  rw [if_pos (key_meet hk h8), if_pos (key_meet hk h8), max_key hk, low_key hk]
  unfold afterV afterB
  by_cases hx : ∃ c ∈ s.cells, lateC k (k ++ [0]) seen c
  · rw [if_pos hx, if_pos hx, if_pos hx, decide_eq_true hx]
    exact ⟨[], [0], by simp only [go_sem], rfl, rfl, by decide, by simp only [go_sem]⟩
  · rw [if_neg hx, if_neg hx, if_neg hx, decide_eq_false hx]
    exact ⟨_, [0], by simp only [go_sem, outV_ren'], rfl, rfl, by decide, by simp only [go_sem, ↓outB_ren', Evn.map_rens, implies_true]⟩
end Go.Proofs
/- cut: CutKeys, walked. -/

set_option linter.all false
set_option linter.all false
set_option maxRecDepth 100000
namespace Go.Proofs
open Go Go.Ev
variable {H : Heap}

theorem told_part {s : Sh} {f t k : List Nat} (hk : has f t k) {id : Int} {k0 k1 k2 : K} {seen : List Sn} {n : Int} : keyTold (partS s id f t k0 k1 k2) k seen n = keyTold s k seen n := by
  show (open Classical in if ∃ c ∈ withinL f t s.cells, lateC k (k ++ [0]) seen c then [] else afterL k (k ++ [0]) seen (feedN n) (evW f t s.evs)) = _
  rw [after_within hk]
  unfold keyTold
  by_cases h : ∃ c ∈ s.cells, lateC k (k ++ [0]) seen c
  · rw [if_pos h, if_pos ((late_within hk seen s.cells).2 h)]
  · rw [if_neg h, if_neg fun g => h ((late_within hk seen s.cells).1 g)]
theorem late_part {s : Sh} {f t k : List Nat} (hk : has f t k) {id : Int} {k0 k1 k2 : K} {seen : List Sn} : keyLate (partS s id f t k0 k1 k2) k seen = keyLate s k seen :=
  decide_eq_decide.2 (late_within hk seen s.cells)
theorem told_len (s : Sh) (k : List Nat) (seen : List Sn) (n : Int) : (keyTold s k seen n).length ≤ s.evs.length := by
  unfold keyTold
  split
  · exact Nat.zero_le _
  · exact Nat.le_trans (List.length_take_le' ..) (List.length_filter_le ..)
theorem f7_ok {s : Sh} (hw : s.okw H) (a k : List Nat) (b : Int) : FnOk Tryd.prog 7 [.agg s.enc, .str a, .str k, .int .u8 b] H fun r G => r = .bool true ∧ G = H := by
  refine FnOk.assume fun hok => ?_
  refine FnOk.drop (R := fun r => r = .bool true) ?_ (by rintro v rfl ρ; rw [AV.ren])
  refine FnOk.of_WW Tryd.func7 rfl C7ok R7ok E0 good_E0 ?_
  simp only [go_sem, C7, Sh.enc]
  refine CL.of f18_ok ?_
  rintro _ G' ⟨rfl, hG⟩
  rw [hG]
  clear hG
  simp only [go_sem]
  refine CL.bool (f19_few (hw.ext _)) (fun g1 => ?_) (fun g1 => ?_)
  rotate_left
  · simp only [go_sem]
    exact ⟨_, rfl⟩
  have h := hw.ok g1
  have g1 : s.cells.length ≤ 30 ∧ s.evs.length ≤ 40 ∧ s.done.length ≤ 6 := g1
  simp only [go_sem]
  refine CL.bool (f20_ok (h.ext _)) (fun g3 => ?_) (fun g3 => ?_)
  rotate_left
  · simp only [go_sem]
    exact ⟨_, rfl⟩
  by_cases g4 : s.frz = true
  · have z1 := eq_true g4
    have z2 := eq_false (show ¬ s.frz = false by rw [g4]; decide)
    simp only [go_sem, z1, z2]
    exact ⟨_, rfl⟩
  have z1 := eq_false g4
  have z2 := eq_true (show s.frz = false by simpa using g4)
  simp only [go_sem, z1, z2]
  refine ⟨fun _ => ⟨_, rfl⟩, fun g2 => ?_⟩
  refine CL.bool (f27_ok s.fr s.to k) (fun hk => ?_) (fun hk => ?_)
  rotate_left
  · simp only [go_sem]
    exact ⟨_, rfl⟩
  simp only [go_sem]
  refine CL.of (f21_ok (h.ext _) (by omega) (by omega) a 5 6) ?_
  rintro _ _ ⟨rfl, rfl⟩
  have hoks : okSplit s 5 6 := ⟨⟨g3, g4⟩, by decide, by decide, by decide⟩
  unfold splitV splitB
  rw [if_pos hoks]
  by_cases hin : inSplit s a
  rotate_left
  · rw [if_neg hin, if_neg fun h => hin h.2]
    simp only [go_sem, zeroS]
    exact ⟨_, rfl⟩
  rw [if_pos hin, if_pos ⟨hoks, hin⟩]
  have hka : k.length + 1 ≤ 9223372036854775807 := by have := hk.2.1.2; omega
  by_cases hlt : ltS k a
  · have z3 := eq_true hlt
    have hpk : has s.fr a k := (has_lo hin).2 ⟨hk, hlt⟩
    simp only [go_sem, Heap.key_ext, partS, partB, Sh.enc, z3]
    refine CL.of (f28_ok (h.c.ext _) h.cl k) ?_
    rintro _ G' ⟨rfl, hG⟩
    rw [hG]
    clear hG
    generalize hq : getL s.cells k = q
    obtain ⟨c, okc⟩ := q
    simp only [go_sem, Cell.enc]
    refine CL.of (f28_ok (l := withinL s.fr a s.cells) (by exact arr_outV (i := 1) rfl (List.length_map ..)) (Nat.lt_of_le_of_lt (List.length_filter_le ..) h.cl) k) ?_
    rintro _ G' ⟨rfl, hG⟩
    rw [hG, get_within hpk, hq]
    clear hG
    simp only [go_sem, Cell.enc, hka]
    generalize hx : IntKind.i64.wrap (b.tmod 30) = x
    clear hx
    refine ⟨fun _ => ⟨_, rfl⟩, fun h8 => ?_⟩
    have h8 : ((k ++ [0]).length : Int) ≤ 8 := by rw [List.length_append]; show ((k.length + 1 : Nat) : Int) ≤ 8; omega
    refine CL.of (feed_key (s := s) (seen := [⟨k, x⟩]) hk h8 (h.ext _) (by exact arr_lit (i := 12) rfl rfl) (by show 1 < _; decide) (by omega) 8) ?_
    rintro _ _ ⟨rfl, rfl⟩
    simp only [go_sem, Heap.key_ext]
    refine CL.of (feed_key (s := (partS s 5 s.fr a (H.key 1) (H.key 2) (H.key 3))) (seen := [⟨k, x⟩]) hpk h8 (part_ok h 5 s.fr a rfl rfl rfl) (by exact arr_lit (i := 12) rfl rfl) (by show 1 < _; decide) (by show (evW s.fr a s.evs).length < _; exact Nat.lt_of_le_of_lt (List.length_filter_le ..) (by omega)) 8) ?_
    rintro _ _ ⟨rfl, rfl⟩
    rw [told_part hpk, late_part hpk]
    have hLl : (keyTold s k [⟨k, x⟩] 8).length < 100000 := Nat.lt_of_le_of_lt (told_len ..) (by omega)
    generalize keyTold s k [⟨k, x⟩] 8 = L at hLl ⊢
    generalize keyLate s k [⟨k, x⟩] = z
    simp only [go_sem, Heap.key_ext]
    have drens := h.dok.rens
    refine LL.st good_E0 (fun i : Nat => L.length - i) (fun i => i ≤ L.length)
      (fun i => [((.i .z), .str k), ((.i (.o (.i .z))), .ptr (H.key 3) 0), ((.o (.i (.i .z))), .ptr (H.key 4) 0), ((.o (.o (.o (.o .z)))), .ptr (H.key 5) 0), ((.i (.i (.i .z))), .bool okc), ((.i (.o (.o (.o .z)))), .bool okc), ((.o (.o (.i (.o .z)))), outV (H.key 6) 4 L.length), ((.o (.i (.i (.o .z)))), outV (H.key 7) 4 L.length), ((.o (.o (.o (.i .z)))), .int .i64 i)])
      (fun i => [outB 5 ((withinL s.fr a s.cells).map Cell.enc), outB 4 ((evW s.fr a s.evs).map Evn.enc), zB (nilB s.dv) 6 (s.done.map Dn.enc), .row true 8 [[.int .i64 5, .int .i64 1, .str s.fr, .str a, .bool false, outV (H.key 0) 5 (withinL s.fr a s.cells).length, outV (H.key 1) 4 (evW s.fr a s.evs).length, zV (nilB s.dv) (H.key 2) 6 s.done.length]], .row true 5 [[.str c.key, .str c.value, .int .i64 c.ver, .bool c.del, .int .i64 c.floor]], .row true 5 [[.str c.key, .str c.value, .int .i64 c.ver, .bool c.del, .int .i64 c.floor]], outB 4 (L.map Evn.enc), outB 4 (L.map Evn.enc)]) ?_ 0 (σ := [1, 2, 3, 9, 10, 11, 14, 15]) (Wk.of rfl (by decide) (by simp only [go_sem, outV_ren']) (by simp only [go_sem, outV_ren', zV_ren, ↓outB_ren', ↓zB_ren, drens, Cell.map_rens, Evn.map_rens, implies_true])) (Nat.zero_le _)
    rintro i hi
    by_cases hil : i < L.length
    · have hci : (i : Int) < (L.length : Int) := (by omega)
      have hsi : i + 1 ≤ L.length := (by omega)
      have hw := wrap_succ (n := i) (by omega)
      have hoB : outB 4 (L.map Evn.enc) = .row true 4 (L.map Evn.enc) := outB_pos (by rw [List.length_map]; omega)
      have hoV : ∀ j, outV (H.key j) 4 L.length = .slice (H.key j) 0 L.length 4 false L.length := fun j => outV_pos (by omega)
      have hrow : (L.map Evn.enc)[i]? = some (L[i]'hil).enc := by rw [List.getElem?_map, List.getElem?_eq_getElem hil]; rfl
      simp only [go_sem, C7L0, hci, hsi, hw, hoV, hoB, hrow, Evn.enc]
      exact ⟨i + 1, by show L.length - (i + 1) < L.length - i; omega, hsi, _, [0, 1, 2, 3, 4, 5, 6, 7], rfl, Wk.of rfl (by decide) (by simp only [go_sem, outV_ren', hw]) (by simp only [go_sem, outV_ren', zV_ren, ↓outB_ren', ↓zB_ren, drens, Cell.map_rens, Evn.map_rens, implies_true, hoB])⟩
    · have hci : ¬ (i : Int) < (L.length : Int) := (by omega)
      simp only [go_sem, C7L0, hci]
      refine CL.bool (f27_ok s.fr a k) (fun _ => ?_) (fun g => absurd hpk g)
      simp only [go_sem]
      exact ⟨_, rfl⟩
  · have z3 := eq_false hlt
    have hpk : has a s.to k := (has_hi hin).2 ⟨hk, hlt⟩
    simp only [go_sem, Heap.key_ext, partS, partB, Sh.enc, z3]
    refine CL.of (f28_ok (h.c.ext _) h.cl k) ?_
    rintro _ G' ⟨rfl, hG⟩
    rw [hG]
    clear hG
    generalize hq : getL s.cells k = q
    obtain ⟨c, okc⟩ := q
    simp only [go_sem, Cell.enc]
    refine CL.of (f28_ok (l := withinL a s.to s.cells) (by exact arr_outV (i := 4) rfl (List.length_map ..)) (Nat.lt_of_le_of_lt (List.length_filter_le ..) h.cl) k) ?_
    rintro _ G' ⟨rfl, hG⟩
    rw [hG, get_within hpk, hq]
    clear hG
    simp only [go_sem, Cell.enc, hka]
    generalize hx : IntKind.i64.wrap (b.tmod 30) = x
    clear hx
    refine ⟨fun _ => ⟨_, rfl⟩, fun h8 => ?_⟩
    have h8 : ((k ++ [0]).length : Int) ≤ 8 := by rw [List.length_append]; show ((k.length + 1 : Nat) : Int) ≤ 8; omega
    refine CL.of (feed_key (s := s) (seen := [⟨k, x⟩]) hk h8 (h.ext _) (by exact arr_lit (i := 12) rfl rfl) (by show 1 < _; decide) (by omega) 8) ?_
    rintro _ _ ⟨rfl, rfl⟩
    simp only [go_sem, Heap.key_ext]
    refine CL.of (feed_key (s := (partS s 6 a s.to (H.key 4) (H.key 5) (H.key 6))) (seen := [⟨k, x⟩]) hpk h8 (part_ok h 6 a s.to rfl rfl rfl) (by exact arr_lit (i := 12) rfl rfl) (by show 1 < _; decide) (by show (evW a s.to s.evs).length < _; exact Nat.lt_of_le_of_lt (List.length_filter_le ..) (by omega)) 8) ?_
    rintro _ _ ⟨rfl, rfl⟩
    rw [told_part hpk, late_part hpk]
    have hLl : (keyTold s k [⟨k, x⟩] 8).length < 100000 := Nat.lt_of_le_of_lt (told_len ..) (by omega)
    generalize keyTold s k [⟨k, x⟩] 8 = L at hLl ⊢
    generalize keyLate s k [⟨k, x⟩] = z
    simp only [go_sem, Heap.key_ext]
    have drens := h.dok.rens
    refine LL.st good_E0 (fun i : Nat => L.length - i) (fun i => i ≤ L.length)
      (fun i => [((.i .z), .str k), ((.i (.o (.i .z))), .ptr (H.key 3) 0), ((.o (.i (.i .z))), .ptr (H.key 4) 0), ((.o (.o (.o (.o .z)))), .ptr (H.key 5) 0), ((.i (.i (.i .z))), .bool okc), ((.i (.o (.o (.o .z)))), .bool okc), ((.o (.o (.i (.o .z)))), outV (H.key 6) 4 L.length), ((.o (.i (.i (.o .z)))), outV (H.key 7) 4 L.length), ((.o (.o (.o (.i .z)))), .int .i64 i)])
      (fun i => [outB 5 ((withinL a s.to s.cells).map Cell.enc), outB 4 ((evW a s.to s.evs).map Evn.enc), zB (nilB s.dv) 6 (s.done.map Dn.enc), .row true 8 [[.int .i64 6, .int .i64 1, .str a, .str s.to, .bool false, outV (H.key 0) 5 (withinL a s.to s.cells).length, outV (H.key 1) 4 (evW a s.to s.evs).length, zV (nilB s.dv) (H.key 2) 6 s.done.length]], .row true 5 [[.str c.key, .str c.value, .int .i64 c.ver, .bool c.del, .int .i64 c.floor]], .row true 5 [[.str c.key, .str c.value, .int .i64 c.ver, .bool c.del, .int .i64 c.floor]], outB 4 (L.map Evn.enc), outB 4 (L.map Evn.enc)]) ?_ 0 (σ := [4, 5, 6, 9, 10, 11, 14, 15]) (Wk.of rfl (by decide) (by simp only [go_sem, outV_ren']) (by simp only [go_sem, outV_ren', zV_ren, ↓outB_ren', ↓zB_ren, drens, Cell.map_rens, Evn.map_rens, implies_true])) (Nat.zero_le _)
    rintro i hi
    by_cases hil : i < L.length
    · have hci : (i : Int) < (L.length : Int) := (by omega)
      have hsi : i + 1 ≤ L.length := (by omega)
      have hw := wrap_succ (n := i) (by omega)
      have hoB : outB 4 (L.map Evn.enc) = .row true 4 (L.map Evn.enc) := outB_pos (by rw [List.length_map]; omega)
      have hoV : ∀ j, outV (H.key j) 4 L.length = .slice (H.key j) 0 L.length 4 false L.length := fun j => outV_pos (by omega)
      have hrow : (L.map Evn.enc)[i]? = some (L[i]'hil).enc := by rw [List.getElem?_map, List.getElem?_eq_getElem hil]; rfl
      simp only [go_sem, C7L0, hci, hsi, hw, hoV, hoB, hrow, Evn.enc]
      exact ⟨i + 1, by show L.length - (i + 1) < L.length - i; omega, hsi, _, [0, 1, 2, 3, 4, 5, 6, 7], rfl, Wk.of rfl (by decide) (by simp only [go_sem, outV_ren', hw]) (by simp only [go_sem, outV_ren', zV_ren, ↓outB_ren', ↓zB_ren, drens, Cell.map_rens, Evn.map_rens, implies_true, hoB])⟩
    · have hci : ¬ (i : Int) < (L.length : Int) := (by omega)
      simp only [go_sem, C7L0, hci]
      refine CL.bool (f27_ok a s.to k) (fun _ => ?_) (fun g => absurd hpk g)
      simp only [go_sem]
      exact ⟨_, rfl⟩
end Go.Proofs
