/- The told package variable: what a law's condition gives; a world that meets it. -/
import Derived.Test.YtomljpdjfobeoaaDoorZ18
import Derived.JoinedOf
set_option linter.all false
set_option maxRecDepth 100000
namespace Go.Proofs.YtomljpdjfobeoaaDoor
open Go Go.Ev Go.ChangeShapes Go.WideShapes Go.ChangeAt Go.RowKit
theorem Tryd.own : ownKnob Tryd.prog.godebug = none := by kernel_rfl
theorem Tryd.laidOut : laidOutB Tryd.prog = true := by kernel_rfl
theorem Tryd.et : Tryd.prog.globalNamed "errors.errorType" = some 0 := by kernel_rfl
theorem Tryd.rt : (Tryd.prog.cutTypes.find? (·.1 == "internal/reflectlite.rtype")).map (·.2) = some 147 := by kernel_rfl
theorem Tryd.size : Tryd.prog.types.size = 227 := by kernel_rfl
theorem Tryd.oneRow : ((List.range 227).filter fun t => Tryd.prog.rowNamed t [101, 114, 114, 111, 114]) = [26] := by kernel_rfl
/-- what is told -/
def laid0 : List (String × DataW Unit) := [("errors.errorType", Rows.laid_errors_errorType)]
/-- the variable's one cell -/
theorem handle_of_laid {W : World} (h : laidMetH Tryd.prog laid0 W) : W.cell? ⟨0, 0, none⟩ = some (.iface 147 (.agg #[.pointer (some ⟨1, 26, none⟩)])) := by
  have h' : laidMet Tryd.prog [] W ∧ handlesMet Tryd.prog laid0 W := h
  obtain ⟨name, u, ty, e1, e2, e3, e4, e5⟩ := h'.2 _ (List.mem_singleton.2 rfl)
  have en : name = [101, 114, 114, 111, 114] := (Option.some.inj e1).symm
  subst en
  obtain rfl := Option.some.inj (Tryd.rt.symm.trans e2)
  have hm : ty ∈ (List.range 227).filter fun t => Tryd.prog.rowNamed t [101, 114, 114, 111, 114] := List.mem_filter.2 ⟨List.mem_range.2 (by rw [← Tryd.size]; exact e3), e4⟩
  rw [Tryd.oneRow] at hm
  obtain rfl := List.mem_singleton.1 hm
  have hh : typeHandle Tryd.prog 26 = .pointer (some ⟨1, 26, none⟩) := by kernel_rfl
  rw [hh] at e5
  simpa using World.var?_cell Tryd.et e5 0
theorem rom_of_laid {W : World} (h : laidMetH Tryd.prog laid0 W) : ∀ g v, (g, v) ∈ romOf → W.cell? ⟨g, 0, none⟩ = some v := by
  intro g v hm
  have hm : (g, v) ∈ [(0, Value.iface 147 (.agg #[.pointer (some ⟨1, 26, none⟩)]))] := hm
  cases List.mem_singleton.1 hm
  exact handle_of_laid h
/-- a world that meets it -/
noncomputable def laidWorld (os : Os) : World :=
  let w0 := World.holding Tryd.prog os ⟨#[], #[], []⟩
  { w0 with heap := w0.heap.modify 0 fun
      | .cells _ t frozen => .cells #[.iface 147 (.agg #[.pointer (some ⟨1, 26, none⟩)])] t frozen
      | o => o }
theorem laidWorld_met (os : Os) (args : Array Value) : laidMetH Tryd.prog laid0 ((laidWorld os).forCall (fun _ _ => 0) ⟨#[], args, []⟩).memory :=
  laidMetH_of_parts (laidMet_nil _ _) (by kernel_rfl)
end Go.Proofs.YtomljpdjfobeoaaDoor
/- token: where a key is, walked. -/



set_option linter.all false
set_option maxRecDepth 100000
namespace Go.Proofs
open Go Go.Ev
variable {H : Heap}

/-- how far one has seen of a key -/
structure Sn where
  key : List Nat
  ver : Int
def Sn.enc (c : Sn) : List AV := [.str c.key, .int .i64 c.ver]
theorem Sn.rens (ρ : K → K) (c : Sn) : AV.rens ρ c.enc = c.enc := by simp only [Sn.enc, AV.rens, AV.ren]
theorem Sn.map_rens (ρ : K → K) (l : List Sn) : (l.map Sn.enc).map (AV.rens ρ) = l.map Sn.enc := by
  rw [List.map_map]; exact List.map_congr_left fun c _ => Sn.rens ρ c
theorem f111_ok (k : List Nat) : FnOk Tryd.prog 111 [.str k] H fun v G => v = .bool false ∧ G = H := by
  refine FnOk.of_WW Tryd.func111 rfl C111ok R111ok E0 good_E0 ?_
  simp only [go_sem, C111, Heap.ext_nil]
noncomputable def cmpS (a b : List Nat) : Int := if ltS a b then -1 else if ltS b a then 1 else 0
theorem f97_ok (a b : List Nat) : FnOk Tryd.prog 97 [.str a, .str b] H fun v G => v = .int .i64 (cmpS a b) ∧ G = H := by
  refine FnOk.of_WW Tryd.func97 rfl C97ok R97ok E0 good_E0 ?_
  simp only [go_sem, C97]
  refine CL.one (f111_ok a) ?_
  simp only [go_sem]
  refine CL.one (f111_ok b) ?_
  simp only [go_sem]
  unfold cmpS
  refine ⟨fun h => ⟨by rw [if_pos h], Heap.ext_nil H⟩, fun h => ⟨fun g => ⟨?_, Heap.ext_nil H⟩, fun g => ⟨?_, Heap.ext_nil H⟩⟩⟩
  · rw [if_neg h, if_pos (not_leS.1 g)]
  · rw [if_neg h, if_neg (fun e => g (not_leS.2 e))]
theorem f96_ok (c : Sn) (k : List Nat) : FnOk Tryd.prog 96 [.agg c.enc, .str k] H fun v G => v = .int .i64 (cmpS c.key k) ∧ G = H := by
  refine FnOk.drop (R := fun v => v = .int .i64 (cmpS c.key k)) ?_ (by rintro v rfl ρ; rw [AV.ren])
  refine FnOk.of_WW Tryd.func96 rfl C96ok R96ok E0 good_E0 ?_
  simp only [go_sem, C96, Sn.enc]
  refine CL.one (f97_ok _ _) ?_
  simp only [go_sem]
  exact ⟨_, rfl⟩
def hasAt (l : List Sn) (k : List Nat) (i : Nat) : Prop := ∃ c, l[i]? = some c ∧ c.key = k
noncomputable instance (l : List Sn) (k : List Nat) (i : Nat) : Decidable (hasAt l k i) := Classical.propDecidable _
/-- all ahead of it are less, none behind is -/
def lowAt (l : List Sn) (k : List Nat) (i : Nat) : Prop := i ≤ l.length ∧ (∀ q c, q < i → l[q]? = some c → ltS c.key k) ∧ ∀ q c, i ≤ q → l[q]? = some c → ¬ ltS c.key k
def rises (l : List Sn) : Prop := ∀ (p q : Nat) (c d : Sn), p < q → l[p]? = some c → l[q]? = some d → ltS c.key d.key
theorem f95_ok {v : AV} {l : List Sn} (hA : Arr H 2 v (l.map Sn.enc)) (hr : rises l) (hl : l.length < 4294967296) (k : List Nat) :
    FnOk Tryd.prog 95 [v, .str k, .fn (.func 96) [] []] H fun r G => (∃ i : Nat, lowAt l k i ∧ r = .tup [.int .i64 i, .bool (decide (hasAt l k i))]) ∧ G = H := by
  refine FnOk.assume fun hok => ?_
  refine FnOk.drop (R := fun r => ∃ i : Nat, lowAt l k i ∧ r = .tup [.int .i64 i, .bool (decide (hasAt l k i))]) ?_ (by rintro v ⟨i, _, rfl⟩ ρ; simp only [AV.ren, AV.rens])
  refine FnOk.of_WW Tryd.func95 rfl C95ok R95ok E0 good_E0 ?_
  have hlen := fun G => hA.len G
  simp only [List.length_map] at hlen
  have hren := hA.ren
  simp only [go_sem, C95, hlen]
  refine LL.st good_E0 (fun p : Nat × Nat => p.2 - p.1) (fun p => p.1 ≤ p.2 ∧ p.2 ≤ l.length ∧ (∀ q c, q < p.1 → l[q]? = some c → ltS c.key k) ∧ ∀ q c, p.2 ≤ q → l[q]? = some c → ¬ ltS c.key k)
    (fun p => [(.z, v), ((.o .z), .str k), ((.i .z), .fn (.func 96) [] []), ((.i (.o (.o .z))), .int .i64 l.length), ((.o (.i (.o .z))), .int .i64 p.1), ((.i (.i (.o .z))), .int .i64 p.2)])
    (fun p => []) ?_ (0, l.length) (σ := []) (Wk.of rfl (by decide) (by simp only [go_sem, hren]) (by simp only [go_sem])) ⟨Nat.zero_le _, Nat.le_refl _, fun q c h => absurd h (Nat.not_lt_zero _), fun q c h g => absurd (List.getElem?_eq_some_iff.1 g).1 (Nat.not_lt.2 h)⟩
  rintro ⟨i, j⟩ ⟨hij, hjl, h1, h2⟩
  simp only at hij hjl h1 h2
  by_cases hlt : i < j
  · have hc : (i : Int) < (j : Int) := by omega
    have hml : (i + j) / 2 < l.length := by omega
    obtain ⟨kk, r, ex', cap', wr, rows, hv, hrho, hgo, hrow⟩ := hA.at hok (j := (i + j) / 2) (by rw [List.length_map]; exact hml)
    simp only [List.length_map, List.getElem_map] at hv hrow
    cases hv
    have hgm : l[(i + j) / 2]? = some l[(i + j) / 2] := List.getElem?_eq_getElem hml
    generalize l[(i + j) / 2] = d at hrow hgm
    have hmid := half_mid (i := i) (j := j) (by omega)
    have hsi : (i + j) / 2 + 1 ≤ l.length := by omega
    have hlo : i ≤ (i + j) / 2 := by omega
    have hhi : (i + j) / 2 < j := by omega
    generalize (i + j) / 2 = m at *
    have hw := wrap_succ (n := m) (by omega)
    simp only [go_sem, C95L0, hc, hmid, hgo, hrow, hsi, Sn.enc]
    refine CL.one (f96_ok d k) ?_
    simp only [go_sem, hw]
    refine ⟨fun g => ?_, fun g => ?_⟩
    · refine ⟨(m + 1, j), by show j - (m + 1) < j - i; omega, ⟨by omega, hjl, fun q c hq hc' => ?_, h2⟩, _, [], rfl, Wk.of rfl (by decide) (by simp only [go_sem, hren, hrho]) (by simp only [go_sem])⟩
      have hlt' : ltS d.key k := by
        unfold cmpS at g
        by_cases e : ltS d.key k
        · exact e
        · rw [if_neg e] at g; split at g <;> omega
      rcases Nat.lt_or_ge q m with h | h
      · exact ltS_trans (hr q m c d h hc' hgm) hlt'
      · obtain rfl : q = m := by omega
        rw [hgm] at hc'; cases hc'; exact hlt'
    · refine ⟨(i, m), by show m - i < j - i; omega, ⟨hlo, by omega, h1, fun q c hq hc' => ?_⟩, _, [], rfl, Wk.of rfl (by decide) (by simp only [go_sem, hren, hrho]) (by simp only [go_sem])⟩
      have hge : ¬ ltS d.key k := fun e => g (by unfold cmpS; rw [if_pos e]; decide)
      rcases Nat.lt_or_ge m q with h | h
      · exact fun e => hge (ltS_trans (hr m q d c h hgm hc') e)
      · obtain rfl : q = m := by omega
        rw [hgm] at hc'; cases hc'; exact hge
  · obtain rfl : i = j := by omega
    have hc : ¬ (i : Int) < (i : Int) := by omega
    have hlow : lowAt l k i := ⟨hjl, h1, h2⟩
    rcases Nat.lt_or_ge i l.length with hil | hil
    · obtain ⟨kk, r, ex', cap', wr, rows, hv, hrho, hgo, hrow⟩ := hA.at hok (j := i) (by rw [List.length_map]; exact hil)
      simp only [List.length_map, List.getElem_map] at hv hrow
      cases hv
      have hgm : l[i]? = some l[i] := List.getElem?_eq_getElem hil
      generalize l[i] = d at hrow hgm
      have hci : (i : Int) < (l.length : Int) := by omega
      have hsi : i + 1 ≤ l.length := by omega
      simp only [go_sem, C95L0, hc, hgo, hrow, hsi, hci, Sn.enc]
      refine CL.one (f96_ok d k) ?_
      simp only [go_sem]
      have hat : cmpS d.key k = 0 ↔ hasAt l k i := by
        unfold cmpS hasAt
        constructor
        · intro h
          refine ⟨d, hgm, ?_⟩
          rcases ltS_tri d.key k with e | e | e
          · rw [if_pos e] at h; cases h
          · exact e
          · rw [if_neg (ltS_asymm e), if_pos e] at h; cases h
        · rintro ⟨c, hc', e⟩
          rw [hgm] at hc'; cases hc'
          rw [e, if_neg (ltS_irrefl _), if_neg (ltS_irrefl _)]
      refine ⟨fun h => ⟨⟨i, hlow, ?_⟩, _, rfl⟩, fun h => ⟨⟨i, hlow, ?_⟩, _, rfl⟩⟩
      · rw [decide_eq_true (hat.1 h)]
      · rw [decide_eq_false (fun e => h (hat.2 e))]
    · have hci : ¬ (i : Int) < (l.length : Int) := by omega
      simp only [go_sem, C95L0, hc, hci]
      refine ⟨⟨i, hlow, ?_⟩, _, rfl⟩
      rw [decide_eq_false (fun ⟨c, hc', _⟩ => by have := (List.getElem?_eq_some_iff.1 hc').1; omega)]
theorem f83_ok {v : AV} {l : List Sn} (hA : Arr H 2 v (l.map Sn.enc)) (hr : rises l) (hl : l.length < 4294967296) (k : List Nat) :
    FnOk Tryd.prog 83 [v, .str k] H fun r G => (∃ i : Nat, lowAt l k i ∧ r = .tup [.int .i64 i, .bool (decide (hasAt l k i))]) ∧ G = H := by
  refine FnOk.drop (R := fun r => ∃ i : Nat, lowAt l k i ∧ r = .tup [.int .i64 i, .bool (decide (hasAt l k i))]) ?_ (by rintro v ⟨i, _, rfl⟩ ρ; simp only [AV.ren, AV.rens])
  refine FnOk.of_WW Tryd.func83 rfl C83ok R83ok E0 good_E0 ?_
  simp only [go_sem, C83]
  refine CL.of (f95_ok (hA.ext []) hr hl k) ?_
  rintro _ _ ⟨⟨i, hi, rfl⟩, rfl⟩
  simp only [go_sem]
  exact ⟨fun h => ⟨⟨i, hi, by rw [decide_eq_true h]⟩, [], rfl⟩, fun h => ⟨⟨i, hi, by rw [decide_eq_false h]⟩, [], rfl⟩⟩
end Go.Proofs
/- What is given to the laws of watchers: numbers, opened. -/


set_option linter.all false
set_option maxRecDepth 100000
namespace Go.Ev
open Go.ChangeShapes Go.WideShapes Go.RowKit
variable {P : Program} {W : World}
/-- a byte that is given -/
theorem open_u8 {r : Reach} {b0 : Nat} {t : TypeId} {v : Value} (ht : P.underlying t = some (.int .u8)) (h : Value.okWide P W r b0 t v) : ∃ n : Nat, n ≤ 255 ∧ v = .int .u8 n := by
  obtain ⟨m, rfl⟩ := okWide_int ht h
  simp only [Value.okWide, ht, Cell.okWide, Cell.ok] at h
  have h1 : (0 : Int) ≤ m := h.2.1
  have h2 : m ≤ (255 : Int) := h.2.2
  obtain ⟨n, rfl⟩ := Int.eq_ofNat_of_zero_le h1
  exact ⟨n, by omega, rfl⟩
end Go.Ev
namespace Go.Proofs
open Go Go.Ev Go.ChangeShapes Go.WideShapes Go.RowKit
variable {HH : Type} {enc : TypeId × Value → HH} {W : World}
theorem opens_sn : Opens Tryd.prog enc W 84 2 fun _ row => ∃ r : Sn, row = r.enc := by
  refine (Opens.struct (P := Tryd.prog) (enc := enc) (W := W) (m := 2) Tryd.underlying84 (by kernel_rfl) (by exact OpF.cons _ _ _ 1 1 _ _ (by rfl) (by exact Opens.prim _ _ _ (k := .str) Tryd.underlying9 (by kernel_rfl)) (by exact OpF.cons _ _ _ 1 0 _ _ (by rfl) (by exact Opens.prim _ _ _ (k := .int .i64) Tryd.underlying3 (by kernel_rfl)) (by exact OpF.nil _)))).imp (fun H row L h => h) ?_
  rintro H _ ⟨_, _, rfl, ⟨_, rfl, h1⟩, _, _, rfl, ⟨_, rfl, h2⟩, rfl⟩
  obtain ⟨a, rfl⟩ := h1.str_of
  obtain ⟨b, rfl⟩ := h2.int_of
  exact ⟨⟨a, b⟩, rfl⟩
end Go.Proofs
/- Objects that a call changes: memories that aren't spelt out. -/


set_option linter.all false
set_option maxRecDepth 100000
namespace Go.Ev
variable {P : Program}
section
variable {N : Nat} {H0 H : Heap} {T : Tr AV} {Q : Ex → Tr AV → Heap → Prop}
theorem At2.sub {φ0 : Phi} {w0 u : World} {a : Act} {ts : List (K × AV)} (hts : ∀ p ∈ ts, T.get p.1 = some p.2) (h : At2 P φ0 H0 w0 N T H a u) : At2 P φ0 H0 w0 N (trOf ts) H a u := by
  obtain ⟨hd, ψ, ht, hw, he⟩ := h
  exact ⟨hd, ψ, ⟨ht.size, fun t v hv => ht.get t v (hts _ (get_trOf ts _ v hv))⟩, hw, he⟩
theorem Tri.sub {c : Code} {ts : List (K × AV)} (hts : ∀ p ∈ ts, T.get p.1 = some p.2) (h : Tri P N H0 c (trOf ts) H Q) : Tri P N H0 c T H Q :=
  fun φ0 w0 a u h0 ha => h φ0 w0 a u h0 (ha.sub hts)
theorem TriC.sub {c : CC} {ts : List (K × AV)} (hts : ∀ p ∈ ts, T.get p.1 = some p.2) (h : TriC P N H0 c (trOf ts) H Q) : TriC P N H0 c T H Q := fun code hc => (h code hc).sub hts
end
section
variable {E : FuncId → List AV → Heap → RC} {N : Nat} {H0 : Heap} {k : List It} {Q : Ex → Tr AV → Heap → Prop} {T : Tr AV} {G : Heap}
theorem WW.nil (h : WW P E N H0 k T (G.ext []) Q) : WW P E N H0 k T G Q := by rw [Heap.ext_nil] at h; exact h
/-- a round's end: another state, nearer the end; the memory is told of by what holds in it -/
def NextH {S : Type} (μ : S → Nat) (inv : S → Heap → Prop) (ts : S → List (K × AV)) (s : S) (T : Tr AV) (G : Heap) : Prop :=
  ∃ s', μ s' < μ s ∧ inv s' G ∧ ∀ p ∈ ts s', T.get p.1 = some p.2
theorem LL.sth {x : CC} (hE : Good P E) {S : Type} (μ : S → Nat) (inv : S → Heap → Prop) (ts : S → List (K × AV))
    (h : ∀ s G, inv s G → WW P E N H0 [.code x] (trOf (ts s)) (G.ext []) (behind (NextH μ inv ts s) (postW P E N H0 k Q))) (s0 : S) (hi : inv s0 G) (ht : ∀ p ∈ ts s0, T.get p.1 = some p.2) : LL P E N H0 x k T G Q := by
  refine TriC.loop (fun m T G => ∃ s, m = μ s ∧ inv s G ∧ ∀ p ∈ ts s, T.get p.1 = some p.2) ?_ (m := μ s0) ⟨s0, rfl, hi, ht⟩
  rintro m T G ⟨s, rfl, hs, hts⟩
  refine TriC.sub hts ?_
  refine (wpc_ok hE x _ _ _ (WW.nil (h s G hs))).mono ?_
  intro e T' G' q
  cases e with
  | norm => obtain ⟨s', h1, h2, h3⟩ := q; exact ⟨μ s', h1, s', rfl, h2, h3⟩
  | exit n => exact q
  | ret => exact q
end
/-- the slots that are told of -/
@[go_sem] def Slots (T : Tr AV) : List (K × AV) → Prop
  | [] => True
  | p :: ts => T.get p.1 = some p.2 ∧ Slots T ts
theorem Slots.all {T : Tr AV} : ∀ {ts : List (K × AV)}, Slots T ts → ∀ p ∈ ts, T.get p.1 = some p.2
  | [], _, p, h => by cases h
  | q :: ts, h, p, hp => by
    rcases List.mem_cons.1 hp with rfl | hp
    · exact h.1
    · exact Slots.all h.2 p hp
namespace Heap
attribute [go_sem] key_set nx_set'
@[go_sem] theorem get_key_of {B G : Heap} {l : List Blk} {i : Nat} (h : B.nx = G.nx) (hi : i < l.length) : (B.ext l).get (G.key i) = l[i]? := by
  have : G.key i = B.key i := by unfold key; rw [h]
  rw [this, get_ext_key _ _ _ hi]
@[go_sem] theorem setC_key_of {α : Type} {B G : Heap} {l : List Blk} {i : Nat} (h : B.nx = G.nx) (hi : i < l.length) (b : Blk) (c : Heap → α) : (B.ext l).setC (G.key i) b c = c (B.ext (l.set i b)) := by
  have : G.key i = B.key i := by unfold key; rw [h]
  rw [this, setC_ext _ _ _ _ _ hi]
@[go_sem] theorem get_key_set {G : Heap} {s : K} {b : Blk} {l : List Blk} {i : Nat} (hi : i < l.length) : ((G.set s b).ext l).get (G.key i) = l[i]? := get_key_of rfl hi
@[go_sem] theorem setC_key_set {α : Type} {G : Heap} {s : K} {b : Blk} {l : List Blk} {i : Nat} (hi : i < l.length) (d : Blk) (c : Heap → α) : ((G.set s b).ext l).setC (G.key i) d c = c ((G.set s b).ext (l.set i d)) := setC_key_of rfl hi d c
theorem ok_set {G : Heap} (h : G.ok) {k : K} {b c : Blk} (hk : G.get k = some c) : (G.set k b).ok := by
  intro j d hj
  rw [get_set] at hj
  split at hj
  · rename_i e; subst e; exact h k c hk
  · exact h j d hj
/-- a block that is set in a memory: what is got then -/
theorem get_set_here {G : Heap} (hok : G.ok) {k : K} {c : Blk} (hk : G.get k = some c) (b : Blk) (l : List Blk) : ((G.set k b).ext l).get k = some b := by
  rw [get_ext_lt (G.set k b) l k (show k.toNat < (G.set k b).nx.toNat from hok k c hk), get_set, if_pos rfl]
theorem get_set_there {G : Heap} (hok : G.ok) {k j : K} {d : Blk} (hj : G.get j = some d) (hne : k ≠ j) (b : Blk) (l : List Blk) : ((G.set k b).ext l).get j = some d := by
  rw [get_ext_lt (G.set k b) l j (show j.toNat < (G.set k b).nx.toNat from hok j d hj), get_set, if_neg hne, hj]
theorem setC_set_here {α : Type} {G : Heap} (hok : G.ok) {k : K} {x : Blk} (hk : G.get k = some x) (b d : Blk) (l : List Blk) (c : Heap → α) : ((G.set k b).ext l).setC k d c = c ((G.set k d).ext l) := by
  rw [setC_old (G.set k b) l k d c (show k.toNat < (G.set k b).nx.toNat from hok k x hk), set_set]
theorem setC_here {α : Type} {G : Heap} (hok : G.ok) {k : K} {x : Blk} (hk : G.get k = some x) (b : Blk) (l : List Blk) (c : Heap → α) : (G.ext l).setC k b c = c ((G.set k b).ext l) := setC_old _ l k b c (hok k x hk)
end Heap
theorem Arr.set {G : Heap} {k : K} {b : Blk} {wr : Bool} {e e' : Nat} {rows : List (List AV)} {v : AV} {xs : List (List AV)} (h : Arr G e v xs) (hk : G.get k = some (.row wr e' rows)) (he : e ≠ e') : Arr (G.set k b) e v xs := by
  rcases h with h | ⟨j, off, ex, cap, rfl, hj, h⟩
  · exact .inl h
  · refine .inr ⟨j, off, ex, cap, rfl, hj, fun hx => ?_⟩
    obtain ⟨r, wr', rows', h1, h2, h3⟩ := h hx
    refine ⟨r, wr', rows', h1, ?_, h3⟩
    rw [Heap.get_set, if_neg fun e => ?_]
    · exact h2
    · subst e; rw [hk] at h2; cases h2; exact he rfl
end Go.Ev
/- spans that meet, what was seen of a key: as the law has it: walked. -/

set_option linter.all false
set_option linter.all false
set_option maxRecDepth 100000
namespace Go.Proofs
open Go Go.Ev
variable {H : Heap}

noncomputable def maxS (a b : List Nat) : List Nat := if ltS a b then b else a
@[go_sem] theorem max_str {β : Type} (a b : List Nat) (f : β) (c : AV → β) : mm2 true (.str a) (.str b) f c = c (.str (maxS a b)) := by
  show bif' (bif' true (Bool.not (ltL a b)) (Bool.or (ltL a b) (eqL a b))) (c (.str a)) (c (.str b)) = _
  unfold maxS
  rw [bif_true, ltL_dec, bif_eq]
  by_cases h : ltS a b
  · rw [decide_eq_true h, if_pos h]; rfl
  · rw [decide_eq_false h, if_neg h]; rfl
noncomputable def lowS (a b : List Nat) : List Nat := if a = [] ∨ (¬ b = [] ∧ ltS b a) then b else a
theorem f39_ok (a b : List Nat) : FnOk Tryd.prog 39 [.str a, .str b] H fun r G => r = .str (lowS a b) ∧ G = H := by
  refine FnOk.drop (R := fun r => r = .str (lowS a b)) ?_ (by rintro v rfl ρ; rw [AV.ren])
  refine FnOk.of_WW Tryd.func39 rfl C39ok R39ok E0 good_E0 ?_
  simp only [go_sem, C39]
  unfold lowS
  exact ⟨fun h => ⟨by rw [if_pos (.inl h)], _, rfl⟩, fun h => ⟨fun h2 => ⟨fun h3 => ⟨by rw [if_pos (.inr ⟨h2, h3⟩)], _, rfl⟩, fun h3 => ⟨by rw [if_neg fun g => g.elim h fun g => h3 g.2], _, rfl⟩⟩, fun h2 => ⟨by rw [if_neg fun g => g.elim h fun g => h2 g.1], _, rfl⟩⟩⟩
noncomputable def F39 : FuncId → List AV → Option AV
  | 39, [.str a, .str b] => some (.str (lowS a b))
  | _, _ => none
theorem good_F39 : Ev.Good Tryd.prog (pureE F39) := by
  refine good_pureE fun f args v h H => ?_
  unfold F39 at h
  split at h
  · cases h; exact f39_ok _ _
  · cases h
theorem e39 (a b : List Nat) (H : Heap) : pureE F39 39 [.str a, .str b] H = .ok (.str (lowS a b)) H := rfl
/-- where two spans meet -/
def okMeet (f t f' t' : List Nat) : Prop := isSpan f t ∧ isSpan f' t' ∧ isSpan (maxS f f') (lowS t t')
noncomputable def meetV (f t f' t' : List Nat) : AV := open Classical in if okMeet f t f' t' then .tup [.agg [.str (maxS f f'), .str (lowS t t')], .bool true] else .tup [.agg [.str [], .str []], .bool false]
theorem f14_ok (f t f' t' : List Nat) : FnOk Tryd.prog 14 [.agg [.str f, .str t], .agg [.str f', .str t']] H fun r G => r = meetV f t f' t' ∧ G = H := by
  refine FnOk.drop (R := fun r => r = meetV f t f' t') ?_ (by rintro v rfl ρ; unfold meetV; split <;> simp only [AV.ren, AV.rens])
  refine FnOk.of_WW Tryd.func14 rfl C14ok R14ok (pureE F39) good_F39 ?_
  simp only [go_sem, C14, e39]
  have hbad : ¬ okMeet f t f' t' → ∀ L, AV.tup [.agg [.str [], .str []], .bool false] = meetV f t f' t' ∧ ∃ l, H.ext L = H.ext l := fun g L => ⟨by unfold meetV; rw [if_neg g], L, rfl⟩
  refine CL.bool (f40_ok f t) (fun g1 => ?_) (fun g1 => ?_)
  rotate_left
  · simp only [go_sem]
    exact hbad (fun h => g1 h.1) _
  simp only [go_sem]
  refine CL.bool (f40_ok f' t') (fun g2 => ?_) (fun g2 => ?_)
  rotate_left
  · simp only [go_sem]
    exact hbad (fun h => g2 h.2.1) _
  simp only [go_sem]
  refine CL.bool (f40_ok (maxS f f') (lowS t t')) (fun g3 => ?_) (fun g3 => ?_)
  rotate_left
  · simp only [go_sem]
    exact hbad (fun h => g3 h.2.2) _
  simp only [go_sem]
  exact ⟨by unfold meetV; rw [if_pos ⟨g1, g2, g3⟩], _, rfl⟩
end Go.Proofs
/- token: what has been seen, the plain law. -/

set_option linter.all false
set_option maxRecDepth 100000
namespace Go.Proofs
open Go Go.Ev
def okS (c : Sn) : Prop := isKey c.key ∧ 0 ≤ c.ver ∧ c.ver ≤ 1000000000000
def okT (l : List Sn) (j : Nat) : Prop := ∃ c, l[j]? = some c ∧ okS c ∧ (0 < j → ∃ d, l[j - 1]? = some d ∧ ltS d.key c.key)
def isTok (l : List Sn) : Prop := ∀ j, j < l.length → okT l j
noncomputable instance (l : List Sn) : Decidable (isTok l) := Classical.propDecidable _
abbrev up (l : List Sn) : Prop := l.Pairwise fun c d => ltS c.key d.key
theorem up_cons {c : Sn} {l : List Sn} : up (c :: l) ↔ (∀ d ∈ l, ltS c.key d.key) ∧ up l := List.pairwise_cons
theorem isTok_cons {c : Sn} {l : List Sn} : isTok (c :: l) ↔ okS c ∧ (∀ d, l[0]? = some d → ltS c.key d.key) ∧ isTok l := by
  constructor
  · intro h
    obtain ⟨c', h0, h1, _⟩ := h 0 (by simp)
    cases h0
    refine ⟨h1, fun d hd => ?_, fun j hj => ?_⟩
    · obtain ⟨e, g0, _, g2⟩ := h 1 (by have := (List.getElem?_eq_some_iff.1 hd).1; simp; omega)
      obtain ⟨c', g3, g4⟩ := g2 (by decide)
      rw [List.getElem?_cons_succ, hd] at g0; cases g0
      cases g3; exact g4
    · obtain ⟨e, g0, g1, g2⟩ := h (j + 1) (by simp; omega)
      rw [List.getElem?_cons_succ] at g0
      refine ⟨e, g0, g1, fun h0 => ?_⟩
      obtain ⟨c', g3, g4⟩ := g2 (by omega)
      rw [show j + 1 - 1 = (j - 1) + 1 by omega, List.getElem?_cons_succ] at g3
      exact ⟨c', g3, g4⟩
  · rintro ⟨h1, h2, h3⟩ j hj
    cases j with
    | zero => exact ⟨c, rfl, h1, fun h => absurd h (by decide)⟩
    | succ j =>
      obtain ⟨e, g0, g1, g2⟩ := h3 j (by simp at hj; omega)
      refine ⟨e, by rw [List.getElem?_cons_succ]; exact g0, g1, fun _ => ?_⟩
      cases j with
      | zero => exact ⟨c, rfl, h2 e g0⟩
      | succ j => obtain ⟨d, g3, g4⟩ := g2 (by omega); exact ⟨d, by simpa using g3, g4⟩
theorem tok_iff : ∀ {l : List Sn}, isTok l ↔ (∀ c ∈ l, okS c) ∧ up l
  | [] => ⟨fun _ => ⟨by simp, .nil⟩, fun _ j hj => by simp at hj⟩
  | c :: l => by
    rw [isTok_cons, tok_iff (l := l), up_cons]
    constructor
    · rintro ⟨h1, h2, h3, h4⟩
      refine ⟨by simpa using ⟨h1, h3⟩, fun d hd => ?_, h4⟩
      cases l with
      | nil => simp at hd
      | cons e l =>
        have he := h2 e rfl
        rcases List.mem_cons.1 hd with rfl | hd
        · exact he
        · exact ltS_trans he ((up_cons.1 h4).1 d hd)
    · rintro ⟨h1, h2, h4⟩
      exact ⟨h1 c (by simp), fun d hd => h2 d (List.mem_of_getElem? hd), fun d hd => h1 d (by simp [hd]), h4⟩
theorem up_rises {l : List Sn} (h : up l) : rises l := by
  intro p q c d hpq hc hd
  obtain ⟨hp, rfl⟩ := List.getElem?_eq_some_iff.1 hc
  obtain ⟨hq, rfl⟩ := List.getElem?_eq_some_iff.1 hd
  exact List.pairwise_iff_getElem.1 h p q hp hq hpq
theorem isTok.up {l : List Sn} (h : isTok l) : up l := (tok_iff.1 h).2
/-- one put in its place, f where its key is there -/
noncomputable def putG (f : Sn → Sn → Sn) : List Sn → Sn → List Sn
  | [], x => [x]
  | d :: l, x => if ltS d.key x.key then d :: putG f l x else if d.key = x.key then f d x :: l else x :: d :: l
theorem lowAt_tail {d : Sn} {l : List Sn} {k : List Nat} {i : Nat} (h : lowAt (d :: l) k (i + 1)) : ltS d.key k ∧ lowAt l k i :=
  ⟨h.2.1 0 d (by omega) rfl, by have := h.1; simp at this; omega, fun q c hq hc => h.2.1 (q + 1) c (by omega) (by simpa using hc), fun q c hq hc => h.2.2 (q + 1) c (by omega) (by simpa using hc)⟩
theorem putG_has {f : Sn → Sn → Sn} {x : Sn} : ∀ {l : List Sn} {i : Nat} {d : Sn}, lowAt l x.key i → l[i]? = some d → d.key = x.key → putG f l x = l.set i (f d x)
  | [], i, d, _, h, _ => by simp at h
  | e :: l, 0, d, h, hd, hk => by
    cases hd
    rw [putG, if_neg (by rw [hk]; exact ltS_irrefl _), if_pos hk]; rfl
  | e :: l, i + 1, d, h, hd, hk => by
    obtain ⟨h1, h2⟩ := lowAt_tail h
    rw [putG, if_pos h1, putG_has h2 (by simpa using hd) hk]; rfl
theorem putG_not {f : Sn → Sn → Sn} {x : Sn} : ∀ {l : List Sn} {i : Nat}, lowAt l x.key i → ¬ hasAt l x.key i → putG f l x = l.take i ++ x :: l.drop i
  | [], i, h, _ => by
    obtain rfl : i = 0 := by have := h.1; simp at this; exact this
    rfl
  | e :: l, 0, h, hk => by
    have h1 : ¬ ltS e.key x.key := h.2.2 0 e (Nat.le_refl _) rfl
    rw [putG, if_neg h1, if_neg (fun g => hk ⟨e, rfl, g⟩)]; rfl
  | e :: l, i + 1, h, hk => by
    obtain ⟨h1, h2⟩ := lowAt_tail h
    rw [putG, if_pos h1, putG_not h2 (fun ⟨c, hc, g⟩ => hk ⟨c, by simpa using hc, g⟩)]; rfl
theorem putG_len {f : Sn → Sn → Sn} {x : Sn} : ∀ {l : List Sn}, (putG f l x).length ≤ l.length + 1
  | [] => by simp [putG]
  | d :: l => by
    unfold putG
    split
    · have := putG_len (f := f) (x := x) (l := l)
      simp only [List.length_cons]; omega
    · split <;> simp
/-- what is there of a key -/
noncomputable def getS : List Sn → List Nat → Option Sn
  | [], _ => none
  | c :: l, k => if c.key = k then some c else getS l k
theorem getS_none : ∀ {l : List Sn} {k : List Nat}, (∀ c ∈ l, ¬ c.key = k) → getS l k = none
  | [], _, _ => rfl
  | d :: l, k, h => by rw [getS, if_neg (h d (by simp)), getS_none fun c hc => h c (by simp [hc])]
end Go.Proofs
/- token: whether they are any, a key's version, the same, few: walked. -/

set_option linter.all false
set_option maxRecDepth 100000
namespace Go.Proofs
open Go Go.Ev
variable {H : Heap}

theorem f60_ok {v : AV} {l : List Sn} (hA : Arr H 2 v (l.map Sn.enc)) (hl : l.length < 9223372036854775807) :
    FnOk Tryd.prog 60 [v] H fun r G => r = .bool (decide (isTok l)) ∧ G = H := by
  refine FnOk.assume fun hok => ?_
  refine FnOk.drop (R := fun r => r = .bool (decide (isTok l))) ?_ (by rintro v rfl ρ; rw [AV.ren])
  refine FnOk.of_WW Tryd.func60 rfl C60ok R60ok E0 good_E0 ?_
  have hlen := fun G => hA.len G; simp only [List.length_map] at hlen; have hren := hA.ren
  simp only [go_sem, C60, hlen]
  refine LL.st good_E0 (fun i : Nat => l.length - i) (fun i => i ≤ l.length ∧ ∀ j, j < i → okT l j)
    (fun i => [(.z, v), ((.o (.i .z)), v), ((.i (.i .z)), .int .i64 l.length), ((.o (.o (.o .z))), .int .i64 i)]) (fun i => []) ?_ 0 (σ := []) (Wk.of rfl (by decide) (by simp only [go_sem, hren]) (by simp only [go_sem])) ⟨Nat.zero_le _, fun j h => absurd h (Nat.not_lt_zero _)⟩
  rintro i ⟨hi, hno⟩
  by_cases hlt : i < l.length
  · obtain ⟨kk, r, ex', cap', wr, rows, hv, hrho, hgo, hrow⟩ := hA.at hok (j := i) (by rw [List.length_map]; exact hlt); simp only [List.length_map, List.getElem_map] at hv hrow; cases hv; have hget : l[i]? = some l[i] := List.getElem?_eq_getElem hlt; generalize l[i] = c at hrow hget; have hw := wrap_succ (n := i) (by omega); have hci : (i : Int) < (l.length : Int) := (by omega); have hsi : i + 1 ≤ l.length := (by omega)
    have hbad : ¬ okT l i → AV.bool false = .bool (decide (isTok l)) := fun h => bool_f fun g => h (g i hlt)
    simp only [go_sem, C60L0, hci, hsi, hgo, hrow, hw, Sn.enc]
    refine CL.bool (f81_ok c.key) (fun g1 => ?_) (fun g1 => ?_)
    · simp only [go_sem, hw]
      refine ⟨fun g2 => ⟨hbad ?_, _, rfl⟩, fun g2 => ⟨fun g3 => ⟨hbad ?_, _, rfl⟩, fun g3 => ?_⟩⟩
      · rintro ⟨c', h1, ⟨_, h2, _⟩, _⟩; rw [hget] at h1; cases h1; omega
      · rintro ⟨c', h1, ⟨_, _, h2⟩, _⟩; rw [hget] at h1; cases h1; omega
      · have hk : okS c := ⟨g1, by omega, by omega⟩
        rcases i with _ | i
        · simp only [go_sem, Int.ofNat_zero, Int.lt_irrefl]
          refine ⟨0 + 1, by show l.length - (0 + 1) < l.length - 0; omega, ⟨by omega, fun j hj => ?_⟩, _, [], rfl, Wk.of rfl (by decide) (by simp only [go_sem, hren, hrho, hw]) (by simp only [go_sem])⟩
          obtain rfl : j = 0 := by omega
          exact ⟨c, hget, hk, fun h => absurd h (by decide)⟩
        · have hpos : (0 : Int) < ((i + 1 : Nat) : Int) := by omega
          have hp : IntKind.i64.wrap (((i + 1 : Nat) : Int) - 1) = (i : Int) := by rw [wrap_i64 (by omega) (by omega)]; omega
          have hltj : i < l.length := by omega
          obtain ⟨kk2, r2, ex2, cap2, wr2, rows2, hv2, _, hgo2, hrow2⟩ := hA.at hok (j := i) (by rw [List.length_map]; exact hltj)
          simp only [List.length_map, List.getElem_map] at hv2 hrow2
          have hgetd : l[i]? = some l[i] := List.getElem?_eq_getElem hltj
          generalize l[i] = d at hrow2 hgetd
          injection hv2 with e1 e2 e3 e4 e5 e6
          have e2' : r2 = r := by omega
          subst e1 e2'
          have hrr := hgo2 []
          rw [hgo []] at hrr
          cases hrr
          have hsj : i + 1 ≤ l.length := by omega
          have hi0 : (0 : Int) ≤ (i : Int) := by omega
          simp only [go_sem, hpos, hp, hi0, hsj, hgo, hrow2, Sn.enc]
          refine ⟨fun g4 => ⟨hbad ?_, _, rfl⟩, fun g4 => ?_⟩
          · rintro ⟨c', h1, _, h2⟩
            obtain ⟨d', h3, h4⟩ := h2 (by omega)
            rw [hget] at h1; cases h1
            rw [Nat.add_sub_cancel, hgetd] at h3; cases h3
            exact g4 h4
          · refine ⟨i + 1 + 1, by show l.length - (i + 1 + 1) < l.length - (i + 1); omega, ⟨by omega, fun j hj => ?_⟩, _, [], rfl, Wk.of rfl (by decide) (by simp only [go_sem, hren, hrho, hw]) (by simp only [go_sem])⟩
            rcases Nat.lt_or_ge j (i + 1) with h | h
            · exact hno j h
            · obtain rfl : j = i + 1 := by omega
              exact ⟨c, hget, hk, fun _ => ⟨d, by rw [Nat.add_sub_cancel]; exact hgetd, Classical.not_not.1 g4⟩⟩
    · simp only [go_sem]
      refine ⟨hbad ?_, _, rfl⟩
      rintro ⟨c', h1, ⟨h2, _⟩, _⟩; rw [hget] at h1; cases h1; exact g1 h2
  · have hci : ¬ (i : Int) < (l.length : Int) := by omega
    simp only [go_sem, C60L0, hci]
    exact ⟨bool_t fun j hj => hno j (by omega), _, rfl⟩
noncomputable def ofT (l : List Sn) (k : List Nat) : Int := match getS l k with | some c => c.ver | none => 0
theorem getS_first : ∀ {l : List Sn} {i : Nat} {c : Sn}, l[i]? = some c → (∀ j d, j < i → l[j]? = some d → ¬ d.key = c.key) → getS l c.key = some c
  | [], i, c, h, _ => by simp at h
  | d :: l, 0, c, h, _ => by cases h; rw [getS, if_pos rfl]
  | d :: l, i + 1, c, h, hn => by rw [getS, if_neg (hn 0 d (by omega) rfl), getS_first (i := i) (by simpa using h) fun j e hj he => hn (j + 1) e (by omega) (by simpa using he)]
theorem f66_ok {v : AV} {l : List Sn} (hA : Arr H 2 v (l.map Sn.enc)) (hl : l.length < 9223372036854775807) (k : List Nat) :
    FnOk Tryd.prog 66 [v, .str k] H fun r G => r = .int .i64 (ofT l k) ∧ G = H := by
  refine FnOk.assume fun hok => ?_
  refine FnOk.drop (R := fun r => r = .int .i64 (ofT l k)) ?_ (by rintro v rfl ρ; rw [AV.ren])
  refine FnOk.of_WW Tryd.func66 rfl C66ok R66ok E0 good_E0 ?_
  have hlen := fun G => hA.len G; simp only [List.length_map] at hlen; have hren := hA.ren
  simp only [go_sem, C66, hlen]
  refine LL.st good_E0 (fun i : Nat => l.length - i) (fun i => i ≤ l.length ∧ ∀ j d, j < i → l[j]? = some d → ¬ d.key = k)
    (fun i => [((.o .z), .str k), ((.o (.o (.o .z))), v), ((.i (.o (.o .z))), .int .i64 l.length), ((.o (.i (.o .z))), .int .i64 i)]) (fun i => []) ?_ 0 (σ := []) (Wk.of rfl (by decide) (by simp only [go_sem, hren]) (by simp only [go_sem])) ⟨Nat.zero_le _, fun j d h => absurd h (Nat.not_lt_zero _)⟩
  rintro i ⟨hi, hno⟩
  by_cases hlt : i < l.length
  · obtain ⟨kk, r, ex', cap', wr, rows, hv, hrho, hgo, hrow⟩ := hA.at hok (j := i) (by rw [List.length_map]; exact hlt); simp only [List.length_map, List.getElem_map] at hv hrow; cases hv; have hget : l[i]? = some l[i] := List.getElem?_eq_getElem hlt; generalize l[i] = c at hrow hget; have hw := wrap_succ (n := i) (by omega); have hci : (i : Int) < (l.length : Int) := (by omega); have hsi : i + 1 ≤ l.length := (by omega)
    simp only [go_sem, C66L0, hci, hsi, hgo, hrow, hw, Sn.enc]
    refine ⟨fun g => ⟨?_, _, rfl⟩, fun g => ?_⟩
    · subst g
      rw [ofT, getS_first hget hno]
    · refine ⟨i + 1, by show l.length - (i + 1) < l.length - i; omega, ?_, _, [], rfl, Wk.of rfl (by decide) (by simp only [go_sem, hren, hrho, hw]) (by simp only [go_sem])⟩
      refine ⟨by omega, fun j d hj hd => ?_⟩
      rcases Nat.lt_or_ge j i with h | h
      · exact hno j d h hd
      · obtain rfl : j = i := by omega
        rw [hget] at hd; cases hd; exact g
  · have hci : ¬ (i : Int) < (l.length : Int) := by omega
    simp only [go_sem, C66L0, hci]
    refine ⟨?_, _, rfl⟩
    rw [ofT, getS_none fun c hc => ?_]
    obtain ⟨j, hj⟩ := List.mem_iff_getElem?.1 hc
    exact hno j c (by have := (List.getElem?_eq_some_iff.1 hj).1; omega) hj
noncomputable instance : DecidableEq Sn := fun _ _ => Classical.propDecidable _
theorem Sn.enc_inj {c d : Sn} (h : c.key = d.key ∧ c.ver = d.ver) : c = d := by cases c; cases d; simp_all
theorem f15_ok {v w : AV} {l m : List Sn} (hA : Arr H 2 v (l.map Sn.enc)) (hB : Arr H 2 w (m.map Sn.enc)) (hl : l.length < 9223372036854775807) :
    FnOk Tryd.prog 15 [v, w] H fun r G => r = .bool (decide (l = m)) ∧ G = H := by
  refine FnOk.assume fun hok => ?_
  refine FnOk.drop (R := fun r => r = .bool (decide (l = m))) ?_ (by rintro v rfl ρ; rw [AV.ren])
  refine FnOk.of_WW Tryd.func15 rfl C15ok R15ok E0 good_E0 ?_
  have hlen := fun G => hA.len G; simp only [List.length_map] at hlen; have hren := hA.ren
  have hlen2 := fun G => hB.len G
  simp only [List.length_map] at hlen2
  have hren2 := hB.ren
  simp only [go_sem, C15, hlen, hlen2]
  refine ⟨fun h => ⟨bool_f fun e : l = m => h (by rw [e]), _, rfl⟩, fun h => ?_⟩
  have hlm : l.length = m.length := by have := Classical.not_not.1 h; omega
  refine LL.st good_E0 (fun i : Nat => l.length - i) (fun i => i ≤ l.length ∧ ∀ j, j < i → l[j]? = m[j]?)
    (fun i => [(.z, v), ((.o .z), w), ((.o (.i .z)), .int .i64 i)]) (fun i => []) ?_ 0 (σ := []) (Wk.of rfl (by decide) (by simp only [go_sem, hren, hren2]) (by simp only [go_sem])) ⟨Nat.zero_le _, fun j h => absurd h (Nat.not_lt_zero _)⟩
  rintro i ⟨hi, hno⟩
  by_cases hlt : i < l.length
  · obtain ⟨kk2, r2, ex2, cap2, wr2, rows2, hv2, hrho2, hgo2, hrow2⟩ := hB.at hok (j := i) (by rw [List.length_map]; omega)
    simp only [List.length_map, List.getElem_map] at hv2 hrow2
    have hget2 : m[i]? = some (m[i]'(by omega)) := List.getElem?_eq_getElem (by omega)
    generalize m[i]'(by omega) = d at hrow2 hget2
    obtain ⟨kk, r, ex', cap', wr, rows, hv, hrho, hgo, hrow⟩ := hA.at hok (j := i) (by rw [List.length_map]; exact hlt); simp only [List.length_map, List.getElem_map] at hv hrow; cases hv; have hget : l[i]? = some l[i] := List.getElem?_eq_getElem hlt; generalize l[i] = c at hrow hget; have hw := wrap_succ (n := i) (by omega); have hci : (i : Int) < (l.length : Int) := (by omega); have hsi : i + 1 ≤ l.length := (by omega)
    subst hv2
    have hsi2 : i + 1 ≤ m.length := by omega
    simp only [go_sem, C15L0, hlen, hlen2, hci, hsi, hsi2, hgo, hgo2, hrow, hrow2, hw, Sn.enc]
    have hbad : ¬ c = d → AV.bool false = .bool (decide (l = m)) := fun h => bool_f fun e => h (by rw [e, hget2] at hget; exact (Option.some.inj hget).symm)
    refine ⟨fun g1 => ⟨fun g2 => ?_, fun g2 => ⟨hbad fun e => g2 (by rw [e]), _, rfl⟩⟩, fun g1 => ⟨hbad fun e => g1 (by rw [e]), _, rfl⟩⟩
    refine ⟨i + 1, by show l.length - (i + 1) < l.length - i; omega, ⟨by omega, fun j hj => ?_⟩, _, [], rfl, Wk.of rfl (by decide) (by simp only [go_sem, hrho, hrho2]) (by simp only [go_sem])⟩
    rcases Nat.lt_or_ge j i with h | h
    · exact hno j h
    · obtain rfl : j = i := by omega
      rw [hget, hget2, Sn.enc_inj ⟨g1, g2⟩]
  · have hci : ¬ (i : Int) < (l.length : Int) := by omega
    simp only [go_sem, C15L0, hci, hlen]
    refine ⟨bool_t (List.ext_getElem? fun j => ?_), _, rfl⟩
    rcases Nat.lt_or_ge j l.length with h | h
    · exact hno j (by omega)
    · rw [List.getElem?_eq_none h, List.getElem?_eq_none (by omega)]
def fewT (l : List Sn) : Prop := (∀ c ∈ l, (c.key.length : Int) ≤ 20) ∧ (l.length : Int) ≤ 30
instance (l : List Sn) : Decidable (fewT l) := inferInstanceAs (Decidable (_ ∧ _))
end Go.Proofs
/- what comes behind what was seen: as the law has it: walked. -/


set_option linter.all false
set_option linter.all false
set_option maxRecDepth 100000
namespace Go.Proofs
open Go Go.Ev
variable {H : Heap}

theorem Sn.enc_one {a b : Sn} (h : a.enc = b.enc) : a = b := by
  cases a; cases b; simp [Sn.enc] at h; simp [h]
theorem sns_uniq {v : AV} {xs ys : List Sn} (h : Arr H 2 v (xs.map Sn.enc)) (h2 : Arr H 2 v (ys.map Sn.enc)) : xs = ys :=
  List.map_inj_right (fun _ _ => Sn.enc_one) |>.1 (Arr.uniq h h2 (by decide))
def A80 (H : Heap) (args : List AV) (q : List Sn × List Nat) : Prop := ∃ v, args = [v, .str q.2] ∧ Arr H 2 v (q.1.map Sn.enc) ∧ q.1.length < 9223372036854775807
noncomputable def EA (f : FuncId) (args : List AV) (H : Heap) : RC :=
  match f with
  | 80 => ot (A80 H args) fun q => .ok (.int .i64 (ofT q.1 q.2)) H
  | f => pureE F46 f args H
theorem e27 (f t k : List Nat) (H : Heap) : EA 27 [.agg [.str f, .str t], .str k] H = .ok (.bool (decide (has f t k))) H := rfl
def tellE (f t : List Nat) (seen : List Sn) (e : Evn) : Prop := has f t e.key ∧ ofT seen e.key < e.ver
noncomputable instance (f t seen e) : Decidable (tellE f t seen e) := Classical.propDecidable _
end Go.Proofs
/- token: one more, those in a span, the best of two: walked. -/

set_option linter.all false
set_option maxRecDepth 100000
namespace Go.Proofs
open Go Go.Ev
variable {H : Heap}

theorem clo60 : CloFn Tryd.prog 33 2 24 [.str [], .int .i64 0] := ⟨⟨Tryd.f33, Tryd.func33, by kernel_rfl, by kernel_rfl⟩, rfl, by decide⟩
theorem ins62 : InsFn Tryd.prog 84 2 24 [.str [], .int .i64 0] := ⟨⟨Tryd.f84, 98, 99, Tryd.func84, by kernel_rfl, by kernel_rfl, by kernel_rfl, by kernel_rfl⟩, rfl, by decide⟩
noncomputable def putT (l : List Sn) (x : Sn) : List Sn := putG (fun _ x => x) l x
noncomputable def withT (l : List Sn) (x : Sn) : List Sn := if isTok l then putT l x else []
theorem hasAt_get {l : List Sn} {k : List Nat} {i : Nat} (h : hasAt l k i) : ∃ d, l[i]? = some d ∧ d.key = k ∧ i < l.length := by
  obtain ⟨d, h1, h2⟩ := h
  exact ⟨d, h1, h2, (List.getElem?_eq_some_iff.1 h1).1⟩
theorem f67_ok {v : AV} {l : List Sn} (hA : Arr H 2 v (l.map Sn.enc)) (hl : l.length < 4294967295) (x : Sn) :
    FnOk Tryd.prog 67 [v, .agg x.enc] H fun r G => r = outV H.nx 2 (withT l x).length ∧ G = H.ext [outB 2 ((withT l x).map Sn.enc)] := by
  refine FnOk.assume fun hok => ?_
  refine FnOk.dropO (List.length_map ..) (Sn.map_rens · _) ?_
  refine FnOk.of_WW Tryd.func67 rfl C67ok R67ok E0 good_E0 ?_
  have hlen := fun G => hA.len G; simp only [List.length_map] at hlen; have hren := hA.ren
  have hB : ∀ L, Arr (H.ext L) 2 v (l.map Sn.enc) := hA.ext
  simp only [go_sem, C67, Sn.enc, hlen]
  refine CL.bool (f60_ok (hB _) (by omega)) (fun ht => ?_) (fun ht => ?_)
  · simp only [go_sem]
    refine CL.of (clone_z clo60 (hB _) (by rw [List.length_map]; omega) (Sn.map_rens · _)) ?_
    rintro _ _ ⟨z, rfl, rfl⟩
    simp only [go_sem, List.length_map]
    have harr : Arr (H.ext [Blk.row true 2 [[AV.str x.key, AV.int IntKind.i64 x.ver]], zB z 2 (List.map Sn.enc l)]) 2 (zV z (H.key 1) 2 l.length) (l.map Sn.enc) := by
      have := zB_arr (H := H) (L := [Blk.row true 2 [[AV.str x.key, AV.int IntKind.i64 x.ver]], zB z 2 (List.map Sn.enc l)]) (i := 1) rfl
      rwa [List.length_map] at this
    refine CL.of (f83_ok harr (up_rises ht.up) (by omega) x.key) ?_
    rintro _ _ ⟨⟨i, hlow, rfl⟩, rfl⟩
    simp only [go_sem]
    refine ⟨fun hat => ?_, fun hat => ?_⟩
    · obtain ⟨d, hd, hk, hil⟩ := hasAt_get hat
      have hput : withT l x = l.set i x := by rw [withT, if_pos ht, putT, putG_has hlow hd hk]
      have hpos : 0 < l.length := by omega
      have hzB := zB_pos (z := z) (esz := 2) (xs := l.map Sn.enc) (by rw [List.length_map]; exact hpos)
      have hsi : i + 1 ≤ l.length := by omega
      simp only [go_sem, zV_pos hpos, hzB, hsi, hd, List.getElem?_map, Option.map_some]
      rw [hput]
      exact ⟨_, 1, by rw [List.length_set, outV_pos hpos], rfl, fun _ => by rw [outB_pos (by rw [List.length_map, List.length_set]; exact hpos), List.map_set]; rfl⟩
    · have hput : withT l x = l.take i ++ x :: l.drop i := by rw [withT, if_pos ht, putT, putG_not hlow hat]
      refine CL.of (insert_z ins62 (i := 1) (j := 2) (xs := l.map Sn.enc) (x := [.str x.key, .int .i64 x.ver]) (by decide) rfl rfl (List.length_map ..) hlow.1 (by omega) (by omega)) ?_
      rintro _ _ ⟨b, rfl, rfl⟩
      simp only [go_sem]
      rw [hput]
      have hle := hlow.1
      refine ⟨_, 3, ?_, rfl, fun _ => ?_⟩
      · simp only [List.length_map, List.map_append, List.map_cons, List.map_take, List.map_drop, List.map_set, List.length_append, List.length_cons, List.length_take, List.length_drop]
        rw [show min i l.length + (l.length - i + 1) = l.length + 1 by omega]; rfl
      · simp only [List.length_map, List.map_append, List.map_cons, List.map_take, List.map_drop, List.map_set]; rfl
  · simp only [go_sem]
    have hput : withT l x = [] := by rw [withT, if_neg ht]
    rw [hput]
    exact ⟨_, 0, rfl, rfl, fun h => h.elim⟩
noncomputable def inT (f t : List Nat) (l : List Sn) : List Sn := l.filter fun c => decide (has f t c.key)
theorem inT_succ {f t : List Nat} {l : List Sn} {i : Nat} {c : Sn} (h : l[i]? = some c) : inT f t (l.take (i + 1)) = inT f t (l.take i) ++ if has f t c.key then [c] else [] := by
  unfold inT
  obtain ⟨hl, rfl⟩ := List.getElem?_eq_some_iff.1 h
  rw [List.take_succ_eq_append_getElem hl, List.filter_append]
  congr 1
  by_cases g : has f t l[i].key
  · rw [if_pos g, List.filter_cons_of_pos (by exact decide_eq_true g)]; rfl
  · rw [if_neg g, List.filter_cons_of_neg (by simpa using g)]; rfl
theorem inT_len (f t : List Nat) (l : List Sn) (i : Nat) : (inT f t (l.take i)).length ≤ i := Nat.le_trans (List.length_filter_le _ _) (by rw [List.length_take]; omega)
theorem f38_ok {v : AV} {l : List Sn} (hA : Arr H 2 v (l.map Sn.enc)) (hl : l.length < 100000000) (f t : List Nat) :
    FnOk Tryd.prog 38 [v, .agg [.str f, .str t]] H fun r G => r = outV H.nx 2 (inT f t l).length ∧ G = H.ext [outB 2 ((inT f t l).map Sn.enc)] := by
  refine FnOk.assume fun hok => ?_
  refine FnOk.dropO (List.length_map ..) (Sn.map_rens · _) ?_
  refine FnOk.of_WW Tryd.func38 rfl C38ok R38ok E0 good_E0 ?_
  have hlen := fun G => hA.len G; simp only [List.length_map] at hlen; have hren := hA.ren
  simp only [go_sem, C38, hlen]
  refine LL.st good_E0 (fun i : Nat => l.length - i) (fun i => i ≤ l.length)
    (fun i => [((.o (.o .z)), .ptr (H.key 0) 0), ((.o (.i .z)), outV (H.key 1) 2 (inT f t (l.take i)).length), ((.i (.o (.o .z))), v), ((.o (.i (.o .z))), .int .i64 l.length), ((.i (.i (.o .z))), .int .i64 i)])
    (fun i => [.row true 2 [[.str f, .str t]], outB 2 ((inT f t (l.take i)).map Sn.enc)]) ?_ 0 (σ := [0, 1]) (Wk.of rfl (by decide) (by simp only [go_sem, hren, outV_ren', inT, List.filter_nil]) (by simp only [go_sem, inT, List.filter_nil, ↓outB_ren', ↓zB_ren, Sn.map_rens, Sn.rens, implies_true])) (Nat.zero_le _)
  rintro i hi
  have hil := inT_len f t l i
  by_cases hlt : i < l.length
  · obtain ⟨kk, r, ex', cap', wr, rows, hv, hrho, hgo, hrow⟩ := hA.at hok (j := i) (by rw [List.length_map]; exact hlt); simp only [List.length_map, List.getElem_map] at hv hrow; cases hv; have hget : l[i]? = some l[i] := List.getElem?_eq_getElem hlt; generalize l[i] = c at hrow hget; have hw := wrap_succ (n := i) (by omega); have hci : (i : Int) < (l.length : Int) := (by omega); have hsi : i + 1 ≤ l.length := (by omega)
    simp only [go_sem, ↓appR_hide, C38L0, hci, hsi, hgo, hrow, hw, Sn.enc]
    refine CL.bool (f65_ok f t c.key) (fun g => ?_) (fun g => ?_)
    · have hnew := inT_succ (f := f) (t := t) hget
      rw [if_pos g] at hnew
      simp only [go_sem, ↓appR_hide, hw]
      refine RW_app _ [.str c.key, .int .i64 c.ver] rfl (List.length_map ..) rfl (okBig_le (by omega) (by decide)) ?_
      simp only [go_sem, hw]
      refine ⟨i + 1, by show l.length - (i + 1) < l.length - i; omega, ?_, _, [0, 4], rfl, Wk.of rfl (by decide) (by simp only [go_sem, outV_ren', hrho, hnew, List.length_map]) (by simp only [go_sem, ↓outB_ren', ↓zB_ren, Sn.map_rens, Sn.rens, implies_true, hnew, Sn.enc, List.length_map, List.map_take, List.map_drop, List.map_set, AV.rens])⟩
      show i + 1 ≤ l.length
      omega
    · have hnew := inT_succ (f := f) (t := t) hget
      rw [if_neg g, List.append_nil] at hnew
      simp only [go_sem, ↓appR_hide, hw]
      refine ⟨i + 1, by show l.length - (i + 1) < l.length - i; omega, ?_, _, [0, 1], rfl, Wk.of rfl (by decide) (by simp only [go_sem, outV_ren', hrho, hnew, List.length_map]) (by simp only [go_sem, ↓outB_ren', ↓zB_ren, Sn.map_rens, Sn.rens, implies_true, hnew, Sn.enc, List.length_map, List.map_take, List.map_drop, List.map_set])⟩
      show i + 1 ≤ l.length
      omega
  · have hci : ¬ (i : Int) < (l.length : Int) := by omega
    simp only [go_sem, C38L0, hci]
    rw [List.take_of_length_le (by omega)]
    exact ⟨_, 1, rfl, rfl, fun _ => rfl⟩
end Go.Proofs
