/- The told package variable: what a law's condition gives; a world that meets it. -/
import Derived.Test.YtilfojgiinaklaaGreatDoorZ20
import Derived.JoinedOf
import Derived.Test.YtilfojgiinaklaaGreatDoorProg
import Derived.KernelRfl
set_option linter.all false
set_option maxRecDepth 100000
namespace Go.Proofs.YtilfojgiinaklaaGreatDoor
open Go Go.Ev Go.ChangeShapes Go.WideShapes Go.ChangeAt Go.RowKit
theorem Tryz.own : ownKnob Tryz.prog.godebug = none := by kernel_rfl
theorem Tryz.laidOut : laidOutB Tryz.prog = true := by kernel_rfl
theorem Tryz.et : Tryz.prog.globalNamed "errors.errorType" = some 0 := by kernel_rfl
theorem Tryz.rt : (Tryz.prog.cutTypes.find? (·.1 == "internal/reflectlite.rtype")).map (·.2) = some 193 := by kernel_rfl
theorem Tryz.size : Tryz.prog.types.size = 315 := by kernel_rfl
theorem Tryz.oneRow : ((List.range 315).filter fun t => Tryz.prog.rowNamed t [101, 114, 114, 111, 114]) = [35] := by kernel_rfl
/-- what is told -/
def laid0 : List (String × DataW Unit) := [("errors.errorType", Rows.laid_errors_errorType)]
/-- the variable's one cell -/
theorem handle_of_laid {W : World} (h : laidMetH Tryz.prog laid0 W) : W.cell? ⟨0, 0, none⟩ = some (.iface 193 (.agg #[.pointer (some ⟨1, 35, none⟩)])) := by
  have h' : laidMet Tryz.prog [] W ∧ handlesMet Tryz.prog laid0 W := h
  obtain ⟨name, u, ty, e1, e2, e3, e4, e5⟩ := h'.2 _ (List.mem_singleton.2 rfl)
  have en : name = [101, 114, 114, 111, 114] := (Option.some.inj e1).symm
  subst en
  obtain rfl := Option.some.inj (Tryz.rt.symm.trans e2)
  have hm : ty ∈ (List.range 315).filter fun t => Tryz.prog.rowNamed t [101, 114, 114, 111, 114] := List.mem_filter.2 ⟨List.mem_range.2 (by rw [← Tryz.size]; exact e3), e4⟩
  rw [Tryz.oneRow] at hm
  obtain rfl := List.mem_singleton.1 hm
  have hh : typeHandle Tryz.prog 35 = .pointer (some ⟨1, 35, none⟩) := by kernel_rfl
  rw [hh] at e5
  simpa using World.var?_cell Tryz.et e5 0
theorem rom_of_laid {W : World} (h : laidMetH Tryz.prog laid0 W) : ∀ g v, (g, v) ∈ romOf → W.cell? ⟨g, 0, none⟩ = some v := by
  intro g v hm
  have hm : (g, v) ∈ [(0, Value.iface 193 (.agg #[.pointer (some ⟨1, 35, none⟩)]))] := hm
  cases List.mem_singleton.1 hm
  exact handle_of_laid h
/-- a world that meets it -/
noncomputable def laidWorld (os : Os) : World :=
  let w0 := World.holding Tryz.prog os ⟨#[], #[], []⟩
  { w0 with heap := w0.heap.modify 0 fun
      | .cells _ t frozen => .cells #[.iface 193 (.agg #[.pointer (some ⟨1, 35, none⟩)])] t frozen
      | o => o }
theorem laidWorld_met (os : Os) (args : Array Value) : laidMetH Tryz.prog laid0 ((laidWorld os).forCall (fun _ _ => 0) ⟨#[], args, []⟩).memory :=
  laidMetH_of_parts (laidMet_nil _ _) (by kernel_rfl)
end Go.Proofs.YtilfojgiinaklaaGreatDoor
/- Numbers that are given, opened. -/

set_option linter.all false
set_option maxRecDepth 100000
namespace Go.Ev
open Go.ChangeShapes Go.WideShapes Go.RowKit
variable {P : Program} {W : World}
/-- a byte that is given -/
theorem open_u8 {r : Reach} {b0 : Nat} {t : TypeId} {v : Value} (ht : P.underlying t = some (.int .u8)) (h : Value.okWide P W r b0 t v) : ∃ n : Nat, n ≤ 255 ∧ v = .int .u8 n := by
  obtain ⟨m, rfl⟩ := okWide_int ht h
  simp only [Value.okWide, ht, Cell.okWide, Cell.ok] at h
  have h1 : (0 : Int) ≤ m := h.2.1
  have h2 : m ≤ (255 : Int) := h.2.2
  obtain ⟨n, rfl⟩ := Int.eq_ofNat_of_zero_le h1
  exact ⟨n, by omega, rfl⟩
end Go.Ev
/- once: one more in its session's place as the law has it: walked. -/

set_option linter.all false
set_option linter.all false
set_option maxRecDepth 100000
namespace Go.Proofs
open Go Go.Ev
variable {H : Heap}

def keepsD (l : List Dn) (d : Dn) : Prop := ∃ x, findD l d.ses = some x ∧ d.id < x.id
end Go.Proofs
/- once: as the law has it, how a request stands, both joined: walked. -/

set_option linter.all false
set_option linter.all false
set_option maxRecDepth 100000
namespace Go.Proofs
open Go Go.Ev
variable {H : Heap}

def freshD (a : List Dn) (c : Dn) : Prop := ∀ x, findD a c.ses = some x → x.id < c.id
noncomputable instance (a : List Dn) (c : Dn) : Decidable (freshD a c) := Classical.propDecidable _
end Go.Proofs
/- the document's shards: small things: walked. -/


set_option linter.all false
set_option linter.all false
set_option maxRecDepth 100000
namespace Go.Proofs
open Go Go.Ev
variable {H : Heap}

/-- two shards that say the same -/
def sameSh (a b : Sh) : Prop := a.id = b.id ∧ a.ep = b.ep ∧ a.fr = b.fr ∧ a.to = b.to ∧ a.frz = b.frz ∧ a.cells = b.cells ∧ a.evs = b.evs ∧ a.done = b.done
end Go.Proofs
/- the document's parts of a shard: walked. -/

set_option linter.all false
set_option linter.all false
set_option maxRecDepth 100000
namespace Go.Proofs
open Go Go.Ev
variable {H : Heap}

theorem appQ_out {L : List Blk} {i j n esz bytes : Nat} {xs : List (List AV)} {y : List AV} {wr ex : Bool} {cap : Nat} (hi : L[i]? = some (outB esz xs)) (hn : xs.length = n) (hj : L[j]? = some (.row wr esz [y])) (hb : okBig (n + 1) bytes = true) :
    appQ esz bytes (some (outV (H.key i) esz n)) (some (.slice (H.key j) 0 1 esz ex cap)) (H.ext L) = .val (outV (H.key L.length) esz (n + 1)) (H.ext (L.set i .dead ++ [outB esz (xs ++ [y])])) := by
  show appR esz bytes (.c _) (.c _) .lf (H.ext L) = _
  exact appR_out rfl rfl hi hn hj hb
end Go.Proofs
/- the document's Split: walked. -/

set_option linter.all false
set_option linter.all false
set_option maxRecDepth 100000
namespace Go.Proofs
open Go Go.Ev
variable {H : Heap}

/-- what both parts of a cut say -/
noncomputable def saidPart (s : Sh) (id : Int) (f t : List Nat) : Sh := ⟨id, 1, f, t, false, withinL f t s.cells, evW f t s.evs, s.done, .nils, .nils, .nils⟩
end Go.Proofs
/- the document's Keep: the plain law, the walk. -/

set_option linter.all false
set_option linter.all false
set_option maxRecDepth 100000
namespace Go.Proofs
open Go Go.Ev
variable {H : Heap}

theorem runR_le {c e : Evn} {d : Cell} : ∀ {l : List Evn} {v w : Int}, runR d l v = some w → e ∈ l → e.key = d.key → e.ver ≤ w
  | [], _, _, _, h, _ => absurd h List.not_mem_nil
  | x :: l, v, w, h, he, hk => by
    rw [runR] at h
    rcases List.mem_cons.1 he with rfl | he
    · rw [if_pos hk] at h
      split at h
      · rename_i h2; have := runR_ge h; omega
      · cases h
    · split at h
      · split at h
        · exact runR_le (c := c) h he hk
        · cases h
      · exact runR_le (c := c) h he hk
theorem hist_ver {l : List Evn} {cs : List Cell} (h : isHist l cs) {e : Evn} {c : Cell} (he : e ∈ l) (hc : c ∈ cs) (hk : c.key = e.key) : e.ver ≤ c.ver := runR_le (c := e) (ofH_iff.1 (h.2.2 c hc)) he hk.symm
theorem flo_key (e : Evn) (c : Cell) : (flo e c).key = c.key := by unfold flo; split <;> rfl
theorem flo_ver (e : Evn) (c : Cell) : (flo e c).ver = c.ver := by unfold flo; split <;> rfl
theorem flo_is {e : Evn} {c : Cell} (h : cellIs c) (hv : c.key = e.key → e.ver ≤ c.ver) : cellIs (flo e c) := by
  unfold flo
  split
  · rename_i hk
    have := hv hk
    exact ⟨h.1, by show (0 : Int) ≤ max c.floor e.ver; have := h.2.1; omega, by show max c.floor e.ver ≤ c.ver; have := h.2.2; omega⟩
  · exact h
theorem getL_mem {k : List Nat} {c : Cell} : ∀ {l : List Cell}, getL l k = (c, true) → c ∈ l ∧ c.key = k
  | [], h => by cases h
  | d :: l, h => by
    unfold getL at h
    split at h
    · rename_i hk; cases h; exact ⟨by simp, hk⟩
    · exact ⟨by simp [(getL_mem h).1], (getL_mem h).2⟩
theorem withL_flo {e : Evn} {c : Cell} : ∀ {l : List Cell}, Ord l → getL l e.key = (c, true) → withL l (flo e c) = l.map (flo e)
  | [], _, h => by cases h
  | d :: l, ho, h => by
    obtain ⟨h1, h2⟩ := List.pairwise_cons.1 ho
    unfold getL at h
    split at h
    · rename_i hk
      cases h
      have hid : l.map (flo e) = l := by
        conv => rhs; rw [← List.map_id l]
        refine List.map_congr_left fun x hx => flo_no fun hk2 => ?_
        have := h1 x hx
        rw [hk, hk2] at this
        exact ltS_irrefl _ this
      unfold withL
      rw [flo_key, if_neg (ltS_irrefl _), if_pos rfl, List.map_cons, hid]
    · rename_i hk
      obtain ⟨hm, hck⟩ := getL_mem h
      unfold withL
      rw [flo_key, if_pos (h1 c hm), List.map_cons, flo_no hk, withL_flo h2 h]
/-- what goes on while the events are let go: the cells stay an index, of the same keys and versions -/
structure Kept (cs0 cs : List Cell) : Prop where
  idx : isIdx cs
  src : ∀ c ∈ cs, ∃ c0 ∈ cs0, c.key = c0.key ∧ c.ver = c0.ver
  len : cs.length = cs0.length
  has : ∀ k, (getL cs0 k).2 = true → (getL cs k).2 = true
theorem Kept.refl {cs : List Cell} (h : isIdx cs) : Kept cs cs := ⟨h, fun c hc => ⟨c, hc, rfl, rfl⟩, rfl, fun _ h => h⟩
theorem Kept.step {l : List Evn} {cs0 cs : List Cell} (hI : isHist l cs0) (h : Kept cs0 cs) {e : Evn} (he : e ∈ l) : Kept cs0 (cs.map (flo e)) ∧ ∃ c, getL cs e.key = (c, true) ∧ cellIs (flo e c) ∧ refW cs (flo e c) = cs.map (flo e) := by
  have hv : ∀ c ∈ cs, cellIs (flo e c) := fun c hc => flo_is (isIdx_all h.idx c hc) fun hk => by
    obtain ⟨c0, hc0, h1, h2⟩ := h.src c hc
    rw [h2]
    exact hist_ver hI he hc0 (h1.symm.trans hk)
  have hx : isIdx (cs.map (flo e)) := isIdx_of (fun c hc => by
    obtain ⟨d, hd, rfl⟩ := List.mem_map.1 hc
    exact hv d hd) (List.pairwise_map.2 ((isIdx_pair h.idx).imp fun {a b} hab => by rw [flo_key, flo_key]; exact hab))
  refine ⟨⟨hx, fun c hc => ?_, by rw [List.length_map]; exact h.len, fun k hk => ?_⟩, ?_⟩
  · obtain ⟨d, hd, rfl⟩ := List.mem_map.1 hc
    obtain ⟨c0, h1, h2, h3⟩ := h.src d hd
    exact ⟨c0, h1, by rw [flo_key]; exact h2, by rw [flo_ver]; exact h3⟩
  · obtain ⟨c, hc, hck⟩ := getL_true.1 (h.has k hk)
    exact getL_true.2 ⟨flo e c, List.mem_map.2 ⟨c, hc, rfl⟩, by rw [flo_key]; exact hck⟩
  · have h2 := h.has e.key (hI.2.1 e he).1
    obtain ⟨c, hc⟩ : ∃ c, getL cs e.key = (c, true) := ⟨(getL cs e.key).1, by rw [← h2]⟩
    exact ⟨c, hc, hv c (getL_mem hc).1, by rw [refW_eq h.idx, withL_flo (isIdx_pair h.idx) hc]⟩
theorem Kept.take {l : List Evn} {cs : List Cell} (hI : isHist l cs) : ∀ i, Kept cs (keepC (l.take i) cs)
  | 0 => Kept.refl hI.1
  | i + 1 => by
    by_cases hi : i < l.length
    · rw [keepC_succ (List.getElem?_eq_getElem hi)]
      exact ((Kept.take hI i).step hI (List.getElem_mem hi)).1
    · rw [List.take_of_length_le (by omega)]
      have := Kept.take hI i
      rwa [List.take_of_length_le (by omega)] at this
theorem Arr.drop_at {G : Heap} {k : K} {n e cap cap' i : Nat} {ex ex' : Bool} {xs : List (List AV)} (hpos : 0 < e) (h : Arr G e (.slice k 0 n e ex cap) xs) : Arr G e (.slice k (i * e) (n - i) e ex' cap') (xs.drop i) := by
  rcases h with ⟨h, _⟩ | ⟨k', off, ex2, cap2, h, hk, h2⟩
  · cases h
  · cases h
    refine .inr ⟨k, i * e, ex', cap', by rw [List.length_drop], hk, fun hx => ?_⟩
    have hxs : xs ≠ [] := by rintro rfl; simp at hx
    obtain ⟨r, wr, rows, h3, h4, h5⟩ := h2 hxs
    have hr : r = 0 := by
      rcases Nat.eq_zero_or_pos r with hr | hr
      · exact hr
      · have := Nat.mul_pos hr hpos; omega
    subst hr
    rw [List.drop_zero] at h5
    refine ⟨i, wr, rows, rfl, h4, ?_⟩
    have h6 := congrArg (List.drop i) h5
    rw [List.drop_take] at h6
    rw [List.length_drop]
    exact h6
end Go.Proofs
/- Objects that a call changes: memories that aren't spelt out. -/


set_option linter.all false
set_option maxRecDepth 100000
namespace Go.Ev
variable {P : Program}
section
variable {N : Nat} {H0 H : Heap} {T : Tr AV} {Q : Ex → Tr AV → Heap → Prop}
theorem At2.sub {φ0 : Phi} {w0 u : World} {a : Act} {ts : List (K × AV)} (hts : ∀ p ∈ ts, T.get p.1 = some p.2) (h : At2 P φ0 H0 w0 N T H a u) : At2 P φ0 H0 w0 N (trOf ts) H a u := by
  obtain ⟨hd, ψ, ht, hw, he⟩ := h
  exact ⟨hd, ψ, ⟨ht.size, fun t v hv => ht.get t v (hts _ (get_trOf ts _ v hv))⟩, hw, he⟩
theorem Tri.sub {c : Code} {ts : List (K × AV)} (hts : ∀ p ∈ ts, T.get p.1 = some p.2) (h : Tri P N H0 c (trOf ts) H Q) : Tri P N H0 c T H Q :=
  fun φ0 w0 a u h0 ha => h φ0 w0 a u h0 (ha.sub hts)
theorem TriC.sub {c : CC} {ts : List (K × AV)} (hts : ∀ p ∈ ts, T.get p.1 = some p.2) (h : TriC P N H0 c (trOf ts) H Q) : TriC P N H0 c T H Q := fun code hc => (h code hc).sub hts
end
section
variable {E : FuncId → List AV → Heap → RC} {N : Nat} {H0 : Heap} {k : List It} {Q : Ex → Tr AV → Heap → Prop} {T : Tr AV} {G : Heap}
theorem WW.nil (h : WW P E N H0 k T (G.ext []) Q) : WW P E N H0 k T G Q := by rw [Heap.ext_nil] at h; exact h
/-- a round's end: another state, nearer the end; the memory is told of by what holds in it -/
def NextH {S : Type} (μ : S → Nat) (inv : S → Heap → Prop) (ts : S → List (K × AV)) (s : S) (T : Tr AV) (G : Heap) : Prop :=
  ∃ s', μ s' < μ s ∧ inv s' G ∧ ∀ p ∈ ts s', T.get p.1 = some p.2
theorem LL.sth {x : CC} (hE : Good P E) {S : Type} (μ : S → Nat) (inv : S → Heap → Prop) (ts : S → List (K × AV))
    (h : ∀ s G, inv s G → WW P E N H0 [.code x] (trOf (ts s)) (G.ext []) (behind (NextH μ inv ts s) (postW P E N H0 k Q))) (s0 : S) (hi : inv s0 G) (ht : ∀ p ∈ ts s0, T.get p.1 = some p.2) : LL P E N H0 x k T G Q := by
  refine TriC.loop (fun m T G => ∃ s, m = μ s ∧ inv s G ∧ ∀ p ∈ ts s, T.get p.1 = some p.2) ?_ (m := μ s0) ⟨s0, rfl, hi, ht⟩
  rintro m T G ⟨s, rfl, hs, hts⟩
  refine TriC.sub hts ?_
  refine (wpc_ok hE x _ _ _ (WW.nil (h s G hs))).mono ?_
  intro e T' G' q
  cases e with
  | norm => obtain ⟨s', h1, h2, h3⟩ := q; exact ⟨μ s', h1, s', rfl, h2, h3⟩
  | exit n => exact q
  | ret => exact q
end
/-- the slots that are told of -/
@[go_sem] def Slots (T : Tr AV) : List (K × AV) → Prop
  | [] => True
  | p :: ts => T.get p.1 = some p.2 ∧ Slots T ts
theorem Slots.all {T : Tr AV} : ∀ {ts : List (K × AV)}, Slots T ts → ∀ p ∈ ts, T.get p.1 = some p.2
  | [], _, p, h => by cases h
  | q :: ts, h, p, hp => by
    rcases List.mem_cons.1 hp with rfl | hp
    · exact h.1
    · exact Slots.all h.2 p hp
namespace Heap
attribute [go_sem] key_set nx_set'
@[go_sem] theorem get_key_of {B G : Heap} {l : List Blk} {i : Nat} (h : B.nx = G.nx) (hi : i < l.length) : (B.ext l).get (G.key i) = l[i]? := by
  have : G.key i = B.key i := by unfold key; rw [h]
  rw [this, get_ext_key _ _ _ hi]
@[go_sem] theorem setC_key_of {α : Type} {B G : Heap} {l : List Blk} {i : Nat} (h : B.nx = G.nx) (hi : i < l.length) (b : Blk) (c : Heap → α) : (B.ext l).setC (G.key i) b c = c (B.ext (l.set i b)) := by
  have : G.key i = B.key i := by unfold key; rw [h]
  rw [this, setC_ext _ _ _ _ _ hi]
@[go_sem] theorem get_key_set {G : Heap} {s : K} {b : Blk} {l : List Blk} {i : Nat} (hi : i < l.length) : ((G.set s b).ext l).get (G.key i) = l[i]? := get_key_of rfl hi
@[go_sem] theorem setC_key_set {α : Type} {G : Heap} {s : K} {b : Blk} {l : List Blk} {i : Nat} (hi : i < l.length) (d : Blk) (c : Heap → α) : ((G.set s b).ext l).setC (G.key i) d c = c ((G.set s b).ext (l.set i d)) := setC_key_of rfl hi d c
theorem ok_set {G : Heap} (h : G.ok) {k : K} {b c : Blk} (hk : G.get k = some c) : (G.set k b).ok := by
  intro j d hj
  rw [get_set] at hj
  split at hj
  · rename_i e; subst e; exact h k c hk
  · exact h j d hj
/-- a block that is set in a memory: what is got then -/
theorem get_set_here {G : Heap} (hok : G.ok) {k : K} {c : Blk} (hk : G.get k = some c) (b : Blk) (l : List Blk) : ((G.set k b).ext l).get k = some b := by
  rw [get_ext_lt (G.set k b) l k (show k.toNat < (G.set k b).nx.toNat from hok k c hk), get_set, if_pos rfl]
theorem get_set_there {G : Heap} (hok : G.ok) {k j : K} {d : Blk} (hj : G.get j = some d) (hne : k ≠ j) (b : Blk) (l : List Blk) : ((G.set k b).ext l).get j = some d := by
  rw [get_ext_lt (G.set k b) l j (show j.toNat < (G.set k b).nx.toNat from hok j d hj), get_set, if_neg hne, hj]
theorem setC_set_here {α : Type} {G : Heap} (hok : G.ok) {k : K} {x : Blk} (hk : G.get k = some x) (b d : Blk) (l : List Blk) (c : Heap → α) : ((G.set k b).ext l).setC k d c = c ((G.set k d).ext l) := by
  rw [setC_old (G.set k b) l k d c (show k.toNat < (G.set k b).nx.toNat from hok k x hk), set_set]
theorem setC_here {α : Type} {G : Heap} (hok : G.ok) {k : K} {x : Blk} (hk : G.get k = some x) (b : Blk) (l : List Blk) (c : Heap → α) : (G.ext l).setC k b c = c ((G.set k b).ext l) := setC_old _ l k b c (hok k x hk)
end Heap
theorem Arr.set {G : Heap} {k : K} {b : Blk} {wr : Bool} {e e' : Nat} {rows : List (List AV)} {v : AV} {xs : List (List AV)} (h : Arr G e v xs) (hk : G.get k = some (.row wr e' rows)) (he : e ≠ e') : Arr (G.set k b) e v xs := by
  rcases h with h | ⟨j, off, ex, cap, rfl, hj, h⟩
  · exact .inl h
  · refine .inr ⟨j, off, ex, cap, rfl, hj, fun hx => ?_⟩
    obtain ⟨r, wr', rows', h1, h2, h3⟩ := h hx
    refine ⟨r, wr', rows', h1, ?_, h3⟩
    rw [Heap.get_set, if_neg fun e => ?_]
    · exact h2
    · subst e; rw [hk] at h2; cases h2; exact he rfl
end Go.Ev
/- two shards that meet: the plain law; what is put together: the steps. -/


set_option linter.all false
set_option linter.all false
set_option maxRecDepth 100000
namespace Go.Proofs
open Go Go.Ev
variable {H : Heap}

section
variable {s t : Sh}
end
theorem set_own {B G : Heap} {j : K} {c b : Blk} (hok : G.ok) (hj : G.get j = some c) (hB : ∃ L, G = B.ext L) (hl : B.nx.toNat ≤ j.toNat) : ∃ L, G.set j b = B.ext L := by
  obtain ⟨L, rfl⟩ := hB
  have h1 := hok j c hj
  rw [Heap.nx_ext, Heap.toNat_key] at h1
  have e : j = B.key (j.toNat - B.nx.toNat) := K.toNat_inj (by rw [Heap.toNat_key]; omega)
  rw [e, Heap.set_ext_key _ _ _ _ (by omega)]
  exact ⟨_, rfl⟩
section
variable {G : Heap} {e bytes : Nat} {v w : AV} {xs ys : List (List AV)}
end
end Go.Proofs
/- a history goes on: the plain law. -/

set_option linter.all false
set_option linter.all false
set_option maxRecDepth 100000
namespace Go.Proofs
open Go Go.Ev
variable {H : Heap}

theorem withL_mem {c x : Cell} : ∀ {l : List Cell}, x ∈ withL l c → x = c ∨ x ∈ l
  | [], h => by simpa [withL] using h
  | d :: l, h => by
    unfold withL at h
    split at h
    · rcases List.mem_cons.1 h with h | h
      · exact .inr (by simp [h])
      · rcases withL_mem h with h | h
        · exact .inl h
        · exact .inr (by simp [h])
    · split at h
      · rcases List.mem_cons.1 h with h | h
        · exact .inl h
        · exact .inr (by simp [h])
      · rcases List.mem_cons.1 h with h | h
        · exact .inl h
        · exact .inr h
theorem withL_ord {c : Cell} : ∀ {l : List Cell}, Ord l → Ord (withL l c)
  | [], _ => by simp [withL, Ord]
  | d :: l, h => by
    have h' := List.pairwise_cons.1 h
    unfold withL
    split
    · rename_i h1
      refine List.pairwise_cons.2 ⟨fun x hx => ?_, withL_ord h'.2⟩
      rcases withL_mem hx with rfl | hx
      · exact h1
      · exact h'.1 x hx
    · rename_i h1
      split
      · rename_i h2
        exact List.pairwise_cons.2 ⟨fun x hx => by rw [← h2]; exact h'.1 x hx, h'.2⟩
      · rename_i h2
        have h3 : ltS c.key d.key := by rcases ltS_tri d.key c.key with g | g | g; exact absurd g h1; exact absurd g h2; exact g
        refine List.pairwise_cons.2 ⟨fun x hx => ?_, h⟩
        rcases List.mem_cons.1 hx with rfl | hx
        · exact h3
        · exact ltS_trans h3 (h'.1 x hx)
theorem getL_withL_self {c : Cell} : ∀ {l : List Cell}, getL (withL l c) c.key = (c, true)
  | [] => by simp [withL, getL]
  | d :: l => by
    unfold withL
    split
    · rename_i h1
      have hne : d.key ≠ c.key := fun e => ltS_irrefl _ (e ▸ h1)
      rw [getL, if_neg hne]
      exact getL_withL_self
    · split <;> simp [getL]
theorem getL_withL_other {c : Cell} {k : List Nat} (hk : k ≠ c.key) : ∀ {l : List Cell}, getL (withL l c) k = getL l k
  | [] => by simp [withL, getL, Ne.symm hk]
  | d :: l => by
    unfold withL
    split
    · rw [getL, getL, getL_withL_other hk]
    · split
      · rename_i h2
        rw [getL, getL, if_neg (Ne.symm hk), if_neg (fun e => hk (by rw [← e, h2]))]
      · rw [getL, if_neg (Ne.symm hk)]
theorem getL_miss {k : List Nat} : ∀ {l : List Cell}, (getL l k).2 = false → (getL l k).1 = ⟨k, [], 0, false, 0⟩ ∧ ∀ c ∈ l, ¬ c.key = k
  | [], _ => ⟨rfl, fun c hc => absurd hc List.not_mem_nil⟩
  | d :: l, h => by
    unfold getL at h ⊢
    split at h
    · cases h
    · rename_i hk
      rw [if_neg hk]
      obtain ⟨h1, h2⟩ := getL_miss h
      exact ⟨h1, fun c hc => by
        rcases List.mem_cons.1 hc with rfl | hc
        · exact hk
        · exact h2 c hc⟩
theorem ord_same {l : List Cell} (ho : Ord l) {c d : Cell} (hc : c ∈ l) (hd : d ∈ l) (hk : c.key = d.key) : c = d := by
  obtain ⟨i, hi, rfl⟩ := List.mem_iff_getElem.1 hc
  obtain ⟨j, hj, rfl⟩ := List.mem_iff_getElem.1 hd
  have hp := List.pairwise_iff_getElem.1 ho
  rcases Nat.lt_trichotomy i j with h | h | h
  · have := hp i j hi hj h; rw [hk] at this; exact absurd this (ltS_irrefl _)
  · subst h; rfl
  · have := hp j i hj hi h; rw [hk] at this; exact absurd this (ltS_irrefl _)
/-- the next cell of a key, and what happens -/
def nextC (cs : List Cell) (k v : List Nat) (d : Bool) : Cell := ⟨k, v, (getL cs k).1.ver + 1, d, (getL cs k).1.floor⟩
def nextE (cs : List Cell) (k v : List Nat) (d : Bool) : Evn := ⟨k, (getL cs k).1.ver + 1, v, d⟩
theorem runR_up {c c' : Cell} (hk : c'.key = c.key) (hv : c.ver < c'.ver) : ∀ {l : List Evn} {v w : Int}, runR c l v = some w → w ≤ c.ver → runR c' l v = some w
  | [], _, _, h, _ => h
  | e :: l, v, w, h, hw => by
    rw [runR] at h ⊢
    rw [hk]
    split at h
    · rename_i h1
      rw [if_pos h1]
      split at h
      · rename_i h2
        have := runR_ge h
        rw [if_pos ⟨h2.1, fun g => by omega⟩]
        exact runR_up hk hv h hw
      · cases h
    · rename_i h1
      rw [if_neg h1]
      exact runR_up hk hv h hw
theorem runR_congr {c c' : Cell} (hk : c'.key = c.key) (hv : c'.ver = c.ver) (ha : c'.value = c.value) (hd : c'.del = c.del) : ∀ {l : List Evn} {v : Int}, runR c' l v = runR c l v
  | [], _ => rfl
  | e :: l, v => by rw [runR, runR, hk, hv, ha, hd, runR_congr hk hv ha hd, runR_congr hk hv ha hd]
/-- the cell of a key: there, or new -/
theorem cell_of {l : List Evn} {cs : List Cell} (h : isHist l cs) (k : List Nat) : (getL cs k).1.key = k ∧ 0 ≤ (getL cs k).1.ver ∧ 0 ≤ (getL cs k).1.floor ∧ (getL cs k).1.floor ≤ (getL cs k).1.ver ∧ runR (getL cs k).1 l (getL cs k).1.floor = some (getL cs k).1.ver := by
  cases hf : (getL cs k).2 with
  | true =>
    obtain ⟨c, hc⟩ : ∃ c, getL cs k = (c, true) := ⟨(getL cs k).1, by rw [← hf]⟩
    obtain ⟨h1, h2⟩ := getL_mem hc
    rw [hc]
    have := isIdx_all h.1 c h1
    exact ⟨h2, Int.le_trans this.2.1 this.2.2, this.2.1, this.2.2, ofH_iff.1 (h.2.2 c h1)⟩
  | false =>
    obtain ⟨h1, h2⟩ := getL_miss hf
    rw [h1]
    refine ⟨rfl, Int.le_refl _, Int.le_refl _, Int.le_refl _, runR_none fun e he g => ?_⟩
    obtain ⟨c, hc, hk⟩ := getL_true.1 (h.2.1 e he).1
    exact h2 c hc (hk.trans g)
theorem hist_put {l : List Evn} {cs : List Cell} (h : isHist l cs) {k v : List Nat} {d : Bool} (hk : isKey k) (hv : (v.length : Int) ≤ 12) (hd : d = true → v = []) (hm : (getL cs k).1.ver < 1000000000000) : isHist (l ++ [nextE cs k v d]) (withL cs (nextC cs k v d)) := by
  obtain ⟨c1, c2, c3, c4, c5⟩ := cell_of h k
  have ho := isIdx_pair h.1
  have ho2 := withL_ord (c := nextC cs k v d) ho
  have hself := getL_withL_self (c := nextC cs k v d) (l := cs)
  have hmem := (getL_mem hself).1
  have hmay : mayBe k v ((getL cs k).1.ver + 1) d := ⟨hk, hv, hd, by omega, by omega⟩
  refine ⟨isIdx_of (fun c hc => ?_) ho2, fun e he => ?_, fun c hc => ?_⟩
  · rcases withL_mem hc with rfl | hc
    · exact ⟨hmay, c3, by show (getL cs k).1.floor ≤ (getL cs k).1.ver + 1; omega⟩
    · exact isIdx_all h.1 c hc
  · rcases List.mem_append.1 he with he | he
    · obtain ⟨h1, h2⟩ := h.2.1 e he
      refine ⟨?_, h2⟩
      by_cases hek : e.key = k
      · have : (getL (withL cs (nextC cs k v d)) k) = (nextC cs k v d, true) := hself
        rw [hek, this]
      · rw [getL_withL_other (show e.key ≠ (nextC cs k v d).key from hek)]; exact h1
    · rw [List.mem_singleton.1 he]
      have : (getL (withL cs (nextC cs k v d)) k) = (nextC cs k v d, true) := hself
      exact ⟨by show (getL (withL cs (nextC cs k v d)) k).2 = true; rw [this], hmay⟩
  · rw [ofH_iff, runR_append]
    by_cases hck : c.key = k
    · obtain rfl : c = nextC cs k v d := ord_same ho2 hc hmem hck
      rw [show (nextC cs k v d).floor = (getL cs k).1.floor from rfl, runR_up (c := (getL cs k).1) (c' := nextC cs k v d) c1.symm (by show (getL cs k).1.ver < (getL cs k).1.ver + 1; omega) c5 (Int.le_refl _)]
      show runR (nextC cs k v d) [nextE cs k v d] (getL cs k).1.ver = some ((getL cs k).1.ver + 1)
      rw [runR, if_pos (show (nextE cs k v d).key = (nextC cs k v d).key from rfl), if_pos ⟨rfl, fun _ => ⟨rfl, rfl⟩⟩]
      rfl
    · have hcm : c ∈ cs := by
        rcases withL_mem hc with rfl | hc
        · exact absurd rfl hck
        · exact hc
      rw [ofH_iff.1 (h.2.2 c hcm)]
      show runR c [nextE cs k v d] c.ver = some c.ver
      rw [runR, if_neg fun g => hck g.symm]
      rfl
/-- the first event is let go -/
theorem hist_step {l : List Evn} {e : Evn} {cs : List Cell} (h : isHist (e :: l) cs) : isHist l (cs.map (flo e)) := by
  have hK := ((Kept.refl h.1).step h (e := e) (by simp)).1
  refine ⟨hK.idx, fun x hx => ⟨hK.has _ (h.2.1 x (by simp [hx])).1, (h.2.1 x (by simp [hx])).2⟩, fun c hc => ?_⟩
  obtain ⟨d, hd, rfl⟩ := List.mem_map.1 hc
  have h1 := ofH_iff.1 (h.2.2 d hd)
  rw [ofH_iff]
  rw [runR] at h1
  by_cases hk : e.key = d.key
  · rw [if_pos hk] at h1
    split at h1
    · rename_i h2
      have e1 : flo e d = { d with floor := max d.floor e.ver } := if_pos hk.symm
      rw [e1]
      have e2 : max d.floor e.ver = d.floor + 1 := by have := h2.1; omega
      show runR { d with floor := max d.floor e.ver } l (max d.floor e.ver) = some d.ver
      rw [e2, runR_congr (c := d) (c' := { d with floor := d.floor + 1 }) rfl rfl rfl rfl]
      exact h1
    · cases h1
  · rw [if_neg hk] at h1
    rw [flo_no fun g => hk g.symm]
    exact h1
theorem hist_keep : ∀ (n : Nat) {l : List Evn} {cs : List Cell}, isHist l cs → isHist (l.drop n) (keepC (l.take n) cs)
  | 0, _, _, h => h
  | n + 1, [], _, h => h
  | n + 1, e :: l, _, h => hist_keep n (hist_step h)
end Go.Proofs
/- the document's writes: walked. -/

set_option linter.all false
set_option linter.all false
set_option maxRecDepth 100000
namespace Go.Proofs
open Go Go.Ev
variable {H : Heap}

theorem keepC_nil (cs : List Cell) : keepC [] cs = cs := rfl
/-- a shard with a cell's next version -/
noncomputable def addS (s : Sh) (c : Cell) (e : Evn) (k0 k1 : K) : Sh := ⟨s.id, s.ep, s.fr, s.to, s.frz, keepC ((s.evs ++ [e]).take ((s.evs ++ [e]).length - 24)) (refW s.cells c), (s.evs ++ [e]).drop ((s.evs ++ [e]).length - 24), s.done, outV k0 5 (refW s.cells c).length, outV k1 4 ((s.evs ++ [e]).drop ((s.evs ++ [e]).length - 24)).length, s.dv⟩
noncomputable def addB (s : Sh) (c : Cell) (e : Evn) : List Blk := [outB 5 ((keepC ((s.evs ++ [e]).take ((s.evs ++ [e]).length - 24)) (refW s.cells c)).map Cell.enc), outB 4 (((s.evs ++ [e]).drop ((s.evs ++ [e]).length - 24)).map Evn.enc)]
end Go.Proofs
/- the document's write of a put: walked. -/

set_option linter.all false
set_option linter.all false
set_option maxRecDepth 100000
namespace Go.Proofs
open Go Go.Ev
variable {H : Heap}

theorem withL_len (c : Cell) : ∀ (l : List Cell), (withL l c).length ≤ l.length + 1
  | [] => by simp [withL]
  | d :: l => by
    have := withL_len c l
    unfold withL
    split
    · simp only [List.length_cons]; omega
    · split <;> simp
/-- a shard with a key put, as it is told -/
noncomputable def putS (s : Sh) (k v : List Nat) : Sh := ⟨s.id, s.ep, s.fr, s.to, s.frz, keepC ((s.evs ++ [nextE s.cells k v false]).take ((s.evs ++ [nextE s.cells k v false]).length - 24)) (withL s.cells (nextC s.cells k v false)), (s.evs ++ [nextE s.cells k v false]).drop ((s.evs ++ [nextE s.cells k v false]).length - 24), s.done, .nils, .nils, .nils⟩
theorem putS_hist {s : Sh} (hI : isHist s.evs s.cells) {k v : List Nat} (hk : isKey k) (hv : (v.length : Int) ≤ 12) (hm : (getL s.cells k).1.ver < 1000000000000) : isHist (putS s k v).evs (putS s k v).cells :=
  hist_keep _ (hist_put hI hk hv (fun h => by cases h) hm)
end Go.Proofs
/- the document's puts, gets: asked: walked. -/


set_option linter.all false
set_option linter.all false
set_option maxRecDepth 100000
namespace Go.Proofs
open Go Go.Ev
variable {H : Heap}

/-- the answer of a put -/
def putA (n : Int) : An := ⟨0, [], n, [], .nils⟩
theorem putA_ok (H : Heap) (n : Int) : (putA n).ok H := ⟨.inl ⟨rfl, rfl⟩, (by decide : (0 : Nat) ≤ 9223372036854775807)⟩
/-- a shard with a request's put done -/
noncomputable def askS (s : Sh) (k v : List Nat) (ses id : Int) (k0 k1 k2 : K) : Sh := ⟨s.id, s.ep, s.fr, s.to, s.frz, (addS s (nextC s.cells k v false) (nextE s.cells k v false) k0 k1).cells, (addS s (nextC s.cells k v false) (nextE s.cells k v false) k0 k1).evs, withD s.done ⟨ses, id, putA ((getL s.cells k).1.ver + 1)⟩, (addS s (nextC s.cells k v false) (nextE s.cells k v false) k0 k1).cv, (addS s (nextC s.cells k v false) (nextE s.cells k v false) k0 k1).ev, outV k2 6 (withD s.done ⟨ses, id, putA ((getL s.cells k).1.ver + 1)⟩).length⟩
noncomputable def askB (s : Sh) (k v : List Nat) (ses id : Int) : List Blk := addB s (nextC s.cells k v false) (nextE s.cells k v false) ++ [outB 6 ((withD s.done ⟨ses, id, putA ((getL s.cells k).1.ver + 1)⟩).map Dn.enc)]
end Go.Proofs
/- CutOnce: the plain law. -/


set_option linter.all false
set_option linter.all false
set_option maxRecDepth 100000
namespace Go.Proofs
open Go Go.Ev
variable {H : Heap}

theorem isSh_same {a b : Sh} (h : sameSh a b) (hb : isSh b) : isSh a := by
  obtain ⟨h1, h2, h3, h4, h5, h6, h7, h8⟩ := h
  unfold isSh at hb ⊢
  rw [h1, h2, h3, h4, h6, h7, h8]
  exact hb
def cK (n : Int) : Cell := ⟨[99], [118], n, false, 0⟩
/-- the shard behind so many requests -/
structure AtI (i : Nat) (s : Sh) : Prop where
  hd : s.id = 1 ∧ s.ep = 1 ∧ s.fr = [] ∧ s.to = [] ∧ s.frz = false
  hist : isHist s.evs s.cells
  len : s.evs.length = i
  keys : ∀ e ∈ s.evs, e.key = [99]
  cells : s.cells = if i = 0 then [] else [cK i]
  done : s.done = if i = 0 then [] else [⟨1, i, putA i⟩]
theorem AtI.get {i : Nat} {s : Sh} (h : AtI i s) : (getL s.cells [99]).1.ver = i ∧ (getL s.cells [99]).1.floor = 0 := by
  rw [h.cells]
  by_cases hi : i = 0
  · subst hi; exact ⟨rfl, rfl⟩
  · rw [if_neg hi]; exact ⟨rfl, rfl⟩
theorem AtI.nextC {i : Nat} {s : Sh} (h : AtI i s) : nextC s.cells [99] [118] false = cK ((i : Int) + 1) := by
  unfold Go.Proofs.nextC cK; rw [h.get.1, h.get.2]
theorem AtI.withL {i : Nat} {s : Sh} (h : AtI i s) (n : Int) : withL s.cells (cK n) = [cK n] := by
  rw [h.cells]
  by_cases hi : i = 0
  · rw [if_pos hi]; rfl
  · rw [if_neg hi, Go.Proofs.withL, if_neg (show ¬ ltS (cK i).key (cK n).key from ltS_irrefl _), if_pos (show (cK i).key = (cK n).key from rfl)]
theorem AtI.stands {i : Nat} {s : Sh} (h : AtI i s) : (stands s.done 1 ((i : Int) + 1)).2 = 0 := by
  rw [h.done]
  by_cases hi : i = 0
  · rw [if_pos hi]; rfl
  · rw [if_neg hi]
    show (if (i : Int) < (i : Int) + 1 then ((zeroA, 0) : An × Int) else _).2 = 0
    rw [if_pos (by omega)]
theorem AtI.keeps {i : Nat} {s : Sh} (h : AtI i s) (a : An) : ¬ keepsD s.done ⟨1, (i : Int) + 1, a⟩ := by
  rintro ⟨x, h1, h2⟩
  rw [h.done] at h1
  by_cases hi : i = 0
  · rw [if_pos hi] at h1; cases h1
  · rw [if_neg hi] at h1
    cases h1
    have h2 : (i : Int) + 1 < (i : Int) := h2
    omega
theorem AtI.up {i : Nat} {s : Sh} (h : AtI i s) : upD s.done := by
  rw [h.done]
  split
  · exact .nil
  · exact List.pairwise_singleton ..
theorem AtI.dlen {i : Nat} {s : Sh} (h : AtI i s) : s.done.length ≤ 1 := by rw [h.done]; split <;> exact Nat.le_of_ble_eq_true rfl
theorem AtI.clen {i : Nat} {s : Sh} (h : AtI i s) : s.cells.length ≤ 1 := by rw [h.cells]; split <;> exact Nat.le_of_ble_eq_true rfl
theorem key_c : isKey [99] := ⟨by simp, by show (1 : Int) ≤ 8; decide⟩
theorem askS_hist {s : Sh} (hI : isHist s.evs s.cells) {k v : List Nat} (hk : isKey k) (hv : (v.length : Int) ≤ 12) (hm : (getL s.cells k).1.ver < 1000000000000) (ses id : Int) (k0 k1 k2 : K) : isHist (askS s k v ses id k0 k1 k2).evs (askS s k v ses id k0 k1 k2).cells := by
  have := putS_hist hI hk hv hm
  show isHist _ (keepC _ (refW s.cells (Go.Proofs.nextC s.cells k v false)))
  rw [refW_eq hI.1]
  exact this
theorem withD_one (s : Int) {i j : Int} (hi : i ≤ j) (a b : An) : withD [⟨s, i, a⟩] ⟨s, j, b⟩ = [⟨s, j, b⟩] := by
  unfold withD putGD
  rw [if_neg (Int.lt_irrefl s), if_pos rfl, lateD, if_pos hi]
theorem AtI.next {i : Nat} {s : Sh} (h : AtI i s) (hi : i < 24) (k0 k1 k2 : K) : AtI (i + 1) (askS s [99] [118] 1 ((i : Int) + 1) k0 k1 k2) where
  hd := h.hd
  hist := askS_hist h.hist key_c (by decide) (by rw [h.get.1]; omega) ..
  len := by
    show ((s.evs ++ [nextE s.cells [99] [118] false]).drop ((s.evs ++ [nextE s.cells [99] [118] false]).length - 24)).length = _
    rw [List.length_drop, List.length_append, h.len]
    show i + 1 - (i + 1 - 24) = i + 1
    omega
  keys := by
    intro e he
    have he : e ∈ (s.evs ++ [nextE s.cells [99] [118] false]).drop _ := he
    rcases List.mem_append.1 (List.mem_of_mem_drop he) with he | he
    · exact h.keys e he
    · rw [List.mem_singleton.1 he]; rfl
  cells := by
    show keepC ((s.evs ++ [nextE s.cells [99] [118] false]).take ((s.evs ++ [nextE s.cells [99] [118] false]).length - 24)) (refW s.cells (Go.Proofs.nextC s.cells [99] [118] false)) = _
    rw [show (s.evs ++ [nextE s.cells [99] [118] false]).length - 24 = 0 by rw [List.length_append, h.len]; show i + 1 - 24 = 0; omega, List.take_zero, keepC_nil, refW_eq h.hist.1, h.nextC, h.withL]
    rfl
  done := by
    show withD s.done ⟨1, (i : Int) + 1, putA ((getL s.cells [99]).1.ver + 1)⟩ = _
    rw [h.get.1, h.done]
    by_cases hz : i = 0
    · subst hz; rfl
    · rw [if_neg hz, withD_one 1 (show (i : Int) ≤ (i : Int) + 1 by omega)]
      rfl
theorem putA_is {n : Int} (h1 : 0 ≤ n) (h2 : n < 281474976710656) : isAns (putA n) := ⟨⟨by show (0 : Int) ≤ 0; decide, by show (0 : Int) < _; decide, h1, h2, by show (0 : Int) ≤ 255; decide⟩, by show (0 : Int) ≤ 16; decide, fun ⟨r, hr, _⟩ => absurd hr List.not_mem_nil⟩
theorem done_one {k : Nat} (h1 : 1 ≤ k) (h2 : k ≤ 100) {n : Int} (h3 : 0 ≤ n) (h4 : n ≤ 100) : isDone [⟨1, k, putA n⟩] := done_iff.2 ⟨fun c hc => by
  rw [List.mem_singleton.1 hc]
  exact ⟨⟨by show (0 : Int) ≤ 1; decide, by show (1 : Int) < 3; decide, by show (1 : Int) ≤ (k : Int); omega, by show (k : Int) ≤ 1000000000000; omega⟩, putA_is h3 (by omega)⟩, List.pairwise_singleton ..⟩
theorem AtI.sh {k : Nat} {s : Sh} (h : AtI k s) (h1 : 1 ≤ k) (h2 : k ≤ 20) : isSh s := by
  obtain ⟨e1, e2, e3, e4, e5⟩ := h.hd
  refine ⟨⟨by omega, by omega, by omega, by omega⟩, by rw [e3, e4]; exact k_span, fun c hc => ?_, by rw [h.len]; omega, h.hist, ?_⟩
  · rw [h.cells, if_neg (by omega)] at hc
    rw [List.mem_singleton.1 hc, e3, e4]
    exact k_has 99
  · rw [h.done, if_neg (by omega)]
    exact done_one h1 (by omega) (by omega) (by omega)
theorem AtI.inS {k : Nat} {s : Sh} (h : AtI k s) : inSplit s [109] := by
  obtain ⟨e1, e2, e3, e4, e5⟩ := h.hd
  exact ⟨by rw [e3, e4]; exact k_has 109, by rw [e3]; rfl⟩
theorem no_hi {t : List Nat} : ¬ has [109] t [99] := fun h => h.2.2.1 lt_cm
theorem hi_cells {n : Int} : withinL [109] [] [cK n] = [] := by
  unfold withinL
  rw [List.filter_cons_of_neg (by rw [decide_eq_false (show ¬ has [109] [] (cK n).key from no_hi)]; decide)]
  rfl
theorem hi_evs {l : List Evn} (h : ∀ e ∈ l, e.key = [99]) : evW [109] [] l = [] := by
  unfold evW
  refine List.filter_eq_nil_iff.2 fun e he => ?_
  rw [h e he, decide_eq_false no_hi]
  decide
/-- both parts of the shard -/
structure LoI (k : Nat) (a : Sh) : Prop where
  sh : isSh a
  to : a.to = [109]
  frz : a.frz = false
  done : a.done = [⟨1, k, putA k⟩]
  cells : a.cells.length ≤ 1
  evs : a.evs.length ≤ 24
structure HiI (k : Nat) (b : Sh) : Prop where
  hd : b.id = 3 ∧ b.ep = 1 ∧ b.fr = [109] ∧ b.to = [] ∧ b.frz = false
  done : b.done = [⟨1, k, putA k⟩]
  cells : b.cells = []
  evs : b.evs = []
theorem AtI.lo {k : Nat} {s a : Sh} (h : AtI k s) (h1 : 1 ≤ k) (h2 : k ≤ 20) (ha : sameSh a (saidPart s 2 s.fr [109])) : LoI k a := by
  have hs := h.sh h1 h2
  have hb := h.inS
  obtain ⟨a1, a2, a3, a4, a5, a6, a7, a8⟩ := id ha
  refine ⟨isSh_same ha (part_sh hs (id := 2) hb.lo ⟨by decide, by decide⟩ .z .z .z), a4, a5, by rw [a8]; show s.done = _; rw [h.done, if_neg (by omega)], ?_, ?_⟩
  · rw [a6]; exact Nat.le_trans (List.length_filter_le ..) h.clen
  · rw [a7]; refine Nat.le_trans (List.length_filter_le ..) ?_; rw [h.len]; omega
theorem AtI.hi {k : Nat} {s b : Sh} (h : AtI k s) (h1 : 1 ≤ k) (h2 : k ≤ 20) (hb : sameSh b (saidPart s 3 [109] s.to)) : HiI k b := by
  obtain ⟨e1, e2, e3, e4, e5⟩ := h.hd
  obtain ⟨a1, a2, a3, a4, a5, a6, a7, a8⟩ := id hb
  refine ⟨⟨a1, a2, a3, a4.trans e4, a5⟩, by rw [a8]; show s.done = _; rw [h.done, if_neg (by omega)], ?_, ?_⟩
  · rw [a6]; show withinL [109] s.to s.cells = []; rw [e4, h.cells, if_neg (by omega), hi_cells]
  · rw [a7]; show evW [109] s.to s.evs = []; rw [e4, hi_evs h.keys]
theorem hist_nil : isHist [] [] := ⟨fun j h => absurd h (Nat.not_lt_zero _), fun e he => absurd he List.not_mem_nil, fun c hc => absurd hc List.not_mem_nil⟩
theorem AtI.first {s : Sh} (h : s = ⟨1, 1, [], [], false, [], [], [], .nils, .nils, .nils⟩) : AtI 0 s := by
  subst h
  exact ⟨⟨rfl, rfl, rfl, rfl, rfl⟩, hist_nil, rfl, fun e he => absurd he List.not_mem_nil, rfl, rfl⟩
end Go.Proofs
/- the code's next cell, Put, an error's number, what an op is: walked. -/

set_option linter.all false
namespace Go.Proofs
open Go.RowKit Go.Extern.Stop Go.Stop Go.Extern
theorem code1_nil (w : World) : Calls Tryz.prog 211 #[.nilIface] w fun e w' => e = .returned (.int .i64 0) ∧ Go.Ev.Grows w w' := by
  go_enter Tryz.func211, Tryz.ntmps211
  go_wp2_with (first | (go_at_call 42; refine (as_nil _ _).mono ?_; rintro e w' ⟨rfl, rfl⟩))
  go_ret
  exact ⟨rfl, Go.Ev.Grows.alloc _ _⟩
set_option maxHeartbeats 4000000 in
theorem code1_num (n : Int) (w : World) (hg : w.cell? ⟨0, 0, none⟩ = some (.iface 193 (.agg #[.pointer (some ⟨1, 35, none⟩)]))) : Calls Tryz.prog 211 #[.iface 63 (.int .i64 n)] w fun e w' => e = .returned (.int .i64 n) ∧ Go.Ev.Grows w w' := by
  have hlt : 0 < w.heap.size := by
    rcases Nat.eq_zero_or_pos w.heap.size with h0 | h
    · simp [World.cell?, h0] at hg
    · exact h
  have hgA : (w.alloc (.cells #[.int .i64 0] 63)).cell? ⟨0, 0, none⟩ = some (.iface 193 (.agg #[.pointer (some ⟨1, 35, none⟩)])) := by
    rw [World.cell?_alloc_lt _ _ ⟨0, 0, none⟩ hlt]; exact hg
  have htA : (w.alloc (.cells #[.int .i64 0] 63)).cell? ⟨w.heap.size, 0, none⟩ = some (.int .i64 0) := by simp
  have hfA : (w.alloc (.cells #[.int .i64 0] 63)).frozen? ⟨w.heap.size, 0, none⟩ = false := by simp
  go_enter Tryz.func211, Tryz.ntmps211
  go_wp2_with (first | (go_at_call 42; refine (as_hit n _ (.int .i64 0) _ hgA htA hfA).mono ?_; rintro e w' ⟨rfl, rfl⟩))
  go_ret
  refine ⟨rfl, ?_⟩
  exact ((((Go.Ev.Grows.alloc _ _).trans (Go.Ev.Grows.alloc _ _)).trans (Go.Ev.Grows.alloc _ _)).trans (Go.Ev.Grows.alloc _ _)).trans (Go.Ev.Grows.alloc _ _)
end Go.Proofs
set_option linter.all false
set_option maxRecDepth 100000
namespace Go.Proofs
open Go Go.Ev
variable {H : Heap}

theorem f211_ok (a : Option Int) : FnOk Tryz.prog 211 [errV a] H fun r G => r = .int .i64 (a.getD 0) ∧ G = H := by
  refine FnOk.of_calls fun φ w args' ha hw => ?_
  obtain ⟨v, rfl, h1⟩ := one_arg ha
  have e1 := errV_inv h1
  cases a with
  | none =>
    obtain rfl : v = .nilIface := e1
    refine (code1_nil w).mono ?_
    rintro e w' ⟨rfl, hg⟩
    exact ⟨⟨_, rfl, .int _ _⟩, hg⟩
  | some a =>
    obtain rfl : v = .iface 63 (.int .i64 a) := e1
    refine (code1_num a w (hw.rom 0 _ (List.mem_singleton.2 rfl)).1).mono ?_
    rintro e w' ⟨rfl, hg⟩
    exact ⟨⟨_, rfl, .int _ _⟩, hg⟩
theorem f230_ok {c : Cell} (h1 : 0 ≤ c.ver) (h2 : c.ver < 1000000000000) (v : List Nat) (d : Bool) : FnOk Tryz.prog 230 [.agg c.enc, .str v, .bool d] H fun r G => r = .tup [.agg (Cell.enc ⟨c.key, v, c.ver + 1, d, c.floor⟩), .agg (Evn.enc ⟨c.key, c.ver + 1, v, d⟩), .nili] ∧ G = H := by
  refine FnOk.drop (R := fun r => r = .tup [.agg (Cell.enc ⟨c.key, v, c.ver + 1, d, c.floor⟩), .agg (Evn.enc ⟨c.key, c.ver + 1, v, d⟩), .nili]) ?_ (by rintro v rfl ρ; simp only [AV.ren, AV.rens, Cell.rens, Evn.rens])
  refine FnOk.of_WW Tryz.func230 rfl C230ok R230ok E0 good_E0 ?_
  have hw : IntKind.i64.wrap (c.ver + 1) = c.ver + 1 := wrap_i64 (by omega) (by omega)
  have z1 := eq_false (show ¬ (1000000000000 : Int) ≤ c.ver by omega)
  simp only [go_sem, C230, Cell.enc, hw, z1]
  exact ⟨rfl, _, rfl⟩
theorem f223_ok {c : Cell} (h1 : 0 ≤ c.ver) (h2 : c.ver < 1000000000000) {v : List Nat} (hv : (v.length : Int) ≤ 12) : FnOk Tryz.prog 223 [.agg c.enc, .str v] H fun r G => r = .tup [.agg (Cell.enc ⟨c.key, v, c.ver + 1, false, c.floor⟩), .agg (Evn.enc ⟨c.key, c.ver + 1, v, false⟩), .nili] ∧ G = H := by
  refine FnOk.drop (R := fun r => r = .tup [.agg (Cell.enc ⟨c.key, v, c.ver + 1, false, c.floor⟩), .agg (Evn.enc ⟨c.key, c.ver + 1, v, false⟩), .nili]) ?_ (by rintro v rfl ρ; simp only [AV.ren, AV.rens, Cell.rens, Evn.rens])
  refine FnOk.of_WW Tryz.func223 rfl C223ok R223ok E0 good_E0 ?_
  have z1 := eq_false (show ¬ (12 : Int) < (v.length : Int) by omega)
  simp only [go_sem, C223, Cell.enc, z1]
  refine CL.of (f230_ok (c := c) h1 h2 v false) ?_
  rintro _ _ ⟨rfl, rfl⟩
  simp only [go_sem, Cell.enc, Evn.enc]
  exact ⟨_, rfl⟩
theorem f111_put (k v : List Nat) : FnOk Tryz.prog 111 [.agg [.int .i64 2, .str k, .str [], .str v, .int .i64 0, .nils]] H fun r G => r = .bool true ∧ G = H := by
  refine FnOk.drop (R := fun r => r = .bool true) ?_ (by rintro v rfl ρ; rw [AV.ren])
  refine FnOk.of_WW Tryz.func111 rfl C111ok R111ok E0 good_E0 ?_
  simp only [go_sem, C111]
  exact ⟨_, rfl⟩
theorem f67_put {k v : List Nat} (hk : isKey k) (hv : (v.length : Int) ≤ 12) : FnOk Tryz.prog 67 [.agg [.int .i64 2, .str k, .str [], .str v, .int .i64 0, .nils]] H fun r G => r = .bool true ∧ G = H := by
  refine FnOk.drop (R := fun r => r = .bool true) ?_ (by rintro v rfl ρ; rw [AV.ren])
  refine FnOk.of_WW Tryz.func67 rfl C67ok R67ok E0 good_E0 ?_
  have z2 := eq_true (show (v.length : Int) ≤ 40 by omega)
  simp only [go_sem, C67]
  refine CL.of (f111_put k v) ?_
  rintro _ _ ⟨rfl, rfl⟩
  simp only [go_sem]
  refine CL.bool (f107_ok k) (fun g => ?_) (fun g => absurd hk g)
  simp only [go_sem, z2]
  exact ⟨_, rfl⟩
theorem f137_put (k v : List Nat) : FnOk Tryz.prog 137 [.agg [.int .i64 2, .str k, .str [], .str v, .int .i64 0, .nils]] H fun r G => r = .bool true ∧ G = H := by
  refine FnOk.drop (R := fun r => r = .bool true) ?_ (by rintro v rfl ρ; rw [AV.ren])
  refine FnOk.of_WW Tryz.func137 rfl C137ok R137ok E0 good_E0 ?_
  simp only [go_sem, C137]
  exact ⟨_, rfl⟩
end Go.Proofs
/- the code's Add, change, one: walked. -/

set_option linter.all false
set_option linter.all false
set_option maxRecDepth 100000
namespace Go.Proofs
open Go Go.Ev
variable {H : Heap}

def A81 (H : Heap) (args : List AV) (l : List Evn) : Prop := ∃ k, args = [outV k 4 l.length] ∧ Arr H 4 (outV k 4 l.length) (l.map Evn.enc) ∧ l.length < 100000
noncomputable def EA (f : FuncId) (args : List AV) (H : Heap) : RC :=
  match f with
  | 102 => ot (A81 H args) fun l => .ok (outV H.nx 4 l.length) (H.ext [outB 4 (l.map Evn.enc)])
  | 192 => ot (A50 H args) fun q => .ok (.tup [outV (H.key 1) 4 (q.1.drop (q.1.length - 24)).length, outV (H.key 0) 5 q.2.length]) (H.ext [outB 5 ((keepC (q.1.take (q.1.length - 24)) q.2).map Cell.enc), outB 4 ((q.1.drop (q.1.length - 24)).map Evn.enc)])
  | _ => .fail
theorem outV_null {k : K} {e n : Nat} (h : n = 0) : outV k e n = .nils := by subst h; rfl
theorem good_EA : Ev.Good Tryz.prog EA := by
  intro f args H r G he φ w args' ha hw
  refine (?_ : FnOk Tryz.prog f args H fun v' G' => v' = r ∧ G' = G).one φ w args' ha hw
  unfold EA at he
  split at he
  · obtain ⟨l, ⟨k, rfl, h1, h2⟩, hz⟩ := ot_ok he
    clear he
    cases hz
    exact clone_n clo75 (List.length_map ..) outV_null h1 (by omega) (fun _ _ => Evn.map_rens _ _)
  · obtain ⟨q, ⟨k, k', rfl, h1, h2, h3, h4⟩, hz⟩ := ot_ok he
    clear he
    cases hz
    exact f192_ok rfl rfl h1 h2 h3 h4
  · cases he
theorem e81 {k : K} {l : List Evn} (hA : Arr H 4 (outV k 4 l.length) (l.map Evn.enc)) (hl : l.length < 100000) (L : List Blk) : EA 102 [outV k 4 l.length] (H.ext L) = .ok (outV (H.key L.length) 4 l.length) (H.ext (L ++ [outB 4 (l.map Evn.enc)])) := by
  show ot (A81 (H.ext L) [outV k 4 l.length]) (fun l => .ok (outV (H.ext L).nx 4 l.length) ((H.ext L).ext [outB 4 (l.map Evn.enc)])) = _
  rw [ot_eq (p := A81 (H.ext L) [outV k 4 l.length]) (x := l) ⟨k, rfl, hA.ext L, hl⟩, Heap.nx_ext, Heap.ext_append]
  rintro l' ⟨k', h1, h2, _⟩
  injection h1 with h1
  rw [← h1] at h2
  exact (evs_uniq (hA.ext L) h2).symm
theorem e37 {k k' : K} {xs : List Evn} {cs : List Cell} {L : List Blk} (h1 : Arr (H.ext L) 4 (outV k 4 xs.length) (xs.map Evn.enc)) (h2 : Arr (H.ext L) 5 (outV k' 5 cs.length) (cs.map Cell.enc)) (hx : xs.length < 100000) (hc : cs.length < 100000) :
    EA 192 [outV k 4 xs.length, outV k' 5 cs.length, .int .i64 24] (H.ext L) = .ok (.tup [outV (H.key (L.length + 1)) 4 (xs.drop (xs.length - 24)).length, outV (H.key L.length) 5 cs.length]) (H.ext (L ++ [outB 5 ((keepC (xs.take (xs.length - 24)) cs).map Cell.enc), outB 4 ((xs.drop (xs.length - 24)).map Evn.enc)])) := by
  show ot (A50 (H.ext L) [outV k 4 xs.length, outV k' 5 cs.length, .int .i64 24]) (fun q => .ok (.tup [outV ((H.ext L).key 1) 4 (q.1.drop (q.1.length - 24)).length, outV ((H.ext L).key 0) 5 q.2.length]) ((H.ext L).ext [outB 5 ((keepC (q.1.take (q.1.length - 24)) q.2).map Cell.enc), outB 4 ((q.1.drop (q.1.length - 24)).map Evn.enc)])) = _
  rw [ot_eq (p := A50 (H.ext L) [outV k 4 xs.length, outV k' 5 cs.length, .int .i64 24]) (x := (xs, cs)) ⟨_, _, rfl, h1, h2, hx, hc⟩, Heap.key_ext, Heap.key_ext, Heap.ext_append]
  · rfl
  rintro ⟨xs', ys'⟩ ⟨k, k', h3, h4, h5, _, _⟩
  injection h3 with h3 h6
  injection h6 with h6 _
  rw [← h3] at h4
  rw [← h6] at h5
  rw [evs_uniq h1 h4, cells_uniq h2 h5]
theorem f225_ok {k k' : K} {l : List Evn} {cs : List Cell} (hA : Arr H 4 (outV k 4 l.length) (l.map Evn.enc)) (hB : Arr H 5 (outV k' 5 cs.length) (cs.map Cell.enc)) (hl : l.length < 10000) (hc : cs.length < 10000) (e : Evn) :
    FnOk Tryz.prog 225 [outV k 4 l.length, outV k' 5 cs.length, .agg e.enc, .int .i64 24] H fun r G => r = .tup [outV (H.key 1) 4 ((l ++ [e]).drop ((l ++ [e]).length - 24)).length, outV (H.key 0) 5 cs.length] ∧ G = H.ext [outB 5 ((keepC ((l ++ [e]).take ((l ++ [e]).length - 24)) cs).map Cell.enc), outB 4 (((l ++ [e]).drop ((l ++ [e]).length - 24)).map Evn.enc)] := by
  refine FnOk.assume fun hok => ?_
  refine FnOk.dropW ?_
  obtain ⟨es, hes⟩ : ∃ es, es = l ++ [e] := ⟨_, rfl⟩
  rw [← hes]
  refine FnOk.of_WW Tryz.func225 rfl C225ok R225ok EA good_EA ?_
  have i81 := e81 hA (by omega)
  have hel : es.length = l.length + 1 := by rw [hes, List.length_append]; rfl
  simp only [go_sem, C225, Evn.enc, i81, ↓appR_hide]
  rw [appQ_out (i := 2) (j := 1) rfl (List.length_map ..) rfl (okBig_le (by omega) (by decide))]
  rw [← hel, show outB 4 (l.map Evn.enc ++ [[.str e.key, .int .i64 e.ver, .str e.val, .bool e.del]]) = outB 4 (es.map Evn.enc) by rw [hes, List.map_append]; rfl]
  have i37 := fun b0 b1 b2 => e37 (H := H) (k := H.key 3) (k' := k') (xs := es) (cs := cs) (L := [b0, b1, b2, outB 4 (es.map Evn.enc)]) (arr_outV (i := 3) rfl (List.length_map ..)) (hB.ext _) (by omega) (by omega)
  simp only [go_sem, i37]
  exact ⟨_, [4, 5], by simp only [outV_ren', go_sem], rfl, rfl, by decide, by simp only [go_sem, ↓outB_ren', Cell.map_rens, Evn.map_rens, implies_true]⟩
theorem frV_pos {v : AV} {k : K} {e n : Nat} (h : 0 < n) : frV v k e n = outV k e n := by
  unfold frV
  split
  · rfl
  · exact (outV_pos h).symm
theorem frL_pos {v : AV} {e : Nat} {xs : List (List AV)} (h : 0 < xs.length) : frL v e xs = [outB e xs] := by
  cases xs with
  | nil => exact absurd h (Nat.lt_irrefl 0)
  | cons x xs => unfold frL; split <;> rfl
theorem withL_pos (c : Cell) : ∀ l : List Cell, 0 < (withL l c).length
  | [] => by simp [withL]
  | d :: l => by
    unfold withL
    split
    · simp
    · split <;> simp
theorem f226_at {v : AV} {l : List Cell} (hA : Arr H 5 v (l.map Cell.enc)) (hl : l.length < 10000) {c : Cell} (hc : cellIs c) :
    FnOk Tryz.prog 226 [v, .agg c.enc] H fun r G => r = outV H.nx 5 (withL l c).length ∧ G = H.ext [outB 5 ((withL l c).map Cell.enc)] := by
  refine (f226_ok hA (by omega) c).mono ?_
  rintro r G ⟨rfl, rfl⟩
  have hp := withL_pos c l
  rw [withC, if_pos hc, frV_pos hp, frL_pos (by rw [List.length_map]; exact hp)]
  exact ⟨rfl, rfl⟩
def A139 (H : Heap) (args : List AV) (q : List Cell × Cell) : Prop := ∃ v, args = [v, .agg q.2.enc] ∧ Arr H 5 v (q.1.map Cell.enc) ∧ q.1.length < 10000 ∧ cellIs q.2
def A138 (H : Heap) (args : List AV) (q : List Evn × List Cell × Evn) : Prop := ∃ k k', args = [outV k 4 q.1.length, outV k' 5 q.2.1.length, .agg q.2.2.enc, .int .i64 24] ∧ Arr H 4 (outV k 4 q.1.length) (q.1.map Evn.enc) ∧ Arr H 5 (outV k' 5 q.2.1.length) (q.2.1.map Cell.enc) ∧ q.1.length < 10000 ∧ q.2.1.length < 10000
noncomputable def EG (f : FuncId) (args : List AV) (H : Heap) : RC :=
  match f with
  | 226 => ot (A139 H args) fun q => .ok (outV H.nx 5 (withL q.1 q.2).length) (H.ext [outB 5 ((withL q.1 q.2).map Cell.enc)])
  | 225 => ot (A138 H args) fun q => .ok (.tup [outV (H.key 1) 4 ((q.1 ++ [q.2.2]).drop ((q.1 ++ [q.2.2]).length - 24)).length, outV (H.key 0) 5 q.2.1.length]) (H.ext [outB 5 ((keepC ((q.1 ++ [q.2.2]).take ((q.1 ++ [q.2.2]).length - 24)) q.2.1).map Cell.enc), outB 4 (((q.1 ++ [q.2.2]).drop ((q.1 ++ [q.2.2]).length - 24)).map Evn.enc)])
  | 211 => match args with | [.nili] => .ok (.int .i64 0) H | _ => .fail
  | _ => .fail
theorem good_EG : Ev.Good Tryz.prog EG := by
  intro f args H r G he φ w args' ha hw
  refine (?_ : FnOk Tryz.prog f args H fun v' G' => v' = r ∧ G' = G).one φ w args' ha hw
  unfold EG at he
  split at he
  · obtain ⟨q, ⟨v, rfl, h1, h2, h3⟩, hz⟩ := ot_ok he
    clear he
    cases hz
    exact f226_at h1 h2 h3
  · obtain ⟨q, ⟨k, k', rfl, h1, h2, h3, h4⟩, hz⟩ := ot_ok he
    clear he
    cases hz
    exact f225_ok h1 h2 h3 h4 _
  · split at he
    · cases he; exact f211_ok none
    · cases he
  · cases he
theorem e139 {v : AV} {l : List Cell} (hA : Arr H 5 v (l.map Cell.enc)) (hl : l.length < 10000) {c : Cell} (hc : cellIs c) (L : List Blk) :
    EG 226 [v, .agg [.str c.key, .str c.value, .int .i64 c.ver, .bool c.del, .int .i64 c.floor]] (H.ext L) = .ok (outV (H.key L.length) 5 (withL l c).length) (H.ext (L ++ [outB 5 ((withL l c).map Cell.enc)])) := by
  show ot (A139 (H.ext L) [v, .agg c.enc]) (fun q => .ok (outV (H.ext L).nx 5 (withL q.1 q.2).length) ((H.ext L).ext [outB 5 ((withL q.1 q.2).map Cell.enc)])) = _
  rw [ot_eq (p := A139 (H.ext L) [v, .agg c.enc]) (x := (l, c)) ⟨v, rfl, hA.ext L, hl, hc⟩, Heap.nx_ext, Heap.ext_append]
  rintro ⟨l', c'⟩ ⟨v', h1, h2, _⟩
  injection h1 with h1 h3
  injection h3 with h3 _
  injection h3 with h3
  dsimp only at h1 h2 h3
  subst h1
  rw [cells_uniq (hA.ext L) h2, Cell.enc_one h3]
theorem e138 {k k' : K} {l : List Evn} {cs : List Cell} {L : List Blk} (hA : Arr (H.ext L) 4 (outV k 4 l.length) (l.map Evn.enc)) (hB : Arr (H.ext L) 5 (outV k' 5 cs.length) (cs.map Cell.enc)) (hl : l.length < 10000) (hc : cs.length < 10000) (e : Evn) :
    EG 225 [outV k 4 l.length, outV k' 5 cs.length, .agg [.str e.key, .int .i64 e.ver, .str e.val, .bool e.del], .int .i64 24] (H.ext L) = .ok (.tup [outV (H.key (L.length + 1)) 4 ((l ++ [e]).drop ((l ++ [e]).length - 24)).length, outV (H.key L.length) 5 cs.length]) (H.ext (L ++ [outB 5 ((keepC ((l ++ [e]).take ((l ++ [e]).length - 24)) cs).map Cell.enc), outB 4 (((l ++ [e]).drop ((l ++ [e]).length - 24)).map Evn.enc)])) := by
  show ot (A138 (H.ext L) [outV k 4 l.length, outV k' 5 cs.length, .agg e.enc, .int .i64 24]) (fun q => .ok (.tup [outV ((H.ext L).key 1) 4 ((q.1 ++ [q.2.2]).drop ((q.1 ++ [q.2.2]).length - 24)).length, outV ((H.ext L).key 0) 5 q.2.1.length]) ((H.ext L).ext [outB 5 ((keepC ((q.1 ++ [q.2.2]).take ((q.1 ++ [q.2.2]).length - 24)) q.2.1).map Cell.enc), outB 4 (((q.1 ++ [q.2.2]).drop ((q.1 ++ [q.2.2]).length - 24)).map Evn.enc)])) = _
  rw [ot_eq (p := A138 (H.ext L) [outV k 4 l.length, outV k' 5 cs.length, .agg e.enc, .int .i64 24]) (x := (l, cs, e)) ⟨_, _, rfl, hA, hB, hl, hc⟩, Heap.key_ext, Heap.key_ext, Heap.ext_append]
  · rfl
  rintro ⟨l', cs', e'⟩ ⟨k, k', h1, h2, h3, _⟩
  injection h1 with h1 h4
  injection h4 with h4 h5
  injection h5 with h5 _
  injection h5 with h5
  dsimp only at h1 h2 h3 h4 h5
  rw [← h1] at h2
  rw [← h4] at h3
  rw [evs_uniq hA h2, cells_uniq hB h3, Evn.enc_one h5]
theorem e109 (H : Heap) : EG 211 [.nili] H = .ok (.int .i64 0) H := rfl
theorem f210_put {s : Sh} (h : s.ok H) {ke : K} (hev : s.ev = outV ke 4 s.evs.length) (hel : s.evs.length < 9000) (hcl : s.cells.length < 9000) {k v : List Nat} (hk : isKey k) (hv : (v.length : Int) ≤ 12) (hI : isHist s.evs s.cells) (hm : (getL s.cells k).1.ver < 1000000000000) :
    FnOk Tryz.prog 210 [.agg s.enc, .str k, .str v, .bool false] H fun r G => r = .tup [.agg (addS s (nextC s.cells k v false) (nextE s.cells k v false) (H.key 0) (H.key 1)).enc, .agg (nextC s.cells k v false).enc, .nili] ∧ G = H.ext (addB s (nextC s.cells k v false) (nextE s.cells k v false)) := by
  refine FnOk.dropW ?_
  refine FnOk.of_WW Tryz.func210 rfl C210ok R210ok EG good_EG ?_
  obtain ⟨c1, c2, c3, c4, _⟩ := cell_of hI k
  have hput := hist_put hI hk hv (d := false) (fun h => by cases h) hm
  have hw : refW s.cells (nextC s.cells k v false) = withL s.cells (nextC s.cells k v false) := refW_eq hI.1 _
  have hwl := withL_len (nextC s.cells k v false) s.cells
  have hcell : cellIs (nextC s.cells k v false) := isIdx_all hput.1 _ (getL_mem getL_withL_self).1
  have hA := h.e
  rw [hev] at hA
  obtain ⟨cs, hcs⟩ : ∃ cs, cs = withL s.cells (nextC s.cells k v false) := ⟨_, rfl⟩
  have i139 := e139 h.c (by omega) hcell
  have i138 := fun b0 b1 b2 b3 b4 b5 => e138 (H := H) (k := ke) (k' := H.key 6) (l := s.evs) (cs := cs) (L := [b0, b1, b2, b3, b4, b5, outB 5 (cs.map Cell.enc)]) (hA.ext _) (arr_outV (i := 6) rfl (List.length_map ..)) (by omega) (by rw [hcs]; omega) (nextE s.cells k v false)
  have dren := h.d.ren
  unfold addS addB
  rw [hw, ← hcs]
  rw [← hcs] at i139
  simp only [nextC, nextE] at i139 i138
  simp only [go_sem, C210, Sh.enc, hev]
  refine CL.of (f154_ok (h.c.ext _) h.cl k) ?_
  rintro _ _ ⟨rfl, rfl⟩
  simp only [go_sem, Cell.enc]
  refine CL.of (f223_ok (c := (getL s.cells k).1) c2 hm hv) ?_
  rintro _ _ ⟨rfl, rfl⟩
  simp only [go_sem, Cell.enc, Evn.enc, c1, i139, i138]
  refine ⟨_, [7, 8], by simp only [nextC, nextE, Sh.enc, Cell.enc, c1, outV_ren', dren, go_sem], rfl, rfl, by decide, by simp only [nextC, nextE, go_sem, ↓outB_ren', Cell.map_rens, Evn.map_rens, implies_true]⟩
end Go.Proofs
/- the code's Do: puts, gets, sets by version: walked. -/

set_option linter.all false
set_option linter.all false
set_option maxRecDepth 100000
namespace Go.Proofs
open Go Go.Ev
variable {H : Heap}

theorem f179_put {s : Sh} (h : s.ok H) {ke : K} (hev : s.ev = outV ke 4 s.evs.length) (hel : s.evs.length < 9000) (hcl : s.cells.length < 9000) {k v : List Nat} (hk : isKey k) (hv : (v.length : Int) ≤ 12) (hI : isHist s.evs s.cells) (hm : (getL s.cells k).1.ver < 1000000000000) :
    FnOk Tryz.prog 179 [.agg s.enc, .str k, .str v, .bool false] H fun r G => r = .tup [.agg (addS s (nextC s.cells k v false) (nextE s.cells k v false) (H.key 0) (H.key 1)).enc, .agg [.int .i64 0, .str [], .int .i64 ((getL s.cells k).1.ver + 1), .nils]] ∧ G = H.ext (addB s (nextC s.cells k v false) (nextE s.cells k v false)) := by
  refine FnOk.dropW ?_
  refine FnOk.of_WW Tryz.func179 rfl C179ok R179ok EG good_EG ?_
  have dren := h.d.ren
  simp only [go_sem, C179, Sh.enc]
  refine CL.of (f210_put (h.ext _) hev hel hcl hk hv hI hm) ?_
  rintro _ _ ⟨rfl, rfl⟩
  simp only [go_sem, Sh.enc, addS, addB, Heap.key_ext, Cell.enc, nextC, nextE, e109]
  exact ⟨_, [3, 4], by simp only [addS, nextC, nextE, Sh.enc, outV_ren', dren, go_sem], rfl, rfl, by decide, by simp only [addB, nextC, nextE, go_sem, ↓outB_ren', Cell.map_rens, Evn.map_rens, implies_true]⟩
theorem f136_put {s : Sh} (h : s.ok H) {ke : K} (hev : s.ev = outV ke 4 s.evs.length) (hel : s.evs.length < 9000) (hcl : s.cells.length < 9000) {k v : List Nat} (hk : isKey k) (hv : (v.length : Int) ≤ 12) (hI : isHist s.evs s.cells) (hm : (getL s.cells k).1.ver < 1000000000000) :
    FnOk Tryz.prog 136 [.agg s.enc, .agg [.int .i64 2, .str k, .str [], .str v, .int .i64 0, .nils]] H fun r G => r = .tup [.agg (addS s (nextC s.cells k v false) (nextE s.cells k v false) (H.key 0) (H.key 1)).enc, .agg [.int .i64 0, .str [], .int .i64 ((getL s.cells k).1.ver + 1), .nils]] ∧ G = H.ext (addB s (nextC s.cells k v false) (nextE s.cells k v false)) := by
  refine FnOk.dropW ?_
  refine FnOk.of_WW Tryz.func136 rfl C136ok R136ok E0 good_E0 ?_
  have dren := h.d.ren
  simp only [go_sem, C136, Sh.enc]
  refine CL.of (f67_put hk hv) ?_
  rintro _ _ ⟨rfl, rfl⟩
  simp only [go_sem]
  refine CL.of (f179_put (h.ext _) hev hel hcl hk hv hI hm) ?_
  rintro _ _ ⟨rfl, rfl⟩
  simp only [go_sem, Sh.enc, addS, addB, Heap.key_ext]
  exact ⟨_, [4, 5], by simp only [addS, nextC, nextE, Sh.enc, outV_ren', dren, go_sem], rfl, rfl, by decide, by simp only [addB, nextC, nextE, go_sem, ↓outB_ren', Cell.map_rens, Evn.map_rens, implies_true]⟩
end Go.Proofs
/- the code's Ask: walked. -/

set_option linter.all false
set_option linter.all false
set_option maxRecDepth 100000
namespace Go.Proofs
open Go Go.Ev
variable {H : Heap}

theorem rows_le {l : List Dn} (h : ∀ d ∈ l, d.an.rows = []) : ∀ d ∈ l, (d.an.rows.length : Int) ≤ 16 := fun d hd => by rw [h d hd]; decide
theorem stands_rows {l : List Dn} (h : ∀ d ∈ l, d.an.rows = []) (s id : Int) : (stands l s id).1.rows = [] := by
  unfold stands
  cases hf : findD l s with
  | none => rfl
  | some d =>
    dsimp only
    split
    · rfl
    · split
      · exact h d (findD_mem hf).1
      · rfl
theorem f86_put {s : Sh} (h : s.ok H) {ke : K} (hev : s.ev = outV ke 4 s.evs.length) (hel : s.evs.length < 9000) (hcl : s.cells.length < 9000) {k v : List Nat} (hk : isKey k) (hv : (v.length : Int) ≤ 12) (hI : isHist s.evs s.cells) (hm : (getL s.cells k).1.ver < 1000000000000) (hdl : s.done.length < 9000) (hup : upD s.done) (hrw : ∀ d ∈ s.done, d.an.rows = []) {ses id : Int} (hn : (stands s.done ses id).2 = 0) :
    FnOk Tryz.prog 86 [.agg s.enc, .int .i64 ses, .int .i64 id, .agg [.int .i64 2, .str k, .str [], .str v, .int .i64 0, .nils]] H fun r G => r = .tup [.agg (askS s k v ses id (H.key 0) (H.key 1) (H.key 2)).enc, .agg [.int .i64 0, .str [], .int .i64 ((getL s.cells k).1.ver + 1), .nils], .int .i64 0] ∧ G = H.ext (askB s k v ses id) := by
  refine FnOk.dropW ?_
  refine FnOk.of_WW Tryz.func86 rfl C86ok R86ok E0 good_E0 ?_
  have hdok := withD_ok h.dok (putA_ok H ((getL s.cells k).1.ver + 1)) (d := ⟨ses, id, putA ((getL s.cells k).1.ver + 1)⟩)
  have drn := hdok.rens
  simp only [go_sem, C86, Sh.enc]
  refine CL.of (f135_ok (h.d.ext _) (h.dok.ext _) (by omega) hup (rows_le hrw) ses id) ?_
  rintro _ _ ⟨z, rfl, rfl⟩
  have hrr := stands_rows hrw ses id
  cases z
  all_goals
    simp only [go_sem, ansV, hn, hrr, zV, zB]
    refine CL.of (f136_put (h.ext _) hev hel hcl hk hv hI hm) ?_
    rintro _ _ ⟨rfl, rfl⟩
    simp only [go_sem, Sh.enc, addS, addB, Heap.key_ext]
    refine CL.of (f137_put k v) ?_
    rintro _ _ ⟨rfl, rfl⟩
    simp only [go_sem, Sh.enc]
    refine CL.of (f138_ok (d := ⟨ses, id, putA ((getL s.cells k).1.ver + 1)⟩) (h.d.ext _) (h.dok.ext _) (putA_ok _ _) hup (by omega)) ?_
    rintro _ _ ⟨rfl, rfl⟩
    simp only [go_sem, Sh.enc]
    exact ⟨_, [6, 7, 9], by simp only [askS, addS, nextC, nextE, Sh.enc, outV_ren', go_sem], rfl, rfl, by decide, by simp only [askB, addB, nextC, nextE, go_sem, ↓outB_ren', Cell.map_rens, Evn.map_rens, drn, implies_true]⟩
end Go.Proofs
/- The laid-out code of the functions that are walked. Printed by a program. -/

set_option linter.all false
set_option maxRecDepth 100000
namespace Go.Proofs
open Go Go.Ev K
noncomputable def C4 := mkC Tryz.prog Tryz.f4 179
theorem C4ok : CCok Tryz.prog Tryz.f4 179 C4 := mkC_ok _
@[go_sem] theorem call4 (a H) : callC Tryz.prog 4 a H = .call 4 a := callC_ok (by kernel_rfl) a H
theorem R4ok : resKs Tryz.prog Tryz.f4.results.toList = some [(RK.tmp z.o.i)] := by kernel_rfl

noncomputable def C16 := mkC Tryz.prog Tryz.f16 146
theorem C16ok : CCok Tryz.prog Tryz.f16 146 C16 := mkC_ok _
@[go_sem] theorem call16 (a H) : callC Tryz.prog 16 a H = .call 16 a := callC_ok (by kernel_rfl) a H
theorem R16ok : resKs Tryz.prog Tryz.f16.results.toList = some [(RK.tmp z.i)] := by kernel_rfl

noncomputable def C19 := mkC Tryz.prog Tryz.f19 52
theorem C19ok : CCok Tryz.prog Tryz.f19 52 C19 := mkC_ok _
@[go_sem] theorem call19 (a H) : callC Tryz.prog 19 a H = .call 19 a := callC_ok (by kernel_rfl) a H
theorem R19ok : resKs Tryz.prog Tryz.f19.results.toList = some [(RK.tmp z.o.i)] := by kernel_rfl

noncomputable def C24 := mkC Tryz.prog Tryz.f24 65
theorem C24ok : CCok Tryz.prog Tryz.f24 65 C24 := mkC_ok _
@[go_sem] theorem call24 (a H) : callC Tryz.prog 24 a H = .call 24 a := callC_ok (by kernel_rfl) a H
theorem R24ok : resKs Tryz.prog Tryz.f24.results.toList = some [(RK.tmp z.i)] := by kernel_rfl

noncomputable def C31 := mkC Tryz.prog Tryz.f31 128
theorem C31ok : CCok Tryz.prog Tryz.f31 128 C31 := mkC_ok _
@[go_sem] theorem call31 (a H) : callC Tryz.prog 31 a H = .call 31 a := callC_ok (by kernel_rfl) a H
theorem R31ok : resKs Tryz.prog Tryz.f31.results.toList = some [(RK.tmp z.i)] := by kernel_rfl

noncomputable def C40 := mkC Tryz.prog Tryz.f40 84
theorem C40ok : CCok Tryz.prog Tryz.f40 84 C40 := mkC_ok _
@[go_sem] theorem call40 (a H) : callC Tryz.prog 40 a H = .call 40 a := callC_ok (by kernel_rfl) a H
theorem R40ok : resKs Tryz.prog Tryz.f40.results.toList = some [(RK.tmp z.o.i)] := by kernel_rfl

noncomputable def C47 := mkC Tryz.prog Tryz.f47 25
theorem C47ok : CCok Tryz.prog Tryz.f47 25 C47 := mkC_ok _
@[go_sem] theorem call47 (a H) : callC Tryz.prog 47 a H = .call 47 a := callC_ok (by kernel_rfl) a H
theorem R47ok : resKs Tryz.prog Tryz.f47.results.toList = some [(RK.tmp z.i)] := by kernel_rfl

noncomputable def C48 := mkC Tryz.prog Tryz.f48 8
theorem C48ok : CCok Tryz.prog Tryz.f48 8 C48 := mkC_ok _
@[go_sem] theorem call48 (a H) : callC Tryz.prog 48 a H = .call 48 a := callC_ok (by kernel_rfl) a H
theorem R48ok : resKs Tryz.prog Tryz.f48.results.toList = some [(RK.tmp z.i)] := by kernel_rfl

noncomputable def C49 := mkC Tryz.prog Tryz.f49 4
theorem C49ok : CCok Tryz.prog Tryz.f49 4 C49 := mkC_ok _
@[go_sem] theorem call49 (a H) : callC Tryz.prog 49 a H = .call 49 a := callC_ok (by kernel_rfl) a H
theorem R49ok : resKs Tryz.prog Tryz.f49.results.toList = some [(RK.tmp z.i)] := by kernel_rfl

noncomputable def C50 := mkC Tryz.prog Tryz.f50 57
theorem C50ok : CCok Tryz.prog Tryz.f50 57 C50 := mkC_ok _
@[go_sem] theorem call50 (a H) : callC Tryz.prog 50 a H = .call 50 a := callC_ok (by kernel_rfl) a H
theorem R50ok : resKs Tryz.prog Tryz.f50.results.toList = some [(RK.tmp z.i)] := by kernel_rfl

noncomputable def C51 := mkC Tryz.prog Tryz.f51 24
theorem C51ok : CCok Tryz.prog Tryz.f51 24 C51 := mkC_ok _
@[go_sem] theorem call51 (a H) : callC Tryz.prog 51 a H = .call 51 a := callC_ok (by kernel_rfl) a H
theorem R51ok : resKs Tryz.prog Tryz.f51.results.toList = some [(RK.tmp z.i)] := by kernel_rfl

noncomputable def C53 := mkC Tryz.prog Tryz.f53 26
theorem C53ok : CCok Tryz.prog Tryz.f53 26 C53 := mkC_ok _
@[go_sem] theorem call53 (a H) : callC Tryz.prog 53 a H = .call 53 a := callC_ok (by kernel_rfl) a H
theorem R53ok : resKs Tryz.prog Tryz.f53.results.toList = some [(RK.tmp z.o.i)] := by kernel_rfl

noncomputable def C54 := mkC Tryz.prog Tryz.f54 26
theorem C54ok : CCok Tryz.prog Tryz.f54 26 C54 := mkC_ok _
@[go_sem] theorem call54 (a H) : callC Tryz.prog 54 a H = .call 54 a := callC_ok (by kernel_rfl) a H
theorem R54ok : resKs Tryz.prog Tryz.f54.results.toList = some [(RK.tmp z.o.i)] := by kernel_rfl

noncomputable def C55 := mkC Tryz.prog Tryz.f55 55
theorem C55ok : CCok Tryz.prog Tryz.f55 55 C55 := mkC_ok _
@[go_sem] theorem call55 (a H) : callC Tryz.prog 55 a H = .call 55 a := callC_ok (by kernel_rfl) a H
theorem R55ok : resKs Tryz.prog Tryz.f55.results.toList = some [(RK.tmp z.o.i)] := by kernel_rfl

noncomputable def C61 := mkC Tryz.prog Tryz.f61 25
theorem C61ok : CCok Tryz.prog Tryz.f61 25 C61 := mkC_ok _
@[go_sem] theorem call61 (a H) : callC Tryz.prog 61 a H = .call 61 a := callC_ok (by kernel_rfl) a H
theorem R61ok : resKs Tryz.prog Tryz.f61.results.toList = some [(RK.tmp z.i)] := by kernel_rfl

noncomputable def C62 := mkC Tryz.prog Tryz.f62 106
theorem C62ok : CCok Tryz.prog Tryz.f62 106 C62 := mkC_ok _
@[go_sem] theorem call62 (a H) : callC Tryz.prog 62 a H = .call 62 a := callC_ok (by kernel_rfl) a H
theorem R62ok : resKs Tryz.prog Tryz.f62.results.toList = some [(RK.tmp z.o.i)] := by kernel_rfl

noncomputable def C63 := mkC Tryz.prog Tryz.f63 67
theorem C63ok : CCok Tryz.prog Tryz.f63 67 C63 := mkC_ok _
@[go_sem] theorem call63 (a H) : callC Tryz.prog 63 a H = .call 63 a := callC_ok (by kernel_rfl) a H
theorem R63ok : resKs Tryz.prog Tryz.f63.results.toList = some [(RK.tmp z.i)] := by kernel_rfl

noncomputable def C64 := mkC Tryz.prog Tryz.f64 28
theorem C64ok : CCok Tryz.prog Tryz.f64 28 C64 := mkC_ok _
@[go_sem] theorem call64 (a H) : callC Tryz.prog 64 a H = .call 64 a := callC_ok (by kernel_rfl) a H
theorem R64ok : resKs Tryz.prog Tryz.f64.results.toList = some [(RK.tmp z.o.i)] := by kernel_rfl

noncomputable def C65 := mkC Tryz.prog Tryz.f65 11
theorem C65ok : CCok Tryz.prog Tryz.f65 11 C65 := mkC_ok _
@[go_sem] theorem call65 (a H) : callC Tryz.prog 65 a H = .call 65 a := callC_ok (by kernel_rfl) a H
theorem R65ok : resKs Tryz.prog Tryz.f65.results.toList = some [(RK.tmp z.i)] := by kernel_rfl

noncomputable def C73 := mkC Tryz.prog Tryz.f73 11
theorem C73ok : CCok Tryz.prog Tryz.f73 11 C73 := mkC_ok _
@[go_sem] theorem call73 (a H) : callC Tryz.prog 73 a H = .call 73 a := callC_ok (by kernel_rfl) a H
theorem R73ok : resKs Tryz.prog Tryz.f73.results.toList = some [(RK.tmp z.i)] := by kernel_rfl

noncomputable def C78 := mkC Tryz.prog Tryz.f78 59
theorem C78ok : CCok Tryz.prog Tryz.f78 59 C78 := mkC_ok _
@[go_sem] theorem call78 (a H) : callC Tryz.prog 78 a H = .call 78 a := callC_ok (by kernel_rfl) a H
theorem R78ok : resKs Tryz.prog Tryz.f78.results.toList = some [(RK.cell z.i true 8), (RK.tmp z.o.o)] := by kernel_rfl

noncomputable def C99 := mkC Tryz.prog Tryz.f99 77
theorem C99ok : CCok Tryz.prog Tryz.f99 77 C99 := mkC_ok _
@[go_sem] theorem call99 (a H) : callC Tryz.prog 99 a H = .call 99 a := callC_ok (by kernel_rfl) a H
theorem R99ok : resKs Tryz.prog Tryz.f99.results.toList = some [(RK.tmp z.i)] := by kernel_rfl

noncomputable def C100 := mkC Tryz.prog Tryz.f100 19
theorem C100ok : CCok Tryz.prog Tryz.f100 19 C100 := mkC_ok _
@[go_sem] theorem call100 (a H) : callC Tryz.prog 100 a H = .call 100 a := callC_ok (by kernel_rfl) a H
theorem R100ok : resKs Tryz.prog Tryz.f100.results.toList = some [(RK.tmp z.i)] := by kernel_rfl

noncomputable def C105 := mkC Tryz.prog Tryz.f105 52
theorem C105ok : CCok Tryz.prog Tryz.f105 52 C105 := mkC_ok _
@[go_sem] theorem call105 (a H) : callC Tryz.prog 105 a H = .call 105 a := callC_ok (by kernel_rfl) a H
theorem R105ok : resKs Tryz.prog Tryz.f105.results.toList = some [(RK.tmp z.o.i)] := by kernel_rfl

noncomputable def C108 := mkC Tryz.prog Tryz.f108 34
theorem C108ok : CCok Tryz.prog Tryz.f108 34 C108 := mkC_ok _
@[go_sem] theorem call108 (a H) : callC Tryz.prog 108 a H = .call 108 a := callC_ok (by kernel_rfl) a H
theorem R108ok : resKs Tryz.prog Tryz.f108.results.toList = some [(RK.tmp z.i)] := by kernel_rfl

noncomputable def C109 := mkC Tryz.prog Tryz.f109 26
theorem C109ok : CCok Tryz.prog Tryz.f109 26 C109 := mkC_ok _
@[go_sem] theorem call109 (a H) : callC Tryz.prog 109 a H = .call 109 a := callC_ok (by kernel_rfl) a H
theorem R109ok : resKs Tryz.prog Tryz.f109.results.toList = some [(RK.cell z.o.i true 5), (RK.tmp z.i.o)] := by kernel_rfl

noncomputable def C110 := mkC Tryz.prog Tryz.f110 13
theorem C110ok : CCok Tryz.prog Tryz.f110 13 C110 := mkC_ok _
@[go_sem] theorem call110 (a H) : callC Tryz.prog 110 a H = .call 110 a := callC_ok (by kernel_rfl) a H
theorem R110ok : resKs Tryz.prog Tryz.f110.results.toList = some [(RK.tmp z.i)] := by kernel_rfl

noncomputable def C119 := mkC Tryz.prog Tryz.f119 18
theorem C119ok : CCok Tryz.prog Tryz.f119 18 C119 := mkC_ok _
@[go_sem] theorem call119 (a H) : callC Tryz.prog 119 a H = .call 119 a := callC_ok (by kernel_rfl) a H
theorem R119ok : resKs Tryz.prog Tryz.f119.results.toList = some [(RK.tmp z.i)] := by kernel_rfl

noncomputable def C120 := mkC Tryz.prog Tryz.f120 19
theorem C120ok : CCok Tryz.prog Tryz.f120 19 C120 := mkC_ok _
@[go_sem] theorem call120 (a H) : callC Tryz.prog 120 a H = .call 120 a := callC_ok (by kernel_rfl) a H
theorem R120ok : resKs Tryz.prog Tryz.f120.results.toList = some [(RK.tmp z.i)] := by kernel_rfl

noncomputable def C122 := mkC Tryz.prog Tryz.f122 29
theorem C122ok : CCok Tryz.prog Tryz.f122 29 C122 := mkC_ok _
@[go_sem] theorem call122 (a H) : callC Tryz.prog 122 a H = .call 122 a := callC_ok (by kernel_rfl) a H
theorem R122ok : resKs Tryz.prog Tryz.f122.results.toList = some [(RK.tmp z.i)] := by kernel_rfl

noncomputable def C123 := mkC Tryz.prog Tryz.f123 29
theorem C123ok : CCok Tryz.prog Tryz.f123 29 C123 := mkC_ok _
@[go_sem] theorem call123 (a H) : callC Tryz.prog 123 a H = .call 123 a := callC_ok (by kernel_rfl) a H
theorem R123ok : resKs Tryz.prog Tryz.f123.results.toList = some [(RK.tmp z.i)] := by kernel_rfl

noncomputable def C124 := mkC Tryz.prog Tryz.f124 28
theorem C124ok : CCok Tryz.prog Tryz.f124 28 C124 := mkC_ok _
@[go_sem] theorem call124 (a H) : callC Tryz.prog 124 a H = .call 124 a := callC_ok (by kernel_rfl) a H
theorem R124ok : resKs Tryz.prog Tryz.f124.results.toList = some [(RK.tmp z.o.i)] := by kernel_rfl

noncomputable def C126 := mkC Tryz.prog Tryz.f126 42
theorem C126ok : CCok Tryz.prog Tryz.f126 42 C126 := mkC_ok _
@[go_sem] theorem call126 (a H) : callC Tryz.prog 126 a H = .call 126 a := callC_ok (by kernel_rfl) a H
theorem R126ok : resKs Tryz.prog Tryz.f126.results.toList = some [(RK.tmp z.i), (RK.tmp z.o.o), (RK.tmp z.o.i)] := by kernel_rfl

noncomputable def C127 := mkC Tryz.prog Tryz.f127 74
theorem C127ok : CCok Tryz.prog Tryz.f127 74 C127 := mkC_ok _
@[go_sem] theorem call127 (a H) : callC Tryz.prog 127 a H = .call 127 a := callC_ok (by kernel_rfl) a H
theorem R127ok : resKs Tryz.prog Tryz.f127.results.toList = some [(RK.cell z.i true 8)] := by kernel_rfl

noncomputable def C151 := mkC Tryz.prog Tryz.f151 44
theorem C151ok : CCok Tryz.prog Tryz.f151 44 C151 := mkC_ok _
@[go_sem] theorem call151 (a H) : callC Tryz.prog 151 a H = .call 151 a := callC_ok (by kernel_rfl) a H
theorem R151ok : resKs Tryz.prog Tryz.f151.results.toList = some [(RK.tmp z.i)] := by kernel_rfl

noncomputable def C160 := mkC Tryz.prog Tryz.f160 21
theorem C160ok : CCok Tryz.prog Tryz.f160 21 C160 := mkC_ok _
@[go_sem] theorem call160 (a H) : callC Tryz.prog 160 a H = .call 160 a := callC_ok (by kernel_rfl) a H
theorem R160ok : resKs Tryz.prog Tryz.f160.results.toList = some [(RK.tmp z.i), (RK.tmp z.o.o), (RK.tmp z.o.i)] := by kernel_rfl

noncomputable def C161 := mkC Tryz.prog Tryz.f161 20
theorem C161ok : CCok Tryz.prog Tryz.f161 20 C161 := mkC_ok _
@[go_sem] theorem call161 (a H) : callC Tryz.prog 161 a H = .call 161 a := callC_ok (by kernel_rfl) a H
theorem R161ok : resKs Tryz.prog Tryz.f161.results.toList = some [(RK.tmp z.i)] := by kernel_rfl

noncomputable def C162 := mkC Tryz.prog Tryz.f162 20
theorem C162ok : CCok Tryz.prog Tryz.f162 20 C162 := mkC_ok _
@[go_sem] theorem call162 (a H) : callC Tryz.prog 162 a H = .call 162 a := callC_ok (by kernel_rfl) a H
theorem R162ok : resKs Tryz.prog Tryz.f162.results.toList = some [(RK.tmp z.i)] := by kernel_rfl

noncomputable def C163 := mkC Tryz.prog Tryz.f163 22
theorem C163ok : CCok Tryz.prog Tryz.f163 22 C163 := mkC_ok _
@[go_sem] theorem call163 (a H) : callC Tryz.prog 163 a H = .call 163 a := callC_ok (by kernel_rfl) a H
theorem R163ok : resKs Tryz.prog Tryz.f163.results.toList = some [(RK.tmp z.i)] := by kernel_rfl

noncomputable def C164 := mkC Tryz.prog Tryz.f164 30
theorem C164ok : CCok Tryz.prog Tryz.f164 30 C164 := mkC_ok _
@[go_sem] theorem call164 (a H) : callC Tryz.prog 164 a H = .call 164 a := callC_ok (by kernel_rfl) a H
theorem R164ok : resKs Tryz.prog Tryz.f164.results.toList = some [(RK.tmp z.i)] := by kernel_rfl

noncomputable def C165 := mkC Tryz.prog Tryz.f165 21
theorem C165ok : CCok Tryz.prog Tryz.f165 21 C165 := mkC_ok _
@[go_sem] theorem call165 (a H) : callC Tryz.prog 165 a H = .call 165 a := callC_ok (by kernel_rfl) a H
theorem R165ok : resKs Tryz.prog Tryz.f165.results.toList = some [(RK.cell z.i true 4)] := by kernel_rfl

noncomputable def C200 := mkC Tryz.prog Tryz.f200 22
theorem C200ok : CCok Tryz.prog Tryz.f200 22 C200 := mkC_ok _
@[go_sem] theorem call200 (a H) : callC Tryz.prog 200 a H = .call 200 a := callC_ok (by kernel_rfl) a H
theorem R200ok : resKs Tryz.prog Tryz.f200.results.toList = some [(RK.tmp z.i.i)] := by kernel_rfl

noncomputable def C201 := mkC Tryz.prog Tryz.f201 50
theorem C201ok : CCok Tryz.prog Tryz.f201 50 C201 := mkC_ok _
@[go_sem] theorem call201 (a H) : callC Tryz.prog 201 a H = .call 201 a := callC_ok (by kernel_rfl) a H
theorem R201ok : resKs Tryz.prog Tryz.f201.results.toList = some [(RK.cell z.i true 4), (RK.tmp z.o.o), (RK.tmp z.o.i)] := by kernel_rfl

end Go.Proofs
