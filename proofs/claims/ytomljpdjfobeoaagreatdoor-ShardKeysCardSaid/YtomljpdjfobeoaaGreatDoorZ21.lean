/- The told package variable: what a law's condition gives; a world that meets it. -/
import Derived.Test.YtomljpdjfobeoaaGreatDoorZ20
import Derived.JoinedOf
set_option linter.all false
set_option maxRecDepth 100000
namespace Go.Proofs.YtomljpdjfobeoaaGreatDoor
open Go Go.Ev Go.ChangeShapes Go.WideShapes Go.ChangeAt Go.RowKit
theorem Tryz.own : ownKnob Tryz.prog.godebug = none := by kernel_rfl
theorem Tryz.laidOut : laidOutB Tryz.prog = true := by kernel_rfl
theorem Tryz.et : Tryz.prog.globalNamed "errors.errorType" = some 0 := by kernel_rfl
theorem Tryz.rt : (Tryz.prog.cutTypes.find? (·.1 == "internal/reflectlite.rtype")).map (·.2) = some 169 := by kernel_rfl
theorem Tryz.size : Tryz.prog.types.size = 240 := by kernel_rfl
theorem Tryz.oneRow : ((List.range 240).filter fun t => Tryz.prog.rowNamed t [101, 114, 114, 111, 114]) = [32] := by kernel_rfl
/-- what is told -/
def laid0 : List (String × DataW Unit) := [("errors.errorType", Rows.laid_errors_errorType)]
/-- the variable's one cell -/
theorem handle_of_laid {W : World} (h : laidMetH Tryz.prog laid0 W) : W.cell? ⟨0, 0, none⟩ = some (.iface 169 (.agg #[.pointer (some ⟨1, 32, none⟩)])) := by
  have h' : laidMet Tryz.prog [] W ∧ handlesMet Tryz.prog laid0 W := h
  obtain ⟨name, u, ty, e1, e2, e3, e4, e5⟩ := h'.2 _ (List.mem_singleton.2 rfl)
  have en : name = [101, 114, 114, 111, 114] := (Option.some.inj e1).symm
  subst en
  obtain rfl := Option.some.inj (Tryz.rt.symm.trans e2)
  have hm : ty ∈ (List.range 240).filter fun t => Tryz.prog.rowNamed t [101, 114, 114, 111, 114] := List.mem_filter.2 ⟨List.mem_range.2 (by rw [← Tryz.size]; exact e3), e4⟩
  rw [Tryz.oneRow] at hm
  obtain rfl := List.mem_singleton.1 hm
  have hh : typeHandle Tryz.prog 32 = .pointer (some ⟨1, 32, none⟩) := by kernel_rfl
  rw [hh] at e5
  simpa using World.var?_cell Tryz.et e5 0
theorem rom_of_laid {W : World} (h : laidMetH Tryz.prog laid0 W) : ∀ g v, (g, v) ∈ romOf → W.cell? ⟨g, 0, none⟩ = some v := by
  intro g v hm
  have hm : (g, v) ∈ [(0, Value.iface 169 (.agg #[.pointer (some ⟨1, 32, none⟩)]))] := hm
  cases List.mem_singleton.1 hm
  exact handle_of_laid h
/-- a world that meets it -/
noncomputable def laidWorld (os : Os) : World :=
  let w0 := World.holding Tryz.prog os ⟨#[], #[], []⟩
  { w0 with heap := w0.heap.modify 0 fun
      | .cells _ t frozen => .cells #[.iface 169 (.agg #[.pointer (some ⟨1, 32, none⟩)])] t frozen
      | o => o }
theorem laidWorld_met (os : Os) (args : Array Value) : laidMetH Tryz.prog laid0 ((laidWorld os).forCall (fun _ _ => 0) ⟨#[], args, []⟩).memory :=
  laidMetH_of_parts (laidMet_nil _ _) (by kernel_rfl)
end Go.Proofs.YtomljpdjfobeoaaGreatDoor
/- once: one more in its session's place as the law has it: walked. -/

set_option linter.all false
set_option linter.all false
set_option maxRecDepth 100000
namespace Go.Proofs
open Go Go.Ev
variable {H : Heap}

def keepsD (l : List Dn) (d : Dn) : Prop := ∃ x, findD l d.ses = some x ∧ d.id < x.id
end Go.Proofs
/- once: as the law has it, how a request stands, both joined: walked. -/

set_option linter.all false
set_option linter.all false
set_option maxRecDepth 100000
namespace Go.Proofs
open Go Go.Ev
variable {H : Heap}

def freshD (a : List Dn) (c : Dn) : Prop := ∀ x, findD a c.ses = some x → x.id < c.id
noncomputable instance (a : List Dn) (c : Dn) : Decidable (freshD a c) := Classical.propDecidable _
end Go.Proofs
/- the document's shards: small things: walked. -/


set_option linter.all false
set_option linter.all false
set_option maxRecDepth 100000
namespace Go.Proofs
open Go Go.Ev
variable {H : Heap}

/-- two shards that say the same -/
def sameSh (a b : Sh) : Prop := a.id = b.id ∧ a.ep = b.ep ∧ a.fr = b.fr ∧ a.to = b.to ∧ a.frz = b.frz ∧ a.cells = b.cells ∧ a.evs = b.evs ∧ a.done = b.done
end Go.Proofs
/- the document's parts of a shard: walked. -/

set_option linter.all false
set_option linter.all false
set_option maxRecDepth 100000
namespace Go.Proofs
open Go Go.Ev
variable {H : Heap}

theorem appQ_out {L : List Blk} {i j n esz bytes : Nat} {xs : List (List AV)} {y : List AV} {wr ex : Bool} {cap : Nat} (hi : L[i]? = some (outB esz xs)) (hn : xs.length = n) (hj : L[j]? = some (.row wr esz [y])) (hb : okBig (n + 1) bytes = true) :
    appQ esz bytes (some (outV (H.key i) esz n)) (some (.slice (H.key j) 0 1 esz ex cap)) (H.ext L) = .val (outV (H.key L.length) esz (n + 1)) (H.ext (L.set i .dead ++ [outB esz (xs ++ [y])])) := by
  show appR esz bytes (.c _) (.c _) .lf (H.ext L) = _
  exact appR_out rfl rfl hi hn hj hb
end Go.Proofs
/- the document's Split: walked. -/

set_option linter.all false
set_option linter.all false
set_option maxRecDepth 100000
namespace Go.Proofs
open Go Go.Ev
variable {H : Heap}

/-- what both parts of a cut say -/
noncomputable def saidPart (s : Sh) (id : Int) (f t : List Nat) : Sh := ⟨id, 1, f, t, false, withinL f t s.cells, evW f t s.evs, s.done, .nils, .nils, .nils⟩
end Go.Proofs
/- the document's Keep: the plain law, the walk. -/

set_option linter.all false
set_option linter.all false
set_option maxRecDepth 100000
namespace Go.Proofs
open Go Go.Ev
variable {H : Heap}

theorem runR_le {c e : Evn} {d : Cell} : ∀ {l : List Evn} {v w : Int}, runR d l v = some w → e ∈ l → e.key = d.key → e.ver ≤ w
  | [], _, _, _, h, _ => absurd h List.not_mem_nil
  | x :: l, v, w, h, he, hk => by
    rw [runR] at h
    rcases List.mem_cons.1 he with rfl | he
    · rw [if_pos hk] at h
      split at h
      · rename_i h2; have := runR_ge h; omega
      · cases h
    · split at h
      · split at h
        · exact runR_le (c := c) h he hk
        · cases h
      · exact runR_le (c := c) h he hk
theorem hist_ver {l : List Evn} {cs : List Cell} (h : isHist l cs) {e : Evn} {c : Cell} (he : e ∈ l) (hc : c ∈ cs) (hk : c.key = e.key) : e.ver ≤ c.ver := runR_le (c := e) (ofH_iff.1 (h.2.2 c hc)) he hk.symm
theorem flo_key (e : Evn) (c : Cell) : (flo e c).key = c.key := by unfold flo; split <;> rfl
theorem flo_ver (e : Evn) (c : Cell) : (flo e c).ver = c.ver := by unfold flo; split <;> rfl
theorem flo_is {e : Evn} {c : Cell} (h : cellIs c) (hv : c.key = e.key → e.ver ≤ c.ver) : cellIs (flo e c) := by
  unfold flo
  split
  · rename_i hk
    have := hv hk
    exact ⟨h.1, by show (0 : Int) ≤ max c.floor e.ver; have := h.2.1; omega, by show max c.floor e.ver ≤ c.ver; have := h.2.2; omega⟩
  · exact h
theorem getL_mem {k : List Nat} {c : Cell} : ∀ {l : List Cell}, getL l k = (c, true) → c ∈ l ∧ c.key = k
  | [], h => by cases h
  | d :: l, h => by
    unfold getL at h
    split at h
    · rename_i hk; cases h; exact ⟨by simp, hk⟩
    · exact ⟨by simp [(getL_mem h).1], (getL_mem h).2⟩
theorem withL_flo {e : Evn} {c : Cell} : ∀ {l : List Cell}, Ord l → getL l e.key = (c, true) → withL l (flo e c) = l.map (flo e)
  | [], _, h => by cases h
  | d :: l, ho, h => by
    obtain ⟨h1, h2⟩ := List.pairwise_cons.1 ho
    unfold getL at h
    split at h
    · rename_i hk
      cases h
      have hid : l.map (flo e) = l := by
        conv => rhs; rw [← List.map_id l]
        refine List.map_congr_left fun x hx => flo_no fun hk2 => ?_
        have := h1 x hx
        rw [hk, hk2] at this
        exact ltS_irrefl _ this
      unfold withL
      rw [flo_key, if_neg (ltS_irrefl _), if_pos rfl, List.map_cons, hid]
    · rename_i hk
      obtain ⟨hm, hck⟩ := getL_mem h
      unfold withL
      rw [flo_key, if_pos (h1 c hm), List.map_cons, flo_no hk, withL_flo h2 h]
/-- what goes on while the events are let go: the cells stay an index, of the same keys and versions -/
structure Kept (cs0 cs : List Cell) : Prop where
  idx : isIdx cs
  src : ∀ c ∈ cs, ∃ c0 ∈ cs0, c.key = c0.key ∧ c.ver = c0.ver
  len : cs.length = cs0.length
  has : ∀ k, (getL cs0 k).2 = true → (getL cs k).2 = true
theorem Kept.refl {cs : List Cell} (h : isIdx cs) : Kept cs cs := ⟨h, fun c hc => ⟨c, hc, rfl, rfl⟩, rfl, fun _ h => h⟩
theorem Kept.step {l : List Evn} {cs0 cs : List Cell} (hI : isHist l cs0) (h : Kept cs0 cs) {e : Evn} (he : e ∈ l) : Kept cs0 (cs.map (flo e)) ∧ ∃ c, getL cs e.key = (c, true) ∧ cellIs (flo e c) ∧ refW cs (flo e c) = cs.map (flo e) := by
  have hv : ∀ c ∈ cs, cellIs (flo e c) := fun c hc => flo_is (isIdx_all h.idx c hc) fun hk => by
    obtain ⟨c0, hc0, h1, h2⟩ := h.src c hc
    rw [h2]
    exact hist_ver hI he hc0 (h1.symm.trans hk)
  have hx : isIdx (cs.map (flo e)) := isIdx_of (fun c hc => by
    obtain ⟨d, hd, rfl⟩ := List.mem_map.1 hc
    exact hv d hd) (List.pairwise_map.2 ((isIdx_pair h.idx).imp fun {a b} hab => by rw [flo_key, flo_key]; exact hab))
  refine ⟨⟨hx, fun c hc => ?_, by rw [List.length_map]; exact h.len, fun k hk => ?_⟩, ?_⟩
  · obtain ⟨d, hd, rfl⟩ := List.mem_map.1 hc
    obtain ⟨c0, h1, h2, h3⟩ := h.src d hd
    exact ⟨c0, h1, by rw [flo_key]; exact h2, by rw [flo_ver]; exact h3⟩
  · obtain ⟨c, hc, hck⟩ := getL_true.1 (h.has k hk)
    exact getL_true.2 ⟨flo e c, List.mem_map.2 ⟨c, hc, rfl⟩, by rw [flo_key]; exact hck⟩
  · have h2 := h.has e.key (hI.2.1 e he).1
    obtain ⟨c, hc⟩ : ∃ c, getL cs e.key = (c, true) := ⟨(getL cs e.key).1, by rw [← h2]⟩
    exact ⟨c, hc, hv c (getL_mem hc).1, by rw [refW_eq h.idx, withL_flo (isIdx_pair h.idx) hc]⟩
theorem Kept.take {l : List Evn} {cs : List Cell} (hI : isHist l cs) : ∀ i, Kept cs (keepC (l.take i) cs)
  | 0 => Kept.refl hI.1
  | i + 1 => by
    by_cases hi : i < l.length
    · rw [keepC_succ (List.getElem?_eq_getElem hi)]
      exact ((Kept.take hI i).step hI (List.getElem_mem hi)).1
    · rw [List.take_of_length_le (by omega)]
      have := Kept.take hI i
      rwa [List.take_of_length_le (by omega)] at this
/-- a copy of what a slice has -/
theorem appQ_nil {G : Heap} {e bytes : Nat} {w : AV} {ys : List (List AV)} (hpos : 0 < e) (hw : Arr G e w ys) (hy : ys ≠ []) (hb : okBig ys.length bytes = true) :
    appQ e bytes (some .nils) (some w) G = .val (outV (G.key 0) e ys.length) (G.ext [outB e ys]) := by
  have hl : 0 < ys.length := List.length_pos_iff.2 hy
  rcases hw with ⟨rfl, rfl⟩ | ⟨k, off, ex, cap, rfl, hk, h⟩
  · exact absurd rfl hy
  · obtain ⟨r, wr, rows', rfl, hg, hrow⟩ := h hy
    have e1 : r * e % e = 0 := Nat.mul_mod_left r e
    have e2 : r * e / e = r := Nat.mul_div_cancel r hpos
    have hlen := congrArg List.length hrow
    rw [List.length_take, List.length_drop] at hlen
    have e3 : ys.length ≤ (rows'.drop r).length := by rw [List.length_drop]; omega
    have e4 : ¬ ys.length = 0 := by omega
    have hb1 : (2 * ys.length + 192) * bytes ≤ 281474976710656 := by unfold okBig at hb; rwa [Nat.ble_eq] at hb
    show appR e bytes (.c .nils) (.c (.slice k (r * e) ys.length e ex cap)) .lf G = _
    simp only [go_sem, hg, e1, e2, e3, e4, hrow]
    rw [if_pos hb1, outV_pos hl, outB_pos hl]
    have hG := Heap.addC_ext G [] (.row true e ys) (fun k G => R1.val (AV.slice k 0 ys.length e false ys.length) G)
    rw [Heap.ext_nil] at hG
    exact hG
theorem Arr.drop_at {G : Heap} {k : K} {n e cap cap' i : Nat} {ex ex' : Bool} {xs : List (List AV)} (hpos : 0 < e) (h : Arr G e (.slice k 0 n e ex cap) xs) : Arr G e (.slice k (i * e) (n - i) e ex' cap') (xs.drop i) := by
  rcases h with ⟨h, _⟩ | ⟨k', off, ex2, cap2, h, hk, h2⟩
  · cases h
  · cases h
    refine .inr ⟨k, i * e, ex', cap', by rw [List.length_drop], hk, fun hx => ?_⟩
    have hxs : xs ≠ [] := by rintro rfl; simp at hx
    obtain ⟨r, wr, rows, h3, h4, h5⟩ := h2 hxs
    have hr : r = 0 := by
      rcases Nat.eq_zero_or_pos r with hr | hr
      · exact hr
      · have := Nat.mul_pos hr hpos; omega
    subst hr
    rw [List.drop_zero] at h5
    refine ⟨i, wr, rows, rfl, h4, ?_⟩
    have h6 := congrArg (List.drop i) h5
    rw [List.drop_take] at h6
    rw [List.length_drop]
    exact h6
end Go.Proofs
/- Objects that a call changes: memories that aren't spelt out. -/


set_option linter.all false
set_option maxRecDepth 100000
namespace Go.Ev
variable {P : Program}
section
variable {N : Nat} {H0 H : Heap} {T : Tr AV} {Q : Ex → Tr AV → Heap → Prop}
theorem At2.sub {φ0 : Phi} {w0 u : World} {a : Act} {ts : List (K × AV)} (hts : ∀ p ∈ ts, T.get p.1 = some p.2) (h : At2 P φ0 H0 w0 N T H a u) : At2 P φ0 H0 w0 N (trOf ts) H a u := by
  obtain ⟨hd, ψ, ht, hw, he⟩ := h
  exact ⟨hd, ψ, ⟨ht.size, fun t v hv => ht.get t v (hts _ (get_trOf ts _ v hv))⟩, hw, he⟩
theorem Tri.sub {c : Code} {ts : List (K × AV)} (hts : ∀ p ∈ ts, T.get p.1 = some p.2) (h : Tri P N H0 c (trOf ts) H Q) : Tri P N H0 c T H Q :=
  fun φ0 w0 a u h0 ha => h φ0 w0 a u h0 (ha.sub hts)
theorem TriC.sub {c : CC} {ts : List (K × AV)} (hts : ∀ p ∈ ts, T.get p.1 = some p.2) (h : TriC P N H0 c (trOf ts) H Q) : TriC P N H0 c T H Q := fun code hc => (h code hc).sub hts
end
section
variable {E : FuncId → List AV → Heap → RC} {N : Nat} {H0 : Heap} {k : List It} {Q : Ex → Tr AV → Heap → Prop} {T : Tr AV} {G : Heap}
theorem WW.nil (h : WW P E N H0 k T (G.ext []) Q) : WW P E N H0 k T G Q := by rw [Heap.ext_nil] at h; exact h
/-- a round's end: another state, nearer the end; the memory is told of by what holds in it -/
def NextH {S : Type} (μ : S → Nat) (inv : S → Heap → Prop) (ts : S → List (K × AV)) (s : S) (T : Tr AV) (G : Heap) : Prop :=
  ∃ s', μ s' < μ s ∧ inv s' G ∧ ∀ p ∈ ts s', T.get p.1 = some p.2
theorem LL.sth {x : CC} (hE : Good P E) {S : Type} (μ : S → Nat) (inv : S → Heap → Prop) (ts : S → List (K × AV))
    (h : ∀ s G, inv s G → WW P E N H0 [.code x] (trOf (ts s)) (G.ext []) (behind (NextH μ inv ts s) (postW P E N H0 k Q))) (s0 : S) (hi : inv s0 G) (ht : ∀ p ∈ ts s0, T.get p.1 = some p.2) : LL P E N H0 x k T G Q := by
  refine TriC.loop (fun m T G => ∃ s, m = μ s ∧ inv s G ∧ ∀ p ∈ ts s, T.get p.1 = some p.2) ?_ (m := μ s0) ⟨s0, rfl, hi, ht⟩
  rintro m T G ⟨s, rfl, hs, hts⟩
  refine TriC.sub hts ?_
  refine (wpc_ok hE x _ _ _ (WW.nil (h s G hs))).mono ?_
  intro e T' G' q
  cases e with
  | norm => obtain ⟨s', h1, h2, h3⟩ := q; exact ⟨μ s', h1, s', rfl, h2, h3⟩
  | exit n => exact q
  | ret => exact q
end
/-- the slots that are told of -/
@[go_sem] def Slots (T : Tr AV) : List (K × AV) → Prop
  | [] => True
  | p :: ts => T.get p.1 = some p.2 ∧ Slots T ts
theorem Slots.all {T : Tr AV} : ∀ {ts : List (K × AV)}, Slots T ts → ∀ p ∈ ts, T.get p.1 = some p.2
  | [], _, p, h => by cases h
  | q :: ts, h, p, hp => by
    rcases List.mem_cons.1 hp with rfl | hp
    · exact h.1
    · exact Slots.all h.2 p hp
namespace Heap
attribute [go_sem] key_set nx_set'
@[go_sem] theorem get_key_of {B G : Heap} {l : List Blk} {i : Nat} (h : B.nx = G.nx) (hi : i < l.length) : (B.ext l).get (G.key i) = l[i]? := by
  have : G.key i = B.key i := by unfold key; rw [h]
  rw [this, get_ext_key _ _ _ hi]
@[go_sem] theorem setC_key_of {α : Type} {B G : Heap} {l : List Blk} {i : Nat} (h : B.nx = G.nx) (hi : i < l.length) (b : Blk) (c : Heap → α) : (B.ext l).setC (G.key i) b c = c (B.ext (l.set i b)) := by
  have : G.key i = B.key i := by unfold key; rw [h]
  rw [this, setC_ext _ _ _ _ _ hi]
@[go_sem] theorem get_key_set {G : Heap} {s : K} {b : Blk} {l : List Blk} {i : Nat} (hi : i < l.length) : ((G.set s b).ext l).get (G.key i) = l[i]? := get_key_of rfl hi
@[go_sem] theorem setC_key_set {α : Type} {G : Heap} {s : K} {b : Blk} {l : List Blk} {i : Nat} (hi : i < l.length) (d : Blk) (c : Heap → α) : ((G.set s b).ext l).setC (G.key i) d c = c ((G.set s b).ext (l.set i d)) := setC_key_of rfl hi d c
end Heap
theorem Arr.set {G : Heap} {k : K} {b : Blk} {wr : Bool} {e e' : Nat} {rows : List (List AV)} {v : AV} {xs : List (List AV)} (h : Arr G e v xs) (hk : G.get k = some (.row wr e' rows)) (he : e ≠ e') : Arr (G.set k b) e v xs := by
  rcases h with h | ⟨j, off, ex, cap, rfl, hj, h⟩
  · exact .inl h
  · refine .inr ⟨j, off, ex, cap, rfl, hj, fun hx => ?_⟩
    obtain ⟨r, wr', rows', h1, h2, h3⟩ := h hx
    refine ⟨r, wr', rows', h1, ?_, h3⟩
    rw [Heap.get_set, if_neg fun e => ?_]
    · exact h2
    · subst e; rw [hk] at h2; cases h2; exact he rfl
end Go.Ev
/- a history goes on: the plain law. -/

set_option linter.all false
set_option linter.all false
set_option maxRecDepth 100000
namespace Go.Proofs
open Go Go.Ev
variable {H : Heap}

theorem withL_mem {c x : Cell} : ∀ {l : List Cell}, x ∈ withL l c → x = c ∨ x ∈ l
  | [], h => by simpa [withL] using h
  | d :: l, h => by
    unfold withL at h
    split at h
    · rcases List.mem_cons.1 h with h | h
      · exact .inr (by simp [h])
      · rcases withL_mem h with h | h
        · exact .inl h
        · exact .inr (by simp [h])
    · split at h
      · rcases List.mem_cons.1 h with h | h
        · exact .inl h
        · exact .inr (by simp [h])
      · rcases List.mem_cons.1 h with h | h
        · exact .inl h
        · exact .inr h
theorem withL_ord {c : Cell} : ∀ {l : List Cell}, Ord l → Ord (withL l c)
  | [], _ => by simp [withL, Ord]
  | d :: l, h => by
    have h' := List.pairwise_cons.1 h
    unfold withL
    split
    · rename_i h1
      refine List.pairwise_cons.2 ⟨fun x hx => ?_, withL_ord h'.2⟩
      rcases withL_mem hx with rfl | hx
      · exact h1
      · exact h'.1 x hx
    · rename_i h1
      split
      · rename_i h2
        exact List.pairwise_cons.2 ⟨fun x hx => by rw [← h2]; exact h'.1 x hx, h'.2⟩
      · rename_i h2
        have h3 : ltS c.key d.key := by rcases ltS_tri d.key c.key with g | g | g; exact absurd g h1; exact absurd g h2; exact g
        refine List.pairwise_cons.2 ⟨fun x hx => ?_, h⟩
        rcases List.mem_cons.1 hx with rfl | hx
        · exact h3
        · exact ltS_trans h3 (h'.1 x hx)
theorem getL_withL_self {c : Cell} : ∀ {l : List Cell}, getL (withL l c) c.key = (c, true)
  | [] => by simp [withL, getL]
  | d :: l => by
    unfold withL
    split
    · rename_i h1
      have hne : d.key ≠ c.key := fun e => ltS_irrefl _ (e ▸ h1)
      rw [getL, if_neg hne]
      exact getL_withL_self
    · split <;> simp [getL]
theorem getL_withL_other {c : Cell} {k : List Nat} (hk : k ≠ c.key) : ∀ {l : List Cell}, getL (withL l c) k = getL l k
  | [] => by simp [withL, getL, Ne.symm hk]
  | d :: l => by
    unfold withL
    split
    · rw [getL, getL, getL_withL_other hk]
    · split
      · rename_i h2
        rw [getL, getL, if_neg (Ne.symm hk), if_neg (fun e => hk (by rw [← e, h2]))]
      · rw [getL, if_neg (Ne.symm hk)]
theorem getL_miss {k : List Nat} : ∀ {l : List Cell}, (getL l k).2 = false → (getL l k).1 = ⟨k, [], 0, false, 0⟩ ∧ ∀ c ∈ l, ¬ c.key = k
  | [], _ => ⟨rfl, fun c hc => absurd hc List.not_mem_nil⟩
  | d :: l, h => by
    unfold getL at h ⊢
    split at h
    · cases h
    · rename_i hk
      rw [if_neg hk]
      obtain ⟨h1, h2⟩ := getL_miss h
      exact ⟨h1, fun c hc => by
        rcases List.mem_cons.1 hc with rfl | hc
        · exact hk
        · exact h2 c hc⟩
theorem ord_same {l : List Cell} (ho : Ord l) {c d : Cell} (hc : c ∈ l) (hd : d ∈ l) (hk : c.key = d.key) : c = d := by
  obtain ⟨i, hi, rfl⟩ := List.mem_iff_getElem.1 hc
  obtain ⟨j, hj, rfl⟩ := List.mem_iff_getElem.1 hd
  have hp := List.pairwise_iff_getElem.1 ho
  rcases Nat.lt_trichotomy i j with h | h | h
  · have := hp i j hi hj h; rw [hk] at this; exact absurd this (ltS_irrefl _)
  · subst h; rfl
  · have := hp j i hj hi h; rw [hk] at this; exact absurd this (ltS_irrefl _)
/-- the next cell of a key, and what happens -/
def nextC (cs : List Cell) (k v : List Nat) (d : Bool) : Cell := ⟨k, v, (getL cs k).1.ver + 1, d, (getL cs k).1.floor⟩
def nextE (cs : List Cell) (k v : List Nat) (d : Bool) : Evn := ⟨k, (getL cs k).1.ver + 1, v, d⟩
theorem runR_up {c c' : Cell} (hk : c'.key = c.key) (hv : c.ver < c'.ver) : ∀ {l : List Evn} {v w : Int}, runR c l v = some w → w ≤ c.ver → runR c' l v = some w
  | [], _, _, h, _ => h
  | e :: l, v, w, h, hw => by
    rw [runR] at h ⊢
    rw [hk]
    split at h
    · rename_i h1
      rw [if_pos h1]
      split at h
      · rename_i h2
        have := runR_ge h
        rw [if_pos ⟨h2.1, fun g => by omega⟩]
        exact runR_up hk hv h hw
      · cases h
    · rename_i h1
      rw [if_neg h1]
      exact runR_up hk hv h hw
theorem runR_congr {c c' : Cell} (hk : c'.key = c.key) (hv : c'.ver = c.ver) (ha : c'.value = c.value) (hd : c'.del = c.del) : ∀ {l : List Evn} {v : Int}, runR c' l v = runR c l v
  | [], _ => rfl
  | e :: l, v => by rw [runR, runR, hk, hv, ha, hd, runR_congr hk hv ha hd, runR_congr hk hv ha hd]
/-- the cell of a key: there, or new -/
theorem cell_of {l : List Evn} {cs : List Cell} (h : isHist l cs) (k : List Nat) : (getL cs k).1.key = k ∧ 0 ≤ (getL cs k).1.ver ∧ 0 ≤ (getL cs k).1.floor ∧ (getL cs k).1.floor ≤ (getL cs k).1.ver ∧ runR (getL cs k).1 l (getL cs k).1.floor = some (getL cs k).1.ver := by
  cases hf : (getL cs k).2 with
  | true =>
    obtain ⟨c, hc⟩ : ∃ c, getL cs k = (c, true) := ⟨(getL cs k).1, by rw [← hf]⟩
    obtain ⟨h1, h2⟩ := getL_mem hc
    rw [hc]
    have := isIdx_all h.1 c h1
    exact ⟨h2, Int.le_trans this.2.1 this.2.2, this.2.1, this.2.2, ofH_iff.1 (h.2.2 c h1)⟩
  | false =>
    obtain ⟨h1, h2⟩ := getL_miss hf
    rw [h1]
    refine ⟨rfl, Int.le_refl _, Int.le_refl _, Int.le_refl _, runR_none fun e he g => ?_⟩
    obtain ⟨c, hc, hk⟩ := getL_true.1 (h.2.1 e he).1
    exact h2 c hc (hk.trans g)
theorem hist_put {l : List Evn} {cs : List Cell} (h : isHist l cs) {k v : List Nat} {d : Bool} (hk : isKey k) (hv : (v.length : Int) ≤ 12) (hd : d = true → v = []) (hm : (getL cs k).1.ver < 1000000000000) : isHist (l ++ [nextE cs k v d]) (withL cs (nextC cs k v d)) := by
  obtain ⟨c1, c2, c3, c4, c5⟩ := cell_of h k
  have ho := isIdx_pair h.1
  have ho2 := withL_ord (c := nextC cs k v d) ho
  have hself := getL_withL_self (c := nextC cs k v d) (l := cs)
  have hmem := (getL_mem hself).1
  have hmay : mayBe k v ((getL cs k).1.ver + 1) d := ⟨hk, hv, hd, by omega, by omega⟩
  refine ⟨isIdx_of (fun c hc => ?_) ho2, fun e he => ?_, fun c hc => ?_⟩
  · rcases withL_mem hc with rfl | hc
    · exact ⟨hmay, c3, by show (getL cs k).1.floor ≤ (getL cs k).1.ver + 1; omega⟩
    · exact isIdx_all h.1 c hc
  · rcases List.mem_append.1 he with he | he
    · obtain ⟨h1, h2⟩ := h.2.1 e he
      refine ⟨?_, h2⟩
      by_cases hek : e.key = k
      · have : (getL (withL cs (nextC cs k v d)) k) = (nextC cs k v d, true) := hself
        rw [hek, this]
      · rw [getL_withL_other (show e.key ≠ (nextC cs k v d).key from hek)]; exact h1
    · rw [List.mem_singleton.1 he]
      have : (getL (withL cs (nextC cs k v d)) k) = (nextC cs k v d, true) := hself
      exact ⟨by show (getL (withL cs (nextC cs k v d)) k).2 = true; rw [this], hmay⟩
  · rw [ofH_iff, runR_append]
    by_cases hck : c.key = k
    · obtain rfl : c = nextC cs k v d := ord_same ho2 hc hmem hck
      rw [show (nextC cs k v d).floor = (getL cs k).1.floor from rfl, runR_up (c := (getL cs k).1) (c' := nextC cs k v d) c1.symm (by show (getL cs k).1.ver < (getL cs k).1.ver + 1; omega) c5 (Int.le_refl _)]
      show runR (nextC cs k v d) [nextE cs k v d] (getL cs k).1.ver = some ((getL cs k).1.ver + 1)
      rw [runR, if_pos (show (nextE cs k v d).key = (nextC cs k v d).key from rfl), if_pos ⟨rfl, fun _ => ⟨rfl, rfl⟩⟩]
      rfl
    · have hcm : c ∈ cs := by
        rcases withL_mem hc with rfl | hc
        · exact absurd rfl hck
        · exact hc
      rw [ofH_iff.1 (h.2.2 c hcm)]
      show runR c [nextE cs k v d] c.ver = some c.ver
      rw [runR, if_neg fun g => hck g.symm]
      rfl
/-- the first event is let go -/
theorem hist_step {l : List Evn} {e : Evn} {cs : List Cell} (h : isHist (e :: l) cs) : isHist l (cs.map (flo e)) := by
  have hK := ((Kept.refl h.1).step h (e := e) (by simp)).1
  refine ⟨hK.idx, fun x hx => ⟨hK.has _ (h.2.1 x (by simp [hx])).1, (h.2.1 x (by simp [hx])).2⟩, fun c hc => ?_⟩
  obtain ⟨d, hd, rfl⟩ := List.mem_map.1 hc
  have h1 := ofH_iff.1 (h.2.2 d hd)
  rw [ofH_iff]
  rw [runR] at h1
  by_cases hk : e.key = d.key
  · rw [if_pos hk] at h1
    split at h1
    · rename_i h2
      have e1 : flo e d = { d with floor := max d.floor e.ver } := if_pos hk.symm
      rw [e1]
      have e2 : max d.floor e.ver = d.floor + 1 := by have := h2.1; omega
      show runR { d with floor := max d.floor e.ver } l (max d.floor e.ver) = some d.ver
      rw [e2, runR_congr (c := d) (c' := { d with floor := d.floor + 1 }) rfl rfl rfl rfl]
      exact h1
    · cases h1
  · rw [if_neg hk] at h1
    rw [flo_no fun g => hk g.symm]
    exact h1
theorem hist_keep : ∀ (n : Nat) {l : List Evn} {cs : List Cell}, isHist l cs → isHist (l.drop n) (keepC (l.take n) cs)
  | 0, _, _, h => h
  | n + 1, [], _, h => h
  | n + 1, e :: l, _, h => hist_keep n (hist_step h)
end Go.Proofs
