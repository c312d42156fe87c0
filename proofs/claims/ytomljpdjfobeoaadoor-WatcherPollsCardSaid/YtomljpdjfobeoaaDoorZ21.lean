/- a watcher: what it holds; on, isFeed, tells: walked. -/
import Derived.Test.YtomljpdjfobeoaaDoorZ20
set_option linter.all false
set_option linter.all false
set_option maxRecDepth 100000
namespace Go.Proofs
open Go Go.Ev
variable {H : Heap}

/-- a watch -/
structure Wt where
  fr : List Nat
  to : List Nat
  seen : List Sn
  sv : AV
  st : Int
  n : Int
def Wt.enc (w : Wt) : List AV := [.str w.fr, .str w.to, w.sv, .int .i64 w.st, .int .i64 w.n]
/-- a watcher lies at k, its watches at s -/
structure isW (G : Heap) (k s : K) (m : Int) (ws : List Wt) : Prop where
  ok : G.ok
  row : G.get k = some (.row true 2 [[.int .i64 m, outV s 5 ws.length]])
  bl : ws ≠ [] → G.get s = some (.row true 5 (ws.map Wt.enc))
  ks : k ≠ s
  arr : ∀ w ∈ ws, Arr G 2 w.sv (w.seen.map Sn.enc)
  few : ∀ w ∈ ws, w.seen.length ≤ 60
  wl : ws.length ≤ 1000
theorem isW.ext {G : Heap} {k s : K} {m : Int} {ws : List Wt} (h : isW G k s m ws) (L : List Blk) : isW (G.ext L) k s m ws :=
  ⟨Heap.ok_ext h.ok L, Heap.get_ext_old h.ok h.row L, fun hw => Heap.get_ext_old h.ok (h.bl hw) L, h.ks, fun w hw => (h.arr w hw).ext L, h.few, h.wl⟩
def onE (ws : List Wt) (i : Int) : Option Int := if i < 0 ∨ (ws.length : Int) ≤ i then some 23 else match ws[i.toNat]? with | some w => if w.st = 0 then none else some 24 | none => some 23
section
variable {G : Heap} {k s : K} {m : Int} {ws : List Wt}
theorem isW.at (h : isW G k s m ws) {i : Nat} {w : Wt} (hi : ws[i]? = some w) : i < ws.length ∧ (∀ L, (G.ext L).get s = some (.row true 5 (ws.map Wt.enc))) ∧ (ws.map Wt.enc)[i]? = some w.enc ∧ outV s 5 ws.length = .slice s 0 ws.length 5 false ws.length := by
  have hl := (List.getElem?_eq_some_iff.1 hi).1
  have hne : ws ≠ [] := fun e => by rw [e] at hl; exact Nat.not_lt_zero _ hl
  exact ⟨hl, fun L => Heap.get_ext_old h.ok (h.bl hne) L, by rw [List.getElem?_map, hi]; rfl, outV_pos (by omega)⟩
theorem f36_ok (h : isW G k s m ws) (i : Int) : FnOk Tryd.prog 36 [.ptr k 0, .int .i64 i] G fun r G' => r = errV (onE ws i) ∧ G' = G := by
  refine FnOk.drop (R := fun r => r = errV (onE ws i)) ?_ (by rintro v rfl ρ; rw [errV_ren])
  refine FnOk.of_WW Tryd.func36 rfl C36ok R36ok E0 good_E0 ?_
  have hk : ∀ L, (G.ext L).get k = _ := fun L => Heap.get_ext_old h.ok h.row L
  unfold onE
  rcases Int.lt_or_le i 0 with hi | hi
  · have z := eq_true hi
    simp only [go_sem, C36, z, true_or, if_true]
    exact ⟨rfl, _, rfl⟩
  rcases Int.lt_or_le i ws.length with hl | hl
  · obtain ⟨j, rfl⟩ := Int.eq_ofNat_of_zero_le hi
    have hj : j < ws.length := by omega
    obtain ⟨h1, h2, h3, h4⟩ := h.at (List.getElem?_eq_getElem hj)
    have z := eq_false (show ¬ (j : Int) < 0 by omega)
    have z2 := eq_false (show ¬ (ws.length : Int) ≤ (j : Int) by omega)
    have hsi : j + 1 ≤ ws.length := hj
    have ho : ∀ G, lenR LnK.slice (X.c (outV s 5 ws.length)) Tr.lf G = .val (.int .i64 ws.length) G := fun G => by simp only [go_sem]
    rw [h4] at hk
    simp only [go_sem, C36, hk, h2, h3, z, z2, hsi, Wt.enc, Int.toNat_natCast, List.getElem?_eq_getElem hj, false_or, if_false]
    exact ⟨fun g => ⟨by rw [if_neg g]; rfl, _, rfl⟩, fun g => ⟨by rw [if_pos (Classical.byContradiction g)]; rfl, _, rfl⟩⟩
  · have z := eq_false (show ¬ i < 0 by omega)
    have z2 := eq_true hl
    simp only [go_sem, C36, hk, z, z2, or_true, if_true]
    exact ⟨rfl, _, rfl⟩
end
end Go.Proofs
/- a watcher: isFeed, tells: walked. -/

set_option linter.all false
set_option linter.all false
set_option maxRecDepth 100000
namespace Go.Proofs
open Go Go.Ev
variable {H : Heap}

theorem f82_ok {v : AV} {l : List Sn} (hA : Arr H 2 v (l.map Sn.enc)) (hl : l.length ≤ 9223372036854775807) {g : FuncId} {caps : List AV} (hcall : ∀ args H, callC Tryd.prog g args H = .call g args)
    (hcaps : ∀ top σ, AV.ren (rho H top σ) (.fn (.func g) [] caps) = .fn (.func g) [] caps) {p : Sn → Prop} [DecidablePred p] (hg : ∀ c ∈ l, ∀ L, FnOk Tryd.prog g (.agg c.enc :: caps) (H.ext L) fun r G => r = .bool (decide (p c)) ∧ G = H.ext L) :
    FnOk Tryd.prog 82 [v, .fn (.func g) [] caps] H fun r G => (∃ n : Int, r = .int .i64 n ∧ (0 ≤ n ↔ ∃ c ∈ l, p c)) ∧ G = H := by
  refine FnOk.assume fun hok => ?_
  refine FnOk.drop (R := fun r => ∃ n : Int, r = .int .i64 n ∧ (0 ≤ n ↔ ∃ c ∈ l, p c)) ?_ (by rintro v ⟨n, rfl, _⟩ ρ; rw [AV.ren])
  refine FnOk.of_WW Tryd.func82 rfl C82ok R82ok E0 good_E0 ?_
  have hlen := fun G => hA.len G; simp only [List.length_map] at hlen; have hren := hA.ren
  simp only [go_sem, C82, hlen]
  refine LL.st good_E0 (fun i : Nat => l.length - i) (fun i => i ≤ l.length ∧ ∀ j d, j < i → l[j]? = some d → ¬ p d)
    (fun i => [(.z, v), ((.o .z), .fn (.func g) [] caps), ((.i (.i .z)), v), ((.o (.o (.o .z))), .int .i64 l.length), ((.i (.o (.o .z))), .int .i64 i)]) (fun i => []) ?_ 0 (σ := []) (Wk.of rfl (by decide) (by simp only [go_sem, hren, ↓hcaps]) (by simp only [go_sem])) ⟨Nat.zero_le _, fun j d h => absurd h (Nat.not_lt_zero _)⟩
  rintro i ⟨hi, hno⟩
  by_cases hlt : i < l.length
  · obtain ⟨kk, r, ex', cap', wr, rows, hv, hrho, hgo, hrow⟩ := hA.at hok (j := i) (by rw [List.length_map]; exact hlt); simp only [List.length_map, List.getElem_map] at hv hrow; cases hv; have hget : l[i]? = some l[i] := List.getElem?_eq_getElem hlt; generalize l[i] = c at hrow hget; have hw := wrap_succ (n := i) (by omega); have hci : (i : Int) < (l.length : Int) := (by omega); have hsi : i + 1 ≤ l.length := (by omega)
    have hgc := hg c (List.mem_of_getElem? hget)
    simp only [Sn.enc] at hgc
    simp only [go_sem, C82L0, hci, hsi, hgo, hrow, hw, Sn.enc, hcall]
    refine CL.bool (hgc _) (fun g => ?_) (fun g => ?_)
    · simp only [go_sem]
      exact ⟨⟨_, rfl, fun _ => ⟨c, List.mem_of_getElem? hget, g⟩, fun _ => by omega⟩, _, rfl⟩
    · simp only [go_sem, hw]
      refine ⟨i + 1, by show l.length - (i + 1) < l.length - i; omega, ⟨by omega, fun j d hj hd => ?_⟩, _, [], rfl, Wk.of rfl (by decide) (by simp only [go_sem, hren, hrho, ↓hcaps, hw]) (by simp only [go_sem])⟩
      rcases Nat.lt_or_ge j i with h | h
      · exact hno j d h hd
      · obtain rfl : j = i := by omega
        rw [hget] at hd; cases hd; exact g
  · have hci : ¬ (i : Int) < (l.length : Int) := by omega
    simp only [go_sem, C82L0, hci]
    refine ⟨⟨_, rfl, fun h => absurd h (by decide), ?_⟩, _, rfl⟩
    rintro ⟨d, hd, hb⟩
    obtain ⟨j, hj⟩ := List.mem_iff_getElem?.1 hd
    exact absurd hb (hno j d (by have := (List.getElem?_eq_some_iff.1 hj).1; omega) hj)
noncomputable instance (l : List Sn) (p : Sn → Prop) : Decidable (∃ c ∈ l, p c) := Classical.propDecidable _
theorem f63_ok {v : AV} {l : List Sn} (hA : Arr H 2 v (l.map Sn.enc)) (hl : l.length ≤ 9223372036854775807) {g : FuncId} {caps : List AV} (hcall : ∀ args H, callC Tryd.prog g args H = .call g args)
    (hcaps : ∀ top σ, AV.ren (rho H top σ) (.fn (.func g) [] caps) = .fn (.func g) [] caps) {p : Sn → Prop} [DecidablePred p] (hg : ∀ c ∈ l, ∀ L, FnOk Tryd.prog g (.agg c.enc :: caps) (H.ext L) fun r G => r = .bool (decide (p c)) ∧ G = H.ext L) :
    FnOk Tryd.prog 63 [v, .fn (.func g) [] caps] H fun r G => r = .bool (decide (∃ c ∈ l, p c)) ∧ G = H := by
  refine FnOk.drop (R := fun r => r = .bool (decide (∃ c ∈ l, p c))) ?_ (by rintro v rfl ρ; rw [AV.ren])
  refine FnOk.of_WW Tryd.func63 rfl C63ok R63ok E0 good_E0 ?_
  simp only [go_sem, C63]
  have h := f82_ok hA hl hcall hcaps hg
  rw [← Heap.ext_nil H] at h
  refine CL.of h ?_
  rintro _ _ ⟨⟨n, rfl, hn⟩, rfl⟩
  simp only [go_sem]
  exact ⟨fun h => ⟨bool_t (hn.1 h), [], rfl⟩, fun h => ⟨bool_f fun e => h (hn.2 e), [], rfl⟩⟩
theorem f64_ok {k : K} {wr : Bool} {e : Evn} (hk : H.get k = some (.row wr 4 [[.str e.key, .int .i64 e.ver, .str e.val, .bool e.del]])) (c : Sn) :
    FnOk Tryd.prog 64 [.agg c.enc, .ptr k 0] H fun r G => r = .bool (decide (c.key = e.key)) ∧ G = H := by
  refine FnOk.assume fun hok => ?_
  refine FnOk.drop (R := fun r => r = .bool (decide (c.key = e.key))) ?_ (by rintro v rfl ρ; rw [AV.ren])
  refine FnOk.of_WW Tryd.func64 rfl C64ok R64ok E0 good_E0 ?_
  have hgo := Heap.get_ext_old hok hk
  simp only [go_sem, C64, Sn.enc, hgo]
  exact ⟨fun g => ⟨bool_t g, _, rfl⟩, fun g => ⟨bool_f g, _, rfl⟩⟩
def msgE (kind frm a b c d e : Int) (ev : AV) : List AV := [.int .i64 kind, .int .i64 frm, .int .i64 0, .int .i64 a, .int .i64 b, .int .i64 c, .int .i64 d, .int .i64 e, .int .i64 0, .str [], .str [], .str [], .int .i64 0, .nils, .int .i64 0, .str [], .int .i64 0, .nils, .str [], .str [], .nils, ev, .nils, .str []]
def feedOk (ws : List Wt) (kind frm a : Int) : Prop := kind = 4 ∧ (0 ≤ frm ∧ frm < 3) ∧ onE ws a = none
instance (ws : List Wt) (kind frm a : Int) : Decidable (feedOk ws kind frm a) := inferInstanceAs (Decidable (_ ∧ _))
section
variable {G : Heap} {k s : K} {m : Int} {ws : List Wt}
theorem f34_ok (h : isW G k s m ws) (kind frm a b c d e : Int) (ev : AV) : FnOk Tryd.prog 34 [.ptr k 0, .agg (msgE kind frm a b c d e ev)] G fun r G' => r = .bool (decide (feedOk ws kind frm a)) ∧ G' = G := by
  refine FnOk.drop (R := fun r => r = .bool (decide (feedOk ws kind frm a))) ?_ (by rintro v rfl ρ; rw [AV.ren])
  refine FnOk.of_WW Tryd.func34 rfl C34ok R34ok E0 good_E0 ?_
  simp only [go_sem, C34, msgE]
  refine ⟨fun g1 => ⟨fun g2 => ⟨fun g3 => ?_, fun g3 => ?_⟩, fun g2 => ?_⟩, fun g1 => ?_⟩
  · refine CL.of (f36_ok (h.ext _) a) ?_
    rintro _ G' ⟨rfl, hG⟩
    rw [hG]
    clear hG
    have hy : onE ws a = none → feedOk ws kind frm a := fun h => ⟨g1, ⟨g2, g3⟩, h⟩
    have hn : ¬ onE ws a = none → ¬ feedOk ws kind frm a := fun h g => h g.2.2
    generalize onE ws a = o at hy hn
    cases o with
    | none =>
      simp only [go_sem, errV]
      exact ⟨bool_t (hy rfl), _, rfl⟩
    | some x =>
      simp only [go_sem, errV]
      exact ⟨bool_f (hn (by simp)), _, rfl⟩
  · exact ⟨bool_f fun h => g3 h.2.1.2, _, rfl⟩
  · exact ⟨bool_f fun h => g2 h.2.1.1, _, rfl⟩
  · exact ⟨bool_f fun h => g1 h.1, _, rfl⟩
end
end Go.Proofs
/- a watcher: tells: walked. -/

set_option linter.all false
set_option linter.all false
set_option maxRecDepth 100000
namespace Go.Proofs
open Go Go.Ev
variable {H : Heap}

theorem call64' (args : List AV) (H : Heap) : callC Tryd.prog 64 args H = .call 64 args := callC_ok (by kernel_rfl) args H
def A67 (H : Heap) (args : List AV) (q : List Sn × Sn) : Prop := ∃ v, args = [v, .agg q.2.enc] ∧ Arr H 2 v (q.1.map Sn.enc) ∧ q.1.length < 4294967295
noncomputable def ET (f : FuncId) (args : List AV) (H : Heap) : RC :=
  match f with
  | 66 => ot (A80 H args) fun q => .ok (.int .i64 (ofT q.1 q.2)) H
  | 67 => ot (A67 H args) fun q => .ok (outV H.nx 2 (withT q.1 q.2).length) (H.ext [outB 2 ((withT q.1 q.2).map Sn.enc)])
  | 65 => match args with | [.agg [.str f, .str t], .str k] => .ok (.bool (decide (has f t k))) H | _ => .fail
  | _ => .fail
theorem good_ET : Ev.Good Tryd.prog ET := by
  intro f args H r G he φ w args' ha hw
  refine (?_ : FnOk Tryd.prog f args H fun v' G' => v' = r ∧ G' = G).one φ w args' ha hw
  unfold ET at he
  split at he
  · obtain ⟨q, ⟨v, rfl, h1, h2⟩, hz⟩ := ot_ok he
    clear he
    cases hz
    exact f66_ok h1 h2 _
  · obtain ⟨q, ⟨v, rfl, h1, h2⟩, hz⟩ := ot_ok he
    clear he
    cases hz
    exact f67_ok h1 h2 _
  · split at he
    · cases he; exact f65_ok _ _ _
    · cases he
  · cases he
theorem e66 {v : AV} {l : List Sn} (hA : Arr H 2 v (l.map Sn.enc)) (hl : l.length < 9223372036854775807) (k : List Nat) (L : List Blk) : ET 66 [v, .str k] (H.ext L) = .ok (.int .i64 (ofT l k)) (H.ext L) := by
  show ot (A80 (H.ext L) [v, .str k]) (fun q => .ok (.int .i64 (ofT q.1 q.2)) (H.ext L)) = _
  refine ot_eq (p := A80 (H.ext L) [v, .str k]) (x := (l, k)) ⟨v, rfl, hA.ext L, hl⟩ ?_ _
  rintro ⟨l', k'⟩ ⟨v', h1, h2, _⟩
  injection h1 with h1 h3
  injection h3 with h3 _
  injection h3 with h3
  subst h1 h3
  rw [sns_uniq (hA.ext L) h2]
theorem e67 {v : AV} {l : List Sn} (hA : Arr H 2 v (l.map Sn.enc)) (hl : l.length < 4294967295) (x : Sn) (L : List Blk) : ET 67 [v, .agg [.str x.key, .int .i64 x.ver]] (H.ext L) = .ok (outV (H.key L.length) 2 (withT l x).length) (H.ext (L ++ [outB 2 ((withT l x).map Sn.enc)])) := by
  show ot (A67 (H.ext L) [v, .agg x.enc]) (fun q => .ok (outV (H.ext L).nx 2 (withT q.1 q.2).length) ((H.ext L).ext [outB 2 ((withT q.1 q.2).map Sn.enc)])) = _
  rw [ot_eq (p := A67 (H.ext L) [v, .agg x.enc]) (x := (l, x)) ⟨v, rfl, hA.ext L, hl⟩, Heap.nx_ext, Heap.ext_append]
  rintro ⟨l', x'⟩ ⟨v', h1, h2, _⟩
  injection h1 with h1 h3
  injection h3 with h3 _
  injection h3 with h3
  subst h1
  rw [sns_uniq (hA.ext L) h2, Sn.enc_one h3]
theorem e65 (f t k : List Nat) (H : Heap) : ET 65 [.agg [.str f, .str t], .str k] H = .ok (.bool (decide (has f t k))) H := rfl
/-- an event that a watch tells -/
def tellsW (w : Wt) (e : Evn) : Prop := has w.fr w.to e.key ∧ e.ver = IntKind.i64.wrap (ofT w.seen e.key + 1) ∧ ¬ 1000000000000 < e.ver ∧ ((∃ c ∈ w.seen, c.key = e.key) ∨ w.seen.length < 60)
noncomputable instance (w : Wt) (e : Evn) : Decidable (tellsW w e) := Classical.propDecidable _
noncomputable def toldW (w : Wt) (e : Evn) (sv : AV) : Wt := { w with seen := withT w.seen ⟨e.key, e.ver⟩, sv := sv, n := IntKind.i64.wrap (w.n + 1) }
section
variable {G : Heap} {k s : K} {m : Int} {ws : List Wt}
theorem f35_ok (h : isW G k s m ws) {i : Nat} {w : Wt} (hi : ws[i]? = some w) (e : Evn) : FnOk Tryd.prog 35 [.ptr k 0, .int .i64 i, .agg e.enc] G fun r G' => r = .bool (decide (tellsW w e)) ∧ ∃ L, if tellsW w e then ∃ sv, G' = (G.set s (.row true 5 ((ws.set i (toldW w e sv)).map Wt.enc))).ext L ∧ Arr G' 2 sv ((withT w.seen ⟨e.key, e.ver⟩).map Sn.enc) else G' = G.ext L := by
  refine FnOk.of_WW Tryd.func35 rfl C35ok R35ok ET good_ET ?_
  have hk : ∀ L, (G.ext L).get k = _ := fun L => Heap.get_ext_old h.ok h.row L
  obtain ⟨h1, h2, h3, h4⟩ := h.at hi
  have hwm : w ∈ ws := List.mem_of_getElem? hi
  have hsn := h.arr w hwm
  have hfew := h.few w hwm
  have hsi : i + 1 ≤ ws.length := h1
  rw [h4] at hk
  have slen := fun G => hsn.len G
  simp only [List.length_map] at slen
  have i66 := e66 hsn (by omega)
  have i67 := fun L => e67 hsn (show w.seen.length < 4294967295 by omega) ⟨e.key, e.ver⟩ L
  dsimp only at i67
  have hne : ws ≠ [] := by intro e; rw [e] at hi; simp at hi
  have hset : ∀ L b {α : Type} (c : Heap → α), (G.ext L).setC s b c = c ((G.set s b).ext L) := fun L b _ c => Heap.setC_here h.ok (h.bl hne) b L c
  have hset2 : ∀ L b d {α : Type} (c : Heap → α), ((G.set s b).ext L).setC s d c = c ((G.set s d).ext L) := fun L b d _ c => Heap.setC_set_here h.ok (h.bl hne) b d L c
  have hs2 : ∀ L b, ((G.set s b).ext L).get s = some b := fun L b => Heap.get_set_here h.ok (h.bl hne) b L
  have hr2 : ∀ r, ((ws.map Wt.enc).set i r)[i]? = some r := fun r => List.getElem?_set_self (by rw [List.length_map]; exact h1)
  have hbad : ¬ tellsW w e → ∀ M, AV.bool false = AV.bool (decide (tellsW w e)) ∧ ∃ L, if tellsW w e then ∃ sv, G.ext M = (G.set s (.row true 5 ((ws.set i (toldW w e sv)).map Wt.enc))).ext L ∧ Arr (G.ext M) 2 sv ((withT w.seen ⟨e.key, e.ver⟩).map Sn.enc) else G.ext M = G.ext L := fun g M => ⟨bool_f g, M, by rw [if_neg g]⟩
  have hgood : tellsW w e → ∀ L, L[1]? = some (outB 2 ((withT w.seen ⟨e.key, e.ver⟩).map Sn.enc)) → AV.bool true = AV.bool (decide (tellsW w e)) ∧ ∃ L', if tellsW w e then ∃ sv, (G.set s (.row true 5 ((ws.map Wt.enc).set i [.str w.fr, .str w.to, outV (G.key 1) 2 (withT w.seen ⟨e.key, e.ver⟩).length, .int .i64 w.st, .int .i64 (IntKind.i64.wrap (w.n + 1))]))).ext L = (G.set s (.row true 5 ((ws.set i (toldW w e sv)).map Wt.enc))).ext L' ∧ Arr ((G.set s (.row true 5 ((ws.map Wt.enc).set i [.str w.fr, .str w.to, outV (G.key 1) 2 (withT w.seen ⟨e.key, e.ver⟩).length, .int .i64 w.st, .int .i64 (IntKind.i64.wrap (w.n + 1))]))).ext L) 2 sv ((withT w.seen ⟨e.key, e.ver⟩).map Sn.enc) else (G.set s (.row true 5 ((ws.map Wt.enc).set i [.str w.fr, .str w.to, outV (G.key 1) 2 (withT w.seen ⟨e.key, e.ver⟩).length, .int .i64 w.st, .int .i64 (IntKind.i64.wrap (w.n + 1))]))).ext L = G.ext L' := fun g L hL => by
    refine ⟨bool_t g, L, ?_⟩
    rw [if_pos g]
    refine ⟨outV (G.key 1) 2 (withT w.seen ⟨e.key, e.ver⟩).length, ?_, arr_outV (H := G.set s _) hL (List.length_map ..)⟩
    rw [List.map_set]
    rfl
  simp only [go_sem, C35, Evn.enc, hk, h2, h3, hsi, Wt.enc]
  refine CL.bool (f63_ok (hsn.ext _) (by omega) (fun _ _ => call64' ..) (fun top σ => by have := cap_ren (H := G) (b := .row true 4 [[.str e.key, .int .i64 e.ver, .str e.val, .bool e.del]]) (g := 64) [] top σ; rwa [Heap.ext_nil] at this) (p := fun c => c.key = e.key) fun c hcm L => f64_ok (get_first [] L) c) (fun g1 => ?_) (fun g1 => ?_)
  · simp only [go_sem, hk, h2, h3, hsi, Wt.enc, e65, i66, i67, slen, hset, hset2, hs2, hr2, List.set_set]
    exact ⟨fun g2 => ⟨fun g3 => hbad (fun h => g3 h.2.1) _, fun g3 => ⟨fun g4 => hbad (fun h => h.2.2.1 g4) _, fun g4 => hgood ⟨g2, Classical.byContradiction g3, g4, .inl g1⟩ _ rfl⟩⟩, fun g2 => hbad (fun h => g2 h.1) _⟩
  · simp only [go_sem, hk, h2, h3, hsi, Wt.enc, e65, i66, i67, slen, hset, hset2, hs2, hr2, List.set_set]
    exact ⟨fun g2 => ⟨fun g3 => hbad (fun h => g3 h.2.1) _, fun g3 => ⟨fun g4 => hbad (fun h => h.2.2.1 g4) _, fun g4 => ⟨fun g5 => hbad (fun h => h.2.2.2.elim g1 fun h => by omega) _, fun g5 => hgood ⟨g2, Classical.byContradiction g3, g4, .inr (by omega)⟩ _ rfl⟩⟩⟩, fun g2 => hbad (fun h => g2 h.1) _⟩
end
end Go.Proofs
/- a watcher: how memories follow each other; New, Len, Get, Cancel, Watch: walked. -/


set_option linter.all false
set_option linter.all false
set_option maxRecDepth 100000
namespace Go.Proofs
open Go Go.Ev
variable {H : Heap}

theorem putG_same {f : Sn → Sn → Sn} {x : Sn} : ∀ {l : List Sn}, up l → (∃ c ∈ l, c.key = x.key) → (putG f l x).length = l.length
  | [], _, h => by simp at h
  | d :: l, hu, ⟨c, hc, hk⟩ => by
    obtain ⟨h1, h2⟩ := List.pairwise_cons.1 hu
    unfold putG
    split
    · rename_i hlt
      rcases List.mem_cons.1 hc with rfl | hc
      · rw [hk] at hlt; exact absurd hlt (ltS_irrefl _)
      · rw [List.length_cons, List.length_cons, putG_same h2 ⟨c, hc, hk⟩]
    · split
      · rfl
      · rename_i hn hne
        rcases List.mem_cons.1 hc with rfl | hc
        · exact absurd hk hne
        · exact absurd (by rw [← hk]; exact h1 c hc) hn
theorem withT_few {l : List Sn} {x : Sn} (h : l.length ≤ 60) (hx : (∃ c ∈ l, c.key = x.key) ∨ l.length < 60) : (withT l x).length ≤ 60 := by
  unfold withT
  split
  · rename_i ht
    rcases hx with hx | hx
    · rw [putT, putG_same ht.up hx]; exact h
    · have := putG_len (f := fun _ x => x) (x := x) (l := l)
      unfold putT; omega
  · exact Nat.zero_le _
/-- k and s are blocks of one's own, behind B -/
structure Own (B G : Heap) (k s : K) : Prop where
  base : ∃ L, G = B.ext L
  hk : B.nx.toNat ≤ k.toNat
  hs : B.nx.toNat ≤ s.toNat
/-- what a watcher's calls leave as it was -/
structure Nx (k s : K) (G : Heap) (s' : K) (G' : Heap) : Prop where
  keep : ∀ j b, G.get j = some b → j ≠ k → j ≠ s → G'.get j = some b ∧ j ≠ s'
  own : ∀ B, Own B G k s → Own B G' k s'
  le : G.nx.toNat ≤ G'.nx.toNat
theorem Nx.refl (k s : K) (G : Heap) : Nx k s G s G := ⟨fun j b h _ h2 => ⟨h, h2⟩, fun B h => h, Nat.le_refl _⟩
theorem Nx.trans {k s s' s'' : K} {G G' G'' : Heap} (h : Nx k s G s' G') (h2 : Nx k s' G' s'' G'') : Nx k s G s'' G'' :=
  ⟨fun j b hj hk hs => (fun ⟨a, c⟩ => h2.keep j b a hk c) (h.keep j b hj hk hs), fun B hB => h2.own B (h.own B hB), Nat.le_trans h.le h2.le⟩
theorem Nx.ext {k s : K} {G : Heap} (hok : G.ok) (L : List Blk) : Nx k s G s (G.ext L) :=
  ⟨fun j b h _ h2 => ⟨Heap.get_ext_old hok h L, h2⟩, fun B ⟨⟨M, hM⟩, h1, h2⟩ => ⟨⟨M ++ L, by rw [hM, Heap.ext_append]⟩, h1, h2⟩, by rw [Heap.nx_ext, Heap.toNat_key]; omega⟩
theorem set_own {B G : Heap} {j : K} {c b : Blk} (hok : G.ok) (hj : G.get j = some c) (hB : ∃ L, G = B.ext L) (hl : B.nx.toNat ≤ j.toNat) : ∃ L, G.set j b = B.ext L := by
  obtain ⟨L, rfl⟩ := hB
  have h1 := hok j c hj
  rw [Heap.nx_ext, Heap.toNat_key] at h1
  have e : j = B.key (j.toNat - B.nx.toNat) := K.toNat_inj (by rw [Heap.toNat_key]; omega)
  rw [e, Heap.set_ext_key _ _ _ _ (by omega)]
  exact ⟨_, rfl⟩
theorem Nx.set {k s : K} {G : Heap} (hok : G.ok) {c b : Blk} (hs : G.get s = some c) : Nx k s G s (G.set s b) :=
  ⟨fun j d h _ h2 => ⟨by rw [Heap.get_set, if_neg fun e => h2 e.symm, h], h2⟩, fun B hB => ⟨set_own hok hs hB.base hB.hs, hB.hk, hB.hs⟩, Nat.le_refl _⟩
section
variable {G : Heap} {k s : K} {m : Int} {ws : List Wt}
/-- one watch is changed -/
theorem isW.upd (h : isW G k s m ws) {i : Nat} {w w' : Wt} (hi : ws[i]? = some w) (L : List Blk) (ha : Arr ((G.set s (.row true 5 ((ws.set i w').map Wt.enc))).ext L) 2 w'.sv (w'.seen.map Sn.enc)) (hf : w'.seen.length ≤ 60) :
    isW ((G.set s (.row true 5 ((ws.set i w').map Wt.enc))).ext L) k s m (ws.set i w') ∧ Nx k s G s ((G.set s (.row true 5 ((ws.set i w').map Wt.enc))).ext L) := by
  have hne : ws ≠ [] := by intro e; rw [e] at hi; simp at hi
  have hs := h.bl hne
  have hok2 : (G.set s (.row true 5 ((ws.set i w').map Wt.enc))).ok := Heap.ok_set h.ok hs
  refine ⟨⟨Heap.ok_ext hok2 L, ?_, fun _ => Heap.get_set_here h.ok hs _ L, h.ks, ?_, ?_, by rw [List.length_set]; exact h.wl⟩, (Nx.set h.ok hs).trans (Nx.ext hok2 L)⟩
  · rw [List.length_set]; exact Heap.get_set_there h.ok h.row (fun e => h.ks e.symm) _ L
  · intro v hv
    rcases List.mem_or_eq_of_mem_set hv with hv | rfl
    · exact ((h.arr v hv).set hs (by decide)).ext L
    · exact ha
  · intro v hv
    rcases List.mem_or_eq_of_mem_set hv with hv | rfl
    · exact h.few v hv
    · exact hf
theorem f17_ok (h : isW G k s m ws) : FnOk Tryd.prog 17 [.ptr k 0] G fun r G' => r = .int .i64 ws.length ∧ G' = G := by
  refine FnOk.drop (R := fun r => r = .int .i64 ws.length) ?_ (by rintro v rfl ρ; rw [AV.ren])
  refine FnOk.of_WW Tryd.func17 rfl C17ok R17ok E0 good_E0 ?_
  have hk : ∀ L, (G.ext L).get k = _ := fun L => Heap.get_ext_old h.ok h.row L
  simp only [go_sem, C17, hk]
  exact ⟨_, rfl⟩
theorem f9_ok (n : Int) : FnOk Tryd.prog 9 [.int .i64 n] G fun r G' => r = .ptr (G.key 0) 0 ∧ G' = G.ext [.row true 2 [[.int .i64 (IntKind.i64.wrap (200 + n)), .nils]]] := by
  refine FnOk.of_WW Tryd.func9 rfl C9ok R9ok E0 good_E0 ?_
  simp only [go_sem, C9]
theorem f30_ok (h : isW G k s m ws) (i : Int) : FnOk Tryd.prog 30 [.ptr k 0, .int .i64 i] G fun r G' => r = errV (onE ws i) ∧ (match ws[i.toNat]? with | some w => if onE ws i = none then isW G' k s m (ws.set i.toNat { w with st := 2 }) ∧ Nx k s G s G' else isW G' k s m ws ∧ Nx k s G s G' | none => isW G' k s m ws ∧ Nx k s G s G') := by
  refine FnOk.of_WW Tryd.func30 rfl C30ok R30ok E0 good_E0 ?_
  have hk : ∀ L, (G.ext L).get k = _ := fun L => Heap.get_ext_old h.ok h.row L
  simp only [go_sem, C30]
  refine CL.of (f36_ok (h.ext _) i) ?_
  rintro _ G' ⟨rfl, hG⟩
  rw [hG]
  clear hG
  by_cases ho : onE ws i = none
  · have hi0 : 0 ≤ i ∧ i < ws.length := by
      unfold onE at ho
      split at ho
      · cases ho
      · rename_i hx
        exact ⟨by omega, by omega⟩
    obtain ⟨j, rfl⟩ := Int.eq_ofNat_of_zero_le hi0.1
    have hj : j < ws.length := by omega
    have hget := List.getElem?_eq_getElem hj
    obtain ⟨h1, h2, h3, h4⟩ := h.at hget
    have hne : ws ≠ [] := by intro e; rw [e] at hj; simp at hj
    have hset : ∀ L b {α : Type} (c : Heap → α), (G.ext L).setC s b c = c ((G.set s b).ext L) := fun L b _ c => Heap.setC_here h.ok (h.bl hne) b L c
    have hsi : j + 1 ≤ ws.length := hj
    rw [h4] at hk
    generalize ws[j] = w at hget h3
    rw [ho]
    simp only [go_sem, errV, hk, h2, h3, hsi, Wt.enc, hset, Int.toNat_natCast, hget, if_true]
    have key := h.upd (w' := { w with st := 2 }) hget [] (by
      rw [Heap.ext_nil]; exact (h.arr w (List.mem_of_getElem? hget)).set (h.bl hne) (by decide)) (h.few w (List.mem_of_getElem? hget))
    rw [List.map_set] at key
    exact key
  · have hb := h.ext []
    have hn : Nx k s G s (G.ext []) := Nx.ext h.ok []
    obtain ⟨x, hx⟩ := Option.ne_none_iff_exists'.1 ho
    rw [hx]
    simp only [go_sem, errV]
    cases ws[i.toNat]? with
    | none => exact ⟨hb, hn⟩
    | some w => exact ⟨hb, hn⟩
end
end Go.Proofs
/- a watcher: Get, what fits, Watch: walked. -/

set_option linter.all false
set_option linter.all false
set_option maxRecDepth 100000
namespace Go.Proofs
open Go Go.Ev
variable {H : Heap}

section
variable {G : Heap} {k s : K} {m : Int} {ws : List Wt}
theorem f12_ok (h : isW G k s m ws) {i : Nat} {w : Wt} (hi : ws[i]? = some w) : FnOk Tryd.prog 12 [.ptr k 0, .int .i64 i] G fun r G' => ∃ sv L, r = .tup [.agg [.str w.fr, .str w.to, sv, .int .i64 w.st, .int .i64 w.n], .bool true] ∧ Arr G' 2 sv (w.seen.map Sn.enc) ∧ G' = G.ext L := by
  refine FnOk.of_WW Tryd.func12 rfl C12ok R12ok E0 good_E0 ?_
  have hk : ∀ L, (G.ext L).get k = _ := fun L => Heap.get_ext_old h.ok h.row L
  obtain ⟨h1, h2, h3, h4⟩ := h.at hi
  have hsn := h.arr w (List.mem_of_getElem? hi)
  have hfew := h.few w (List.mem_of_getElem? hi)
  have hsi : i + 1 ≤ ws.length := h1
  rw [h4] at hk
  simp only [go_sem, C12]
  refine CL.of (f36_ok (h.ext _) i) ?_
  rintro _ G' ⟨rfl, hG⟩
  rw [hG]
  clear hG
  simp only [go_sem]
  refine CL.bool (f32_ok _ 23) (fun g => ?_) (fun g => ?_)
  · exfalso
    unfold onE at g
    rw [if_neg (by omega), Int.toNat_natCast, hi] at g
    dsimp only at g
    split at g <;> cases g
  simp only [go_sem, hk, h2, h3, hsi, Wt.enc]
  refine CL.of (clone_zd clo60 (hsn.ext _) (by rw [List.length_map]; omega) (fun _ _ => Sn.map_rens _ _)) ?_
  rintro _ _ ⟨rfl, rfl⟩
  simp only [go_sem, List.length_map]
  exact ⟨_, _, rfl, by exact arr_zV (i := 2) rfl (List.length_map ..), rfl⟩
/-- whether a watch can be asked for -/
def fitsW (f t : List Nat) (seen : List Sn) : Prop := isSpan f t ∧ isTok seen ∧ seen.length ≤ 60 ∧ seen.length ≤ (inT f t seen).length
noncomputable instance (f t : List Nat) (seen : List Sn) : Decidable (fitsW f t seen) := Classical.propDecidable _
theorem f31_ok {H : Heap} {v : AV} {seen : List Sn} (hA : Arr H 2 v (seen.map Sn.enc)) (hl : seen.length < 100000000) (f t : List Nat) : FnOk Tryd.prog 31 [.agg [.str f, .str t], v] H fun r G => r = errV (if fitsW f t seen then none else some 10) ∧ G = H := by
  refine FnOk.drop (R := fun r => r = errV (if fitsW f t seen then none else some 10)) ?_ (by rintro v rfl ρ; rw [errV_ren])
  refine FnOk.of_WW Tryd.func31 rfl C31ok R31ok E0 good_E0 ?_
  have hlen := fun G => hA.len G; simp only [List.length_map] at hlen
  have hbad : ¬ fitsW f t seen → ∀ M, AV.iface 71 (.int .i64 10) = errV (if fitsW f t seen then none else some 10) ∧ ∃ l, H.ext M = H.ext l := fun g M => ⟨by rw [if_neg g]; rfl, M, rfl⟩
  simp only [go_sem, C31]
  refine CL.bool (f59_ok f t) (fun g1 => ?_) (fun g1 => ?_)
  rotate_left
  · simp only [go_sem]
    exact hbad (fun h => g1 h.1) _
  simp only [go_sem]
  refine CL.bool (f60_ok (hA.ext _) (by omega)) (fun g2 => ?_) (fun g2 => ?_)
  rotate_left
  · simp only [go_sem]
    exact hbad (fun h => g2 h.2.1) _
  simp only [go_sem, hlen]
  refine ⟨fun g3 => hbad (fun h => by have := h.2.2.1; omega) _, fun g3 => ?_⟩
  refine CL.of (f38_ok (hA.ext _) hl f t) ?_
  rintro _ _ ⟨rfl, rfl⟩
  simp only [go_sem, hlen]
  exact ⟨fun g4 => hbad (fun h => by have := h.2.2.2; omega) _, fun g4 => ⟨by rw [if_pos ⟨g1, g2, by omega, by omega⟩]; rfl, _, rfl⟩⟩
theorem Arr.set_row {k : K} {b : Blk} {wr : Bool} {u v : AV} {l : List Sn} (h : Arr G 2 v (l.map Sn.enc)) (hk : G.get k = some (.row wr 2 [[.int .i64 m, u]])) : Arr (G.set k b) 2 v (l.map Sn.enc) := by
  rcases h with h | ⟨j, off, ex, cap, rfl, hj, h⟩
  · exact .inl h
  · refine .inr ⟨j, off, ex, cap, rfl, hj, fun hx => ?_⟩
    obtain ⟨r, wr', rows', h1, h2, h3⟩ := h hx
    refine ⟨r, wr', rows', h1, ?_, h3⟩
    rw [Heap.get_set, if_neg fun e => ?_]
    · exact h2
    · subst e
      rw [hk] at h2
      cases h2
      cases l with
      | nil => exact hx rfl
      | cons c l =>
        cases r with
        | zero => simp [Sn.enc] at h3
        | succ r => simp at h3
/-- an append to what lies in an old block -/
theorem appQ_old {B : Heap} {L : List Blk} {s : K} {esz bytes j n : Nat} {xs : List (List AV)} {y : List AV} {wr ex : Bool} {cap : Nat} (he : 0 < esz)
    (hok : B.ok) (hs : xs ≠ [] → B.get s = some (.row true esz xs)) (hn : xs.length = n) (hj : L[j]? = some (.row wr esz [y])) (hb : okBig (n + 1) bytes = true) :
    appQ esz bytes (some (outV s esz n)) (some (.slice (B.key j) 0 1 esz ex cap)) (B.ext L) = .val (outV (B.key L.length) esz (n + 1)) ((if n = 0 then B else B.set s .dead).ext (L ++ [.row true esz (xs ++ [y])])) := by
  have hjl := (List.getElem?_eq_some_iff.1 hj).1
  have hb1 : (2 * (n + 1) + 192) * bytes ≤ 281474976710656 := by unfold okBig at hb; rwa [Nat.ble_eq] at hb
  show appR esz bytes (.c (outV s esz n)) (.c (.slice (B.key j) 0 1 esz ex cap)) .lf (B.ext L) = _
  cases xs with
  | nil =>
    obtain rfl : n = 0 := hn.symm
    simp only [go_sem, Heap.get_ext_key _ _ _ hjl, hj, Nat.zero_mod, Nat.zero_div, if_true]
    rw [if_pos (by simpa using hb1)]
  | cons a xs =>
    subst hn
    have hg := hs (by simp)
    rw [outV_pos (by simp)]
    simp only [go_sem, Heap.get_ext_key _ _ _ hjl, Heap.get_ext_old hok hg, hj, Nat.zero_mod, Nat.zero_div, List.take_length]
    rw [if_pos (Nat.le_refl _), if_neg (by omega), if_pos (by simpa using hb1), Heap.setC_here hok hg, Heap.addC_ext, Heap.key_set]
/-- what a watcher's clone answers -/
def A33 (H : Heap) (args : List AV) (q : AV × List Sn) : Prop := args = [q.1] ∧ Arr H 2 q.1 (q.2.map Sn.enc) ∧ q.2.length < 100000000
noncomputable def EC33 (f : FuncId) (args : List AV) (H : Heap) : RC :=
  match f with
  | 33 => ot (A33 H args) fun q => .ok (zV (nilB q.1) H.nx 2 q.2.length) (H.ext [zB (nilB q.1) 2 (q.2.map Sn.enc)])
  | _ => .fail
theorem good_EC33 : Ev.Good Tryd.prog EC33 := by
  intro f args H r G he φ w args' ha hw
  refine (?_ : FnOk Tryd.prog f args H fun v' G' => v' = r ∧ G' = G).one φ w args' ha hw
  unfold EC33 at he
  split at he
  · obtain ⟨q, ⟨rfl, h1, h2⟩, hz⟩ := ot_ok he
    clear he
    cases hz
    have := clone_zd clo60 h1 (by rw [List.length_map]; omega) (fun _ _ => Sn.map_rens _ _)
    rw [List.length_map] at this
    exact this
  · cases he
theorem e33 {H : Heap} {v : AV} {l : List Sn} (hA : Arr H 2 v (l.map Sn.enc)) (hl : l.length < 100000000) (L : List Blk) : EC33 33 [v] (H.ext L) = .ok (zV (nilB v) (H.key L.length) 2 l.length) (H.ext (L ++ [zB (nilB v) 2 (l.map Sn.enc)])) := by
  show ot (A33 (H.ext L) [v]) (fun q => .ok (zV (nilB q.1) (H.ext L).nx 2 q.2.length) ((H.ext L).ext [zB (nilB q.1) 2 (q.2.map Sn.enc)])) = _
  rw [ot_eq (p := A33 (H.ext L) [v]) (x := (v, l)) ⟨rfl, hA.ext L, hl⟩, Heap.nx_ext, Heap.ext_append]
  rintro ⟨v', l'⟩ ⟨h1, h2, _⟩
  injection h1 with h1 _
  dsimp only at h1 h2
  subst h1
  rw [sns_uniq (hA.ext L) h2]
theorem f10_ok (h : isW G k s m ws) {v : AV} {seen : List Sn} (hA : Arr G 2 v (seen.map Sn.enc)) (hl : seen.length < 100000000) (f t : List Nat) :
    FnOk Tryd.prog 10 [.ptr k 0, .agg [.str f, .str t], v] G fun r G' =>
      if fitsW f t seen then (if ws.length < 3 then r = .tup [.int .i64 ws.length, .nili] ∧ ∃ s' sv, isW G' k s' m (ws ++ [⟨f, t, seen, sv, 0, 0⟩]) ∧ Nx k s G s' G' else r = .tup [.int .i64 0, .iface 71 (.int .i64 19)] ∧ isW G' k s m ws ∧ Nx k s G s G')
      else r = .tup [.int .i64 0, .iface 71 (.int .i64 10)] ∧ isW G' k s m ws ∧ Nx k s G s G' := by
  refine FnOk.of_WW Tryd.func10 rfl C10ok R10ok EC33 good_EC33 ?_
  have hk : ∀ L, (G.ext L).get k = _ := fun L => Heap.get_ext_old h.ok h.row L
  have i33 := e33 hA hl
  simp only [go_sem, C10]
  refine CL.of (f31_ok (hA.ext _) hl f t) ?_
  rintro _ G' ⟨rfl, hG⟩
  rw [hG]
  clear hG
  by_cases hf : fitsW f t seen
  rotate_left
  · rw [if_neg hf]
    simp only [go_sem, errV]
    refine CL.bool (f32_ok (some 10) 10) (fun _ => ?_) (fun g => absurd rfl g)
    simp only [go_sem]
    rw [if_neg hf]
    exact ⟨h.ext _, Nx.ext h.ok _⟩
  rw [if_pos hf]
  simp only [go_sem, errV]
  refine CL.bool (f32_ok none 10) (fun g => by cases g) (fun _ => ?_)
  simp only [go_sem, ↓appR_hide, hk, i33]
  refine ⟨fun g3 => ?_, fun g3 => ?_⟩
  · rw [if_pos hf, if_neg (by omega)]
    exact ⟨h.ext _, Nx.ext h.ok _⟩
  · have hlt : ws.length < 3 := by omega
    have hkl := h.ok k _ h.row
    rw [appQ_old (xs := ws.map Wt.enc) (by decide) h.ok (fun hx => h.bl fun e => hx (by rw [e]; rfl)) (List.length_map ..) rfl (okBig_le (by omega) (by decide))]
    obtain ⟨B, hB⟩ : ∃ B, B = (if ws.length = 0 then G else G.set s .dead) := ⟨_, rfl⟩
    have hnx : B.nx = G.nx := by rw [hB]; split <;> rfl
    have hsk : ∀ b, G.get k = some b → B.get k = some b := fun b hb => by
      rw [hB]; split
      · exact hb
      · rw [Heap.get_set, if_neg fun e => h.ks e.symm, hb]
    have hsA : ∀ v' (l : List Sn), Arr G 2 v' (l.map Sn.enc) → Arr B 2 v' (l.map Sn.enc) := fun v' l ha => by
      rw [hB]; split
      · exact ha
      · rename_i hz; exact ha.set (h.bl fun e => hz (by rw [e]; rfl)) (by decide)
    have hBok : B.ok := by
      rw [hB]; split
      · exact h.ok
      · rename_i hz; exact Heap.ok_set h.ok (h.bl fun e => hz (by rw [e]; rfl))
    have hBkeep : ∀ j b, G.get j = some b → j ≠ s → B.get j = some b := fun j b hj hs => by
      rw [hB]; split
      · exact hj
      · rw [Heap.get_set, if_neg fun e => hs e.symm, hj]
    have hBown : ∀ C, Own C G k s → ∃ L, B = C.ext L := fun C hC => by
      rw [hB]; split
      · exact hC.base
      · rename_i hz; exact set_own h.ok (h.bl fun e => hz (by rw [e]; rfl)) hC.base hC.hs
    rw [← hB]
    have hkB := hsk _ h.row
    have hkey : ∀ i, B.key i = G.key i := fun i => by unfold Heap.key; rw [hnx]
    have hset : ∀ L b {α : Type} (c : Heap → α), (B.ext L).setC k b c = c ((B.set k b).ext L) := fun L b _ c => Heap.setC_here hBok hkB b L c
    have hgB : ∀ L, (B.ext L).get k = _ := fun L => Heap.get_ext_old hBok hkB L
    have hgB2 : ∀ L b, ((B.set k b).ext L).get k = some b := fun L b => Heap.get_set_here hBok hkB b L
    have hone : IntKind.i64.wrap (((ws.length + 1 : Nat) : Int) - 1) = ws.length := by rw [wrap_i64 (by omega) (by omega)]; omega
    simp only [go_sem, hkey, hnx, hset, hgB, hgB2, hone]
    rw [if_pos hf, if_pos hlt]
    refine ⟨G.key 3, zV (nilB v) (G.key 1) 2 seen.length, ⟨Heap.ok_ext (Heap.ok_set hBok hkB) _, ?_, fun _ => ?_, fun e => ?_, fun w hw => ?_, fun w hw => ?_, ?_⟩, ?_⟩
    · rw [hgB2, List.length_append]; rfl
    · rw [Heap.get_key_of (G := G) (by exact hnx) (show 3 < 4 by decide), List.map_append]; rfl
    · rw [e, Heap.toNat_key] at hkl; omega
    · rcases List.mem_append.1 hw with hw | hw
      · exact Arr.ext (Arr.set_row (hsA _ _ (h.arr w hw)) hkB) _
      · rw [List.mem_singleton.1 hw]
        have hz := fun b (L : List Blk) (hL : L[1]? = some (zB (nilB v) 2 (seen.map Sn.enc))) => arr_zV (H := B.set k b) (i := 1) hL (show (seen.map Sn.enc).length = seen.length from List.length_map ..)
        simp only [Heap.key_set, hkey] at hz
        exact hz _ _ rfl
    · rcases List.mem_append.1 hw with hw | hw
      · exact h.few w hw
      · rw [List.mem_singleton.1 hw]; exact hf.2.2.1
    · rw [List.length_append]; show ws.length + 1 ≤ 1000; omega
    · refine ⟨fun j b hj hjk hjs => ⟨?_, fun e => ?_⟩, fun C hC => ⟨?_, hC.hk, ?_⟩, ?_⟩
      · refine Heap.get_ext_old (Heap.ok_set hBok hkB) ?_ _
        rw [Heap.get_set, if_neg fun e => hjk e.symm]
        exact hBkeep j b hj hjs
      · have := h.ok j b hj; rw [e, Heap.toNat_key] at this; omega
      · obtain ⟨L, hL⟩ := set_own (b := .row true 2 [[.int .i64 m, .slice (G.key 3) 0 (ws.length + 1) 5 false (ws.length + 1)]]) hBok hkB (hBown C hC) hC.hk
        rw [hL, Heap.ext_append]
        exact ⟨_, rfl⟩
      · obtain ⟨L, hL⟩ := hC.base
        rw [hL, Heap.toNat_key, Heap.nx_ext, Heap.toNat_key]; omega
      · rw [Heap.nx_ext, Heap.toNat_key]
        show G.nx.toNat ≤ B.nx.toNat + _
        rw [hnx]; omega
end
end Go.Proofs
/- a watcher: Take: walked. -/

set_option linter.all false
set_option linter.all false
set_option maxRecDepth 100000
namespace Go.Proofs
open Go Go.Ev
variable {H : Heap}

/-- two watches that are the same, wherever they lie -/
def sameW (w v : Wt) : Prop := w.fr = v.fr ∧ w.to = v.to ∧ w.seen = v.seen ∧ w.st = v.st ∧ w.n = v.n
theorem sameW.refl (w : Wt) : sameW w w := ⟨rfl, rfl, rfl, rfl, rfl⟩
noncomputable def stepF (p : Wt × List Evn) (e : Evn) : Wt × List Evn := if tellsW p.1 e then (toldW p.1 e p.1.sv, p.2 ++ [e]) else p
noncomputable def runF (w : Wt) (l : List Evn) : Wt × List Evn := l.foldl stepF (w, [])
theorem runF_succ {w : Wt} {l : List Evn} {i : Nat} {e : Evn} (h : l[i]? = some e) : runF w (l.take (i + 1)) = stepF (runF w (l.take i)) e := by
  have : l.take (i + 1) = l.take i ++ [e] := by rw [List.take_add_one, h]; rfl
  unfold runF
  rw [this, List.foldl_append]; rfl
theorem runF_len (w : Wt) (l : List Evn) : (runF w l).2.length ≤ l.length := by
  suffices h : ∀ (l : List Evn) p, (l.foldl stepF p).2.length ≤ p.2.length + l.length by
    have := h l (w, []); rw [List.length_nil, Nat.zero_add] at this; exact this
  intro l
  induction l with
  | nil => intro p; exact Nat.le_refl _
  | cons e l ih =>
    intro p
    rw [List.foldl_cons]
    refine Nat.le_trans (ih _) ?_
    unfold stepF
    split
    · simp only [List.length_append, List.length_cons, List.length_nil]; omega
    · rw [List.length_cons]; omega
theorem tellsW_same {w v : Wt} (h : sameW w v) (e : Evn) : tellsW w e ↔ tellsW v e := by
  obtain ⟨h1, h2, h3, h4, h5⟩ := h
  unfold tellsW; rw [h1, h2, h3]
theorem toldW_same {w v : Wt} (h : sameW w v) (e : Evn) (a b : AV) : sameW (toldW w e a) (toldW v e b) := by
  obtain ⟨h1, h2, h3, h4, h5⟩ := h
  exact ⟨h1, h2, by show withT w.seen _ = withT v.seen _; rw [h3], h4, by show IntKind.i64.wrap (w.n + 1) = IntKind.i64.wrap (v.n + 1); rw [h5]⟩
section
variable {G : Heap} {k s : K} {m : Int} {ws : List Wt}
theorem isW.other (h : isW G k s m ws) {j : K} {wr : Bool} {rows : List (List AV)} {b : Blk} (hj : G.get j = some (.row wr 4 rows)) : isW (G.set j b) k s m ws := by
  have h1 : j ≠ k := fun e => by have := h.row; rw [← e, hj] at this; cases this
  refine ⟨Heap.ok_set h.ok hj, by rw [Heap.get_set, if_neg h1]; exact h.row, fun hw => ?_, h.ks, fun w hw => (h.arr w hw).set hj (by decide), h.few, h.wl⟩
  have := h.bl hw
  rw [Heap.get_set, if_neg fun e => ?_]
  · exact this
  · rw [← e, hj] at this; cases this
theorem Nx.other {s' j : K} {G' : Heap} (h : Nx k s G s' G') (hok : G.ok) (hok' : G'.ok) {c b : Blk} (hj : G'.get j = some c) (hl : G.nx.toNat ≤ j.toNat) : Nx k s G s' (G'.set j b) := by
  refine ⟨fun i d hi h1 h2 => ?_, fun B hB => ?_, h.le⟩
  · obtain ⟨h3, h4⟩ := h.keep i d hi h1 h2
    refine ⟨?_, h4⟩
    rw [Heap.get_set, if_neg fun e => ?_]
    · exact h3
    · have := hok i d hi; rw [← e] at this; omega
  · obtain ⟨h1, h2, h3⟩ := h.own B hB
    refine ⟨set_own hok' hj h1 ?_, h2, h3⟩
    obtain ⟨L, hL⟩ := hB.base
    have : B.nx.toNat ≤ G.nx.toNat := by rw [hL, Heap.nx_ext, Heap.toNat_key]; omega
    omega
theorem Arr.nx {s' : K} {G' : Heap} {e ek es : Nat} {v : AV} {xs rk rs : List (List AV)} {wk wr : Bool} (h : Arr G e v xs) (hN : Nx k s G s' G') (hk : G.get k = some (.row wk ek rk)) (hs : G.get s = some (.row wr es rs)) (h1 : e ≠ ek) (h2 : e ≠ es) : Arr G' e v xs := by
  rcases h with h | ⟨j, off, ex, cap, rfl, hj, h⟩
  · exact .inl h
  · refine .inr ⟨j, off, ex, cap, rfl, Nat.lt_of_lt_of_le hj hN.le, fun hx => ?_⟩
    obtain ⟨r, wr', rows', h3, h4, h5⟩ := h hx
    refine ⟨r, wr', rows', h3, (hN.keep j _ h4 ?_ ?_).1, h5⟩
    · rintro rfl; rw [hk] at h4; cases h4; exact h1 rfl
    · rintro rfl; rw [hs] at h4; cases h4; exact h2 rfl
theorem Arr.out_at {G : Heap} {k : K} {esz n : Nat} {wr : Bool} {xs : List (List AV)} (hok : G.ok) (h : G.get k = some (.row wr esz xs)) (hn : xs.length = n) (h0 : xs ≠ []) : Arr G esz (outV k esz n) xs := by
  subst hn
  rw [outV_pos (List.length_pos_iff.2 h0)]
  exact .inr ⟨k, 0, false, _, rfl, hok k _ h, fun _ => ⟨0, wr, xs, by simp, h, by simp⟩⟩
theorem set_same {α : Type} {l : List α} {i : Nat} {a : α} (h : l[i]? = some a) : l.set i a = l := by
  obtain ⟨hi, rfl⟩ := List.getElem?_eq_some_iff.1 h; exact List.set_getElem_self hi
theorem onE_at {i : Int} (h : onE ws i = none) : ∃ (j : Nat) (w : Wt), i = j ∧ ws[j]? = some w ∧ w.st = 0 := by
  unfold onE at h
  split at h
  · cases h
  · rename_i hx
    obtain ⟨j, rfl⟩ := Int.eq_ofNat_of_zero_le (show 0 ≤ i by omega)
    have hj : j < ws.length := by omega
    rw [Int.toNat_natCast, List.getElem?_eq_getElem hj] at h
    dsimp only at h
    split at h
    · rename_i hz; exact ⟨j, ws[j], rfl, List.getElem?_eq_getElem hj, hz⟩
    · cases h
/-- what Take answers -/
def TakeP (G : Heap) (k s : K) (m : Int) (ws : List Wt) (kind frm a c d e : Int) (evs : List Evn) (r : AV) (G' : Heap) : Prop :=
  Nx k s G s G' ∧
    if feedOk ws kind frm a then ∃ w, ws[a.toNat]? = some w ∧
      if d = 2 then r = .tup [.nils, .bool true] ∧ isW G' k s m ws
      else if d = 1 then r = .tup [.nils, .bool (decide (e = 1))] ∧ isW G' k s m (if c = w.n then ws.set a.toNat { w with st := 1 } else ws)
      else ∃ w' ov, r = .tup [ov, .bool (decide (e = 1))] ∧ sameW w' (runF w evs).1 ∧ isW G' k s m (ws.set a.toNat w') ∧ Arr G' 4 ov ((runF w evs).2.map Evn.enc)
    else r = .tup [.nils, .bool false] ∧ isW G' k s m ws
theorem f11_ok (h : isW G k s m ws) (kind frm a b c d e : Int) {ev : AV} {evs : List Evn} (hE : Arr G 4 ev (evs.map Evn.enc)) (hl : evs.length ≤ 1000) :
    FnOk Tryd.prog 11 [.ptr k 0, .agg (msgE kind frm a b c d e ev)] G (TakeP G k s m ws kind frm a c d e evs) := by
  refine FnOk.of_WW Tryd.func11 rfl C11ok R11ok E0 good_E0 ?_
  simp only [go_sem, C11, msgE]
  refine CL.bool (f34_ok (h.ext _) kind frm a b c d e ev) (fun hf => ?_) (fun hf => ?_)
  rotate_left
  · simp only [go_sem]
    unfold TakeP
    rw [if_neg hf]
    exact ⟨Nx.ext h.ok _, rfl, h.ext _⟩
  have hP : ∀ r G', TakeP G k s m ws kind frm a c d e evs r G' = (Nx k s G s G' ∧ ∃ w, ws[a.toNat]? = some w ∧
      if d = 2 then r = .tup [.nils, .bool true] ∧ isW G' k s m ws
      else if d = 1 then r = .tup [.nils, .bool (decide (e = 1))] ∧ isW G' k s m (if c = w.n then ws.set a.toNat { w with st := 1 } else ws)
      else ∃ w' ov, r = .tup [ov, .bool (decide (e = 1))] ∧ sameW w' (runF w evs).1 ∧ isW G' k s m (ws.set a.toNat w') ∧ Arr G' 4 ov ((runF w evs).2.map Evn.enc)) := fun r G' => by unfold TakeP; rw [if_pos hf]
  obtain ⟨j, w, rfl, hget, hst⟩ := onE_at hf.2.2
  simp only [Int.toNat_natCast] at hP
  by_cases hd2 : d = 2
  · have z := eq_true hd2
    simp only [go_sem, z]
    rw [hP]
    exact ⟨Nx.ext h.ok _, w, hget, by rw [if_pos hd2]; exact ⟨rfl, h.ext _⟩⟩
  have z2 := eq_false hd2
  have hk : ∀ L, (G.ext L).get k = _ := fun L => Heap.get_ext_old h.ok h.row L
  obtain ⟨h1, h2, h3, h4⟩ := h.at hget
  have hne : ws ≠ [] := by intro e; rw [e] at hget; simp at hget
  have hsi : j + 1 ≤ ws.length := h1
  by_cases hd1 : d = 1
  · have z := eq_true hd1
    rw [h4] at hk
    have hset : ∀ L b {α : Type} (c : Heap → α), (G.ext L).setC s b c = c ((G.set s b).ext L) := fun L b _ c => Heap.setC_here h.ok (h.bl hne) b L c
    have he : ∀ r G', (Nx k s G s G' ∧ r = .tup [.nils, .bool (decide (e = 1))] ∧ isW G' k s m (if c = w.n then ws.set j { w with st := 1 } else ws)) → TakeP G k s m ws kind frm j c d e evs r G' := fun r G' hx => by
      rw [hP]; exact ⟨hx.1, w, hget, by rw [if_neg hd2, if_pos hd1]; exact hx.2⟩
    have hyes : c = w.n → ∀ r L, r = AV.tup [.nils, .bool (decide (e = 1))] → TakeP G k s m ws kind frm j c d e evs r ((G.set s (.row true 5 ((ws.map Wt.enc).set j [.str w.fr, .str w.to, w.sv, .int .i64 1, .int .i64 w.n]))).ext L) := fun hc r L hr => by
      refine he _ _ ?_
      have key := h.upd (w' := { w with st := 1 }) hget L ((h.arr w (List.mem_of_getElem? hget)).set (h.bl hne) (by decide) |>.ext L) (h.few w (List.mem_of_getElem? hget))
      rw [List.map_set] at key
      rw [if_pos hc]
      exact ⟨key.2, hr, key.1⟩
    have hno : ¬ c = w.n → ∀ r L, r = AV.tup [.nils, .bool (decide (e = 1))] → TakeP G k s m ws kind frm j c d e evs r (G.ext L) := fun hc r L hr => by
      refine he _ _ ?_
      rw [if_neg hc]
      exact ⟨Nx.ext h.ok _, hr, h.ext _⟩
    by_cases hc : c = w.n <;> by_cases he1 : e = 1
    · have zc := eq_true hc
      have ze := eq_true he1
      simp only [go_sem, z, z2, hk, h2, h3, hsi, Wt.enc, hset, zc, ze]
      exact hyes hc _ _ (by rw [decide_eq_true he1])
    · have zc := eq_true hc
      have ze := eq_false he1
      simp only [go_sem, z, z2, hk, h2, h3, hsi, Wt.enc, hset, zc, ze]
      exact hyes hc _ _ (by rw [decide_eq_false he1])
    · have zc := eq_false hc
      have ze := eq_true he1
      simp only [go_sem, z, z2, hk, h2, h3, hsi, Wt.enc, hset, zc, ze]
      exact hno hc _ _ (by rw [decide_eq_true he1])
    · have zc := eq_false hc
      have ze := eq_false he1
      simp only [go_sem, z, z2, hk, h2, h3, hsi, Wt.enc, hset, zc, ze]
      exact hno hc _ _ (by rw [decide_eq_false he1])
  have z1 := eq_false hd1
  have hlen := fun G => hE.len G
  simp only [List.length_map] at hlen
  simp only [go_sem, z1, z2, hlen]
  have hG0 : ∃ G0, G0 = G.ext [.row true 24 [msgE kind frm j b c d e ev]] := ⟨_, rfl⟩
  obtain ⟨G0, hG0⟩ := hG0
  have hW0 : isW G0 k s m ws := by rw [hG0]; exact h.ext _
  have hE0 : Arr G0 4 ev (evs.map Evn.enc) := by rw [hG0]; exact hE.ext _
  have hM0 : G0.get (G.key 0) = some (.row true 24 [msgE kind frm j b c d e ev]) := by rw [hG0]; exact get_first [] []
  have hN0 : Nx k s G s G0 := by rw [hG0]; exact Nx.ext h.ok _
  refine LL.sth good_E0 (fun st : Nat × K => evs.length - st.1)
    (fun st G1 => st.1 ≤ evs.length ∧ Nx k s G0 s G1 ∧ ((runF w (evs.take st.1)).2 ≠ [] → G1.get st.2 = some (.row true 4 ((runF w (evs.take st.1)).2.map Evn.enc)) ∧ G0.nx.toNat ≤ st.2.toNat) ∧ ∃ w', sameW w' (runF w (evs.take st.1)).1 ∧ isW G1 k s m (ws.set j w'))
    (fun st => [(.z, .ptr k 0), ((.o (.o .z)), .ptr (G.key 0) 0), ((.i (.i .z)), .int .i64 j), ((.o (.o (.o .z))), outV st.2 4 (runF w (evs.take st.1)).2.length), ((.i (.o (.o (.o (.i .z))))), ev), ((.o (.i (.o (.o (.i .z))))), .int .i64 evs.length), ((.i (.i (.o (.o (.i .z))))), .int .i64 st.1)]) ?_ (0, k) ?_ ?_
  rotate_left
  · refine ⟨Nat.zero_le _, ?_, fun hx => absurd rfl hx, w, sameW.refl w, ?_⟩
    · rw [hG0]; exact Nx.refl _ _ _
    · rw [set_same hget]; exact h.ext _
  · refine Slots.all ?_
    simp only [go_sem]
    trivial
  rintro ⟨i, kk⟩ G1 ⟨hi, hNx, hout, w', hw', hW⟩
  dsimp only at hi hNx hout hw'
  have hEv := Arr.nx hE0 hNx hW0.row (hW0.bl hne) (by decide) (by decide)
  have hMs : ∀ L, (G1.ext L).get (G.key 0) = _ := fun L => Heap.get_ext_old hW.ok (hNx.keep _ _ hM0 (fun e => by have := hW0.row; rw [← e, hM0] at this; cases this) (fun e => by have := hW0.bl hne; rw [← e, hM0] at this; cases this)).1 L
  have hg1 : (ws.set j w')[j]? = some w' := List.getElem?_set_self h1
  by_cases hlt : i < evs.length
  rotate_left
  · have hci := eq_false (show ¬ (i : Int) < (evs.length : Int) by omega)
    obtain rfl : i = evs.length := by omega
    rw [List.take_length] at hout hw'
    have hfin : ∀ L, TakeP G k s m ws kind frm j c d e evs (.tup [outV kk 4 (runF w evs).2.length, .bool (decide (e = 1))]) (G1.ext L) := fun L => by
      rw [hP]
      refine ⟨hN0.trans (hNx.trans (Nx.ext hW.ok L)), w, hget, ?_⟩
      rw [if_neg hd2, if_neg hd1]
      refine ⟨w', _, rfl, hw', hW.ext L, ?_⟩
      refine Arr.ext ?_ L
      by_cases hz : (runF w evs).2 = []
      · rw [hz]; exact .inl ⟨rfl, rfl⟩
      · exact Arr.out_at hW.ok (hout hz).1 (List.length_map ..) (by simpa using hz)
    by_cases he1 : e = 1
    · have ze := eq_true he1
      rw [decide_eq_true he1] at hfin
      simp only [go_sem, C11L0, hci, hMs, msgE, ze, List.take_length]
      exact hfin _
    · have ze := eq_false he1
      rw [decide_eq_false he1] at hfin
      simp only [go_sem, C11L0, hci, hMs, msgE, ze, List.take_length]
      exact hfin _
  obtain ⟨ke, r, ex', cap', wr, rows, hv, hrho, hgo, hrow⟩ := hEv.at hW.ok (j := i) (by rw [List.length_map]; exact hlt)
  simp only [List.length_map, List.getElem_map] at hv hrow
  have hgete : evs[i]? = some evs[i] := List.getElem?_eq_getElem hlt
  generalize evs[i] = x at hrow hgete
  have hw := wrap_succ (n := i) (by omega)
  have hci : (i : Int) < (evs.length : Int) := (by omega)
  have hsi2 : i + 1 ≤ evs.length := hlt
  simp only [go_sem, C11L0, hci, hv, hsi2, hgo, hrow, Evn.enc]
  refine CL.of (f35_ok (hW.ext _) hg1 x) ?_
  rintro _ G2 ⟨rfl, L, hG2⟩
  have hok1 : (G1.ext [.row true 4 [x.enc]]).ok := (hW.ext _).ok
  have hkW := hW.row
  have hsW := hW.bl (by intro e; rw [e] at hg1; simp at hg1)
  by_cases ht : tellsW w' x
  · rw [if_pos ht] at hG2
    rw [decide_eq_true ht]
    obtain ⟨sv, hG2, hA2⟩ := hG2
    replace hG2 : G2 = ((G1.ext [.row true 4 [x.enc]]).set s (.row true 5 (((ws.set j w').set j (toldW w' x sv)).map Wt.enc))).ext L := hG2
    have key := (hW.ext [.row true 4 [x.enc]]).upd hg1 (w' := toldW w' x sv) L (by rw [← hG2]; exact hA2) (withT_few (hW.few _ (List.mem_of_getElem? hg1)) ht.2.2.2)
    rw [← hG2, List.set_set] at key
    clear hG2 hA2
    obtain ⟨hW2, hN2⟩ := key
    have hN12 : Nx k s G1 s G2 := (Nx.ext hW.ok _).trans hN2
    have hloc : ∀ L, (G2.ext L).get (G1.key 0) = some (.row true 4 [x.enc]) := fun L => Heap.get_ext_old hW2.ok (hN2.keep _ _ (get_first [] []) (fun e => by have := hW.ok k _ hkW; rw [← e, Heap.toNat_key] at this; omega) (fun e => by have := hW.ok s _ hsW; rw [← e, Heap.toNat_key] at this; omega)).1 L
    have hout2 : (runF w (evs.take i)).2 ≠ [] → G2.get kk = some (.row true 4 ((runF w (evs.take i)).2.map Evn.enc)) := fun hx => (hN12.keep _ _ (hout hx).1 (fun e => by have := (hout hx).1; rw [e, hkW] at this; cases this) (fun e => by have := (hout hx).1; rw [e, hsW] at this; cases this)).1
    have hrl := runF_len w (evs.take i)
    rw [List.length_take] at hrl
    have hstep : runF w (evs.take (i + 1)) = (toldW (runF w (evs.take i)).1 x (runF w (evs.take i)).1.sv, (runF w (evs.take i)).2 ++ [x]) := by
      rw [runF_succ hgete, stepF, if_pos ((tellsW_same hw' x).1 ht)]
    refine WW.nil ?_
    simp only [go_sem, ↓appR_hide, hloc, Evn.enc, hw]
    rw [appQ_old (xs := (runF w (evs.take i)).2.map Evn.enc) (by decide) hW2.ok (fun hx => hout2 fun e => hx (by rw [e]; rfl)) (List.length_map ..) rfl (okBig_le (by omega) (by decide))]
    obtain ⟨B, hB⟩ : ∃ B, B = (if (runF w (evs.take i)).2.length = 0 then G2 else G2.set kk .dead) := ⟨_, rfl⟩
    have hWB : isW B k s m (ws.set j (toldW w' x sv)) := by
      rw [hB]; split
      · exact hW2
      · rename_i hz; exact hW2.other (hout2 fun e => hz (by rw [e]; rfl))
    have hNB : Nx k s G0 s B := by
      rw [hB]; split
      · exact hNx.trans hN12
      · rename_i hz; exact (hNx.trans hN12).other hW0.ok hW2.ok (hout2 fun e => hz (by rw [e]; rfl)) (hout fun e => hz (by rw [e]; rfl)).2
    have hnx : B.nx = G2.nx := by rw [hB]; split <;> rfl
    rw [← hB]
    have hkey : ∀ i, B.key i = G2.key i := fun i => by unfold Heap.key; rw [hnx]
    simp only [go_sem]
    refine ⟨(i + 1, G2.key 1), by show evs.length - (i + 1) < evs.length - i; omega, ⟨hlt, hNB.trans (Nx.ext hWB.ok _), fun _ => ⟨?_, ?_⟩, toldW w' x sv, ?_, hWB.ext _⟩, ?_⟩
    · show (B.ext _).get (G2.key 1) = _
      rw [Heap.get_key_of (G := G2) hnx (show 1 < 2 by decide)]
      show _ = some (Blk.row true 4 ((runF w (evs.take (i + 1))).2.map Evn.enc))
      rw [hstep, List.map_append]; rfl
    · show G0.nx.toNat ≤ (G2.key 1).toNat
      have := hNB.le; rw [hnx] at this
      rw [Heap.toNat_key]; omega
    · show sameW _ (runF w (evs.take (i + 1))).1
      rw [hstep]; exact toldW_same hw' x _ _
    · refine Slots.all ?_
      dsimp only
      rw [hstep]
      simp only [go_sem]
      rw [hw]
  · rw [if_neg ht] at hG2
    rw [decide_eq_false ht, hG2, Heap.ext_append]
    have hstep : runF w (evs.take (i + 1)) = runF w (evs.take i) := by
      rw [runF_succ hgete, stepF, if_neg fun h => ht ((tellsW_same hw' x).2 h)]
    simp only [go_sem, hw]
    refine ⟨(i + 1, kk), by show evs.length - (i + 1) < evs.length - i; omega, ⟨hlt, hNx.trans (Nx.ext hW.ok _), fun hx => ?_, w', ?_, hW.ext _⟩, ?_⟩
    · dsimp only at hx ⊢
      rw [hstep] at hx ⊢
      exact ⟨Heap.get_ext_old hW.ok (hout hx).1 _, (hout hx).2⟩
    · dsimp only; rw [hstep]; exact hw'
    · refine Slots.all ?_
      dsimp only
      rw [hstep]
      simp only [go_sem]
end
end Go.Proofs
/- where two spans meet, as the code has it; the parts of a plan: walked. -/

set_option linter.all false
set_option linter.all false
set_option maxRecDepth 100000
namespace Go.Proofs
open Go Go.Ev
variable {H : Heap}

noncomputable def minS (a b : List Nat) : List Nat := if ltS b a then b else a
@[go_sem] theorem min_str {β : Type} (a b : List Nat) (f : β) (c : AV → β) : mm2 false (.str a) (.str b) f c = c (.str (minS a b)) := by
  show bif' (bif' false (Bool.not (ltL a b)) (Bool.or (ltL a b) (eqL a b))) (c (.str a)) (c (.str b)) = _
  unfold minS
  rw [bif_false, ltL_dec, eqL_eq, bif_eq]
  rcases ltS_tri a b with h | h | h
  · rw [decide_eq_true h, if_neg (ltS_asymm h)]; rfl
  · subst h; rw [if_neg (ltS_irrefl a)]; simp
  · rw [decide_eq_false (ltS_asymm h), if_pos h, decide_eq_false (by rintro rfl; exact ltS_irrefl _ h)]; rfl
theorem f85_ok (a b : List Nat) : FnOk Tryd.prog 85 [.str a, .str b] H fun r G => r = .str (lowS a b) ∧ G = H := by
  refine FnOk.drop (R := fun r => r = .str (lowS a b)) ?_ (by rintro v rfl ρ; rw [AV.ren])
  refine FnOk.of_WW Tryd.func85 rfl C85ok R85ok E0 good_E0 ?_
  simp only [go_sem, C85]
  refine ⟨fun h => ⟨by unfold lowS; rw [if_pos (.inl h)], _, rfl⟩, fun h => ⟨fun h2 => ⟨by unfold lowS; rw [if_neg fun g => g.elim h fun g => g.1 h2], _, rfl⟩, fun h2 => ⟨?_, _, rfl⟩⟩⟩
  unfold lowS minS
  by_cases h3 : ltS b a
  · rw [if_pos h3, if_pos (.inr ⟨h2, h3⟩)]
  · rw [if_neg h3, if_neg fun g => g.elim h fun g => h3 g.2]
noncomputable def F85 : FuncId → List AV → Option AV
  | 85, [.str a, .str b] => some (.str (lowS a b))
  | _, _ => none
theorem good_F85 : Ev.Good Tryd.prog (pureE F85) := by
  refine good_pureE fun f args v h H => ?_
  unfold F85 at h
  split at h
  · cases h; exact f85_ok _ _
  · cases h
theorem e85 (a b : List Nat) (H : Heap) : pureE F85 85 [.str a, .str b] H = .ok (.str (lowS a b)) H := rfl
theorem okMeet_iff {f t f' t' : List Nat} (h1 : isSpan f t) (h2 : isSpan f' t') : okMeet f t f' t' ↔ lowS t t' = [] ∨ ltS (maxS f f') (lowS t t') := by
  have hm : ((maxS f f').length : Int) ≤ 8 := by
    unfold maxS; split
    · exact h2.1
    · exact h1.1
  have hl : ((lowS t t').length : Int) ≤ 8 := by
    unfold lowS; split
    · exact h2.2.1
    · exact h1.2.1
  exact ⟨fun h => h.2.2.2.2, fun h => ⟨h1, h2, hm, hl, h⟩⟩
theorem f68_ok (f t f' t' : List Nat) : FnOk Tryd.prog 68 [.agg [.str f, .str t], .agg [.str f', .str t']] H fun r G => r = meetV f t f' t' ∧ G = H := by
  refine FnOk.drop (R := fun r => r = meetV f t f' t') ?_ (by rintro v rfl ρ; unfold meetV; split <;> simp only [AV.ren, AV.rens])
  refine FnOk.of_WW Tryd.func68 rfl C68ok R68ok (pureE F85) good_F85 ?_
  simp only [go_sem, C68, e85]
  have hbad : ¬ okMeet f t f' t' → ∀ L, AV.tup [.agg [.str [], .str []], .bool false] = meetV f t f' t' ∧ ∃ l, H.ext L = H.ext l := fun g L => ⟨by unfold meetV; rw [if_neg g], L, rfl⟩
  have hgood : okMeet f t f' t' → ∀ L, AV.tup [.agg [.str (maxS f f'), .str (lowS t t')], .bool true] = meetV f t f' t' ∧ ∃ l, H.ext L = H.ext l := fun g L => ⟨by unfold meetV; rw [if_pos g], L, rfl⟩
  refine CL.bool (f59_ok f t) (fun g1 => ?_) (fun g1 => ?_)
  rotate_left
  · simp only [go_sem]
    exact hbad (fun h => g1 h.1) _
  simp only [go_sem]
  refine CL.bool (f59_ok f' t') (fun g2 => ?_) (fun g2 => ?_)
  rotate_left
  · simp only [go_sem]
    exact hbad (fun h => g2 h.2.1) _
  have hi := okMeet_iff g1 g2
  by_cases g3 : lowS t t' = []
  · have z := eq_true g3
    simp only [go_sem, z]
    exact hgood (hi.2 (.inl g3)) _
  · have z := eq_false g3
    by_cases g4 : ltS (maxS f f') (lowS t t')
    · have z2 := eq_true g4
      simp only [go_sem, z, z2]
      exact hgood (hi.2 (.inr g4)) _
    · have z2 := eq_false g4
      simp only [go_sem, z, z2]
      exact hbad (fun h => (hi.1 h).elim g3 g4) _
/-- a place of a plan -/
structure Pl where
  id : Int
  ep : Int
  node : Int
  fr : List Nat
  to : List Nat
def Pl.enc (p : Pl) : List AV := [.int .i64 p.id, .int .i64 p.ep, .int .i64 p.node, .str p.fr, .str p.to]
@[go_sem] theorem Pl.rens (ρ : K → K) (c : Pl) : AV.rens ρ c.enc = c.enc := by simp only [Pl.enc, AV.rens, AV.ren]
theorem Pl.map_rens (ρ : K → K) (l : List Pl) : (l.map Pl.enc).map (AV.rens ρ) = l.map Pl.enc := by
  rw [List.map_map]; exact List.map_congr_left fun c _ => Pl.rens ρ c
noncomputable def partP (f t : List Nat) (p : Pl) : Pl := { p with fr := maxS p.fr f, to := lowS p.to t }
noncomputable def partsP (f t : List Nat) (l : List Pl) : List Pl := open Classical in (l.filter fun p => decide (okMeet p.fr p.to f t)).map (partP f t)
theorem partsP_succ {f t : List Nat} {l : List Pl} {i : Nat} {c : Pl} (h : l[i]? = some c) : (okMeet c.fr c.to f t → partsP f t (l.take (i + 1)) = partsP f t (l.take i) ++ [partP f t c]) ∧ (¬ okMeet c.fr c.to f t → partsP f t (l.take (i + 1)) = partsP f t (l.take i)) := by
  unfold partsP
  obtain ⟨hl, rfl⟩ := List.getElem?_eq_some_iff.1 h
  rw [List.take_succ_eq_append_getElem hl, List.filter_append, List.map_append]
  constructor
  · intro g; rw [List.filter_cons_of_pos (by simpa using g)]; rfl
  · intro g; rw [List.filter_cons_of_neg (by simpa using g)]; simp
theorem partsP_len (f t : List Nat) (l : List Pl) (i : Nat) : (partsP f t (l.take i)).length ≤ i := by
  unfold partsP
  rw [List.length_map]
  exact Nat.le_trans (List.length_filter_le _ _) (by rw [List.length_take]; omega)
theorem f37_ok {v : AV} {l : List Pl} (hA : Arr H 5 v (l.map Pl.enc)) (hl : l.length < 1000000) (f t : List Nat) :
    FnOk Tryd.prog 37 [v, .agg [.str f, .str t]] H fun r G => r = outV H.nx 5 (partsP f t l).length ∧ G = H.ext [outB 5 ((partsP f t l).map Pl.enc)] := by
  refine FnOk.assume fun hok => ?_
  refine FnOk.dropO (List.length_map ..) (Pl.map_rens · _) ?_
  refine FnOk.of_WW Tryd.func37 rfl C37ok R37ok E0 good_E0 ?_
  have hlen := fun G => hA.len G; simp only [List.length_map] at hlen; have hren := hA.ren
  simp only [go_sem, C37, hlen]
  refine LL.st good_E0 (fun i : Nat => l.length - i) (fun i => i ≤ l.length)
    (fun i => [((.o (.o .z)), .ptr (H.key 0) 0), ((.o (.i .z)), outV (H.key 1) 5 (partsP f t (l.take i)).length), ((.i (.i (.o .z))), v), ((.o (.o (.i .z))), .int .i64 l.length), ((.i (.o (.i .z))), .int .i64 i)])
    (fun i => [.row true 2 [[.str f, .str t]], outB 5 ((partsP f t (l.take i)).map Pl.enc)]) ?_ 0 (σ := [0, 1]) (Wk.of rfl (by decide) (by simp only [go_sem, hren, outV_ren', partsP, List.filter_nil]) (by simp only [go_sem, partsP, List.filter_nil, ↓outB_ren', ↓zB_ren, Pl.map_rens, Pl.rens, implies_true])) (Nat.zero_le _)
  rintro i hi
  have hil := partsP_len f t l i
  by_cases hlt : i < l.length
  · obtain ⟨kk, r, ex', cap', wr, rows, hv, hrho, hgo, hrow⟩ := hA.at hok (j := i) (by rw [List.length_map]; exact hlt); simp only [List.length_map, List.getElem_map] at hv hrow; cases hv; have hget : l[i]? = some l[i] := List.getElem?_eq_getElem hlt; generalize l[i] = c at hrow hget; have hw := wrap_succ (n := i) (by omega); have hci : (i : Int) < (l.length : Int) := (by omega); have hsi : i + 1 ≤ l.length := (by omega)
    have hnew := partsP_succ (f := f) (t := t) hget
    simp only [go_sem, ↓appR_hide, C37L0, hci, hsi, hgo, hrow, hw, Pl.enc]
    refine CL.of (f68_ok c.fr c.to f t) ?_
    rintro _ _ ⟨rfl, rfl⟩
    by_cases g : okMeet c.fr c.to f t
    · have hnew := hnew.1 g
      unfold meetV
      rw [if_pos g]
      simp only [go_sem, ↓appR_hide, hw]
      refine RW_app _ (partP f t c).enc rfl (List.length_map ..) rfl (okBig_le (by omega) (by decide)) ?_
      simp only [go_sem, hw]
      refine ⟨i + 1, by show l.length - (i + 1) < l.length - i; omega, ?_, _, [0, 5], rfl, Wk.of rfl (by decide) (by simp only [go_sem, outV_ren', hrho, hnew, List.length_map]) (by simp only [go_sem, ↓outB_ren', ↓zB_ren, Pl.map_rens, Pl.rens, implies_true, hnew, Pl.enc, List.length_map, List.map_take, List.map_drop, List.map_set, AV.rens])⟩
      show i + 1 ≤ l.length
      omega
    · have hnew := hnew.2 g
      unfold meetV
      rw [if_neg g]
      simp only [go_sem, ↓appR_hide, hw]
      refine ⟨i + 1, by show l.length - (i + 1) < l.length - i; omega, ?_, _, [0, 1], rfl, Wk.of rfl (by decide) (by simp only [go_sem, outV_ren', hrho, hnew, List.length_map]) (by simp only [go_sem, ↓outB_ren', ↓zB_ren, Pl.map_rens, Pl.rens, implies_true, hnew, Pl.enc, List.length_map, List.map_take, List.map_drop, List.map_set])⟩
      show i + 1 ≤ l.length
      omega
  · have hci : ¬ (i : Int) < (l.length : Int) := by omega
    simp only [go_sem, C37L0, hci]
    rw [List.take_of_length_le (by omega)]
    exact ⟨_, 1, rfl, rfl, fun _ => rfl⟩
end Go.Proofs
/- a feed as the law has it: walked. -/

set_option linter.all false
set_option linter.all false
set_option maxRecDepth 100000
namespace Go.Proofs
open Go Go.Ev
variable {H : Heap}

@[go_sem] theorem min_int {β : Type} (k : IntKind) (a b : Int) (f : β) (c : AV → β) : mm2 false (.int k a) (.int k b) f c = c (.int k (min a b)) := by
  show bif' false (ltI a b fun z => bif' z (c (.int k b)) (c (.int k a))) (ltI b a fun z => bif' z (c (.int k b)) (c (.int k a))) = _
  rw [bif_false, ltI_eq, bif_eq]
  by_cases h : b < a
  · rw [decide_eq_true h, if_pos rfl, Int.min_eq_right (by omega)]
  · rw [decide_eq_false h, if_neg (by decide), Int.min_eq_left (by omega)]
end Go.Proofs
/- a watcher: Poll: walked. -/


set_option linter.all false
set_option linter.all false
set_option maxRecDepth 100000
namespace Go.Proofs
open Go Go.Ev
variable {H : Heap}

/-- a letter that polls -/
def pollE (m i cr n : Int) (x : Pl × AV) : List AV := [.int .i64 3, .int .i64 m, .int .i64 x.1.node, .int .i64 i, .int .i64 cr, .int .i64 n, .int .i64 0, .int .i64 0, .int .i64 0, .str [], .str [], .str [], .int .i64 0, .nils, .int .i64 0, .str [], .int .i64 0, .nils, .str x.1.fr, .str x.1.to, x.2, .nils, .nils, .str []]
section
variable {G : Heap} {k s : K} {m : Int} {ws : List Wt}
theorem f13_bad (h : isW G k s m ws) {i x : Int} (ho : onE ws i = some x) (cr : Int) (pv : AV) : FnOk Tryd.prog 13 [.ptr k 0, .int .i64 i, .int .i64 cr, pv] G fun r G' => r = .tup [.nils, errV (some x)] ∧ ∃ L, G' = G.ext L := by
  refine FnOk.of_WW Tryd.func13 rfl C13ok R13ok E0 good_E0 ?_
  simp only [go_sem, C13]
  refine CL.of (f36_ok (h.ext _) i) ?_
  rintro _ G' ⟨rfl, hG⟩
  rw [hG, ho]
  simp only [go_sem, errV]
  exact ⟨_, rfl⟩
/-- all of a slice of one's own -/
theorem slv_out (k : K) (e n : Nat) (G : Heap) : asSliceC (outV k e n) R1.fail (if n = 0 then R1.val .nils G else R1.fail) (fun k off _ es ex cap => if es = e ∧ 0 ≤ n ∧ n ≤ cap ∧ cap ≤ cap then bif' (ex && decide (cap - 0 = 0)) (R1.val (.slice k off (n - 0) es ex (cap - 0)) G) (R1.val (.slice k (off + 0 * es) (n - 0) es ex (cap - 0)) G) else R1.fail) = R1.val (outV k e n) G := by
  cases n with
  | zero => rfl
  | succ n =>
    show (if _ then _ else _) = _
    rw [if_pos ⟨rfl, Nat.zero_le _, Nat.le_refl _, Nat.le_refl _⟩]
    show R1.val (AV.slice k (0 + 0 * e) (n + 1) e false (n + 1)) G = _
    rw [Nat.zero_mul]
    rfl
theorem f13_ok (h : isW G k s m ws) {i : Nat} {w : Wt} (hi : ws[i]? = some w) (hst : w.st = 0) (cr : Int) {pv : AV} {ps : List Pl} (hP : Arr G 5 pv (ps.map Pl.enc)) (hl : ps.length ≤ 1000) :
    FnOk Tryd.prog 13 [.ptr k 0, .int .i64 i, .int .i64 cr, pv] G fun r G' => ∃ (ov : AV) (L : List Blk) (xs : List (Pl × AV)), r = .tup [ov, .nili] ∧ G' = G.ext L ∧ Arr G' 24 ov (xs.map (pollE m i (min (max cr 0) 8) w.n)) ∧ xs.map Prod.fst = partsP w.fr w.to ps ∧ ∀ x ∈ xs, Arr G' 2 x.2 ((inT x.1.fr x.1.to w.seen).map Sn.enc) := by
  refine FnOk.of_WW Tryd.func13 rfl C13ok R13ok E0 good_E0 ?_
  have hk : ∀ L, (G.ext L).get k = _ := fun L => Heap.get_ext_old h.ok h.row L
  obtain ⟨h1, h2, h3, h4⟩ := h.at hi
  have hsn := h.arr w (List.mem_of_getElem? hi)
  have hfew := h.few w (List.mem_of_getElem? hi)
  have hsi : i + 1 ≤ ws.length := h1
  have ho : onE ws i = none := by unfold onE; rw [if_neg (by omega), Int.toNat_natCast, hi]; dsimp only; rw [if_pos hst]
  rw [h4] at hk
  simp only [go_sem, C13]
  refine CL.of (f36_ok (h.ext _) i) ?_
  rintro _ G' ⟨rfl, hG⟩
  rw [hG, ho]
  clear hG
  simp only [go_sem, errV, hk, h2, h3, hsi, Wt.enc]
  refine CL.of (f37_ok (hP.ext _) (by omega) w.fr w.to) ?_
  rintro _ _ ⟨rfl, rfl⟩
  simp only [go_sem]
  obtain ⟨qs, hqs⟩ : ∃ qs, qs = partsP w.fr w.to ps := ⟨_, rfl⟩
  have hql : qs.length ≤ 1000 := by
    have := partsP_len w.fr w.to ps ps.length
    rw [List.take_length, ← hqs] at this; omega
  rw [← hqs]
  obtain ⟨G0, hG0⟩ : ∃ G0, G0 = G.ext [.row true 5 [w.enc], outB 5 (qs.map Pl.enc)] := ⟨_, rfl⟩
  have hW0 : isW G0 k s m ws := by rw [hG0]; exact h.ext _
  have hS0 : Arr G0 2 w.sv (w.seen.map Sn.enc) := by rw [hG0]; exact hsn.ext _
  have hX0 : G0.get (G.key 0) = some (.row true 5 [w.enc]) := by rw [hG0]; exact get_first [_] []
  have hQ0 : Arr G0 5 (outV (G.key 1) 5 qs.length) (qs.map Pl.enc) := by rw [hG0]; exact arr_outV rfl (List.length_map ..)
  refine LL.sth good_E0 (fun st : Nat × K => qs.length - st.1)
    (fun st G1 => st.1 ≤ qs.length ∧ (∃ L, G1 = G0.ext L) ∧ ∃ xs : List (Pl × AV), xs.map Prod.fst = qs.take st.1 ∧ (xs ≠ [] → G1.get st.2 = some (.row true 24 (xs.map (pollE m i (min (max cr 0) 8) w.n))) ∧ G0.nx.toNat ≤ st.2.toNat) ∧ ∀ x ∈ xs, Arr G1 2 x.2 ((inT x.1.fr x.1.to w.seen).map Sn.enc))
    (fun st => [(.z, .ptr k 0), ((.o .z), .int .i64 i), ((.i .z), .int .i64 (min (max cr 0) 8)), ((.o (.o (.i .z))), .ptr (G.key 0) 0), ((.i (.o (.i .z))), outV st.2 24 st.1), ((.i (.o (.i (.o (.o .z))))), outV (G.key 1) 5 qs.length), ((.o (.i (.i (.o (.o .z))))), .int .i64 qs.length), ((.i (.i (.i (.o (.o .z))))), .int .i64 st.1)]) ?_ (0, k) ?_ ?_
  rotate_left
  · refine ⟨Nat.zero_le _, ⟨[], by rw [Heap.ext_nil, hG0]; rfl⟩, [], rfl, fun hx => absurd rfl hx, fun x hx => by cases hx⟩
  · refine Slots.all ?_
    simp only [go_sem]
  rintro ⟨j, kk⟩ G1 ⟨hj, ⟨L1, hL1⟩, xs, hxs, hout, har⟩
  dsimp only at hj hxs hout
  have hxl : xs.length = j := by
    have := congrArg List.length hxs
    rw [List.length_map, List.length_take] at this; omega
  have hok1 : G1.ok := by rw [hL1]; exact Heap.ok_ext hW0.ok _
  have hk1 : ∀ L, (G1.ext L).get k = some (.row true 2 [[.int .i64 m, outV s 5 ws.length]]) := fun L => by rw [hL1, Heap.ext_append]; exact Heap.get_ext_old hW0.ok hW0.row _
  have hX1 : ∀ L, (G1.ext L).get (G.key 0) = some (.row true 5 [w.enc]) := fun L => by rw [hL1, Heap.ext_append]; exact Heap.get_ext_old hW0.ok hX0 _
  have hS1 : Arr G1 2 w.sv (w.seen.map Sn.enc) := by rw [hL1]; exact hS0.ext _
  have hQ1 : Arr G1 5 (outV (G.key 1) 5 qs.length) (qs.map Pl.enc) := by rw [hL1]; exact hQ0.ext _
  by_cases hlt : j < qs.length
  rotate_left
  · have hci := eq_false (show ¬ (j : Int) < (qs.length : Int) by omega)
    obtain rfl : j = qs.length := by omega
    rw [List.take_length] at hxs
    simp only [go_sem, C13L0, hci]
    refine ⟨_, _, xs, rfl, by rw [hL1, hG0, Heap.ext_append, Heap.ext_append], ?_, by rw [hxs, hqs], fun x hx => (har x hx).ext _⟩
    refine Arr.ext ?_ _
    by_cases hz : xs = []
    · rw [hz] at hxl ⊢
      rw [← hxl]
      exact .inl ⟨rfl, rfl⟩
    · exact Arr.out_at hok1 (hout hz).1 (by rw [List.length_map]; exact hxl) (by simpa using hz)
  obtain ⟨ke, r, ex', cap', wr, rows, hv, hrho, hgo, hrow⟩ := hQ1.at hok1 (j := j) (by rw [List.length_map]; exact hlt)
  simp only [List.length_map, List.getElem_map] at hv hrow
  have hgete : qs[j]? = some qs[j] := List.getElem?_eq_getElem hlt
  generalize qs[j] = p at hrow hgete
  have hw := wrap_succ (n := j) (by omega)
  have hci : (j : Int) < (qs.length : Int) := (by omega)
  have hsi2 : j + 1 ≤ qs.length := hlt
  simp only [go_sem, C13L0, hci, hv, hsi2, hgo, hrow, Pl.enc, hX1, Wt.enc]
  refine CL.of (f38_ok (hS1.ext _) (by omega) p.fr p.to) ?_
  rintro _ _ ⟨rfl, rfl⟩
  have hil : (inT p.fr p.to w.seen).length ≤ 60 := by
    have := inT_len p.fr p.to w.seen w.seen.length
    rw [List.take_length] at this; omega
  obtain ⟨sn, hsn'⟩ : ∃ sn, sn = inT p.fr p.to w.seen := ⟨_, rfl⟩
  rw [← hsn'] at hil ⊢
  have hmin : min (sn.length : Int) 60 = sn.length := by omega
  simp only [go_sem, ↓appR_hide, slv_out, pollE, hX1, hk1, hw, Pl.enc, Wt.enc, hmin, List.length_map]
  rw [appQ_old (xs := xs.map (pollE m i (min (max cr 0) 8) w.n)) (by decide) hok1 (fun hx => (hout fun e => hx (by rw [e]; rfl)).1) (by rw [List.length_map]; exact hxl) rfl (okBig_le (by omega) (by decide))]
  obtain ⟨B, hB⟩ : ∃ B, B = (if j = 0 then G1 else G1.set kk .dead) := ⟨_, rfl⟩
  have hz : j ≠ 0 → xs ≠ [] := fun hz e => hz (by rw [← hxl, e]; rfl)
  have hBG : ∃ L, B = G0.ext L := by
    rw [hB]; split
    · exact ⟨_, hL1⟩
    · rename_i hz'; exact set_own hok1 (hout (hz hz')).1 ⟨_, hL1⟩ (hout (hz hz')).2
  have hnx : B.nx = G1.nx := by rw [hB]; split <;> rfl
  have hBA : ∀ x ∈ xs, Arr B 2 x.2 ((inT x.1.fr x.1.to w.seen).map Sn.enc) := fun x hx => by
    rw [hB]; split
    · exact har x hx
    · rename_i hz'; exact (har x hx).set (hout (hz hz')).1 (by decide)
  rw [← hB]
  clear hB
  simp only [go_sem, hw]
  obtain ⟨L2, hL2⟩ := hBG
  refine ⟨(j + 1, G1.key 4), by show qs.length - (j + 1) < qs.length - j; omega, ⟨hlt, ⟨_, by rw [hL2, Heap.ext_append]⟩, xs ++ [(p, outV (G1.key 1) 2 sn.length)], ?_, fun _ => ⟨?_, ?_⟩, fun x hx => ?_⟩, ?_⟩
  · rw [List.map_append, hxs]
    show _ = qs.take (j + 1)
    rw [List.take_add_one, hgete]; rfl
  · show (B.ext _).get (G1.key 4) = _
    rw [Heap.get_key_of (G := G1) hnx (show 4 < 5 by decide), List.map_append]; rfl
  · show G0.nx.toNat ≤ (G1.key 4).toNat
    rw [hL1, Heap.toNat_key, Heap.nx_ext, Heap.toNat_key]; omega
  · rcases List.mem_append.1 hx with hx | hx
    · exact (hBA x hx).ext _
    · rw [List.mem_singleton.1 hx]
      show Arr _ 2 (outV (G1.key 1) 2 sn.length) ((inT p.fr p.to w.seen).map Sn.enc)
      rw [← hsn', show G1.key 1 = B.key 1 by unfold Heap.key; rw [hnx]]
      exact arr_outV (by rfl) (List.length_map ..)
  · refine Slots.all ?_
    simp only [go_sem]
end
end Go.Proofs
/- a watcher of one key: the plain law; what the laws' own functions do with it. -/

set_option linter.all false
set_option linter.all false
set_option maxRecDepth 100000
namespace Go.Proofs
open Go Go.Ev
variable {H : Heap}

/-- a watch of all keys that was told of so many events of one key -/
def wK (n : Nat) : Wt := ⟨[], [], if n = 0 then [] else [⟨[107], n⟩], .nils, 0, n⟩
def kE (v : Int) : Evn := ⟨[107], v, [], false⟩
theorem has_k : has [] [] [107] := ⟨⟨by decide, by decide, .inl rfl⟩, ⟨by decide, by decide⟩, not_ltS_nil _, .inl rfl⟩
theorem of_k (n : Nat) : ofT (wK n).seen [107] = n := by
  unfold wK ofT
  by_cases h : n = 0
  · simp [h, getS]
  · simp [h, getS]
theorem tok_k {n : Nat} (hn : n ≤ 1000000000) : isTok (wK n).seen := by
  unfold wK
  dsimp only
  split
  · intro j hj; exact absurd hj (Nat.not_lt_zero _)
  · exact isTok_cons.2 ⟨⟨has_k.2.1, by show (0 : Int) ≤ n; omega, by show (n : Int) ≤ 1000000000000; omega⟩, fun d hd => by simp at hd, fun j hj => absurd hj (Nat.not_lt_zero _)⟩
theorem tells_k {w : Wt} {n : Nat} (h : sameW w (wK n)) (hn : n < 1000000000) (v : Int) : tellsW w (kE v) ↔ v = n + 1 := by
  rw [tellsW_same h]
  have h3 : IntKind.i64.wrap ((n : Int) + 1) = n + 1 := wrap_i64 (by omega) (by omega)
  constructor
  · rintro ⟨_, h4, _⟩
    rw [show (kE v).key = [107] from rfl, of_k, h3] at h4
    exact h4
  · rintro rfl
    refine ⟨has_k, ?_, by show ¬ 1000000000000 < (n : Int) + 1; omega, .inr ?_⟩
    · rw [show (kE (n + 1)).key = [107] from rfl, of_k, h3]; rfl
    · unfold wK; dsimp only; split
      · exact (show 0 < 60 by decide)
      · exact (show 1 < 60 by decide)
theorem with_k {n : Nat} (hn : n ≤ 1000000000) : withT (wK n).seen ⟨[107], n + 1⟩ = (wK (n + 1)).seen := by
  unfold withT
  rw [if_pos (tok_k hn)]
  unfold wK putT
  dsimp only
  rw [if_neg (Nat.succ_ne_zero n)]
  by_cases h : n = 0
  · subst h; rfl
  · rw [if_neg h, putG, if_neg (ltS_irrefl _), if_pos rfl]; rfl
theorem told_k {w : Wt} {n : Nat} (h : sameW w (wK n)) (hn : n < 1000000000) (sv : AV) : sameW (toldW w (kE (n + 1)) sv) (wK (n + 1)) := by
  obtain ⟨h1, h2, h3, h4, h5⟩ := h
  refine ⟨h1, h2, ?_, h4, ?_⟩
  · show withT w.seen ⟨[107], n + 1⟩ = _
    rw [h3, with_k (by omega)]
  · show IntKind.i64.wrap (w.n + 1) = ((n + 1 : Nat) : Int)
    rw [h5]; exact wrap_succ (by omega)
theorem sameW.symm {w v : Wt} (h : sameW w v) : sameW v w := ⟨h.1.symm, h.2.1.symm, h.2.2.1.symm, h.2.2.2.1.symm, h.2.2.2.2.symm⟩
theorem sameW.trans {w v u : Wt} (h : sameW w v) (g : sameW v u) : sameW w u := ⟨h.1.trans g.1, h.2.1.trans g.2.1, h.2.2.1.trans g.2.2.1, h.2.2.2.1.trans g.2.2.2.1, h.2.2.2.2.trans g.2.2.2.2⟩
/-- all keys, nothing seen: it fits -/
theorem fits_all : fitsW [] [] [] := ⟨⟨by decide, by decide, .inl rfl⟩, fun j hj => absurd hj (Nat.not_lt_zero _), by decide, by decide⟩
/-- a new watcher -/
theorem isW.new {H : Heap} (hok : H.ok) (m : Int) : isW (H.ext [.row true 2 [[.int .i64 m, .nils]]]) (H.key 0) (H.key 1) m [] ∧ Own H (H.ext [.row true 2 [[.int .i64 m, .nils]]]) (H.key 0) (H.key 1) := by
  refine ⟨⟨Heap.ok_ext hok _, get_first [] [], fun h => absurd rfl h, fun e => ?_, fun w h => absurd h List.not_mem_nil, fun w h => absurd h List.not_mem_nil, Nat.zero_le _⟩, ⟨_, rfl⟩, ?_, ?_⟩
  · have := congrArg K.toNat e
    rw [Heap.toNat_key, Heap.toNat_key] at this; omega
  · rw [Heap.toNat_key]; omega
  · rw [Heap.toNat_key]; omega
theorem onE_some {ws : List Wt} {j : Nat} {w : Wt} (h : ws[j]? = some w) : onE ws j = if w.st = 0 then none else some 24 := by
  have := (List.getElem?_eq_some_iff.1 h).1
  unfold onE
  rw [if_neg (by omega), Int.toNat_natCast, h]
end Go.Proofs
/- the watcher law's own example: walked. -/


set_option linter.all false
set_option linter.all false
set_option maxRecDepth 100000
namespace Go.Proofs
open Go Go.Ev
variable {H : Heap}

theorem fits_not : ¬ fitsW [98] [] [⟨[97], 0⟩] := by
  rintro ⟨_, _, _, h⟩
  unfold inT at h
  rw [List.filter_cons_of_neg (by rw [decide_eq_false (fun g : has [98] [] [97] => g.2.2.1 (by unfold ltS; decide))]; decide)] at h
  exact absurd h (by decide)
theorem parts_one : partsP [] [] [⟨1, 1, 2, [], []⟩] = [⟨1, 1, 2, [], []⟩] := by
  have h : okMeet [] [] [] [] := ⟨⟨by decide, by decide, .inl rfl⟩, ⟨by decide, by decide, .inl rfl⟩, ⟨by decide, by decide, .inl rfl⟩⟩
  unfold partsP
  rw [List.filter_cons_of_pos (by simpa using h), List.filter_nil]
  rfl
theorem run_three {w : Wt} (h : sameW w (wK 0)) : sameW (runF w [kE 2, kE 1, kE 2]).1 (wK 2) ∧ (runF w [kE 2, kE 1, kE 2]).2 = [kE 1, kE 2] := by
  have h1 : ¬ tellsW w (kE 2) := fun g => absurd ((tells_k h (by decide) 2).1 g) (by decide)
  have h2 : tellsW w (kE 1) := (tells_k h (by decide) 1).2 rfl
  have h3 := told_k h (by decide) w.sv
  have h4 : tellsW (toldW w (kE 1) w.sv) (kE 2) := (tells_k h3 (by decide) 2).2 rfl
  have h5 := told_k h3 (by decide) w.sv
  have : runF w [kE 2, kE 1, kE 2] = (toldW (toldW w (kE 1) w.sv) (kE 2) w.sv, [kE 1, kE 2]) := by
    show stepF (stepF (stepF (w, []) (kE 2)) (kE 1)) (kE 2) = _
    unfold stepF
    rw [if_neg h1, if_pos h2]
    dsimp only
    rw [if_pos h4]; rfl
  rw [this]
  exact ⟨h5, rfl⟩
theorem Arr.nx2 {G G' : Heap} {k s s' : K} {v u : AV} {l : List Sn} {rs : List (List AV)} {wk wr : Bool} {m : Int} (h : Arr G 2 v (l.map Sn.enc)) (hN : Nx k s G s' G') (hk : G.get k = some (.row wk 2 [[.int .i64 m, u]])) (hs : G.get s = some (.row wr 5 rs)) : Arr G' 2 v (l.map Sn.enc) := by
  rcases h with h | ⟨j, off, ex, cap, rfl, hj, h⟩
  · exact .inl h
  · refine .inr ⟨j, off, ex, cap, rfl, Nat.lt_of_lt_of_le hj hN.le, fun hx => ?_⟩
    obtain ⟨r, wr', rows', h3, h4, h5⟩ := h hx
    refine ⟨r, wr', rows', h3, (hN.keep j _ h4 ?_ ?_).1, h5⟩
    · rintro rfl
      rw [hk] at h4
      cases h4
      cases l with
      | nil => exact hx rfl
      | cons c l =>
        cases r with
        | zero => simp [Sn.enc] at h5
        | succ r => simp at h5
    · rintro rfl; rw [hs] at h4; cases h4
theorem f8_ok : FnOk Tryd.prog 8 [] H fun r G => r = .bool true ∧ G = H := by
  refine FnOk.assume fun hok => ?_
  refine FnOk.drop (R := fun r => r = .bool true) ?_ (by rintro v rfl ρ; rw [AV.ren])
  refine FnOk.of_WW Tryd.func8 rfl C8ok R8ok E0 good_E0 ?_
  simp only [go_sem, C8]
  have h9 : FnOk Tryd.prog 9 [.int .i64 0] (H.ext []) fun r G => r = .ptr (H.key 0) 0 ∧ G = H.ext [.row true 2 [[.int .i64 (IntKind.i64.wrap (200 + 0)), .nils]]] := by rw [Heap.ext_nil]; exact f9_ok 0
  refine CL.of h9 ?_
  rintro _ G' ⟨rfl, hG⟩
  rw [hG]
  clear hG h9
  have hnew := isW.new hok (IntKind.i64.wrap (200 + 0))
  simp only [go_sem]
  refine CL.of (f10_ok hnew.1 (v := .nils) (seen := []) (.inl ⟨rfl, rfl⟩) (by decide) [] []) ?_
  intro r G1 hr
  rw [if_pos fits_all, if_pos (by decide)] at hr
  obtain ⟨rfl, s1, sv1, hW1, hN1⟩ := hr
  have hO1 := hN1.own _ hnew.2
  refine WW.nil ?_
  simp only [go_sem]
  refine CL.of (f10_ok (hW1.ext _) (seen := [⟨[97], 0⟩]) (arr_row rfl rfl) (by decide) [98] []) ?_
  intro r G2 hr
  rw [if_neg fits_not] at hr
  obtain ⟨rfl, hW2, hN2⟩ := hr
  have hO2 := hN2.own _ ((Nx.ext hW1.ok _).own _ hO1)
  refine WW.nil ?_
  simp only [go_sem]
  refine CL.of (f13_ok (hW2.ext _) (i := 0) rfl rfl 99 (ps := [⟨1, 1, 2, [], []⟩]) (arr_row rfl rfl) (by decide)) ?_
  rintro _ G3 ⟨ov3, L3, xs, rfl, hG3, hA3, hx3, hS3⟩
  have hW3 := (hW2.ext [.row true 5 [(⟨1, 1, 2, [], []⟩ : Pl).enc]]).ext L3
  have hO3 := (Nx.ext (hW2.ext _).ok L3).own _ ((Nx.ext hW2.ok [.row true 5 [(⟨1, 1, 2, [], []⟩ : Pl).enc]]).own _ hO2)
  replace hG3 : G3 = (G2.ext [.row true 5 [(⟨1, 1, 2, [], []⟩ : Pl).enc]]).ext L3 := hG3
  rw [← hG3] at hW3 hO3
  clear hG3
  rw [show partsP [] [] [⟨1, 1, 2, [], []⟩] = [⟨1, 1, 2, [], []⟩] from parts_one] at hx3
  obtain ⟨x3, rfl⟩ : ∃ x, xs = [x] := by
    rcases xs with _ | ⟨x, _ | ⟨y, xs⟩⟩
    · cases hx3
    · exact ⟨x, rfl⟩
    · simp at hx3
  obtain ⟨p3, v3⟩ := x3
  obtain rfl : p3 = ⟨1, 1, 2, [], []⟩ := by simpa using hx3
  clear hS3 hx3
  refine WW.nil ?_
  simp only [go_sem]
  refine CL.of (f11_ok (hW3.ext _) 4 2 0 0 1 0 0 (evs := [kE 2, kE 1, kE 2]) (arr_row rfl rfl) (by decide)) ?_
  rintro r G4 ⟨hN4, hr⟩
  have hf4 : feedOk [(⟨[], [], [], sv1, 0, 0⟩ : Wt)] 4 2 0 := ⟨rfl, by decide, by have := onE_some (ws := [(⟨[], [], [], sv1, 0, 0⟩ : Wt)]) (j := 0) rfl; rw [if_pos rfl] at this; exact this⟩
  rw [if_pos (by exact hf4)] at hr
  obtain ⟨w0, hw0, hr⟩ := hr
  obtain rfl : ⟨[], [], [], sv1, 0, 0⟩ = w0 := by simpa using hw0
  rw [if_neg (by decide), if_neg (by decide)] at hr
  obtain ⟨⟨fr4, to4, seen4, sv4, st4, n4⟩, ov4, rfl, hw4, hW4, hA4⟩ := hr
  have hk4 := run_three (w := ⟨[], [], [], sv1, 0, 0⟩) ⟨rfl, rfl, rfl, rfl, rfl⟩
  have hw4 := hw4.trans hk4.1
  rw [hk4.2] at hA4
  obtain rfl : fr4 = [] := hw4.1
  obtain rfl : to4 = [] := hw4.2.1
  obtain rfl : seen4 = [⟨[107], 2⟩] := hw4.2.2.1
  obtain rfl : st4 = 0 := hw4.2.2.2.1
  obtain rfl : n4 = 2 := hw4.2.2.2.2
  replace hW4 : isW G4 (H.key 0) s1 (IntKind.i64.wrap (200 + 0)) [⟨[], [], [⟨[107], 2⟩], sv4, 0, 2⟩] := hW4
  have hN34 : Nx (H.key 0) s1 G3 s1 G4 := (Nx.ext hW3.ok _).trans hN4
  have hO4 := hN34.own _ hO3
  refine WW.nil ?_
  simp only [go_sem]
  refine CL.of (f12_ok (hW4.ext _) (i := 0) rfl) ?_
  rintro _ G5 ⟨sv5, L5, rfl, hA5, hG5⟩
  have hW5 := (hW4.ext []).ext L5
  have hO5 := (Nx.ext (hW4.ext []).ok L5).own _ ((Nx.ext hW4.ok []).own _ hO4)
  have hN35 := (hN34.trans (Nx.ext hW4.ok [])).trans (Nx.ext (hW4.ext []).ok L5)
  rw [← hG5] at hW5 hO5 hN35
  clear hG5
  refine WW.nil ?_
  simp only [go_sem]
  refine CL.of (f13_bad (hW5.ext _) (i := 5) (x := 23) (by unfold onE; rw [if_pos (.inr (show (1 : Int) ≤ 5 by decide))]) 1 .nils) ?_
  rintro _ G6 ⟨rfl, L6, hG6⟩
  obtain ⟨bx, hbx⟩ : ∃ b, b = Blk.row true 5 [[.str [], .str [], sv5, .int .i64 0, .int .i64 2]] := ⟨_, rfl⟩
  have hW6 := (hW5.ext [bx]).ext L6
  have hN56 : Nx (H.key 0) s1 G5 s1 ((G5.ext [bx]).ext L6) := (Nx.ext hW5.ok [bx]).trans (Nx.ext (hW5.ext [bx]).ok L6)
  have hx6 : ((G5.ext [bx]).ext L6).get (G5.key 0) = some bx := get_first [] _
  replace hG6 : G6 = (G5.ext [bx]).ext L6 := by rw [hbx]; exact hG6
  rw [← hG6] at hW6 hN56 hx6
  clear hG6
  refine WW.nil ?_
  simp only [go_sem]
  refine CL.of (f30_ok (hW6.ext _) 0) ?_
  rintro _ G7 ⟨rfl, hr⟩
  have ho7 : onE [(⟨[], [], [⟨[107], 2⟩], sv4, 0, 2⟩ : Wt)] 0 = none := by have := onE_some (ws := [(⟨[], [], [⟨[107], 2⟩], sv4, 0, 2⟩ : Wt)]) (j := 0) rfl; rw [if_pos rfl] at this; exact this
  rw [show ([(⟨[], [], [⟨[107], 2⟩], sv4, 0, 2⟩ : Wt)])[(0 : Int).toNat]? = some ⟨[], [], [⟨[107], 2⟩], sv4, 0, 2⟩ from rfl] at hr
  dsimp only at hr
  rw [if_pos ho7] at hr
  obtain ⟨hW7, hN7⟩ := hr
  replace hW7 : isW G7 (H.key 0) s1 (IntKind.i64.wrap (200 + 0)) [⟨[], [], [⟨[107], 2⟩], sv4, 2, 2⟩] := hW7
  rw [ho7]
  refine WW.nil ?_
  simp only [go_sem, errV]
  refine CL.of (f30_ok (hW7.ext _) 0) ?_
  rintro _ G8 ⟨rfl, hr⟩
  have ho8 : onE [(⟨[], [], [⟨[107], 2⟩], sv4, 2, 2⟩ : Wt)] 0 = some 24 := by have := onE_some (ws := [(⟨[], [], [⟨[107], 2⟩], sv4, 2, 2⟩ : Wt)]) (j := 0) rfl; rw [if_neg (show ¬ (2 : Int) = 0 by decide)] at this; exact this
  rw [show ([(⟨[], [], [⟨[107], 2⟩], sv4, 2, 2⟩ : Wt)])[(0 : Int).toNat]? = some ⟨[], [], [⟨[107], 2⟩], sv4, 2, 2⟩ from rfl] at hr
  dsimp only at hr
  rw [if_neg (by rw [ho8]; exact fun h => by cases h)] at hr
  obtain ⟨hW8, hN8⟩ := hr
  rw [ho8]
  have hN68 : Nx (H.key 0) s1 G6 s1 G8 := ((Nx.ext hW6.ok []).trans hN7).trans ((Nx.ext hW7.ok []).trans hN8)
  have hN58 := hN56.trans hN68
  have hA38 := Arr.nx hA3 (hN35.trans hN58) hW3.row (hW3.bl (by simp)) (by decide) (by decide)
  have hA58 := Arr.nx2 hA5 hN58 hW5.row (hW5.bl (by simp))
  have hO8 := hN58.own _ hO5
  obtain ⟨LF, hLF⟩ := hO8.base
  have hx8 : ∀ L, (G8.ext L).get (G5.key 0) = some bx := Heap.get_ext_old hW8.ok (hN68.keep _ _ hx6 (fun e => by have := hW5.ok _ _ hW5.row; rw [← e, Heap.toNat_key] at this; omega) (fun e => by have := hW5.ok _ _ (hW5.bl (by simp)); rw [← e, Heap.toNat_key] at this; omega)).1
  have hl3 := fun G => hA38.len G
  have hl4 := fun G => hA4.len G
  have hl5 := fun G => hA58.len G
  simp only [List.map_cons, List.map_nil, List.length_cons, List.length_nil] at hl3 hl4 hl5
  obtain ⟨k3, r3, ex3, cap3, wr3, rows3, hv3, -, hgo3, hrow3⟩ := hA38.at hW8.ok (j := 0) Nat.zero_lt_one
  obtain ⟨k5, r5, ex5, cap5, wr5, rows5, hv5, -, hgo5, hrow5⟩ := hA58.at hW8.ok (j := 0) Nat.zero_lt_one
  rw [hbx] at hx8
  cases hv3
  cases hv5
  have hrow3 : rows3[r3 + 0]? = some (pollE (IntKind.i64.wrap (200 + 0)) 0 8 0 (⟨1, 1, 2, [], []⟩, v3)) := hrow3
  have hrow5 : rows5[r5 + 0]? = some [.str [107], .int .i64 2] := hrow5
  rw [Nat.add_zero] at hrow3 hrow5
  refine WW.nil ?_
  simp only [go_sem, errV, hl3, hl4, hl5, hx8, hgo3, hgo5]
  refine CL.bool (f22_ok (some 10) 10) (fun _ => ?_) (fun g => absurd rfl g)
  simp only [go_sem, hl3, hl4, hl5, hx8, hgo3, hgo5, hrow3, hrow5, pollE]
  refine CL.bool (f22_ok (some 23) 23) (fun _ => ?_) (fun g => absurd rfl g)
  simp only [go_sem]
  refine CL.bool (f22_ok (some 24) 24) (fun _ => ?_) (fun g => absurd rfl g)
  simp only [go_sem]
  refine CL.of (f17_ok (hW8.ext _)) ?_
  rintro _ G9 ⟨rfl, hG9⟩
  rw [hG9, hLF]
  simp only [go_sem]
  exact ⟨_, rfl⟩
end Go.Proofs
/- what was seen within a span, as the law has it: walked; an oracle for it. -/

set_option linter.all false
set_option linter.all false
set_option maxRecDepth 100000
namespace Go.Proofs
open Go Go.Ev
variable {H : Heap}

theorem f16_ok {v : AV} {l : List Sn} (hA : Arr H 2 v (l.map Sn.enc)) (hl : l.length < 100000000) (f t : List Nat) :
    FnOk Tryd.prog 16 [v, .agg [.str f, .str t]] H fun r G => r = outV H.nx 2 (inT f t l).length ∧ G = H.ext [outB 2 ((inT f t l).map Sn.enc)] := by
  refine FnOk.assume fun hok => ?_
  refine FnOk.dropO (List.length_map ..) (Sn.map_rens · _) ?_
  refine FnOk.of_WW Tryd.func16 rfl C16ok R16ok (pureE F46) good_F46 ?_
  have hlen := fun G => hA.len G; simp only [List.length_map] at hlen; have hren := hA.ren
  simp only [go_sem, C16, hlen]
  refine LL.st good_F46 (fun i : Nat => l.length - i) (fun i => i ≤ l.length)
    (fun i => [(.z, v), ((.o (.o .z)), .ptr (H.key 0) 0), ((.o (.i .z)), outV (H.key 1) 2 (inT f t (l.take i)).length), ((.i (.i .z)), .int .i64 i)])
    (fun i => [.row true 2 [[.str f, .str t]], outB 2 ((inT f t (l.take i)).map Sn.enc)]) ?_ 0 (σ := [0, 1]) (Wk.of rfl (by decide) (by simp only [go_sem, hren, outV_ren', inT, List.filter_nil]) (by simp only [go_sem, inT, List.filter_nil, ↓outB_ren', ↓zB_ren, Sn.map_rens, Sn.rens, implies_true])) (Nat.zero_le _)
  rintro i hi
  have hil := inT_len f t l i
  by_cases hlt : i < l.length
  · obtain ⟨kk, r, ex', cap', wr, rows, hv, hrho, hgo, hrow⟩ := hA.at hok (j := i) (by rw [List.length_map]; exact hlt); simp only [List.length_map, List.getElem_map] at hv hrow; cases hv; have hget : l[i]? = some l[i] := List.getElem?_eq_getElem hlt; generalize l[i] = c at hrow hget; have hw := wrap_succ (n := i) (by omega); have hci : (i : Int) < (l.length : Int) := (by omega); have hsi : i + 1 ≤ l.length := (by omega)
    have hnew := inT_succ (f := f) (t := t) hget
    simp only [go_sem, ↓appR_hide, C16L0, e46, hci, hsi, hgo, hrow, hw, Sn.enc]
    refine ⟨fun g => ?_, fun g => ?_⟩
    · rw [if_pos g] at hnew
      refine RW_app _ [.str c.key, .int .i64 c.ver] rfl (List.length_map ..) rfl (okBig_le (by omega) (by decide)) ?_
      simp only [go_sem, hw]
      refine ⟨i + 1, by show l.length - (i + 1) < l.length - i; omega, ?_, _, [0, 3], rfl, Wk.of rfl (by decide) (by simp only [go_sem, outV_ren', hrho, hnew, List.length_map]) (by simp only [go_sem, ↓outB_ren', ↓zB_ren, Sn.map_rens, Sn.rens, implies_true, hnew, Sn.enc, List.length_map, List.map_take, List.map_drop, List.map_set, AV.rens])⟩
      show i + 1 ≤ l.length
      omega
    · rw [if_neg g, List.append_nil] at hnew
      refine ⟨i + 1, by show l.length - (i + 1) < l.length - i; omega, ?_, _, [0, 1], rfl, Wk.of rfl (by decide) (by simp only [go_sem, outV_ren', hrho, hnew, List.length_map]) (by simp only [go_sem, ↓outB_ren', ↓zB_ren, Sn.map_rens, Sn.rens, implies_true, hnew, Sn.enc, List.length_map, List.map_take, List.map_drop, List.map_set])⟩
      show i + 1 ≤ l.length
      omega
  · have hci : ¬ (i : Int) < (l.length : Int) := by omega
    simp only [go_sem, C16L0, hci, hlen]
    rw [List.take_of_length_le (by omega)]
    exact ⟨_, 1, rfl, rfl, fun _ => rfl⟩
def A16 (H : Heap) (args : List AV) (q : List Sn × List Nat × List Nat) : Prop := ∃ v, args = [v, .agg [.str q.2.1, .str q.2.2]] ∧ Arr H 2 v (q.1.map Sn.enc) ∧ q.1.length < 100000000
def A15 (H : Heap) (args : List AV) (q : List Sn × List Sn) : Prop := ∃ v w, args = [v, w] ∧ Arr H 2 v (q.1.map Sn.enc) ∧ Arr H 2 w (q.2.map Sn.enc) ∧ q.1.length < 9223372036854775807
noncomputable def EM (f : FuncId) (args : List AV) (H : Heap) : RC :=
  match f with
  | 16 => ot (A16 H args) fun q => .ok (outV H.nx 2 (inT q.2.1 q.2.2 q.1).length) (H.ext [outB 2 ((inT q.2.1 q.2.2 q.1).map Sn.enc)])
  | 15 => ot (A15 H args) fun q => .ok (.bool (decide (q.1 = q.2))) H
  | _ => .fail
theorem good_EM : Ev.Good Tryd.prog EM := by
  intro f args H r G he φ w args' ha hw
  refine (?_ : FnOk Tryd.prog f args H fun v' G' => v' = r ∧ G' = G).one φ w args' ha hw
  unfold EM at he
  split at he
  · obtain ⟨q, ⟨v, rfl, h1, h2⟩, hz⟩ := ot_ok he
    clear he
    cases hz
    exact f16_ok h1 h2 _ _
  · obtain ⟨q, ⟨v, w, rfl, h1, h2, h3⟩, hz⟩ := ot_ok he
    clear he
    cases hz
    exact f15_ok h1 h2 h3
  · cases he
theorem e16 {v : AV} {l : List Sn} (hA : Arr H 2 v (l.map Sn.enc)) (hl : l.length < 100000000) (f t : List Nat) (L : List Blk) : EM 16 [v, .agg [.str f, .str t]] (H.ext L) = .ok (outV (H.key L.length) 2 (inT f t l).length) (H.ext (L ++ [outB 2 ((inT f t l).map Sn.enc)])) := by
  show ot (A16 (H.ext L) [v, .agg [.str f, .str t]]) (fun q => .ok (outV (H.ext L).nx 2 (inT q.2.1 q.2.2 q.1).length) ((H.ext L).ext [outB 2 ((inT q.2.1 q.2.2 q.1).map Sn.enc)])) = _
  rw [ot_eq (p := A16 (H.ext L) [v, .agg [.str f, .str t]]) (x := (l, f, t)) ⟨v, rfl, hA.ext L, hl⟩, Heap.nx_ext, Heap.ext_append]
  rintro ⟨l', f', t'⟩ ⟨v', h1, h2, _⟩
  injection h1 with h1 h3
  injection h3 with h3 _
  injection h3 with h3
  injection h3 with h3 h4
  injection h4 with h4 _
  injection h3 with h3
  injection h4 with h4
  subst h1 h3 h4
  rw [sns_uniq (hA.ext L) h2]
theorem e15 {v w : AV} {l m : List Sn} {G : Heap} (hA : Arr G 2 v (l.map Sn.enc)) (hB : Arr G 2 w (m.map Sn.enc)) (hl : l.length < 9223372036854775807) : EM 15 [v, w] G = .ok (.bool (decide (l = m))) G := by
  show ot (A15 G [v, w]) (fun q => .ok (.bool (decide (q.1 = q.2))) G) = _
  rw [ot_eq (p := A15 G [v, w]) (x := (l, m)) ⟨v, w, rfl, hA, hB, hl⟩]
  rintro ⟨l', m'⟩ ⟨v', w', h1, h2, h3, _⟩
  injection h1 with h1 h4
  injection h4 with h4 _
  subst h1 h4
  rw [sns_uniq hA h2, sns_uniq hB h3]
end Go.Proofs
