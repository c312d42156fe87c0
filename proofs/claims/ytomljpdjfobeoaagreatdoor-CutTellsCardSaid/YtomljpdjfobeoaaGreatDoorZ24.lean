/- the document's Join: walked. -/
import Derived.Test.YtomljpdjfobeoaaGreatDoorZ23
import Derived.Test.YtomljpdjfobeoaaGreatDoorProg
import Derived.KernelRfl
set_option linter.all false
set_option linter.all false
set_option maxRecDepth 100000
namespace Go.Proofs
open Go Go.Ev
variable {H : Heap}

def A42j (H : Heap) (args : List AV) (q : AV × List Dn × List Dn) : Prop := ∃ v, args = [q.1, v] ∧ Arr H 6 q.1 (q.2.1.map Dn.enc) ∧ Arr H 6 v (q.2.2.map Dn.enc) ∧ allOk H q.2.1 ∧ allOk H q.2.2 ∧ upD q.2.1 ∧ upD q.2.2 ∧ q.2.1.length < 10000 ∧ q.2.2.length < 10000
def A43 (H : Heap) (args : List AV) (q : AV × List Evn × List Cell) : Prop := ∃ v kx, args = [v, q.1, .int .i64 24] ∧ v = outV kx 4 q.2.1.length ∧ Arr H 4 v (q.2.1.map Evn.enc) ∧ Arr H 5 q.1 (q.2.2.map Cell.enc) ∧ q.2.1.length < 100000 ∧ q.2.2.length < 100000 ∧ isHist q.2.1 q.2.2
noncomputable def EJ (f : FuncId) (args : List AV) (H : Heap) : RC :=
  match f with
  | 42 => ot (A42j H args) fun q => .ok (selV (anyFresh q.2.1 q.2.2) q.1 H.nx (joinR q.2.1 q.2.2).length) (H.ext [selB (anyFresh q.2.1 q.2.2) ((joinR q.2.1 q.2.2).map Dn.enc)])
  | 43 => ot (A43 H args) fun q => .ok (.tup [outV (H.key 1) 4 (q.2.1.drop (q.2.1.length - 24)).length, seV (decide (0 < q.2.1.length - 24)) q.1 (H.key 0) 5 q.2.2.length]) (H.ext [seB (decide (0 < q.2.1.length - 24)) 5 ((keepC (q.2.1.take (q.2.1.length - 24)) q.2.2).map Cell.enc), outB 4 ((q.2.1.drop (q.2.1.length - 24)).map Evn.enc)])
  | _ => .fail
theorem good_EJ : Ev.Good Tryz.prog EJ := by
  intro f args H r G he φ w args' ha hw
  refine (?_ : FnOk Tryz.prog f args H fun v' G' => v' = r ∧ G' = G).one φ w args' ha hw
  unfold EJ at he
  split at he
  · obtain ⟨q, ⟨v, rfl, h1, h2, h3, h4, h5, h6, h7, h8⟩, hz⟩ := ot_ok he
    clear he
    cases hz
    exact f42_ok h1 h2 h3 h4 h5 h6 h7 h8
  · obtain ⟨q, ⟨v, kx, rfl, h1, h2, h3, h4, h5, h6⟩, hz⟩ := ot_ok he
    clear he
    cases hz
    exact f43_ok h2 h3 h4 h5 h6 h1
  · cases he
theorem e42j {u v : AV} {a l : List Dn} (hB : Arr H 6 u (a.map Dn.enc)) (hA : Arr H 6 v (l.map Dn.enc)) (ha : allOk H a) (hb : allOk H l) (hua : upD a) (hub : upD l) (hal : a.length < 10000) (hl : l.length < 10000) (L : List Blk) :
    EJ 42 [u, v] (H.ext L) = .ok (selV (anyFresh a l) u (H.key L.length) (joinR a l).length) (H.ext (L ++ [selB (anyFresh a l) ((joinR a l).map Dn.enc)])) := by
  show ot (A42j (H.ext L) [u, v]) (fun q => .ok (selV (anyFresh q.2.1 q.2.2) q.1 (H.ext L).nx (joinR q.2.1 q.2.2).length) ((H.ext L).ext [selB (anyFresh q.2.1 q.2.2) ((joinR q.2.1 q.2.2).map Dn.enc)])) = _
  rw [ot_eq (p := A42j (H.ext L) [u, v]) (x := (u, a, l)) ⟨v, rfl, hB.ext L, hA.ext L, ha.ext L, hb.ext L, hua, hub, hal, hl⟩, Heap.nx_ext, Heap.ext_append]
  rintro ⟨u', a', l'⟩ ⟨v', h1, h2, h3, h4, h5, _⟩
  injection h1 with h1 h6
  injection h6 with h6 _
  dsimp only at h1 h2 h3 h4 h5
  subst h1 h6
  rw [dns_inj (Arr.uniq (hB.ext L) h2 (by decide)) (ha.ext L) h4, dns_inj (Arr.uniq (hA.ext L) h3 (by decide)) (hb.ext L) h5]
theorem e43 {G : Heap} {u : AV} {kx : K} {l : List Evn} {cs : List Cell} (hA : Arr G 4 (outV kx 4 l.length) (l.map Evn.enc)) (hB : Arr G 5 u (cs.map Cell.enc)) (hl : l.length < 100000) (hc : cs.length < 100000) (hI : isHist l cs) (L : List Blk) :
    EJ 43 [outV kx 4 l.length, u, .int .i64 24] (G.ext L) = .ok (.tup [outV (G.key (L.length + 1)) 4 (l.drop (l.length - 24)).length, seV (decide (0 < l.length - 24)) u (G.key L.length) 5 cs.length]) (G.ext (L ++ [seB (decide (0 < l.length - 24)) 5 ((keepC (l.take (l.length - 24)) cs).map Cell.enc), outB 4 ((l.drop (l.length - 24)).map Evn.enc)])) := by
  show ot (A43 (G.ext L) [outV kx 4 l.length, u, .int .i64 24]) (fun q => .ok (.tup [outV ((G.ext L).key 1) 4 (q.2.1.drop (q.2.1.length - 24)).length, seV (decide (0 < q.2.1.length - 24)) q.1 ((G.ext L).key 0) 5 q.2.2.length]) ((G.ext L).ext [seB (decide (0 < q.2.1.length - 24)) 5 ((keepC (q.2.1.take (q.2.1.length - 24)) q.2.2).map Cell.enc), outB 4 ((q.2.1.drop (q.2.1.length - 24)).map Evn.enc)])) = _
  rw [ot_eq (p := A43 (G.ext L) [outV kx 4 l.length, u, .int .i64 24]) (x := (u, l, cs)) ⟨_, kx, rfl, rfl, hA.ext L, hB.ext L, hl, hc, hI⟩, Heap.key_ext, Heap.key_ext, Heap.ext_append]
  · rfl
  rintro ⟨u', l', cs'⟩ ⟨v', kx', h1, h2, h3, h4, _⟩
  injection h1 with h1 h6
  injection h6 with h6 _
  dsimp only at h1 h2 h3 h4 h6
  subst h1 h6
  rw [evs_uniq (hA.ext L) h3, cells_uniq (hB.ext L) h4]
theorem one_se {u : AV} (c : Bool) (k : K) (e n : Nat) (hu : AV.one u = true) : AV.one (seV c u k e n) = true := by
  cases c
  · exact hu
  · exact one_o ..
theorem agg_se {u : AV} (c : Bool) (k : K) (e n : Nat) (hu : ∀ {β : Type} (f : β) (d : List AV → β), asAggC u f d = f) {β : Type} (f : β) (d : List AV → β) : asAggC (seV c u k e n) f d = f := by
  cases c
  · exact hu f d
  · exact agg_o ..
/-- what two shards are, joined -/
noncomputable def saidJoin (s t : Sh) (id : Int) : Sh := ⟨id, 1, s.fr, t.to, false, joinCells s t, joinEvs s t, joinP s.done t.done, .nils, .nils, .nils⟩
def joinSaid (s t : Sh) (id : Int) (j : Sh) (c : Int) : Prop :=
  (okJoin s t id → meets s t → c = 0 ∧ sameSh j (saidJoin s t id)) ∧ (okJoin s t id → ¬ meets s t → c = 22 ∧ j = zSh) ∧ (¬ okJoin s t id → c = 10 ∧ j = zSh)
theorem f14_ok {s t : Sh} (h : s.ok H) (h2 : t.ok H) (hsd : s.done.length < 10000) (htd : t.done.length < 10000) (hsc : s.cells.length < 10000) (htc : t.cells.length < 10000) (hse : s.evs.length < 10000) (hte : t.evs.length < 10000) (id : Int) :
    FnOk Tryz.prog 14 [.agg s.enc, .agg t.enc, .int .i64 id] H fun v G => ∃ j c L, v = .tup [.agg (Sh.enc j), .int .i64 c] ∧ G = H.ext L ∧ Sh.ok G j ∧ joinSaid s t id j c := by
  refine FnOk.assume fun hok => ?_
  refine FnOk.of_WW Tryz.func14 rfl C14ok R14ok EJ good_EJ ?_
  have hbad : ¬ okJoin s t id → ∀ L, ∃ j c L', AV.tup [zeroS, .int .i64 10] = .tup [.agg (Sh.enc j), .int .i64 c] ∧ H.ext L = H.ext L' ∧ Sh.ok (H.ext L) j ∧ joinSaid s t id j c := fun g L =>
    ⟨zSh, 10, L, rfl, rfl, zSh_ok _, fun h => absurd h g, fun h => absurd h g, fun _ => ⟨rfl, rfl⟩⟩
  simp only [zeroS] at hbad
  simp only [go_sem, C14, Sh.enc]
  refine CL.bool (f32_ok (h.ext _)) (fun g1 => ?_) (fun g1 => ?_)
  rotate_left
  · simp only [go_sem]
    exact hbad (fun h => g1 h.1.1) _
  simp only [go_sem]
  refine CL.bool (f32_ok (h2.ext _)) (fun g2 => ?_) (fun g2 => ?_)
  rotate_left
  · simp only [go_sem]
    exact hbad (fun h => g2 h.2.1.1) _
  by_cases g3 : s.frz = true
  · have z1 := eq_true g3
    have z2 := eq_false (show ¬ s.frz = false by rw [g3]; decide)
    simp only [go_sem, z1, z2]
    exact hbad (fun h => h.1.2 g3) _
  have z1 := eq_false g3
  have z2 := eq_true (show s.frz = false by simpa using g3)
  by_cases g4 : t.frz = true
  · have z3 := eq_true g4
    have z4 := eq_false (show ¬ t.frz = false by rw [g4]; decide)
    simp only [go_sem, z1, z2, z3, z4]
    exact hbad (fun h => h.2.1.2 g4) _
  have z3 := eq_false g4
  have z4 := eq_true (show t.frz = false by simpa using g4)
  simp only [go_sem, z1, z2, z3, z4]
  refine ⟨fun q => hbad (fun h => by have := h.2.2.1; omega) _, fun q5 => ⟨fun q => hbad (fun h => by have := h.2.2.2; omega) _, fun q6 => ?_⟩⟩
  have hoj : okJoin s t id := ⟨⟨g1, g3⟩, ⟨g2, g4⟩, ⟨by omega, by omega⟩⟩
  refine CL.bool (f41_ok s.fr s.to t.fr t.to) (fun g5 => ?_) (fun g5 => ?_)
  rotate_left
  · simp only [go_sem]
    exact ⟨zSh, 22, _, rfl, rfl, zSh_ok _, fun _ h => absurd h g5, fun _ _ => ⟨rfl, rfl⟩, fun h => absurd hoj h⟩
  have hme : meets s t := g5
  have hus := g1.2.2.2.2.2.upDD
  have hut := g2.2.2.2.2.2.upDD
  have i42 := e42j h.d h2.d h.dok h2.dok hus hut hsd htd
  have hJeq := joinR_eq hus hut
  have hD := fun a b c d (L : List Blk) => selArr (H := H) (c := anyFresh s.done t.done) (u := s.dv) (L := a :: b :: c :: d :: selB (anyFresh s.done t.done) ((joinR s.done t.done).map Dn.enc) :: L) (i := 4) (n := (joinR s.done t.done).length) (xs := (joinR s.done t.done).map Dn.enc) rfl (List.length_map ..) fun h0 => by rw [joinR_none h0]; exact h.d
  have hD1 := hD .dead .dead .dead .dead []
  have q1 := arr_one hD1
  have q2 := fun {β : Type} (f : β) (c : List AV → β) => arr_agg hD1 f c
  simp only [go_sem, ↓appR_hide2, ↓appR_hide, i42, q1, q2]
  have hJok : allOk H (joinR s.done t.done) := joinR_ok h.dok h2.dok
  have hJlen : (joinR s.done t.done).length < 4294967296 := by have := joinR_len (a := s.done) (b := t.done); omega
  rw [hJeq] at hD hJok hJlen ⊢
  obtain ⟨dv, hdv⟩ : ∃ dv, dv = selV (anyFresh s.done t.done) s.dv (H.key 4) (joinP s.done t.done).length := ⟨_, rfl⟩
  rw [← hdv]
  obtain ⟨G0, hG0⟩ : ∃ G0, G0 = H.ext [.row true 8 [[.int .i64 s.id, .int .i64 s.ep, .str s.fr, .str s.to, .bool s.frz, s.cv, s.ev, s.dv]], .row true 8 [[.int .i64 t.id, .int .i64 t.ep, .str t.fr, .str t.to, .bool t.frz, t.cv, t.ev, t.dv]], .row true 8 [[.int .i64 0, .int .i64 0, .str [], .str [], .bool false, .nils, .nils, .nils]], .row true 8 [[.int .i64 id, .int .i64 1, .str s.fr, .str t.to, .bool false, .nils, .nils, dv]], selB (anyFresh s.done t.done) ((joinP s.done t.done).map Dn.enc)] := ⟨_, rfl⟩
  have hok0 : G0.ok := by rw [hG0]; exact Heap.ok_ext hok _
  have hD0 : Arr G0 6 dv ((joinP s.done t.done).map Dn.enc) := by rw [hG0, hdv]; exact hD _ _ _ _ []
  have b0 : G0.get (H.key 0) = some (.row true 8 [s.enc]) := by rw [hG0, Heap.get_ext_key _ _ _ (by exact (show 0 < 5 by decide))]; rfl
  have b1 : G0.get (H.key 1) = some (.row true 8 [t.enc]) := by rw [hG0, Heap.get_ext_key _ _ _ (by exact (show 1 < 5 by decide))]; rfl
  have b2 : G0.get (H.key 2) = some (.row true 8 [[.int .i64 0, .int .i64 0, .str [], .str [], .bool false, .nils, .nils, .nils]]) := by rw [hG0, Heap.get_ext_key _ _ _ (by exact (show 2 < 5 by decide))]; rfl
  have b3 : G0.get (H.key 3) = some (.row true 8 [[.int .i64 id, .int .i64 1, .str s.fr, .str t.to, .bool false, .nils, .nils, dv]]) := by rw [hG0, Heap.get_ext_key _ _ _ (by exact (show 3 < 5 by decide))]; rfl
  have hc0 : Arr G0 5 s.cv (s.cells.map Cell.enc) := by rw [hG0]; exact h.c.ext _
  have hc1 : Arr G0 5 t.cv (t.cells.map Cell.enc) := by rw [hG0]; exact h2.c.ext _
  have he0 : Arr G0 4 s.ev (s.evs.map Evn.enc) := by rw [hG0]; exact h.e.ext _
  have he1 : Arr G0 4 t.ev (t.evs.map Evn.enc) := by rw [hG0]; exact h2.e.ext _
  have hB0 : ∃ L, G0 = H.ext L := ⟨_, hG0⟩
  rw [← hG0]
  obtain ⟨v1, G1, v2, G2, a1, a2, hok1, hok2, ⟨L1, hL1⟩, ⟨L2, hL2⟩, kc, hv2, hA2⟩ := app_open (bytes := 56) hok0 (by decide) hc0 hc1 (okBig_le (by rw [List.length_map, List.length_map]; omega) (by decide))
  rw [a1]
  have r0 : ∀ L, (G1.ext L).get (H.key 0) = some (.row true 8 [s.enc]) := fun L => by rw [hL1, Heap.ext_append]; exact Heap.get_ext_old hok0 b0 _
  have r1 : ∀ L, (G1.ext L).get (H.key 1) = some (.row true 8 [t.enc]) := fun L => by rw [hL1, Heap.ext_append]; exact Heap.get_ext_old hok0 b1 _
  simp only [go_sem, r0, r1, Sh.enc, ↓appR_hide2, ↓appR_hide]
  rw [a2]
  obtain ⟨zr, hzr⟩ : ∃ zr : Blk, zr = .row true 8 [[.int .i64 0, .int .i64 0, .str [], .str [], .bool false, .nils, .nils, .nils]] := ⟨_, rfl⟩
  have t0 : G2.get (H.key 0) = some (.row true 8 [s.enc]) := by rw [hL2]; exact Heap.get_ext_old hok0 b0 _
  have t1 : G2.get (H.key 1) = some (.row true 8 [t.enc]) := by rw [hL2]; exact Heap.get_ext_old hok0 b1 _
  have t2 : G2.get (H.key 2) = some (.row true 8 [[.int .i64 0, .int .i64 0, .str [], .str [], .bool false, .nils, .nils, .nils]]) := by rw [hL2]; exact Heap.get_ext_old hok0 b2 _
  have t3 : G2.get (H.key 3) = some (.row true 8 [[.int .i64 id, .int .i64 1, .str s.fr, .str t.to, .bool false, .nils, .nils, dv]]) := by rw [hL2]; exact Heap.get_ext_old hok0 b3 _
  have kne : ∀ i j : Nat, i ≠ j → H.key i ≠ H.key j := fun i j hij e => hij (by have := congrArg K.toNat e; rw [Heap.toNat_key, Heap.toNat_key] at this; omega)
  have s3 := Heap.get_ext_old hok2 t3
  have hset : ∀ L b {α : Type} (c : Heap → α), (G2.ext L).setC (H.key 3) b c = c ((G2.set (H.key 3) b).ext L) := fun L b _ c => Heap.setC_here hok2 t3 b L c
  have w3 : ∀ L b, ((G2.set (H.key 3) b).ext L).get (H.key 3) = some b := fun L b => Heap.get_set_here hok2 t3 b L
  have w0 : ∀ L b, ((G2.set (H.key 3) b).ext L).get (H.key 0) = some (.row true 8 [s.enc]) := fun L b => Heap.get_set_there hok2 t0 (kne 3 0 (by decide)) b L
  have w1 : ∀ L b, ((G2.set (H.key 3) b).ext L).get (H.key 1) = some (.row true 8 [t.enc]) := fun L b => Heap.get_set_there hok2 t1 (kne 3 1 (by decide)) b L
  have q3 := arr_one hA2
  have q4 := fun {β : Type} (f : β) (c : List AV → β) => arr_agg hA2 f c
  have q5 := fun c k n => one_se c k 5 n q3
  have q6 := fun {β : Type} c k n (f : β) (d : List AV → β) => agg_se c k 5 n (fun {β} f c => q4 f c) f d
  simp only [go_sem, s3, hset, w3, w0, w1, Sh.enc, ↓appR_hide2, ↓appR_hide, q3, q4]
  obtain ⟨G3, hG3⟩ : ∃ G3, G3 = G2.set (H.key 3) (.row true 8 [[.int .i64 id, .int .i64 1, .str s.fr, .str t.to, .bool false, v2, .nils, dv]]) := ⟨_, rfl⟩
  have hok3 : G3.ok := by rw [hG3]; exact Heap.ok_set hok2 t3
  have u0 : G3.get (H.key 0) = some (.row true 8 [s.enc]) := by have := w0 [] (.row true 8 [[.int .i64 id, .int .i64 1, .str s.fr, .str t.to, .bool false, v2, .nils, dv]]); rwa [Heap.ext_nil, ← hG3] at this
  have u1 : G3.get (H.key 1) = some (.row true 8 [t.enc]) := by have := w1 [] (.row true 8 [[.int .i64 id, .int .i64 1, .str s.fr, .str t.to, .bool false, v2, .nils, dv]]); rwa [Heap.ext_nil, ← hG3] at this
  have u2 : G3.get (H.key 2) = some (.row true 8 [[.int .i64 0, .int .i64 0, .str [], .str [], .bool false, .nils, .nils, .nils]]) := by have := Heap.get_set_there hok2 t2 (kne 3 2 (by decide)) (.row true 8 [[.int .i64 id, .int .i64 1, .str s.fr, .str t.to, .bool false, v2, .nils, dv]]) []; rwa [Heap.ext_nil, ← hG3] at this
  have u3 : G3.get (H.key 3) = some (.row true 8 [[.int .i64 id, .int .i64 1, .str s.fr, .str t.to, .bool false, v2, .nils, dv]]) := by have := w3 [] (.row true 8 [[.int .i64 id, .int .i64 1, .str s.fr, .str t.to, .bool false, v2, .nils, dv]]); rwa [Heap.ext_nil, ← hG3] at this
  have he30 : Arr G3 4 s.ev (s.evs.map Evn.enc) := by rw [hG3, hL2] at *; exact (he0.ext _).set t3 (by decide)
  have he31 : Arr G3 4 t.ev (t.evs.map Evn.enc) := by rw [hG3, hL2] at *; exact (he1.ext _).set t3 (by decide)
  have hA3 : Arr G3 5 v2 ((s.cells ++ t.cells).map Cell.enc) := by rw [hG3, List.map_append]; exact hA2.set t3 (by decide)
  have hD3 : Arr G3 6 dv ((joinP s.done t.done).map Dn.enc) := by rw [hG3, hL2] at *; exact (hD0.ext _).set t3 (by decide)
  have hB3 : ∃ L, G3 = H.ext L := by
    rw [hG3]
    refine set_own hok2 t3 ?_ (by rw [Heap.toNat_key]; omega)
    obtain ⟨L, hL⟩ := hB0
    exact ⟨_, by rw [hL2, hL, Heap.ext_append]⟩
  rw [← hG3]
  obtain ⟨v3, G4, v4, G5, a3, a4, hok4, hok5, ⟨L4, hL4⟩, ⟨L5, hL5⟩, ke, hv4, hA4⟩ := app_open (bytes := 48) hok3 (by decide) he30 he31 (okBig_le (by rw [List.length_map, List.length_map]; omega) (by decide))
  rw [← List.map_append, List.length_map] at hv4
  rw [← List.map_append] at hA4
  obtain ⟨es, hes⟩ : ∃ es, es = s.evs ++ t.evs := ⟨_, rfl⟩
  obtain ⟨cs, hcs⟩ : ∃ cs, cs = s.cells ++ t.cells := ⟨_, rfl⟩
  have hel : es.length < 100000 := by rw [hes, List.length_append]; omega
  have hcl : cs.length < 100000 := by rw [hcs, List.length_append]; omega
  have hI : isHist es cs := by rw [hes, hcs]; exact hist_two g1 g2 hme
  rw [← hes] at hv4 hA4
  rw [← hcs] at hA3
  rw [show appQ 4 48 (some .nils) (some s.ev) (G3.ext []) = .val v3 (G4.ext []) by rw [Heap.ext_nil]; exact a3]
  have x0 : ∀ L, (G4.ext L).get (H.key 0) = some (.row true 8 [s.enc]) := fun L => by rw [hL4, Heap.ext_append]; exact Heap.get_ext_old hok3 u0 _
  have x1 : ∀ L, (G4.ext L).get (H.key 1) = some (.row true 8 [t.enc]) := fun L => by rw [hL4, Heap.ext_append]; exact Heap.get_ext_old hok3 u1 _
  have x3 : ∀ L, (G4.ext L).get (H.key 3) = some (.row true 8 [[.int .i64 id, .int .i64 1, .str s.fr, .str t.to, .bool false, v2, .nils, dv]]) := fun L => by rw [hL4, Heap.ext_append]; exact Heap.get_ext_old hok3 u3 _
  simp only [go_sem, x0, x1, x3, Sh.enc, ↓appR_hide2, ↓appR_hide]
  rw [a4, hv4]
  rw [hv4] at hA4
  have y2 : G5.get (H.key 2) = some (.row true 8 [[.int .i64 0, .int .i64 0, .str [], .str [], .bool false, .nils, .nils, .nils]]) := by rw [hL5]; exact Heap.get_ext_old hok3 u2 _
  have y3 : G5.get (H.key 3) = some (.row true 8 [[.int .i64 id, .int .i64 1, .str s.fr, .str t.to, .bool false, v2, .nils, dv]]) := by rw [hL5]; exact Heap.get_ext_old hok3 u3 _
  have hA5 : Arr G5 5 v2 (cs.map Cell.enc) := by rw [hL5]; exact hA3.ext _
  have hD5 : Arr G5 6 dv ((joinP s.done t.done).map Dn.enc) := by rw [hL5]; exact hD3.ext _
  have hB5 : ∃ L, G5 = H.ext L := by
    obtain ⟨L, hL⟩ := hB3
    exact ⟨_, by rw [hL5, hL, Heap.ext_append]⟩
  have i43 := e43 hA4 hA5 hel hcl hI
  have z0 := Heap.get_ext_old hok5 y3
  have hset5 : ∀ L b {α : Type} (c : Heap → α), (G5.ext L).setC (H.key 3) b c = c ((G5.set (H.key 3) b).ext L) := fun L b _ c => Heap.setC_here hok5 y3 b L c
  have hset6 : ∀ L b d {α : Type} (c : Heap → α), ((G5.set (H.key 3) b).ext L).setC (H.key 3) d c = c ((G5.set (H.key 3) d).ext L) := fun L b d _ c => Heap.setC_set_here hok5 y3 b d L c
  have n3 : ∀ L b, ((G5.set (H.key 3) b).ext L).get (H.key 3) = some b := fun L b => Heap.get_set_here hok5 y3 b L
  have n2 : ∀ L b, ((G5.set (H.key 3) b).ext L).get (H.key 2) = some (.row true 8 [[.int .i64 0, .int .i64 0, .str [], .str [], .bool false, .nils, .nils, .nils]]) := fun L b => Heap.get_set_there hok5 y2 (kne 3 2 (by decide)) b L
  have m2 : ∀ b, (G5.set (H.key 3) b).get (H.key 2) = some (.row true 8 [[.int .i64 0, .int .i64 0, .str [], .str [], .bool false, .nils, .nils, .nils]]) := fun b => by have := n2 [] b; rwa [Heap.ext_nil] at this
  have hset7 : ∀ L b d {α : Type} (c : Heap → α), ((G5.set (H.key 3) b).ext L).setC (H.key 2) d c = c (((G5.set (H.key 3) b).set (H.key 2) d).ext L) := fun L b d _ c => Heap.setC_here (Heap.ok_set hok5 y3) (m2 b) d L c
  have n4 : ∀ L b d, (((G5.set (H.key 3) b).set (H.key 2) d).ext L).get (H.key 2) = some d := fun L b d => Heap.get_set_here (Heap.ok_set hok5 y3) (m2 b) d L
  simp only [go_sem, z0, i43, hset5, hset6, hset7, n2, n3, n4, q5, q6]
  obtain ⟨jr, hjr⟩ : ∃ jr : Blk, jr = .row true 8 [[.int .i64 id, .int .i64 1, .str s.fr, .str t.to, .bool false, seV (decide (0 < es.length - 24)) v2 (G5.key 0) 5 cs.length, outV (G5.key 1) 4 (es.drop (es.length - 24)).length, dv]] := ⟨_, rfl⟩
  rw [← hjr]
  obtain ⟨G6, hG6⟩ : ∃ G6, G6 = (G5.set (H.key 3) jr).set (H.key 2) jr := ⟨_, rfl⟩
  have hnx : G6.nx = G5.nx := by rw [hG6]; rfl
  have hk6 : ∀ i, G5.key i = G6.key i := fun i => by unfold Heap.key; rw [hnx]
  have hA6 : Arr G6 5 v2 (cs.map Cell.enc) := by rw [hG6]; exact (hA5.set y3 (by decide)).set (m2 jr) (by decide)
  have hD6 : Arr G6 6 dv ((joinP s.done t.done).map Dn.enc) := by rw [hG6]; exact (hD5.set y3 (by decide)).set (m2 jr) (by decide)
  have hB6 : ∃ L, G6 = H.ext L := by
    rw [hG6]
    exact set_own (Heap.ok_set hok5 y3) (m2 jr) (set_own hok5 y3 hB5 (by rw [Heap.toNat_key]; omega)) (by rw [Heap.toNat_key]; omega)
  obtain ⟨L6, hL6⟩ := hB6
  rw [← hG6]
  refine ⟨⟨id, 1, s.fr, t.to, false, keepC (es.take (es.length - 24)) cs, es.drop (es.length - 24), joinP s.done t.done, seV (decide (0 < es.length - 24)) v2 (G5.key 0) 5 cs.length, outV (G5.key 1) 4 (es.drop (es.length - 24)).length, dv⟩, 0, _, rfl, by rw [hL6, Heap.ext_append], ?_, fun _ _ => ⟨rfl, rfl, rfl, rfl, rfl, rfl, ?_, ?_, rfl⟩, fun _ h => absurd hme h, fun h => absurd hoj h⟩
  · refine ⟨?_, ?_, hD6.ext _, ?_, ?_, ?_, hJlen⟩
    · show Arr _ 5 (seV _ v2 (G5.key 0) 5 cs.length) ((keepC (es.take (es.length - 24)) cs).map Cell.enc)
      rw [hk6]
      refine seArr (H := G6) (i := 0) rfl (by rw [List.length_map, keepC_len]) fun h0 => ?_
      have h0 : es.length - 24 = 0 := by simpa using h0
      rw [h0]
      exact hA6
    · show Arr _ 4 (outV (G5.key 1) 4 _) _
      rw [hk6]
      exact arr_outV (H := G6) (i := 1) rfl (List.length_map ..)
    · rw [hL6, Heap.ext_append]; exact hJok.ext _
    · show (keepC _ cs).length < 4294967296
      rw [keepC_len]; omega
    · show (es.drop _).length < 4294967296
      rw [List.length_drop]; omega
  · show keepC _ cs = joinCells s t
    rw [hes, hcs]; rfl
  · show es.drop _ = joinEvs s t
    rw [hes]; rfl
end Go.Proofs
/- The laid-out code of the functions that are walked. Printed by a program. -/

set_option linter.all false
set_option maxRecDepth 100000
namespace Go.Proofs
open Go Go.Ev K
noncomputable def C3 : CC :=
  (.seq (.region [.mk (boxR false (X.t z)) (.some (o (i z))) Gd.no [],
   .mk (boxR false (X.t (o z))) (.some (i (i z))) Gd.no [],
   .mk (mvR (X.c (AV.bool false))) (.some (i (i (o z)))) Gd.no []])
  (.seq (.seq (.region [.mk (callS Tryz.prog 9 []) (.some (o (i (i (o z))))) Gd.no [],
   .mk (unR UnOp.not (X.t (o (i (i (o z)))))) (.some (i (i (i (o z))))) Gd.no []])
  (.cond (X.t (i (i (i (o z)))))
  (.seq (.region [.mk (mvR (X.c (AV.bool false))) (.some (i (i (o z)))) Gd.no []])
  .ret)
  .skip))
  (.seq (.seq (.region [.mk (ldR true 8 (X.t (o (i z)))) (.some (o (o (o (i z))))) Gd.no [],
   .mk (callS Tryz.prog 10 [(X.t (o (o (o (i z)))))]) (.some (i (o (o (i z))))) Gd.no [],
   .mk (unR UnOp.not (X.t (i (o (o (i z)))))) (.some (o (i (o (i z))))) Gd.no [],
   .mk (mvR (X.t (o (i (o (i z)))))) (.some (i (i (o (i z))))) Gd.no [],
   .mk (ldR true 8 (X.t (i (i z)))) (.some (o (o (i (i z))))) (Gd.on (i (i (o (i z)))) false) [],
   .mk (callS Tryz.prog 10 [(X.t (o (o (i (i z)))))]) (.some (i (o (i (i z))))) (Gd.on (i (i (o (i z)))) false) [],
   .mk (unR UnOp.not (X.t (i (o (i (i z)))))) (.some (o (i (i (i z))))) (Gd.on (i (i (o (i z)))) false) [],
   .mk (pickR (X.t (i (i (o (i z))))) (X.c (AV.bool true)) (X.t (o (i (i (i z)))))) (.some (i (i (i (i z))))) Gd.no [],
   .mk (mvR (X.t (i (i (i (i z)))))) (.some (o (o (o (o (o z)))))) Gd.no [],
   .mk (mvR (X.t (i z))) (.some (i (o (o (o (o z)))))) (Gd.on (o (o (o (o (o z))))) false) [],
   .mk (lenR LnK.str (X.t (i (o (o (o (o z))))))) (.some (o (i (o (o (o z)))))) (Gd.on (o (o (o (o (o z))))) false) [],
   .mk (binR Tryz.prog EK.no .none true BinOp.gtr (X.t (o (i (o (o (o z)))))) (X.c (AV.int .i64 20))) (.some (i (i (o (o (o z)))))) (Gd.on (o (o (o (o (o z))))) false) [],
   .mk (pickR (X.t (o (o (o (o (o z)))))) (X.c (AV.bool true)) (X.t (i (i (o (o (o z))))))) (.some (o (o (i (o (o z)))))) Gd.no []])
  (.cond (X.t (o (o (i (o (o z))))))
  (.seq (.region [.mk (mvR (X.c (AV.bool true))) (.some (i (i (o z)))) Gd.no []])
  .ret)
  .skip))
  (.seq (.region [.mk (ldR true 8 (X.t (o (i z)))) (.some (o (i (i (o (o z)))))) Gd.no [],
   .mk (mvR (X.t (i z))) (.some (i (i (i (o (o z)))))) Gd.no [],
   .mk (mvR (X.t (o (o z)))) (.some (o (o (o (i (o z)))))) Gd.no [],
   .mk (mvR (X.t (i (o z)))) (.some (i (o (o (i (o z)))))) Gd.no [],
   .mk (callS Tryz.prog 11 [(X.t (o (i (i (o (o z)))))), (X.t (i (i (i (o (o z)))))), (X.t (o (o (o (i (o z)))))), (X.t (i (o (o (i (o z))))))]) (.some (o (i (o (i (o z)))))) Gd.no [],
   .mk (mvR (X.t (o (i (o (i (o z))))))) (.some (i (o (i (o (o z)))))) Gd.no [],
   .mk (extR (X.t (i (o (i (o (o z)))))) 0) (.some (i (i (o (i (o z)))))) Gd.no [],
   .mk (extR (X.t (i (o (i (o (o z)))))) 1) (.some (o (o (i (i (o z)))))) Gd.no [],
   .mk (extR (X.t (i (o (i (o (o z)))))) 2) (.some (i (o (i (i (o z)))))) Gd.no [],
   .mk (fun _ H => newC false [(AV.int .i64 0), (AV.int .i64 0), (AV.str []), (AV.str []), (AV.bool false), AV.nils, AV.nils, AV.nils] H) (.some (o (o (i z)))) Gd.no [],
   .mk (fun _ H => newC false [(AV.int .i64 0), (AV.int .i64 0), (AV.str []), (AV.str []), (AV.bool false), AV.nils, AV.nils, AV.nils] H) (.some (i (o (i z)))) Gd.no [],
   .mk (stR 8 (X.t (o (o (i z)))) (X.t (i (i (o (i (o z))))))) .none Gd.no [],
   .mk (stR 8 (X.t (i (o (i z)))) (X.t (o (o (i (i (o z))))))) .none Gd.no [],
   .mk (mvR (X.t (i (o (i (i (o z))))))) (.some (o (i (i z)))) Gd.no []])
  (.seq (.region [.mk (ldR true 8 (X.t (o (i z)))) (.some (i (i (i (i (o z)))))) Gd.no [],
   .mk (mvR (X.t (i z))) (.some (o (o (o (o (i z)))))) Gd.no [],
   .mk (mvR (X.t (o (o z)))) (.some (i (o (o (o (i z)))))) Gd.no [],
   .mk (mvR (X.t (i (o z)))) (.some (o (i (o (o (i z)))))) Gd.no [],
   .mk (callS Tryz.prog 12 [(X.t (i (i (i (i (o z)))))), (X.t (o (o (o (o (i z)))))), (X.t (i (o (o (o (i z)))))), (X.t (o (i (o (o (i z))))))]) (.some (i (i (o (o (i z)))))) Gd.no [],
   .mk (mvR (X.t (i (i (o (o (i z))))))) (.some (o (i (i (i (o z)))))) Gd.no [],
   .mk (extR (X.t (o (i (i (i (o z)))))) 0) (.some (o (o (i (o (i z)))))) Gd.no [],
   .mk (extR (X.t (o (i (i (i (o z)))))) 1) (.some (i (o (i (o (i z)))))) Gd.no [],
   .mk (extR (X.t (o (i (i (i (o z)))))) 2) (.some (o (i (i (o (i z)))))) Gd.no [],
   .mk (fun _ H => newC false [(AV.int .i64 0), (AV.int .i64 0), (AV.str []), (AV.str []), (AV.bool false), AV.nils, AV.nils, AV.nils] H) (.some (i (i (i z)))) Gd.no [],
   .mk (fun _ H => newC false [(AV.int .i64 0), (AV.int .i64 0), (AV.str []), (AV.str []), (AV.bool false), AV.nils, AV.nils, AV.nils] H) (.some (o (o (o (o z))))) Gd.no [],
   .mk (stR 8 (X.t (i (i (i z)))) (X.t (o (o (i (o (i z))))))) .none Gd.no [],
   .mk (stR 8 (X.t (o (o (o (o z))))) (X.t (i (o (i (o (i z))))))) .none Gd.no [],
   .mk (mvR (X.t (o (i (i (o (i z))))))) (.some (i (o (o (o z))))) Gd.no []])
  (.seq (.region [.mk (ldR true 8 (X.t (o (i z)))) (.some (o (o (o (i (i z)))))) Gd.no [],
   .mk (ldR true 8 (X.t (i (i z)))) (.some (i (o (o (i (i z)))))) Gd.no [],
   .mk (mvR (X.t (o (o z)))) (.some (o (i (o (i (i z)))))) Gd.no [],
   .mk (callS Tryz.prog 13 [(X.t (o (o (o (i (i z)))))), (X.t (i (o (o (i (i z)))))), (X.t (o (i (o (i (i z))))))]) (.some (i (i (o (i (i z)))))) Gd.no [],
   .mk (mvR (X.t (i (i (o (i (i z))))))) (.some (i (i (i (o (i z)))))) Gd.no [],
   .mk (extR (X.t (i (i (i (o (i z)))))) 0) (.some (o (o (i (i (i z)))))) Gd.no [],
   .mk (extR (X.t (i (i (i (o (i z)))))) 1) (.some (i (o (i (i (i z)))))) Gd.no [],
   .mk (fun _ H => newC false [(AV.int .i64 0), (AV.int .i64 0), (AV.str []), (AV.str []), (AV.bool false), AV.nils, AV.nils, AV.nils] H) (.some (o (i (o (o z))))) Gd.no [],
   .mk (stR 8 (X.t (o (i (o (o z))))) (X.t (o (o (i (i (i z))))))) .none Gd.no [],
   .mk (mvR (X.t (i (o (i (i (i z))))))) (.some (i (i (o (o z))))) Gd.no []])
  (.seq (.region [.mk (ldR true 8 (X.t (o (i z)))) (.some (i (i (i (i (i z)))))) Gd.no [],
   .mk (ldR true 8 (X.t (i (i z)))) (.some (o (o (o (o (o (o z))))))) Gd.no [],
   .mk (mvR (X.t (o (o z)))) (.some (i (o (o (o (o (o z))))))) Gd.no [],
   .mk (callS Tryz.prog 14 [(X.t (i (i (i (i (i z)))))), (X.t (o (o (o (o (o (o z))))))), (X.t (i (o (o (o (o (o z)))))))]) (.some (o (i (o (o (o (o z))))))) Gd.no [],
   .mk (mvR (X.t (o (i (o (o (o (o z)))))))) (.some (o (i (i (i (i z)))))) Gd.no [],
   .mk (extR (X.t (o (i (i (i (i z)))))) 0) (.some (i (i (o (o (o (o z))))))) Gd.no [],
   .mk (extR (X.t (o (i (i (i (i z)))))) 1) (.some (o (o (i (o (o (o z))))))) Gd.no [],
   .mk (fun _ H => newC false [(AV.int .i64 0), (AV.int .i64 0), (AV.str []), (AV.str []), (AV.bool false), AV.nils, AV.nils, AV.nils] H) (.some (o (o (i (o z))))) Gd.no [],
   .mk (stR 8 (X.t (o (o (i (o z))))) (X.t (i (i (o (o (o (o z)))))))) .none Gd.no [],
   .mk (mvR (X.t (o (o (i (o (o (o z)))))))) (.some (i (o (i (o z))))) Gd.no []])
  (.seq (.region [.mk (ldR true 8 (X.t (o (o (i z))))) (.some (i (o (i (o (o (o z))))))) Gd.no [],
   .mk (ldR true 8 (X.t (i (i (i z))))) (.some (o (i (i (o (o (o z))))))) Gd.no [],
   .mk (callS Tryz.prog 15 [(X.t (i (o (i (o (o (o z))))))), (X.t (o (i (i (o (o (o z)))))))]) (.some (i (i (i (o (o (o z))))))) Gd.no [],
   .mk (mvR (X.t (i (i (i (o (o (o z)))))))) (.some (o (o (o (i (o (o z))))))) Gd.no [],
   .mk (ldR true 8 (X.t (i (o (i z))))) (.some (i (o (o (i (o (o z))))))) (Gd.on (o (o (o (i (o (o z)))))) true) [],
   .mk (ldR true 8 (X.t (o (o (o (o z)))))) (.some (o (i (o (i (o (o z))))))) (Gd.on (o (o (o (i (o (o z)))))) true) [],
   .mk (callS Tryz.prog 15 [(X.t (i (o (o (i (o (o z))))))), (X.t (o (i (o (i (o (o z)))))))]) (.some (i (i (o (i (o (o z))))))) (Gd.on (o (o (o (i (o (o z)))))) true) [],
   .mk (pickR (X.t (o (o (o (i (o (o z))))))) (X.t (i (i (o (i (o (o z))))))) (X.c (AV.bool false))) (.some (o (o (i (i (o (o z))))))) Gd.no [],
   .mk (mvR (X.t (o (o (i (i (o (o z)))))))) (.some (i (o (i (i (o (o z))))))) Gd.no [],
   .mk (mvR (X.t (o (i (i z))))) (.some (o (i (i (i (o (o z))))))) (Gd.on (i (o (i (i (o (o z)))))) true) [],
   .mk (callS Tryz.prog 16 [(X.t (o (i (i (i (o (o z)))))))]) (.some (i (i (i (i (o (o z))))))) (Gd.on (i (o (i (i (o (o z)))))) true) [],
   .mk (mvR (X.t (i (o (o (o z)))))) (.some (o (o (o (o (i (o z))))))) (Gd.on (i (o (i (i (o (o z)))))) true) [],
   .mk (binR Tryz.prog EK.no .none false BinOp.eql (X.t (i (i (i (i (o (o z))))))) (X.t (o (o (o (o (i (o z)))))))) (.some (i (o (o (o (i (o z))))))) (Gd.on (i (o (i (i (o (o z)))))) true) [],
   .mk (pickR (X.t (i (o (i (i (o (o z))))))) (X.t (i (o (o (o (i (o z))))))) (X.c (AV.bool false))) (.some (o (i (o (o (i (o z))))))) Gd.no [],
   .mk (mvR (X.t (o (i (o (o (i (o z)))))))) (.some (i (i (o (o (i (o z))))))) Gd.no [],
   .mk (ldR true 8 (X.t (o (i (o (o z)))))) (.some (o (o (i (o (i (o z))))))) (Gd.on (i (i (o (o (i (o z)))))) true) [],
   .mk (ldR true 8 (X.t (o (o (i (o z)))))) (.some (i (o (i (o (i (o z))))))) (Gd.on (i (i (o (o (i (o z)))))) true) [],
   .mk (callS Tryz.prog 15 [(X.t (o (o (i (o (i (o z))))))), (X.t (i (o (i (o (i (o z)))))))]) (.some (o (i (i (o (i (o z))))))) (Gd.on (i (i (o (o (i (o z)))))) true) [],
   .mk (pickR (X.t (i (i (o (o (i (o z))))))) (X.t (o (i (i (o (i (o z))))))) (X.c (AV.bool false))) (.some (i (i (i (o (i (o z))))))) Gd.no [],
   .mk (mvR (X.t (i (i (i (o (i (o z)))))))) (.some (o (o (o (i (i (o z))))))) Gd.no [],
   .mk (mvR (X.t (i (i (o (o z)))))) (.some (i (o (o (i (i (o z))))))) (Gd.on (o (o (o (i (i (o z)))))) true) [],
   .mk (callS Tryz.prog 16 [(X.t (i (o (o (i (i (o z)))))))]) (.some (o (i (o (i (i (o z))))))) (Gd.on (o (o (o (i (i (o z)))))) true) [],
   .mk (mvR (X.t (i (o (i (o z)))))) (.some (i (i (o (i (i (o z))))))) (Gd.on (o (o (o (i (i (o z)))))) true) [],
   .mk (binR Tryz.prog EK.no .none false BinOp.eql (X.t (o (i (o (i (i (o z))))))) (X.t (i (i (o (i (i (o z)))))))) (.some (o (o (i (i (i (o z))))))) (Gd.on (o (o (o (i (i (o z)))))) true) [],
   .mk (pickR (X.t (o (o (o (i (i (o z))))))) (X.t (o (o (i (i (i (o z))))))) (X.c (AV.bool false))) (.some (i (o (i (i (i (o z))))))) Gd.no [],
   .mk (mvR (X.t (i (o (i (i (i (o z)))))))) (.some (i (i (o z)))) Gd.no []])
  .ret))))))))
theorem C3ok : (match Tryz.f3.body with | some c => comp Tryz.prog 93 c | none => none) = some C3 := by kernel_rfl
@[go_sem] theorem call3 (args : List AV) (H : Heap) : callC Tryz.prog 3 args H = .call 3 args := callC_ok (by kernel_rfl) args H
theorem R3ok : resKs Tryz.prog Tryz.f3.results.toList = some [(RK.tmp (i (i (o z))))] := by kernel_rfl

@[go_sem] theorem call8 (args : List AV) (H : Heap) : callC Tryz.prog 8 args H = .call 8 args := callC_ok (by kernel_rfl) args H
@[go_sem] theorem call19 (args : List AV) (H : Heap) : callC Tryz.prog 19 args H = .call 19 args := callC_ok (by kernel_rfl) args H
@[go_sem] theorem call21 (args : List AV) (H : Heap) : callC Tryz.prog 21 args H = .call 21 args := callC_ok (by kernel_rfl) args H
@[go_sem] theorem call23 (args : List AV) (H : Heap) : callC Tryz.prog 23 args H = .call 23 args := callC_ok (by kernel_rfl) args H
@[go_sem] theorem call24 (args : List AV) (H : Heap) : callC Tryz.prog 24 args H = .call 24 args := callC_ok (by kernel_rfl) args H
@[go_sem] theorem call25 (args : List AV) (H : Heap) : callC Tryz.prog 25 args H = .call 25 args := callC_ok (by kernel_rfl) args H
@[go_sem] theorem call52 (args : List AV) (H : Heap) : callC Tryz.prog 52 args H = .call 52 args := callC_ok (by kernel_rfl) args H
@[go_sem] theorem call53 (args : List AV) (H : Heap) : callC Tryz.prog 53 args H = .call 53 args := callC_ok (by kernel_rfl) args H
@[go_sem] theorem call54 (args : List AV) (H : Heap) : callC Tryz.prog 54 args H = .call 54 args := callC_ok (by kernel_rfl) args H
@[go_sem] theorem call55 (args : List AV) (H : Heap) : callC Tryz.prog 55 args H = .call 55 args := callC_ok (by kernel_rfl) args H
@[go_sem] theorem call56 (args : List AV) (H : Heap) : callC Tryz.prog 56 args H = .call 56 args := callC_ok (by kernel_rfl) args H
@[go_sem] theorem call57 (args : List AV) (H : Heap) : callC Tryz.prog 57 args H = .call 57 args := callC_ok (by kernel_rfl) args H
@[go_sem] theorem call59 (args : List AV) (H : Heap) : callC Tryz.prog 59 args H = .call 59 args := callC_ok (by kernel_rfl) args H
@[go_sem] theorem call67 (args : List AV) (H : Heap) : callC Tryz.prog 67 args H = .call 67 args := callC_ok (by kernel_rfl) args H
@[go_sem] theorem call70 (args : List AV) (H : Heap) : callC Tryz.prog 70 args H = .call 70 args := callC_ok (by kernel_rfl) args H
@[go_sem] theorem call81 (args : List AV) (H : Heap) : callC Tryz.prog 81 args H = .call 81 args := callC_ok (by kernel_rfl) args H
end Go.Proofs
/- CutTells: walked. -/


set_option linter.all false
set_option linter.all false
set_option maxRecDepth 100000
namespace Go.Proofs
open Go Go.Ev
variable {H : Heap}

theorem sameSh.symm {a b : Sh} (h : sameSh a b) : sameSh b a := ⟨h.1.symm, h.2.1.symm, h.2.2.1.symm, h.2.2.2.1.symm, h.2.2.2.2.1.symm, h.2.2.2.2.2.1.symm, h.2.2.2.2.2.2.1.symm, h.2.2.2.2.2.2.2.symm⟩
theorem sameSh.trans {a b c : Sh} (h : sameSh a b) (g : sameSh b c) : sameSh a c := ⟨h.1.trans g.1, h.2.1.trans g.2.1, h.2.2.1.trans g.2.2.1, h.2.2.2.1.trans g.2.2.2.1, h.2.2.2.2.1.trans g.2.2.2.2.1, h.2.2.2.2.2.1.trans g.2.2.2.2.2.1, h.2.2.2.2.2.2.1.trans g.2.2.2.2.2.2.1, h.2.2.2.2.2.2.2.trans g.2.2.2.2.2.2.2⟩
theorem sameSh.refl (a : Sh) : sameSh a a := ⟨rfl, rfl, rfl, rfl, rfl, rfl, rfl, rfl⟩
/-- the code's Split, said as the document's -/
theorem f11_said {s : Sh} (h : s.ok H) (hd : s.done.length < 100000) (he : s.evs.length < 100000) (k : List Nat) (l r : Int) :
    FnOk Tryz.prog 11 [.agg s.enc, .str k, .int .i64 l, .int .i64 r] H fun v G => ∃ a b e L, v = .tup [.agg (Sh.enc a), .agg (Sh.enc b), errV e] ∧ G = H.ext L ∧ Sh.ok G a ∧ Sh.ok G b ∧ splitSaid s k l r a b (e.getD 0) := by
  refine (f11_ok h hd he k l r).mono ?_
  rintro v G ⟨rfl, rfl⟩
  unfold splitV splitB
  by_cases g1 : okSplit s l r
  rotate_left
  · rw [if_neg g1, if_neg fun h => g1 h.1]
    exact ⟨zSh, zSh, some 10, _, rfl, rfl, zSh_ok _, zSh_ok _, fun h => absurd h g1, fun h => absurd h g1, fun _ => ⟨rfl, rfl, rfl⟩⟩
  by_cases g2 : inSplit s k
  rotate_left
  · rw [if_pos g1, if_neg g2, if_neg fun h => g2 h.2]
    exact ⟨zSh, zSh, some 22, _, rfl, rfl, zSh_ok _, zSh_ok _, fun _ h => absurd h g2, fun _ _ => ⟨rfl, rfl, rfl⟩, fun h => absurd g1 h⟩
  rw [if_pos g1, if_pos g2, if_pos ⟨g1, g2⟩]
  exact ⟨_, _, none, _, rfl, rfl, part_ok h l s.fr k (a := 0) (b := 1) (c := 2) rfl rfl rfl, part_ok h r k s.to (a := 3) (b := 4) (c := 5) rfl rfl rfl, fun _ _ => ⟨rfl, ⟨rfl, rfl, rfl, rfl, rfl, rfl, rfl, rfl⟩, ⟨rfl, rfl, rfl, rfl, rfl, rfl, rfl, rfl⟩⟩, fun _ h => absurd g2 h, fun h => absurd g1 h⟩
/-- the code's Join, said as the document's -/
theorem f13_said {s t : Sh} (h : s.ok H) (h2 : t.ok H) (hsd : s.done.length < 10000) (htd : t.done.length < 10000) (hsc : s.cells.length < 10000) (htc : t.cells.length < 10000) (hse : s.evs.length < 10000) (hte : t.evs.length < 10000) (id : Int) :
    FnOk Tryz.prog 13 [.agg s.enc, .agg t.enc, .int .i64 id] H fun v G => ∃ j e L, v = .tup [.agg (Sh.enc j), errV e] ∧ G = H.ext L ∧ Sh.ok G j ∧ joinSaid s t id j (e.getD 0) := by
  refine (f13_ok h h2 (by omega) (by omega) hsc htc hse hte id).mono ?_
  rintro v G ⟨rfl, rfl⟩
  unfold joinV joinB
  by_cases g1 : okJoin s t id
  rotate_left
  · rw [if_neg g1, if_neg fun h => g1 h.1]
    exact ⟨zSh, some 10, _, rfl, rfl, zSh_ok _, fun h => absurd h g1, fun h => absurd h g1, fun _ => ⟨rfl, rfl⟩⟩
  by_cases g2 : meets s t
  rotate_left
  · rw [if_pos g1, if_neg g2, if_neg fun h => g2 h.2]
    exact ⟨zSh, some 22, _, rfl, rfl, zSh_ok _, fun _ h => absurd h g2, fun _ _ => ⟨rfl, rfl⟩, fun h => absurd g1 h⟩
  rw [if_pos g1, if_pos g2, if_pos ⟨g1, g2⟩]
  have hjl : (joinP s.done t.done).length < 4294967296 := by have := joinP_len (a := s.done) (b := t.done); omega
  exact ⟨_, none, _, rfl, rfl, join_ok h.dok h2.dok (by omega) (by omega) hjl (i := 0) (j := 1) (k := 2) rfl rfl rfl, fun _ _ => ⟨rfl, ⟨rfl, rfl, rfl, rfl, rfl, rfl, rfl, rfl⟩⟩, fun _ h => absurd g2 h, fun h => absurd g1 h⟩
theorem split_same {s : Sh} {k : List Nat} {l r : Int} {a b a' b' : Sh} {c c' : Int} (h : splitSaid s k l r a b c) (h' : splitSaid s k l r a' b' c') : sameSh a a' ∧ sameSh b b' ∧ c = c' := by
  by_cases g1 : okSplit s l r
  · by_cases g2 : inSplit s k
    · obtain ⟨rfl, x1, x2⟩ := h.1 g1 g2
      obtain ⟨rfl, y1, y2⟩ := h'.1 g1 g2
      exact ⟨x1.trans y1.symm, x2.trans y2.symm, rfl⟩
    · obtain ⟨rfl, rfl, rfl⟩ := h.2.1 g1 g2
      obtain ⟨rfl, rfl, rfl⟩ := h'.2.1 g1 g2
      exact ⟨sameSh.refl _, sameSh.refl _, rfl⟩
  · obtain ⟨rfl, rfl, rfl⟩ := h.2.2 g1
    obtain ⟨rfl, rfl, rfl⟩ := h'.2.2 g1
    exact ⟨sameSh.refl _, sameSh.refl _, rfl⟩
theorem join_same {s t : Sh} {id : Int} {j j' : Sh} {c c' : Int} (h : joinSaid s t id j c) (h' : joinSaid s t id j' c') : sameSh j j' ∧ c = c' := by
  by_cases g1 : okJoin s t id
  · by_cases g2 : meets s t
    · obtain ⟨rfl, x1⟩ := h.1 g1 g2
      obtain ⟨rfl, y1⟩ := h'.1 g1 g2
      exact ⟨x1.trans y1.symm, rfl⟩
    · obtain ⟨rfl, rfl⟩ := h.2.1 g1 g2
      obtain ⟨rfl, rfl⟩ := h'.2.1 g1 g2
      exact ⟨sameSh.refl _, rfl⟩
  · obtain ⟨rfl, rfl⟩ := h.2.2 g1
    obtain ⟨rfl, rfl⟩ := h'.2.2 g1
    exact ⟨sameSh.refl _, rfl⟩
theorem f3_ok {s t : Sh} (hs : s.okw H) (ht : t.okw H) (k : List Nat) (a b : Int) : FnOk Tryz.prog 3 [.agg s.enc, .agg t.enc, .str k, .int .i64 a, .int .i64 b] H fun r G => r = .bool true ∧ G = H := by
  refine FnOk.assume fun hok => ?_
  refine FnOk.drop (R := fun r => r = .bool true) ?_ (by rintro v rfl ρ; rw [AV.ren])
  refine FnOk.of_WW Tryz.func3 rfl C3ok R3ok E0 good_E0 ?_
  simp only [go_sem, C3, Sh.enc]
  refine CL.of f9_ok ?_
  rintro _ G' ⟨rfl, hG⟩
  rw [hG]
  clear hG
  simp only [go_sem]
  refine CL.bool (f10_few (hs.ext _)) (fun g1 => ?_) (fun g1 => ?_)
  rotate_left
  · simp only [go_sem]
    exact ⟨_, rfl⟩
  simp only [go_sem]
  refine CL.bool (f10_few (ht.ext _)) (fun g2 => ?_) (fun g2 => ?_)
  rotate_left
  · simp only [go_sem]
    exact ⟨_, rfl⟩
  have h := hs.ok g1
  have h2 := ht.ok g2
  have g1 : s.cells.length ≤ 30 ∧ s.evs.length ≤ 40 ∧ s.done.length ≤ 6 := g1
  have g2 : t.cells.length ≤ 30 ∧ t.evs.length ≤ 40 ∧ t.done.length ≤ 6 := g2
  simp only [go_sem]
  refine ⟨fun _ => ⟨_, rfl⟩, fun _ => ?_⟩
  have b0 : (H.ext [.row true 8 [s.enc], .row true 8 [t.enc]]).get (H.key 0) = some (.row true 8 [s.enc]) := get_first [_] []
  have b1 : (H.ext [.row true 8 [s.enc], .row true 8 [t.enc]]).get (H.key 1) = some (.row true 8 [t.enc]) := by rw [Heap.get_ext_key _ _ _ (by exact (show 1 < 2 by decide))]; rfl
  have hok0 : (H.ext [.row true 8 [s.enc], .row true 8 [t.enc]]).ok := Heap.ok_ext hok _
  refine CL.of (f11_said (h.ext _) (by omega) (by omega) k a b) ?_
  rintro _ G1 ⟨x, y, e, L1, rfl, hG1, hx, hy, he⟩
  replace hG1 : G1 = (H.ext [.row true 8 [s.enc], .row true 8 [t.enc]]).ext L1 := hG1
  have hok1 : G1.ok := by rw [hG1]; exact Heap.ok_ext hok0 _
  have c0 : G1.get (H.key 0) = some (.row true 8 [s.enc]) := by rw [hG1]; exact Heap.get_ext_old hok0 b0 _
  have c1 : G1.get (H.key 1) = some (.row true 8 [t.enc]) := by rw [hG1]; exact Heap.get_ext_old hok0 b1 _
  have hs1 : s.ok G1 := by rw [hG1]; exact (h.ext _).ext _
  have ht1 : t.ok G1 := by rw [hG1]; exact (h2.ext _).ext _
  have hB1 : ∃ L, G1 = H.ext L := ⟨_, by rw [hG1, Heap.ext_append]⟩
  clear hG1 b0 b1 hok0
  have c0' := Heap.get_ext_old hok1 c0
  have c1' := Heap.get_ext_old hok1 c1
  refine WW.nil ?_
  simp only [go_sem, Sh.enc, c0', c1']
  obtain ⟨F1, hF1⟩ : ∃ F, F = G1.ext [.row true 8 [x.enc], .row true 8 [y.enc]] := ⟨_, rfl⟩
  have okF1 : F1.ok := by rw [hF1]; exact Heap.ok_ext hok1 _
  have d0 : F1.get (H.key 0) = some (.row true 8 [s.enc]) := by rw [hF1]; exact c0' _
  have d1 : F1.get (H.key 1) = some (.row true 8 [t.enc]) := by rw [hF1]; exact c1' _
  have d2 : F1.get (G1.key 0) = some (.row true 8 [x.enc]) := by rw [hF1, Heap.get_ext_key _ _ _ (by exact (show 0 < 2 by decide))]; rfl
  have d3 : F1.get (G1.key 1) = some (.row true 8 [y.enc]) := by rw [hF1, Heap.get_ext_key _ _ _ (by exact (show 1 < 2 by decide))]; rfl
  refine CL.of (f12_ok (hs1.ext _) (by omega) k a b) ?_
  rintro _ G2 ⟨u, v, f, L2, rfl, hG2, hu, hv, hf⟩
  replace hG2 : G2 = F1.ext L2 := by rw [hF1]; exact hG2
  have hok2 : G2.ok := by rw [hG2]; exact Heap.ok_ext okF1 _
  have c0 : G2.get (H.key 0) = some (.row true 8 [s.enc]) := by rw [hG2]; exact Heap.get_ext_old okF1 d0 _
  have c1 : G2.get (H.key 1) = some (.row true 8 [t.enc]) := by rw [hG2]; exact Heap.get_ext_old okF1 d1 _
  have c2 : G2.get (G1.key 0) = some (.row true 8 [x.enc]) := by rw [hG2]; exact Heap.get_ext_old okF1 d2 _
  have c3 : G2.get (G1.key 1) = some (.row true 8 [y.enc]) := by rw [hG2]; exact Heap.get_ext_old okF1 d3 _
  have hs2 : s.ok G2 := by rw [hG2, hF1]; exact (hs1.ext _).ext _
  have ht2 : t.ok G2 := by rw [hG2, hF1]; exact (ht1.ext _).ext _
  have hx2 : x.ok G2 := by rw [hG2, hF1]; exact (hx.ext _).ext _
  have hy2 : y.ok G2 := by rw [hG2, hF1]; exact (hy.ext _).ext _
  have hB2 : ∃ L, G2 = H.ext L := by obtain ⟨L, hL⟩ := hB1; exact ⟨_, by rw [hG2, hF1, hL, Heap.ext_append, Heap.ext_append]⟩
  clear hG2 hF1 d0 d1 d2 d3 okF1
  have c0' := Heap.get_ext_old hok2 c0
  have c1' := Heap.get_ext_old hok2 c1
  refine WW.nil ?_
  simp only [go_sem, Sh.enc, c0', c1']
  obtain ⟨F2, hF2⟩ : ∃ F, F = G2.ext [.row true 8 [u.enc], .row true 8 [v.enc]] := ⟨_, rfl⟩
  have okF2 : F2.ok := by rw [hF2]; exact Heap.ok_ext hok2 _
  have d0 : F2.get (H.key 0) = some (.row true 8 [s.enc]) := by rw [hF2]; exact c0' _
  have d1 : F2.get (H.key 1) = some (.row true 8 [t.enc]) := by rw [hF2]; exact c1' _
  have d2 : F2.get (G1.key 0) = some (.row true 8 [x.enc]) := by rw [hF2]; exact Heap.get_ext_old hok2 c2 _
  have d3 : F2.get (G1.key 1) = some (.row true 8 [y.enc]) := by rw [hF2]; exact Heap.get_ext_old hok2 c3 _
  have d4 : F2.get (G2.key 0) = some (.row true 8 [u.enc]) := by rw [hF2, Heap.get_ext_key _ _ _ (by exact (show 0 < 2 by decide))]; rfl
  have d5 : F2.get (G2.key 1) = some (.row true 8 [v.enc]) := by rw [hF2, Heap.get_ext_key _ _ _ (by exact (show 1 < 2 by decide))]; rfl
  refine CL.of (f13_said (hs2.ext _) (ht2.ext _) (by omega) (by omega) (by omega) (by omega) (by omega) (by omega) a) ?_
  rintro _ G3 ⟨j, g, L3, rfl, hG3, hj, hg⟩
  replace hG3 : G3 = F2.ext L3 := by rw [hF2]; exact hG3
  have hok3 : G3.ok := by rw [hG3]; exact Heap.ok_ext okF2 _
  have c0 : G3.get (H.key 0) = some (.row true 8 [s.enc]) := by rw [hG3]; exact Heap.get_ext_old okF2 d0 _
  have c1 : G3.get (H.key 1) = some (.row true 8 [t.enc]) := by rw [hG3]; exact Heap.get_ext_old okF2 d1 _
  have c2 : G3.get (G1.key 0) = some (.row true 8 [x.enc]) := by rw [hG3]; exact Heap.get_ext_old okF2 d2 _
  have c3 : G3.get (G1.key 1) = some (.row true 8 [y.enc]) := by rw [hG3]; exact Heap.get_ext_old okF2 d3 _
  have c4 : G3.get (G2.key 0) = some (.row true 8 [u.enc]) := by rw [hG3]; exact Heap.get_ext_old okF2 d4 _
  have c5 : G3.get (G2.key 1) = some (.row true 8 [v.enc]) := by rw [hG3]; exact Heap.get_ext_old okF2 d5 _
  have hs3 : s.ok G3 := by rw [hG3, hF2]; exact (hs2.ext _).ext _
  have ht3 : t.ok G3 := by rw [hG3, hF2]; exact (ht2.ext _).ext _
  have hx3 : x.ok G3 := by rw [hG3, hF2]; exact (hx2.ext _).ext _
  have hy3 : y.ok G3 := by rw [hG3, hF2]; exact (hy2.ext _).ext _
  have hu3 : u.ok G3 := by rw [hG3, hF2]; exact (hu.ext _).ext _
  have hv3 : v.ok G3 := by rw [hG3, hF2]; exact (hv.ext _).ext _
  have hB3 : ∃ L, G3 = H.ext L := by obtain ⟨L, hL⟩ := hB2; exact ⟨_, by rw [hG3, hF2, hL, Heap.ext_append, Heap.ext_append]⟩
  clear hG3 hF2 d0 d1 d2 d3 d4 d5 okF2
  have c0' := Heap.get_ext_old hok3 c0
  have c1' := Heap.get_ext_old hok3 c1
  refine WW.nil ?_
  simp only [go_sem, Sh.enc, c0', c1']
  obtain ⟨F3, hF3⟩ : ∃ F, F = G3.ext [.row true 8 [j.enc]] := ⟨_, rfl⟩
  have okF3 : F3.ok := by rw [hF3]; exact Heap.ok_ext hok3 _
  have d2 : F3.get (G1.key 0) = some (.row true 8 [x.enc]) := by rw [hF3]; exact Heap.get_ext_old hok3 c2 _
  have d3 : F3.get (G1.key 1) = some (.row true 8 [y.enc]) := by rw [hF3]; exact Heap.get_ext_old hok3 c3 _
  have d4 : F3.get (G2.key 0) = some (.row true 8 [u.enc]) := by rw [hF3]; exact Heap.get_ext_old hok3 c4 _
  have d5 : F3.get (G2.key 1) = some (.row true 8 [v.enc]) := by rw [hF3]; exact Heap.get_ext_old hok3 c5 _
  have d6 : F3.get (G3.key 0) = some (.row true 8 [j.enc]) := by rw [hF3, Heap.get_ext_key _ _ _ (by exact (show 0 < 1 by decide))]; rfl
  refine CL.of (f14_ok (hs3.ext _) (ht3.ext _) (by omega) (by omega) (by omega) (by omega) (by omega) (by omega) a) ?_
  rintro _ G4 ⟨q, i, L4, rfl, hG4, hq, hi⟩
  replace hG4 : G4 = F3.ext L4 := by rw [hF3]; exact hG4
  have hok4 : G4.ok := by rw [hG4]; exact Heap.ok_ext okF3 _
  have c2 := Heap.get_ext_old hok4 (show G4.get (G1.key 0) = some (.row true 8 [x.enc]) by rw [hG4]; exact Heap.get_ext_old okF3 d2 _)
  have c3 := Heap.get_ext_old hok4 (show G4.get (G1.key 1) = some (.row true 8 [y.enc]) by rw [hG4]; exact Heap.get_ext_old okF3 d3 _)
  have c4 := Heap.get_ext_old hok4 (show G4.get (G2.key 0) = some (.row true 8 [u.enc]) by rw [hG4]; exact Heap.get_ext_old okF3 d4 _)
  have c5 := Heap.get_ext_old hok4 (show G4.get (G2.key 1) = some (.row true 8 [v.enc]) by rw [hG4]; exact Heap.get_ext_old okF3 d5 _)
  have c6 := Heap.get_ext_old hok4 (show G4.get (G3.key 0) = some (.row true 8 [j.enc]) by rw [hG4]; exact Heap.get_ext_old okF3 d6 _)
  have hx4 : x.ok G4 := by rw [hG4, hF3]; exact (hx3.ext _).ext _
  have hy4 : y.ok G4 := by rw [hG4, hF3]; exact (hy3.ext _).ext _
  have hu4 : u.ok G4 := by rw [hG4, hF3]; exact (hu3.ext _).ext _
  have hv4 : v.ok G4 := by rw [hG4, hF3]; exact (hv3.ext _).ext _
  have hj4 : j.ok G4 := by rw [hG4, hF3]; exact (hj.ext _).ext _
  obtain ⟨LB, hLB⟩ : ∃ L, G4 = H.ext L := by obtain ⟨L, hL⟩ := hB3; exact ⟨_, by rw [hG4, hF3, hL, Heap.ext_append, Heap.ext_append]⟩
  clear hG4 hF3 d2 d3 d4 d5 d6 okF3
  obtain ⟨p1, p2, p3⟩ := split_same he hf
  obtain ⟨p4, p5⟩ := join_same hg hi
  refine WW.nil ?_
  simp only [go_sem, Sh.enc, c2, c3, c4, c5, c6]
  refine CL.of (f15_same (hx4.ext _) (hu4.ext _) p1) ?_
  rintro _ G' ⟨rfl, hG⟩
  rw [hG]
  clear hG
  simp only [go_sem, Sh.enc, c2, c3, c4, c5, c6]
  refine CL.of (f15_same (hy4.ext _) (hv4.ext _) p2) ?_
  rintro _ G' ⟨rfl, hG⟩
  rw [hG]
  clear hG
  simp only [go_sem]
  refine CL.of (f16_ok e) ?_
  rintro _ G' ⟨rfl, hG⟩
  rw [hG]
  clear hG
  have z1 := eq_true p3
  have z2 := eq_true p5
  simp only [go_sem, Sh.enc, c2, c3, c4, c5, c6, z1]
  refine CL.of (f15_same (hj4.ext _) (hq.ext _) p4) ?_
  rintro _ G' ⟨rfl, hG⟩
  rw [hG]
  clear hG
  simp only [go_sem]
  refine CL.of (f16_ok g) ?_
  rintro _ G' ⟨rfl, hG⟩
  rw [hG]
  clear hG
  rw [hLB]
  simp only [go_sem, z2]
  exact ⟨_, rfl⟩
end Go.Proofs
