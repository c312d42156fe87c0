/- a request taken by a node: walked. -/
import Derived.Test.YtglpihajimhekaaGreatDoorZ21
import Derived.KernelRfl
import Derived.Test.YtglpihajimhekaaGreatDoorProg
set_option linter.all false
set_option maxRecDepth 100000
namespace Go.Proofs
open Go Go.Ev
/-! maps whose keys are literal numbers -/
noncomputable def mapB {β : Type} (b : Blk) (f : β) (c : List (AV × AV) → β) : β := Blk.rec (motive := fun _ => β) f (fun _ _ _ => f) c b
@[go_sem] theorem mapB_map {β : Type} (es : List (AV × AV)) (f : β) (c : List (AV × AV) → β) : mapB (.map es) f c = c es := rfl
@[go_sem] theorem mapC_opt {β : Type} (H : Heap) (k : K) (f : β) (c : List (AV × AV) → β) : mapC H k f c = optC (H.get k) f fun b => mapB b f c := rfl
@[go_sem] theorem mpC_nil {β : Type} (lk : LK) (k v : AV) (f : β) (c : List (AV × AV) → β) : mpC lk k v f [] c = c [(k, v)] := rfl
@[go_sem] theorem mpC_int {β : Type} (a b : Int) (v x : AV) (f : β) (es : List (AV × AV)) (c : List (AV × AV) → β) : mpC .int (.int .i64 a) v f ((.int .i64 b, x) :: es) c = if a = b then c ((.int .i64 a, v) :: es) else mpC .int (.int .i64 a) v f es fun r => c ((.int .i64 b, x) :: r) := by
  show bif' (Nat.beq (Ev.kn .i64) (Ev.kn .i64)) (eqI a b fun z => bif' z (c ((.int .i64 a, v) :: es)) (mpC .int (.int .i64 a) v f es fun r => c ((.int .i64 b, x) :: r))) f = _
  rw [show Nat.beq (Ev.kn .i64) (Ev.kn .i64) = true from rfl, bif_true, eqI_eq, bif_dec]
@[go_sem] theorem mfC_nil {β : Type} (lk : LK) (k : AV) (f : β) (c : Option AV → β) : mfC lk k [] f c = c none := rfl
@[go_sem] theorem mfC_int {β : Type} (a b : Int) (x : AV) (f : β) (es : List (AV × AV)) (c : Option AV → β) : mfC .int (.int .i64 a) ((.int .i64 b, x) :: es) f c = if a = b then c (some x) else mfC .int (.int .i64 a) es f c := by
  show bif' (Nat.beq (Ev.kn .i64) (Ev.kn .i64)) (eqI a b fun z => bif' z (c (some x)) (mfC .int (.int .i64 a) es f c)) f = _
  rw [show Nat.beq (Ev.kn .i64) (Ev.kn .i64) = true from rfl, bif_true, eqI_eq, bif_dec]
@[go_sem] theorem mlEnd_some (z v : AV) (H : Heap) : mlEnd false z H (some v) = .val v H := rfl
@[go_sem] theorem mlEnd_none (z : AV) (H : Heap) : mlEnd false z H none = .val z H := rfl
@[go_sem] theorem mlEnd_some2 (z v : AV) (H : Heap) : mlEnd true z H (some v) = .val (.tup [v, .bool true]) H := rfl
@[go_sem] theorem mlEnd_none2 (z : AV) (H : Heap) : mlEnd true z H none = .val (.tup [z, .bool false]) H := rfl
@[go_sem] theorem lk3 : lkOf Tryz.prog 3 = .int := by kernel_rfl
attribute [go_sem] mkmR mupR mlkR mkfR
@[go_sem] theorem fn_neq {β : Type} (fn : Fn) (l m : List AV) (f : β) (c : AV → β) : binV Tryz.prog EK.func none true BinOp.neq (.fn fn l m) .nilf f c = c (.bool true) := rfl
theorem clo40 : CloFn Tryz.prog 37 2 24 [.str [], .int .i64 0] := ⟨⟨Tryz.f37, Tryz.func37, by kernel_rfl, by kernel_rfl⟩, rfl, by decide⟩
section
variable {G : Heap} {kn kd kj kh : K}
theorem isWt.ext {wv : AV} {ws : List (List AV)} (h : isWt G wv ws) (hok : G.ok) (L : List Blk) : isWt (G.ext L) wv ws := by
  rcases h with h | ⟨kw, h1, h2, h3⟩
  · exact .inl h
  · exact .inr ⟨kw, h1, h2, Heap.get_ext_old hok h3 L⟩
theorem isNd.ext {x5 x6 x7 : AV} {bs : List Nat} {n m : Nat} {ws : List (List AV)} {s : Sh} (h : isNd G kn kd kj kh bs n m ws x5 x6 x7 s) (L : List Blk) : isNd (G.ext L) kn kd kj kh bs n m ws x5 x6 x7 s := by
  obtain ⟨wv, h1, h2⟩ := h.row
  obtain ⟨lv, h3⟩ := h.hold
  exact ⟨Heap.ok_ext h.ok L, ⟨wv, Heap.get_ext_old h.ok h1 L, h2.ext h.ok L⟩, Heap.get_ext_old h.ok h.disk L, Heap.get_ext_old h.ok h.jour L, ⟨lv, h3.ext L⟩⟩
end
end Go.Proofs
set_option linter.all false
set_option maxRecDepth 100000
namespace Go.Proofs
open Go Go.Ev
/-- blocks of no node, no disk -/
def okn : Blk → Prop
  | .row _ w rows => w ≠ 2 ∧ w ≠ 24 ∧ (w = 8 → ∀ r ∈ rows, ∃ s : Sh, r = s.enc)
  | _ => False
/-- these are kept -/
def KO (G G' : Heap) : Prop := ∀ j b, G.get j = some b → okn b → G'.get j = some b
theorem KO.trans {A B C : Heap} (h : KO A B) (g : KO B C) : KO A C := fun j b hb ho => g j b (h j b hb ho) ho
theorem KO.ext {A : Heap} (hok : A.ok) (L : List Blk) : KO A (A.ext L) := fun j b hb _ => Heap.get_ext_old hok hb L
theorem KO.kp {A B : Heap} {ks : List K} (h : Kp ks A B) (hk : ∀ j ∈ ks, ∀ b, A.get j = some b → ¬ okn b) : KO A B := fun j b hb ho => h.keep j b (fun hm => hk j hm b hb ho) hb
theorem KO.wt {A B : Heap} {kn : K} {wv a x5 x6 x7 : AV} {k1 k2 k3 : K} {ws : List (List AV)} (hn : A.get kn = some (.row true 8 [[a, .ptr k1 0, .ptr k2 0, .ptr k3 0, wv, x5, x6, x7]])) (hw : isWt A wv ws) (h : Kp (kn :: wk wv) A B) : KO A B := KO.kp h fun j hj b hb ho => by
  rcases List.mem_cons.1 hj with rfl | hj
  · rw [hn] at hb; cases hb
    obtain ⟨s, e⟩ := ho.2.2 rfl _ List.mem_cons_self
    simp [Sh.enc] at e
  · rcases hw with ⟨_, rfl⟩ | ⟨kw, a1, rfl, a3⟩
    · cases hj
    · cases ws with
      | nil => cases hj
      | cons w ws =>
        rw [List.mem_singleton.1 hj, a3] at hb; cases hb; exact ho.2.1 rfl
section
variable {G : Heap} {kn kd kj kh : K} {s t0 s0 : Sh} {kd0 n0 av : Int} {ses id : Nat} {key to val fk : List Nat} {wv : AV} {w : Option (K × List (List AV))}
/-- a session's letter -/
def letL (ses id : Nat) (o : List AV) : List AV := [.int .i64 1, .int .i64 (200 + (ses : Int)), .int .i64 0, .int .i64 id, .int .i64 0, .int .i64 0, .int .i64 0, .int .i64 0] ++ (o ++ [.int .i64 0, .str [], .int .i64 0, .nils, .str [], .str [], .nils, .nils, .nils, .str []])
/-- what is said to it -/
def saidL (ses id : Nat) (a : List AV) : List AV := [.int .i64 2, .int .i64 0, .int .i64 (200 + (ses : Int)), .int .i64 id, .int .i64 0, .int .i64 0, .int .i64 0, .int .i64 0, .int .i64 0, .str [], .str [], .str [], .int .i64 0, .nils] ++ (a ++ [.str [], .str [], .nils, .nils, .nils, .str []])
theorem f28_ask (D : Does ses id kd0 key to val n0 wv w fk s0 t0 av) {x5 x6 x7 : AV} {bs T : List Nat} {n m : Nat} {ws : List (List AV)} (h : isNd G kn kd kj kh bs n m ws x5 x6 x7 s) (hR : Rel s s0) (hw : okW w G) (hse : ses < 3) (hid : 1 ≤ id) (hid2 : id < 1000)
    (hB : ∀ J : Heap, J.ok → okW w J → FnOk Tryz.prog 54 [.agg (reqL ses id (opL kd0 key to val n0 wv))] J fun r J' => r = .str T ∧ J' = J) (hT : T ≠ []) (hTl : T.length < 1000000) (hl : bs.length + (wrapT T).length ≤ 200000) (hnl : n ≤ bs.length) (hm : m < 1000000) (hN : ws.length < 100000) :
    FnOk Tryz.prog 28 [.ptr kn 0, .agg (letL ses id (opL kd0 key to val n0 wv))] G fun r G' => r = .tup [] ∧ ∃ t, isNd G' kn kd kj kh (bs ++ wrapT T) (n + (wrapT T).length) (m + 1) (ws ++ [saidL ses id [.int .i64 0, .str [], .int .i64 av, .nils]]) x5 x6 x7 t ∧ Rel t t0 ∧ KO G G' := by
  obtain ⟨wts, hn, hw0⟩ := h.row
  obtain ⟨lv, hh⟩ := h.hold
  obtain ⟨lt, hlt⟩ : ∃ lt, lt = letL ses id (opL kd0 key to val n0 wv) := ⟨_, rfl⟩
  have fk1 := D.fkey (G.ext [.row true 24 [letL ses id (opL kd0 key to val n0 wv)], .row true 8 [zS]]) (Heap.ok_ext h.ok _) (hw.ext h.ok _)
  obtain ⟨E, hE, e1, e2⟩ := two_calls (P := Tryz.prog) (f := 80) (g := 79) (by decide) fk1 (f79_yes (hh.ext [.row true 24 [letL ses id (opL kd0 key to val n0 wv)], .row true 8 [zS]]) fk (i := 0) (idx_one (hR.find D.find)) rfl)
  simp only [letL, opL, List.cons_append, List.nil_append, zS, Heap.key_ext, List.length_cons, List.length_nil, Nat.zero_add, Nat.reduceAdd] at e1 e2
  refine FnOk.of_WW Tryz.func28 rfl C28ok R28ok E hE ?_
  have hn' := fun L => Heap.get_ext_old h.ok hn L
  have hz : IntKind.i64.wrap (200 + (ses : Int) - 200) = (ses : Int) := by rw [wrap_i64 (by omega) (by omega)]; omega
  have z0 : ((ses : Int) < 0) = False := eq_false (by omega)
  have z1 : ((id : Int) < 1) = False := eq_false (by omega)
  simp only [go_sem, C28, letL, opL, List.cons_append, List.nil_append, hn', hz, z0, z1, e1, e2, Sh.cop, Sh.enc, copB, Heap.key_ext]
  have hso := hh.each s (by simp)
  obtain ⟨y, L, hx, -, -⟩ := D.does (G.ext [.row true 24 [letL ses id (opL kd0 key to val n0 wv)], .row true 8 [(s.cop (G.key 2) (G.key 3) (G.key 4)).enc], zB (nilB s.cv) 5 (s.cells.map Cell.enc), zB (nilB s.ev) 4 (s.evs.map Evn.enc), zB (nilB s.dv) 6 (s.done.map Dn.enc)]) (s.cop (G.key 2) (G.key 3) (G.key 4)) _ (Heap.ok_ext h.ok _) (Sh.cop_ok hso rfl rfl rfl) (hR.cop _ _ _) (hR.evV _ _ _) (hw.ext h.ok _)
  obtain ⟨M, hM⟩ : ∃ M, M = (G.ext [.row true 24 [letL ses id (opL kd0 key to val n0 wv)], .row true 8 [(s.cop (G.key 2) (G.key 3) (G.key 4)).enc], zB (nilB s.cv) 5 (s.cells.map Cell.enc), zB (nilB s.ev) 4 (s.evs.map Evn.enc), zB (nilB s.dv) 6 (s.done.map Dn.enc)]).ext L := ⟨_, rfl⟩
  rw [← hM] at hx
  simp only [letL, opL, List.cons_append, List.nil_append, Sh.cop, Sh.enc] at hx
  refine CL.of hx ?_
  rintro _ G' ⟨rfl, hG⟩; rw [hG]; clear hG hx
  have hMok : M.ok := by rw [hM]; exact Heap.ok_ext (Heap.ok_ext h.ok _) _
  have hMk : ∀ j b, G.get j = some b → M.get j = some b := fun j b hb => by rw [hM, Heap.ext_append]; exact Heap.get_ext_old h.ok hb _
  have e0 := get_of_ext hM (i := 0) rfl
  simp only [letL, opL, List.cons_append, List.nil_append] at e0
  have hhM : isHd M kh lv .nils [s] [] := by rw [hM]; exact (hh.ext _).ext _
  have hwM : okW w M := by rw [hM]; exact (hw.ext h.ok _).ext (Heap.ok_ext h.ok _) _
  have g0 := fun L => Heap.get_ext_old hMok e0 L
  have gn := fun L => Heap.get_ext_old hMok (hMk _ _ hn) L
  refine WW.nil ?_
  simp only [go_sem, Sh.enc, g0, gn]
  have hwr := fun H ho hw => D.wri H ho hw
  simp only [opL] at hwr
  refine CL.of (hwr _ (Heap.ok_ext hMok _) (hwM.ext hMok _)) ?_
  rintro _ G' ⟨rfl, hG⟩; rw [hG]; clear hG
  simp only [go_sem, g0, gn]
  have e28 := fun L => f25_ask D (Heap.get_ext_old hMok (hMk _ _ hn) L) (Heap.get_ext_old hMok (hMk _ _ h.disk) L) (Heap.get_ext_old hMok (hMk _ _ h.jour) L) (hhM.ext L) hR (hwM.ext hMok L) hB hT hTl hl hnl hm
  simp only [reqL, opL, List.cons_append, List.nil_append] at e28
  refine CL.of (e28 _) ?_
  rintro _ G' ⟨rfl, hd1, hj1, ⟨lv1, t, hh1, hPt⟩, kp1⟩
  obtain ⟨G1, hG1⟩ : ∃ G1, G1 = G' := ⟨_, rfl⟩
  rw [← hG1] at hd1 hj1 hh1 kp1 ⊢
  clear hG1
  have hno : ∀ {j b}, M.get j = some b → (∀ {wr rows}, b ≠ .row wr 2 rows) → j ∉ [kd, kj, kh] := fun {j b} hb hne hm => by
    simp only [List.mem_cons, List.not_mem_nil, or_false] at hm
    rcases hm with rfl | rfl | rfl
    · rw [hMk _ _ h.disk] at hb; cases hb; exact hne rfl
    · rw [hMk _ _ h.jour] at hb; cases hb; exact hne rfl
    · rw [hhM.row] at hb; cases hb; exact hne rfl
  have hk1 : M.key 1 ∉ [kd, kj, kh] := fun hm => by
    simp only [List.mem_cons, List.not_mem_nil, or_false] at hm
    rcases hm with e | e | e
    · exact ne_key hMok (hMk _ _ h.disk) 1 e.symm
    · exact ne_key hMok (hMk _ _ h.jour) 1 e.symm
    · exact ne_key hMok hhM.row 1 e.symm
  have w1 := kp1.keep (M.key 1) _ hk1 (get_lit rfl)
  have w0 := kp1.keep (G.key 0) _ (hno e0 (by simp)) (g0 _)
  have wn := kp1.keep kn _ (hno (hMk _ _ hn) (by simp)) (gn _)
  have wx := fun L => Heap.get_ext_old hh1.ok w1 L
  have s1 := fun b (l : List Blk) (α : Type) (c' : Heap → α) => Heap.setC_here hh1.ok w1 b l c'
  have k1 := fun b (l : List Blk) => Heap.get_set_here hh1.ok w1 b l
  have k0 := fun b (l : List Blk) => Heap.get_set_there hh1.ok w0 (ne_key hMok e0 1).symm b l
  have kn' := fun b (l : List Blk) => Heap.get_set_there hh1.ok wn (ne_key hMok (hMk _ _ hn) 1).symm b l
  refine WW.nil ?_
  simp only [go_sem, wx, s1, k1, k0, kn']
  have o2 : ∀ b l, ((G1.set (M.key 1) b).ext l).ok := fun b l => Heap.ok_ext (Heap.ok_set hh1.ok w1) l
  have hw1 : ∀ b l, isWt ((G1.set (M.key 1) b).ext l) wts ws := fun b l => by
    rcases hw0 with e | ⟨kw, a1, a2, a3⟩
    · exact .inl e
    · exact .inr ⟨kw, a1, a2, Heap.get_set_there hh1.ok (kp1.keep _ _ (hno (hMk _ _ a3) (by simp)) (Heap.get_ext_old hMok (hMk _ _ a3) _)) (ne_key hMok (hMk _ _ a3) 1).symm b l⟩
  refine CL.of (f81_none (o2 _ _) (kn' _ _) (hw1 _ _) hN (200 + (ses : Int)) id _ _ _ _ _ _ _ _ _ _ _ _ _ _ _ _ _ _ _ _ _ _ _ _ _ _) ?_
  rintro _ G' ⟨rfl, ⟨wv', h1, h2⟩, h3, h4⟩
  simp only [go_sem]
  have hnw : ∀ {j x}, G.get j = some (.row true 2 [x]) → j ∉ kn :: wk wts := fun {j x} hb hm => by
    rcases List.mem_cons.1 hm with rfl | hm
    · rw [hn] at hb; cases hb
    · rcases hw0 with ⟨_, rfl⟩ | ⟨kw, a1, rfl, a3⟩
      · cases hm
      · cases ws with
        | nil => cases hm
        | cons w ws =>
          rw [List.mem_singleton.1 hm, a3] at hb; cases hb
  have hd2 := h4.keep _ _ (hnw h.disk) (Heap.get_set_there hh1.ok hd1 (ne_key hMok (hMk _ _ h.disk) 1).symm _ _)
  have hj2 := h4.keep _ _ (hnw h.jour) (Heap.get_set_there hh1.ok hj1 (ne_key hMok (hMk _ _ h.jour) 1).symm _ _)
  have hh2 := ((hh1.cell w1 _).ext []).kp h4 h3 fun j hm => by
    refine ⟨fun e => hnw hh.row (e ▸ hm), fun b hb => ?_⟩
    rcases List.mem_cons.1 hm with rfl | hm
    · rw [kn'] at hb; cases hb; exact foreign_node
    · have hw2 := hw1 (.row true 4 [[.int .i64 0, .str [], .int .i64 av, .nils]]) []
      rcases hw2 with ⟨_, rfl⟩ | ⟨kw, a1, rfl, a3⟩
      · cases hm
      · cases ws with
        | nil => cases hm
        | cons w ws =>
          rw [List.mem_singleton.1 hm, a3] at hb; cases hb; exact foreign_wide (by decide)
  have ko1 : ∀ j b, M.get j = some b → okn b → G1.get j = some b := fun j b hb ho => kp1.keep j b (fun hj => by
    simp only [List.mem_cons, List.not_mem_nil, or_false] at hj
    rcases hj with rfl | rfl | rfl
    · rw [hMk _ _ h.disk] at hb; cases hb; exact ho.1 rfl
    · rw [hMk _ _ h.jour] at hb; cases hb; exact ho.1 rfl
    · rw [hhM.row] at hb; cases hb; exact ho.1 rfl) (Heap.get_ext_old hMok hb _)
  have ko2 : KO G G' := fun j b hb ho => (KO.wt (kn' _ _) (hw1 _ _) h4) j b (Heap.get_set_there hh1.ok (ko1 j b (hMk j b hb) ho) (ne_key hMok (hMk j b hb) 1).symm _ _) ho
  exact ⟨t, ⟨h3, ⟨wv', h1, h2⟩, hd2, hj2, ⟨_, hh2⟩⟩, hPt, ko2⟩
theorem f7_ask (D : Does ses id kd0 key to val n0 wv w fk s0 t0 av) {x5 x6 x7 : AV} {bs T : List Nat} {n m : Nat} {ws : List (List AV)} (h : isNd G kn kd kj kh bs n m ws x5 x6 x7 s) (hR : Rel s s0) (hw : okW w G) (hse : ses < 3) (hid : 1 ≤ id) (hid2 : id < 1000)
    (hL : ∀ J : Heap, J.ok → okW w J → FnOk Tryz.prog 27 [.agg (letL ses id (opL kd0 key to val n0 wv))] J fun r J' => r = .bool true ∧ J' = J)
    (hB : ∀ J : Heap, J.ok → okW w J → FnOk Tryz.prog 54 [.agg (reqL ses id (opL kd0 key to val n0 wv))] J fun r J' => r = .str T ∧ J' = J) (hT : T ≠ []) (hTl : T.length < 1000000) (hl : bs.length + (wrapT T).length ≤ 200000) (hnl : n ≤ bs.length) (hm : m < 1000000) (hN : ws.length < 100000) :
    FnOk Tryz.prog 7 [.ptr kn 0, .agg (letL ses id (opL kd0 key to val n0 wv))] G fun r G' => r = .tup [] ∧ ∃ t, isNd G' kn kd kj kh (bs ++ wrapT T) (n + (wrapT T).length) (m + 1) (ws ++ [saidL ses id [.int .i64 0, .str [], .int .i64 av, .nils]]) x5 x6 x7 t ∧ Rel t t0 ∧ KO G G' := by
  obtain ⟨wts, hn, hw0⟩ := h.row
  have e := hL (G.ext [.row true 24 [letL ses id (opL kd0 key to val n0 wv)]]) (Heap.ok_ext h.ok _) (hw.ext h.ok _)
  obtain ⟨E, hE, he⟩ := one_call e
  simp only [letL, opL, List.cons_append, List.nil_append] at he
  refine FnOk.of_WW Tryz.func7 rfl C7ok R7ok E hE ?_
  have hn' := fun L => Heap.get_ext_old h.ok hn L
  simp only [go_sem, C7, letL, opL, List.cons_append, List.nil_append, hn', he]
  refine CL.of (clone_nil clo40) ?_
  rintro _ G' ⟨rfl, hG⟩; rw [hG]; clear hG
  simp only [go_sem]
  have e31 := fun L => f28_ask D (h.ext L) hR (hw.ext h.ok L) hse hid hid2 hB hT hTl hl hnl hm hN
  simp only [letL, opL, List.cons_append, List.nil_append] at e31
  refine CL.of (e31 _) ?_
  rintro _ G' ⟨rfl, t, hp1, hp2, hp3⟩
  simp only [go_sem]
  exact ⟨t, hp1, hp2, (KO.ext h.ok _).trans hp3⟩
end
end Go.Proofs
/- a shard behind whatever puts. -/

set_option linter.all false
set_option maxRecDepth 100000
namespace Go.Proofs
open Go Go.Ev
/-- two cells that are alike but for their floors -/
def sameC (a b : Cell) : Prop := a.key = b.key ∧ a.value = b.value ∧ a.ver = b.ver ∧ a.del = b.del
theorem sameC.trans {a b c : Cell} (h : sameC a b) (g : sameC b c) : sameC a c := ⟨h.1.trans g.1, h.2.1.trans g.2.1, h.2.2.1.trans g.2.2.1, h.2.2.2.trans g.2.2.2⟩
theorem flo_same (e : Evn) (c : Cell) : sameC (flo e c) c := by
  unfold flo
  split <;> exact ⟨rfl, rfl, rfl, rfl⟩
theorem getL_flo (e : Evn) (k : List Nat) : ∀ cs : List Cell, sameC (getL (cs.map (flo e)) k).1 (getL cs k).1
  | [] => ⟨rfl, rfl, rfl, rfl⟩
  | c :: cs => by
    have hk := (flo_same e c).1
    rw [List.map_cons, getL, getL, hk]
    split
    · exact flo_same e c
    · exact getL_flo e k cs
theorem getL_keep (k : List Nat) : ∀ (l : List Evn) (cs : List Cell), sameC (getL (keepC l cs) k).1 (getL cs k).1
  | [], cs => ⟨rfl, rfl, rfl, rfl⟩
  | e :: l, cs => (getL_keep k l (cs.map (flo e))).trans (getL_flo e k cs)
theorem mem_keep {c : Cell} : ∀ {l : List Evn} {cs : List Cell}, c ∈ keepC l cs → ∃ d ∈ cs, sameC c d
  | [], cs, h => ⟨c, h, rfl, rfl, rfl, rfl⟩
  | e :: l, cs, h => by
    obtain ⟨d, hd, hs⟩ := mem_keep (l := l) (cs := cs.map (flo e)) h
    obtain ⟨d', hd', rfl⟩ := List.mem_map.1 hd
    exact ⟨d', hd', hs.trans (flo_same e d')⟩
/-- the cells, the events of a shard behind so many changes -/
structure GdC (N : Nat) (s : Sh) : Prop where
  hd : s.id = 1 ∧ s.ep = 1 ∧ s.fr = [] ∧ s.to = [] ∧ s.frz = false
  keys : ∀ c ∈ s.cells, has [] [] c.key
  hist : isHist s.evs s.cells
  el : s.evs.length ≤ 24
  vers : ∀ k, (getL s.cells k).1.ver ≤ N
  cl : s.cells.length ≤ N
/-- a change -/
noncomputable def chgS (s : Sh) (k v : List Nat) (k0 k1 : K) : Sh := addS s (nextC s.cells k v false) (nextE s.cells k v false) k0 k1
theorem has_all {k : List Nat} (hk : isKey k) : has [] [] k := ⟨k_span, hk, not_ltS_nil k, .inl rfl⟩
theorem GdC.chg {N : Nat} {s : Sh} (h : GdC N s) (hN : N < 1000000000000) {k v : List Nat} (hk : isKey k) (hv : (v.length : Int) ≤ 12) (k0 k1 : K) : GdC (N + 1) (chgS s k v k0 k1) := by
  have hm : (getL s.cells k).1.ver < 1000000000000 := by have := h.vers k; omega
  have hw : refW s.cells (nextC s.cells k v false) = withL s.cells (nextC s.cells k v false) := refW_eq h.hist.1 _
  have hI : isHist (chgS s k v k0 k1).evs (chgS s k v k0 k1).cells := by
    have := hist_keep ((s.evs ++ [nextE s.cells k v false]).length - 24) (hist_put h.hist hk hv (d := false) (fun h => by cases h) hm)
    show isHist _ (keepC _ (refW s.cells _))
    rw [hw]
    exact this
  refine ⟨h.hd, fun c hc => ?_, hI, ?_, fun q => ?_, ?_⟩
  · have hc : c ∈ keepC _ (refW s.cells (nextC s.cells k v false)) := hc
    obtain ⟨x, hx, hs⟩ := mem_keep hc
    rw [hw] at hx
    rw [hs.1]
    rcases withL_mem hx with rfl | hx
    · exact has_all hk
    · exact h.keys x hx
  · show ((s.evs ++ [nextE s.cells k v false]).drop ((s.evs ++ [nextE s.cells k v false]).length - 24)).length ≤ 24
    rw [List.length_drop]; omega
  · show (getL (keepC _ (refW s.cells (nextC s.cells k v false))) q).1.ver ≤ _
    rw [(getL_keep q _ _).2.2.1, hw]
    by_cases hq : q = (nextC s.cells k v false).key
    · rw [hq, getL_withL_self]
      show (getL s.cells k).1.ver + 1 ≤ _
      have := h.vers k; omega
    · rw [getL_withL_other hq]
      have := h.vers q; omega
  · show (keepC _ (refW s.cells (nextC s.cells k v false))).length ≤ _
    rw [keepC_len, hw]
    have := withL_len (nextC s.cells k v false) s.cells
    have := h.cl
    omega
/-- the whole shard -/
structure Gd (N : Nat) (P : Int → Int → Prop) (s : Sh) : Prop extends GdC N s where
  done : ∀ d ∈ s.done, okD d ∧ d.an.rv = .nils ∧ d.an.rows = [] ∧ P d.ses d.id
  up : upD s.done
  dl : s.done.length ≤ N
theorem putGD_mem {f : Dn → Dn → Dn} {x d : Dn} (hf : ∀ a, f a d = a ∨ f a d = d) : ∀ {l : List Dn}, x ∈ putGD f l d → x = d ∨ x ∈ l
  | [], h => by
    unfold putGD at h
    exact .inl (List.mem_singleton.1 h)
  | c :: l, h => by
    unfold putGD at h
    split at h
    · rcases List.mem_cons.1 h with rfl | h
      · exact .inr List.mem_cons_self
      · exact (putGD_mem hf h).imp id (List.mem_cons_of_mem _)
    · split at h
      · rcases List.mem_cons.1 h with rfl | h
        · rcases hf c with e | e
          · rw [e]; exact .inr List.mem_cons_self
          · exact .inl e
        · exact .inr (List.mem_cons_of_mem _ h)
      · rcases List.mem_cons.1 h with rfl | h
        · exact .inl rfl
        · exact .inr h
theorem withD_mem {l : List Dn} {d x : Dn} (h : x ∈ withD l d) : x = d ∨ x ∈ l := putGD_mem (fun a => by unfold lateD; split <;> simp) h
theorem stands_new {l : List Dn} {ses id : Int} (h : ∀ d ∈ l, d.ses = ses → d.id < id) : (stands l ses id).2 = 0 := by
  cases hf : findD l ses with
  | none => rw [stands_none hf]
  | some d =>
    obtain ⟨h1, h2⟩ := findD_mem hf
    rw [stands_some hf, if_pos (h d h1 h2)]
section
variable {N : Nat} {P : Int → Int → Prop} {s : Sh}
theorem Gd.bare (h : Gd N P s) : bareL s.done := fun d hd => ⟨(h.done d hd).2.1, (h.done d hd).2.2.1⟩
theorem Gd.small (h : Gd N P s) (hN : N < 1000) : smallS s := ⟨h.bare, by have := h.cl; omega, by have := h.el; omega, by have := h.dl; omega⟩
theorem Gd.sh (h : Gd N P s) : isSh s := by
  obtain ⟨e1, e2, e3, e4, e5⟩ := h.hd
  refine ⟨⟨by omega, by omega, by omega, by omega⟩, by rw [e3, e4]; exact k_span, by rw [e3, e4]; exact h.keys, by have := h.el; omega, h.hist, done_iff.2 ⟨fun d hd => (h.done d hd).1, h.up⟩⟩
theorem Gd.find (h : Gd N P s) {key : List Nat} (hk : isKey key) : findQ key s = true := by
  obtain ⟨e1, e2, e3, e4, e5⟩ := h.hd
  unfold findQ
  rw [e5, e3, e4, if_neg (by decide)]
  exact decide_eq_true (has_all hk)
theorem Gd.put (h : Gd N P s) (hN : N < 1000000) {k v : List Nat} (hk : isKey k) (hv : (v.length : Int) ≤ 12) {ses id : Int} (hs : 0 ≤ ses ∧ ses < 3) (hi : 1 ≤ id ∧ id < 1000) (k0 k1 k2 : K) :
    Gd (N + 1) (fun a b => P a b ∨ (a = ses ∧ b = id)) (askS s k v ses id k0 k1 k2) := by
  have hc := h.toGdC.chg (by omega) hk hv k0 k1
  have hv0 := h.vers k
  have hv1 := (cell_of h.hist k).2.1
  refine ⟨⟨hc.hd, hc.keys, hc.hist, hc.el, hc.vers, hc.cl⟩, fun d hd => ?_, withD_up h.up, ?_⟩
  · rcases withD_mem hd with rfl | hd
    · exact ⟨⟨⟨hs.1, hs.2, hi.1, by show id ≤ _; omega⟩, putA_is (by omega) (by omega)⟩, rfl, rfl, .inr ⟨rfl, rfl⟩⟩
    · obtain ⟨g1, g2, g3, g4⟩ := h.done d hd
      exact ⟨g1, g2, g3, .inl g4⟩
  · have := withD_len (l := s.done) (d := ⟨ses, id, putA ((getL s.cells k).1.ver + 1)⟩)
    have := h.dl
    show (withD _ _).length ≤ _
    omega
theorem Gd.mono {Q : Int → Int → Prop} (h : Gd N P s) (hQ : ∀ a b, P a b → Q a b) : Gd N Q s := ⟨h.toGdC, fun d hd => by
  obtain ⟨g1, g2, g3, g4⟩ := h.done d hd
  exact ⟨g1, g2, g3, hQ _ _ g4⟩, h.up, h.dl⟩
theorem gd_new : Gd 0 P (nS 1 1 [] [] false) := ⟨⟨⟨rfl, rfl, rfl, rfl, rfl⟩, fun c hc => absurd hc List.not_mem_nil, hist_nil, Nat.zero_le _, fun k => by show (0 : Int) ≤ 0; decide, Nat.le_refl _⟩, fun d hd => absurd hd List.not_mem_nil, List.Pairwise.nil, Nat.le_refl _⟩
/-- what a shard comes to is told by what it is -/
theorem askS_rel {x s : Sh} (h : Rel x s) (k v : List Nat) (ses id : Int) (k0 k1 k2 j0 j1 j2 : K) : Rel (askS x k v ses id k0 k1 k2) (askS s k v ses id j0 j1 j2) := by
  obtain ⟨⟨h1, h2, h3, h4, h5, h6, h7, h8⟩, _⟩ := h
  refine ⟨⟨h1, h2, h3, h4, h5, ?_, ?_, ?_⟩, fun e => ?_⟩
  · show keepC _ _ = keepC _ _
    rw [h6, h7]
  · show List.drop _ _ = List.drop _ _
    rw [h6, h7]
  · show withD _ _ = withD _ _
    rw [h6, h8]
  · have e : (x.evs ++ [nextE x.cells k v false]).drop ((x.evs ++ [nextE x.cells k v false]).length - 24) = [] := e
    show outV k1 4 ((x.evs ++ [nextE x.cells k v false]).drop ((x.evs ++ [nextE x.cells k v false]).length - 24)).length = .nils
    rw [e]; rfl
/-- a put -/
theorem Gd.does (h : Gd N P s) (hN : N < 900) {k v : List Nat} (hk : isKey k) (hv : (v.length : Int) ≤ 12) {ses id : Int} (hs : 0 ≤ ses ∧ ses < 3) (hi : 1 ≤ id ∧ id < 1000) (hn : ∀ a b, P a b → a = ses → b < id) :
    Does ses id 2 k [] v 0 .nils none k s (askS s k v ses id .z .z .z) ((getL s.cells k).1.ver + 1) where
  does := fun H x ke _ hx hR hev _ => by
    obtain ⟨h1, h2, h3, h4, h5, h6, h7, h8⟩ := hR.1
    have hI : isHist x.evs x.cells := by rw [h6, h7]; exact h.hist
    have hcl := h.cl
    have hel := h.el
    have hdl := h.dl
    have hve : (getL x.cells k).1.ver < 1000000000000 := by have := h.vers k; rw [h6]; omega
    have hst : (stands x.done ses id).2 = 0 := stands_new fun d hd e => hn _ _ (h.done d (by rwa [h8] at hd)).2.2.2 e
    have hx1 := f82_put hx hev (by rw [h7]; omega) (by rw [h6]; omega) hk hv hI hve (by rw [h8]; omega) (by rw [h8]; exact h.up) (fun d hd => (h.done d (by rwa [h8] at hd)).2.2.1) hst
    refine ⟨_, _, by rw [h6] at hx1; exact hx1, ?_, askS_rel hR ..⟩
    refine askS_ok (by rw [refW_eq hI.1]; have := withL_leng (nextC x.cells k v false) x.cells; rw [h6] at this ⊢; omega) (by rw [h7]; omega) (Nat.lt_of_le_of_lt withD_len (by rw [h8]; omega)) hx.dok rfl rfl rfl
  fkey := fun H _ _ => f80_ok (kd := 2) (by decide) k (.str []) (.str v) (.int .i64 0) .nils
  wri := fun H _ _ => f83_put k v
  find := h.find hk
  sh := h.sh
  small := h.small (by omega)
  small2 := (h.put (by omega) hk hv hs hi .z .z .z).small (by omega)
  id1 := rfl
end
end Go.Proofs
/- The laid-out code of the functions that are walked. -/

set_option linter.all false
set_option maxRecDepth 100000
namespace Go.Proofs
open Go Go.Ev K
noncomputable def C152 := mkC Tryz.prog Tryz.f152 16
theorem C152ok : CCok Tryz.prog Tryz.f152 16 C152 := mkC_ok _
@[go_sem] theorem call152 (a H) : callC Tryz.prog 152 a H = .call 152 a := callC_ok (by kernel_rfl) a H
theorem R152ok : resKs Tryz.prog Tryz.f152.results.toList = some [RK.tmp z.o.i] := by kernel_rfl
noncomputable def C203 := mkC Tryz.prog Tryz.f203 20
theorem C203ok : CCok Tryz.prog Tryz.f203 20 C203 := mkC_ok _
@[go_sem] theorem call203 (a H) : callC Tryz.prog 203 a H = .call 203 a := callC_ok (by kernel_rfl) a H
theorem R203ok : resKs Tryz.prog Tryz.f203.results.toList = some [RK.tmp z.o.i] := by kernel_rfl
noncomputable def C151 := mkC Tryz.prog Tryz.f151 64
theorem C151ok : CCok Tryz.prog Tryz.f151 64 C151 := mkC_ok _
@[go_sem] theorem call151 (a H) : callC Tryz.prog 151 a H = .call 151 a := callC_ok (by kernel_rfl) a H
theorem R151ok : resKs Tryz.prog Tryz.f151.results.toList = some [RK.tmp z.o.i.i, RK.tmp z.i.o.o] := by kernel_rfl
end Go.Proofs
/- The laid-out code of the functions that are walked. -/

set_option linter.all false
set_option maxRecDepth 100000
namespace Go.Proofs
open Go Go.Ev K
noncomputable def C87 := mkC Tryz.prog Tryz.f87 33
theorem C87ok : CCok Tryz.prog Tryz.f87 33 C87 := mkC_ok _
@[go_sem] theorem call87 (a H) : callC Tryz.prog 87 a H = .call 87 a := callC_ok (by kernel_rfl) a H
theorem R87ok : resKs Tryz.prog Tryz.f87.results.toList = some [RK.tmp z.o.o.i, RK.tmp z.o.i.o] := by kernel_rfl
noncomputable def C89 := mkC Tryz.prog Tryz.f89 40
theorem C89ok : CCok Tryz.prog Tryz.f89 40 C89 := mkC_ok _
@[go_sem] theorem call89 (a H) : callC Tryz.prog 89 a H = .call 89 a := callC_ok (by kernel_rfl) a H
theorem R89ok : resKs Tryz.prog Tryz.f89.results.toList = some [RK.cell z.o.i true 2, RK.tmp z.i.o] := by kernel_rfl
end Go.Proofs
/- token: where a key is, walked. -/



set_option linter.all false
set_option maxRecDepth 100000
namespace Go.Proofs
open Go Go.Ev
variable {H : Heap}

/-- how far one has seen of a key -/
structure Sn where
  key : List Nat
  ver : Int
def Sn.enc (c : Sn) : List AV := [.str c.key, .int .i64 c.ver]
def hasAt (l : List Sn) (k : List Nat) (i : Nat) : Prop := ∃ c, l[i]? = some c ∧ c.key = k
noncomputable instance (l : List Sn) (k : List Nat) (i : Nat) : Decidable (hasAt l k i) := Classical.propDecidable _
end Go.Proofs
/- token: what has been seen, the plain law. -/

set_option linter.all false
set_option maxRecDepth 100000
namespace Go.Proofs
open Go Go.Ev
def okS (c : Sn) : Prop := isKey c.key ∧ 0 ≤ c.ver ∧ c.ver ≤ 1000000000000
def okTk (l : List Sn) (j : Nat) : Prop := ∃ c, l[j]? = some c ∧ okS c ∧ (0 < j → ∃ d, l[j - 1]? = some d ∧ ltS d.key c.key)
def isTok (l : List Sn) : Prop := ∀ j, j < l.length → okTk l j
noncomputable instance (l : List Sn) : Decidable (isTok l) := Classical.propDecidable _
abbrev up (l : List Sn) : Prop := l.Pairwise fun c d => ltS c.key d.key
/-- what is there of a key -/
noncomputable def getS : List Sn → List Nat → Option Sn
  | [], _ => none
  | c :: l, k => if c.key = k then some c else getS l k
theorem getS_none : ∀ {l : List Sn} {k : List Nat}, (∀ c ∈ l, ¬ c.key = k) → getS l k = none
  | [], _, _ => rfl
  | d :: l, k, h => by rw [getS, if_neg (h d (by simp)), getS_none fun c hc => h c (by simp [hc])]
end Go.Proofs
/- token: whether they are any, a key's version, the same, few: walked. -/



set_option linter.all false
set_option maxRecDepth 100000
namespace Go.Proofs
open Go Go.Ev
variable {H : Heap}

noncomputable def ofT (l : List Sn) (k : List Nat) : Int := match getS l k with | some c => c.ver | none => 0
theorem getS_first : ∀ {l : List Sn} {i : Nat} {c : Sn}, l[i]? = some c → (∀ j d, j < i → l[j]? = some d → ¬ d.key = c.key) → getS l c.key = some c
  | [], i, c, h, _ => by simp at h
  | d :: l, 0, c, h, _ => by cases h; rw [getS, if_pos rfl]
  | d :: l, i + 1, c, h, hn => by rw [getS, if_neg (hn 0 d (by omega) rfl), getS_first (i := i) (by simpa using h) fun j e hj he => hn (j + 1) e (by omega) (by simpa using he)]
theorem f203_ok {v : AV} {l : List Sn} (hA : Arr H 2 v (l.map Sn.enc)) (hl : l.length < 9223372036854775807) (k : List Nat) :
    FnOk Tryz.prog 203 [v, .str k] H fun r G => r = .int .i64 (ofT l k) ∧ G = H := by
  refine FnOk.assume fun hok => ?_
  refine FnOk.drop (R := fun r => r = .int .i64 (ofT l k)) ?_ (by rintro v rfl ρ; rw [AV.ren])
  refine FnOk.of_WW Tryz.func203 rfl C203ok R203ok E0 good_E0 ?_
  have hlen := fun G => hA.len G; simp only [List.length_map] at hlen; have hren := hA.ren
  simp only [go_sem, C203, hlen]
  refine LL.st good_E0 (fun i : Nat => l.length - i) (fun i => i ≤ l.length ∧ ∀ j d, j < i → l[j]? = some d → ¬ d.key = k)
    (fun i => [((.o .z), .str k), ((.o (.o (.o .z))), v), ((.i (.o (.o .z))), .int .i64 l.length), ((.o (.i (.o .z))), .int .i64 i)]) (fun i => []) ?_ 0 (σ := []) (Wk.of rfl (by decide) (by simp only [go_sem, hren]) (by simp only [go_sem])) ⟨Nat.zero_le _, fun j d h => absurd h (Nat.not_lt_zero _)⟩
  rintro i ⟨hi, hno⟩
  by_cases hlt : i < l.length
  · obtain ⟨kk, r, ex', cap', wr, rows, hv, hrho, hgo, hrow⟩ := hA.at hok (j := i) (by rw [List.length_map]; exact hlt); simp only [List.length_map, List.getElem_map] at hv hrow; cases hv; have hget : l[i]? = some l[i] := List.getElem?_eq_getElem hlt; generalize l[i] = c at hrow hget; have hw := wrap_succ (n := i) (by omega); have hci : (i : Int) < (l.length : Int) := (by omega); have hsi : i + 1 ≤ l.length := (by omega)
    simp only [go_sem, hci, hsi, hgo, hrow, hw, Sn.enc]
    refine ⟨fun g => ⟨?_, _, rfl⟩, fun g => ?_⟩
    · subst g
      rw [ofT, getS_first hget hno]
    · refine ⟨i + 1, by show l.length - (i + 1) < l.length - i; omega, ?_, _, [], rfl, Wk.of rfl (by decide) (by simp only [go_sem, hren, hrho, hw]) (by simp only [go_sem])⟩
      refine ⟨by omega, fun j d hj hd => ?_⟩
      rcases Nat.lt_or_ge j i with h | h
      · exact hno j d h hd
      · obtain rfl : j = i := by omega
        rw [hget] at hd; cases hd; exact g
  · have hci : ¬ (i : Int) < (l.length : Int) := by omega
    simp only [go_sem, hci]
    refine ⟨?_, _, rfl⟩
    rw [ofT, getS_none fun c hc => ?_]
    obtain ⟨j, hj⟩ := List.mem_iff_getElem?.1 hc
    exact hno j c (by have := (List.getElem?_eq_some_iff.1 hj).1; omega) hj
noncomputable instance : DecidableEq Sn := fun _ _ => Classical.propDecidable _
def fewT (l : List Sn) : Prop := (∀ c ∈ l, (c.key.length : Int) ≤ 20) ∧ (l.length : Int) ≤ 30
instance (l : List Sn) : Decidable (fewT l) := inferInstanceAs (Decidable (_ ∧ _))
end Go.Proofs
/- where two spans meet, as the code has it: walked. -/


set_option linter.all false
set_option linter.all false
set_option maxRecDepth 100000
namespace Go.Proofs
open Go Go.Ev
variable {H : Heap}

noncomputable def maxS (a b : List Nat) : List Nat := if ltS a b then b else a
@[go_sem] theorem max_str {β : Type} (a b : List Nat) (f : β) (c : AV → β) : mm2 true (.str a) (.str b) f c = c (.str (maxS a b)) := by
  show bif' (bif' true (Bool.not (ltL a b)) (Bool.or (ltL a b) (eqL a b))) (c (.str a)) (c (.str b)) = _
  unfold maxS
  rw [bif_true, ltL_dec, bif_eq]
  by_cases h : ltS a b
  · rw [decide_eq_true h, if_pos h]; rfl
  · rw [decide_eq_false h, if_neg h]; rfl
noncomputable def lowS (a b : List Nat) : List Nat := if a = [] ∨ (¬ b = [] ∧ ltS b a) then b else a
def okMeet (f t f' t' : List Nat) : Prop := isSpan f t ∧ isSpan f' t' ∧ isSpan (maxS f f') (lowS t t')
noncomputable def meetV (f t f' t' : List Nat) : AV := open Classical in if okMeet f t f' t' then .tup [.agg [.str (maxS f f'), .str (lowS t t')], .bool true] else .tup [.agg [.str [], .str []], .bool false]
noncomputable def minS (a b : List Nat) : List Nat := if ltS b a then b else a
@[go_sem] theorem min_str {β : Type} (a b : List Nat) (f : β) (c : AV → β) : mm2 false (.str a) (.str b) f c = c (.str (minS a b)) := by
  show bif' (bif' false (Bool.not (ltL a b)) (Bool.or (ltL a b) (eqL a b))) (c (.str a)) (c (.str b)) = _
  unfold minS
  rw [bif_false, ltL_dec, eqL_eq, bif_eq]
  rcases ltS_tri a b with h | h | h
  · rw [decide_eq_true h, if_neg (ltS_asymm h)]; rfl
  · subst h; rw [if_neg (ltS_irrefl a)]; simp
  · rw [decide_eq_false (ltS_asymm h), if_pos h, decide_eq_false (by rintro rfl; exact ltS_irrefl _ h)]; rfl
theorem f152_ok (a b : List Nat) : FnOk Tryz.prog 152 [.str a, .str b] H fun r G => r = .str (lowS a b) ∧ G = H := by
  refine FnOk.drop (R := fun r => r = .str (lowS a b)) ?_ (by rintro v rfl ρ; rw [AV.ren])
  refine FnOk.of_WW Tryz.func152 rfl C152ok R152ok E0 good_E0 ?_
  simp only [go_sem, C152]
  refine ⟨fun h => ⟨by unfold lowS; rw [if_pos (.inl h)], _, rfl⟩, fun h => ⟨fun h2 => ⟨by unfold lowS; rw [if_neg fun g => g.elim h fun g => g.1 h2], _, rfl⟩, fun h2 => ⟨?_, _, rfl⟩⟩⟩
  unfold lowS minS
  by_cases h3 : ltS b a
  · rw [if_pos h3, if_pos (.inr ⟨h2, h3⟩)]
  · rw [if_neg h3, if_neg fun g => g.elim h fun g => h3 g.2]
noncomputable def F122 : FuncId → List AV → Option AV
  | 152, [.str a, .str b] => some (.str (lowS a b))
  | _, _ => none
theorem good_F122 : Ev.Good Tryz.prog (pureE F122) := by
  refine good_pureE fun f args v h H => ?_
  unfold F122 at h
  split at h
  · cases h; exact f152_ok _ _
  · cases h
theorem e122 (a b : List Nat) (H : Heap) : pureE F122 152 [.str a, .str b] H = .ok (.str (lowS a b)) H := rfl
theorem okMeet_iff {f t f' t' : List Nat} (h1 : isSpan f t) (h2 : isSpan f' t') : okMeet f t f' t' ↔ lowS t t' = [] ∨ ltS (maxS f f') (lowS t t') := by
  have hm : ((maxS f f').length : Int) ≤ 8 := by
    unfold maxS; split
    · exact h2.1
    · exact h1.1
  have hl : ((lowS t t').length : Int) ≤ 8 := by
    unfold lowS; split
    · exact h2.2.1
    · exact h1.2.1
  exact ⟨fun h => h.2.2.2.2, fun h => ⟨h1, h2, hm, hl, h⟩⟩
theorem f89_ok (f t f' t' : List Nat) : FnOk Tryz.prog 89 [.agg [.str f, .str t], .agg [.str f', .str t']] H fun r G => r = meetV f t f' t' ∧ G = H := by
  refine FnOk.drop (R := fun r => r = meetV f t f' t') ?_ (by rintro v rfl ρ; unfold meetV; split <;> simp only [AV.ren, AV.rens])
  refine FnOk.of_WW Tryz.func89 rfl C89ok R89ok (pureE F122) good_F122 ?_
  simp only [go_sem, C89, e122]
  have hbad : ¬ okMeet f t f' t' → ∀ L, AV.tup [.agg [.str [], .str []], .bool false] = meetV f t f' t' ∧ ∃ l, H.ext L = H.ext l := fun g L => ⟨by unfold meetV; rw [if_neg g], L, rfl⟩
  have hgood : okMeet f t f' t' → ∀ L, AV.tup [.agg [.str (maxS f f'), .str (lowS t t')], .bool true] = meetV f t f' t' ∧ ∃ l, H.ext L = H.ext l := fun g L => ⟨by unfold meetV; rw [if_pos g], L, rfl⟩
  refine CL.bool (f58_ok f t) (fun g1 => ?_) (fun g1 => ?_)
  rotate_left
  · simp only [go_sem]
    exact hbad (fun h => g1 h.1) _
  simp only [go_sem]
  refine CL.bool (f58_ok f' t') (fun g2 => ?_) (fun g2 => ?_)
  rotate_left
  · simp only [go_sem]
    exact hbad (fun h => g2 h.2.1) _
  have hi := okMeet_iff g1 g2
  by_cases g3 : lowS t t' = []
  · have z := eq_true g3
    simp only [go_sem, z]
    exact hgood (hi.2 (.inl g3)) _
  · have z := eq_false g3
    by_cases g4 : ltS (maxS f f') (lowS t t')
    · have z2 := eq_true g4
      simp only [go_sem, z, z2]
      exact hgood (hi.2 (.inr g4)) _
    · have z2 := eq_false g4
      simp only [go_sem, z, z2]
      exact hbad (fun h => (hi.1 h).elim g3 g4) _
end Go.Proofs
/- what comes behind what was seen, as the code has it: walked. -/

set_option linter.all false
set_option linter.all false
set_option maxRecDepth 100000
namespace Go.Proofs
open Go Go.Ev
variable {H : Heap}

theorem Sn.enc_one {a b : Sn} (h : a.enc = b.enc) : a = b := by
  cases a; cases b; simp [Sn.enc] at h; simp [h]
theorem sns_uniq {v : AV} {xs ys : List Sn} (h : Arr H 2 v (xs.map Sn.enc)) (h2 : Arr H 2 v (ys.map Sn.enc)) : xs = ys :=
  List.map_inj_right (fun _ _ => Sn.enc_one) |>.1 (Arr.uniq h h2 (by decide))
def A123 (H : Heap) (args : List AV) (q : List Sn × List Nat) : Prop := ∃ v, args = [v, .str q.2] ∧ Arr H 2 v (q.1.map Sn.enc) ∧ q.1.length < 9223372036854775807
noncomputable def EH (f : FuncId) (args : List AV) (H : Heap) : RC :=
  match f with
  | 203 => ot (A123 H args) fun q => .ok (.int .i64 (ofT q.1 q.2)) H
  | 57 => match args with | [.agg [.str f, .str t], .str k] => .ok (.bool (decide (has f t k))) H | _ => .fail
  | _ => .fail
theorem good_EH : Ev.Good Tryz.prog EH := by
  intro f args H r G he φ w args' ha hw
  refine (?_ : FnOk Tryz.prog f args H fun v' G' => v' = r ∧ G' = G).one φ w args' ha hw
  unfold EH at he
  split at he
  · obtain ⟨q, ⟨v, rfl, h1, h2⟩, hz⟩ := ot_ok he
    clear he
    cases hz
    exact f203_ok h1 h2 _
  · split at he
    · cases he; exact f57_ok _ _ _
    · cases he
  · cases he
theorem e123 {v : AV} {l : List Sn} (hA : Arr H 2 v (l.map Sn.enc)) (hl : l.length < 9223372036854775807) (k : List Nat) (L : List Blk) : EH 203 [v, .str k] (H.ext L) = .ok (.int .i64 (ofT l k)) (H.ext L) := by
  show ot (A123 (H.ext L) [v, .str k]) (fun q => .ok (.int .i64 (ofT q.1 q.2)) (H.ext L)) = _
  refine ot_eq (p := A123 (H.ext L) [v, .str k]) (x := (l, k)) ⟨v, rfl, hA.ext L, hl⟩ ?_ _
  rintro ⟨l', k'⟩ ⟨v', h1, h2, _⟩
  injection h1 with h1 h3
  injection h3 with h3 _
  injection h3 with h3
  subst h1 h3
  rw [sns_uniq (hA.ext L) h2]
theorem e61 (f t k : List Nat) (H : Heap) : EH 57 [.agg [.str f, .str t], .str k] H = .ok (.bool (decide (has f t k))) H := rfl
def tellE (f t : List Nat) (seen : List Sn) (e : Evn) : Prop := has f t e.key ∧ ofT seen e.key < e.ver
noncomputable instance (f t seen e) : Decidable (tellE f t seen e) := Classical.propDecidable _
noncomputable def tellL (f t : List Nat) (seen : List Sn) (l : List Evn) : List Evn := l.filter fun e => decide (tellE f t seen e)
theorem tellL_yes {f t : List Nat} {seen : List Sn} {l : List Evn} {i : Nat} {c : Evn} (h : l[i]? = some c) (h2 : tellE f t seen c) : tellL f t seen (l.take (i + 1)) = tellL f t seen (l.take i) ++ [c] := by
  rw [take_next h]; simp [tellL, h2]
theorem tellL_no {f t : List Nat} {seen : List Sn} {l : List Evn} {i : Nat} {c : Evn} (h : l[i]? = some c) (h2 : ¬ tellE f t seen c) : tellL f t seen (l.take (i + 1)) = tellL f t seen (l.take i) := by
  rw [take_next h]; simp [tellL, h2]
theorem tellL_len (f t : List Nat) (seen : List Sn) (l : List Evn) (i : Nat) : (tellL f t seen (l.take i)).length ≤ i := Nat.le_trans (List.length_filter_le _ _) (by simp; omega)
noncomputable def outI (f t : List Nat) (seen : List Sn) (n : Nat) (l : List Evn) (i : Nat) : List Evn := (tellL f t seen (l.take i)).take n
theorem outI_no {f t : List Nat} {seen : List Sn} {n : Nat} {l : List Evn} {i : Nat} {c : Evn} (h : l[i]? = some c) (h2 : ¬ tellE f t seen c) : outI f t seen n l (i + 1) = outI f t seen n l i := by
  unfold outI; rw [tellL_no h h2]
theorem outI_full {f t : List Nat} {seen : List Sn} {n : Nat} {l : List Evn} {i : Nat} {c : Evn} (h : l[i]? = some c) (h2 : ¬ (outI f t seen n l i).length < n) : outI f t seen n l (i + 1) = outI f t seen n l i := by
  by_cases g : tellE f t seen c
  · unfold outI at h2 ⊢
    rw [List.length_take] at h2
    rw [tellL_yes h g, List.take_append_of_le_length (by omega)]
  · exact outI_no h g
theorem outI_yes {f t : List Nat} {seen : List Sn} {n : Nat} {l : List Evn} {i : Nat} {c : Evn} (h : l[i]? = some c) (h2 : tellE f t seen c) (h3 : (outI f t seen n l i).length < n) : outI f t seen n l (i + 1) = outI f t seen n l i ++ [c] := by
  unfold outI at h3 ⊢
  rw [List.length_take] at h3
  have h4 : (tellL f t seen (l.take i)).length < n := by omega
  rw [tellL_yes h h2, List.take_of_length_le (l := tellL f t seen (l.take i)) (by omega), List.take_of_length_le (by rw [List.length_append]; exact h4)]
theorem outI_len (f t : List Nat) (seen : List Sn) (n : Nat) (l : List Evn) (i : Nat) : (outI f t seen n l i).length ≤ i := by
  unfold outI; rw [List.length_take]; have := tellL_len f t seen l i; omega
noncomputable def afterL (f t : List Nat) (seen : List Sn) (n : Nat) (l : List Evn) : List Evn := (tellL f t seen l).take n
theorem outI_all {f t : List Nat} {seen : List Sn} {n : Nat} {l : List Evn} {i : Nat} (hi : l.length ≤ i) : outI f t seen n l i = afterL f t seen n l := by
  unfold outI afterL; rw [List.take_of_length_le hi]
/-- some of what happened is no longer there -/
def lateW (f t : List Nat) (seen : List Sn) (cs : List Cell) : Prop := ∃ c ∈ withinL f t cs, ofT seen c.key < c.floor
theorem get_left {α : Type} {l l' : List α} {j : Nat} {x : α} (h : l[j]? = some x) : (l ++ l')[j]? = some x := by
  rw [List.getElem?_append_left (List.getElem?_eq_some_iff.1 h).1]; exact h
theorem get_last {α : Type} (l : List α) (x : α) : (l ++ [x])[l.length]? = some x := by
  rw [List.getElem?_append_right (Nat.le_refl _), Nat.sub_self]; rfl
def rowE (e : Evn) : Blk := .row true 4 [[.str e.key, .int .i64 e.ver, .str e.val, .bool e.del]]
theorem f151_ok {v u w : AV} {l : List Evn} {cs : List Cell} {seen : List Sn} (hA : Arr H 4 v (l.map Evn.enc)) (hB : Arr H 5 u (cs.map Cell.enc)) (hC : Arr H 2 w (seen.map Sn.enc)) (hl : l.length < 100000) (hc : cs.length < 100000) (hs : seen.length < 9223372036854775807) (f t : List Nat) (n : Nat) (hn : n < 100000) :
    FnOk Tryz.prog 151 [v, u, .agg [.str f, .str t], w, .int .i64 n] H fun r G => ∃ x L, G = H.ext L ∧ (lateW f t seen cs → r = .tup [.nils, .bool true]) ∧ (¬ lateW f t seen cs → r = .tup [x, .bool false] ∧ Arr G 4 x ((afterL f t seen n l).map Evn.enc)) := by
  refine FnOk.assume fun hok => ?_
  refine FnOk.of_WW Tryz.func151 rfl C151ok R151ok EH good_EH ?_
  simp only [go_sem, C151]
  refine CL.of (f202_at (hB.ext _) (by omega) f t) ?_
  rintro _ G' ⟨rfl, hG⟩
  obtain ⟨ws, hws⟩ : ∃ ws, ws = withinL f t cs := ⟨_, rfl⟩
  have hwl : ws.length ≤ cs.length := by rw [hws]; exact List.length_filter_le ..
  unfold lateW
  rw [← hws] at hG ⊢
  have hok1 : G'.ok := by rw [hG]; exact Heap.ok_ext (Heap.ok_ext hok _) _
  have b0 : G'.get (H.key 0) = some (.row true 2 [[.str f, .str t]]) := by rw [hG]; exact Heap.get_ext_old (Heap.ok_ext hok _) (get_first [_] []) _
  have hA1 : Arr G' 4 v (l.map Evn.enc) := by rw [hG]; exact (hA.ext _).ext _
  have hC1 : Arr G' 2 w (seen.map Sn.enc) := by rw [hG]; exact (hC.ext _).ext _
  obtain ⟨kw, hkw⟩ : ∃ k, k = (H.ext [.row true 2 [[.str f, .str t]]]).nx := ⟨_, rfl⟩
  have hW1 : Arr G' 5 (outV kw 5 ws.length) (ws.map Cell.enc) := by rw [hG, hkw, ← Heap.key_zero]; exact arr_outV (i := 0) rfl (List.length_map ..)
  have hL1 : ∃ L, G' = H.ext L := ⟨_, by rw [hG, Heap.ext_append]⟩
  rw [← hkw]
  clear hG hkw
  refine WW.nil ?_
  have hwlen := fun G => hW1.len G
  simp only [List.length_map] at hwlen
  simp only [go_sem, hwlen]
  obtain ⟨L1, hL1⟩ := hL1
  refine LL.sth good_EH (fun i : Nat => ws.length - i) (fun i G => (∃ L, G = G'.ext L) ∧ i ≤ ws.length ∧ ∀ j d, j < i → ws[j]? = some d → ¬ ofT seen d.key < d.floor)
    (fun i => [(.z, v), ((.o (.o .z)), w), ((.i (.o .z)), .int .i64 n), ((.o (.o (.o .z))), .ptr (H.key 0) 0), ((.o (.o (.i (.o .z)))), outV kw 5 ws.length), ((.i (.o (.i (.o .z)))), .int .i64 ws.length), ((.o (.i (.i (.o .z)))), .int .i64 i)]) ?_ 0 ⟨⟨_, rfl⟩, Nat.zero_le _, fun j d h => absurd h (Nat.not_lt_zero _)⟩ (Slots.all (by simp only [go_sem]))
  rintro i G2 ⟨⟨L, hL⟩, hi, hno⟩
  have hok2 : G2.ok := by rw [hL]; exact Heap.ok_ext hok1 _
  have hW2 : Arr G2 5 (outV kw 5 ws.length) (ws.map Cell.enc) := by rw [hL]; exact hW1.ext _
  have hC2 : Arr G2 2 w (seen.map Sn.enc) := by rw [hL]; exact hC1.ext _
  have b2 : G2.get (H.key 0) = some (.row true 2 [[.str f, .str t]]) := by rw [hL]; exact Heap.get_ext_old hok1 b0 _
  have r0 := Heap.get_ext_old hok2 b2
  have i123 := e123 hC2 hs
  by_cases hlt : i < ws.length
  · obtain ⟨kk, r, ex', cap', wr, rows, hv, hrho, hgo, hrow⟩ := hW2.at hok2 (j := i) (by rw [List.length_map]; exact hlt)
    simp only [List.length_map, List.getElem_map] at hv hrow
    have hget : ws[i]? = some ws[i] := List.getElem?_eq_getElem hlt
    generalize ws[i] = c at hrow hget
    have hw := wrap_succ (n := i) (by omega)
    have hci : (i : Int) < (ws.length : Int) := (by omega)
    have hsi : i + 1 ≤ ws.length := (by omega)
    simp only [go_sem, hv, hci, hsi, hgo, hrow, hw, Cell.enc, i123]
    refine ⟨fun g => ?_, fun g => ?_⟩
    · exact ⟨.nils, _, by rw [hL, hL1, Heap.ext_append, Heap.ext_append], by first | exact fun _ => rfl | exact fun _ => trivial | trivial, fun h => absurd ⟨c, List.mem_of_getElem? hget, g⟩ h⟩
    · refine ⟨i + 1, by show ws.length - (i + 1) < ws.length - i; omega, ⟨⟨_, by rw [hL, Heap.ext_append]⟩, hsi, fun j d hj hd => ?_⟩, Slots.all (by simp only [go_sem, hv]; first | done | exact ⟨rfl, trivial⟩ | trivial | rfl | trace_state)⟩
      rcases Nat.lt_or_ge j i with h | h
      · exact hno j d h hd
      · obtain rfl : j = i := by omega
        rw [hget] at hd; cases hd; exact g
  · have hci : ¬ (i : Int) < (ws.length : Int) := by omega
    have hno2 : ¬ ∃ c, c ∈ ws ∧ ofT seen c.key < c.floor := by
      rintro ⟨c, h1, h2⟩
      obtain ⟨j, hj⟩ := List.mem_iff_getElem?.1 h1
      exact hno j c (by have := (List.getElem?_eq_some_iff.1 hj).1; omega) hj h2
    have hA2 : Arr G2 4 v (l.map Evn.enc) := by rw [hL]; exact hA1.ext _
    have hlen := fun G => hA2.len G
    simp only [List.length_map] at hlen
    obtain ⟨L2, hL2⟩ : ∃ L, G2 = H.ext L := ⟨_, by rw [hL, hL1, Heap.ext_append]⟩
    clear hL hno hi hlt
    simp only [go_sem, hci, hlen]
    clear hci
    refine LL.sth good_EH (fun q : Nat × List Blk × Nat => l.length - q.1) (fun q G => G = G2.ext q.2.1 ∧ q.1 ≤ l.length ∧ (outI f t seen n l q.1 = [] ∨ q.2.1[q.2.2]? = some (outB 4 ((outI f t seen n l q.1).map Evn.enc))))
      (fun q => [((.o (.o .z)), w), ((.i (.o .z)), .int .i64 n), ((.o (.o (.o .z))), .ptr (H.key 0) 0), ((.o (.i (.o (.o (.o .z))))), v), ((.i (.i (.o (.o (.o .z))))), .int .i64 l.length), ((.o (.o (.i (.o (.o .z))))), .int .i64 q.1), ((.i (.i (.i .z))), outV (G2.key q.2.2) 4 (outI f t seen n l q.1).length)]) ?_ (0, [], 0) ⟨rfl, Nat.zero_le _, .inl (by unfold outI tellL; simp)⟩ (Slots.all (by simp only [go_sem, outI, tellL, List.filter_nil]; first | done | exact ⟨rfl, trivial⟩ | trivial | rfl | trace_state))
    rintro ⟨i, L, j⟩ G3 ⟨hL, hi, hon⟩
    dsimp only at hL hi hon
    have hok3 : G3.ok := by rw [hL]; exact Heap.ok_ext hok2 _
    have hA3 : Arr G3 4 v (l.map Evn.enc) := by rw [hL]; exact hA2.ext _
    have hC3 : Arr G3 2 w (seen.map Sn.enc) := by rw [hL]; exact hC2.ext _
    have b3 : G3.get (H.key 0) = some (.row true 2 [[.str f, .str t]]) := by rw [hL]; exact r0 _
    have r3 := Heap.get_ext_old hok3 b3
    have j123 := e123 hC3 hs
    have hln := outI_len f t seen n l i
    by_cases hlt : i < l.length
    · obtain ⟨kk, r, ex', cap', wr, rows, hv, hrho, hgo, hrow⟩ := hA3.at hok3 (j := i) (by rw [List.length_map]; exact hlt)
      simp only [List.length_map, List.getElem_map] at hv hrow
      have hget : l[i]? = some l[i] := List.getElem?_eq_getElem hlt
      generalize l[i] = e at hrow hget
      have hw := wrap_succ (n := i) (by omega)
      have hci : (i : Int) < (l.length : Int) := (by omega)
      have hsi : i + 1 ≤ l.length := (by omega)
      simp only [go_sem, ↓appR_hide, hv, hci, hsi, hgo, hrow, hw, Evn.enc, j123, e61, r3]
      have hs0 : ∀ l', outI f t seen n l (i + 1) = outI f t seen n l i → (outI f t seen n l (i + 1) = [] ∨ (L ++ l')[j]? = some (outB 4 ((outI f t seen n l (i + 1)).map Evn.enc))) := fun l' h => by
        rw [h]; exact hon.imp id fun g => get_left g
      refine ⟨fun g => ⟨fun g2 => ⟨fun g3 => ?_, fun g3 => ?_⟩, fun g2 => ?_⟩, fun g => ?_⟩
      · have hnew := outI_yes (n := n) hget (show tellE f t seen e from ⟨g, g2⟩) (by omega)
        have hml : (outI f t seen n l (i + 1)).length = (outI f t seen n l i).length + 1 := by rw [hnew, List.length_append]; rfl
        rw [hL, Heap.ext_append, Heap.key_ext]
        rcases hon with h0 | hj
        · rw [h0]
          have ha := appQ_nil (G := G2.ext (L ++ [.row true 4 [[.str e.key, .int .i64 e.ver, .str e.val, .bool e.del]], .row true 4 [[.str e.key, .int .i64 e.ver, .str e.val, .bool e.del]]])) (e := 4) (bytes := 48) (w := .slice (G2.key (L.length + 1)) 0 1 4 true 1) (ys := [[.str e.key, .int .i64 e.ver, .str e.val, .bool e.del]]) (by decide) (arr_row (i := L.length + 1) (get_two _ _ _).2 rfl) (by simp) (okBig_le (n := 1) (by decide) (by decide))
          rw [show outV (G2.key j) 4 ([] : List Evn).length = .nils from rfl, ha]
          simp only [go_sem, hw, Heap.key_ext]
          refine ⟨(i + 1, L ++ [rowE e, rowE e] ++ [outB 4 [[.str e.key, .int .i64 e.ver, .str e.val, .bool e.del]]], (L ++ [rowE e, rowE e]).length), by show l.length - (i + 1) < l.length - i; omega, ⟨rfl, hsi, .inr ?_⟩, Slots.all (by simp only [go_sem, hml, h0])⟩
          show (L ++ [rowE e, rowE e] ++ [outB 4 [[.str e.key, .int .i64 e.ver, .str e.val, .bool e.del]]])[(L ++ [rowE e, rowE e]).length]? = _
          rw [get_last, hnew, h0]
          rfl
        · have hb := appQ_out (H := G2) (L := L ++ [.row true 4 [[.str e.key, .int .i64 e.ver, .str e.val, .bool e.del]], .row true 4 [[.str e.key, .int .i64 e.ver, .str e.val, .bool e.del]]]) (i := j) (j := L.length + 1) (bytes := 48) (ex := true) (cap := 1) (y := [.str e.key, .int .i64 e.ver, .str e.val, .bool e.del]) (get_left hj) (List.length_map ..) (get_two _ _ _).2 (okBig_le (by omega) (by decide))
          rw [hb]
          simp only [go_sem, hw]
          refine ⟨(i + 1, (L ++ [rowE e, rowE e]).set j .dead ++ [outB 4 ((outI f t seen n l i).map Evn.enc ++ [[.str e.key, .int .i64 e.ver, .str e.val, .bool e.del]])], (L ++ [rowE e, rowE e]).length), by show l.length - (i + 1) < l.length - i; omega, ⟨rfl, hsi, .inr ?_⟩, Slots.all (by simp only [go_sem, hml])⟩
          show ((L ++ [rowE e, rowE e]).set j .dead ++ [outB 4 ((outI f t seen n l i).map Evn.enc ++ [[.str e.key, .int .i64 e.ver, .str e.val, .bool e.del]])])[(L ++ [rowE e, rowE e]).length]? = _
          rw [← List.length_set (i := j) (a := Blk.dead), get_last, hnew, List.map_append]
          rfl
      · have hsame := outI_full (n := n) hget (show ¬ (outI f t seen n l i).length < n by omega)
        exact ⟨(i + 1, L ++ [rowE e], j), by show l.length - (i + 1) < l.length - i; omega, ⟨by rw [hL, Heap.ext_append]; rfl, hsi, hs0 _ hsame⟩, Slots.all (by simp only [go_sem, hsame])⟩
      · have hsame := outI_no (f := f) (t := t) (seen := seen) (n := n) hget fun h => g2 h.2
        exact ⟨(i + 1, L ++ [rowE e], j), by show l.length - (i + 1) < l.length - i; omega, ⟨by rw [hL, Heap.ext_append]; rfl, hsi, hs0 _ hsame⟩, Slots.all (by simp only [go_sem, hsame])⟩
      · have hsame := outI_no (f := f) (t := t) (seen := seen) (n := n) hget fun h => g h.1
        exact ⟨(i + 1, L ++ [rowE e], j), by show l.length - (i + 1) < l.length - i; omega, ⟨by rw [hL, Heap.ext_append]; rfl, hsi, hs0 _ hsame⟩, Slots.all (by simp only [go_sem, hsame])⟩
    · have hci : ¬ (i : Int) < (l.length : Int) := by omega
      simp only [go_sem, hci]
      refine ⟨_, L2 ++ L, by rw [Heap.ext_nil, hL, hL2, Heap.ext_append], fun h => absurd h hno2, fun _ => ⟨rfl, ?_⟩⟩
      rw [Heap.ext_nil, hL, ← outI_all (i := i) (by omega)]
      rcases hon with h0 | hj
      · rw [h0]; exact .inl ⟨rfl, rfl⟩
      · exact arr_outV hj (List.length_map ..)
end Go.Proofs
/- Feed of a span: walked. -/

set_option linter.all false
set_option maxRecDepth 100000
namespace Go.Proofs
open Go Go.Ev
variable {H : Heap}
@[go_sem] theorem min_int' {β : Type} (k : IntKind) (a b : Int) (f : β) (c : AV → β) : mm2 false (.int k a) (.int k b) f c = c (.int k (min a b)) := by
  show bif' false (ltI a b fun z => bif' z (c (.int k b)) (c (.int k a))) (ltI b a fun z => bif' z (c (.int k b)) (c (.int k a))) = _
  rw [bif_false, ltI_eq, bif_eq]
  by_cases h : b < a
  · rw [decide_eq_true h, if_pos rfl, Int.min_eq_right (by omega)]
  · rw [decide_eq_false h, if_neg (by decide), Int.min_eq_left (by omega)]
end Go.Proofs
/- numbers of an answer: walked. -/


set_option linter.all false
set_option maxRecDepth 100000
namespace Go.Proofs
open Go Go.Ev
variable {H : Heap}
@[go_sem] theorem sz3 : ∀ h, (Tryz.prog.types[3]'h).size = 1 := by intro h; kernel_rfl
@[go_sem] theorem sz44 : ∀ h, (Tryz.prog.types[48]'h).size = 24 := by intro h; kernel_rfl
attribute [go_sem] cpyF
/-- a letter of numbers behind the first one -/
def numL (a b c : Int) : List AV := [.int .i64 0, .int .i64 0, .int .i64 0, .int .i64 0, .int .i64 a, .int .i64 b, .int .i64 c, .int .i64 0, .int .i64 0, .str [], .str [], .str [], .int .i64 0, .nils, .int .i64 0, .str [], .int .i64 0, .nils, .str [], .str [], .nils, .nils, .nils, .str []]
theorem f86_two (a b : Int) {k : K} {ex : Bool} {cap : Nat} (hk : H.get k = some (.row true 1 [[.int .i64 a], [.int .i64 b]])) : FnOk Tryz.prog 86 [.slice k 0 2 1 ex cap] H fun r G => r = .agg (numL a b 0) ∧ G = H := by
  refine FnOk.assume fun hok => ?_
  have hk' := fun L => Heap.get_ext_old hok hk L
  refine FnOk.drop (R := fun r => r = .agg (numL a b 0)) ?_ (by rintro v rfl ρ; simp only [numL, AV.ren, AV.rens])
  refine FnOk.of_WW Tryz.func86 rfl C86ok R86ok E0 good_E0 ?_
  simp only [go_sem, C86, hk', List.flatten_cons, List.flatten_nil, List.append_nil, List.length_cons, List.length_nil]
  refine ⟨fun h => absurd h (by decide), fun _ => ?_⟩
  have hm : Nat.min 2 4 = 2 := rfl
  have hr : ∀ {β : Type} (f : β) (x y : AV) (c : List AV → β), readC f 1 [[x], [y]] 0 2 c = c [x, y] := fun _ _ _ _ => rfl
  simp only [go_sem, hm, hr, List.flatten_cons, List.flatten_nil, List.append_nil, List.length_cons, List.length_nil, List.cons_append, List.nil_append]
  exact ⟨rfl, _, rfl⟩
end Go.Proofs
/- The laid-out code of the functions that are walked. -/

set_option linter.all false
set_option maxRecDepth 100000
namespace Go.Proofs
open Go Go.Ev K
end Go.Proofs
/- Sync of a node: walked. -/


set_option linter.all false
set_option maxRecDepth 100000
namespace Go.Proofs
open Go Go.Ev
section
variable {G : Heap} {kn kd kj kh : K}
theorem isHd.set8 {lv gv : AV} {k : K} {hs : List Sh} {gs : List Gn} (h : isHd G k lv gv hs gs) {j : K} {c : Blk} (hj : G.get j = some c) (hc : Foreign c) (hne : j ≠ k) (b : Blk) : isHd (G.set j b) k lv gv hs gs :=
  h.kp (ks := [j]) ⟨fun i d hi hd => by rw [Heap.get_set, if_neg (by rintro rfl; simp at hi)]; exact hd, Nat.le_refl _⟩ (Heap.ok_set h.ok hj) fun i hi => by
    rw [List.mem_singleton.1 hi]
    exact ⟨hne, fun b hb => by rw [hj] at hb; cases hb; exact hc⟩
theorem f10_ok {x5 x6 x7 : AV} {bs : List Nat} {n m : Nat} {ws : List (List AV)} {s : Sh} (h : isNd G kn kd kj kh bs n m ws x5 x6 x7 s) : FnOk Tryz.prog 10 [.ptr kn 0] G fun r G' => isWt G' r ws ∧ isNd G' kn kd kj kh bs 0 m [] x5 x6 x7 s ∧ Kp [kn, kd] G G' := by
  obtain ⟨wv, hn, hw⟩ := h.row
  obtain ⟨lv, hh⟩ := h.hold
  refine FnOk.of_WW Tryz.func10 rfl C10ok R10ok E0 good_E0 ?_
  have hn' := fun L => Heap.get_ext_old h.ok hn L
  simp only [go_sem, C10, hn']
  refine CL.of (f26_ok (Heap.get_ext_old h.ok h.jour _) (Heap.get_ext_old h.ok h.disk _)) ?_
  rintro _ D ⟨rfl, hD⟩
  rw [Heap.set_ext_old _ _ _ _ (h.ok _ _ h.disk)] at hD
  rw [Heap.ext_nil] at hD
  have nkn : kd ≠ kn := by have := h.disk; rintro rfl; rw [hn] at this; cases this
  have nkj : kd ≠ kj := by have := h.disk; rintro rfl; rw [h.jour] at this; cases this
  have nkh : kd ≠ kh := by have := h.disk; rintro rfl; rw [hh.row] at this; cases this
  have njn : kn ≠ kj := by rintro rfl; rw [h.jour] at hn; cases hn
  have nhn : kn ≠ kh := by rintro rfl; rw [hh.row] at hn; cases hn
  have dok : D.ok := by rw [hD]; exact Heap.ok_set h.ok h.disk
  have dn : D.get kn = some (.row true 8 [[.int .i64 0, .ptr kd 0, .ptr kj 0, .ptr kh 0, wv, x5, x6, x7]]) := by rw [hD, Heap.get_set, if_neg nkn]; exact hn
  have dd : D.get kd = some (.row true 2 [[.str bs, .int .i64 0]]) := by rw [hD, Heap.get_set, if_pos rfl]
  have dj : D.get kj = some (.row true 2 [[.ptr kd 0, .int .i64 m]]) := by rw [hD, Heap.get_set, if_neg nkj]; exact h.jour
  have dh : isHd D kh lv .nils [s] [] := by rw [hD]; exact hh.set2 h.disk (by simp) nkh _
  have dw : isWt D wv ws := by
    rcases hw with e | ⟨kw, a1, a2, a3⟩
    · exact .inl e
    · refine .inr ⟨kw, a1, a2, ?_⟩
      rw [hD, Heap.get_set, if_neg ?_]
      · exact a3
      · rintro rfl; rw [h.disk] at a3; cases a3
  have kpD : ∀ b, Kp [kn, kd] G (D.set kn b) := fun b => ⟨fun j c hj hc => by rw [Heap.get_set, if_neg (by rintro rfl; simp at hj), hD, Heap.get_set, if_neg (by rintro rfl; simp at hj)]; exact hc, by rw [Heap.nx_set, hD, Heap.nx_set]; exact Nat.le_refl _⟩
  clear hD
  have dn' := fun L => Heap.get_ext_old dok dn L
  have s1 := fun b (l : List Blk) (α : Type) (c' : Heap → α) => Heap.setC_here dok dn b l c'
  have s0 : ∀ b (α : Type) (c' : Heap → α), D.setC kn b c' = c' (D.set kn b) := fun b α c' => by
    have := Heap.setC_here dok dn b [] c'
    rwa [Heap.ext_nil, Heap.ext_nil] at this
  refine WW.nil ?_
  simp only [go_sem, dn, s0, Heap.ext_nil]
  have en : ∀ b, (D.set kn b).get kn = some b := fun b => by rw [Heap.get_set, if_pos rfl]
  refine ⟨?_, ⟨Heap.ok_set dok dn, ⟨.nils, en _, .inl ⟨rfl, rfl⟩⟩, ?_, ?_, ⟨lv, dh.set8 dn foreign_node nhn _⟩⟩, kpD _⟩
  · rcases dw with e | ⟨kw, a1, a2, a3⟩
    · exact .inl e
    · refine .inr ⟨kw, a1, a2, ?_⟩
      rw [Heap.get_set, if_neg ?_]
      · exact a3
      · rintro rfl; rw [dn] at a3; cases a3
  · rw [Heap.get_set, if_neg nkn.symm]; exact dd
  · rw [Heap.get_set, if_neg njn]; exact dj
end
end Go.Proofs
/- A node polled: walked. -/



set_option linter.all false
set_option maxRecDepth 100000
namespace Go.Proofs
open Go Go.Ev
section
variable {G : Heap} {kn kd kj kh : K}
theorem isNd.says {G X : Heap} {x5 x6 x7 wv : AV} {bs : List Nat} {n m : Nat} {ws ws' : List (List AV)} {s : Sh} (h : isNd G kn kd kj kh bs n m ws x5 x6 x7 s) (hn : G.get kn = some (.row true 8 [[.int .i64 0, .ptr kd 0, .ptr kj 0, .ptr kh 0, wv, x5, x6, x7]])) (hw : isWt G wv ws)
    (h1 : ∃ wv', X.get kn = some (.row true 8 [[.int .i64 0, .ptr kd 0, .ptr kj 0, .ptr kh 0, wv', x5, x6, x7]]) ∧ isWt X wv' ws') (h3 : X.ok) (h4 : Kp (kn :: wk wv) G X) : isNd X kn kd kj kh bs n m ws' x5 x6 x7 s := by
  obtain ⟨lv, hh⟩ := h.hold
  have hnw : ∀ {j x}, G.get j = some (.row true 2 [x]) → j ∉ kn :: wk wv := fun {j x} hb hm => by
    rcases List.mem_cons.1 hm with rfl | hm
    · rw [hn] at hb; cases hb
    · rcases hw with ⟨_, rfl⟩ | ⟨kw, a1, rfl, a3⟩
      · cases hm
      · cases ws with
        | nil => cases hm
        | cons w ws =>
          rw [List.mem_singleton.1 hm, a3] at hb; cases hb
  refine ⟨h3, h1, h4.keep _ _ (hnw h.disk) h.disk, h4.keep _ _ (hnw h.jour) h.jour, lv, hh.kp h4 h3 fun j hm => ?_⟩
  refine ⟨fun e => hnw hh.row (e ▸ hm), fun b hb => ?_⟩
  rcases List.mem_cons.1 hm with rfl | hm
  · rw [hn] at hb; cases hb; exact foreign_node
  · rcases hw with ⟨_, rfl⟩ | ⟨kw, a1, rfl, a3⟩
    · cases hm
    · cases ws with
      | nil => cases hm
      | cons w ws =>
        rw [List.mem_singleton.1 hm, a3] at hb; cases hb; exact foreign_wide (by decide)
end
end Go.Proofs
/- Spans polled: reckoned. -/

set_option linter.all false
set_option maxRecDepth 100000
namespace Go.Proofs
open Go Go.Ev
variable {H : Heap}
end Go.Proofs
/- NodeWaits: a get, a poll, a plan taken by a node: walked. -/



set_option linter.all false
set_option maxRecDepth 100000
namespace Go.Proofs
open Go Go.Ev
section
variable {G : Heap} {kn kd kj kh : K} {s : Sh} {ses id : Nat} {key : List Nat} {x5 x6 x7 : AV} {bs : List Nat} {n m : Nat} {ws : List (List AV)}
theorem f83_get (k : List Nat) {H : Heap} : FnOk Tryz.prog 83 [.agg [.int .i64 1, .str k, .str [], .str [], .int .i64 0, .nils]] H fun r G => r = .bool false ∧ G = H := by
  refine FnOk.drop (R := fun r => r = .bool false) ?_ (by rintro v rfl ρ; simp only [AV.ren])
  refine FnOk.of_WW Tryz.func83 rfl C83ok R83ok E0 good_E0 ?_
  simp only [go_sem, C83]
  first | done | exact ⟨_, rfl⟩ | exact ⟨rfl, _, rfl⟩ | trace_state
theorem f82_get {H : Heap} {s : Sh} (h : s.ok H) (hdl : s.done.length < 9000) (hup : upD s.done) (hrw : ∀ d ∈ s.done, d.an.rows = []) {k : List Nat} (hk : isKey k) {ses id : Int} (hn : (stands s.done ses id).2 = 0) :
    FnOk Tryz.prog 82 [.agg s.enc, .int .i64 ses, .int .i64 id, .agg [.int .i64 1, .str k, .str [], .str [], .int .i64 0, .nils]] H fun r G => r = .tup [.agg s.enc, .agg (getA (getL s.cells k).1), .int .i64 0] ∧ ∃ L, G = H.ext L := by
  refine FnOk.of_WW Tryz.func82 rfl C82ok R82ok E0 good_E0 ?_
  obtain ⟨x0, x1, x2, x3, hx⟩ : ∃ x0 x1 x2 x3, getA (getL s.cells k).1 = [x0, x1, x2, x3] := by unfold getA; split <;> exact ⟨_, _, _, _, rfl⟩
  simp only [go_sem, C82, Sh.enc]
  refine CL.of (f147_ok (h.d.ext _) (h.dok.ext _) (by omega) hup (rows_le hrw) ses id) ?_
  rintro _ _ ⟨z, rfl, rfl⟩
  have hrr := stands_rows hrw ses id
  have hg := fun L => f148_get (h.ext L) hk
  rw [hx] at hg ⊢
  cases z
  all_goals
    simp only [go_sem, ansV, hn, hrr, zV, zB]
    refine CL.of (hg _) ?_
    rintro _ _ ⟨rfl, rfl⟩
    simp only [go_sem, Sh.enc]
    refine CL.of (f83_get k) ?_
    rintro _ _ ⟨rfl, rfl⟩
    simp only [go_sem, Sh.enc]
    first | done | exact ⟨rfl, _, rfl⟩ | exact ⟨_, rfl⟩ | trace_state
theorem f28_get {N : Nat} {P : Int → Int → Prop} {s0 : Sh} (h : isNd G kn kd kj kh bs n m ws x5 x6 x7 s) (hR : Rel s s0) (hG : Gd N P s0) (hN9 : N < 900) (hk : isKey key) (hse : ses < 3) (hid : 1 ≤ id) (hn : ∀ a b : Int, P a b → a = ses → b < id) (hN : ws.length < 100000) :
    FnOk Tryz.prog 28 [.ptr kn 0, .agg (letL ses id (opL 1 key [] [] 0 .nils))] G fun r G' => r = .tup [] ∧ isNd G' kn kd kj kh bs n m (ws ++ [saidL ses id (getA (getL s0.cells key).1)]) x5 x6 x7 s ∧ KO G G' := by
  obtain ⟨wts, hn0, hw0⟩ := h.row
  obtain ⟨lv, hh⟩ := h.hold
  have fk1 : FnOk Tryz.prog 80 [.agg (opL 1 key [] [] 0 .nils)] (G.ext [.row true 24 [letL ses id (opL 1 key [] [] 0 .nils)], .row true 8 [zS]]) _ := f80_ok (kd := 1) (by decide) key (.str []) (.str []) (.int .i64 0) .nils
  obtain ⟨E, hE, e1, e2⟩ := two_calls (P := Tryz.prog) (f := 80) (g := 79) (by decide) fk1 (f79_yes (hh.ext [.row true 24 [letL ses id (opL 1 key [] [] 0 .nils)], .row true 8 [zS]]) key (i := 0) (idx_one (hR.find (hG.find hk))) rfl)
  simp only [letL, opL, List.cons_append, List.nil_append, zS, Heap.key_ext, List.length_cons, List.length_nil, Nat.zero_add, Nat.reduceAdd] at e1 e2
  refine FnOk.of_WW Tryz.func28 rfl C28ok R28ok E hE ?_
  have hn' := fun L => Heap.get_ext_old h.ok hn0 L
  have hz : IntKind.i64.wrap (200 + (ses : Int) - 200) = (ses : Int) := by rw [wrap_i64 (by omega) (by omega)]; omega
  have z0 : ((ses : Int) < 0) = False := eq_false (by omega)
  have z1 : ((id : Int) < 1) = False := eq_false (by omega)
  simp only [go_sem, C28, letL, opL, List.cons_append, List.nil_append, hn', hz, z0, z1, e1, e2, Sh.cop, Sh.enc, copB, Heap.key_ext]
  have hso := hh.each s (by simp)
  obtain ⟨h1, h2, h3, h4, h5, h6, h7, h8⟩ := hR.1
  have hdl := hG.dl
  have hget : ∀ L : List Blk, L[2]? = some (zB (nilB s.cv) 5 (s.cells.map Cell.enc)) → L[3]? = some (zB (nilB s.ev) 4 (s.evs.map Evn.enc)) → L[4]? = some (zB (nilB s.dv) 6 (s.done.map Dn.enc)) → _ := fun L g1 g2 g3 => f82_get (s := s.cop (G.key 2) (G.key 3) (G.key 4)) (Sh.cop_ok (L := L) hso g1 g2 g3) (by show s.done.length < 9000; rw [h8]; omega) (by show upD s.done; rw [h8]; exact hG.up) (fun d hd => (hG.done d (by have hd : d ∈ s.done := hd; rwa [h8] at hd)).2.2.1) hk (ses := (ses : Int)) (id := (id : Int)) (stands_new fun d hd e => hn _ _ (hG.done d (by have hd : d ∈ s.done := hd; rwa [h8] at hd)).2.2.2 e)
  simp only [Sh.cop, Sh.enc] at hget
  rw [← h6]
  obtain ⟨y0, y1, y2, y3, hx⟩ : ∃ x0 x1 x2 x3, getA (getL s.cells key).1 = [x0, x1, x2, x3] := by unfold getA; split <;> exact ⟨_, _, _, _, rfl⟩
  rw [hx] at hget ⊢
  refine CL.of (hget _ rfl rfl rfl) ?_
  rintro _ G' ⟨rfl, L, hG'⟩
  obtain ⟨M, hM⟩ : ∃ M, M = G' := ⟨_, rfl⟩
  rw [← hM] at hG' ⊢
  clear hM
  have hMok : M.ok := by rw [hG']; exact Heap.ok_ext (Heap.ok_ext h.ok _) _
  have e0 := get_of_ext hG' (i := 0) rfl
  have g0 := fun L => Heap.get_ext_old hMok e0 L
  have hNd : isNd M kn kd kj kh bs n m ws x5 x6 x7 s := by rw [hG']; exact (h.ext _).ext _
  have hMn : M.get kn = some (.row true 8 [[.int .i64 0, .ptr kd 0, .ptr kj 0, .ptr kh 0, wts, x5, x6, x7]]) := by rw [hG', Heap.ext_append]; exact Heap.get_ext_old h.ok hn0 _
  have hMw : isWt M wts ws := by rw [hG']; exact (hw0.ext h.ok _).ext (Heap.ok_ext h.ok _) _
  have gn := fun L => Heap.get_ext_old hMok hMn L
  refine WW.nil ?_
  simp only [go_sem, Sh.enc, g0, gn]
  refine CL.of (f83_get key) ?_
  rintro _ G' ⟨rfl, hG⟩; rw [hG]; clear hG
  simp only [go_sem, g0, gn]
  refine CL.of (f81_none (Heap.ok_ext hMok _) (gn _) (hMw.ext hMok _) hN (200 + (ses : Int)) id _ _ _ _ _ _ _ _ _ _ _ _ _ _ _ _ _ _ _ _ _ _ _ _ _ _) ?_
  rintro _ G' ⟨rfl, h1, h3, h4⟩
  simp only [go_sem]
  refine ⟨(hNd.ext _).says (gn _) (hMw.ext hMok _) h1 h3 h4, fun j b hb ho => KO.wt (gn _) (hMw.ext hMok _) h4 j b (Heap.get_ext_old hMok (by rw [hG', Heap.ext_append]; exact Heap.get_ext_old h.ok hb _) _) ho⟩
theorem f7_get {N : Nat} {P : Int → Int → Prop} {s0 : Sh} (h : isNd G kn kd kj kh bs n m ws x5 x6 x7 s) (hR : Rel s s0) (hG : Gd N P s0) (hN9 : N < 900) (hk : isKey key) (hse : ses < 3) (hid : 1 ≤ id) (hn : ∀ a b : Int, P a b → a = ses → b < id) (hN : ws.length < 100000)
    (hL : ∀ J : Heap, FnOk Tryz.prog 27 [.agg (letL ses id (opL 1 key [] [] 0 .nils))] J fun r J' => r = .bool true ∧ J' = J) :
    FnOk Tryz.prog 7 [.ptr kn 0, .agg (letL ses id (opL 1 key [] [] 0 .nils))] G fun r G' => r = .tup [] ∧ isNd G' kn kd kj kh bs n m (ws ++ [saidL ses id (getA (getL s0.cells key).1)]) x5 x6 x7 s ∧ KO G G' := by
  obtain ⟨wts, hn0, hw0⟩ := h.row
  obtain ⟨E, hE, he⟩ := one_call (hL (G.ext [.row true 24 [letL ses id (opL 1 key [] [] 0 .nils)]]))
  simp only [letL, opL, List.cons_append, List.nil_append] at he
  refine FnOk.of_WW Tryz.func7 rfl C7ok R7ok E hE ?_
  have hn' := fun L => Heap.get_ext_old h.ok hn0 L
  simp only [go_sem, C7, letL, opL, List.cons_append, List.nil_append, hn', he]
  refine CL.of (clone_nil clo40) ?_
  rintro _ G' ⟨rfl, hG⟩; rw [hG]; clear hG
  simp only [go_sem]
  have e31 := fun L => f28_get (h.ext L) hR hG hN9 hk hse hid hn hN
  simp only [letL, opL, List.cons_append, List.nil_append] at e31
  refine CL.of (e31 _) ?_
  rintro _ G' ⟨rfl, hp, hp2⟩
  simp only [go_sem]
  exact ⟨hp, (KO.ext h.ok _).trans hp2⟩
end
end Go.Proofs
/- NodeWaits: a poll of all, a plan taken by a node: walked. -/

set_option linter.all false
set_option maxRecDepth 100000
namespace Go.Proofs
open Go Go.Ev
section
variable {H G : Heap} {kn kd kj kh : K} {s : Sh} {x5 x6 x7 : AV} {bs : List Nat} {n m : Nat} {ws : List (List AV)}
/-- a poll of all -/
def pollW : List AV := [.int .i64 3, .int .i64 200, .int .i64 0, .int .i64 0, .int .i64 8, .int .i64 0, .int .i64 0, .int .i64 0, .int .i64 0, .str [], .str [], .str [], .int .i64 0, .nils, .int .i64 0, .str [], .int .i64 0, .nils, .str [], .str [], .nils, .nils, .nils, .str []]
/-- what is said to it -/
def fedW (g : Int) (x : AV) : List AV := [.int .i64 4, .int .i64 0, .int .i64 200, .int .i64 0, .int .i64 0, .int .i64 0, .int .i64 g, .int .i64 0, .int .i64 0, .str [], .str [], .str [], .int .i64 0, .nils, .int .i64 0, .str [], .int .i64 0, .nils, .str [], .str [], .nils, x, .nils, .str []]
theorem pollW_run : isR (EK 27 [.agg pollW] hp0) (.bool true) = true := by kernel_rfl
theorem is_pollW : FnOk Tryz.prog 27 [.agg pollW] H fun r G => r = .bool true ∧ G = H := FnOk.of_ev1 good_XL rfl rfl pollW_run
theorem run87_all : isR (EK 88 [.agg [.str [], .str []], .agg [.str [], .str []]] hp0) (.bool true) = true := by kernel_rfl
theorem f88_all : FnOk Tryz.prog 88 [.agg [.str [], .str []], .agg [.str [], .str []]] H fun r G => r = .bool true ∧ G = H := FnOk.of_ev1 good_XL rfl rfl run87_all
theorem meet_all : okMeet [] [] [] [] := by
  first | decide | (unfold okMeet; simp [k_span]; done) | (unfold okMeet; refine ⟨k_span, k_span, ?_⟩; decide) | trace_state
/-- a feed, whatever comes of it -/
theorem f87_any {s : Sh} (h : s.ok H) {f t : List Nat} (hel : s.evs.length < 100000) (hcl : s.cells.length < 100000) {w : AV} {seen : List Sn} (hC : Arr H 2 w (seen.map Sn.enc)) (hs : seen.length < 9223372036854775807) (n : Int) (hok2 : okMeet s.fr s.to f t) :
    FnOk Tryz.prog 87 [.agg s.enc, .agg [.str f, .str t], w, .int .i64 n] H fun r G => ∃ x b L, G = H.ext L ∧ r = .tup [x, .bool b] ∧ ∃ xs : List Evn, Arr G 4 x (xs.map Evn.enc) := by
  refine FnOk.assume fun hok => ?_
  refine FnOk.of_WW Tryz.func87 rfl C87ok R87ok E0 good_E0 ?_
  obtain ⟨m, hm, hm8⟩ : ∃ m : Nat, min (max n 0) 8 = (m : Int) ∧ m < 100000 := ⟨(min (max n 0) 8).toNat, by omega, by omega⟩
  simp only [go_sem, C87, Sh.enc]
  refine CL.of (f89_ok s.fr s.to f t) ?_
  rintro _ _ ⟨rfl, rfl⟩
  unfold meetV
  rw [if_pos hok2]
  simp only [go_sem, hm]
  refine CL.of (f151_ok (h.e.ext _) (h.c.ext _) (hC.ext _) hel hcl hs _ _ m hm8) ?_
  rintro r G ⟨x, L, hG, h1, h2⟩
  by_cases hl : lateW (maxS s.fr f) (lowS s.to t) seen s.cells
  · rw [h1 hl, hG, Heap.ext_append]
    simp only [go_sem]
    exact ⟨_, _, _, rfl, rfl, [], .inl ⟨rfl, rfl⟩⟩
  · obtain ⟨rfl, h3⟩ := h2 hl
    rw [hG] at h3 ⊢
    rw [Heap.ext_append] at h3 ⊢
    simp only [go_sem]
    exact ⟨_, _, _, rfl, rfl, _, h3⟩
theorem f29_all (h : isNd G kn kd kj kh bs n m ws x5 x6 x7 s) (hfr : s.fr = []) (hto : s.to = []) (hq : atQ [] s = true) (hN : ws.length < 100000) (hel : s.evs.length < 100000) (hcl : s.cells.length < 100000) :
    FnOk Tryz.prog 29 [.ptr kn 0, .agg pollW] G fun r G' => r = .tup [] ∧ (∃ g x, isNd G' kn kd kj kh bs n m (ws ++ [fedW g x]) x5 x6 x7 s) ∧ KO G G' := by
  obtain ⟨wv, hn, hw⟩ := h.row
  obtain ⟨lv, hh⟩ := h.hold
  have hso := hh.each s (List.mem_singleton_self _)
  obtain ⟨L0, hL0⟩ : ∃ L0, L0 = [Blk.row true 24 [pollW], .row true 8 [zS]] := ⟨_, rfl⟩
  obtain ⟨E, hE, e1⟩ := one_call (f84_yes (hh.ext L0) [] (i := 0) (idx_one hq) rfl)
  rw [hL0] at e1
  simp only [pollW, zS, Heap.key_ext, List.length_cons, List.length_nil, Nat.zero_add, Nat.reduceAdd] at e1
  refine FnOk.of_WW Tryz.func29 rfl C29ok R29ok E hE ?_
  have hn' := fun L => Heap.get_ext_old h.ok hn L
  simp only [go_sem, C29, pollW, hn', e1, Sh.cop, Sh.enc, copB, Heap.key_ext]
  refine CL.of (f86_two 0 0 (get_lit (i := 5) rfl)) ?_
  rintro _ G' ⟨rfl, hG⟩; rw [hG]; clear hG
  simp only [go_sem, numL]
  refine CL.of (f87_any (s := s.cop (G.key 2) (G.key 3) (G.key 4)) (f := []) (t := []) (seen := []) (Sh.cop_ok hso rfl rfl rfl) hel hcl (.inl ⟨rfl, rfl⟩) (by decide) 8 (by show okMeet s.fr s.to [] []; rw [hfr, hto]; exact meet_all)) ?_
  rintro _ G' ⟨x, gone, L, hG, rfl, xs, hx⟩
  have hM := hG
  obtain ⟨M, hMe⟩ : ∃ M, M = G' := ⟨_, rfl⟩
  rw [← hMe] at hM hx ⊢
  clear hG hMe
  have hMok : M.ok := by rw [hM]; exact Heap.ok_ext (Heap.ok_ext h.ok _) _
  have m0 := get_of_ext hM (i := 0) rfl
  have m1 := get_of_ext hM (i := 1) rfl
  have m6 := get_of_ext hM (i := 6) rfl
  have kne : ∀ {i j : Nat}, i ≠ j → G.key i ≠ G.key j := fun {i j} hij e => by
    have := congrArg K.toNat e
    rw [Heap.toNat_key, Heap.toNat_key] at this
    omega
  have hMn : M.get kn = some (.row true 8 [[.int .i64 0, .ptr kd 0, .ptr kj 0, .ptr kh 0, wv, x5, x6, x7]]) := by rw [hM, Heap.ext_append]; exact Heap.get_ext_old h.ok hn _
  have g0 := fun L => Heap.get_ext_old hMok m0 L
  have g1 := fun L => Heap.get_ext_old hMok m1 L
  have g6 := fun L => Heap.get_ext_old hMok m6 L
  have s6 := fun b (l : List Blk) (α : Type) (c' : Heap → α) => Heap.setC_here hMok m6 b l c'
  have s62 := fun b d (l : List Blk) (α : Type) (c' : Heap → α) => Heap.setC_set_here hMok m6 b d l c'
  have k6 := fun b (l : List Blk) => Heap.get_set_here hMok m6 b l
  have k0 := fun b (l : List Blk) => Heap.get_set_there hMok m0 (kne (i := 6) (j := 0) (by decide)) b l
  have k1 := fun b (l : List Blk) => Heap.get_set_there hMok m1 (kne (i := 6) (j := 1) (by decide)) b l
  have hag : ∀ {β : Type} (f : β) (c : List AV → β), asAggC x f c = f := by
    intro β f c
    rcases hx.forms with ⟨rfl, _⟩ | ⟨k, off, ex, cap, rfl, _⟩ <;> rfl
  have hone : x.one = true := by
    rcases hx.forms with ⟨rfl, _⟩ | ⟨k, off, ex, cap, rfl, _⟩ <;> rfl
  have kY : ∀ b l, isNd ((M.set (G.key 6) b).ext l) kn kd kj kh bs n m ws x5 x6 x7 s := fun b l => by
    obtain ⟨M2, e⟩ := set_of_ext hM (i := 6) (Nat.lt_of_sub_eq_succ rfl) b l
    rw [e]; exact h.ext M2
  have nY : ∀ b l, ((M.set (G.key 6) b).ext l).get kn = some (.row true 8 [[.int .i64 0, .ptr kd 0, .ptr kj 0, .ptr kh 0, wv, x5, x6, x7]]) := fun b l => Heap.get_set_there hMok hMn (ne_key h.ok hn 6).symm b l
  have wY : ∀ b l, isWt ((M.set (G.key 6) b).ext l) wv ws := fun b l => by
    obtain ⟨M2, e⟩ := set_of_ext hM (i := 6) (Nat.lt_of_sub_eq_succ rfl) b l
    rw [e]; exact hw.ext h.ok M2
  refine WW.nil ?_
  cases gone
  all_goals
    simp only [go_sem, g0, g1, g6, s6, s62, k6, k0, k1, hag, hone, bif_true, hfr, hto]
    refine CL.of f88_all ?_
    rintro _ G' ⟨rfl, hG⟩; rw [hG]; clear hG
    simp only [go_sem, g0, g1, g6, s6, s62, k6, k0, k1, hfr, hto]
    refine CL.of (f89_ok [] [] [] []) ?_
    rintro _ G' ⟨rfl, hG⟩; rw [hG]; clear hG
    unfold meetV
    rw [if_pos meet_all]
    simp only [go_sem, g0, g1, g6, s6, s62, k6, k0, k1]
    refine CL.of (f85_ok (kY _ _).ok (nY _ _) (wY _ _) hN 200 0 _ _ _ _ _ _ _ _ _ _ _ _ _ _ _ _ _ _ _ _ _ _ _ _ _ _ _ _ _ _ _ _ _ _ _ _ _ _ _ _ _ _ _ _ _ _) ?_
    rintro _ G' ⟨rfl, h1, h3, h4⟩
    simp only [go_sem]
    exact ⟨⟨_, x, (kY _ _).says (nY _ _) (wY _ _) h1 h3 h4⟩, fun j b hb ho => KO.wt (nY _ _) (wY _ _) h4 j b (Heap.get_set_there hMok (by rw [hM, Heap.ext_append]; exact Heap.get_ext_old h.ok hb _) (ne_key h.ok hb 6).symm _ _) ho⟩
theorem f7_all (h : isNd G kn kd kj kh bs n m ws x5 x6 x7 s) (hfr : s.fr = []) (hto : s.to = []) (hq : atQ [] s = true) (hN : ws.length < 100000) (hel : s.evs.length < 100000) (hcl : s.cells.length < 100000) :
    FnOk Tryz.prog 7 [.ptr kn 0, .agg pollW] G fun r G' => r = .tup [] ∧ (∃ g x, isNd G' kn kd kj kh bs n m (ws ++ [fedW g x]) x5 x6 x7 s) ∧ KO G G' := by
  obtain ⟨wts, hn0, hw0⟩ := h.row
  obtain ⟨E, hE, he⟩ := one_call (is_pollW (H := G.ext [.row true 24 [pollW]]))
  simp only [pollW] at he
  refine FnOk.of_WW Tryz.func7 rfl C7ok R7ok E hE ?_
  have hn' := fun L => Heap.get_ext_old h.ok hn0 L
  simp only [go_sem, C7, pollW, hn', he]
  refine CL.of (clone_nil clo40) ?_
  rintro _ G' ⟨rfl, hG⟩; rw [hG]; clear hG
  simp only [go_sem]
  have e32 := fun L => f29_all (h.ext L) hfr hto hq hN hel hcl
  simp only [pollW] at e32
  refine CL.of (e32 _) ?_
  rintro _ G' ⟨rfl, hp, hp2⟩
  simp only [go_sem]
  exact ⟨hp, (KO.ext h.ok _).trans hp2⟩
theorem fn_neq0 {β : Type} (f : β) (c : AV → β) : binV Tryz.prog EK.func none true BinOp.neq .nilf .nilf f c = c (.bool false) := rfl
/-- a plan is nothing to a node -/
def planW : List AV := [.int .i64 6, .int .i64 100, .int .i64 0, .int .i64 0, .int .i64 0, .int .i64 0, .int .i64 0, .int .i64 0, .int .i64 0, .str [], .str [], .str [], .int .i64 0, .nils, .int .i64 0, .str [], .int .i64 0, .nils, .str [], .str [], .nils, .nils, .nils, .str []]
theorem planW_run : isR (EK 27 [.agg planW] hp0) (.bool true) = true := by kernel_rfl
theorem is_planW : FnOk Tryz.prog 27 [.agg planW] H fun r G => r = .bool true ∧ G = H := FnOk.of_ev1 good_XL rfl rfl planW_run
theorem f7_plan (h : isNd G kn kd kj kh bs n m ws x5 x6 x7 s) : FnOk Tryz.prog 7 [.ptr kn 0, .agg planW] G fun r G' => r = .tup [] ∧ isNd G' kn kd kj kh bs n m ws x5 x6 x7 s ∧ KO G G' := by
  obtain ⟨wts, hn0, hw0⟩ := h.row
  obtain ⟨E, hE, he⟩ := one_call (is_planW (H := G.ext [.row true 24 [planW]]))
  simp only [planW] at he
  refine FnOk.of_WW Tryz.func7 rfl C7ok R7ok E hE ?_
  have hn' := fun L => Heap.get_ext_old h.ok hn0 L
  simp only [go_sem, C7, planW, hn', he, fn_neq0]
  first | done | exact ⟨h.ext _, KO.ext h.ok _⟩ | trace_state
end
end Go.Proofs
/- NodeWaits: its steps. -/

set_option linter.all false
set_option maxRecDepth 100000
namespace Go.Proofs
open Go Go.Ev
/-- how many answers so many letters have -/
def cntW (ks : List Nat) (q : Nat) : Nat := ((ks.take q).filter fun k => k % 4 != 3).length
theorem cntW_succ {ks : List Nat} {q k : Nat} (h : ks[q]? = some k) : cntW ks (q + 1) = if k % 4 = 3 then cntW ks q else cntW ks q + 1 := by
  unfold cntW
  rw [List.take_add_one, h, List.filter_append, List.length_append]
  by_cases hk : k % 4 = 3
  · simp [hk]
  · simp [hk]
theorem cntW_le (ks : List Nat) (q : Nat) : cntW ks q ≤ q := by
  unfold cntW
  refine Nat.le_trans (List.length_filter_le _ _) ?_
  rw [List.length_take]; omega
/-- the answer of a letter -/
def ansW (k q : Nat) (l : List AV) : Prop := (k % 4 < 2 ∧ ∃ c0 c1 c2 c3, l = saidL 0 (q + 1) [c0, c1, c2, c3]) ∨ (k % 4 = 2 ∧ ∃ g x, l = fedW g x)
/-- all answers -/
def allW (ks : List Nat) (i : Nat) (ws : List (List AV)) : Prop := ws.length = cntW ks i ∧ ∀ q, q < i → ∀ k, ks[q]? = some k → k % 4 ≠ 3 → ∃ l, ws[cntW ks q]? = some l ∧ ansW k q l
theorem allW.more {ks : List Nat} {i k : Nat} {ws : List (List AV)} {l : List AV} (h : allW ks i ws) (hk : ks[i]? = some k) (h3 : k % 4 ≠ 3) (hl : ansW k i l) : allW ks (i + 1) (ws ++ [l]) := by
  obtain ⟨h1, h2⟩ := h
  refine ⟨by rw [List.length_append, cntW_succ hk, if_neg h3, h1]; rfl, fun q hq c hc hc3 => ?_⟩
  by_cases e : q = i
  · subst e
    rw [hk] at hc; cases hc
    exact ⟨l, by rw [← h1, List.getElem?_append_right (Nat.le_refl _), Nat.sub_self]; rfl, hl⟩
  · obtain ⟨l', g1, g2⟩ := h2 q (by omega) c hc hc3
    exact ⟨l', by rw [List.getElem?_append_left (List.getElem?_eq_some_iff.1 g1).1]; exact g1, g2⟩
theorem allW.same {ks : List Nat} {i k : Nat} {ws : List (List AV)} (h : allW ks i ws) (hk : ks[i]? = some k) (h3 : k % 4 = 3) : allW ks (i + 1) ws := by
  obtain ⟨h1, h2⟩ := h
  refine ⟨by rw [cntW_succ hk, if_pos h3, h1], fun q hq c hc hc3 => ?_⟩
  by_cases e : q = i
  · subst e
    rw [hk] at hc; cases hc
    exact absurd h3 hc3
  · exact h2 q (by omega) c hc hc3
section
variable {H M : Heap} {kn kd kj kh : K} {x5 x6 x7 : AV} {ks : List Nat} {i : Nat}
/-- so it is behind some letters -/
def Wd (kn kd kj kh : K) (x5 x6 x7 : AV) (ks : List Nat) (i : Nat) (M : Heap) : Prop :=
  ∃ bs n m ws s s0 N, isNd M kn kd kj kh bs n m ws x5 x6 x7 s ∧ Rel s s0 ∧ Gd N (fun a b => b ≤ (i : Int)) s0 ∧ N ≤ i ∧ n ≤ bs.length ∧ bs.length ≤ 31 + 100 * i ∧ m ≤ 1 + i ∧ allW ks i ws
theorem rec_waits : (allN 30 fun i => isR (EK 54 [.agg (recL 0 (i + 1) 107 118)] hp0) (.str (recT 0 (i + 1) 107 118))) = true := by kernel_rfl
theorem wrap_waits : (allN 30 fun i => Nat.ble (wrapT (recT 0 (i + 1) 107 118)).length 100) = true := by kernel_rfl
theorem get_run : (allN 30 fun i => isR (EK 27 [.agg (letL 0 (i + 1) (opL 1 [107] [] [] 0 .nils))] hp0) (.bool true)) = true := by kernel_rfl
theorem key_k : isKey [107] := by unfold isKey; decide
theorem Wd.put (h : Wd kn kd kj kh x5 x6 x7 ks i M) (hi : i < 30) {k : Nat} (hk : ks[i]? = some k) (hk0 : k % 4 = 0) : FnOk Tryz.prog 7 [.ptr kn 0, .agg (letL 0 (i + 1) (opL 2 [107] [] [118] 0 .nils))] M fun r G => r = .tup [] ∧ Wd kn kd kj kh x5 x6 x7 ks (i + 1) G ∧ KO M G := by
  obtain ⟨bs, n, m, ws, s, s0, N, hN, hR, hG, h1, h2, h3, h4, h5⟩ := h
  have hw := Nat.le_of_ble_eq_true (allN_of wrap_waits i hi)
  have hwl := cntW_le ks i
  have D := hG.does (by omega) key_k (v := [118]) (by decide) (ses := ((0 : Nat) : Int)) (id := ((i + 1 : Nat) : Int)) ⟨by omega, by omega⟩ ⟨by omega, by omega⟩ (fun a b hb _ => by omega)
  refine (f7_ask D hN hR (fun _ _ e => by cases e) (by decide) (by omega) (by omega) (fun J _ _ => letter_ask (by decide) (by omega) (by omega) 107 118) (T := recT 0 (i + 1) 107 118) (fun J _ _ => FnOk.of_ev1 good_XL rfl rfl (allN_of rec_waits i hi)) (by simp [recT]) (by show 18 < 1000000; decide) (by omega) h2 (by omega) (by rw [h5.1]; omega)).mono ?_
  rintro r G ⟨rfl, t, g1, g2, gko⟩
  refine ⟨rfl, ⟨_, _, _, _, t, _, _, g1, g2, (hG.put (by omega) key_k (by decide) ⟨by omega, by omega⟩ ⟨by omega, by omega⟩ .z .z .z).mono (fun a b hb => ?_), by omega, ?_, ?_, by omega, h5.more hk (by omega) (.inl ⟨by omega, _, _, _, _, rfl⟩)⟩, gko⟩
  · rcases hb with hb | ⟨_, rfl⟩
    · show b ≤ ((i + 1 : Nat) : Int); omega
    · exact Int.le_refl _
  · rw [List.length_append]; omega
  · rw [List.length_append]; omega
theorem Wd.get (h : Wd kn kd kj kh x5 x6 x7 ks i M) (hi : i < 30) {k : Nat} (hk : ks[i]? = some k) (hk0 : k % 4 = 1) : FnOk Tryz.prog 7 [.ptr kn 0, .agg (letL 0 (i + 1) (opL 1 [107] [] [] 0 .nils))] M fun r G => r = .tup [] ∧ Wd kn kd kj kh x5 x6 x7 ks (i + 1) G ∧ KO M G := by
  obtain ⟨bs, n, m, ws, s, s0, N, hN, hR, hG, h1, h2, h3, h4, h5⟩ := h
  have hwl := cntW_le ks i
  refine (f7_get hN hR hG (by omega) key_k (by decide) (by omega) (fun a b hb _ => by omega) (by rw [h5.1]; omega) (fun J => FnOk.of_ev1 good_XL rfl rfl (allN_of get_run i hi))).mono ?_
  rintro r G ⟨rfl, g1, gko⟩
  obtain ⟨y0, y1, y2, y3, hx⟩ : ∃ x0 x1 x2 x3, getA (getL s0.cells [107]).1 = [x0, x1, x2, x3] := by unfold getA; split <;> exact ⟨_, _, _, _, rfl⟩
  rw [hx] at g1
  refine ⟨rfl, ⟨_, _, _, _, s, s0, N, g1, hR, hG.mono (fun a b hb => ?_), by omega, h2, by omega, by omega, h5.more hk (by omega) (.inl ⟨by omega, _, _, _, _, rfl⟩)⟩, gko⟩
  show b ≤ ((i + 1 : Nat) : Int); omega
theorem at_all {s s0 : Sh} {N : Nat} {P : Int → Int → Prop} (hR : Rel s s0) (hG : Gd N P s0) : s.fr = [] ∧ s.to = [] ∧ atQ [] s = true := by
  obtain ⟨e1, e2, e3, e4, e5⟩ := hG.hd
  obtain ⟨h1, h2, h3, h4, h5, h6, h7, h8⟩ := hR.1
  refine ⟨h3.trans e3, h4.trans e4, ?_⟩
  unfold atQ
  rw [h5, e5, h3, e3, h4, e4, if_neg (by decide)]
  exact decide_eq_true ⟨.inr rfl, .inl rfl⟩
theorem Wd.poll (h : Wd kn kd kj kh x5 x6 x7 ks i M) (hi : i < 30) {k : Nat} (hk : ks[i]? = some k) (hk0 : k % 4 = 2) : FnOk Tryz.prog 7 [.ptr kn 0, .agg pollW] M fun r G => r = .tup [] ∧ Wd kn kd kj kh x5 x6 x7 ks (i + 1) G ∧ KO M G := by
  obtain ⟨bs, n, m, ws, s, s0, N, hN, hR, hG, h1, h2, h3, h4, h5⟩ := h
  have hwl := cntW_le ks i
  obtain ⟨e1, e2, e3⟩ := at_all hR hG
  have hel := hG.el
  have hcl := hG.cl
  refine (f7_all hN e1 e2 e3 (by rw [h5.1]; omega) (by rw [hR.1.2.2.2.2.2.2.1]; omega) (by rw [hR.1.2.2.2.2.2.1]; omega)).mono ?_
  rintro r G ⟨rfl, ⟨g, x, g1⟩, gko⟩
  refine ⟨rfl, ⟨_, _, _, _, s, s0, N, g1, hR, hG.mono (fun a b hb => ?_), by omega, h2, by omega, by omega, h5.more hk (by omega) (.inr ⟨by omega, _, _, rfl⟩)⟩, gko⟩
  show b ≤ ((i + 1 : Nat) : Int); omega
theorem Wd.plan (h : Wd kn kd kj kh x5 x6 x7 ks i M) {k : Nat} (hk : ks[i]? = some k) (hk0 : k % 4 = 3) : FnOk Tryz.prog 7 [.ptr kn 0, .agg planW] M fun r G => r = .tup [] ∧ Wd kn kd kj kh x5 x6 x7 ks (i + 1) G ∧ KO M G := by
  obtain ⟨bs, n, m, ws, s, s0, N, hN, hR, hG, h1, h2, h3, h4, h5⟩ := h
  refine (f7_plan hN).mono ?_
  rintro r G ⟨rfl, g1, gko⟩
  refine ⟨rfl, ⟨_, _, _, _, s, s0, N, g1, hR, hG.mono (fun a b hb => ?_), by omega, h2, by omega, by omega, h5.same hk hk0⟩, gko⟩
  show b ≤ ((i + 1 : Nat) : Int); omega
theorem Wd.ext (h : Wd kn kd kj kh x5 x6 x7 ks i M) (L : List Blk) : Wd kn kd kj kh x5 x6 x7 ks i (M.ext L) := by
  obtain ⟨bs, n, m, ws, s, s0, N, hN, h⟩ := h
  exact ⟨bs, n, m, ws, s, s0, N, hN.ext L, h⟩
end
end Go.Proofs
/- a new node of one shard of all keys: reckoned. -/



set_option linter.all false
set_option maxRecDepth 100000
namespace Go.Proofs
open Go Go.Ev
/-- its first record -/
def bsa : List Nat := [47, 152, 82, 102, 24, 1, 0, 0, 0, 0, 0, 0, 0, 1, 13, 113, 135, 31, 170, 8, 1, 1, 0, 0, 0, 0, 0, 0, 0]
def rowQ : Blk := .row true 8 [[.int .i64 1, .int .i64 1, .str [], .str [], .bool false, .nils, .nils, .nils]]
def blN : List Blk := [.row true 8 [[.int .i64 0, .ptr K.z.o 0, .ptr K.z.i 0, .ptr K.z.o.o 0, .nils, .int .i64 0, .int .i64 0, .map K.z.o.i]], .row true 2 [[.str bsa, .int .i64 0]], .row true 2 [[.ptr K.z.o 0, .int .i64 1]], .row true 2 [[.slice K.z.i.o 0 1 8 false 1, .nils]], .map [], rowQ]
def selN : List K := [K.z.o.i.i, K.z.o.o.o, K.z.i.o.i, K.z.o.o.i, K.z.o.i.o, K.z.i.i.o.o.o.o]
theorem newC : chkB [rowQ] blN selN [.int .i64 0, .slice .z 0 1 8 true 1] (.ptr .z 0) = true := by kernel_rfl
theorem newR : runL (evFn Tryz.prog XL 100000 6 [.int .i64 0, .slice .z 0 1 8 true 1] (hp0.ext [rowQ])) selN blN = some ((AV.ptr .z 0).ren (rk selN .z), true, wantL selN blN) := by kernel_rfl
theorem new_all {H : Heap} {k : K} (hok : H.ok) (hk : H.get k = some rowQ) : FnOk Tryz.prog 6 [.int .i64 0, .slice k 0 1 8 true 1] H
    fun v G => (∃ kn kd kj kh km, v = .ptr kn 0 ∧ isNd G kn kd kj kh bsa 0 1 [] (.int .i64 0) (.int .i64 0) (.map km) (nS 1 1 [] [] false)) ∧ ∀ j b, H.get j = some b → j ≠ k → G.get j = some b := by
  have hF : Fit H [k] [rowQ] := by
    refine ⟨rfl, by simp, fun j hj => ?_, fun b hb j hj => ?_, fun i b j hb hj hl => ?_⟩
    · rw [List.mem_singleton.1 hj]; exact hok _ _ hk
    · rw [List.mem_singleton.1 hb] at hj
      simp [Blk.keysA, rowQ, AV.keyss, AV.keys] at hj
    · cases i with
      | zero => cases hb; cases hj; exact hk
      | succ i => simp at hb
  have := FnOk.run good_XL newC newR hF
  have e : AV.rens (rk [k] .z) [.int .i64 0, .slice .z 0 1 8 true 1] = [.int .i64 0, .slice k 0 1 8 true 1] := by simp only [AV.rens, AV.ren]; rfl
  rw [e] at this
  refine this.mono ?_
  rintro v G ⟨κ, rfl, hX⟩
  have hl : κ.length = 6 := hX.fit.len
  obtain ⟨a, b, c, d, e, f, rfl⟩ : ∃ a b c d e f, κ = [a, b, c, d, e, f] := by
    rcases κ with _ | ⟨a, _ | ⟨b, _ | ⟨c, _ | ⟨d, _ | ⟨e, _ | ⟨f, _ | ⟨g, l⟩⟩⟩⟩⟩⟩⟩ <;> first | (simp at hl; done) | exact ⟨_, _, _, _, _, _, rfl⟩
  have g0 := hX.fit.blk 0 _ _ rfl rfl trivial
  have g1 := hX.fit.blk 1 _ _ rfl rfl trivial
  have g2 := hX.fit.blk 2 _ _ rfl rfl trivial
  have g3 := hX.fit.blk 3 _ _ rfl rfl trivial
  have g5 : G.get f = some rowQ := hX.fit.blk 5 _ _ rfl rfl trivial
  refine ⟨⟨a, b, c, d, e, rfl, hX.ok, ⟨_, g0, .inl ⟨rfl, rfl⟩⟩, g1, g2, ⟨_, hX.ok, g3, .inr ⟨f, 0, false, 1, rfl, hX.ok _ _ g5, fun _ => ⟨0, true, _, rfl, g5, rfl⟩⟩, .inl ⟨rfl, rfl⟩, ?_, ?_, by simp⟩⟩, fun j b hj hne => hX.keep j b hj fun i c h1 h2 h3 => ?_⟩
  · intro s hs
    rw [List.mem_singleton.1 hs]
    exact nS_ok ..
  · intro s hs
    rw [List.mem_singleton.1 hs]
    exact nS_small ..
  · cases i with
    | zero => cases h3; exact hne rfl
    | succ i => simp at h1
end Go.Proofs
/- The laid-out code of the functions that are walked. -/

set_option linter.all false
set_option maxRecDepth 100000
namespace Go.Proofs
open Go Go.Ev K
@[go_sem] theorem call3 (a H) : callC Tryz.prog 3 a H = .call 3 a := callC_ok (by kernel_rfl) a H
noncomputable def C4 := mkC Tryz.prog Tryz.f4 138
theorem C4ok : CCok Tryz.prog Tryz.f4 138 C4 := mkC_ok _
@[go_sem] theorem call4 (a H) : callC Tryz.prog 4 a H = .call 4 a := callC_ok (by kernel_rfl) a H
theorem R4ok : resKs Tryz.prog Tryz.f4.results.toList = some [RK.tmp z.i] := by kernel_rfl
end Go.Proofs
