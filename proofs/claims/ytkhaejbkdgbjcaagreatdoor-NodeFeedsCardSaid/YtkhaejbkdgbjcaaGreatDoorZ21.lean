/- Answers that wait: walked. -/
import Derived.Test.YtkhaejbkdgbjcaaGreatDoorZ20
import Derived.Test.YtkhaejbkdgbjcaaGreatDoorProg
import Derived.KernelRfl
set_option linter.all false
set_option maxRecDepth 100000
namespace Go.Proofs
open Go Go.Ev
variable {H : Heap}
/-- no block of a hold -/
structure Foreign (b : Blk) : Prop where
  no : ∀ wr e rows, b = .row wr e rows → e ≠ 4 ∧ e ≠ 5 ∧ e ≠ 6
  gn : ∀ wr rows, b = .row wr 2 rows → ∀ r ∈ rows, ∀ g : Gn, r ≠ g.enc
  sh : ∀ wr rows, b = .row wr 8 rows → ∀ r ∈ rows, ∀ s : Sh, r ≠ s.enc
section
variable {G G' : Heap} {ks : List K}
theorem arr_kp {e : Nat} {v : AV} {xs : List (List AV)} (h : Arr G e v xs) (hk : Kp ks G G') (hx : ∀ j ∈ ks, ∀ wr rows, G.get j = some (.row wr e rows) → ∀ r ∈ rows, r ∉ xs) : Arr G' e v xs := by
  rcases h with g | ⟨c, off, ex, cap, hv, hc, g⟩
  · exact .inl g
  · refine .inr ⟨c, off, ex, cap, hv, Nat.lt_of_lt_of_le hc hk.le, fun hn => ?_⟩
    obtain ⟨r, wr', rows', h1, h2, h3⟩ := g hn
    refine ⟨r, wr', rows', h1, hk.keep c _ (fun hm => ?_) h2, h3⟩
    cases xs with
    | nil => exact hn rfl
    | cons x xs =>
      have hm2 : x ∈ (rows'.drop r).take (x :: xs).length := by rw [h3]; exact List.mem_cons_self
      exact hx c hm wr' rows' h2 x (List.mem_of_mem_drop (List.mem_of_mem_take hm2)) List.mem_cons_self
theorem isHd.kp {k : K} {lv gv : AV} {hs : List Sh} {gs : List Gn} (h : isHd G k lv gv hs gs) (hk : Kp ks G G') (hok : G'.ok) (hf : ∀ j ∈ ks, j ≠ k ∧ ∀ b, G.get j = some b → Foreign b) : isHd G' k lv gv hs gs := by
  have h3 : ∀ {e : Nat} {v : AV} {xs : List (List AV)}, Arr G e v xs → e = 4 ∨ e = 5 ∨ e = 6 → Arr G' e v xs := fun hA he => arr_kp hA hk fun j hj wr rows hg r hr hm => by
    have := ((hf j hj).2 _ hg).no wr _ rows rfl
    omega
  refine ⟨hok, hk.keep _ _ (fun hm => (hf k hm).1 rfl) h.row, arr_kp h.l hk fun j hj wr rows hg r hr hm => ?_, arr_kp h.g hk fun j hj wr rows hg r hr hm => ?_, fun s hs => ?_, h.small, h.few⟩
  · obtain ⟨s, _, rfl⟩ := List.mem_map.1 hm
    exact ((hf j hj).2 _ hg).sh wr rows rfl _ hr s rfl
  · obtain ⟨s, _, rfl⟩ := List.mem_map.1 hm
    exact ((hf j hj).2 _ hg).gn wr rows rfl _ hr s rfl
  · have hs' := h.each s hs
    exact ⟨h3 hs'.c (by simp), h3 hs'.e (by simp), h3 hs'.d (by simp), bareL.ok (h.small s hs).b _, hs'.cl, hs'.el, hs'.dl⟩
theorem foreign_wide {wr : Bool} {e : Nat} {rows : List (List AV)} (h : 8 < e) : Foreign (.row wr e rows) := by
  refine ⟨fun _ _ _ e => ?_, fun _ _ e => ?_, fun _ _ e => ?_⟩ <;> cases e <;> omega
theorem foreign_node {wr : Bool} {a : AV} {k1 : K} {o1 : Nat} {l : List AV} : Foreign (.row wr 8 [a :: .ptr k1 o1 :: l]) := by
  refine ⟨fun _ _ _ e => ?_, fun _ _ e => ?_, fun _ _ e => ?_⟩ <;> cases e
  · decide
  · intro r hr s e
    rw [List.mem_singleton.1 hr] at e
    simp [Sh.enc] at e
theorem Kp.trans {A B C : Heap} (h : Kp ks A B) (g : Kp ks B C) : Kp ks A C := ⟨fun j b hj hb => g.keep j b hj (h.keep j b hj hb), Nat.le_trans h.le g.le⟩
theorem Kp.wk {ks' : List K} {A B : Heap} (h : Kp ks A B) (hs : ∀ j ∈ ks, j ∈ ks') : Kp ks' A B := ⟨fun j b hj hb => h.keep j b (fun hm => hj (hs j hm)) hb, h.le⟩
end
section
variable {G : Heap} {kn kw : K}
/-- one more put behind a list that was there before -/
theorem appQ_old (hok : G.ok) {n : Nat} {x : List AV} {xs : List (List AV)} (hw : G.get kw = some (.row true 24 (x :: xs))) (hn : xs.length = n) {L : List Blk} {j : Nat} {wr ex : Bool} {cap : Nat} {y : List AV} (hj : L[j]? = some (.row wr 24 [y])) (hN : n < 100000) :
    appQ 24 328 (some (outV kw 24 (n + 1))) (some (.slice (G.key j) 0 1 24 ex cap)) (G.ext L) = .val (.slice ((G.set kw .dead).key L.length) 0 (n + 2) 24 false (n + 2)) ((G.set kw .dead).ext (L ++ [.row true 24 (x :: xs ++ [y])])) := by
  show appR 24 328 (.c _) (.c _) .lf (G.ext L) = _
  subst hn
  have hjl := (List.getElem?_eq_some_iff.1 hj).1
  have hg := Heap.get_ext_old hok hw L
  have hb1 : (2 * ((xs.length + 1) + 1) + 192) * 328 ≤ 281474976710656 := Nat.le_trans (Nat.mul_le_mul_right _ (show _ ≤ 300000 by omega)) (by decide)
  have hs := fun (α : Type) (c : Heap → α) => Heap.setC_here hok hw .dead L c
  unfold appR
  show withX _ (.c (.slice kw 0 (xs.length + 1) 24 false (xs.length + 1))) _ _ = _
  simp only [go_sem, withX, evX, Heap.get_ext_key _ _ _ hjl, hg, hj, List.drop_zero, List.take_succ_cons, List.take_zero, List.length_cons, List.length_nil, Nat.zero_mod, Nat.zero_div, Nat.reduceAdd, Nat.reduceSub, Nat.reduceMul, Nat.reduceDiv, Nat.reduceMod, Nat.reduceEqDiff, Nat.reduceLeDiff, Nat.reduceLT, reduceIte, List.take_length, List.cons_append]
  rw [if_pos (Nat.le_refl _), if_neg (by omega), if_pos hb1, hs, Heap.addC_ext]
  rfl
theorem says_end {D : Heap} {ks : List K} {c : Blk} (hdo : D.ok) (hdk : D.get kn = some c) (hD : Kp ks G D) (hkn : kn ∈ ks) (hks : ∀ j ∈ ks, ∃ b, G.get j = some b) (hGo : G.ok) {L : List Blk} {i : Nat} {r : Blk} (hL : L[i]? = some r) (b : Blk) :
    ((D.set kn b).ext L).get kn = some b ∧ ((D.set kn b).ext L).get (D.key i) = some r ∧ ((D.set kn b).ext L).ok ∧ Kp ks G ((D.set kn b).ext L) ∧ D.key i ∉ ks := by
  have hil := (List.getElem?_eq_some_iff.1 hL).1
  refine ⟨Heap.get_set_here hdo hdk b L, (Heap.get_key_set hil).trans hL, Heap.ok_ext (Heap.ok_set hdo hdk) L, ⟨fun j d hj hd => Heap.get_set_there hdo (hD.keep j d hj hd) (by rintro rfl; exact hj hkn) b L, Nat.le_trans hD.le (by rw [Heap.nx_ext, Heap.toNat_key, Heap.nx_set]; exact Nat.le_add_right _ _)⟩, fun hm => ?_⟩
  obtain ⟨d, hd⟩ := hks _ hm
  have h1 := hGo _ _ hd
  have h2 := hD.le
  rw [Heap.toNat_key] at h1
  omega
theorem f84_more (hok : G.ok) {x0 kd : Int} {d1 d2 d3 x5 x6 x7 : AV} {n : Nat} {x : List AV} {xs : List (List AV)} (hn : G.get kn = some (.row true 8 [[.int .i64 x0, d1, d2, d3, outV kw 24 (n + 1), x5, x6, x7]])) (hw : G.get kw = some (.row true 24 (x :: xs))) (hl : xs.length = n) (hN : n < 100000) (t1 t3 : Int) (t0 t2 t4 t5 t6 t7 t8 t9 t10 t11 t12 t13 t14 t15 t16 t17 t18 t19 t20 t21 t22 t23 l0 l1 l2 l3 l4 l5 l6 l7 l8 l9 l10 l11 l12 l13 l14 l15 l16 l17 l18 l19 l20 l21 l22 l23 : AV) :
    FnOk Tryz.prog 84 [.ptr kn 0, .agg [t0, .int .i64 t1, t2, .int .i64 t3, t4, t5, t6, t7, t8, t9, t10, t11, t12, t13, t14, t15, t16, t17, t18, t19, t20, t21, t22, t23], .int .i64 kd, .agg [l0, l1, l2, l3, l4, l5, l6, l7, l8, l9, l10, l11, l12, l13, l14, l15, l16, l17, l18, l19, l20, l21, l22, l23]] G fun r G' => r = .tup [] ∧ (∃ kw', kw' ∉ [kn, kw] ∧ G'.get kn = some (.row true 8 [[.int .i64 x0, d1, d2, d3, outV kw' 24 (n + 2), x5, x6, x7]]) ∧ G'.get kw' = some (.row true 24 (x :: xs ++ [[.int .i64 kd, .int .i64 x0, .int .i64 t1, .int .i64 t3, l4, l5, l6, l7, l8, l9, l10, l11, l12, l13, l14, l15, l16, l17, l18, l19, l20, l21, l22, l23]]))) ∧ G'.ok ∧ Kp [kn, kw] G G' := by
  refine FnOk.of_WW Tryz.func84 rfl C84ok R84ok E0 good_E0 ?_
  have hn' := fun L => Heap.get_ext_old hok hn L
  have ha : ∀ (L : List Blk) (y : List AV), L[2]? = some (.row true 24 [y]) → appQ 24 328 (some (.slice kw 0 (n + 1) 24 false (n + 1))) (some (.slice (G.key 2) 0 1 24 true 1)) (G.ext L) = .val (.slice ((G.set kw .dead).key L.length) 0 (n + 2) 24 false (n + 2)) ((G.set kw .dead).ext (L ++ [.row true 24 (x :: xs ++ [y])])) := fun L y hj => appQ_old hok hw hl (ex := true) (cap := 1) hj hN
  have hne : kw ≠ kn := by rintro rfl; rw [hw] at hn; cases hn
  have hdk : (G.set kw .dead).get kn = some (.row true 8 [[.int .i64 x0, d1, d2, d3, outV kw 24 (n + 1), x5, x6, x7]]) := by rw [Heap.get_set, if_neg hne]; exact hn
  have hdo : (G.set kw .dead).ok := Heap.ok_set hok hw
  have hn2 := fun L => Heap.get_ext_old hdo hdk L
  have hs2 := fun b (l : List Blk) (α : Type) (c' : Heap → α) => Heap.setC_here hdo hdk b l c'
  simp only [go_sem, ↓appR_hide, C84, hn']
  rw [ha _ _ rfl]
  simp only [go_sem, hn2, hs2]
  have hD : Kp [kn, kw] G (G.set kw .dead) := ⟨fun j d hj hd => by rw [Heap.get_set, if_neg (by rintro rfl; simp at hj)]; exact hd, Nat.le_refl _⟩
  obtain ⟨e1, e2, e3, e4, e5⟩ := says_end hdo hdk hD (by simp) (by intro j hj; simp only [List.mem_cons, List.not_mem_nil, or_false] at hj; rcases hj with rfl | rfl <;> first | exact ⟨_, hn⟩ | exact ⟨_, hw⟩) hok (L := [.row true 24 [[t0, .int .i64 t1, t2, .int .i64 t3, t4, t5, t6, t7, t8, t9, t10, t11, t12, t13, t14, t15, t16, t17, t18, t19, t20, t21, t22, t23]], .row true 24 [[.int .i64 kd, .int .i64 x0, .int .i64 t1, .int .i64 t3, l4, l5, l6, l7, l8, l9, l10, l11, l12, l13, l14, l15, l16, l17, l18, l19, l20, l21, l22, l23]], .row true 24 [[.int .i64 kd, .int .i64 x0, .int .i64 t1, .int .i64 t3, l4, l5, l6, l7, l8, l9, l10, l11, l12, l13, l14, l15, l16, l17, l18, l19, l20, l21, l22, l23]], .row true 24 (x :: (xs ++ [[.int .i64 kd, .int .i64 x0, .int .i64 t1, .int .i64 t3, l4, l5, l6, l7, l8, l9, l10, l11, l12, l13, l14, l15, l16, l17, l18, l19, l20, l21, l22, l23]]))]) (i := 3) rfl (.row true 8 [[.int .i64 x0, d1, d2, d3, .slice (G.key 3) 0 (n + 2) 24 false (n + 2), x5, x6, x7]])
  exact ⟨⟨_, e5, e1, e2⟩, e3, e4⟩
theorem f84_first (hok : G.ok) {x0 kd : Int} {d1 d2 d3 x5 x6 x7 : AV} (hn : G.get kn = some (.row true 8 [[.int .i64 x0, d1, d2, d3, .nils, x5, x6, x7]])) (t1 t3 : Int) (t0 t2 t4 t5 t6 t7 t8 t9 t10 t11 t12 t13 t14 t15 t16 t17 t18 t19 t20 t21 t22 t23 l0 l1 l2 l3 l4 l5 l6 l7 l8 l9 l10 l11 l12 l13 l14 l15 l16 l17 l18 l19 l20 l21 l22 l23 : AV) :
    FnOk Tryz.prog 84 [.ptr kn 0, .agg [t0, .int .i64 t1, t2, .int .i64 t3, t4, t5, t6, t7, t8, t9, t10, t11, t12, t13, t14, t15, t16, t17, t18, t19, t20, t21, t22, t23], .int .i64 kd, .agg [l0, l1, l2, l3, l4, l5, l6, l7, l8, l9, l10, l11, l12, l13, l14, l15, l16, l17, l18, l19, l20, l21, l22, l23]] G fun r G' => r = .tup [] ∧ (∃ kw', kw' ∉ [kn] ∧ G'.get kn = some (.row true 8 [[.int .i64 x0, d1, d2, d3, outV kw' 24 1, x5, x6, x7]]) ∧ G'.get kw' = some (.row true 24 [[.int .i64 kd, .int .i64 x0, .int .i64 t1, .int .i64 t3, l4, l5, l6, l7, l8, l9, l10, l11, l12, l13, l14, l15, l16, l17, l18, l19, l20, l21, l22, l23]])) ∧ G'.ok ∧ Kp [kn] G G' := by
  refine FnOk.of_WW Tryz.func84 rfl C84ok R84ok E0 good_E0 ?_
  have hn' := fun L => Heap.get_ext_old hok hn L
  have hs2 := fun b (l : List Blk) (α : Type) (c' : Heap → α) => Heap.setC_here hok hn b l c'
  simp only [go_sem, C84, hn', hs2]
  obtain ⟨e1, e2, e3, e4, e5⟩ := says_end (ks := [kn]) hok hn ⟨fun j d hj hd => hd, Nat.le_refl _⟩ (by simp) (by intro j hj; rw [List.mem_singleton.1 hj]; exact ⟨_, hn⟩) hok (L := [.row true 24 [[t0, .int .i64 t1, t2, .int .i64 t3, t4, t5, t6, t7, t8, t9, t10, t11, t12, t13, t14, t15, t16, t17, t18, t19, t20, t21, t22, t23]], .row true 24 [[.int .i64 kd, .int .i64 x0, .int .i64 t1, .int .i64 t3, l4, l5, l6, l7, l8, l9, l10, l11, l12, l13, l14, l15, l16, l17, l18, l19, l20, l21, l22, l23]], .row true 24 [[.int .i64 kd, .int .i64 x0, .int .i64 t1, .int .i64 t3, l4, l5, l6, l7, l8, l9, l10, l11, l12, l13, l14, l15, l16, l17, l18, l19, l20, l21, l22, l23]], .row true 24 [[.int .i64 kd, .int .i64 x0, .int .i64 t1, .int .i64 t3, l4, l5, l6, l7, l8, l9, l10, l11, l12, l13, l14, l15, l16, l17, l18, l19, l20, l21, l22, l23]]]) (i := 3) rfl (.row true 8 [[.int .i64 x0, d1, d2, d3, .slice (G.key 3) 0 1 24 false 1, x5, x6, x7]])
  exact ⟨⟨_, e5, e1, e2⟩, e3, e4⟩
end
end Go.Proofs
/- The laid-out code of the functions that are walked. -/

set_option linter.all false
set_option maxRecDepth 100000
namespace Go.Proofs
open Go Go.Ev K
noncomputable def C30 := mkC Tryz.prog Tryz.f30 69
theorem C30ok : CCok Tryz.prog Tryz.f30 69 C30 := mkC_ok _
@[go_sem] theorem call30 (a H) : callC Tryz.prog 30 a H = .call 30 a := callC_ok (by kernel_rfl) a H
theorem R30ok : resKs Tryz.prog Tryz.f30.results.toList = some [RK.tmp z.i] := by kernel_rfl
noncomputable def C67 := mkC Tryz.prog Tryz.f67 9
theorem C67ok : CCok Tryz.prog Tryz.f67 9 C67 := mkC_ok _
@[go_sem] theorem call67 (a H) : callC Tryz.prog 67 a H = .call 67 a := callC_ok (by kernel_rfl) a H
theorem R67ok : resKs Tryz.prog Tryz.f67.results.toList = some [RK.tmp z.i] := by kernel_rfl
noncomputable def C68 := mkC Tryz.prog Tryz.f68 41
theorem C68ok : CCok Tryz.prog Tryz.f68 41 C68 := mkC_ok _
@[go_sem] theorem call68 (a H) : callC Tryz.prog 68 a H = .call 68 a := callC_ok (by kernel_rfl) a H
theorem R68ok : resKs Tryz.prog Tryz.f68.results.toList = some [RK.tmp z.i] := by kernel_rfl
@[go_sem] theorem call69 (a H) : callC Tryz.prog 69 a H = .call 69 a := callC_ok (by kernel_rfl) a H
noncomputable def C70 := mkC Tryz.prog Tryz.f70 9
theorem C70ok : CCok Tryz.prog Tryz.f70 9 C70 := mkC_ok _
@[go_sem] theorem call70 (a H) : callC Tryz.prog 70 a H = .call 70 a := callC_ok (by kernel_rfl) a H
theorem R70ok : resKs Tryz.prog Tryz.f70.results.toList = some [RK.tmp z.o.i] := by kernel_rfl
noncomputable def C71 := mkC Tryz.prog Tryz.f71 41
theorem C71ok : CCok Tryz.prog Tryz.f71 41 C71 := mkC_ok _
@[go_sem] theorem call71 (a H) : callC Tryz.prog 71 a H = .call 71 a := callC_ok (by kernel_rfl) a H
theorem R71ok : resKs Tryz.prog Tryz.f71.results.toList = some [RK.tmp z.i] := by kernel_rfl
noncomputable def C72 := mkC Tryz.prog Tryz.f72 9
theorem C72ok : CCok Tryz.prog Tryz.f72 9 C72 := mkC_ok _
@[go_sem] theorem call72 (a H) : callC Tryz.prog 72 a H = .call 72 a := callC_ok (by kernel_rfl) a H
theorem R72ok : resKs Tryz.prog Tryz.f72.results.toList = some [RK.tmp z.o.i] := by kernel_rfl
noncomputable def C75 := mkC Tryz.prog Tryz.f75 9
theorem C75ok : CCok Tryz.prog Tryz.f75 9 C75 := mkC_ok _
@[go_sem] theorem call75 (a H) : callC Tryz.prog 75 a H = .call 75 a := callC_ok (by kernel_rfl) a H
theorem R75ok : resKs Tryz.prog Tryz.f75.results.toList = some [RK.tmp z.o.i] := by kernel_rfl
noncomputable def C133 := mkC Tryz.prog Tryz.f133 19
theorem C133ok : CCok Tryz.prog Tryz.f133 19 C133 := mkC_ok _
@[go_sem] theorem call133 (a H) : callC Tryz.prog 133 a H = .call 133 a := callC_ok (by kernel_rfl) a H
theorem R133ok : resKs Tryz.prog Tryz.f133.results.toList = some [RK.tmp z.o.i] := by kernel_rfl
noncomputable def C134 := mkC Tryz.prog Tryz.f134 19
theorem C134ok : CCok Tryz.prog Tryz.f134 19 C134 := mkC_ok _
@[go_sem] theorem call134 (a H) : callC Tryz.prog 134 a H = .call 134 a := callC_ok (by kernel_rfl) a H
theorem R134ok : resKs Tryz.prog Tryz.f134.results.toList = some [RK.tmp z.o.i] := by kernel_rfl
noncomputable def C135 := mkC Tryz.prog Tryz.f135 19
theorem C135ok : CCok Tryz.prog Tryz.f135 19 C135 := mkC_ok _
@[go_sem] theorem call135 (a H) : callC Tryz.prog 135 a H = .call 135 a := callC_ok (by kernel_rfl) a H
theorem R135ok : resKs Tryz.prog Tryz.f135.results.toList = some [RK.tmp z.o.i] := by kernel_rfl
noncomputable def C31 := mkC Tryz.prog Tryz.f31 93
theorem C31ok : CCok Tryz.prog Tryz.f31 93 C31 := mkC_ok _
@[go_sem] theorem call31 (a H) : callC Tryz.prog 31 a H = .call 31 a := callC_ok (by kernel_rfl) a H
theorem R31ok : resKs Tryz.prog Tryz.f31.results.toList = some [] := by kernel_rfl
noncomputable def C10 := mkC Tryz.prog Tryz.f10 53
theorem C10ok : CCok Tryz.prog Tryz.f10 53 C10 := mkC_ok _
@[go_sem] theorem call10 (a H) : callC Tryz.prog 10 a H = .call 10 a := callC_ok (by kernel_rfl) a H
theorem R10ok : resKs Tryz.prog Tryz.f10.results.toList = some [] := by kernel_rfl
noncomputable def C32 := mkC Tryz.prog Tryz.f32 73
theorem C32ok : CCok Tryz.prog Tryz.f32 73 C32 := mkC_ok _
@[go_sem] theorem call32 (a H) : callC Tryz.prog 32 a H = .call 32 a := callC_ok (by kernel_rfl) a H
theorem R32ok : resKs Tryz.prog Tryz.f32.results.toList = some [] := by kernel_rfl
noncomputable def C11 := mkC Tryz.prog Tryz.f11 13
theorem C11ok : CCok Tryz.prog Tryz.f11 13 C11 := mkC_ok _
@[go_sem] theorem call11 (a H) : callC Tryz.prog 11 a H = .call 11 a := callC_ok (by kernel_rfl) a H
theorem R11ok : resKs Tryz.prog Tryz.f11.results.toList = some [RK.cell z.i.i true 24] := by kernel_rfl
noncomputable def C12 := mkC Tryz.prog Tryz.f12 8
theorem C12ok : CCok Tryz.prog Tryz.f12 8 C12 := mkC_ok _
@[go_sem] theorem call12 (a H) : callC Tryz.prog 12 a H = .call 12 a := callC_ok (by kernel_rfl) a H
theorem R12ok : resKs Tryz.prog Tryz.f12.results.toList = some [RK.cell z.o.i true 6] := by kernel_rfl
@[go_sem] theorem call9 (a H) : callC Tryz.prog 9 a H = .call 9 a := callC_ok (by kernel_rfl) a H
end Go.Proofs
/- Answers that wait, asked: walked. -/


set_option linter.all false
set_option maxRecDepth 100000
namespace Go.Proofs
open Go Go.Ev
variable {H : Heap}
/-- the answers that wait -/
def isWt (G : Heap) (wv : AV) (ws : List (List AV)) : Prop := (ws = [] ∧ wv = .nils) ∨ ∃ kw, ws ≠ [] ∧ wv = outV kw 24 ws.length ∧ G.get kw = some (.row true 24 ws)
/-- where they lie -/
def wk : AV → List K
  | .slice k _ _ _ _ _ => [k]
  | _ => []
section
variable {G : Heap} {kn : K}
theorem f84_ok (hok : G.ok) {x0 kd : Int} {d1 d2 d3 wv x5 x6 x7 : AV} {ws : List (List AV)} (hn : G.get kn = some (.row true 8 [[.int .i64 x0, d1, d2, d3, wv, x5, x6, x7]])) (hw : isWt G wv ws) (hN : ws.length < 100000) (t1 t3 : Int) (t0 t2 t4 t5 t6 t7 t8 t9 t10 t11 t12 t13 t14 t15 t16 t17 t18 t19 t20 t21 t22 t23 l0 l1 l2 l3 l4 l5 l6 l7 l8 l9 l10 l11 l12 l13 l14 l15 l16 l17 l18 l19 l20 l21 l22 l23 : AV) :
    FnOk Tryz.prog 84 [.ptr kn 0, .agg [t0, .int .i64 t1, t2, .int .i64 t3, t4, t5, t6, t7, t8, t9, t10, t11, t12, t13, t14, t15, t16, t17, t18, t19, t20, t21, t22, t23], .int .i64 kd, .agg [l0, l1, l2, l3, l4, l5, l6, l7, l8, l9, l10, l11, l12, l13, l14, l15, l16, l17, l18, l19, l20, l21, l22, l23]] G fun r G' => r = .tup [] ∧ (∃ wv', G'.get kn = some (.row true 8 [[.int .i64 x0, d1, d2, d3, wv', x5, x6, x7]]) ∧ isWt G' wv' (ws ++ [[.int .i64 kd, .int .i64 x0, .int .i64 t1, .int .i64 t3, l4, l5, l6, l7, l8, l9, l10, l11, l12, l13, l14, l15, l16, l17, l18, l19, l20, l21, l22, l23]])) ∧ G'.ok ∧ Kp (kn :: wk wv) G G' := by
  rcases hw with ⟨rfl, rfl⟩ | ⟨kw, hne, rfl, hw⟩
  · refine (f84_first hok hn t1 t3 t0 t2 t4 t5 t6 t7 t8 t9 t10 t11 t12 t13 t14 t15 t16 t17 t18 t19 t20 t21 t22 t23 l0 l1 l2 l3 l4 l5 l6 l7 l8 l9 l10 l11 l12 l13 l14 l15 l16 l17 l18 l19 l20 l21 l22 l23).mono ?_
    rintro r G' ⟨rfl, ⟨kw', _, h1, h2⟩, h3, h4⟩
    exact ⟨rfl, ⟨_, h1, .inr ⟨kw', by simp, rfl, h2⟩⟩, h3, h4⟩
  · obtain ⟨x, xs, rfl⟩ : ∃ x xs, ws = x :: xs := by
      cases ws with
      | nil => exact absurd rfl hne
      | cons x xs => exact ⟨x, xs, rfl⟩
    refine (f84_more hok hn hw rfl (by simp at hN; omega) t1 t3 t0 t2 t4 t5 t6 t7 t8 t9 t10 t11 t12 t13 t14 t15 t16 t17 t18 t19 t20 t21 t22 t23 l0 l1 l2 l3 l4 l5 l6 l7 l8 l9 l10 l11 l12 l13 l14 l15 l16 l17 l18 l19 l20 l21 l22 l23).mono ?_
    rintro r G' ⟨rfl, ⟨kw', _, h1, h2⟩, h3, h4⟩
    refine ⟨rfl, ⟨_, h1, .inr ⟨kw', by simp, ?_, h2⟩⟩, h3, h4⟩
    simp only [List.length_append, List.length_cons, List.length_nil]
theorem Kp.ext {ks : List K} (hok : G.ok) (L : List Blk) : Kp ks G (G.ext L) := ⟨fun j b _ hb => Heap.get_ext_old hok hb L, by rw [Heap.nx_ext, Heap.toNat_key]; exact Nat.le_add_right _ _⟩
theorem f80_none (hok : G.ok) {x0 : Int} {d1 d2 d3 wv x5 x6 x7 : AV} {ws : List (List AV)} (hn : G.get kn = some (.row true 8 [[.int .i64 x0, d1, d2, d3, wv, x5, x6, x7]])) (hw : isWt G wv ws) (hN : ws.length < 100000) (t1 t3 : Int) (t0 t2 t4 t5 t6 t7 t8 t9 t10 t11 t12 t13 t14 t15 t16 t17 t18 t19 t20 t21 t22 t23 a0 a1 a2 a3 : AV) :
    FnOk Tryz.prog 80 [.ptr kn 0, .agg [t0, .int .i64 t1, t2, .int .i64 t3, t4, t5, t6, t7, t8, t9, t10, t11, t12, t13, t14, t15, t16, t17, t18, t19, t20, t21, t22, t23], .agg [a0, a1, a2, a3], .nili] G fun r G' => r = .tup [] ∧ (∃ wv', G'.get kn = some (.row true 8 [[.int .i64 x0, d1, d2, d3, wv', x5, x6, x7]]) ∧ isWt G' wv' (ws ++ [[.int .i64 2, .int .i64 x0, .int .i64 t1, .int .i64 t3, .int .i64 0, .int .i64 0, .int .i64 0, .int .i64 0, .int .i64 0, .str [], .str [], .str [], .int .i64 0, .nils, a0, a1, a2, a3, .str [], .str [], .nils, .nils, .nils, .str []]])) ∧ G'.ok ∧ Kp (kn :: wk wv) G G' := by
  refine FnOk.of_WW Tryz.func80 rfl C80ok R80ok E0 good_E0 ?_
  simp only [go_sem, C80]
  refine CL.of (f64_ok none 17) ?_
  rintro _ G' ⟨rfl, hG⟩; rw [hG]; clear hG
  have hw' : ∀ L, isWt (G.ext L) wv ws := fun L => by
    rcases hw with h | ⟨kw, h1, h2, h3⟩
    · exact .inl h
    · exact .inr ⟨kw, h1, h2, Heap.get_ext_old hok h3 L⟩
  simp only [go_sem]
  refine CL.of (f84_ok (Heap.ok_ext hok _) (Heap.get_ext_old hok hn _) (hw' _) hN t1 t3 _ _ _ _ _ _ _ _ _ _ _ _ _ _ _ _ _ _ _ _ _ _ _ _ _ _ _ _ _ _ _ _ _ _ _ _ _ _ _ _ _ _ _ _ _ _) ?_
  rintro _ G' ⟨rfl, h1, h2, h3⟩
  simp only [go_sem]
  exact ⟨h1, h2, (Kp.ext hok _).trans h3⟩
end
/-- a node of one shard -/
structure isNd (G : Heap) (kn kd kj kh : K) (bs : List Nat) (n m : Nat) (ws : List (List AV)) (x5 x6 x7 : AV) (s : Sh) : Prop where
  ok : G.ok
  row : ∃ wv, G.get kn = some (.row true 8 [[.int .i64 0, .ptr kd 0, .ptr kj 0, .ptr kh 0, wv, x5, x6, x7]]) ∧ isWt G wv ws
  disk : G.get kd = some (.row true 2 [[.str bs, .int .i64 n]])
  jour : G.get kj = some (.row true 2 [[.ptr kd 0, .int .i64 m]])
  hold : ∃ lv, isHd G kh lv .nils [s] []
section
variable {G : Heap} {kn kd kj kh : K}
/-- a session's letter that asks for a put -/
def askP (i : Nat) (key : List Nat) : List AV := [.int .i64 1, .int .i64 200, .int .i64 0, .int .i64 ((i : Int) + 1), .int .i64 0, .int .i64 0, .int .i64 0, .int .i64 0, .int .i64 2, .str key, .str [], .str [118], .int .i64 0, .nils, .int .i64 0, .str [], .int .i64 0, .nils, .str [], .str [], .nils, .nils, .nils, .str []]
/-- what is said to it -/
def saidP (i : Nat) (ver : Int) : List AV := [.int .i64 2, .int .i64 0, .int .i64 200, .int .i64 ((i : Int) + 1), .int .i64 0, .int .i64 0, .int .i64 0, .int .i64 0, .int .i64 0, .str [], .str [], .str [], .int .i64 0, .nils, .int .i64 0, .str [], .int .i64 ver, .nils, .str [], .str [], .nils, .nils, .nils, .str []]
theorem f31_put {x5 x6 x7 : AV} {bs T : List Nat} {n m i : Nat} {ws : List (List AV)} {s : Sh} {key : List Nat} (h : isNd G kn kd kj kh bs n m ws x5 x6 x7 s) (hP : PutI 1 false i s) (hi : i < 20) (hk : has s.fr s.to key)
    (hB : ∀ J : Heap, FnOk Tryz.prog 53 [.agg (putL i key)] J fun r J' => r = .str T ∧ J' = J) (hT : T ≠ []) (hTl : T.length < 1000000) (hl : bs.length + (wrapT T).length ≤ 200000) (hnl : n ≤ bs.length) (hm : m < 1000000) (hN : ws.length < 100000) :
    FnOk Tryz.prog 31 [.ptr kn 0, .agg (askP i key)] G fun r G' => r = .tup [] ∧ ∃ t ver, isNd G' kn kd kj kh (bs ++ wrapT T) (n + (wrapT T).length) (m + 1) (ws ++ [saidP i ver]) x5 x6 x7 t ∧ PutI 1 false (i + 1) t ∧ Nxt s key i t := by
  obtain ⟨wv, hn, hw⟩ := h.row
  obtain ⟨lv, hh⟩ := h.hold
  obtain ⟨E, hE, e1, e2⟩ := two_calls (P := Tryz.prog) (f := 79) (g := 78) (by decide) (f79_ok (H := G.ext [.row true 24 [askP i key], .row true 8 [zS]]) (kd := 2) (by decide) key (.str []) (.str [118]) (.int .i64 0) .nils) (f78_yes (hh.ext [.row true 24 [askP i key], .row true 8 [zS]]) key (i := 0) (idx_one (hP.find hk)) rfl)
  simp only [askP, zS, Heap.key_ext, List.length_cons, List.length_nil, Nat.zero_add, Nat.reduceAdd] at e1 e2
  refine FnOk.of_WW Tryz.func31 rfl C31ok R31ok E hE ?_
  have hn' := fun L => Heap.get_ext_old h.ok hn L
  have hz : IntKind.i64.wrap (200 - 200) = 0 := rfl
  have z0 : ((0 : Int) < 0) = False := eq_false (by omega)
  have z1 : ((i : Int) + 1 < 1) = False := eq_false (by omega)
  simp only [go_sem, C31, askP, hn', hz, z0, z1, e1, e2, Sh.cop, Sh.enc, copB, Heap.key_ext]
  have hso := hh.each s (by simp)
  refine CL.of (ask_putX (s := s.cop (G.key 2) (G.key 3) (G.key 4)) (Sh.cop_ok hso rfl rfl rfl) (hP.cop _ _ _) hi (hP.evV _ _ _) hk) ?_
  rintro _ M ⟨⟨t0, ver0, rfl, -, -, -⟩, L, hM⟩
  have hMok : M.ok := by rw [hM]; exact Heap.ok_ext (Heap.ok_ext h.ok _) _
  have hMk : ∀ j b, G.get j = some b → M.get j = some b := fun j b hb => by rw [hM, Heap.ext_append]; exact Heap.get_ext_old h.ok hb _
  have e0 := get_of_ext hM (i := 0) rfl
  have hhM : isHd M kh lv .nils [s] [] := by rw [hM]; exact (hh.ext _).ext _
  have g0 := fun L => Heap.get_ext_old hMok e0 L
  have gn := fun L => Heap.get_ext_old hMok (hMk _ _ hn) L
  refine WW.nil ?_
  simp only [go_sem, Sh.enc, g0, gn]
  refine CL.of (f82_put key [118]) ?_
  rintro _ G' ⟨rfl, hG⟩; rw [hG]; clear hG
  simp only [go_sem, g0, gn]
  refine CL.of (f28_put (Heap.get_ext_old hMok (hMk _ _ hn) _) (Heap.get_ext_old hMok (hMk _ _ h.disk) _) (Heap.get_ext_old hMok (hMk _ _ h.jour) _) (hhM.ext _) hP hi hk hB hT hTl hl hnl hm) ?_
  rintro _ G' ⟨⟨ver, rfl⟩, hd1, hj1, ⟨lv1, t, hh1, hPt, hNt⟩, kp1⟩
  obtain ⟨G1, hG1⟩ : ∃ G1, G1 = G' := ⟨_, rfl⟩
  rw [← hG1] at hd1 hj1 hh1 kp1 ⊢
  clear hG1
  have hno : ∀ {j b}, M.get j = some b → (∀ {wr rows}, b ≠ .row wr 2 rows) → j ∉ [kd, kj, kh] := fun {j b} hb hne hm => by
    simp only [List.mem_cons, List.not_mem_nil, or_false] at hm
    rcases hm with rfl | rfl | rfl
    · rw [hMk _ _ h.disk] at hb; cases hb; exact hne rfl
    · rw [hMk _ _ h.jour] at hb; cases hb; exact hne rfl
    · rw [hhM.row] at hb; cases hb; exact hne rfl
  have hk1 : M.key 1 ∉ [kd, kj, kh] := fun hm => by
    simp only [List.mem_cons, List.not_mem_nil, or_false] at hm
    rcases hm with e | e | e
    · exact ne_key hMok (hMk _ _ h.disk) 1 e.symm
    · exact ne_key hMok (hMk _ _ h.jour) 1 e.symm
    · exact ne_key hMok hhM.row 1 e.symm
  have w1 := kp1.keep (M.key 1) _ hk1 (get_lit rfl)
  have w0 := kp1.keep (G.key 0) _ (hno e0 (by simp)) (g0 _)
  have wn := kp1.keep kn _ (hno (hMk _ _ hn) (by simp)) (gn _)
  have wx := fun L => Heap.get_ext_old hh1.ok w1 L
  have s1 := fun b (l : List Blk) (α : Type) (c' : Heap → α) => Heap.setC_here hh1.ok w1 b l c'
  have k1 := fun b (l : List Blk) => Heap.get_set_here hh1.ok w1 b l
  have k0 := fun b (l : List Blk) => Heap.get_set_there hh1.ok w0 (ne_key hMok e0 1).symm b l
  have kn' := fun b (l : List Blk) => Heap.get_set_there hh1.ok wn (ne_key hMok (hMk _ _ hn) 1).symm b l
  refine WW.nil ?_
  simp only [go_sem, wx, s1, k1, k0, kn']
  have o2 : ∀ b l, ((G1.set (M.key 1) b).ext l).ok := fun b l => Heap.ok_ext (Heap.ok_set hh1.ok w1) l
  have hw1 : ∀ b l, isWt ((G1.set (M.key 1) b).ext l) wv ws := fun b l => by
    rcases hw with e | ⟨kw, a1, a2, a3⟩
    · exact .inl e
    · exact .inr ⟨kw, a1, a2, Heap.get_set_there hh1.ok (kp1.keep _ _ (hno (hMk _ _ a3) (by simp)) (Heap.get_ext_old hMok (hMk _ _ a3) _)) (ne_key hMok (hMk _ _ a3) 1).symm b l⟩
  refine CL.of (f80_none (o2 _ _) (kn' _ _) (hw1 _ _) hN 200 ((i : Int) + 1) _ _ _ _ _ _ _ _ _ _ _ _ _ _ _ _ _ _ _ _ _ _ _ _ _ _) ?_
  rintro _ G' ⟨rfl, ⟨wv', h1, h2⟩, h3, h4⟩
  simp only [go_sem]
  have hnw : ∀ {j x}, G.get j = some (.row true 2 [x]) → j ∉ kn :: wk wv := fun {j x} hb hm => by
    rcases List.mem_cons.1 hm with rfl | hm
    · rw [hn] at hb; cases hb
    · rcases hw with ⟨_, rfl⟩ | ⟨kw, a1, rfl, a3⟩
      · cases hm
      · cases ws with
        | nil => cases hm
        | cons w ws =>
          rw [List.mem_singleton.1 hm, a3] at hb; cases hb
  have hd2 := h4.keep _ _ (hnw h.disk) (Heap.get_set_there hh1.ok hd1 (ne_key hMok (hMk _ _ h.disk) 1).symm _ _)
  have hj2 := h4.keep _ _ (hnw h.jour) (Heap.get_set_there hh1.ok hj1 (ne_key hMok (hMk _ _ h.jour) 1).symm _ _)
  have hh2 := ((hh1.cell w1 _).ext []).kp h4 h3 fun j hm => by
    refine ⟨fun e => hnw hh.row (e ▸ hm), fun b hb => ?_⟩
    rcases List.mem_cons.1 hm with rfl | hm
    · rw [kn'] at hb; cases hb; exact foreign_node
    · have hw2 := hw1 (.row true 4 [[.int .i64 0, .str [], .int .i64 ver, .nils]]) []
      rcases hw2 with ⟨_, rfl⟩ | ⟨kw, a1, rfl, a3⟩
      · cases hm
      · cases ws with
        | nil => cases hm
        | cons w ws =>
          rw [List.mem_singleton.1 hm, a3] at hb; cases hb; exact foreign_wide (by decide)
  exact ⟨t, ver, ⟨h3, ⟨wv', h1, h2⟩, hd2, hj2, ⟨_, hh2⟩⟩, hPt, hNt⟩
end
end Go.Proofs
/- Laid-out code reckoned whole; a call that has no addresses, in any memory. -/

set_option linter.all false
namespace Go.Ev
variable {P : Program} {φ ψ : Phi} {H : Heap} {w u : World} {T : Tr AV}

noncomputable def evC (E : FuncId → List AV → Heap → RC) (n : Nat) : CC → Tr AV → Heap → Res :=
  Nat.rec (motive := fun _ => CC → Tr AV → Heap → Res) (fun _ _ _ => .fail) (fun _ ih c T H => CC.rec (motive := fun _ => Res)
    (.ok .norm T H) (.ok .ret T H) (fun n => .ok (.exit n) T H)
    (fun l => stepsC eqAV E l T H .fail fun T H => .ok .norm T H) (fun l => stepsC eqAV E l T H .fail fun T H => .ok .norm T H)
    (fun x y _ _ => onNorm (ih x T H) (ih y)) (fun c x y _ _ => onCond (some c) T (ih x T H) (ih y T H))
    (fun id x _ => onBlock (ih x T H) id) (fun x _ => onNorm (ih x T H) (ih (.loop x))) c) n

theorem steps_goes {E : FuncId → List AV → Heap → RC} (hE : Good P E) : ∀ (l : List Stp) (T : Tr AV) (H : Heap) {e : Ex} {T' : Tr AV} {H' : Heap} {K : Tr AV → Heap → Prop},
    stepsC eqAV E l T H .fail (fun T H => Res.ok .norm T H) = .ok e T' H' → (e = .norm → K T' H') → Stp.goes P l T H K
  | [], T, H, e, T', H', K, h, hk => by
    have h : Res.ok .norm T H = .ok e T' H' := h
    cases h; exact hk rfl
  | .mk g dst gd re :: l, T, H, e, T', H', K, h, hk => by
    have h : gdC T gd .fail
      (R1.rec (motive := fun _ => Res) .fail (fun v G => putT T dst v fun T => reC eqAV T G re .fail (stepsC eqAV E l T G .fail fun T H => Res.ok .norm T H)) (fun fn args => RC.rec (motive := fun _ => Res) .fail (fun v G => putT T dst v fun T => reC eqAV T G re .fail (stepsC eqAV E l T G .fail fun T H => Res.ok .norm T H)) (E fn args H)) (g T H))
      (putT T dst (.tup []) fun T => stepsC eqAV E l T H .fail fun T H => Res.ok .norm T H) = .ok e T' H' := h
    show gdC T gd False ((g T H).go P H fun v G => putT T dst v fun T => Stp.goes P l T G K) (putT T dst (.tup []) fun T => Stp.goes P l T H K)
    rcases gdC_sel T gd with h1 | h1 | h1 <;> rw [h1] at h ⊢
    · cases h
    · cases hg : g T H with
      | fail => rw [hg] at h; cases h
      | val v G =>
        rw [hg] at h
        have h : (putT T dst v fun T => reC eqAV T G re .fail (stepsC eqAV E l T G .fail fun T H => Res.ok .norm T H)) = .ok e T' H' := h
        show putT T dst v fun T => Stp.goes P l T G K
        rw [putD_eq] at h ⊢
        rcases reC_sel eqAV (putD T dst v) G re with h2 | ⟨_, h2⟩ <;> rw [h2] at h
        · cases h
        · exact steps_goes hE l _ _ h hk
      | call f args =>
        rw [hg] at h
        cases hc : E f args H with
        | fail =>
          have h : RC.rec (motive := fun _ => Res) .fail (fun v G => putT T dst v fun T => reC eqAV T G re .fail (stepsC eqAV E l T G .fail fun T H => Res.ok .norm T H)) (E f args H) = .ok e T' H' := h
          rw [hc] at h; cases h
        | ok v G =>
          have h : RC.rec (motive := fun _ => Res) .fail (fun v G => putT T dst v fun T => reC eqAV T G re .fail (stepsC eqAV E l T G .fail fun T H => Res.ok .norm T H)) (E f args H) = .ok e T' H' := h
          rw [hc] at h
          have h : (putT T dst v fun T => reC eqAV T G re .fail (stepsC eqAV E l T G .fail fun T H => Res.ok .norm T H)) = .ok e T' H' := h
          have hf : FnOk P f args H fun v' G' => v' = v ∧ G' = G := fun φ w args' ha hw => (hE f args H v G hc φ w args' ha hw).mono fun e u hr => ⟨v, G, ⟨rfl, rfl⟩, hr⟩
          refine hf.mono ?_
          rintro v' G' ⟨rfl, rfl⟩
          rw [putD_eq] at h ⊢
          rcases reC_sel eqAV (putD T dst v') G' re with h2 | ⟨_, h2⟩ <;> rw [h2] at h
          · cases h
          · exact steps_goes hE l _ _ h hk
    · rw [putD_eq] at h ⊢
      exact steps_goes hE l _ _ h hk
theorem steps_goesD {E : FuncId → List AV → Heap → RC} : ∀ (l : List Stp) (T : Tr AV) (H : Heap) {e : Ex} {T' : Tr AV} {H' : Heap} {K : Tr AV → Heap → Prop},
    stepsC eqAV E l T H .fail (fun T H => Res.ok .norm T H) = .ok e T' H' → (e = .norm → K T' H') → Stp.goesD P E eqAV l T H K
  | [], T, H, e, T', H', K, h, hk => by
    have h : Res.ok .norm T H = .ok e T' H' := h
    cases h; exact hk rfl
  | .mk g dst gd re :: l, T, H, e, T', H', K, h, hk => by
    have h : gdC T gd .fail
      (R1.rec (motive := fun _ => Res) .fail (fun v G => putT T dst v fun T => reC eqAV T G re .fail (stepsC eqAV E l T G .fail fun T H => Res.ok .norm T H)) (fun fn args => RC.rec (motive := fun _ => Res) .fail (fun v G => putT T dst v fun T => reC eqAV T G re .fail (stepsC eqAV E l T G .fail fun T H => Res.ok .norm T H)) (E fn args H)) (g T H))
      (putT T dst (.tup []) fun T => stepsC eqAV E l T H .fail fun T H => Res.ok .norm T H) = .ok e T' H' := h
    show gdC T gd False
      (match g T H with
        | .fail => False
        | .val v G => putT T dst v fun T => reC eqAV T G re False (Stp.goesD P E eqAV l T G K)
        | .call f args => match E f args H with | .fail => False | .ok v G => putT T dst v fun T => reC eqAV T G re False (Stp.goesD P E eqAV l T G K))
      (putT T dst (.tup []) fun T => Stp.goesD P E eqAV l T H K)
    rcases gdC_sel T gd with h1 | h1 | h1 <;> rw [h1] at h ⊢
    · cases h
    · cases hg : g T H with
      | fail => rw [hg] at h; cases h
      | val v G =>
        rw [hg] at h
        have h : (putT T dst v fun T => reC eqAV T G re .fail (stepsC eqAV E l T G .fail fun T H => Res.ok .norm T H)) = .ok e T' H' := h
        show putT T dst v fun T => reC eqAV T G re False (Stp.goesD P E eqAV l T G K)
        rw [putD_eq] at h ⊢
        rcases reC_sel eqAV (putD T dst v) G re with h2 | ⟨_, h2⟩ <;> rw [h2] at h ⊢
        · cases h
        · exact steps_goesD l _ _ h hk
      | call f args =>
        rw [hg] at h
        have h : RC.rec (motive := fun _ => Res) .fail (fun v G => putT T dst v fun T => reC eqAV T G re .fail (stepsC eqAV E l T G .fail fun T H => Res.ok .norm T H)) (E f args H) = .ok e T' H' := h
        show (match E f args H with | .fail => False | .ok v G => putT T dst v fun T => reC eqAV T G re False (Stp.goesD P E eqAV l T G K))
        cases hc : E f args H with
        | fail => rw [hc] at h; cases h
        | ok v G =>
          rw [hc] at h
          have h : (putT T dst v fun T => reC eqAV T G re .fail (stepsC eqAV E l T G .fail fun T H => Res.ok .norm T H)) = .ok e T' H' := h
          show putT T dst v fun T => reC eqAV T G re False (Stp.goesD P E eqAV l T G K)
          rw [putD_eq] at h ⊢
          rcases reC_sel eqAV (putD T dst v) G re with h2 | ⟨_, h2⟩ <;> rw [h2] at h ⊢
          · cases h
          · exact steps_goesD l _ _ h hk
    · rw [putD_eq] at h ⊢
      exact steps_goesD l _ _ h hk
theorem steps_norm {E : FuncId → List AV → Heap → RC} {l : List Stp} {T : Tr AV} {H : Heap} {e : Ex} {T' : Tr AV} {H' : Heap} (h : stepsC eqAV E l T H .fail (fun T H => Res.ok .norm T H) = .ok e T' H') : e = .norm := by
  rw [stepsC_eq] at h
  split at h
  · cases h; rfl
  · cases h

theorem evC_sound {E : FuncId → List AV → Heap → RC} (hE : Good P E) {N : Nat} {H0 : Heap} : ∀ (n : Nat) (c : CC) (T : Tr AV) (H : Heap) {e : Ex} {T' : Tr AV} {H' : Heap}, evC E n c T H = .ok e T' H' →
    ∀ {Q : Ex → Tr AV → Heap → Prop}, Q e T' H' → TriC P N H0 c T H Q := by
  intro n
  induction n using Nat.strongRecOn with
  | _ n ih =>
    intro c T H e T' H' h Q hq
    cases n with
    | zero => cases h
    | succ n =>
      have ih' := fun c T H {e T' H'} h {Q} hq => ih n (Nat.lt_succ_self n) c T H (e := e) (T' := T') (H' := H') h (Q := Q) hq
      cases c with
      | skip => cases h; exact .skip hq
      | ret => cases h; exact .ret hq
      | exit m => cases h; exact .exit hq
      | region l =>
        have h : stepsC eqAV E l T H .fail (fun T H => Res.ok .norm T H) = .ok e T' H' := h
        have := steps_norm h; subst this
        exact .region (steps_goes hE l T H h fun _ => hq)
      | regionD l =>
        have h : stepsC eqAV E l T H .fail (fun T H => Res.ok .norm T H) = .ok e T' H' := h
        have := steps_norm h; subst this
        exact .regionD hE (fun a b e => eqAV_eq e) (steps_goesD l T H h fun _ => hq)
      | seq x y =>
        have h : onNorm (evC E n x T H) (evC E n y) = .ok e T' H' := h
        refine .seq ?_
        cases h1 : evC E n x T H with
        | fail => rw [h1] at h; cases h
        | ok e1 T1 H1 =>
          rw [h1] at h
          refine ih' x T H h1 ?_
          cases e1 with
          | norm => exact ih' y T1 H1 h hq
          | exit m => cases h; exact hq
          | ret => cases h; exact hq
      | cond o x y =>
        have h : (withX T o .fail fun v => asBoolC v .fail fun b => bif' b (evC E n x T H) (evC E n y T H)) = .ok e T' H' := h
        rcases withX_eq T o Res.fail (fun v => asBoolC v .fail fun b => bif' b (evC E n x T H) (evC E n y T H)) with ⟨_, e1⟩ | ⟨v, hv, e1⟩ <;> rw [e1] at h
        · cases h
        · cases v <;> first | (cases h; done) | skip
          rename_i b
          cases b
          · exact .condF hv (ih' y T H h hq)
          · exact .condT hv (ih' x T H h hq)
      | block id x =>
        have h : onBlock (evC E n x T H) id = .ok e T' H' := h
        refine .block ?_
        cases h1 : evC E n x T H with
        | fail => rw [h1] at h; cases h
        | ok e1 T1 H1 =>
          rw [h1] at h
          refine ih' x T H h1 ?_
          cases e1 with
          | norm => cases h; exact hq
          | exit m =>
            have h : bif' (Nat.beq m id) (.ok .norm T1 H1) (.ok (.exit m) T1 H1) = Res.ok e T' H' := h
            show (if m = id then _ else _)
            by_cases hm : m = id
            · rw [if_pos hm]; subst hm; rw [show Nat.beq m m = true from Nat.beq_refl m] at h; cases h; exact hq
            · rw [if_neg hm]
              have : Nat.beq m id = false := by cases hb : Nat.beq m id; rfl; exact absurd (Nat.eq_of_beq_eq_true hb) hm
              rw [this] at h; cases h; exact hq
          | ret => cases h; exact hq
      | loop x =>
        refine TriC.loop (fun m T H => m ≤ n + 1 ∧ ∃ e T' H', evC E m (.loop x) T H = .ok e T' H' ∧ Q e T' H') ?_ (m := n + 1) ⟨Nat.le_refl _, e, T', H', h, hq⟩
        rintro m T H ⟨hm, e, T', H', h, hq⟩
        cases m with
        | zero => cases h
        | succ m =>
          have h : onNorm (evC E m x T H) (evC E m (.loop x)) = .ok e T' H' := h
          cases h1 : evC E m x T H with
          | fail => rw [h1] at h; cases h
          | ok e1 T1 H1 =>
            rw [h1] at h
            refine ih m (by omega) x T H h1 ?_
            cases e1 with
            | norm => exact ⟨m, Nat.lt_succ_self m, by omega, e, T', H', h, hq⟩
            | exit k => cases h; exact hq
            | ret => cases h; exact hq

/-! ### A call that has no addresses -/
def AV.flat : AV → Bool
  | .bool _ | .int _ _ | .str _ | .nilp | .nils | .nilf | .nili | .nilm => true
  | _ => false
theorem flat_rel {v : AV} {x : Value} (hf : v.flat = true) (h : VRel P φ v x) (ψ : Phi) : VRel P ψ v x := by
  cases h <;> first | (cases hf; done) | skip
  · exact .bool _
  · exact .int _ _
  · exact .str _ _ (by assumption)
  · exact .nilp
  · exact .nils
  · exact .nilf
  · exact .nili
  · exact .nilm
theorem flats_rel (ψ : Phi) {l : List AV} {l' : List Value} (hf : l.all AV.flat = true) (h : VRels P φ l l') : VRels P ψ l l' := by
  induction l generalizing l' with
  | nil => cases h; exact .nil
  | cons v l ih =>
    cases h with
    | cons _ _ v' l' h hs =>
      rw [List.all_cons, Bool.and_eq_true] at hf
      exact .cons _ _ _ _ (flat_rel hf.1 h ψ) (ih hf.2 hs)
/-- memory without anything -/
noncomputable def hp0 : Heap := .mk .z .lf
theorem hp0_get (k : K) : hp0.get k = none := Tr.get_lf k
theorem WRel.to0 (hw : WRel P φ H w) : WRel P (fun _ => none) hp0 w := by
  refine ⟨⟨fun k a h => (by cases h), fun k b h => (by rw [hp0_get] at h; cases h), fun k b a h => (by rw [hp0_get] at h; cases h), fun j k c d x y _ h => (by rw [hp0_get] at h; cases h), fun k a h => (by cases h)⟩, fun g v hm => ⟨(hw.rom g v hm).1, ?_⟩⟩
  rintro ⟨k, c, a, hk, _⟩
  rw [hp0_get] at hk; cases hk
theorem FnOk.lift0 {f : FuncId} {args : List AV} {v : AV} (ha : args.all AV.flat = true) (hv : v.flat = true) (h : FnOk P f args hp0 fun r _ => r = v) : FnOk P f args H fun r G => r = v ∧ G = H := by
  intro φ w args' hargs hw
  refine (h (fun _ => none) w args' (flats_rel _ ha hargs) hw.to0).mono ?_
  rintro e u ⟨_, G, rfl, ψ, x, rfl, hx, hwu, hE⟩
  have hno : ∀ b, b < w.heap.size → u.heap[b]? = w.heap[b]? := by
    intro b hb
    refine hE.keeps b hb ?_
    rintro ⟨k, c, a, hk, _⟩
    rw [hp0_get] at hk; cases hk
  exact ⟨_, H, ⟨rfl, rfl⟩, φ, x, rfl, flat_rel hv hx φ, hw.grows hE.size hno, ⟨fun _ _ => rfl, Nat.le_refl _, hE.size, fun b hb _ => hno b hb, fun _ _ _ => rfl, fun _ _ h => h, hE.os, hE.tape, hE.output⟩⟩
end Go.Ev
/- Known answers handed to the evaluator; slices.Insert at a slice of one's own. -/

set_option linter.all false
namespace Go.Ev
variable {P : Program} {φ : Phi} {H : Heap}

noncomputable def X0 : Orc := fun _ _ _ => none
theorem good_X0 : GoodX P X0 := fun _ _ _ _ h => by cases h
/-- one function more is known -/
noncomputable def orX (F : FuncId) (A : List AV → Heap → Option RC) (X : Orc) : Orc := fun f args H => bif' (Nat.beq f F) (A args H) (X f args H)
theorem good_orX {F : FuncId} {A : List AV → Heap → Option RC} {X : Orc} (hA : ∀ args H v G, A args H = some (.ok v G) → FnOk P F args H fun v' G' => v' = v ∧ G' = G) (hX : GoodX P X) : GoodX P (orX F A X) := by
  intro f args H r h v G hr
  unfold orX at h
  cases hb : Nat.beq f F with
  | true =>
    rw [hb, bif_true] at h
    have := Nat.eq_of_beq_eq_true hb; subst this; subst hr
    exact hA args H v G h
  | false => rw [hb, bif_false] at h; exact hX f args H r h v G hr

noncomputable def insOwnA (esz bytes : Nat) (x : List AV) (kv k : K) (m n : Nat) (rows : List (List AV)) (H : Heap) : Option RC :=
  bif' (Nat.beq rows.length n) (bif' (K.beq kv k) none (bif' (Nat.ble m n) (bif' (Nat.ble (n + 1) 4294967295) (bif' (Nat.ble ((2 * (n + 1) + 192) * bytes) 281474976710656)
    (fL (rows.take m ++ x :: rows.drop m) fun rows => H.setC k .dead fun H => H.addC (.row true esz rows) fun k H => fN (n + 1) fun n => some (.ok (.slice k 0 n esz false n) H)) none) none) none)) none
noncomputable def insA (esz bytes : Nat) (args : List AV) (H : Heap) : Option RC :=
  match args with
  | [s, .int .i64 (.ofNat m), .slice kv 0 1 es true 1] => bif' (Nat.beq es esz) (match H.get kv with
    | some (.row true es1 [x]) => bif' (Nat.beq es1 esz) (match s with
      | .nils => bif' (Nat.beq m 0) (bif' (Nat.ble (194 * bytes) 281474976710656) (H.addC (.row true esz [x]) fun k H => some (.ok (.slice k 0 1 esz false 1) H)) none) none
      | .slice k 0 n es2 ex cap => bif' (Nat.beq es2 esz) (match H.get k with
        | some (.row true es3 rows) => bif' (Nat.beq es3 esz) (match n, ex, rows with
          | 0, true, [] => bif' (Nat.beq cap 0) (bif' (Nat.beq m 0) (bif' (Nat.ble (194 * bytes) 281474976710656) (H.addC (.row true esz [x]) fun k H => some (.ok (.slice k 0 1 esz false 1) H)) none) none) none
          | n + 1, false, rows => bif' (Nat.beq cap (n + 1)) (insOwnA esz bytes x kv k m (n + 1) rows H) none
          | _, _, _ => none) none
        | _ => none) none
      | _ => none) none
    | _ => none) none
  | _ => none
theorem insA_sound {F : FuncId} {esz bytes : Nat} {zero : List AV} (hf : InsFn P F esz bytes zero) (args : List AV) (H : Heap) (v : AV) (G : Heap) (h : insA esz bytes args H = some (.ok v G)) : FnOk P F args H fun v' G' => v' = v ∧ G' = G := by
  unfold insA at h
  split at h
  case h_2 => cases h
  rename_i s m kv es
  have b1 : ∀ {α : Type} (a b : Nat) (x : Option α) (y : α), bif' (Nat.beq a b) x none = some y → a = b ∧ x = some y := by
    intro α a b x y e
    cases hb : Nat.beq a b with
    | true => rw [hb] at e; exact ⟨Nat.eq_of_beq_eq_true hb, e⟩
    | false => rw [hb] at e; cases e
  have b2 : ∀ {α : Type} (a b : Nat) (x : Option α) (y : α), bif' (Nat.ble a b) x none = some y → a ≤ b ∧ x = some y := by
    intro α a b x y e
    cases hb : Nat.ble a b with
    | true => rw [hb] at e; exact ⟨Nat.le_of_ble_eq_true hb, e⟩
    | false => rw [hb] at e; cases e
  obtain ⟨rfl, h⟩ := b1 _ _ _ _ h
  split at h
  case h_2 => cases h
  rename_i es1 x hv
  obtain ⟨rfl, h⟩ := b1 _ _ _ _ h
  split at h
  case h_3 => cases h
  · obtain ⟨rfl, h⟩ := b1 _ _ _ _ h
    obtain ⟨hb, h⟩ := b2 _ _ _ _ h
    rw [Heap.addC_eq] at h
    cases h
    exact insert_nil hf hv hb
  · rename_i k n es2 ex cap g1 g2
    clear g1 g2
    obtain ⟨rfl, h⟩ := b1 _ _ _ _ h
    split at h
    case h_2 => cases h
    rename_i es3 rows hg
    obtain ⟨rfl, h⟩ := b1 _ _ _ _ h
    split at h
    case h_3 => cases h
    · obtain ⟨e1, h⟩ := b1 _ _ _ _ h
      obtain ⟨e2, h⟩ := b1 _ _ _ _ h
      obtain ⟨hb, h⟩ := b2 _ _ _ _ h
      rw [Heap.addC_eq] at h
      cases h
      rw [e1, e2]
      exact insert_zero hf hv hg hb
    · rename_i n rows'
      obtain ⟨e1, h⟩ := b1 _ _ _ _ h
      rw [e1]
      unfold insOwnA at h
      obtain ⟨hl, h⟩ := b1 _ _ _ _ h
      cases hk : K.beq kv k with
      | true => rw [hk] at h; cases h
      | false =>
      rw [hk, bif_false] at h
      have hkk : kv ≠ k := fun e => by rw [(K.beq_iff _ _).2 e] at hk; cases hk
      obtain ⟨hm, h⟩ := b2 _ _ _ _ h
      obtain ⟨hn, h⟩ := b2 _ _ _ _ h
      obtain ⟨hb, h⟩ := b2 _ _ _ _ h
      rw [fL_eq, Heap.setC_eq, Heap.addC_eq, fN_eq] at h
      cases h
      have := insert_own hf hkk hv hg (by omega) (by omega) (by omega) (by rw [hl]; exact hb) (i := m)
      rw [hl] at this
      exact this
end Go.Ev
/- Known answers: errors.Is and errors.As at numbers. -/

set_option linter.all false
namespace Go.Ev
variable {P : Program} {φ : Phi} {H : Heap} {w : World}
/-- errors.Is of a number (of type t), or none -/
noncomputable def isA (t : Nat) (args : List AV) (H : Heap) : Option RC :=
  match args with
  | [.nili, .iface t2 (.int .i64 b)] => bif' (Nat.beq t2 t) (some (.ok (.bool false) H)) none
  | [.iface t1 (.int .i64 a), .iface t2 (.int .i64 b)] => bif' (Nat.beq t1 t) (bif' (Nat.beq t2 t) (eqI a b fun z => some (.ok (.bool z) H)) none) none
  | _ => none
/-- errors.As of a number (of type t), or none, at a number's pointer (of type tp), at one of another type (tb) -/
noncomputable def asA (t tp tb : Nat) (args : List AV) (H : Heap) : Option RC :=
  match args with
  | [.nili, _] => some (.ok (.bool false) H)
  | [.iface t1 (.int .i64 a), .iface t2 (.ptr k 0)] => bif' (Nat.beq t1 t) (bif' (Nat.beq t2 tb) (some (.ok (.bool false) H)) (bif' (Nat.beq t2 tp)
    (match H.get k with
      | some (.row true 1 [[x]]) => H.setC k (.row true 1 [[.int .i64 a]]) fun H => some (.ok (.bool true) H)
      | _ => none) none)) none
  | _ => none
theorem cell_of_row (hw : WRel P φ H w) {k : K} {x : AV} {a : At} (hk : H.get k = some (.row true 1 [[x]])) (hφ : φ k = some a) : ∃ v, w.cell? ⟨a.b, a.o, none⟩ = some v ∧ VRel P φ x v ∧ w.frozen? ⟨a.b, a.o, none⟩ = false := by
  obtain ⟨hp, _, pre, vs, post, e, lo, hi, g1, g2, g3, g4, g5, g6⟩ := hw.blk k _ a hk hφ
  have g5 : VRels P φ [x] vs := g5
  cases g5 with
  | cons _ _ v l h1 h2 =>
    cases h2
    refine ⟨v, ?_, h1, ?_⟩
    · simp only [World.cell?, g1]
      simp [← g2]
    · simp only [World.frozen?, g1]
      have h4 := g4 rfl
      simp at g3 ⊢
      omega
/-- a call that writes a number into a cell -/
theorem FnOk.of_calls_set {f : FuncId} {args : List AV} {k : K} {x y v : AV} {y' : Value} (hk : H.get k = some (.row true 1 [[x]])) (hy : ∀ φ, VRel P φ y y') (hone : y'.oneCell' = true) (hv : ∀ φ, ∃ v', VRel P φ v v')
    (h : ∀ φ w args', VRels P φ args args'.toList → WRel P φ H w → ∃ a, φ k = some a ∧ ∀ old, w.cell? ⟨a.b, a.o, none⟩ = some old → w.frozen? ⟨a.b, a.o, none⟩ = false →
      Calls P f args' w fun e u => (∃ v', e = .returned v' ∧ VRel P φ v v') ∧ ∃ w4, Grows w w4 ∧ u = w4.setCell ⟨a.b, a.o, none⟩ y') :
    FnOk P f args H fun r G => r = v ∧ G = H.set k (.row true 1 [[y]]) := by
  intro φ w args' ha hw
  obtain ⟨a, hφ, hc⟩ := h φ w args' ha hw
  obtain ⟨old, h1, _, h2⟩ := cell_of_row hw hk hφ
  refine (hc old h1 h2).mono ?_
  rintro e u ⟨⟨v', rfl, hv'⟩, w4, hg, rfl⟩
  have hw4 := hw.grows hg.size hg.old
  obtain ⟨old4, h14, _, h24⟩ := cell_of_row hw4 hk hφ
  obtain ⟨u, hst, hwu, hE⟩ := storeCells_sound (off := 0) (vals := [y]) (vals' := [y']) (rows' := [[y]]) hw4 hk hφ (.cons _ _ _ _ (hy φ) .nil) (by intro z hz; rw [List.mem_singleton.1 hz]; exact hone) (put_rows 1 [[x]] [[y]] 0 (by intro z hz; rw [List.mem_singleton.1 hz]; rfl) (by intro z hz; rw [List.mem_singleton.1 hz]; rfl) (Nat.le_refl 1))
  have hst' : (storeCells ⟨a.b, a.o, none⟩ [y']).run P w4 = .ok () (w4.setCell ⟨a.b, a.o, none⟩ y') := by
    simp only [storeCells, Addr.add, Sem.run_bind, Nat.add_zero, if_true]
    rw [run_store P w4 _ _ _ hone, h14]
    simp [h24]
  rw [Nat.add_zero] at hst
  rw [hst] at hst'
  injection hst' with _ hu
  subst hu
  refine ⟨v, _, ⟨rfl, rfl⟩, φ, v', rfl, hv', hwu, ?_⟩
  exact ⟨hE.phi, hE.nx, Nat.le_trans hg.size hE.size, fun b hb hn => by rw [hE.keeps b (Nat.lt_of_lt_of_le hb hg.size) hn, hg.old b hb], hE.hidden, fun b hb ho => hE.own b (Nat.lt_of_lt_of_le hb hg.size) ho, hE.os.trans hg.os, hE.tape.trans hg.tape, hE.output.trans hg.output⟩
theorem two_args {φ : Phi} {a b : AV} {args : Array Value} (h : VRels P φ [a, b] args.toList) : ∃ v u, args = #[v, u] ∧ VRel P φ a v ∧ VRel P φ b u := by
  cases hl : args.toList with
  | nil => rw [hl] at h; cases h
  | cons v l =>
    rw [hl] at h
    cases h with
    | cons _ _ _ _ h1 h2 =>
      cases h2 with
      | cons _ _ u _ h3 h4 =>
        cases h4
        exact ⟨v, u, by rw [← Array.toArray_toList (xs := args), hl], h1, h3⟩
/-- the answer is yes -/
noncomputable def okB (r : RC) : Bool := RC.rec (motive := fun _ => Bool) false (fun v _ => asBoolC v false fun b => b) r
theorem okB_eq {r : RC} (h : okB r = true) : ∃ G, r = .ok (.bool true) G := by
  cases r with
  | fail => cases h
  | ok v G =>
    cases v <;> first | (cases h; done) | skip
    rename_i b
    cases b
    · cases h
    · exact ⟨G, rfl⟩
theorem FnOk.of_evB {X : Orc} (hX : GoodX P X) {n : Nat} {f : FuncId} {args : List AV} (h : okB (evFn P X n f args H) = true) : FnOk P f args H fun v _ => v = .bool true := by
  obtain ⟨G, hG⟩ := okB_eq h
  exact (FnOk.of_ev hX hG).mono fun _ _ h => h.1
end Go.Ev
/- errors.As, where the error is a number and another type is asked for: by its contract. -/

set_option linter.all false
namespace Go.Proofs
open Go.RowKit Go.Extern.Stop Go.Stop Go.Extern
theorem Tryz.as_valueOfB (t : Addr) (w : World) : (ReflectliteValue.unpack (.iface 206 (.pointer (some t)))).run Tryz.prog w
    = .ok (.agg #[.pointer (some ⟨2, 206, none⟩), .pointer (some ⟨w.heap.size, 0, none⟩), .int .u64 150]) (w.alloc (.cells #[.pointer (some t)] 206)) := by kernel_rfl
theorem Tryz.as_typeB (a : Addr) (w : World) : (ReflectliteValue.methodAny (ReflectliteValue.valueError "reflectlite.Value.Type" 0) (fun t _ _ _ => ReflectliteType.toType t) #[.agg #[.pointer (some ⟨2, 206, none⟩), .pointer (some a), .int .u64 150]]).run Tryz.prog w
    = .ok (.iface 242 (.agg #[.pointer (some ⟨2, 206, none⟩)])) w := by kernel_rfl
theorem Tryz.as_kindB (w : World) : ((ReflectliteType.abiMethod fun t => (fun a : Nat => Value.int IntKind.u8 (a : Int)) <$> Rtype.kind t) #[.pointer (some ⟨2, 206, none⟩)]).run Tryz.prog w = .ok (.int .u8 22) w := by kernel_rfl
theorem Tryz.as_kindS (w : World) : ((ReflectliteType.abiMethod fun t => (fun a : Nat => Value.int IntKind.u8 (a : Int)) <$> Rtype.kind t) #[.pointer (some ⟨2, 122, none⟩)]).run Tryz.prog w = .ok (.int .u8 25) w := by kernel_rfl
theorem Tryz.as_partsB (a : Addr) (w : World) : (ReflectliteValue.parts (.agg #[.pointer (some ⟨2, 206, none⟩), .pointer (some a), .int .u64 150])).run Tryz.prog w = .ok (some (206, a, 150)) w := by kernel_rfl
theorem Tryz.as_isNilB (a p : Addr) (W : World) (ha : W.cell? a = some (.pointer (some p))) :
    (ReflectliteValue.method (ReflectliteValue.valueError "reflectlite.Value.IsNil" 0) ReflectliteValue.isNil #[.agg #[.pointer (some ⟨2, 206, none⟩), .pointer (some a), .int .u64 150]]).run Tryz.prog W = .ok (.bool false) W := by
  rw [rlm]
  simp only [Sem.run_bind, Tryz.as_partsB, Result.andThen]
  simp [ReflectliteValue.isNil, loadVar, isAgg, underlying, Tryz.underlying206, ha, Result.andThen]
theorem Tryz.as_elemB (w : World) : (ReflectliteType.method ReflectliteType.elem #[.agg #[.pointer (some ⟨2, 206, none⟩)]]).run Tryz.prog w = .ok (.iface 242 (.agg #[.pointer (some ⟨2, 122, none⟩)])) w := by kernel_rfl
theorem Tryz.as_implementsS (w : World) : (ReflectliteType.relation "Implements" ReflectliteType.implements_ #[.agg #[.pointer (some ⟨2, 122, none⟩)], .iface 242 (.agg #[.pointer (some ⟨2, 72, none⟩)])]).run Tryz.prog w = .ok (.bool true) w := by kernel_rfl
theorem Tryz.as_assignableS (w : World) : (ReflectliteType.relation "AssignableTo" ReflectliteType.assignableTo #[.agg #[.pointer (some ⟨2, 118, none⟩)], .iface 242 (.agg #[.pointer (some ⟨2, 122, none⟩)])]).run Tryz.prog w = .ok (.bool false) w := by kernel_rfl
theorem Tryz.noAs (v : Value) (xT : TypeId) (w : World) : (Instr.typeAssert (.iface 118 v) xT 283 true).run Tryz.prog w = .ok (.tuple #[.nilIface, .bool false]) w := run_typeAssert_lacksB Tryz.underlying283 (by kernel_rfl) (by kernel_rfl) v xT w
set_option maxHeartbeats 4000000 in
theorem as_miss (e : Int) (t : Addr) (w : World) (hg : w.cell? ⟨0, 0, none⟩ = some (.iface 242 (.agg #[.pointer (some ⟨2, 72, none⟩)]))) :
    Calls Tryz.prog 105 #[.iface 118 (.int .i64 e), .iface 206 (.pointer (some t))] w fun ev w' => ev = .returned (.bool false) ∧ w' = (((w.alloc (.cells #[.pointer (some t)] 206)).alloc (.cells #[.pointer (some ⟨2, 206, none⟩), .pointer (some ⟨w.heap.size, 0, none⟩), .int .u64 150] 225)).alloc (.cells #[.pointer (some ⟨2, 206, none⟩), .pointer (some ⟨w.heap.size, 0, none⟩), .int .u64 150] 225)) := by
  have h6 := @run_callFunc_extern Tryz.prog 161 _ (fun args => ReflectliteValue.unpack (args.getD 0 (.tuple #[]))) Tryz.func161 (by kernel_rfl) (by kernel_rfl) (by kernel_rfl) (by kernel_rfl)
  have h7 := @run_callFunc_extern Tryz.prog 162 _ (ReflectliteValue.methodAny (ReflectliteValue.valueError "reflectlite.Value.Type" 0) (fun t _ _ _ => ReflectliteType.toType t)) Tryz.func162 (by kernel_rfl) (by kernel_rfl) (by kernel_rfl) (by kernel_rfl)
  have h8 := @run_callFunc_extern Tryz.prog 163 _ (ReflectliteValue.method (ReflectliteValue.valueError "reflectlite.Value.IsNil" 0) ReflectliteValue.isNil) Tryz.func163 (by kernel_rfl) (by kernel_rfl) (by kernel_rfl) (by kernel_rfl)
  have h27 := @run_callFunc_extern Tryz.prog 300 _ (ReflectliteType.abiMethod fun t => do pure (.int .u8 (← Rtype.kind t))) Tryz.func300 (by kernel_rfl) (by kernel_rfl) (by kernel_rfl) (by kernel_rfl)
  have h37 := @run_callFunc_extern Tryz.prog 312 _ (ReflectliteType.method ReflectliteType.elem) Tryz.func312 (by kernel_rfl) (by kernel_rfl) (by kernel_rfl) (by kernel_rfl)
  have h38 := @run_callFunc_extern Tryz.prog 313 _ (ReflectliteType.relation "Implements" ReflectliteType.implements_) Tryz.func313 (by kernel_rfl) (by kernel_rfl) (by kernel_rfl) (by kernel_rfl)
  have h10 := @run_callFunc_extern Tryz.prog 127 _ ReflectliteType.typeOf Tryz.func127 (by kernel_rfl) (by kernel_rfl) (by kernel_rfl) (by kernel_rfl)
  have h35 := @run_callFunc_extern Tryz.prog 310 _ (ReflectliteType.relation "AssignableTo" ReflectliteType.assignableTo) Tryz.func310 (by kernel_rfl) (by kernel_rfl) (by kernel_rfl) (by kernel_rfl)
  have tO := Tryz.as_typeOf25
  have mA := Tryz.as_methodAssignableTo
  have a25 := Tryz.as_assignableS
  have f6 := Tryz.as_valueOfB
  have f7 := Tryz.as_typeB
  have mK := Tryz.as_methodKind
  have mE := Tryz.as_methodElem
  have mI := Tryz.as_methodImplements
  have k27 := Tryz.as_kindB
  have k25 := Tryz.as_kindS
  have e27 := Tryz.as_elemB
  have i25 := Tryz.as_implementsS
  have n1 := Tryz.noAs
  have n2 := Tryz.noUnwrap
  have n3 := Tryz.noUnwraps
  have n8 := Tryz.as_isNilB ⟨w.heap.size, 0, none⟩ t ((w.alloc (.cells #[.pointer (some t)] 206)).alloc (.cells #[.pointer (some ⟨2, 206, none⟩), .pointer (some ⟨w.heap.size, 0, none⟩), .int .u64 150] 225)) (by simp)
  have hlt : 0 < w.heap.size := by
    rcases Nat.eq_zero_or_pos w.heap.size with h0 | h
    · simp [World.cell?, h0] at hg
    · exact h
  have hg2 : ((w.alloc (.cells #[.pointer (some t)] 206)).alloc (.cells #[.pointer (some ⟨2, 206, none⟩), .pointer (some ⟨w.heap.size, 0, none⟩), .int .u64 150] 225)).cell? ⟨0, 0, none⟩ = some (.iface 242 (.agg #[.pointer (some ⟨2, 72, none⟩)])) := by
    rw [World.cell?_alloc_lt _ _ ⟨0, 0, none⟩ (by simp), World.cell?_alloc_lt _ _ ⟨0, 0, none⟩ hlt]; exact hg
  go_enter Tryz.func105, Tryz.ntmps105
  go_wp2
  refine wp_loop_rounds 1 ?_
  rw [rounds_succ]
  go_wp2
  go_ret
  exact ⟨rfl, rfl⟩
end Go.Proofs
/- The functions whose answers are known: slices.Insert, errors.Is, errors.As. -/


set_option linter.all false
set_option maxRecDepth 100000
namespace Go.Proofs
open Go Go.Ev
variable {H : Heap}
theorem ins183 : InsFn Tryz.prog 183 6 72 [.int .i64 0, .int .i64 0, .int .i64 0, .str [], .int .i64 0, .nils] := ⟨⟨Tryz.f183, 220, 221, Tryz.func183, by kernel_rfl, by kernel_rfl, by kernel_rfl, by kernel_rfl⟩, rfl, by decide⟩
theorem ins275 : InsFn Tryz.prog 275 5 56 [.str [], .str [], .int .i64 0, .bool false, .int .i64 0] := ⟨⟨Tryz.f275, 281, 282, Tryz.func275, by kernel_rfl, by kernel_rfl, by kernel_rfl, by kernel_rfl⟩, rfl, by decide⟩
theorem num_inv {φ : Phi} {n : Int} {v : Value} (h : VRel Tryz.prog φ (.iface 118 (.int .i64 n)) v) : v = .iface 118 (.int .i64 n) := by
  cases h with | iface _ _ v' h => cases h; rfl
theorem nil_inv {φ : Phi} {v : Value} (h : VRel Tryz.prog φ .nili v) : v = .nilIface := by cases h; rfl
theorem b1 {α : Type} {a b : Nat} {x : Option α} {y : α} (e : bif' (Nat.beq a b) x none = some y) : a = b ∧ x = some y := by
  cases hb : Nat.beq a b with
  | true => rw [hb] at e; exact ⟨Nat.eq_of_beq_eq_true hb, e⟩
  | false => rw [hb] at e; cases e
theorem is_ok (args : List AV) (H : Heap) (v : AV) (G : Heap) (h : isA 118 args H = some (.ok v G)) : FnOk Tryz.prog 64 args H fun v' G' => v' = v ∧ G' = G := by
  unfold isA at h
  split at h
  case h_3 => cases h
  · obtain ⟨rfl, h⟩ := b1 h
    cases h
    refine FnOk.of_calls fun φ w args' ha hw => ?_
    obtain ⟨x, y, rfl, h1, h2⟩ := two_args ha
    obtain rfl := nil_inv h1
    obtain rfl := num_inv h2
    refine (is_nil _ w).mono ?_
    rintro e w' ⟨rfl, rfl⟩
    exact ⟨⟨_, rfl, .bool _⟩, Grows.refl _⟩
  · obtain ⟨q1, g1⟩ := b1 h
    obtain ⟨q2, g2⟩ := b1 g1
    rw [eqI_eq] at g2
    cases g2
    rw [q1, q2]
    refine FnOk.of_calls fun φ w args' ha hw => ?_
    obtain ⟨x, y, rfl, h1, h2⟩ := two_args ha
    obtain rfl := num_inv h1
    obtain rfl := num_inv h2
    refine (is_num _ _ w).mono ?_
    rintro e w' ⟨rfl, rfl⟩
    refine ⟨⟨_, rfl, ?_⟩, Grows.refl _⟩
    exact .bool _
theorem as_ok (args : List AV) (H : Heap) (v : AV) (G : Heap) (h : asA 118 165 206 args H = some (.ok v G)) : FnOk Tryz.prog 105 args H fun v' G' => v' = v ∧ G' = G := by
  unfold asA at h
  split at h
  case h_3 => cases h
  · cases h
    refine FnOk.of_calls fun φ w args' ha hw => ?_
    obtain ⟨x, y, rfl, h1, h2⟩ := two_args ha
    obtain rfl := nil_inv h1
    refine (as_nil y w).mono ?_
    rintro e w' ⟨rfl, rfl⟩
    exact ⟨⟨_, rfl, .bool _⟩, Grows.refl _⟩
  · rename_i t1 n t2 k
    obtain ⟨q1, h⟩ := b1 h
    rw [q1]
    cases hb : Nat.beq t2 206 with
    | true =>
      rw [hb] at h
      cases h
      obtain rfl := Nat.eq_of_beq_eq_true hb
      refine FnOk.of_calls fun φ w args' ha hw => ?_
      obtain ⟨x, y, rfl, h1, h2⟩ := two_args ha
      obtain rfl := num_inv h1
      cases h2 with
      | iface _ _ u' h2 =>
        cases h2 with
        | ptr _ _ a ha2 =>
          refine (as_miss n ⟨a.b, a.o + 0, none⟩ w (hw.rom 0 _ (List.mem_singleton.2 rfl)).1).mono ?_
          rintro e w' ⟨rfl, rfl⟩
          exact ⟨⟨_, rfl, .bool _⟩, (((Grows.alloc _ _).trans (Grows.alloc _ _)).trans (Grows.alloc _ _))⟩
    | false =>
      rw [hb, bif_false] at h
      obtain ⟨q2, h⟩ := b1 h
      rw [q2]
      split at h
      case h_2 => cases h
      rename_i x hk
      rw [Heap.setC_eq] at h
      cases h
      refine FnOk.of_calls_set (y' := .int .i64 n) hk (fun φ => .int _ _) rfl (fun φ => ⟨_, .bool _⟩) fun φ w args' ha hw => ?_
      obtain ⟨v, u, rfl, h1, h2⟩ := two_args ha
      obtain rfl := num_inv h1
      cases h2 with
      | iface _ _ u' h2 =>
        cases h2 with
        | ptr _ _ a ha2 =>
          refine ⟨a, ha2, fun old ho hf => ?_⟩
          refine (as_hit n ⟨a.b, a.o, none⟩ old w (hw.rom 0 _ (List.mem_singleton.2 rfl)).1 ho hf).mono ?_
          rintro e w' ⟨rfl, rfl⟩
          exact ⟨⟨_, rfl, .bool _⟩, _, (((Grows.alloc _ _).trans (Grows.alloc _ _)).trans (Grows.alloc _ _)).trans (Grows.alloc _ _), rfl⟩
/-- what is known beforehand -/
noncomputable def XK : Orc := orX 183 (insA 6 72) (orX 275 (insA 5 56) (orX 64 (isA 118) (orX 105 (asA 118 165 206) X0)))
theorem good_XK : GoodX Tryz.prog XK := good_orX (insA_sound ins183) (good_orX (insA_sound ins275) (good_orX is_ok (good_orX as_ok good_X0)))
end Go.Proofs
/- The known example: reckoned. -/

set_option linter.all false
set_option maxRecDepth 100000
namespace Go.Proofs
open Go Go.Ev
variable {H : Heap}
theorem known_run : Go.Ev.okB (evFn Tryz.prog XK 100000 8 [] hp0) = true := by kernel_rfl
theorem known_ok : FnOk Tryz.prog 8 [] H fun r G => r = .bool true ∧ G = H := FnOk.lift0 rfl rfl (FnOk.of_evB good_XK known_run)
noncomputable def kA (args : List AV) (H : Heap) : Option RC := match args with
  | [] => some (.ok (.bool true) H)
  | _ => none
theorem kA_ok (args : List AV) (H : Heap) (v : AV) (G : Heap) (h : kA args H = some (.ok v G)) : FnOk Tryz.prog 8 args H fun v' G' => v' = v ∧ G' = G := by
  unfold kA at h
  split at h
  · cases h; exact known_ok
  · cases h
/-- the known example is known, too -/
noncomputable def XL : Orc := orX 8 kA XK
theorem good_XL : GoodX Tryz.prog XL := good_orX kA_ok good_XK
end Go.Proofs
/- What is still to be done, reckoned. -/

set_option linter.all false
namespace Go.Ev
variable {P : Program} {φ ψ : Phi} {H : Heap} {w u : World} {T : Tr AV}

theorem isC_of {β : Type} {eqv : AV → AV → Bool} {T : Tr AV} {k : Option K} {v : AV} (h : Holds eqv T k v) (f c : β) : isC eqv T k v f c = c := by
  rcases isC_sel eqv T k v with h1 | ⟨_, h1⟩
  · exfalso
    cases k with
    | none => have := h1 (β := Bool) true false; cases this
    | some k =>
      obtain ⟨u, hu, he⟩ := h k rfl
      have h2 := h1 (β := Bool) true false
      have h3 : isC eqv T (some k) v true false = Option.rec (motive := fun _ => Bool) true (fun u => bif' (eqv v u) false true) (T.get k) := rfl
      rw [h3, hu] at h2
      have h4 : bif' (eqv v u) false true = true := h2
      rw [he] at h4
      cases h4
  · exact h1 f c
theorem Holds.imp {eqv eqw : AV → AV → Bool} (hi : ∀ a b, eqv a b = true → eqw a b = true) {T : Tr AV} {k : Option K} {v : AV} (h : Holds eqv T k v) : Holds eqw T k v :=
  fun k' hk => by obtain ⟨u, h1, h2⟩ := h k' hk; exact ⟨u, h1, hi _ _ h2⟩
theorem reC_of {β : Type} {eqv eqw : AV → AV → Bool} (hi : ∀ a b, eqv a b = true → eqw a b = true) {T : Tr AV} {H : Heap} : ∀ {re : List Rk}, (∀ r ∈ re, Seen eqv T H r) → ∀ (f c : β), reC eqw T H re f c = c
  | [], _, f, c => rfl
  | .mk g k gd :: re, h, f, c => by
    have hrw : reC eqw T H (.mk g k gd :: re) f c = gdC T gd f (R1.rec (motive := fun _ => β) f (fun v _ => isC eqw T k v f (reC eqw T H re f c)) (fun _ _ => f) (g T H)) (isC eqw T k (.tup []) f (reC eqw T H re f c)) := rfl
    have ih := reC_of hi (T := T) (H := H) (re := re) (fun r hr => h r (List.mem_cons_of_mem _ hr)) f c
    rw [hrw, ih]
    rcases h _ (List.mem_cons_self ..) with ⟨h1, v, G, hg, hh⟩ | ⟨h1, hh⟩
    · rw [h1, hg]
      exact isC_of (hh.imp hi) f c
    · rw [h1]
      exact isC_of (hh.imp hi) f c
theorem eqAV_eqvC (a b : AV) (h : eqAV a b = true) : eqvC a b = true := by
  have := eqAV_eq h; subst this; exact eqvC_refl a
theorem steps_goesDc {E : FuncId → List AV → Heap → RC} : ∀ (l : List Stp) (T : Tr AV) (H : Heap) {e : Ex} {T' : Tr AV} {H' : Heap} {K : Tr AV → Heap → Prop},
    stepsC eqAV E l T H .fail (fun T H => Res.ok .norm T H) = .ok e T' H' → (e = .norm → K T' H') → Stp.goesD P E eqvC l T H K
  | [], T, H, e, T', H', K, h, hk => by
    have h : Res.ok .norm T H = .ok e T' H' := h
    cases h; exact hk rfl
  | .mk g dst gd re :: l, T, H, e, T', H', K, h, hk => by
    have h : gdC T gd .fail
      (R1.rec (motive := fun _ => Res) .fail (fun v G => putT T dst v fun T => reC eqAV T G re .fail (stepsC eqAV E l T G .fail fun T H => Res.ok .norm T H)) (fun fn args => RC.rec (motive := fun _ => Res) .fail (fun v G => putT T dst v fun T => reC eqAV T G re .fail (stepsC eqAV E l T G .fail fun T H => Res.ok .norm T H)) (E fn args H)) (g T H))
      (putT T dst (.tup []) fun T => stepsC eqAV E l T H .fail fun T H => Res.ok .norm T H) = .ok e T' H' := h
    show gdC T gd False
      (match g T H with
        | .fail => False
        | .val v G => putT T dst v fun T => reC eqvC T G re False (Stp.goesD P E eqvC l T G K)
        | .call f args => match E f args H with | .fail => False | .ok v G => putT T dst v fun T => reC eqvC T G re False (Stp.goesD P E eqvC l T G K))
      (putT T dst (.tup []) fun T => Stp.goesD P E eqvC l T H K)
    rcases gdC_sel T gd with h1 | h1 | h1 <;> rw [h1] at h ⊢
    · cases h
    · cases hg : g T H with
      | fail => rw [hg] at h; cases h
      | val v G =>
        rw [hg] at h
        have h : (putT T dst v fun T => reC eqAV T G re .fail (stepsC eqAV E l T G .fail fun T H => Res.ok .norm T H)) = .ok e T' H' := h
        show putT T dst v fun T => reC eqvC T G re False (Stp.goesD P E eqvC l T G K)
        rw [putD_eq] at h ⊢
        rcases reC_sel eqAV (putD T dst v) G re with h2 | ⟨hs, h2⟩ <;> rw [h2] at h
        · cases h
        · rw [reC_of eqAV_eqvC hs]; exact steps_goesDc l _ _ h hk
      | call f args =>
        rw [hg] at h
        have h : RC.rec (motive := fun _ => Res) .fail (fun v G => putT T dst v fun T => reC eqAV T G re .fail (stepsC eqAV E l T G .fail fun T H => Res.ok .norm T H)) (E f args H) = .ok e T' H' := h
        show (match E f args H with | .fail => False | .ok v G => putT T dst v fun T => reC eqvC T G re False (Stp.goesD P E eqvC l T G K))
        cases hc : E f args H with
        | fail => rw [hc] at h; cases h
        | ok v G =>
          rw [hc] at h
          have h : (putT T dst v fun T => reC eqAV T G re .fail (stepsC eqAV E l T G .fail fun T H => Res.ok .norm T H)) = .ok e T' H' := h
          show putT T dst v fun T => reC eqvC T G re False (Stp.goesD P E eqvC l T G K)
          rw [putD_eq] at h ⊢
          rcases reC_sel eqAV (putD T dst v) G re with h2 | ⟨hs, h2⟩ <;> rw [h2] at h
          · cases h
          · rw [reC_of eqAV_eqvC hs]; exact steps_goesDc l _ _ h hk
    · rw [putD_eq] at h ⊢
      exact steps_goesDc l _ _ h hk
theorem evC_wpc {E : FuncId → List AV → Heap → RC} (hE : Good P E) {N : Nat} {H0 : Heap} : ∀ (n : Nat) (c : CC) (T : Tr AV) (H : Heap) {e : Ex} {T' : Tr AV} {H' : Heap}, evC E n c T H = .ok e T' H' →
    ∀ {Q : Ex → Tr AV → Heap → Prop}, Q e T' H' → wpc P E N H0 c T H Q := by
  intro n
  induction n with
  | zero => intro c T H e T' H' h; cases h
  | succ n ih =>
    intro c T H e T' H' h Q hq
    cases c with
    | skip => cases h; exact hq
    | ret => cases h; exact hq
    | exit m => cases h; exact hq
    | region l =>
      have h : stepsC eqAV E l T H .fail (fun T H => Res.ok .norm T H) = .ok e T' H' := h
      have := steps_norm h; subst this
      exact steps_goes hE l T H h fun _ => hq
    | regionD l =>
      have h : stepsC eqAV E l T H .fail (fun T H => Res.ok .norm T H) = .ok e T' H' := h
      have := steps_norm h; subst this
      exact steps_goesDc l T H h fun _ => hq
    | seq x y =>
      have h : onNorm (evC E n x T H) (evC E n y) = .ok e T' H' := h
      show wpc P E N H0 x T H (behind (fun T H => wpc P E N H0 y T H Q) Q)
      cases h1 : evC E n x T H with
      | fail => rw [h1] at h; cases h
      | ok e1 T1 H1 =>
        rw [h1] at h
        refine ih x T H h1 ?_
        cases e1 with
        | norm => exact ih y T1 H1 h hq
        | exit m => cases h; exact hq
        | ret => cases h; exact hq
    | cond o x y =>
      have h : (withX T o .fail fun v => asBoolC v .fail fun b => bif' b (evC E n x T H) (evC E n y T H)) = .ok e T' H' := h
      show condP (evX T o) (wpc P E N H0 x T H Q) (wpc P E N H0 y T H Q)
      rcases withX_eq T o Res.fail (fun v => asBoolC v .fail fun b => bif' b (evC E n x T H) (evC E n y T H)) with ⟨_, e1⟩ | ⟨v, hv, e1⟩ <;> rw [e1] at h
      · cases h
      · rw [hv]
        cases v <;> first | (cases h; done) | skip
        rename_i b
        cases b
        · exact ih y T H h hq
        · exact ih x T H h hq
    | block id x =>
      have h : onBlock (evC E n x T H) id = .ok e T' H' := h
      show wpc P E N H0 x T H (outOf id Q)
      cases h1 : evC E n x T H with
      | fail => rw [h1] at h; cases h
      | ok e1 T1 H1 =>
        rw [h1] at h
        refine ih x T H h1 ?_
        cases e1 with
        | norm => cases h; exact hq
        | exit m =>
          have h : bif' (Nat.beq m id) (.ok .norm T1 H1) (.ok (.exit m) T1 H1) = Res.ok e T' H' := h
          show (if m = id then _ else _)
          by_cases hm : m = id
          · rw [if_pos hm]; subst hm; rw [show Nat.beq m m = true from Nat.beq_refl m] at h; cases h; exact hq
          · rw [if_neg hm]
            have : Nat.beq m id = false := by cases hb : Nat.beq m id; rfl; exact absurd (Nat.eq_of_beq_eq_true hb) hm
            rw [this] at h; cases h; exact hq
        | ret => cases h; exact hq
    | loop x => exact evC_sound hE (n + 1) (.loop x) T H h hq

/-- the items that are left, reckoned behind one another -/
noncomputable def evI (E : FuncId → List AV → Heap → RC) (n : Nat) (k : List It) : Ex → Tr AV → Heap → Res :=
  List.rec (motive := fun _ => Ex → Tr AV → Heap → Res) (fun e T H => .ok e T H)
    (fun i _ ih e T H => Ex.rec (motive := fun _ => Res)
      (It.rec (motive := fun _ => Res)
        (fun l => Res.rec (motive := fun _ => Res) .fail (fun e T H => ih e T H) (stepsC eqAV E l T H .fail fun T H => .ok .norm T H))
        (fun l => Res.rec (motive := fun _ => Res) .fail (fun e T H => ih e T H) (stepsC eqAV E l T H .fail fun T H => .ok .norm T H))
        (fun c => Res.rec (motive := fun _ => Res) .fail (fun e T H => ih e T H) (evC E n c T H))
        (fun _ => ih .norm T H) i)
      (fun m => It.rec (motive := fun _ => Res) (fun _ => ih (.exit m) T H) (fun _ => ih (.exit m) T H) (fun _ => ih (.exit m) T H)
        (fun id => bif' (Nat.beq m id) (ih .norm T H) (ih (.exit m) T H)) i)
      (ih .ret T H) e) k
theorem evI_sound {E : FuncId → List AV → Heap → RC} (hE : Good P E) {N : Nat} {H0 : Heap} (n : Nat) : ∀ (k : List It) (e : Ex) (T : Tr AV) (H : Heap) {e' : Ex} {T' : Tr AV} {H' : Heap}, evI E n k e T H = .ok e' T' H' →
    ∀ {Q : Ex → Tr AV → Heap → Prop}, Q e' T' H' → postW P E N H0 k Q e T H
  | [], e, T, H, e', T', H', h, Q, hq => by cases h; exact hq
  | i :: k, e, T, H, e', T', H', h, Q, hq => by
    have ih := fun e T H h => evI_sound hE (N := N) (H0 := H0) n k e T H (e' := e') (T' := T') (H' := H') h (Q := Q) hq
    cases e with
    | norm =>
      cases i with
      | reg l =>
        have h : Res.rec (motive := fun _ => Res) .fail (fun e T H => evI E n k e T H) (stepsC eqAV E l T H .fail fun T H => .ok .norm T H) = .ok e' T' H' := h
        cases h1 : stepsC eqAV E l T H .fail (fun T H => Res.ok .norm T H) with
        | fail => rw [h1] at h; cases h
        | ok e1 T1 H1 =>
          rw [h1] at h
          have := steps_norm h1; subst this
          exact steps_goes hE l T H h1 fun _ => ih .norm T1 H1 h
      | regD l =>
        have h : Res.rec (motive := fun _ => Res) .fail (fun e T H => evI E n k e T H) (stepsC eqAV E l T H .fail fun T H => .ok .norm T H) = .ok e' T' H' := h
        cases h1 : stepsC eqAV E l T H .fail (fun T H => Res.ok .norm T H) with
        | fail => rw [h1] at h; cases h
        | ok e1 T1 H1 =>
          rw [h1] at h
          have := steps_norm h1; subst this
          exact steps_goesDc l T H h1 fun _ => ih .norm T1 H1 h
      | code c =>
        have h : Res.rec (motive := fun _ => Res) .fail (fun e T H => evI E n k e T H) (evC E n c T H) = .ok e' T' H' := h
        cases h1 : evC E n c T H with
        | fail => rw [h1] at h; cases h
        | ok e1 T1 H1 =>
          rw [h1] at h
          exact evC_wpc hE n c T H h1 (ih e1 T1 H1 h)
      | inB id => exact ih .norm T H h
    | exit m =>
      cases i with
      | reg l => exact ih (.exit m) T H h
      | regD l => exact ih (.exit m) T H h
      | code c => exact ih (.exit m) T H h
      | inB id =>
        have h : bif' (Nat.beq m id) (evI E n k .norm T H) (evI E n k (.exit m) T H) = .ok e' T' H' := h
        show (if m = id then _ else _)
        by_cases hm : m = id
        · rw [if_pos hm]; subst hm; rw [show Nat.beq m m = true from Nat.beq_refl m] at h; exact ih .norm T H h
        · rw [if_neg hm]
          have : Nat.beq m id = false := by cases hb : Nat.beq m id; rfl; exact absurd (Nat.eq_of_beq_eq_true hb) hm
          rw [this] at h; exact ih (.exit m) T H h
    | ret =>
      cases i <;> exact ih .ret T H h
/-- all that is left, reckoned: is the function's answer yes? -/
noncomputable def evB (E : FuncId → List AV → Heap → RC) (n : Nat) (k : List It) (kr : K) (T : Tr AV) (H : Heap) : Bool :=
  Res.rec (motive := fun _ => Bool) false (fun e T _ => Ex.rec (motive := fun _ => Bool)
    (Option.rec (motive := fun _ => Bool) false (fun v => asBoolC v false fun b => b) (T.get kr)) (fun _ => false)
    (Option.rec (motive := fun _ => Bool) false (fun v => asBoolC v false fun b => b) (T.get kr)) e) (evI E n k .norm T H)
theorem evB_sound {E : FuncId → List AV → Heap → RC} (hE : Good P E) {N : Nat} {H0 : Heap} {n : Nat} {k : List It} {kr : K} {T : Tr AV} {H : Heap} (h : evB E n k kr T H = true) {Q : Ex → Tr AV → Heap → Prop}
    (hq : ∀ e T' H', e.over → T'.get kr = some (.bool true) → Q e T' H') : WW P E N H0 k T H Q := by
  unfold evB at h
  cases h1 : evI E n k .norm T H with
  | fail => rw [h1] at h; cases h
  | ok e T1 H1 =>
    rw [h1] at h
    refine evI_sound hE n k .norm T H h1 ?_
    have fin : (Option.rec (motive := fun _ => Bool) false (fun v => asBoolC v false fun b => b) (T1.get kr) : Bool) = true → T1.get kr = some (.bool true) := by
      intro h
      cases hk : T1.get kr with
      | none => rw [hk] at h; cases h
      | some v =>
        rw [hk] at h
        cases v <;> first | (cases h; done) | skip
        rename_i b
        cases b
        · cases h
        · rfl
    cases e with
    | norm => exact hq _ _ _ trivial (fin h)
    | exit m => cases h
    | ret => exact hq _ _ _ trivial (fin h)
/-- a call, and all that is left behind it -/
noncomputable def evCL (E : FuncId → List AV → Heap → RC) (n : Nat) (kr : K) (f : FuncId) (args : List AV) (d : Option K) (k : List It) (T : Tr AV) (H : Heap) : Bool :=
  RC.rec (motive := fun _ => Bool) false (fun v G => putT T d v fun T => evB E n k kr T G) (E f args H)
theorem CL.ev {E : FuncId → List AV → Heap → RC} (hE : Good P E) {N : Nat} {H0 : Heap} {n : Nat} {kr : K} {f : FuncId} {args : List AV} {d : Option K} {k : List It} {T : Tr AV} {H : Heap} {Q : Ex → Tr AV → Heap → Prop}
    (h : evCL E n kr f args d k T H = true) (hq : ∀ e T' H', e.over → T'.get kr = some (.bool true) → Q e T' H') : CL P E N H0 f args d k T H Q := by
  unfold evCL at h
  cases hc : E f args H with
  | fail => rw [hc] at h; cases h
  | ok v G =>
    rw [hc] at h
    have h : (putT T d v fun T => evB E n k kr T G) = true := h
    rw [putD_eq] at h
    have hf : FnOk P f args H fun v' G' => v' = v ∧ G' = G := fun φ w args' ha hw => (hE f args H v G hc φ w args' ha hw).mono fun e u hr => ⟨v, G, ⟨rfl, rfl⟩, hr⟩
    refine CL.of hf ?_
    rintro _ _ ⟨rfl, rfl⟩
    exact evB_sound hE h hq
/-- of all numbers below n -/
noncomputable def allN (n : Nat) (f : Nat → Bool) : Bool := Nat.rec (motive := fun _ => Bool) true (fun i r => bif' (f i) r false) n
theorem allN_of {f : Nat → Bool} : ∀ {n : Nat}, allN n f = true → ∀ i, i < n → f i = true
  | 0, _, i, hi => absurd hi (Nat.not_lt_zero i)
  | n + 1, h, i, hi => by
    have h : bif' (f n) (allN n f) false = true := h
    cases hn : f n with
    | false => rw [hn] at h; cases h
    | true =>
      rw [hn] at h
      rcases Nat.lt_or_eq_of_le (Nat.le_of_lt_succ hi) with h1 | rfl
      · exact allN_of h i h1
      · exact hn
theorem allN2 {a b : Nat} {f : Nat → Nat → Bool} (h : allN a (fun i => allN b (f i)) = true) : ∀ i, i < a → ∀ j, j < b → f i j = true := fun i hi j hj => allN_of (allN_of h i hi) j hj
/-- the memory that is left -/
noncomputable def resH (r : RC) : Heap := RC.rec (motive := fun _ => Heap) hp0 (fun _ G => G) r
/-- is that what comes of it? -/
noncomputable def isR (r : RC) (v : AV) : Bool := RC.rec (motive := fun _ => Bool) false (fun w _ => eqAV w v) r
theorem FnOk.of_evV {X : Orc} (hX : GoodX P X) {n : Nat} {f : FuncId} {args : List AV} {v : AV} (h : isR (evFn P X n f args H) v = true) : FnOk P f args H fun v' G => v' = v ∧ G = resH (evFn P X n f args H) := by
  cases hr : evFn P X n f args H with
  | fail => rw [hr] at h; cases h
  | ok w G =>
    rw [hr] at h
    have h : eqAV w v = true := h
    rw [← eqAV_eq h]
    exact FnOk.of_ev hX hr
end Go.Ev
/- Calls whose arguments hold no address: reckoned without memory, they are so in any memory. -/

set_option linter.all false
namespace Go.Ev
variable {P : Program} {φ ψ : Phi} {H : Heap} {w u : World}
def AV.flat1 : AV → Bool
  | .agg l => l.all AV.flat
  | v => v.flat
theorem flat1_rel {v : AV} {x : Value} (hf : v.flat1 = true) (h : VRel P φ v x) (ψ : Phi) : VRel P ψ v x := by
  cases v with
  | agg l =>
    cases h with
    | agg _ c h1 h2 => exact .agg _ _ (flats_rel ψ hf h1) h2
  | _ => exact flat_rel (by exact hf) h ψ
theorem flats1_rel (ψ : Phi) {l : List AV} {l' : List Value} (hf : l.all AV.flat1 = true) (h : VRels P φ l l') : VRels P ψ l l' := by
  induction l generalizing l' with
  | nil => cases h; exact .nil
  | cons v l ih =>
    cases h with
    | cons _ _ v' l' h hs =>
      rw [List.all_cons, Bool.and_eq_true] at hf
      exact .cons _ _ _ _ (flat1_rel hf.1 h ψ) (ih hf.2 hs)
def AV.flat2 : AV → Bool
  | .tup l => l.all AV.flat1
  | v => v.flat1
theorem flat2_rel {v : AV} {x : Value} (hf : v.flat2 = true) (h : VRel P φ v x) (ψ : Phi) : VRel P ψ v x := by
  cases v with
  | tup l =>
    cases h with
    | tup _ c h1 => exact .tup _ _ (flats1_rel ψ hf h1)
  | _ => exact flat1_rel (by exact hf) h ψ
theorem FnOk.lift1 {f : FuncId} {args : List AV} {v : AV} (ha : args.all AV.flat1 = true) (hv : v.flat2 = true) (h : FnOk P f args hp0 fun r _ => r = v) : FnOk P f args H fun r G => r = v ∧ G = H := by
  intro φ w args' hargs hw
  refine (h (fun _ => none) w args' (flats1_rel _ ha hargs) hw.to0).mono ?_
  rintro e u ⟨_, G, rfl, ψ, x, rfl, hx, hwu, hE⟩
  have hno : ∀ b, b < w.heap.size → u.heap[b]? = w.heap[b]? := by
    intro b hb
    refine hE.keeps b hb ?_
    rintro ⟨k, c, a, hk, _⟩
    rw [hp0_get] at hk; cases hk
  exact ⟨_, H, ⟨rfl, rfl⟩, φ, x, rfl, flat2_rel hv hx φ, hw.grows hE.size hno, ⟨fun _ _ => rfl, Nat.le_refl _, hE.size, fun b hb _ => hno b hb, fun _ _ _ => rfl, fun _ _ h => h, hE.os, hE.tape, hE.output⟩⟩
/-- what is reckoned without memory -/
theorem FnOk.of_ev1 {X : Orc} (hX : GoodX P X) {n : Nat} {f : FuncId} {args : List AV} {v : AV} (ha : args.all AV.flat1 = true) (hv : v.flat2 = true) (h : isR (evFn P X n f args hp0) v = true) : FnOk P f args H fun r G => r = v ∧ G = H :=
  FnOk.lift1 ha hv ((FnOk.of_evV hX h).mono fun _ _ h => h.1)
end Go.Ev
/- Letters, records of a put: reckoned. -/


set_option linter.all false
set_option maxRecDepth 100000
namespace Go.Proofs
open Go Go.Ev
variable {H : Heap}
/-- a session's letter that asks for a put of a byte under a byte -/
def askL (s id b v : Nat) : List AV := [.int .i64 1, .int .i64 (200 + (s : Int)), .int .i64 0, .int .i64 id, .int .i64 0, .int .i64 0, .int .i64 0, .int .i64 0, .int .i64 2, .str [b], .str [], .str [v], .int .i64 0, .nils, .int .i64 0, .str [], .int .i64 0, .nils, .str [], .str [], .nils, .nils, .nils, .str []]
/-- its record -/
def recL (s id b v : Nat) : List AV := [.int .i64 2, .int .i64 s, .int .i64 id, .int .i64 0, .int .i64 0, .int .i64 0, .int .i64 2, .str [b], .str [], .str [v], .int .i64 0, .nils, .str [], .str [], .nils, .nils]
/-- its bytes -/
def recT (s id b v : Nat) : List Nat := [2, s, id, 0, 0, 0, 2, 1, b, 0, 1, v, 0, 0, 0, 0, 0, 0]
noncomputable def EK : FuncId → List AV → Heap → RC := evFn Tryz.prog XL 100000
theorem ask_run (b v : Nat) : (allN 3 fun s => allN 31 fun i => isR (EK 30 [.agg (askL s (i + 1) b v)] hp0) (.bool true)) = true := by kernel_rfl
theorem letter_ask {s id : Nat} (hs : s < 3) (h0 : 0 < id) (h1 : id < 32) (b v : Nat) : FnOk Tryz.prog 30 [.agg (askL s id b v)] H fun r G => r = .bool true ∧ G = H := by
  obtain ⟨i, rfl⟩ : ∃ i, id = i + 1 := ⟨id - 1, by omega⟩
  exact FnOk.of_ev1 good_XL rfl rfl (allN2 (ask_run b v) s hs i (by omega))
/-- puts of the letter k -/
theorem rec_feeds : (allN 20 fun i => isR (EK 53 [.agg (recL 0 (i + 1) 107 118)] hp0) (.str (recT 0 (i + 1) 107 118))) = true := by kernel_rfl
theorem bytes_feeds {i : Nat} (h : i < 20) : FnOk Tryz.prog 53 [.agg (recL 0 (i + 1) 107 118)] H fun r G => r = .str (recT 0 (i + 1) 107 118) ∧ G = H := FnOk.of_ev1 good_XL rfl rfl (allN_of rec_feeds i h)
end Go.Proofs
set_option linter.all false
set_option maxRecDepth 100000
namespace Go.Proofs
open Go Go.Ev
/-! maps whose keys are literal numbers -/
noncomputable def mapB {β : Type} (b : Blk) (f : β) (c : List (AV × AV) → β) : β := Blk.rec (motive := fun _ => β) f (fun _ _ _ => f) c b
@[go_sem] theorem mapB_map {β : Type} (es : List (AV × AV)) (f : β) (c : List (AV × AV) → β) : mapB (.map es) f c = c es := rfl
@[go_sem] theorem mapC_opt {β : Type} (H : Heap) (k : K) (f : β) (c : List (AV × AV) → β) : mapC H k f c = optC (H.get k) f fun b => mapB b f c := rfl
@[go_sem] theorem mpC_nil {β : Type} (lk : LK) (k v : AV) (f : β) (c : List (AV × AV) → β) : mpC lk k v f [] c = c [(k, v)] := rfl
@[go_sem] theorem mpC_int {β : Type} (a b : Int) (v x : AV) (f : β) (es : List (AV × AV)) (c : List (AV × AV) → β) : mpC .int (.int .i64 a) v f ((.int .i64 b, x) :: es) c = if a = b then c ((.int .i64 a, v) :: es) else mpC .int (.int .i64 a) v f es fun r => c ((.int .i64 b, x) :: r) := by
  show bif' (Nat.beq (Ev.kn .i64) (Ev.kn .i64)) (eqI a b fun z => bif' z (c ((.int .i64 a, v) :: es)) (mpC .int (.int .i64 a) v f es fun r => c ((.int .i64 b, x) :: r))) f = _
  rw [show Nat.beq (Ev.kn .i64) (Ev.kn .i64) = true from rfl, bif_true, eqI_eq, bif_dec]
@[go_sem] theorem mfC_nil {β : Type} (lk : LK) (k : AV) (f : β) (c : Option AV → β) : mfC lk k [] f c = c none := rfl
@[go_sem] theorem mfC_int {β : Type} (a b : Int) (x : AV) (f : β) (es : List (AV × AV)) (c : Option AV → β) : mfC .int (.int .i64 a) ((.int .i64 b, x) :: es) f c = if a = b then c (some x) else mfC .int (.int .i64 a) es f c := by
  show bif' (Nat.beq (Ev.kn .i64) (Ev.kn .i64)) (eqI a b fun z => bif' z (c (some x)) (mfC .int (.int .i64 a) es f c)) f = _
  rw [show Nat.beq (Ev.kn .i64) (Ev.kn .i64) = true from rfl, bif_true, eqI_eq, bif_dec]
@[go_sem] theorem mlEnd_some (z v : AV) (H : Heap) : mlEnd false z H (some v) = .val v H := rfl
@[go_sem] theorem mlEnd_none (z : AV) (H : Heap) : mlEnd false z H none = .val z H := rfl
@[go_sem] theorem mlEnd_some2 (z v : AV) (H : Heap) : mlEnd true z H (some v) = .val (.tup [v, .bool true]) H := rfl
@[go_sem] theorem mlEnd_none2 (z : AV) (H : Heap) : mlEnd true z H none = .val (.tup [z, .bool false]) H := rfl
@[go_sem] theorem lk3 : lkOf Tryz.prog 3 = .int := by kernel_rfl
attribute [go_sem] mkmR mupR mlkR mkfR
@[go_sem] theorem fn_neq {β : Type} (fn : Fn) (l m : List AV) (f : β) (c : AV → β) : binV Tryz.prog EK.func none true BinOp.neq (.fn fn l m) .nilf f c = c (.bool true) := rfl
theorem clo40 : CloFn Tryz.prog 40 2 24 [.str [], .int .i64 0] := ⟨⟨Tryz.f40, Tryz.func40, by kernel_rfl, by kernel_rfl⟩, rfl, by decide⟩
section
variable {G : Heap} {kn kd kj kh : K}
theorem isWt.ext {wv : AV} {ws : List (List AV)} (h : isWt G wv ws) (hok : G.ok) (L : List Blk) : isWt (G.ext L) wv ws := by
  rcases h with h | ⟨kw, h1, h2, h3⟩
  · exact .inl h
  · exact .inr ⟨kw, h1, h2, Heap.get_ext_old hok h3 L⟩
theorem isNd.ext {x5 x6 x7 : AV} {bs : List Nat} {n m : Nat} {ws : List (List AV)} {s : Sh} (h : isNd G kn kd kj kh bs n m ws x5 x6 x7 s) (L : List Blk) : isNd (G.ext L) kn kd kj kh bs n m ws x5 x6 x7 s := by
  obtain ⟨wv, h1, h2⟩ := h.row
  obtain ⟨lv, h3⟩ := h.hold
  exact ⟨Heap.ok_ext h.ok L, ⟨wv, Heap.get_ext_old h.ok h1 L, h2.ext h.ok L⟩, Heap.get_ext_old h.ok h.disk L, Heap.get_ext_old h.ok h.jour L, ⟨lv, h3.ext L⟩⟩
theorem f10_put {x5 x6 x7 : AV} {bs T : List Nat} {n m i : Nat} {ws : List (List AV)} {s : Sh} {b : Nat} (h : isNd G kn kd kj kh bs n m ws x5 x6 x7 s) (hP : PutI 1 false i s) (hi : i < 20) (hk : has s.fr s.to [b])
    (hB : ∀ J : Heap, FnOk Tryz.prog 53 [.agg (putL i [b])] J fun r J' => r = .str T ∧ J' = J) (hT : T ≠ []) (hTl : T.length < 1000000) (hl : bs.length + (wrapT T).length ≤ 200000) (hnl : n ≤ bs.length) (hm : m < 1000000) (hN : ws.length < 100000) :
    FnOk Tryz.prog 10 [.ptr kn 0, .agg (askP i [b])] G fun r G' => r = .tup [] ∧ ∃ t ver, isNd G' kn kd kj kh (bs ++ wrapT T) (n + (wrapT T).length) (m + 1) (ws ++ [saidP i ver]) x5 x6 x7 t ∧ PutI 1 false (i + 1) t ∧ Nxt s [b] i t := by
  obtain ⟨wv, hn, hw⟩ := h.row
  have e : FnOk Tryz.prog 30 [.agg (askP i [b])] (G.ext [.row true 24 [askP i [b]]]) fun r G' => r = .bool true ∧ G' = G.ext [.row true 24 [askP i [b]]] := letter_ask (s := 0) (by decide) (show 0 < i + 1 by omega) (show i + 1 < 32 by omega) b 118
  obtain ⟨E, hE, he⟩ := one_call e
  simp only [askP] at he
  refine FnOk.of_WW Tryz.func10 rfl C10ok R10ok E hE ?_
  have hn' := fun L => Heap.get_ext_old h.ok hn L
  simp only [go_sem, C10, askP, hn', he]
  refine CL.of (clone_nil clo40) ?_
  rintro _ G' ⟨rfl, hG⟩; rw [hG]; clear hG
  simp only [go_sem]
  refine CL.of (f31_put (h.ext _) hP hi hk hB hT hTl hl hnl hm hN) ?_
  rintro _ G' ⟨rfl, hp⟩
  simp only [go_sem]
  exact hp
end
end Go.Proofs
/- Sync of a node: walked. -/


set_option linter.all false
set_option maxRecDepth 100000
namespace Go.Proofs
open Go Go.Ev
section
variable {G : Heap} {kn kd kj kh : K}
theorem isHd.set8 {lv gv : AV} {k : K} {hs : List Sh} {gs : List Gn} (h : isHd G k lv gv hs gs) {j : K} {c : Blk} (hj : G.get j = some c) (hc : Foreign c) (hne : j ≠ k) (b : Blk) : isHd (G.set j b) k lv gv hs gs :=
  h.kp (ks := [j]) ⟨fun i d hi hd => by rw [Heap.get_set, if_neg (by rintro rfl; simp at hi)]; exact hd, Nat.le_refl _⟩ (Heap.ok_set h.ok hj) fun i hi => by
    rw [List.mem_singleton.1 hi]
    exact ⟨hne, fun b hb => by rw [hj] at hb; cases hb; exact hc⟩
theorem f13_ok {x5 x6 x7 : AV} {bs : List Nat} {n m : Nat} {ws : List (List AV)} {s : Sh} (h : isNd G kn kd kj kh bs n m ws x5 x6 x7 s) : FnOk Tryz.prog 13 [.ptr kn 0] G fun r G' => isWt G' r ws ∧ isNd G' kn kd kj kh bs 0 m [] x5 x6 x7 s ∧ Kp [kn, kd] G G' := by
  obtain ⟨wv, hn, hw⟩ := h.row
  obtain ⟨lv, hh⟩ := h.hold
  refine FnOk.of_WW Tryz.func13 rfl C13ok R13ok E0 good_E0 ?_
  have hn' := fun L => Heap.get_ext_old h.ok hn L
  simp only [go_sem, C13, hn']
  refine CL.of (f29_ok (Heap.get_ext_old h.ok h.jour _) (Heap.get_ext_old h.ok h.disk _)) ?_
  rintro _ D ⟨rfl, hD⟩
  rw [Heap.set_ext_old _ _ _ _ (h.ok _ _ h.disk)] at hD
  rw [Heap.ext_nil] at hD
  have nkn : kd ≠ kn := by have := h.disk; rintro rfl; rw [hn] at this; cases this
  have nkj : kd ≠ kj := by have := h.disk; rintro rfl; rw [h.jour] at this; cases this
  have nkh : kd ≠ kh := by have := h.disk; rintro rfl; rw [hh.row] at this; cases this
  have njn : kn ≠ kj := by rintro rfl; rw [h.jour] at hn; cases hn
  have nhn : kn ≠ kh := by rintro rfl; rw [hh.row] at hn; cases hn
  have dok : D.ok := by rw [hD]; exact Heap.ok_set h.ok h.disk
  have dn : D.get kn = some (.row true 8 [[.int .i64 0, .ptr kd 0, .ptr kj 0, .ptr kh 0, wv, x5, x6, x7]]) := by rw [hD, Heap.get_set, if_neg nkn]; exact hn
  have dd : D.get kd = some (.row true 2 [[.str bs, .int .i64 0]]) := by rw [hD, Heap.get_set, if_pos rfl]
  have dj : D.get kj = some (.row true 2 [[.ptr kd 0, .int .i64 m]]) := by rw [hD, Heap.get_set, if_neg nkj]; exact h.jour
  have dh : isHd D kh lv .nils [s] [] := by rw [hD]; exact hh.set2 h.disk (by simp) nkh _
  have dw : isWt D wv ws := by
    rcases hw with e | ⟨kw, a1, a2, a3⟩
    · exact .inl e
    · refine .inr ⟨kw, a1, a2, ?_⟩
      rw [hD, Heap.get_set, if_neg ?_]
      · exact a3
      · rintro rfl; rw [h.disk] at a3; cases a3
  have kpD : ∀ b, Kp [kn, kd] G (D.set kn b) := fun b => ⟨fun j c hj hc => by rw [Heap.get_set, if_neg (by rintro rfl; simp at hj), hD, Heap.get_set, if_neg (by rintro rfl; simp at hj)]; exact hc, by rw [Heap.nx_set, hD, Heap.nx_set]; exact Nat.le_refl _⟩
  clear hD
  have dn' := fun L => Heap.get_ext_old dok dn L
  have s1 := fun b (l : List Blk) (α : Type) (c' : Heap → α) => Heap.setC_here dok dn b l c'
  have s0 : ∀ b (α : Type) (c' : Heap → α), D.setC kn b c' = c' (D.set kn b) := fun b α c' => by
    have := Heap.setC_here dok dn b [] c'
    rwa [Heap.ext_nil, Heap.ext_nil] at this
  refine WW.nil ?_
  simp only [go_sem, dn, s0, Heap.ext_nil]
  have en : ∀ b, (D.set kn b).get kn = some b := fun b => by rw [Heap.get_set, if_pos rfl]
  refine ⟨?_, ⟨Heap.ok_set dok dn, ⟨.nils, en _, .inl ⟨rfl, rfl⟩⟩, ?_, ?_, ⟨lv, dh.set8 dn foreign_node nhn _⟩⟩, kpD _⟩
  · rcases dw with e | ⟨kw, a1, a2, a3⟩
    · exact .inl e
    · refine .inr ⟨kw, a1, a2, ?_⟩
      rw [Heap.get_set, if_neg ?_]
      · exact a3
      · rintro rfl; rw [dn] at a3; cases a3
  · rw [Heap.get_set, if_neg nkn.symm]; exact dd
  · rw [Heap.get_set, if_neg njn]; exact dj
end
end Go.Proofs
/- NodeFeeds: a new node: reckoned. -/

set_option linter.all false
set_option maxRecDepth 100000
namespace Go.Proofs
open Go Go.Ev
variable {H : Heap}
theorem FnOk.withOk {P : Program} {f : FuncId} {args : List AV} {Q : AV → Heap → Prop} (h : FnOk P f args H Q) : FnOk P f args H fun v G => Q v G ∧ G.ok :=
  fun φ w args' ha hw => (h φ w args' ha hw).mono fun e u ⟨v, G, hq, ψ, v', e1, hv, hW, hE⟩ => ⟨v, G, ⟨hq, hW.top⟩, ψ, v', e1, hv, hW, hE⟩
noncomputable abbrev EEn : FuncId → List AV → Heap → RC := evFn Tryz.prog XL 100000
/-- a shard of a span -/
noncomputable def qn : RC := EEn 9 [.int .i64 0, .slice (hp0.key 0) 0 1 8 true 1] (hp0.ext [Blk.row true 8 [[.int .i64 1, .int .i64 1, .str [99], .str [112], .bool false, .nils, .nils, .nils]]])
noncomputable def Qn : Heap := resH qn
/-- its first record -/
def bs0 : List Nat := [1, 40, 189, 100, 26, 1, 0, 0, 0, 0, 0, 0, 0, 1, 15, 106, 115, 122, 193, 10, 1, 1, 1, 99, 1, 112, 0, 0, 0, 0, 0]
theorem qn_run : isR qn (.ptr K.z.o.i.i 0) = true := by kernel_rfl
theorem qn_n : Qn.get K.z.o.i.i = some (.row true 8 [[.int .i64 0, .ptr K.z.o.o.o 0, .ptr K.z.i.o.i 0, .ptr K.z.o.o.i 0, .nils, .int .i64 0, .int .i64 0, .map K.z.o.i.o]]) := by kernel_rfl
theorem qn_d : Qn.get K.z.o.o.o = some (.row true 2 [[.str bs0, .int .i64 0]]) := by kernel_rfl
theorem qn_j : Qn.get K.z.i.o.i = some (.row true 2 [[.ptr K.z.o.o.o 0, .int .i64 1]]) := by kernel_rfl
theorem qn_h : Qn.get K.z.o.o.i = some (.row true 2 [[.slice K.z.i.i.o.o.o.o 0 1 8 false 1, .nils]]) := by kernel_rfl
theorem qn_s : Qn.get K.z.i.i.o.o.o.o = some (.row true 8 [[.int .i64 1, .int .i64 1, .str [99], .str [112], .bool false, .nils, .nils, .nils]]) := by kernel_rfl
theorem new_span : FnOk Tryz.prog 9 [.int .i64 0, .slice (hp0.key 0) 0 1 8 true 1] (hp0.ext [Blk.row true 8 [[.int .i64 1, .int .i64 1, .str [99], .str [112], .bool false, .nils, .nils, .nils]]])
    fun v G => v = .ptr K.z.o.i.i 0 ∧ isNd G K.z.o.i.i K.z.o.o.o K.z.i.o.i K.z.o.o.i bs0 0 1 [] (.int .i64 0) (.int .i64 0) (.map K.z.o.i.o) (nS 1 1 [99] [112] false) := by
  have e : FnOk Tryz.prog 9 [.int .i64 0, .slice (hp0.key 0) 0 1 8 true 1] (hp0.ext [Blk.row true 8 [[.int .i64 1, .int .i64 1, .str [99], .str [112], .bool false, .nils, .nils, .nils]]]) fun v G => v = .ptr K.z.o.i.i 0 ∧ G = Qn := FnOk.of_evV good_XL qn_run
  refine (FnOk.withOk e).mono ?_
  rintro v G ⟨⟨rfl, rfl⟩, hok⟩
  refine ⟨rfl, hok, ⟨_, qn_n, .inl ⟨rfl, rfl⟩⟩, qn_d, qn_j, ⟨_, hok, qn_h, .inr ⟨K.z.i.i.o.o.o.o, 0, false, 1, rfl, hok _ _ qn_s, fun _ => ⟨0, true, _, rfl, qn_s, rfl⟩⟩, .inl ⟨rfl, rfl⟩, ?_, ?_, by simp⟩⟩
  · intro s hs
    rw [List.mem_singleton.1 hs]
    exact nS_ok ..
  · intro s hs
    rw [List.mem_singleton.1 hs]
    exact nS_small ..
end Go.Proofs
/- The laid-out code of the functions that are walked. -/

set_option linter.all false
set_option maxRecDepth 100000
namespace Go.Proofs
open Go Go.Ev K
noncomputable def C6 := mkC Tryz.prog Tryz.f6 179
theorem C6ok : CCok Tryz.prog Tryz.f6 179 C6 := mkC_ok _
@[go_sem] theorem call6 (a H) : callC Tryz.prog 6 a H = .call 6 a := callC_ok (by kernel_rfl) a H
theorem R6ok : resKs Tryz.prog Tryz.f6.results.toList = some [RK.tmp z.o.o.i] := by kernel_rfl
noncomputable def C86 := mkC Tryz.prog Tryz.f86 33
theorem C86ok : CCok Tryz.prog Tryz.f86 33 C86 := mkC_ok _
@[go_sem] theorem call86 (a H) : callC Tryz.prog 86 a H = .call 86 a := callC_ok (by kernel_rfl) a H
theorem R86ok : resKs Tryz.prog Tryz.f86.results.toList = some [RK.tmp z.o.o.i, RK.tmp z.o.i.o] := by kernel_rfl
noncomputable def C88 := mkC Tryz.prog Tryz.f88 40
theorem C88ok : CCok Tryz.prog Tryz.f88 40 C88 := mkC_ok _
@[go_sem] theorem call88 (a H) : callC Tryz.prog 88 a H = .call 88 a := callC_ok (by kernel_rfl) a H
theorem R88ok : resKs Tryz.prog Tryz.f88.results.toList = some [RK.cell z.o.i true 2, RK.tmp z.i.o] := by kernel_rfl
end Go.Proofs
/- NodeFeeds: its puts: walked. -/


set_option linter.all false
set_option maxRecDepth 100000
namespace Go.Proofs
open Go Go.Ev
variable {H : Heap}
theorem f12_ok (a b : List Nat) : FnOk Tryz.prog 12 [.str a, .str b] H fun r G => r = .agg [.int .i64 2, .str a, .str [], .str b, .int .i64 0, .nils] ∧ G = H := by
  refine FnOk.drop (R := fun r => r = .agg [.int .i64 2, .str a, .str [], .str b, .int .i64 0, .nils]) ?_ (by rintro v rfl ρ; simp only [AV.ren, AV.rens])
  refine FnOk.of_WW Tryz.func12 rfl C12ok R12ok E0 good_E0 ?_
  simp only [go_sem, C12]
  exact ⟨_, rfl⟩
theorem f11_put {i : Nat} (hi : i < 1000) (key : List Nat) : FnOk Tryz.prog 11 [.int .i64 0, .int .i64 ((i : Int) + 1), .agg [.int .i64 2, .str key, .str [], .str [118], .int .i64 0, .nils]] H fun r G => r = .agg (askP i key) ∧ G = H := by
  refine FnOk.drop (R := fun r => r = .agg (askP i key)) ?_ (by rintro v rfl ρ; simp only [askP, AV.ren, AV.rens])
  refine FnOk.of_WW Tryz.func11 rfl C11ok R11ok E0 good_E0 ?_
  have hz : IntKind.i64.wrap (200 + 0) = 200 := rfl
  simp only [go_sem, C11, askP, hz]
  exact ⟨_, rfl⟩
/-- the cells, the events of puts of one key -/
noncomputable def kC : Nat → List Cell
  | 0 => []
  | i + 1 => refW (kC i) (nextC (kC i) [107] [118] false)
noncomputable def kE : Nat → List Evn
  | 0 => []
  | i + 1 => kE i ++ [nextE (kC i) [107] [118] false]
theorem has_k : has [99] [112] [107] := by
  refine ⟨?_, ?_, ?_, .inr ?_⟩ <;> first | decide | (unfold isSpan; decide) | (unfold isKey; decide)
theorem wrap_run : (allN 20 fun i => Nat.ble (wrapT (recT 0 (i + 1) 107 118)).length 100) = true := by kernel_rfl
theorem wrapT_feeds {i : Nat} (h : i < 20) : (wrapT (recT 0 (i + 1) 107 118)).length ≤ 100 := Nat.le_of_ble_eq_true (allN_of wrap_run i h)
/-- so it is behind some puts -/
def Fd (k i : Nat) (M : Heap) : Prop := i ≤ k ∧ ∃ bs n m ws s, isNd M K.z.o.i.i K.z.o.o.o K.z.i.o.i K.z.o.o.i bs n m ws (.int .i64 0) (.int .i64 0) (.map K.z.o.i.o) s ∧ PutI 1 false i s ∧ s.fr = [99] ∧ s.to = [112] ∧ s.evs = kE i ∧ s.cells = kC i ∧ n ≤ bs.length ∧ bs.length ≤ 31 + 100 * i ∧ m ≤ 1 + i ∧ ws.length = i
theorem Fd.put {k i : Nat} {M : Heap} (h : Fd k i M) (hi : i < k) (hk : k < 20) : FnOk Tryz.prog 10 [.ptr K.z.o.i.i 0, .agg (askP i [107])] M fun r G => r = .tup [] ∧ Fd k (i + 1) G := by
  obtain ⟨_, bs, n, m, ws, s, hN, hP, h1, h2, h3, h4, h5, h6, h7, h8⟩ := h
  have hT : ∀ J : Heap, FnOk Tryz.prog 53 [.agg (putL i [107])] J fun r J' => r = .str (recT 0 (i + 1) 107 118) ∧ J' = J := fun J => bytes_feeds (by omega)
  have hw := wrapT_feeds (i := i) (by omega)
  refine (f10_put hN hP (by omega) (b := 107) (by rw [h1, h2]; exact has_k) hT (by simp [recT]) (by show 18 < 1000000; decide) (by omega) h5 (by omega) (by omega)).mono ?_
  rintro r G ⟨rfl, t, ver, g1, g2, g3⟩
  refine ⟨rfl, by omega, _, _, _, _, t, g1, g2, g3.span.1.trans h1, g3.span.2.trans h2, ?_, ?_, ?_, ?_, by omega, ?_⟩
  · rw [g3.evs, h3, h4]; rfl
  · rw [g3.cells, h4]; rfl
  · rw [List.length_append]; omega
  · rw [List.length_append]; omega
  · rw [List.length_append, h8]; rfl
end Go.Proofs
