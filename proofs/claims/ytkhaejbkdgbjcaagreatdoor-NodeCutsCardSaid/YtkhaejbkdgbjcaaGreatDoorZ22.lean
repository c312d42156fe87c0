/- Answers that wait: walked. -/
import Derived.Test.YtkhaejbkdgbjcaaGreatDoorZ21
import Derived.Test.YtkhaejbkdgbjcaaGreatDoorProg
import Derived.KernelRfl
set_option linter.all false
set_option maxRecDepth 100000
namespace Go.Proofs
open Go Go.Ev
variable {H : Heap}
/-- no block of a hold -/
structure Foreign (b : Blk) : Prop where
  no : ∀ wr e rows, b = .row wr e rows → e ≠ 4 ∧ e ≠ 5 ∧ e ≠ 6
  gn : ∀ wr rows, b = .row wr 2 rows → ∀ r ∈ rows, ∀ g : Gn, r ≠ g.enc
  sh : ∀ wr rows, b = .row wr 8 rows → ∀ r ∈ rows, ∀ s : Sh, r ≠ s.enc
section
variable {G G' : Heap} {ks : List K}
theorem arr_kp {e : Nat} {v : AV} {xs : List (List AV)} (h : Arr G e v xs) (hk : Kp ks G G') (hx : ∀ j ∈ ks, ∀ wr rows, G.get j = some (.row wr e rows) → ∀ r ∈ rows, r ∉ xs) : Arr G' e v xs := by
  rcases h with g | ⟨c, off, ex, cap, hv, hc, g⟩
  · exact .inl g
  · refine .inr ⟨c, off, ex, cap, hv, Nat.lt_of_lt_of_le hc hk.le, fun hn => ?_⟩
    obtain ⟨r, wr', rows', h1, h2, h3⟩ := g hn
    refine ⟨r, wr', rows', h1, hk.keep c _ (fun hm => ?_) h2, h3⟩
    cases xs with
    | nil => exact hn rfl
    | cons x xs =>
      have hm2 : x ∈ (rows'.drop r).take (x :: xs).length := by rw [h3]; exact List.mem_cons_self
      exact hx c hm wr' rows' h2 x (List.mem_of_mem_drop (List.mem_of_mem_take hm2)) List.mem_cons_self
theorem isHd.kp {k : K} {lv gv : AV} {hs : List Sh} {gs : List Gn} (h : isHd G k lv gv hs gs) (hk : Kp ks G G') (hok : G'.ok) (hf : ∀ j ∈ ks, j ≠ k ∧ ∀ b, G.get j = some b → Foreign b) : isHd G' k lv gv hs gs := by
  have h3 : ∀ {e : Nat} {v : AV} {xs : List (List AV)}, Arr G e v xs → e = 4 ∨ e = 5 ∨ e = 6 → Arr G' e v xs := fun hA he => arr_kp hA hk fun j hj wr rows hg r hr hm => by
    have := ((hf j hj).2 _ hg).no wr _ rows rfl
    omega
  refine ⟨hok, hk.keep _ _ (fun hm => (hf k hm).1 rfl) h.row, arr_kp h.l hk fun j hj wr rows hg r hr hm => ?_, arr_kp h.g hk fun j hj wr rows hg r hr hm => ?_, fun s hs => ?_, h.small, h.few⟩
  · obtain ⟨s, _, rfl⟩ := List.mem_map.1 hm
    exact ((hf j hj).2 _ hg).sh wr rows rfl _ hr s rfl
  · obtain ⟨s, _, rfl⟩ := List.mem_map.1 hm
    exact ((hf j hj).2 _ hg).gn wr rows rfl _ hr s rfl
  · have hs' := h.each s hs
    exact ⟨h3 hs'.c (by simp), h3 hs'.e (by simp), h3 hs'.d (by simp), bareL.ok (h.small s hs).b _, hs'.cl, hs'.el, hs'.dl⟩
theorem foreign_wide {wr : Bool} {e : Nat} {rows : List (List AV)} (h : 8 < e) : Foreign (.row wr e rows) := by
  refine ⟨fun _ _ _ e => ?_, fun _ _ e => ?_, fun _ _ e => ?_⟩ <;> cases e <;> omega
theorem foreign_node {wr : Bool} {a : AV} {k1 : K} {o1 : Nat} {l : List AV} : Foreign (.row wr 8 [a :: .ptr k1 o1 :: l]) := by
  refine ⟨fun _ _ _ e => ?_, fun _ _ e => ?_, fun _ _ e => ?_⟩ <;> cases e
  · decide
  · intro r hr s e
    rw [List.mem_singleton.1 hr] at e
    simp [Sh.enc] at e
theorem Kp.trans {A B C : Heap} (h : Kp ks A B) (g : Kp ks B C) : Kp ks A C := ⟨fun j b hj hb => g.keep j b hj (h.keep j b hj hb), Nat.le_trans h.le g.le⟩
theorem Kp.wk {ks' : List K} {A B : Heap} (h : Kp ks A B) (hs : ∀ j ∈ ks, j ∈ ks') : Kp ks' A B := ⟨fun j b hj hb => h.keep j b (fun hm => hj (hs j hm)) hb, h.le⟩
end
section
variable {G : Heap} {kn kw : K}
/-- one more put behind a list that was there before -/
theorem appQ_old (hok : G.ok) {n : Nat} {x : List AV} {xs : List (List AV)} (hw : G.get kw = some (.row true 24 (x :: xs))) (hn : xs.length = n) {L : List Blk} {j : Nat} {wr ex : Bool} {cap : Nat} {y : List AV} (hj : L[j]? = some (.row wr 24 [y])) (hN : n < 100000) :
    appQ 24 328 (some (outV kw 24 (n + 1))) (some (.slice (G.key j) 0 1 24 ex cap)) (G.ext L) = .val (.slice ((G.set kw .dead).key L.length) 0 (n + 2) 24 false (n + 2)) ((G.set kw .dead).ext (L ++ [.row true 24 (x :: xs ++ [y])])) := by
  show appR 24 328 (.c _) (.c _) .lf (G.ext L) = _
  subst hn
  have hjl := (List.getElem?_eq_some_iff.1 hj).1
  have hg := Heap.get_ext_old hok hw L
  have hb1 : (2 * ((xs.length + 1) + 1) + 192) * 328 ≤ 281474976710656 := Nat.le_trans (Nat.mul_le_mul_right _ (show _ ≤ 300000 by omega)) (by decide)
  have hs := fun (α : Type) (c : Heap → α) => Heap.setC_here hok hw .dead L c
  unfold appR
  show withX _ (.c (.slice kw 0 (xs.length + 1) 24 false (xs.length + 1))) _ _ = _
  simp only [go_sem, withX, evX, Heap.get_ext_key _ _ _ hjl, hg, hj, List.drop_zero, List.take_succ_cons, List.take_zero, List.length_cons, List.length_nil, Nat.zero_mod, Nat.zero_div, Nat.reduceAdd, Nat.reduceSub, Nat.reduceMul, Nat.reduceDiv, Nat.reduceMod, Nat.reduceEqDiff, Nat.reduceLeDiff, Nat.reduceLT, reduceIte, List.take_length, List.cons_append]
  rw [if_pos (Nat.le_refl _), if_neg (by omega), if_pos hb1, hs, Heap.addC_ext]
  rfl
theorem says_end {D : Heap} {ks : List K} {c : Blk} (hdo : D.ok) (hdk : D.get kn = some c) (hD : Kp ks G D) (hkn : kn ∈ ks) (hks : ∀ j ∈ ks, ∃ b, G.get j = some b) (hGo : G.ok) {L : List Blk} {i : Nat} {r : Blk} (hL : L[i]? = some r) (b : Blk) :
    ((D.set kn b).ext L).get kn = some b ∧ ((D.set kn b).ext L).get (D.key i) = some r ∧ ((D.set kn b).ext L).ok ∧ Kp ks G ((D.set kn b).ext L) ∧ D.key i ∉ ks := by
  have hil := (List.getElem?_eq_some_iff.1 hL).1
  refine ⟨Heap.get_set_here hdo hdk b L, (Heap.get_key_set hil).trans hL, Heap.ok_ext (Heap.ok_set hdo hdk) L, ⟨fun j d hj hd => Heap.get_set_there hdo (hD.keep j d hj hd) (by rintro rfl; exact hj hkn) b L, Nat.le_trans hD.le (by rw [Heap.nx_ext, Heap.toNat_key, Heap.nx_set]; exact Nat.le_add_right _ _)⟩, fun hm => ?_⟩
  obtain ⟨d, hd⟩ := hks _ hm
  have h1 := hGo _ _ hd
  have h2 := hD.le
  rw [Heap.toNat_key] at h1
  omega
theorem f84_more (hok : G.ok) {x0 kd : Int} {d1 d2 d3 x5 x6 x7 : AV} {n : Nat} {x : List AV} {xs : List (List AV)} (hn : G.get kn = some (.row true 8 [[.int .i64 x0, d1, d2, d3, outV kw 24 (n + 1), x5, x6, x7]])) (hw : G.get kw = some (.row true 24 (x :: xs))) (hl : xs.length = n) (hN : n < 100000) (t1 t3 : Int) (t0 t2 t4 t5 t6 t7 t8 t9 t10 t11 t12 t13 t14 t15 t16 t17 t18 t19 t20 t21 t22 t23 l0 l1 l2 l3 l4 l5 l6 l7 l8 l9 l10 l11 l12 l13 l14 l15 l16 l17 l18 l19 l20 l21 l22 l23 : AV) :
    FnOk Tryz.prog 84 [.ptr kn 0, .agg [t0, .int .i64 t1, t2, .int .i64 t3, t4, t5, t6, t7, t8, t9, t10, t11, t12, t13, t14, t15, t16, t17, t18, t19, t20, t21, t22, t23], .int .i64 kd, .agg [l0, l1, l2, l3, l4, l5, l6, l7, l8, l9, l10, l11, l12, l13, l14, l15, l16, l17, l18, l19, l20, l21, l22, l23]] G fun r G' => r = .tup [] ∧ (∃ kw', kw' ∉ [kn, kw] ∧ G'.get kn = some (.row true 8 [[.int .i64 x0, d1, d2, d3, outV kw' 24 (n + 2), x5, x6, x7]]) ∧ G'.get kw' = some (.row true 24 (x :: xs ++ [[.int .i64 kd, .int .i64 x0, .int .i64 t1, .int .i64 t3, l4, l5, l6, l7, l8, l9, l10, l11, l12, l13, l14, l15, l16, l17, l18, l19, l20, l21, l22, l23]]))) ∧ G'.ok ∧ Kp [kn, kw] G G' := by
  refine FnOk.of_WW Tryz.func84 rfl C84ok R84ok E0 good_E0 ?_
  have hn' := fun L => Heap.get_ext_old hok hn L
  have ha : ∀ (L : List Blk) (y : List AV), L[2]? = some (.row true 24 [y]) → appQ 24 328 (some (.slice kw 0 (n + 1) 24 false (n + 1))) (some (.slice (G.key 2) 0 1 24 true 1)) (G.ext L) = .val (.slice ((G.set kw .dead).key L.length) 0 (n + 2) 24 false (n + 2)) ((G.set kw .dead).ext (L ++ [.row true 24 (x :: xs ++ [y])])) := fun L y hj => appQ_old hok hw hl (ex := true) (cap := 1) hj hN
  have hne : kw ≠ kn := by rintro rfl; rw [hw] at hn; cases hn
  have hdk : (G.set kw .dead).get kn = some (.row true 8 [[.int .i64 x0, d1, d2, d3, outV kw 24 (n + 1), x5, x6, x7]]) := by rw [Heap.get_set, if_neg hne]; exact hn
  have hdo : (G.set kw .dead).ok := Heap.ok_set hok hw
  have hn2 := fun L => Heap.get_ext_old hdo hdk L
  have hs2 := fun b (l : List Blk) (α : Type) (c' : Heap → α) => Heap.setC_here hdo hdk b l c'
  simp only [go_sem, ↓appR_hide, C84, hn']
  rw [ha _ _ rfl]
  simp only [go_sem, hn2, hs2]
  have hD : Kp [kn, kw] G (G.set kw .dead) := ⟨fun j d hj hd => by rw [Heap.get_set, if_neg (by rintro rfl; simp at hj)]; exact hd, Nat.le_refl _⟩
  obtain ⟨e1, e2, e3, e4, e5⟩ := says_end hdo hdk hD (by simp) (by intro j hj; simp only [List.mem_cons, List.not_mem_nil, or_false] at hj; rcases hj with rfl | rfl <;> first | exact ⟨_, hn⟩ | exact ⟨_, hw⟩) hok (L := [.row true 24 [[t0, .int .i64 t1, t2, .int .i64 t3, t4, t5, t6, t7, t8, t9, t10, t11, t12, t13, t14, t15, t16, t17, t18, t19, t20, t21, t22, t23]], .row true 24 [[.int .i64 kd, .int .i64 x0, .int .i64 t1, .int .i64 t3, l4, l5, l6, l7, l8, l9, l10, l11, l12, l13, l14, l15, l16, l17, l18, l19, l20, l21, l22, l23]], .row true 24 [[.int .i64 kd, .int .i64 x0, .int .i64 t1, .int .i64 t3, l4, l5, l6, l7, l8, l9, l10, l11, l12, l13, l14, l15, l16, l17, l18, l19, l20, l21, l22, l23]], .row true 24 (x :: (xs ++ [[.int .i64 kd, .int .i64 x0, .int .i64 t1, .int .i64 t3, l4, l5, l6, l7, l8, l9, l10, l11, l12, l13, l14, l15, l16, l17, l18, l19, l20, l21, l22, l23]]))]) (i := 3) rfl (.row true 8 [[.int .i64 x0, d1, d2, d3, .slice (G.key 3) 0 (n + 2) 24 false (n + 2), x5, x6, x7]])
  exact ⟨⟨_, e5, e1, e2⟩, e3, e4⟩
theorem f84_first (hok : G.ok) {x0 kd : Int} {d1 d2 d3 x5 x6 x7 : AV} (hn : G.get kn = some (.row true 8 [[.int .i64 x0, d1, d2, d3, .nils, x5, x6, x7]])) (t1 t3 : Int) (t0 t2 t4 t5 t6 t7 t8 t9 t10 t11 t12 t13 t14 t15 t16 t17 t18 t19 t20 t21 t22 t23 l0 l1 l2 l3 l4 l5 l6 l7 l8 l9 l10 l11 l12 l13 l14 l15 l16 l17 l18 l19 l20 l21 l22 l23 : AV) :
    FnOk Tryz.prog 84 [.ptr kn 0, .agg [t0, .int .i64 t1, t2, .int .i64 t3, t4, t5, t6, t7, t8, t9, t10, t11, t12, t13, t14, t15, t16, t17, t18, t19, t20, t21, t22, t23], .int .i64 kd, .agg [l0, l1, l2, l3, l4, l5, l6, l7, l8, l9, l10, l11, l12, l13, l14, l15, l16, l17, l18, l19, l20, l21, l22, l23]] G fun r G' => r = .tup [] ∧ (∃ kw', kw' ∉ [kn] ∧ G'.get kn = some (.row true 8 [[.int .i64 x0, d1, d2, d3, outV kw' 24 1, x5, x6, x7]]) ∧ G'.get kw' = some (.row true 24 [[.int .i64 kd, .int .i64 x0, .int .i64 t1, .int .i64 t3, l4, l5, l6, l7, l8, l9, l10, l11, l12, l13, l14, l15, l16, l17, l18, l19, l20, l21, l22, l23]])) ∧ G'.ok ∧ Kp [kn] G G' := by
  refine FnOk.of_WW Tryz.func84 rfl C84ok R84ok E0 good_E0 ?_
  have hn' := fun L => Heap.get_ext_old hok hn L
  have hs2 := fun b (l : List Blk) (α : Type) (c' : Heap → α) => Heap.setC_here hok hn b l c'
  simp only [go_sem, C84, hn', hs2]
  obtain ⟨e1, e2, e3, e4, e5⟩ := says_end (ks := [kn]) hok hn ⟨fun j d hj hd => hd, Nat.le_refl _⟩ (by simp) (by intro j hj; rw [List.mem_singleton.1 hj]; exact ⟨_, hn⟩) hok (L := [.row true 24 [[t0, .int .i64 t1, t2, .int .i64 t3, t4, t5, t6, t7, t8, t9, t10, t11, t12, t13, t14, t15, t16, t17, t18, t19, t20, t21, t22, t23]], .row true 24 [[.int .i64 kd, .int .i64 x0, .int .i64 t1, .int .i64 t3, l4, l5, l6, l7, l8, l9, l10, l11, l12, l13, l14, l15, l16, l17, l18, l19, l20, l21, l22, l23]], .row true 24 [[.int .i64 kd, .int .i64 x0, .int .i64 t1, .int .i64 t3, l4, l5, l6, l7, l8, l9, l10, l11, l12, l13, l14, l15, l16, l17, l18, l19, l20, l21, l22, l23]], .row true 24 [[.int .i64 kd, .int .i64 x0, .int .i64 t1, .int .i64 t3, l4, l5, l6, l7, l8, l9, l10, l11, l12, l13, l14, l15, l16, l17, l18, l19, l20, l21, l22, l23]]]) (i := 3) rfl (.row true 8 [[.int .i64 x0, d1, d2, d3, .slice (G.key 3) 0 1 24 false 1, x5, x6, x7]])
  exact ⟨⟨_, e5, e1, e2⟩, e3, e4⟩
end
end Go.Proofs
/- The laid-out code of the functions that are walked. -/

set_option linter.all false
set_option maxRecDepth 100000
namespace Go.Proofs
open Go Go.Ev K
@[go_sem] theorem call30 (a H) : callC Tryz.prog 30 a H = .call 30 a := callC_ok (by kernel_rfl) a H
@[go_sem] theorem call67 (a H) : callC Tryz.prog 67 a H = .call 67 a := callC_ok (by kernel_rfl) a H
@[go_sem] theorem call69 (a H) : callC Tryz.prog 69 a H = .call 69 a := callC_ok (by kernel_rfl) a H
@[go_sem] theorem call72 (a H) : callC Tryz.prog 72 a H = .call 72 a := callC_ok (by kernel_rfl) a H
noncomputable def C31 := mkC Tryz.prog Tryz.f31 93
theorem C31ok : CCok Tryz.prog Tryz.f31 93 C31 := mkC_ok _
@[go_sem] theorem call31 (a H) : callC Tryz.prog 31 a H = .call 31 a := callC_ok (by kernel_rfl) a H
theorem R31ok : resKs Tryz.prog Tryz.f31.results.toList = some [] := by kernel_rfl
noncomputable def C10 := mkC Tryz.prog Tryz.f10 53
theorem C10ok : CCok Tryz.prog Tryz.f10 53 C10 := mkC_ok _
@[go_sem] theorem call10 (a H) : callC Tryz.prog 10 a H = .call 10 a := callC_ok (by kernel_rfl) a H
theorem R10ok : resKs Tryz.prog Tryz.f10.results.toList = some [] := by kernel_rfl
noncomputable def C39 := mkC Tryz.prog Tryz.f39 59
theorem C39ok : CCok Tryz.prog Tryz.f39 59 C39 := mkC_ok _
@[go_sem] theorem call39 (a H) : callC Tryz.prog 39 a H = .call 39 a := callC_ok (by kernel_rfl) a H
theorem R39ok : resKs Tryz.prog Tryz.f39.results.toList = some [] := by kernel_rfl
noncomputable def C11 := mkC Tryz.prog Tryz.f11 13
theorem C11ok : CCok Tryz.prog Tryz.f11 13 C11 := mkC_ok _
@[go_sem] theorem call11 (a H) : callC Tryz.prog 11 a H = .call 11 a := callC_ok (by kernel_rfl) a H
theorem R11ok : resKs Tryz.prog Tryz.f11.results.toList = some [RK.cell z.i.i true 24] := by kernel_rfl
noncomputable def C12 := mkC Tryz.prog Tryz.f12 8
theorem C12ok : CCok Tryz.prog Tryz.f12 8 C12 := mkC_ok _
@[go_sem] theorem call12 (a H) : callC Tryz.prog 12 a H = .call 12 a := callC_ok (by kernel_rfl) a H
theorem R12ok : resKs Tryz.prog Tryz.f12.results.toList = some [RK.cell z.o.i true 6] := by kernel_rfl
noncomputable def C17 := mkC Tryz.prog Tryz.f17 8
theorem C17ok : CCok Tryz.prog Tryz.f17 8 C17 := mkC_ok _
@[go_sem] theorem call17 (a H) : callC Tryz.prog 17 a H = .call 17 a := callC_ok (by kernel_rfl) a H
theorem R17ok : resKs Tryz.prog Tryz.f17.results.toList = some [RK.cell z.o.i true 24] := by kernel_rfl
@[go_sem] theorem call9 (a H) : callC Tryz.prog 9 a H = .call 9 a := callC_ok (by kernel_rfl) a H
end Go.Proofs
/- Answers that wait, asked: walked. -/


set_option linter.all false
set_option maxRecDepth 100000
namespace Go.Proofs
open Go Go.Ev
variable {H : Heap}
/-- the answers that wait -/
def isWt (G : Heap) (wv : AV) (ws : List (List AV)) : Prop := (ws = [] ∧ wv = .nils) ∨ ∃ kw, ws ≠ [] ∧ wv = outV kw 24 ws.length ∧ G.get kw = some (.row true 24 ws)
/-- where they lie -/
def wk : AV → List K
  | .slice k _ _ _ _ _ => [k]
  | _ => []
section
variable {G : Heap} {kn : K}
theorem f84_ok (hok : G.ok) {x0 kd : Int} {d1 d2 d3 wv x5 x6 x7 : AV} {ws : List (List AV)} (hn : G.get kn = some (.row true 8 [[.int .i64 x0, d1, d2, d3, wv, x5, x6, x7]])) (hw : isWt G wv ws) (hN : ws.length < 100000) (t1 t3 : Int) (t0 t2 t4 t5 t6 t7 t8 t9 t10 t11 t12 t13 t14 t15 t16 t17 t18 t19 t20 t21 t22 t23 l0 l1 l2 l3 l4 l5 l6 l7 l8 l9 l10 l11 l12 l13 l14 l15 l16 l17 l18 l19 l20 l21 l22 l23 : AV) :
    FnOk Tryz.prog 84 [.ptr kn 0, .agg [t0, .int .i64 t1, t2, .int .i64 t3, t4, t5, t6, t7, t8, t9, t10, t11, t12, t13, t14, t15, t16, t17, t18, t19, t20, t21, t22, t23], .int .i64 kd, .agg [l0, l1, l2, l3, l4, l5, l6, l7, l8, l9, l10, l11, l12, l13, l14, l15, l16, l17, l18, l19, l20, l21, l22, l23]] G fun r G' => r = .tup [] ∧ (∃ wv', G'.get kn = some (.row true 8 [[.int .i64 x0, d1, d2, d3, wv', x5, x6, x7]]) ∧ isWt G' wv' (ws ++ [[.int .i64 kd, .int .i64 x0, .int .i64 t1, .int .i64 t3, l4, l5, l6, l7, l8, l9, l10, l11, l12, l13, l14, l15, l16, l17, l18, l19, l20, l21, l22, l23]])) ∧ G'.ok ∧ Kp (kn :: wk wv) G G' := by
  rcases hw with ⟨rfl, rfl⟩ | ⟨kw, hne, rfl, hw⟩
  · refine (f84_first hok hn t1 t3 t0 t2 t4 t5 t6 t7 t8 t9 t10 t11 t12 t13 t14 t15 t16 t17 t18 t19 t20 t21 t22 t23 l0 l1 l2 l3 l4 l5 l6 l7 l8 l9 l10 l11 l12 l13 l14 l15 l16 l17 l18 l19 l20 l21 l22 l23).mono ?_
    rintro r G' ⟨rfl, ⟨kw', _, h1, h2⟩, h3, h4⟩
    exact ⟨rfl, ⟨_, h1, .inr ⟨kw', by simp, rfl, h2⟩⟩, h3, h4⟩
  · obtain ⟨x, xs, rfl⟩ : ∃ x xs, ws = x :: xs := by
      cases ws with
      | nil => exact absurd rfl hne
      | cons x xs => exact ⟨x, xs, rfl⟩
    refine (f84_more hok hn hw rfl (by simp at hN; omega) t1 t3 t0 t2 t4 t5 t6 t7 t8 t9 t10 t11 t12 t13 t14 t15 t16 t17 t18 t19 t20 t21 t22 t23 l0 l1 l2 l3 l4 l5 l6 l7 l8 l9 l10 l11 l12 l13 l14 l15 l16 l17 l18 l19 l20 l21 l22 l23).mono ?_
    rintro r G' ⟨rfl, ⟨kw', _, h1, h2⟩, h3, h4⟩
    refine ⟨rfl, ⟨_, h1, .inr ⟨kw', by simp, ?_, h2⟩⟩, h3, h4⟩
    simp only [List.length_append, List.length_cons, List.length_nil]
theorem Kp.ext {ks : List K} (hok : G.ok) (L : List Blk) : Kp ks G (G.ext L) := ⟨fun j b _ hb => Heap.get_ext_old hok hb L, by rw [Heap.nx_ext, Heap.toNat_key]; exact Nat.le_add_right _ _⟩
theorem f80_none (hok : G.ok) {x0 : Int} {d1 d2 d3 wv x5 x6 x7 : AV} {ws : List (List AV)} (hn : G.get kn = some (.row true 8 [[.int .i64 x0, d1, d2, d3, wv, x5, x6, x7]])) (hw : isWt G wv ws) (hN : ws.length < 100000) (t1 t3 : Int) (t0 t2 t4 t5 t6 t7 t8 t9 t10 t11 t12 t13 t14 t15 t16 t17 t18 t19 t20 t21 t22 t23 a0 a1 a2 a3 : AV) :
    FnOk Tryz.prog 80 [.ptr kn 0, .agg [t0, .int .i64 t1, t2, .int .i64 t3, t4, t5, t6, t7, t8, t9, t10, t11, t12, t13, t14, t15, t16, t17, t18, t19, t20, t21, t22, t23], .agg [a0, a1, a2, a3], .nili] G fun r G' => r = .tup [] ∧ (∃ wv', G'.get kn = some (.row true 8 [[.int .i64 x0, d1, d2, d3, wv', x5, x6, x7]]) ∧ isWt G' wv' (ws ++ [[.int .i64 2, .int .i64 x0, .int .i64 t1, .int .i64 t3, .int .i64 0, .int .i64 0, .int .i64 0, .int .i64 0, .int .i64 0, .str [], .str [], .str [], .int .i64 0, .nils, a0, a1, a2, a3, .str [], .str [], .nils, .nils, .nils, .str []]])) ∧ G'.ok ∧ Kp (kn :: wk wv) G G' := by
  refine FnOk.of_WW Tryz.func80 rfl C80ok R80ok E0 good_E0 ?_
  simp only [go_sem, C80]
  refine CL.of (f64_ok none 17) ?_
  rintro _ G' ⟨rfl, hG⟩; rw [hG]; clear hG
  have hw' : ∀ L, isWt (G.ext L) wv ws := fun L => by
    rcases hw with h | ⟨kw, h1, h2, h3⟩
    · exact .inl h
    · exact .inr ⟨kw, h1, h2, Heap.get_ext_old hok h3 L⟩
  simp only [go_sem]
  refine CL.of (f84_ok (Heap.ok_ext hok _) (Heap.get_ext_old hok hn _) (hw' _) hN t1 t3 _ _ _ _ _ _ _ _ _ _ _ _ _ _ _ _ _ _ _ _ _ _ _ _ _ _ _ _ _ _ _ _ _ _ _ _ _ _ _ _ _ _ _ _ _ _) ?_
  rintro _ G' ⟨rfl, h1, h2, h3⟩
  simp only [go_sem]
  exact ⟨h1, h2, (Kp.ext hok _).trans h3⟩
end
/-- a node of one shard -/
structure isNd (G : Heap) (kn kd kj kh : K) (bs : List Nat) (n m : Nat) (ws : List (List AV)) (x5 x6 x7 : AV) (s : Sh) : Prop where
  ok : G.ok
  row : ∃ wv, G.get kn = some (.row true 8 [[.int .i64 0, .ptr kd 0, .ptr kj 0, .ptr kh 0, wv, x5, x6, x7]]) ∧ isWt G wv ws
  disk : G.get kd = some (.row true 2 [[.str bs, .int .i64 n]])
  jour : G.get kj = some (.row true 2 [[.ptr kd 0, .int .i64 m]])
  hold : ∃ lv, isHd G kh lv .nils [s] []
section
variable {G : Heap} {kn kd kj kh : K}
/-- a session's letter that asks for a put -/
def askP (i : Nat) (key : List Nat) : List AV := [.int .i64 1, .int .i64 200, .int .i64 0, .int .i64 ((i : Int) + 1), .int .i64 0, .int .i64 0, .int .i64 0, .int .i64 0, .int .i64 2, .str key, .str [], .str [118], .int .i64 0, .nils, .int .i64 0, .str [], .int .i64 0, .nils, .str [], .str [], .nils, .nils, .nils, .str []]
/-- what is said to it -/
def saidP (i : Nat) (ver : Int) : List AV := [.int .i64 2, .int .i64 0, .int .i64 200, .int .i64 ((i : Int) + 1), .int .i64 0, .int .i64 0, .int .i64 0, .int .i64 0, .int .i64 0, .str [], .str [], .str [], .int .i64 0, .nils, .int .i64 0, .str [], .int .i64 ver, .nils, .str [], .str [], .nils, .nils, .nils, .str []]
theorem f31_put {x5 x6 x7 : AV} {bs T : List Nat} {n m i : Nat} {ws : List (List AV)} {s : Sh} {key : List Nat} (h : isNd G kn kd kj kh bs n m ws x5 x6 x7 s) (hP : PutI 1 false i s) (hi : i < 20) (hk : has s.fr s.to key)
    (hB : ∀ J : Heap, FnOk Tryz.prog 53 [.agg (putL i key)] J fun r J' => r = .str T ∧ J' = J) (hT : T ≠ []) (hTl : T.length < 1000000) (hl : bs.length + (wrapT T).length ≤ 200000) (hnl : n ≤ bs.length) (hm : m < 1000000) (hN : ws.length < 100000) :
    FnOk Tryz.prog 31 [.ptr kn 0, .agg (askP i key)] G fun r G' => r = .tup [] ∧ ∃ t ver, isNd G' kn kd kj kh (bs ++ wrapT T) (n + (wrapT T).length) (m + 1) (ws ++ [saidP i ver]) x5 x6 x7 t ∧ PutI 1 false (i + 1) t ∧ Nxt s key i t := by
  obtain ⟨wv, hn, hw⟩ := h.row
  obtain ⟨lv, hh⟩ := h.hold
  obtain ⟨E, hE, e1, e2⟩ := two_calls (P := Tryz.prog) (f := 79) (g := 78) (by decide) (f79_ok (H := G.ext [.row true 24 [askP i key], .row true 8 [zS]]) (kd := 2) (by decide) key (.str []) (.str [118]) (.int .i64 0) .nils) (f78_yes (hh.ext [.row true 24 [askP i key], .row true 8 [zS]]) key (i := 0) (idx_one (hP.find hk)) rfl)
  simp only [askP, zS, Heap.key_ext, List.length_cons, List.length_nil, Nat.zero_add, Nat.reduceAdd] at e1 e2
  refine FnOk.of_WW Tryz.func31 rfl C31ok R31ok E hE ?_
  have hn' := fun L => Heap.get_ext_old h.ok hn L
  have hz : IntKind.i64.wrap (200 - 200) = 0 := rfl
  have z0 : ((0 : Int) < 0) = False := eq_false (by omega)
  have z1 : ((i : Int) + 1 < 1) = False := eq_false (by omega)
  simp only [go_sem, C31, askP, hn', hz, z0, z1, e1, e2, Sh.cop, Sh.enc, copB, Heap.key_ext]
  have hso := hh.each s (by simp)
  refine CL.of (ask_putX (s := s.cop (G.key 2) (G.key 3) (G.key 4)) (Sh.cop_ok hso rfl rfl rfl) (hP.cop _ _ _) hi (hP.evV _ _ _) hk) ?_
  rintro _ M ⟨⟨t0, ver0, rfl, -, -, -⟩, L, hM⟩
  have hMok : M.ok := by rw [hM]; exact Heap.ok_ext (Heap.ok_ext h.ok _) _
  have hMk : ∀ j b, G.get j = some b → M.get j = some b := fun j b hb => by rw [hM, Heap.ext_append]; exact Heap.get_ext_old h.ok hb _
  have e0 := get_of_ext hM (i := 0) rfl
  have hhM : isHd M kh lv .nils [s] [] := by rw [hM]; exact (hh.ext _).ext _
  have g0 := fun L => Heap.get_ext_old hMok e0 L
  have gn := fun L => Heap.get_ext_old hMok (hMk _ _ hn) L
  refine WW.nil ?_
  simp only [go_sem, Sh.enc, g0, gn]
  refine CL.of (f82_put key [118]) ?_
  rintro _ G' ⟨rfl, hG⟩; rw [hG]; clear hG
  simp only [go_sem, g0, gn]
  refine CL.of (f28_put (Heap.get_ext_old hMok (hMk _ _ hn) _) (Heap.get_ext_old hMok (hMk _ _ h.disk) _) (Heap.get_ext_old hMok (hMk _ _ h.jour) _) (hhM.ext _) hP hi hk hB hT hTl hl hnl hm) ?_
  rintro _ G' ⟨⟨ver, rfl⟩, hd1, hj1, ⟨lv1, t, hh1, hPt, hNt⟩, kp1⟩
  obtain ⟨G1, hG1⟩ : ∃ G1, G1 = G' := ⟨_, rfl⟩
  rw [← hG1] at hd1 hj1 hh1 kp1 ⊢
  clear hG1
  have hno : ∀ {j b}, M.get j = some b → (∀ {wr rows}, b ≠ .row wr 2 rows) → j ∉ [kd, kj, kh] := fun {j b} hb hne hm => by
    simp only [List.mem_cons, List.not_mem_nil, or_false] at hm
    rcases hm with rfl | rfl | rfl
    · rw [hMk _ _ h.disk] at hb; cases hb; exact hne rfl
    · rw [hMk _ _ h.jour] at hb; cases hb; exact hne rfl
    · rw [hhM.row] at hb; cases hb; exact hne rfl
  have hk1 : M.key 1 ∉ [kd, kj, kh] := fun hm => by
    simp only [List.mem_cons, List.not_mem_nil, or_false] at hm
    rcases hm with e | e | e
    · exact ne_key hMok (hMk _ _ h.disk) 1 e.symm
    · exact ne_key hMok (hMk _ _ h.jour) 1 e.symm
    · exact ne_key hMok hhM.row 1 e.symm
  have w1 := kp1.keep (M.key 1) _ hk1 (get_lit rfl)
  have w0 := kp1.keep (G.key 0) _ (hno e0 (by simp)) (g0 _)
  have wn := kp1.keep kn _ (hno (hMk _ _ hn) (by simp)) (gn _)
  have wx := fun L => Heap.get_ext_old hh1.ok w1 L
  have s1 := fun b (l : List Blk) (α : Type) (c' : Heap → α) => Heap.setC_here hh1.ok w1 b l c'
  have k1 := fun b (l : List Blk) => Heap.get_set_here hh1.ok w1 b l
  have k0 := fun b (l : List Blk) => Heap.get_set_there hh1.ok w0 (ne_key hMok e0 1).symm b l
  have kn' := fun b (l : List Blk) => Heap.get_set_there hh1.ok wn (ne_key hMok (hMk _ _ hn) 1).symm b l
  refine WW.nil ?_
  simp only [go_sem, wx, s1, k1, k0, kn']
  have o2 : ∀ b l, ((G1.set (M.key 1) b).ext l).ok := fun b l => Heap.ok_ext (Heap.ok_set hh1.ok w1) l
  have hw1 : ∀ b l, isWt ((G1.set (M.key 1) b).ext l) wv ws := fun b l => by
    rcases hw with e | ⟨kw, a1, a2, a3⟩
    · exact .inl e
    · exact .inr ⟨kw, a1, a2, Heap.get_set_there hh1.ok (kp1.keep _ _ (hno (hMk _ _ a3) (by simp)) (Heap.get_ext_old hMok (hMk _ _ a3) _)) (ne_key hMok (hMk _ _ a3) 1).symm b l⟩
  refine CL.of (f80_none (o2 _ _) (kn' _ _) (hw1 _ _) hN 200 ((i : Int) + 1) _ _ _ _ _ _ _ _ _ _ _ _ _ _ _ _ _ _ _ _ _ _ _ _ _ _) ?_
  rintro _ G' ⟨rfl, ⟨wv', h1, h2⟩, h3, h4⟩
  simp only [go_sem]
  have hnw : ∀ {j x}, G.get j = some (.row true 2 [x]) → j ∉ kn :: wk wv := fun {j x} hb hm => by
    rcases List.mem_cons.1 hm with rfl | hm
    · rw [hn] at hb; cases hb
    · rcases hw with ⟨_, rfl⟩ | ⟨kw, a1, rfl, a3⟩
      · cases hm
      · cases ws with
        | nil => cases hm
        | cons w ws =>
          rw [List.mem_singleton.1 hm, a3] at hb; cases hb
  have hd2 := h4.keep _ _ (hnw h.disk) (Heap.get_set_there hh1.ok hd1 (ne_key hMok (hMk _ _ h.disk) 1).symm _ _)
  have hj2 := h4.keep _ _ (hnw h.jour) (Heap.get_set_there hh1.ok hj1 (ne_key hMok (hMk _ _ h.jour) 1).symm _ _)
  have hh2 := ((hh1.cell w1 _).ext []).kp h4 h3 fun j hm => by
    refine ⟨fun e => hnw hh.row (e ▸ hm), fun b hb => ?_⟩
    rcases List.mem_cons.1 hm with rfl | hm
    · rw [kn'] at hb; cases hb; exact foreign_node
    · have hw2 := hw1 (.row true 4 [[.int .i64 0, .str [], .int .i64 ver, .nils]]) []
      rcases hw2 with ⟨_, rfl⟩ | ⟨kw, a1, rfl, a3⟩
      · cases hm
      · cases ws with
        | nil => cases hm
        | cons w ws =>
          rw [List.mem_singleton.1 hm, a3] at hb; cases hb; exact foreign_wide (by decide)
  exact ⟨t, ver, ⟨h3, ⟨wv', h1, h2⟩, hd2, hj2, ⟨_, hh2⟩⟩, hPt, hNt⟩
end
end Go.Proofs
/- errors.As, where the error is a number and another type is asked for: by its contract. -/

set_option linter.all false
namespace Go.Proofs
open Go.RowKit Go.Extern.Stop Go.Stop Go.Extern
theorem Tryz.as_valueOfB (t : Addr) (w : World) : (ReflectliteValue.unpack (.iface 206 (.pointer (some t)))).run Tryz.prog w
    = .ok (.agg #[.pointer (some ⟨2, 206, none⟩), .pointer (some ⟨w.heap.size, 0, none⟩), .int .u64 150]) (w.alloc (.cells #[.pointer (some t)] 206)) := by kernel_rfl
theorem Tryz.as_typeB (a : Addr) (w : World) : (ReflectliteValue.methodAny (ReflectliteValue.valueError "reflectlite.Value.Type" 0) (fun t _ _ _ => ReflectliteType.toType t) #[.agg #[.pointer (some ⟨2, 206, none⟩), .pointer (some a), .int .u64 150]]).run Tryz.prog w
    = .ok (.iface 242 (.agg #[.pointer (some ⟨2, 206, none⟩)])) w := by kernel_rfl
theorem Tryz.as_kindB (w : World) : ((ReflectliteType.abiMethod fun t => (fun a : Nat => Value.int IntKind.u8 (a : Int)) <$> Rtype.kind t) #[.pointer (some ⟨2, 206, none⟩)]).run Tryz.prog w = .ok (.int .u8 22) w := by kernel_rfl
theorem Tryz.as_kindS (w : World) : ((ReflectliteType.abiMethod fun t => (fun a : Nat => Value.int IntKind.u8 (a : Int)) <$> Rtype.kind t) #[.pointer (some ⟨2, 122, none⟩)]).run Tryz.prog w = .ok (.int .u8 25) w := by kernel_rfl
theorem Tryz.as_partsB (a : Addr) (w : World) : (ReflectliteValue.parts (.agg #[.pointer (some ⟨2, 206, none⟩), .pointer (some a), .int .u64 150])).run Tryz.prog w = .ok (some (206, a, 150)) w := by kernel_rfl
theorem Tryz.as_isNilB (a p : Addr) (W : World) (ha : W.cell? a = some (.pointer (some p))) :
    (ReflectliteValue.method (ReflectliteValue.valueError "reflectlite.Value.IsNil" 0) ReflectliteValue.isNil #[.agg #[.pointer (some ⟨2, 206, none⟩), .pointer (some a), .int .u64 150]]).run Tryz.prog W = .ok (.bool false) W := by
  rw [rlm]
  simp only [Sem.run_bind, Tryz.as_partsB, Result.andThen]
  simp [ReflectliteValue.isNil, loadVar, isAgg, underlying, Tryz.underlying206, ha, Result.andThen]
theorem Tryz.as_elemB (w : World) : (ReflectliteType.method ReflectliteType.elem #[.agg #[.pointer (some ⟨2, 206, none⟩)]]).run Tryz.prog w = .ok (.iface 242 (.agg #[.pointer (some ⟨2, 122, none⟩)])) w := by kernel_rfl
theorem Tryz.as_implementsS (w : World) : (ReflectliteType.relation "Implements" ReflectliteType.implements_ #[.agg #[.pointer (some ⟨2, 122, none⟩)], .iface 242 (.agg #[.pointer (some ⟨2, 72, none⟩)])]).run Tryz.prog w = .ok (.bool true) w := by kernel_rfl
theorem Tryz.as_assignableS (w : World) : (ReflectliteType.relation "AssignableTo" ReflectliteType.assignableTo #[.agg #[.pointer (some ⟨2, 118, none⟩)], .iface 242 (.agg #[.pointer (some ⟨2, 122, none⟩)])]).run Tryz.prog w = .ok (.bool false) w := by kernel_rfl
theorem Tryz.noAs (v : Value) (xT : TypeId) (w : World) : (Instr.typeAssert (.iface 118 v) xT 283 true).run Tryz.prog w = .ok (.tuple #[.nilIface, .bool false]) w := run_typeAssert_lacksB Tryz.underlying283 (by kernel_rfl) (by kernel_rfl) v xT w
set_option maxHeartbeats 4000000 in
theorem as_miss (e : Int) (t : Addr) (w : World) (hg : w.cell? ⟨0, 0, none⟩ = some (.iface 242 (.agg #[.pointer (some ⟨2, 72, none⟩)]))) :
    Calls Tryz.prog 105 #[.iface 118 (.int .i64 e), .iface 206 (.pointer (some t))] w fun ev w' => ev = .returned (.bool false) ∧ w' = (((w.alloc (.cells #[.pointer (some t)] 206)).alloc (.cells #[.pointer (some ⟨2, 206, none⟩), .pointer (some ⟨w.heap.size, 0, none⟩), .int .u64 150] 225)).alloc (.cells #[.pointer (some ⟨2, 206, none⟩), .pointer (some ⟨w.heap.size, 0, none⟩), .int .u64 150] 225)) := by
  have h6 := @run_callFunc_extern Tryz.prog 161 _ (fun args => ReflectliteValue.unpack (args.getD 0 (.tuple #[]))) Tryz.func161 (by kernel_rfl) (by kernel_rfl) (by kernel_rfl) (by kernel_rfl)
  have h7 := @run_callFunc_extern Tryz.prog 162 _ (ReflectliteValue.methodAny (ReflectliteValue.valueError "reflectlite.Value.Type" 0) (fun t _ _ _ => ReflectliteType.toType t)) Tryz.func162 (by kernel_rfl) (by kernel_rfl) (by kernel_rfl) (by kernel_rfl)
  have h8 := @run_callFunc_extern Tryz.prog 163 _ (ReflectliteValue.method (ReflectliteValue.valueError "reflectlite.Value.IsNil" 0) ReflectliteValue.isNil) Tryz.func163 (by kernel_rfl) (by kernel_rfl) (by kernel_rfl) (by kernel_rfl)
  have h27 := @run_callFunc_extern Tryz.prog 300 _ (ReflectliteType.abiMethod fun t => do pure (.int .u8 (← Rtype.kind t))) Tryz.func300 (by kernel_rfl) (by kernel_rfl) (by kernel_rfl) (by kernel_rfl)
  have h37 := @run_callFunc_extern Tryz.prog 312 _ (ReflectliteType.method ReflectliteType.elem) Tryz.func312 (by kernel_rfl) (by kernel_rfl) (by kernel_rfl) (by kernel_rfl)
  have h38 := @run_callFunc_extern Tryz.prog 313 _ (ReflectliteType.relation "Implements" ReflectliteType.implements_) Tryz.func313 (by kernel_rfl) (by kernel_rfl) (by kernel_rfl) (by kernel_rfl)
  have h10 := @run_callFunc_extern Tryz.prog 127 _ ReflectliteType.typeOf Tryz.func127 (by kernel_rfl) (by kernel_rfl) (by kernel_rfl) (by kernel_rfl)
  have h35 := @run_callFunc_extern Tryz.prog 310 _ (ReflectliteType.relation "AssignableTo" ReflectliteType.assignableTo) Tryz.func310 (by kernel_rfl) (by kernel_rfl) (by kernel_rfl) (by kernel_rfl)
  have tO := Tryz.as_typeOf25
  have mA := Tryz.as_methodAssignableTo
  have a25 := Tryz.as_assignableS
  have f6 := Tryz.as_valueOfB
  have f7 := Tryz.as_typeB
  have mK := Tryz.as_methodKind
  have mE := Tryz.as_methodElem
  have mI := Tryz.as_methodImplements
  have k27 := Tryz.as_kindB
  have k25 := Tryz.as_kindS
  have e27 := Tryz.as_elemB
  have i25 := Tryz.as_implementsS
  have n1 := Tryz.noAs
  have n2 := Tryz.noUnwrap
  have n3 := Tryz.noUnwraps
  have n8 := Tryz.as_isNilB ⟨w.heap.size, 0, none⟩ t ((w.alloc (.cells #[.pointer (some t)] 206)).alloc (.cells #[.pointer (some ⟨2, 206, none⟩), .pointer (some ⟨w.heap.size, 0, none⟩), .int .u64 150] 225)) (by simp)
  have hlt : 0 < w.heap.size := by
    rcases Nat.eq_zero_or_pos w.heap.size with h0 | h
    · simp [World.cell?, h0] at hg
    · exact h
  have hg2 : ((w.alloc (.cells #[.pointer (some t)] 206)).alloc (.cells #[.pointer (some ⟨2, 206, none⟩), .pointer (some ⟨w.heap.size, 0, none⟩), .int .u64 150] 225)).cell? ⟨0, 0, none⟩ = some (.iface 242 (.agg #[.pointer (some ⟨2, 72, none⟩)])) := by
    rw [World.cell?_alloc_lt _ _ ⟨0, 0, none⟩ (by simp), World.cell?_alloc_lt _ _ ⟨0, 0, none⟩ hlt]; exact hg
  go_enter Tryz.func105, Tryz.ntmps105
  go_wp2
  refine wp_loop_rounds 1 ?_
  rw [rounds_succ]
  go_wp2
  go_ret
  exact ⟨rfl, rfl⟩
end Go.Proofs
/- The functions whose answers are known: slices.Insert, errors.Is, errors.As. -/


set_option linter.all false
set_option maxRecDepth 100000
namespace Go.Proofs
open Go Go.Ev
variable {H : Heap}
theorem ins183 : InsFn Tryz.prog 183 6 72 [.int .i64 0, .int .i64 0, .int .i64 0, .str [], .int .i64 0, .nils] := ⟨⟨Tryz.f183, 220, 221, Tryz.func183, by kernel_rfl, by kernel_rfl, by kernel_rfl, by kernel_rfl⟩, rfl, by decide⟩
theorem ins275 : InsFn Tryz.prog 275 5 56 [.str [], .str [], .int .i64 0, .bool false, .int .i64 0] := ⟨⟨Tryz.f275, 281, 282, Tryz.func275, by kernel_rfl, by kernel_rfl, by kernel_rfl, by kernel_rfl⟩, rfl, by decide⟩
theorem num_inv {φ : Phi} {n : Int} {v : Value} (h : VRel Tryz.prog φ (.iface 118 (.int .i64 n)) v) : v = .iface 118 (.int .i64 n) := by
  cases h with | iface _ _ v' h => cases h; rfl
theorem nil_inv {φ : Phi} {v : Value} (h : VRel Tryz.prog φ .nili v) : v = .nilIface := by cases h; rfl
theorem b1 {α : Type} {a b : Nat} {x : Option α} {y : α} (e : bif' (Nat.beq a b) x none = some y) : a = b ∧ x = some y := by
  cases hb : Nat.beq a b with
  | true => rw [hb] at e; exact ⟨Nat.eq_of_beq_eq_true hb, e⟩
  | false => rw [hb] at e; cases e
theorem is_ok (args : List AV) (H : Heap) (v : AV) (G : Heap) (h : isA 118 args H = some (.ok v G)) : FnOk Tryz.prog 64 args H fun v' G' => v' = v ∧ G' = G := by
  unfold isA at h
  split at h
  case h_3 => cases h
  · obtain ⟨rfl, h⟩ := b1 h
    cases h
    refine FnOk.of_calls fun φ w args' ha hw => ?_
    obtain ⟨x, y, rfl, h1, h2⟩ := two_args ha
    obtain rfl := nil_inv h1
    obtain rfl := num_inv h2
    refine (is_nil _ w).mono ?_
    rintro e w' ⟨rfl, rfl⟩
    exact ⟨⟨_, rfl, .bool _⟩, Grows.refl _⟩
  · obtain ⟨q1, g1⟩ := b1 h
    obtain ⟨q2, g2⟩ := b1 g1
    rw [eqI_eq] at g2
    cases g2
    rw [q1, q2]
    refine FnOk.of_calls fun φ w args' ha hw => ?_
    obtain ⟨x, y, rfl, h1, h2⟩ := two_args ha
    obtain rfl := num_inv h1
    obtain rfl := num_inv h2
    refine (is_num _ _ w).mono ?_
    rintro e w' ⟨rfl, rfl⟩
    refine ⟨⟨_, rfl, ?_⟩, Grows.refl _⟩
    exact .bool _
theorem as_ok (args : List AV) (H : Heap) (v : AV) (G : Heap) (h : asA 118 165 206 args H = some (.ok v G)) : FnOk Tryz.prog 105 args H fun v' G' => v' = v ∧ G' = G := by
  unfold asA at h
  split at h
  case h_3 => cases h
  · cases h
    refine FnOk.of_calls fun φ w args' ha hw => ?_
    obtain ⟨x, y, rfl, h1, h2⟩ := two_args ha
    obtain rfl := nil_inv h1
    refine (as_nil y w).mono ?_
    rintro e w' ⟨rfl, rfl⟩
    exact ⟨⟨_, rfl, .bool _⟩, Grows.refl _⟩
  · rename_i t1 n t2 k
    obtain ⟨q1, h⟩ := b1 h
    rw [q1]
    cases hb : Nat.beq t2 206 with
    | true =>
      rw [hb] at h
      cases h
      obtain rfl := Nat.eq_of_beq_eq_true hb
      refine FnOk.of_calls fun φ w args' ha hw => ?_
      obtain ⟨x, y, rfl, h1, h2⟩ := two_args ha
      obtain rfl := num_inv h1
      cases h2 with
      | iface _ _ u' h2 =>
        cases h2 with
        | ptr _ _ a ha2 =>
          refine (as_miss n ⟨a.b, a.o + 0, none⟩ w (hw.rom 0 _ (List.mem_singleton.2 rfl)).1).mono ?_
          rintro e w' ⟨rfl, rfl⟩
          exact ⟨⟨_, rfl, .bool _⟩, (((Grows.alloc _ _).trans (Grows.alloc _ _)).trans (Grows.alloc _ _))⟩
    | false =>
      rw [hb, bif_false] at h
      obtain ⟨q2, h⟩ := b1 h
      rw [q2]
      split at h
      case h_2 => cases h
      rename_i x hk
      rw [Heap.setC_eq] at h
      cases h
      refine FnOk.of_calls_set (y' := .int .i64 n) hk (fun φ => .int _ _) rfl (fun φ => ⟨_, .bool _⟩) fun φ w args' ha hw => ?_
      obtain ⟨v, u, rfl, h1, h2⟩ := two_args ha
      obtain rfl := num_inv h1
      cases h2 with
      | iface _ _ u' h2 =>
        cases h2 with
        | ptr _ _ a ha2 =>
          refine ⟨a, ha2, fun old ho hf => ?_⟩
          refine (as_hit n ⟨a.b, a.o, none⟩ old w (hw.rom 0 _ (List.mem_singleton.2 rfl)).1 ho hf).mono ?_
          rintro e w' ⟨rfl, rfl⟩
          exact ⟨⟨_, rfl, .bool _⟩, _, (((Grows.alloc _ _).trans (Grows.alloc _ _)).trans (Grows.alloc _ _)).trans (Grows.alloc _ _), rfl⟩
/-- what is known beforehand -/
noncomputable def XK : Orc := orX 183 (insA 6 72) (orX 275 (insA 5 56) (orX 64 (isA 118) (orX 105 (asA 118 165 206) X0)))
theorem good_XK : GoodX Tryz.prog XK := good_orX (insA_sound ins183) (good_orX (insA_sound ins275) (good_orX is_ok (good_orX as_ok good_X0)))
end Go.Proofs
/- The known example: reckoned. -/

set_option linter.all false
set_option maxRecDepth 100000
namespace Go.Proofs
open Go Go.Ev
variable {H : Heap}
theorem known_run : Go.Ev.okB (evFn Tryz.prog XK 100000 8 [] hp0) = true := by kernel_rfl
theorem known_ok : FnOk Tryz.prog 8 [] H fun r G => r = .bool true ∧ G = H := FnOk.lift0 rfl rfl (FnOk.of_evB good_XK known_run)
noncomputable def kA (args : List AV) (H : Heap) : Option RC := match args with
  | [] => some (.ok (.bool true) H)
  | _ => none
theorem kA_ok (args : List AV) (H : Heap) (v : AV) (G : Heap) (h : kA args H = some (.ok v G)) : FnOk Tryz.prog 8 args H fun v' G' => v' = v ∧ G' = G := by
  unfold kA at h
  split at h
  · cases h; exact known_ok
  · cases h
/-- the known example is known, too -/
noncomputable def XL : Orc := orX 8 kA XK
theorem good_XL : GoodX Tryz.prog XL := good_orX kA_ok good_XK
end Go.Proofs
/- Letters, records of a put: reckoned. -/


set_option linter.all false
set_option maxRecDepth 100000
namespace Go.Proofs
open Go Go.Ev
variable {H : Heap}
/-- a session's letter that asks for a put of a byte under a byte -/
def askL (s id b v : Nat) : List AV := [.int .i64 1, .int .i64 (200 + (s : Int)), .int .i64 0, .int .i64 id, .int .i64 0, .int .i64 0, .int .i64 0, .int .i64 0, .int .i64 2, .str [b], .str [], .str [v], .int .i64 0, .nils, .int .i64 0, .str [], .int .i64 0, .nils, .str [], .str [], .nils, .nils, .nils, .str []]
/-- its record -/
def recL (s id b v : Nat) : List AV := [.int .i64 2, .int .i64 s, .int .i64 id, .int .i64 0, .int .i64 0, .int .i64 0, .int .i64 2, .str [b], .str [], .str [v], .int .i64 0, .nils, .str [], .str [], .nils, .nils]
/-- its bytes -/
def recT (s id b v : Nat) : List Nat := [2, s, id, 0, 0, 0, 2, 1, b, 0, 1, v, 0, 0, 0, 0, 0, 0]
noncomputable def EK : FuncId → List AV → Heap → RC := evFn Tryz.prog XL 100000
theorem ask_run (b v : Nat) : (allN 3 fun s => allN 31 fun i => isR (EK 30 [.agg (askL s (i + 1) b v)] hp0) (.bool true)) = true := by kernel_rfl
theorem letter_ask {s id : Nat} (hs : s < 3) (h0 : 0 < id) (h1 : id < 32) (b v : Nat) : FnOk Tryz.prog 30 [.agg (askL s id b v)] H fun r G => r = .bool true ∧ G = H := by
  obtain ⟨i, rfl⟩ : ∃ i, id = i + 1 := ⟨id - 1, by omega⟩
  exact FnOk.of_ev1 good_XL rfl rfl (allN2 (ask_run b v) s hs i (by omega))
/-- puts of the letter k -/
theorem rec_feeds : (allN 20 fun i => isR (EK 53 [.agg (recL 0 (i + 1) 107 118)] hp0) (.str (recT 0 (i + 1) 107 118))) = true := by kernel_rfl
theorem bytes_feeds {i : Nat} (h : i < 20) : FnOk Tryz.prog 53 [.agg (recL 0 (i + 1) 107 118)] H fun r G => r = .str (recT 0 (i + 1) 107 118) ∧ G = H := FnOk.of_ev1 good_XL rfl rfl (allN_of rec_feeds i h)
end Go.Proofs
set_option linter.all false
set_option maxRecDepth 100000
namespace Go.Proofs
open Go Go.Ev
/-! maps whose keys are literal numbers -/
noncomputable def mapB {β : Type} (b : Blk) (f : β) (c : List (AV × AV) → β) : β := Blk.rec (motive := fun _ => β) f (fun _ _ _ => f) c b
@[go_sem] theorem mapB_map {β : Type} (es : List (AV × AV)) (f : β) (c : List (AV × AV) → β) : mapB (.map es) f c = c es := rfl
@[go_sem] theorem mapC_opt {β : Type} (H : Heap) (k : K) (f : β) (c : List (AV × AV) → β) : mapC H k f c = optC (H.get k) f fun b => mapB b f c := rfl
@[go_sem] theorem mpC_nil {β : Type} (lk : LK) (k v : AV) (f : β) (c : List (AV × AV) → β) : mpC lk k v f [] c = c [(k, v)] := rfl
@[go_sem] theorem mpC_int {β : Type} (a b : Int) (v x : AV) (f : β) (es : List (AV × AV)) (c : List (AV × AV) → β) : mpC .int (.int .i64 a) v f ((.int .i64 b, x) :: es) c = if a = b then c ((.int .i64 a, v) :: es) else mpC .int (.int .i64 a) v f es fun r => c ((.int .i64 b, x) :: r) := by
  show bif' (Nat.beq (Ev.kn .i64) (Ev.kn .i64)) (eqI a b fun z => bif' z (c ((.int .i64 a, v) :: es)) (mpC .int (.int .i64 a) v f es fun r => c ((.int .i64 b, x) :: r))) f = _
  rw [show Nat.beq (Ev.kn .i64) (Ev.kn .i64) = true from rfl, bif_true, eqI_eq, bif_dec]
@[go_sem] theorem mfC_nil {β : Type} (lk : LK) (k : AV) (f : β) (c : Option AV → β) : mfC lk k [] f c = c none := rfl
@[go_sem] theorem mfC_int {β : Type} (a b : Int) (x : AV) (f : β) (es : List (AV × AV)) (c : Option AV → β) : mfC .int (.int .i64 a) ((.int .i64 b, x) :: es) f c = if a = b then c (some x) else mfC .int (.int .i64 a) es f c := by
  show bif' (Nat.beq (Ev.kn .i64) (Ev.kn .i64)) (eqI a b fun z => bif' z (c (some x)) (mfC .int (.int .i64 a) es f c)) f = _
  rw [show Nat.beq (Ev.kn .i64) (Ev.kn .i64) = true from rfl, bif_true, eqI_eq, bif_dec]
@[go_sem] theorem mlEnd_some (z v : AV) (H : Heap) : mlEnd false z H (some v) = .val v H := rfl
@[go_sem] theorem mlEnd_none (z : AV) (H : Heap) : mlEnd false z H none = .val z H := rfl
@[go_sem] theorem mlEnd_some2 (z v : AV) (H : Heap) : mlEnd true z H (some v) = .val (.tup [v, .bool true]) H := rfl
@[go_sem] theorem mlEnd_none2 (z : AV) (H : Heap) : mlEnd true z H none = .val (.tup [z, .bool false]) H := rfl
@[go_sem] theorem lk3 : lkOf Tryz.prog 3 = .int := by kernel_rfl
attribute [go_sem] mkmR mupR mlkR mkfR
@[go_sem] theorem fn_neq {β : Type} (fn : Fn) (l m : List AV) (f : β) (c : AV → β) : binV Tryz.prog EK.func none true BinOp.neq (.fn fn l m) .nilf f c = c (.bool true) := rfl
theorem clo40 : CloFn Tryz.prog 40 2 24 [.str [], .int .i64 0] := ⟨⟨Tryz.f40, Tryz.func40, by kernel_rfl, by kernel_rfl⟩, rfl, by decide⟩
section
variable {G : Heap} {kn kd kj kh : K}
theorem isWt.ext {wv : AV} {ws : List (List AV)} (h : isWt G wv ws) (hok : G.ok) (L : List Blk) : isWt (G.ext L) wv ws := by
  rcases h with h | ⟨kw, h1, h2, h3⟩
  · exact .inl h
  · exact .inr ⟨kw, h1, h2, Heap.get_ext_old hok h3 L⟩
theorem isNd.ext {x5 x6 x7 : AV} {bs : List Nat} {n m : Nat} {ws : List (List AV)} {s : Sh} (h : isNd G kn kd kj kh bs n m ws x5 x6 x7 s) (L : List Blk) : isNd (G.ext L) kn kd kj kh bs n m ws x5 x6 x7 s := by
  obtain ⟨wv, h1, h2⟩ := h.row
  obtain ⟨lv, h3⟩ := h.hold
  exact ⟨Heap.ok_ext h.ok L, ⟨wv, Heap.get_ext_old h.ok h1 L, h2.ext h.ok L⟩, Heap.get_ext_old h.ok h.disk L, Heap.get_ext_old h.ok h.jour L, ⟨lv, h3.ext L⟩⟩
theorem f10_put {x5 x6 x7 : AV} {bs T : List Nat} {n m i : Nat} {ws : List (List AV)} {s : Sh} {b : Nat} (h : isNd G kn kd kj kh bs n m ws x5 x6 x7 s) (hP : PutI 1 false i s) (hi : i < 20) (hk : has s.fr s.to [b])
    (hB : ∀ J : Heap, FnOk Tryz.prog 53 [.agg (putL i [b])] J fun r J' => r = .str T ∧ J' = J) (hT : T ≠ []) (hTl : T.length < 1000000) (hl : bs.length + (wrapT T).length ≤ 200000) (hnl : n ≤ bs.length) (hm : m < 1000000) (hN : ws.length < 100000) :
    FnOk Tryz.prog 10 [.ptr kn 0, .agg (askP i [b])] G fun r G' => r = .tup [] ∧ ∃ t ver, isNd G' kn kd kj kh (bs ++ wrapT T) (n + (wrapT T).length) (m + 1) (ws ++ [saidP i ver]) x5 x6 x7 t ∧ PutI 1 false (i + 1) t ∧ Nxt s [b] i t := by
  obtain ⟨wv, hn, hw⟩ := h.row
  have e : FnOk Tryz.prog 30 [.agg (askP i [b])] (G.ext [.row true 24 [askP i [b]]]) fun r G' => r = .bool true ∧ G' = G.ext [.row true 24 [askP i [b]]] := letter_ask (s := 0) (by decide) (show 0 < i + 1 by omega) (show i + 1 < 32 by omega) b 118
  obtain ⟨E, hE, he⟩ := one_call e
  simp only [askP] at he
  refine FnOk.of_WW Tryz.func10 rfl C10ok R10ok E hE ?_
  have hn' := fun L => Heap.get_ext_old h.ok hn L
  simp only [go_sem, C10, askP, hn', he]
  refine CL.of (clone_nil clo40) ?_
  rintro _ G' ⟨rfl, hG⟩; rw [hG]; clear hG
  simp only [go_sem]
  refine CL.of (f31_put (h.ext _) hP hi hk hB hT hTl hl hnl hm hN) ?_
  rintro _ G' ⟨rfl, hp⟩
  simp only [go_sem]
  exact hp
end
end Go.Proofs
/- numbers of an answer: walked. -/


set_option linter.all false
set_option maxRecDepth 100000
namespace Go.Proofs
open Go Go.Ev
variable {H : Heap}
@[go_sem] theorem sz3 : ∀ h, (Tryz.prog.types[3]'h).size = 1 := by intro h; kernel_rfl
@[go_sem] theorem sz44 : ∀ h, (Tryz.prog.types[44]'h).size = 24 := by intro h; kernel_rfl
attribute [go_sem] cpyF
/-- a letter of numbers behind the first one -/
def numL (a b c : Int) : List AV := [.int .i64 0, .int .i64 0, .int .i64 0, .int .i64 0, .int .i64 a, .int .i64 b, .int .i64 c, .int .i64 0, .int .i64 0, .str [], .str [], .str [], .int .i64 0, .nils, .int .i64 0, .str [], .int .i64 0, .nils, .str [], .str [], .nils, .nils, .nils, .str []]
theorem f85_three (a b c : Int) {k : K} {ex : Bool} {cap : Nat} (hk : H.get k = some (.row true 1 [[.int .i64 a], [.int .i64 b], [.int .i64 c]])) : FnOk Tryz.prog 85 [.slice k 0 3 1 ex cap] H fun r G => r = .agg (numL a b c) ∧ G = H := by
  refine FnOk.assume fun hok => ?_
  have hk' := fun L => Heap.get_ext_old hok hk L
  refine FnOk.drop (R := fun r => r = .agg (numL a b c)) ?_ (by rintro v rfl ρ; simp only [numL, AV.ren, AV.rens])
  refine FnOk.of_WW Tryz.func85 rfl C85ok R85ok E0 good_E0 ?_
  simp only [go_sem, C85, hk', List.flatten_cons, List.flatten_nil, List.append_nil, List.length_cons, List.length_nil]
  refine ⟨fun h => absurd h (by decide), fun _ => ?_⟩
  have hm : Nat.min 3 4 = 3 := rfl
  have hr : ∀ {β : Type} (f : β) (x y z : AV) (c : List AV → β), readC f 1 [[x], [y], [z]] 0 3 c = c [x, y, z] := fun _ _ _ _ _ => rfl
  simp only [go_sem, hm, hr, List.flatten_cons, List.flatten_nil, List.append_nil, List.length_cons, List.length_nil, List.cons_append, List.nil_append]
  exact ⟨rfl, _, rfl⟩
end Go.Proofs
/- The laid-out code of the functions that are walked. -/

set_option linter.all false
set_option maxRecDepth 100000
namespace Go.Proofs
open Go Go.Ev K
end Go.Proofs
/- Answers that wait, told exactly: walked. -/

set_option linter.all false
set_option maxRecDepth 100000
namespace Go.Proofs
open Go Go.Ev
variable {H : Heap}
section
variable {G : Heap} {kn kw : K}
theorem f84_moreE (hok : G.ok) {x0 kd : Int} {d1 d2 d3 x5 x6 x7 : AV} {n : Nat} {x : List AV} {xs : List (List AV)} (hn : G.get kn = some (.row true 8 [[.int .i64 x0, d1, d2, d3, outV kw 24 (n + 1), x5, x6, x7]])) (hw : G.get kw = some (.row true 24 (x :: xs))) (hl : xs.length = n) (hN : n < 100000) (t1 t3 : Int) (t0 t2 t4 t5 t6 t7 t8 t9 t10 t11 t12 t13 t14 t15 t16 t17 t18 t19 t20 t21 t22 t23 l0 l1 l2 l3 l4 l5 l6 l7 l8 l9 l10 l11 l12 l13 l14 l15 l16 l17 l18 l19 l20 l21 l22 l23 : AV) :
    ∃ X, FnOk Tryz.prog 84 [.ptr kn 0, .agg [t0, .int .i64 t1, t2, .int .i64 t3, t4, t5, t6, t7, t8, t9, t10, t11, t12, t13, t14, t15, t16, t17, t18, t19, t20, t21, t22, t23], .int .i64 kd, .agg [l0, l1, l2, l3, l4, l5, l6, l7, l8, l9, l10, l11, l12, l13, l14, l15, l16, l17, l18, l19, l20, l21, l22, l23]] G (fun r G' => r = .tup [] ∧ G' = X) ∧ (∃ kw', kw' ∉ [kn, kw] ∧ X.get kn = some (.row true 8 [[.int .i64 x0, d1, d2, d3, outV kw' 24 (n + 2), x5, x6, x7]]) ∧ X.get kw' = some (.row true 24 (x :: xs ++ [[.int .i64 kd, .int .i64 x0, .int .i64 t1, .int .i64 t3, l4, l5, l6, l7, l8, l9, l10, l11, l12, l13, l14, l15, l16, l17, l18, l19, l20, l21, l22, l23]]))) ∧ X.ok ∧ Kp [kn, kw] G X := by
  have hne : kw ≠ kn := by rintro rfl; rw [hw] at hn; cases hn
  have hdk : (G.set kw .dead).get kn = some (.row true 8 [[.int .i64 x0, d1, d2, d3, outV kw 24 (n + 1), x5, x6, x7]]) := by rw [Heap.get_set, if_neg hne]; exact hn
  have hdo : (G.set kw .dead).ok := Heap.ok_set hok hw
  have hD : Kp [kn, kw] G (G.set kw .dead) := ⟨fun j d hj hd => by rw [Heap.get_set, if_neg (by rintro rfl; simp at hj)]; exact hd, Nat.le_refl _⟩
  obtain ⟨e1, e2, e3, e4, e5⟩ := says_end hdo hdk hD (by simp) (by intro j hj; simp only [List.mem_cons, List.not_mem_nil, or_false] at hj; rcases hj with rfl | rfl <;> first | exact ⟨_, hn⟩ | exact ⟨_, hw⟩) hok (L := [.row true 24 [[t0, .int .i64 t1, t2, .int .i64 t3, t4, t5, t6, t7, t8, t9, t10, t11, t12, t13, t14, t15, t16, t17, t18, t19, t20, t21, t22, t23]], .row true 24 [[.int .i64 kd, .int .i64 x0, .int .i64 t1, .int .i64 t3, l4, l5, l6, l7, l8, l9, l10, l11, l12, l13, l14, l15, l16, l17, l18, l19, l20, l21, l22, l23]], .row true 24 [[.int .i64 kd, .int .i64 x0, .int .i64 t1, .int .i64 t3, l4, l5, l6, l7, l8, l9, l10, l11, l12, l13, l14, l15, l16, l17, l18, l19, l20, l21, l22, l23]], .row true 24 (x :: (xs ++ [[.int .i64 kd, .int .i64 x0, .int .i64 t1, .int .i64 t3, l4, l5, l6, l7, l8, l9, l10, l11, l12, l13, l14, l15, l16, l17, l18, l19, l20, l21, l22, l23]]))]) (i := 3) rfl (.row true 8 [[.int .i64 x0, d1, d2, d3, .slice (G.key 3) 0 (n + 2) 24 false (n + 2), x5, x6, x7]])
  refine ⟨_, ?_, ⟨_, e5, e1, e2⟩, e3, e4⟩
  refine FnOk.of_WW Tryz.func84 rfl C84ok R84ok E0 good_E0 ?_
  have hn' := fun L => Heap.get_ext_old hok hn L
  have ha : ∀ (L : List Blk) (y : List AV), L[2]? = some (.row true 24 [y]) → appQ 24 328 (some (.slice kw 0 (n + 1) 24 false (n + 1))) (some (.slice (G.key 2) 0 1 24 true 1)) (G.ext L) = .val (.slice ((G.set kw .dead).key L.length) 0 (n + 2) 24 false (n + 2)) ((G.set kw .dead).ext (L ++ [.row true 24 (x :: xs ++ [y])])) := fun L y hj => appQ_old hok hw hl (ex := true) (cap := 1) hj hN
  have hn2 := fun L => Heap.get_ext_old hdo hdk L
  have hs2 := fun b (l : List Blk) (α : Type) (c' : Heap → α) => Heap.setC_here hdo hdk b l c'
  simp only [go_sem, ↓appR_hide, C84, hn']
  rw [ha _ _ rfl]
  simp only [go_sem, hn2, hs2]
theorem f84_firstE (hok : G.ok) {x0 kd : Int} {d1 d2 d3 x5 x6 x7 : AV} (hn : G.get kn = some (.row true 8 [[.int .i64 x0, d1, d2, d3, .nils, x5, x6, x7]])) (t1 t3 : Int) (t0 t2 t4 t5 t6 t7 t8 t9 t10 t11 t12 t13 t14 t15 t16 t17 t18 t19 t20 t21 t22 t23 l0 l1 l2 l3 l4 l5 l6 l7 l8 l9 l10 l11 l12 l13 l14 l15 l16 l17 l18 l19 l20 l21 l22 l23 : AV) :
    ∃ X, FnOk Tryz.prog 84 [.ptr kn 0, .agg [t0, .int .i64 t1, t2, .int .i64 t3, t4, t5, t6, t7, t8, t9, t10, t11, t12, t13, t14, t15, t16, t17, t18, t19, t20, t21, t22, t23], .int .i64 kd, .agg [l0, l1, l2, l3, l4, l5, l6, l7, l8, l9, l10, l11, l12, l13, l14, l15, l16, l17, l18, l19, l20, l21, l22, l23]] G (fun r G' => r = .tup [] ∧ G' = X) ∧ (∃ kw', kw' ∉ [kn] ∧ X.get kn = some (.row true 8 [[.int .i64 x0, d1, d2, d3, outV kw' 24 1, x5, x6, x7]]) ∧ X.get kw' = some (.row true 24 [[.int .i64 kd, .int .i64 x0, .int .i64 t1, .int .i64 t3, l4, l5, l6, l7, l8, l9, l10, l11, l12, l13, l14, l15, l16, l17, l18, l19, l20, l21, l22, l23]])) ∧ X.ok ∧ Kp [kn] G X := by
  obtain ⟨e1, e2, e3, e4, e5⟩ := says_end (ks := [kn]) hok hn ⟨fun j d hj hd => hd, Nat.le_refl _⟩ (by simp) (by intro j hj; rw [List.mem_singleton.1 hj]; exact ⟨_, hn⟩) hok (L := [.row true 24 [[t0, .int .i64 t1, t2, .int .i64 t3, t4, t5, t6, t7, t8, t9, t10, t11, t12, t13, t14, t15, t16, t17, t18, t19, t20, t21, t22, t23]], .row true 24 [[.int .i64 kd, .int .i64 x0, .int .i64 t1, .int .i64 t3, l4, l5, l6, l7, l8, l9, l10, l11, l12, l13, l14, l15, l16, l17, l18, l19, l20, l21, l22, l23]], .row true 24 [[.int .i64 kd, .int .i64 x0, .int .i64 t1, .int .i64 t3, l4, l5, l6, l7, l8, l9, l10, l11, l12, l13, l14, l15, l16, l17, l18, l19, l20, l21, l22, l23]], .row true 24 [[.int .i64 kd, .int .i64 x0, .int .i64 t1, .int .i64 t3, l4, l5, l6, l7, l8, l9, l10, l11, l12, l13, l14, l15, l16, l17, l18, l19, l20, l21, l22, l23]]]) (i := 3) rfl (.row true 8 [[.int .i64 x0, d1, d2, d3, .slice (G.key 3) 0 1 24 false 1, x5, x6, x7]])
  refine ⟨_, ?_, ⟨_, e5, e1, e2⟩, e3, e4⟩
  refine FnOk.of_WW Tryz.func84 rfl C84ok R84ok E0 good_E0 ?_
  have hn' := fun L => Heap.get_ext_old hok hn L
  have hs2 := fun b (l : List Blk) (α : Type) (c' : Heap → α) => Heap.setC_here hok hn b l c'
  simp only [go_sem, C84, hn', hs2]
theorem f84_E (hok : G.ok) {x0 kd : Int} {d1 d2 d3 wv x5 x6 x7 : AV} {ws : List (List AV)} (hn : G.get kn = some (.row true 8 [[.int .i64 x0, d1, d2, d3, wv, x5, x6, x7]])) (hw : isWt G wv ws) (hN : ws.length < 100000) (t1 t3 : Int) (t0 t2 t4 t5 t6 t7 t8 t9 t10 t11 t12 t13 t14 t15 t16 t17 t18 t19 t20 t21 t22 t23 l0 l1 l2 l3 l4 l5 l6 l7 l8 l9 l10 l11 l12 l13 l14 l15 l16 l17 l18 l19 l20 l21 l22 l23 : AV) :
    ∃ X, FnOk Tryz.prog 84 [.ptr kn 0, .agg [t0, .int .i64 t1, t2, .int .i64 t3, t4, t5, t6, t7, t8, t9, t10, t11, t12, t13, t14, t15, t16, t17, t18, t19, t20, t21, t22, t23], .int .i64 kd, .agg [l0, l1, l2, l3, l4, l5, l6, l7, l8, l9, l10, l11, l12, l13, l14, l15, l16, l17, l18, l19, l20, l21, l22, l23]] G (fun r G' => r = .tup [] ∧ G' = X) ∧ (∃ wv', X.get kn = some (.row true 8 [[.int .i64 x0, d1, d2, d3, wv', x5, x6, x7]]) ∧ isWt X wv' (ws ++ [[.int .i64 kd, .int .i64 x0, .int .i64 t1, .int .i64 t3, l4, l5, l6, l7, l8, l9, l10, l11, l12, l13, l14, l15, l16, l17, l18, l19, l20, l21, l22, l23]])) ∧ X.ok ∧ Kp (kn :: wk wv) G X := by
  rcases hw with ⟨rfl, rfl⟩ | ⟨kw, hne, rfl, hw⟩
  · obtain ⟨X, h0, ⟨kw', _, h1, h2⟩, h3, h4⟩ := f84_firstE hok hn (kd := kd) t1 t3 t0 t2 t4 t5 t6 t7 t8 t9 t10 t11 t12 t13 t14 t15 t16 t17 t18 t19 t20 t21 t22 t23 l0 l1 l2 l3 l4 l5 l6 l7 l8 l9 l10 l11 l12 l13 l14 l15 l16 l17 l18 l19 l20 l21 l22 l23
    exact ⟨X, h0, ⟨_, h1, .inr ⟨kw', by simp, rfl, h2⟩⟩, h3, h4⟩
  · obtain ⟨x, xs, rfl⟩ : ∃ x xs, ws = x :: xs := by
      cases ws with
      | nil => exact absurd rfl hne
      | cons x xs => exact ⟨x, xs, rfl⟩
    obtain ⟨X, h0, ⟨kw', _, h1, h2⟩, h3, h4⟩ := f84_moreE hok hn hw rfl (by simp at hN; omega) (kd := kd) t1 t3 t0 t2 t4 t5 t6 t7 t8 t9 t10 t11 t12 t13 t14 t15 t16 t17 t18 t19 t20 t21 t22 t23 l0 l1 l2 l3 l4 l5 l6 l7 l8 l9 l10 l11 l12 l13 l14 l15 l16 l17 l18 l19 l20 l21 l22 l23
    refine ⟨X, h0, ⟨_, h1, .inr ⟨kw', by simp, ?_, h2⟩⟩, h3, h4⟩
    simp only [List.length_append, List.length_cons, List.length_nil]
end
end Go.Proofs
/- NodeCuts: letters that cut, join: walked. -/


set_option linter.all false
set_option maxRecDepth 100000
namespace Go.Proofs
open Go Go.Ev
variable {H : Heap}
/-- the letters of the mover that cut, that join -/
def sL : List AV := [.int .i64 19, .int .i64 100, .int .i64 0, .int .i64 1, .int .i64 1, .int .i64 2, .int .i64 3, .int .i64 0, .int .i64 0, .str [], .str [], .str [], .int .i64 0, .nils, .int .i64 0, .str [], .int .i64 0, .nils, .str [104], .str [], .nils, .nils, .nils, .str []]
def jL : List AV := [.int .i64 20, .int .i64 100, .int .i64 0, .int .i64 2, .int .i64 1, .int .i64 3, .int .i64 1, .int .i64 4, .int .i64 0, .str [], .str [], .str [], .int .i64 0, .nils, .int .i64 0, .str [], .int .i64 0, .nils, .str [], .str [], .nils, .nils, .nils, .str []]
/-- their records -/
def sR : List AV := [.int .i64 7, .int .i64 1, .int .i64 1, .int .i64 2, .int .i64 3, .int .i64 0, .int .i64 0, .str [], .str [], .str [], .int .i64 0, .nils, .str [104], .str [], .nils, .nils]
def jR : List AV := [.int .i64 8, .int .i64 2, .int .i64 1, .int .i64 3, .int .i64 1, .int .i64 4, .int .i64 0, .str [], .str [], .str [], .int .i64 0, .nils, .str [], .str [], .nils, .nils]
/-- what is said to them -/
def cutL (n e f : Int) : List AV := [.int .i64 21, .int .i64 0, .int .i64 100, .int .i64 n, .int .i64 e, .int .i64 0, .int .i64 f, .int .i64 0, .int .i64 0, .str [], .str [], .str [], .int .i64 0, .nils, .int .i64 0, .str [], .int .i64 0, .nils, .str [], .str [], .nils, .nils, .nils, .str []]
theorem is_sL : FnOk Tryz.prog 30 [.agg sL] H fun r G => r = .bool true ∧ G = H := FnOk.of_ev1 good_XL rfl rfl (show isR (EK 30 [.agg sL] hp0) (.bool true) = true by kernel_rfl)
theorem is_jL : FnOk Tryz.prog 30 [.agg jL] H fun r G => r = .bool true ∧ G = H := FnOk.of_ev1 good_XL rfl rfl (show isR (EK 30 [.agg jL] hp0) (.bool true) = true by kernel_rfl)
theorem broken_nil : FnOk Tryz.prog 93 [.nili] H fun r G => r = .bool false ∧ G = H := FnOk.of_ev1 good_XL rfl rfl (show isR (EK 93 [.nili] hp0) (.bool false) = true by kernel_rfl)
theorem broken_num (n : Int) : FnOk Tryz.prog 93 [.iface 118 (.int .i64 n)] H fun r G => r = .bool false ∧ G = H := by
  refine FnOk.drop (R := fun r => r = .bool false) ?_ (by rintro v rfl ρ; simp only [AV.ren])
  refine FnOk.of_WW Tryz.func93 rfl C93ok R93ok E0 good_E0 ?_
  simp only [go_sem, C93]
  refine CL.of (as_ok _ _ (.bool false) _ rfl) ?_
  rintro _ G' ⟨rfl, hG⟩; rw [hG]; clear hG
  simp only [go_sem]
  exact ⟨_, rfl⟩
/-- a node's row -/
def nRow (kd kj kh : K) (wv x5 x6 x7 : AV) : Blk := .row true 8 [[.int .i64 0, .ptr kd 0, .ptr kj 0, .ptr kh 0, wv, x5, x6, x7]]
theorem broken_ok (e : Option Int) : FnOk Tryz.prog 93 [errV e] H fun r G => r = .bool false ∧ G = H := by
  cases e with
  | none => exact broken_nil
  | some n => exact broken_num n
section
variable {G : Heap} {kn kd kj kh : K}
theorem Kp.of_ext {ks : List K} {G X : Heap} {L : List Blk} (hok : G.ok) (h : Kp ks (G.ext L) X) : Kp ks G X :=
  ⟨fun j b hj hb => h.keep j b hj (Heap.get_ext_old hok hb L), Nat.le_trans (by rw [Heap.nx_ext, Heap.toNat_key]; exact Nat.le_add_right _ _) h.le⟩
/-- what is told of the calls behind the record -/
def cutRel (kn kd kj kh : K) (x5 x6 x7 wv : AV) (ws : List (List AV)) (a b c : Int) (f : FuncId) (args : List AV) (H : Heap) (v : AV) (X : Heap) : Prop :=
  match f with
  | 91 => v = .int .i64 b ∧ X = H
  | 85 => v = .agg (numL b 0 c) ∧ X = H
  | 84 => v = .tup [] ∧ (∃ wv', X.get kn = some (nRow kd kj kh wv' x5 x6 x7) ∧ isWt X wv' (ws ++ [cutL a b c])) ∧ X.ok ∧ Kp (kn :: wk wv) H X
  | _ => False
theorem f39_split {Φ : Heap → Prop} {e : Option Int} {x5 x6 x7 wv : AV} {ws : List (List AV)} {a4 : List AV} (hok : G.ok) (hn : G.get kn = some (nRow kd kj kh wv x5 x6 x7)) (hw : isWt G wv ws) (hN : ws.length < 100000)
    (hrec : ∀ L : List Blk, FnOk Tryz.prog 28 [.ptr kn 0, .agg sR] (G.ext L) fun r G' => r = .tup [.agg zA, errV e] ∧ Φ G' ∧ ∀ (i : Nat) (b : Blk), L[i]? = some b → G'.get (G.key i) = some b)
    (hΦ : ∀ G', Φ G' → G'.ok ∧ G'.get kn = some (nRow kd kj kh wv x5 x6 x7) ∧ isWt G' wv ws)
    (hg : e ≠ none → ∀ G', Φ G' → ∀ L : List Blk, FnOk Tryz.prog 91 [.ptr kh 0, .int .i64 1] (G'.ext L) fun r X => r = .int .i64 1 ∧ X = G'.ext L) :
    FnOk Tryz.prog 39 [.ptr kn 0, .agg sL] G fun r G' => r = .tup [] ∧ ∃ G1, Φ G1 ∧ (∃ wv', G'.get kn = some (nRow kd kj kh wv' x5 x6 x7) ∧ isWt G' wv' (ws ++ [cutL 1 1 2])) ∧ G'.ok ∧ Kp (kn :: wk wv) G1 G' := by
  refine FnOk.of_WW Tryz.func39 rfl C39ok R39ok (EC Tryz.prog (cutRel kn kd kj kh x5 x6 x7 wv ws 1 1 2)) (good_EC _ _) ?_
  have hn' := fun L => Heap.get_ext_old hok hn L
  simp only [nRow] at hn'
  simp only [go_sem, C39, hn', sL]
  refine CL.of (hrec _) ?_
  rintro _ G1 ⟨rfl, hΦ1, hk⟩
  obtain ⟨ok1, n1, w1⟩ := hΦ G1 hΦ1
  have g0 := fun L => Heap.get_ext_old ok1 (hk 0 _ rfl) L
  have gn := fun L => Heap.get_ext_old ok1 n1 L
  simp only [nRow] at gn
  refine WW.nil ?_
  simp only [go_sem, zA, g0, gn]
  refine CL.of (broken_ok e) ?_
  rintro _ G' ⟨rfl, hG⟩; rw [hG]; clear hG
  have c85 := EC_eq (R := cutRel kn kd kj kh x5 x6 x7 wv ws 1 1 2) (f85_three (H := G1.ext [Blk.row true 4 [[.int .i64 0, .str [], .int .i64 0, .nils]], .row true 1 [[.int .i64 1], [.int .i64 0], [.int .i64 2]]]) 1 0 2 (k := G1.key 1) (ex := true) (cap := 3) (get_lit rfl)) ⟨rfl, rfl⟩ (fun _ _ h => h)
  simp only [numL] at c85
  have c84 : ∀ L : List Blk, ∃ v X, EC Tryz.prog (cutRel kn kd kj kh x5 x6 x7 wv ws 1 1 2) 84 [.ptr kn 0, .agg sL, .int .i64 21, .agg (numL 1 0 2)] (G1.ext L) = .ok v X ∧ cutRel kn kd kj kh x5 x6 x7 wv ws 1 1 2 84 [.ptr kn 0, .agg sL, .int .i64 21, .agg (numL 1 0 2)] (G1.ext L) v X := fun L => by
    obtain ⟨X, x1, x2⟩ := f84_E (Heap.ok_ext ok1 L) (kd := 21) (gn L) (w1.ext ok1 L) hN 100 1 (.int .i64 19) (.int .i64 0) (.int .i64 1) (.int .i64 2) (.int .i64 3) (.int .i64 0) (.int .i64 0) (.str []) (.str []) (.str []) (.int .i64 0) .nils (.int .i64 0) (.str []) (.int .i64 0) .nils (.str [104]) (.str []) .nils .nils .nils (.str []) (.int .i64 0) (.int .i64 0) (.int .i64 0) (.int .i64 0) (.int .i64 1) (.int .i64 0) (.int .i64 2) (.int .i64 0) (.int .i64 0) (.str []) (.str []) (.str []) (.int .i64 0) .nils (.int .i64 0) (.str []) (.int .i64 0) .nils (.str []) (.str []) .nils .nils .nils (.str [])
    exact EC_ex (R := cutRel kn kd kj kh x5 x6 x7 wv ws 1 1 2) x1 ⟨rfl, x2⟩
  cases e with
  | none =>
    obtain ⟨_, X, x1, rfl, x2, x3, x4⟩ := c84 [Blk.row true 4 [zA], .row true 1 [[.int .i64 1], [.int .i64 0], [.int .i64 2]]]
    simp only [zA, sL, numL] at x1
    simp only [go_sem, zA, g0, gn, errV, c85, x1]
    exact ⟨G1, hΦ1, x2, x3, x4.of_ext ok1⟩
  | some n =>
    have c91 := fun L => EC_eq (R := cutRel kn kd kj kh x5 x6 x7 wv ws 1 1 2) (hg (by simp) G1 hΦ1 L) ⟨rfl, rfl⟩ (fun _ _ h => h)
    obtain ⟨_, X, x1, rfl, x2, x3, x4⟩ := c84 [Blk.row true 4 [zA], .row true 1 [[.int .i64 1], [.int .i64 0], [.int .i64 2]]]
    simp only [zA, sL, numL] at x1
    simp only [go_sem, zA, g0, gn, errV, c91, c85, x1]
    exact ⟨G1, hΦ1, x2, x3, x4.of_ext ok1⟩
theorem f39_join {Φ : Heap → Prop} {e : Option Int} {x5 x6 x7 wv : AV} {ws : List (List AV)} {a4 : List AV} (hok : G.ok) (hn : G.get kn = some (nRow kd kj kh wv x5 x6 x7)) (hw : isWt G wv ws) (hN : ws.length < 100000)
    (hrec : ∀ L : List Blk, FnOk Tryz.prog 28 [.ptr kn 0, .agg jR] (G.ext L) fun r G' => r = .tup [.agg zA, errV e] ∧ Φ G' ∧ ∀ (i : Nat) (b : Blk), L[i]? = some b → G'.get (G.key i) = some b)
    (hΦ : ∀ G', Φ G' → G'.ok ∧ G'.get kn = some (nRow kd kj kh wv x5 x6 x7) ∧ isWt G' wv ws)
    (hg : e ≠ none → ∀ G', Φ G' → ∀ L : List Blk, FnOk Tryz.prog 91 [.ptr kh 0, .int .i64 2] (G'.ext L) fun r X => r = .int .i64 1 ∧ X = G'.ext L) :
    FnOk Tryz.prog 39 [.ptr kn 0, .agg jL] G fun r G' => r = .tup [] ∧ ∃ G1, Φ G1 ∧ (∃ wv', G'.get kn = some (nRow kd kj kh wv' x5 x6 x7) ∧ isWt G' wv' (ws ++ [cutL 2 1 4])) ∧ G'.ok ∧ Kp (kn :: wk wv) G1 G' := by
  refine FnOk.of_WW Tryz.func39 rfl C39ok R39ok (EC Tryz.prog (cutRel kn kd kj kh x5 x6 x7 wv ws 2 1 4)) (good_EC _ _) ?_
  have hn' := fun L => Heap.get_ext_old hok hn L
  simp only [nRow] at hn'
  simp only [go_sem, C39, hn', jL]
  refine CL.of (hrec _) ?_
  rintro _ G1 ⟨rfl, hΦ1, hk⟩
  obtain ⟨ok1, n1, w1⟩ := hΦ G1 hΦ1
  have g0 := fun L => Heap.get_ext_old ok1 (hk 0 _ rfl) L
  have gn := fun L => Heap.get_ext_old ok1 n1 L
  simp only [nRow] at gn
  refine WW.nil ?_
  simp only [go_sem, zA, g0, gn]
  refine CL.of (broken_ok e) ?_
  rintro _ G' ⟨rfl, hG⟩; rw [hG]; clear hG
  have c85 := EC_eq (R := cutRel kn kd kj kh x5 x6 x7 wv ws 2 1 4) (f85_three (H := G1.ext [Blk.row true 4 [[.int .i64 0, .str [], .int .i64 0, .nils]], .row true 1 [[.int .i64 1], [.int .i64 0], [.int .i64 4]]]) 1 0 4 (k := G1.key 1) (ex := true) (cap := 3) (get_lit rfl)) ⟨rfl, rfl⟩ (fun _ _ h => h)
  simp only [numL] at c85
  have c84 : ∀ L : List Blk, ∃ v X, EC Tryz.prog (cutRel kn kd kj kh x5 x6 x7 wv ws 2 1 4) 84 [.ptr kn 0, .agg jL, .int .i64 21, .agg (numL 1 0 4)] (G1.ext L) = .ok v X ∧ cutRel kn kd kj kh x5 x6 x7 wv ws 2 1 4 84 [.ptr kn 0, .agg jL, .int .i64 21, .agg (numL 1 0 4)] (G1.ext L) v X := fun L => by
    obtain ⟨X, x1, x2⟩ := f84_E (Heap.ok_ext ok1 L) (kd := 21) (gn L) (w1.ext ok1 L) hN 100 2 (.int .i64 20) (.int .i64 0) (.int .i64 1) (.int .i64 3) (.int .i64 1) (.int .i64 4) (.int .i64 0) (.str []) (.str []) (.str []) (.int .i64 0) .nils (.int .i64 0) (.str []) (.int .i64 0) .nils (.str []) (.str []) .nils .nils .nils (.str []) (.int .i64 0) (.int .i64 0) (.int .i64 0) (.int .i64 0) (.int .i64 1) (.int .i64 0) (.int .i64 4) (.int .i64 0) (.int .i64 0) (.str []) (.str []) (.str []) (.int .i64 0) .nils (.int .i64 0) (.str []) (.int .i64 0) .nils (.str []) (.str []) .nils .nils .nils (.str [])
    exact EC_ex (R := cutRel kn kd kj kh x5 x6 x7 wv ws 2 1 4) x1 ⟨rfl, x2⟩
  cases e with
  | none =>
    obtain ⟨_, X, x1, rfl, x2, x3, x4⟩ := c84 [Blk.row true 4 [zA], .row true 1 [[.int .i64 1], [.int .i64 0], [.int .i64 4]]]
    simp only [zA, jL, numL] at x1
    simp only [go_sem, zA, g0, gn, errV, c85, x1]
    exact ⟨G1, hΦ1, x2, x3, x4.of_ext ok1⟩
  | some n =>
    have c91 := fun L => EC_eq (R := cutRel kn kd kj kh x5 x6 x7 wv ws 2 1 4) (hg (by simp) G1 hΦ1 L) ⟨rfl, rfl⟩ (fun _ _ h => h)
    obtain ⟨_, X, x1, rfl, x2, x3, x4⟩ := c84 [Blk.row true 4 [zA], .row true 1 [[.int .i64 1], [.int .i64 0], [.int .i64 4]]]
    simp only [zA, jL, numL] at x1
    simp only [go_sem, zA, g0, gn, errV, c91, c85, x1]
    exact ⟨G1, hΦ1, x2, x3, x4.of_ext ok1⟩
end
end Go.Proofs
/- The epoch of what is gone: walked. -/


set_option linter.all false
set_option maxRecDepth 100000
namespace Go.Proofs
open Go Go.Ev
variable {H : Heap}
def goneL : List Gn → Int → Int
  | [], _ => 0
  | g :: l, id => if g.id = id then g.ep else goneL l id
theorem f91_ok {k : K} {wr : Bool} {lv gv : AV} {gs : List Gn} (hk : H.get k = some (.row wr 2 [[lv, gv]])) (hA : Arr H 2 gv (gs.map Gn.enc)) (hl : gs.length < 100000) (id : Int) : FnOk Tryz.prog 91 [.ptr k 0, .int .i64 id] H fun r G => r = .int .i64 (goneL gs id) ∧ G = H := by
  refine FnOk.assume fun hok => ?_
  refine FnOk.drop (R := fun r => r = .int .i64 (goneL gs id)) ?_ (by rintro v rfl ρ; simp only [AV.ren])
  refine FnOk.of_WW Tryz.func91 rfl C91ok R91ok E0 good_E0 ?_
  have hk' := fun L => Heap.get_ext_old hok hk L
  have hlen := fun G => hA.len G
  simp only [List.length_map] at hlen
  simp only [go_sem, C91, hk', hlen]
  refine LL.sth good_E0 (fun i : Nat => gs.length - i) (fun i M => ∃ L, M = H.ext L ∧ goneL (gs.drop i) id = goneL gs id ∧ i ≤ gs.length)
    (fun i => [(K.z.o, .int .i64 id), (K.z.o.i.i, gv), (K.z.i.o.o, .int .i64 gs.length), (K.z.i.o.i, .int .i64 i)]) ?_ 0 ⟨[], (Heap.ext_nil H).symm, rfl, Nat.zero_le _⟩ (Slots.all (by simp only [go_sem]; first | done | rfl | trace_state))
  rintro i M ⟨L, hM, hi, hle⟩
  have w1 : IntKind.i64.wrap ((i : Int) + 1) = ((i + 1 : Nat) : Int) := by rw [wrap_i64 (by omega) (by omega)]; omega
  simp only [go_sem, hlen]
  refine ⟨fun hlt => ?_, fun hge => ?_⟩
  · have hlt' : i < gs.length := by omega
    obtain ⟨kk, r, ex, cap, wr2, rows, hv, -, hgo, hrow⟩ := hA.at hok (j := i) (by rw [List.length_map]; exact hlt')
    simp only [List.length_map, List.getElem_map] at hv hrow
    have hsi : i + 1 ≤ gs.length := hlt'
    have hd : gs.drop i = gs[i] :: gs.drop (i + 1) := List.drop_eq_getElem_cons hlt'
    have hgo2 : ∀ L', (M.ext L').get kk = some (.row wr2 2 rows) := fun L' => by rw [hM, Heap.ext_append]; exact hgo _
    have hgo0 := hgo2 []
    rw [Heap.ext_nil] at hgo0
    simp only [go_sem, hv, hsi, hgo2, hgo0, hrow, Gn.enc, w1]
    refine ⟨fun he => ?_, fun he => ?_⟩
    · rw [← hi, hd, goneL, if_pos he]
      exact ⟨rfl, L ++ [_], by rw [hM, Heap.ext_append]⟩
    · rw [hd, goneL, if_neg he] at hi
      refine ⟨i + 1, by show gs.length - (i + 1) < gs.length - i; omega, ⟨L ++ [_], by rw [hM, Heap.ext_append], hi, hsi⟩, Slots.all (by simp only [go_sem, hv]; first | done | rfl | trace_state)⟩
  · have : i = gs.length := by omega
    subst this
    rw [List.drop_length] at hi
    simp only [go_sem, ← hi, goneL]
    exact ⟨L, hM⟩
end Go.Proofs
/- NodeCuts: a node in a state that is spelt out: walked. -/


set_option linter.all false
set_option maxRecDepth 100000
namespace Go.Proofs
open Go Go.Ev
/-- a node's row: its disk, journal, shards, pieces are the third to the sixth block -/
def nB (w : AV) : Blk := .row true 8 [[.int .i64 0, .ptr K.z.i 0, .ptr K.z.o.o 0, .ptr K.z.o.i 0, w, .int .i64 0, .int .i64 0, .map K.z.i.o]]
/-- the answers that wait: the second block -/
def wN : Nat → AV
  | 0 => .nils
  | n + 1 => .slice K.z.o 0 (n + 1) 24 false (n + 1)
abbrev blN (n : Nat) (tl : List Blk) : List Blk := nB (wN n) :: .dead :: tl
def no24 (b : Blk) : Prop := ∀ wr rows, b ≠ .row wr 24 rows
/-- so a node stands -/
def StF (tl : List Blk) (M : Heap) (kn : K) (ws : List (List AV)) (κ : List K) : Prop :=
  Fit M κ (blN ws.length tl) ∧ κ[0]? = some kn ∧ (ws ≠ [] → ∀ kw, κ[1]? = some kw → M.get kw = some (.row true 24 ws))
def St (tl : List Blk) (M : Heap) (kn : K) (ws : List (List AV)) : Prop := M.ok ∧ ∃ κ, StF tl M kn ws κ
section
variable {M G : Heap} {kn : K} {tl tl2 : List Blk} {ws : List (List AV)} {κ : List K}
theorem StF.row (h : StF tl M kn ws κ) : M.get kn = some (nRow (rk κ .z K.z.i) (rk κ .z K.z.o.o) (rk κ .z K.z.o.i) ((wN ws.length).ren (rk κ .z)) (.int .i64 0) (.int .i64 0) (.map (rk κ .z K.z.i.o))) := by
  rw [h.1.blk 0 (nB (wN ws.length)) kn rfl h.2.1 trivial]
  rfl
theorem StF.wt (h : StF tl M kn ws κ) : isWt M ((wN ws.length).ren (rk κ .z)) ws := by
  cases ws with
  | nil => exact .inl ⟨rfl, rfl⟩
  | cons w ws =>
    have hl : 1 < κ.length := by rw [h.1.len]; show 1 < tl.length + 1 + 1; omega
    have hk : κ[1]? = some κ[1] := List.getElem?_eq_getElem hl
    refine .inr ⟨κ[1], by simp, ?_, h.2.2 (by simp) _ hk⟩
    show AV.slice (rk κ .z K.z.o) 0 _ 24 false _ = AV.slice κ[1] 0 _ 24 false _
    rw [rk_some (j := κ[1]) (k := K.z.o) hk]
/-- a block of a state is no block of letters -/
theorem fit_no24 {bl : List Blk} (h : Fit M κ bl) (hn : ∀ b ∈ bl, no24 b) {k : K} {wr : Bool} {rows : List (List AV)} (hk : M.get k = some (.row wr 24 rows)) {i : Nat} {c : Blk} (hc : bl[i]? = some c) (hl : c.live) : κ[i]? ≠ some k := by
  intro e
  have := h.blk i c k hc e hl
  rw [hk] at this
  cases c with
  | dead => exact hl
  | row wr2 e2 rows2 =>
    have e3 : Blk.row wr 24 rows = .row wr2 e2 (rows2.map (AV.rens (rk κ .z))) := Option.some.inj this
    injection e3 with e4 e5 e6
    subst e5
    exact hn _ (List.mem_of_getElem? hc) _ _ rfl
  | map es => cases Option.some.inj this
/-- the same names, in a memory behind it -/
def same6 (κ κ' : List K) : Prop := ∀ i, i < 6 → κ'[i]? = κ[i]?
theorem rk_same {κ' : List K} (h : same6 κ κ') {k : K} (hk : k.toNat ≤ 6) : rk κ' .z k = rk κ .z k := by
  have := k.toNat_pos
  unfold rk
  rw [h _ (by omega)]
theorem f28_run {rec : List AV} {e : Option Int} {sel : List K} (hM : M.ok) (h : StF tl M kn ws κ) (hn : ∀ b ∈ blN ws.length tl, no24 b) (hs : ∀ i, i < 6 → sel[i]? = some (hp0.key i)) (h6 : 4 ≤ tl.length)
    (hz : ∀ ρ, AV.rens ρ rec = rec) (hc : chkB (blN ws.length tl) (blN ws.length tl2) sel [.ptr .z 0, .agg rec] (.tup [.agg zA, errV e]) = true)
    (hr : runL (evFn Tryz.prog XL 100000 28 [.ptr .z 0, .agg rec] (hp0.ext (blN ws.length tl))) sel (blN ws.length tl2) = some (.tup [.agg zA, errV e], true, wantL sel (blN ws.length tl2))) (L : List Blk) :
    FnOk Tryz.prog 28 [.ptr kn 0, .agg rec] (M.ext L) fun r G => r = .tup [.agg zA, errV e] ∧ (∃ κ', StF tl2 G kn ws κ' ∧ same6 κ κ' ∧ G.ok ∧ ∀ k rows, M.get k = some (.row true 24 rows) → G.get k = some (.row true 24 rows)) ∧ ∀ (i : Nat) (b : Blk), L[i]? = some b → G.get (M.key i) = some b := by
  have hF := h.1.ext hM L
  have hren : ∀ ρ : K → K, AV.ren ρ (.tup [.agg zA, errV e]) = .tup [.agg zA, errV e] := fun ρ => by
    cases e <;> simp only [AV.ren, AV.rens, zA, errV]
  have e1 : rk κ .z .z = kn := rk_some h.2.1
  have e2 : AV.rens (rk κ .z) rec = rec := hz _
  have := FnOk.run good_XL (v1 := .tup [.agg zA, errV e]) hc (by rw [hren]; exact hr) hF
  have ea : AV.rens (rk κ .z) [.ptr .z 0, .agg rec] = [.ptr kn 0, .agg rec] := by
    simp only [AV.rens, AV.ren, e1, e2]
  rw [ea] at this
  refine this.mono ?_
  rintro v X ⟨κ', hv, hX⟩
  rw [hren] at hv
  have hsm : same6 κ κ' := fun i hi => by
    have := hX.stay i _ (hs i hi) (by rw [hp0_key]; show i + 1 ≤ tl.length + 1 + 1; omega)
    rw [this, hp0_key]; rfl
  have hk24 : ∀ k rows, (M.ext L).get k = some (.row true 24 rows) → X.get k = some (.row true 24 rows) := fun k rows hk => hX.keep k _ hk fun i c h1 h2 => fit_no24 hF hn hk h1 h2
  refine ⟨hv, ⟨κ', ⟨hX.fit, by rw [hsm 0 (by decide)]; exact h.2.1, fun hne kw hkw => ?_⟩, hsm, hX.ok, fun k rows hk => hk24 k rows (Heap.get_ext_old hM hk L)⟩, fun i b hb => ?_⟩
  · rw [hsm 1 (by decide)] at hkw
    exact hk24 kw ws (Heap.get_ext_old hM (h.2.2 hne kw hkw) L)
  · have hi : i < L.length := (List.getElem?_eq_some_iff.1 hb).1
    refine hX.keep _ b (by rw [Heap.get_ext_key _ _ _ hi]; exact hb) fun j c h1 h2 h3 => ?_
    have := h.1.old _ (List.mem_of_getElem? h3)
    rw [Heap.toNat_key] at this
    omega
end
end Go.Proofs
/- NodeCuts: Take of letters that cut, join: walked. -/

set_option linter.all false
set_option maxRecDepth 100000
namespace Go.Proofs
open Go Go.Ev
/-- what a state's blocks must be -/
structure Lay (tl : List Blk) : Prop where
  len : 4 ≤ tl.length
  live : ∀ b ∈ tl, b.live
  no24 : ∀ b ∈ tl, no24 b
  no2 : ∀ b ∈ tl, ∀ k ∈ b.keysA, k.toNat ≠ 2
noncomputable def layB (tl : List Blk) : Bool := bif' (Nat.ble 4 tl.length) (allB (fun b => bif' (Blk.rec (motive := fun _ => Bool) false (fun _ e _ => bif' (Nat.beq e 24) false true) (fun _ => true) b) (allB (fun k => bif' (Nat.beq k.toNat 2) false true) b.keysA) false) tl) false
theorem lay_of {tl : List Blk} (h : layB tl = true) : Lay tl := by
  obtain ⟨h1, h2⟩ := bif_split h
  have h3 := fun b hb => bif_split (allB_ok h2 b hb)
  refine ⟨Nat.le_of_ble_eq_true h1, fun b hb => ?_, fun b hb => ?_, fun b hb k hk => ?_⟩
  · have := (h3 b hb).1
    cases b with
    | dead => cases this
    | row _ _ _ => trivial
    | map _ => trivial
  · have := (h3 b hb).1
    intro wr rows e
    subst e
    cases this
  · have := allB_ok (h3 b hb).2 k hk
    intro e
    rw [e] at this
    cases this
section
variable {M G X : Heap} {kn : K} {tl tl2 : List Blk} {ws : List (List AV)} {κ : List K}
theorem lay_blN (h : Lay tl) (n : Nat) : ∀ b ∈ blN n tl, no24 b := by
  intro b hb
  rcases List.mem_cons.1 hb with rfl | hb
  · intro wr rows e; unfold nB at e; injection e with _ e _; cases e
  · rcases List.mem_cons.1 hb with rfl | hb
    · intro wr rows e; cases e
    · exact h.no24 b hb
theorem StF.ext (h : StF tl M kn ws κ) (hok : M.ok) (L : List Blk) : StF tl (M.ext L) kn ws κ := ⟨h.1.ext hok L, h.2.1, fun hne kw hk => Heap.get_ext_old hok (h.2.2 hne kw hk) L⟩
theorem St.ext (h : St tl M kn ws) (L : List Blk) : St tl (M.ext L) kn ws := by
  obtain ⟨hok, κ, h⟩ := h
  exact ⟨Heap.ok_ext hok L, κ, h.ext hok L⟩
theorem says_St {c : List AV} {kd kj kh km : K} {wv : AV} (hL : Lay tl) (h : StF tl G kn ws κ) (hd : rk κ .z K.z.i = kd) (hj : rk κ .z K.z.o.o = kj) (hh : rk κ .z K.z.o.i = kh) (hm : rk κ .z K.z.i.o = km) (hwv : wv = (wN ws.length).ren (rk κ .z))
    (h1 : ∃ wv', X.get kn = some (nRow kd kj kh wv' (.int .i64 0) (.int .i64 0) (.map km)) ∧ isWt X wv' (ws ++ [c])) (hX : X.ok) (hK : Kp (kn :: wk wv) G X) : St tl X kn (ws ++ [c]) := by
  obtain ⟨wv', r1, r2⟩ := h1
  rcases r2 with ⟨e, _⟩ | ⟨kw, _, rfl, r3⟩
  · simp at e
  have hll : κ.length = tl.length + 1 + 1 := h.1.len
  have hl := hL.len
  have h1lt : 1 < κ.length := by omega
  have hk1 : κ[1]? = some κ[1] := List.getElem?_eq_getElem h1lt
  -- the other blocks
  have hot : ∀ (i : Nat) (b : Blk) (k : K), tl[i]? = some b → κ[i + 2]? = some k → X.get k = some (b.ren (rk κ .z)) := fun i b k hb hk => by
    refine hK.keep _ _ (fun hm => ?_) (h.1.blk (i + 2) b k hb hk (hL.live b (List.mem_of_getElem? hb)))
    rcases List.mem_cons.1 hm with rfl | hm
    · have := h.1.inj hk h.2.1; omega
    · subst hwv
      cases ws with
      | nil => cases hm
      | cons w ws =>
        have e : wk ((wN (w :: ws).length).ren (rk κ .z)) = [κ[1]] := by
          show [rk κ .z K.z.o] = _
          rw [rk_some (j := κ[1]) (k := K.z.o) hk1]
        rw [e, List.mem_singleton] at hm
        subst hm
        have := h.1.inj hk hk1; omega
  have hne : ∀ (i : Nat) (k : K), i ≠ 1 → κ[i]? = some k → k ≠ kw := fun i k hi hk e => by
    subst e
    have hil := (List.getElem?_eq_some_iff.1 hk).1
    rcases i with _ | _ | i
    · rw [h.2.1] at hk
      cases hk
      rw [r1] at r3
      unfold nRow at r3
      injection Option.some.inj r3 with _ e _
      cases e
    · exact hi rfl
    · have hb : tl[i]? = some (tl[i]'(by omega)) := List.getElem?_eq_getElem _
      have := hot i _ k hb hk
      rw [r3] at this
      have e3 := Option.some.inj this
      cases hc : (tl[i]'(by omega)) with
      | dead => have := hL.live _ (List.mem_of_getElem? hb); rw [hc] at this; exact this
      | row wr2 e2 rows2 =>
        rw [hc] at e3
        have e3 : Blk.row true 24 (ws ++ [c]) = .row wr2 e2 (rows2.map (AV.rens (rk κ .z))) := e3
        injection e3 with e4 e5 e6
        subst e5
        exact hL.no24 _ (List.mem_of_getElem? hb) _ _ hc
      | map es => rw [hc] at e3; cases e3
  have hset : ∀ i, (κ.set 1 kw)[i]? = if i = 1 then some kw else κ[i]? := fun i => by
    rw [List.getElem?_set]
    by_cases hi : 1 = i
    · rw [if_pos hi, if_pos hi.symm, if_pos (by omega)]
    · rw [if_neg hi, if_neg fun e => hi e.symm]
  have hn1 : (ws ++ [c]).length = ws.length + 1 := by rw [List.length_append]; rfl
  have hrk : ∀ k : K, k.toNat ≠ 2 → rk (κ.set 1 kw) .z k = rk κ .z k := fun k hk => by
    have := k.toNat_pos
    unfold rk
    rw [hset, if_neg (by omega)]
  have hrk2 : rk (κ.set 1 kw) .z K.z.o = kw := rk_some (by rw [hset]; exact if_pos rfl)
  refine ⟨hX, κ.set 1 kw, ⟨by rw [List.length_set]; exact h.1.len, ?_, fun k hk => ?_, fun b hb k hk => ?_, fun i b k hb hk hl => ?_⟩, by rw [hset, if_neg (by decide)]; exact h.2.1, fun _ kw' hkw => ?_⟩
  · refine List.pairwise_iff_getElem.2 fun i j hi' hj' hij e0 => ?_
    have hj := hj'
    rw [List.length_set] at hj
    have e0 : (κ.set 1 kw)[i]? = (κ.set 1 kw)[j]? := by rw [List.getElem?_eq_getElem hi', List.getElem?_eq_getElem hj', e0]
    rw [hset, hset] at e0
    have ei : κ[i]? = some (κ[i]'(by omega)) := List.getElem?_eq_getElem _
    have ej : κ[j]? = some (κ[j]'hj) := List.getElem?_eq_getElem _
    split at e0
    · rw [if_neg (by omega), ej] at e0
      exact hne j _ (by omega) ej (Option.some.inj e0).symm
    · split at e0
      · rw [ei] at e0
        exact hne i _ (by omega) ei (Option.some.inj e0)
      · rw [ei] at e0
        have := h.1.inj ei e0.symm
        omega
  · rcases List.mem_or_eq_of_mem_set hk with hk | rfl
    · exact Nat.lt_of_lt_of_le (h.1.old k hk) hK.le
    · exact hX _ _ r3
  · rcases List.mem_cons.1 hb with rfl | hb
    · rw [hn1] at hk
      have hk : k ∈ [K.z.i, K.z.o.o, K.z.o.i, K.z.o, K.z.i.o] := by
        simpa [Blk.keysA, nB, wN, AV.keyss, AV.keys] using hk
      show k.toNat ≤ tl.length + 1 + 1
      simp only [List.mem_cons, List.not_mem_nil, or_false] at hk
      rcases hk with rfl | rfl | rfl | rfl | rfl <;> simp only [K.toNat] <;> omega
    · exact h.1.closed b (List.mem_cons_of_mem _ hb) k hk
  · rcases i with _ | _ | i
    · cases hb
      rw [hset, if_neg (by decide), h.2.1] at hk
      cases hk
      rw [r1, hn1]
      show _ = some (Blk.row true 8 [[.int .i64 0, .ptr (rk (κ.set 1 kw) .z K.z.i) 0, .ptr (rk (κ.set 1 kw) .z K.z.o.o) 0, .ptr (rk (κ.set 1 kw) .z K.z.o.i) 0, .slice (rk (κ.set 1 kw) .z K.z.o) 0 (ws.length + 1) 24 false (ws.length + 1), .int .i64 0, .int .i64 0, .map (rk (κ.set 1 kw) .z K.z.i.o)]])
      rw [hrk2, hrk _ (by decide), hrk _ (by decide), hrk _ (by decide), hrk _ (by decide), hd, hj, hh, hm]
      rfl
    · cases hb; exact hl.elim
    · have hb : tl[i]? = some b := hb
      rw [hset, if_neg (by omega)] at hk
      rw [hot i b k hb hk]
      exact congrArg some (Blk.ren_congr fun j hj => (hrk j (hL.no2 b (List.mem_of_getElem? hb) j hj)).symm)
  · rw [hset, if_pos rfl] at hkw
    cases hkw
    exact r3
/-- letters that wait elsewhere are there still -/
def Keep24 (M G : Heap) (ws : List (List AV)) : Prop := ∀ k rows, M.get k = some (.row true 24 rows) → rows ≠ ws → G.get k = some (.row true 24 rows)
theorem f10_told {l : List AV} {Q : Heap → Prop} {k : Int} (hl : l = sL ∨ l = jL) (hok : M.ok) {kd kj kh : K} {wv x5 x6 x7 : AV} (hn : M.get kn = some (nRow kd kj kh wv x5 x6 x7))
    (hf : ∀ L, FnOk Tryz.prog 39 [.ptr kn 0, .agg l] (M.ext L) fun r G => r = .tup [] ∧ Q G) : FnOk Tryz.prog 10 [.ptr kn 0, .agg l] M fun r G => r = .tup [] ∧ Q G := by
  have hn' := fun L => Heap.get_ext_old hok hn L
  simp only [nRow] at hn'
  rcases hl with rfl | rfl
  · have e : FnOk Tryz.prog 30 [.agg sL] (M.ext [.row true 24 [sL]]) fun r G' => r = .bool true ∧ G' = M.ext [.row true 24 [sL]] := is_sL
    obtain ⟨E, hE, he⟩ := one_call e
    simp only [sL] at he
    refine FnOk.of_WW Tryz.func10 rfl C10ok R10ok E hE ?_
    simp only [go_sem, C10, sL, hn', he]
    refine CL.of (clone_nil clo40) ?_
    rintro _ G' ⟨rfl, hG⟩; rw [hG]; clear hG
    simp only [go_sem]
    refine CL.of (hf _) ?_
    rintro _ G' ⟨rfl, hp⟩
    simp only [go_sem]
    exact hp
  · have e : FnOk Tryz.prog 30 [.agg jL] (M.ext [.row true 24 [jL]]) fun r G' => r = .bool true ∧ G' = M.ext [.row true 24 [jL]] := is_jL
    obtain ⟨E, hE, he⟩ := one_call e
    simp only [jL] at he
    refine FnOk.of_WW Tryz.func10 rfl C10ok R10ok E hE ?_
    simp only [go_sem, C10, jL, hn', he]
    refine CL.of (clone_nil clo40) ?_
    rintro _ G' ⟨rfl, hG⟩; rw [hG]; clear hG
    simp only [go_sem]
    refine CL.of (hf _) ?_
    rintro _ G' ⟨rfl, hp⟩
    simp only [go_sem]
    exact hp
end
end Go.Proofs
/- NodeCuts: Take of letters that cut, join, in states that are spelt out. -/

set_option linter.all false
set_option maxRecDepth 100000
namespace Go.Proofs
open Go Go.Ev
def RunR (tl tl2 : List Blk) (rec : List AV) (e : Option Int) (sel : List K) (n : Nat) : Prop :=
  (∀ i, i < 6 → sel[i]? = some (hp0.key i)) ∧ chkB (blN n tl) (blN n tl2) sel [.ptr .z 0, .agg rec] (.tup [.agg zA, errV e]) = true ∧
  runL (evFn Tryz.prog XL 100000 28 [.ptr .z 0, .agg rec] (hp0.ext (blN n tl))) sel (blN n tl2) = some (.tup [.agg zA, errV e], true, wantL sel (blN n tl2))
def GoneIs (tl : List Blk) (id : Int) : Prop := ∃ lv kg n ex cap wr, ∃ gs : List Gn, tl[2]? = some (.row true 2 [[lv, .slice kg 0 n 2 ex cap]]) ∧ (blN 0 tl)[kg.toNat - 1]? = some (.row wr 2 (gs.map Gn.enc)) ∧ gs.length = n ∧ n < 100000 ∧ 2 < kg.toNat ∧ goneL gs id = 1
section
variable {M G X : Heap} {kn : K} {tl tl2 : List Blk} {ws : List (List AV)} {κ : List K} {sel : List K} {e : Option Int}
theorem gone_run (h : StF tl G kn ws κ) (hok : G.ok) {id : Int} (hg : GoneIs tl id) (L : List Blk) : FnOk Tryz.prog 91 [.ptr (rk κ .z K.z.o.i) 0, .int .i64 id] (G.ext L) fun r X => r = .int .i64 1 ∧ X = G.ext L := by
  obtain ⟨lv, kg, n, ex, cap, wr, gs, g1, g2, g3, g4, g5, g6⟩ := hg
  have i1 := (List.getElem?_eq_some_iff.1 g1).1
  have i2 := (List.getElem?_eq_some_iff.1 g2).1
  have j1 : 4 < κ.length := by rw [h.1.len]; show 4 < tl.length + 1 + 1; omega
  have j2 : kg.toNat - 1 < κ.length := by rw [h.1.len]; exact i2
  have e4 : κ[4]? = some κ[4] := List.getElem?_eq_getElem j1
  have eg : κ[kg.toNat - 1]? = some κ[kg.toNat - 1] := List.getElem?_eq_getElem j2
  have b1 := h.1.blk 4 _ _ g1 e4 trivial
  have hi : ∃ i, kg.toNat - 1 = i + 2 := ⟨kg.toNat - 3, by omega⟩
  have g2' : (blN ws.length tl)[kg.toNat - 1]? = some (.row wr 2 (gs.map Gn.enc)) := by
    obtain ⟨i, hi⟩ := hi
    rw [hi] at g2 ⊢
    exact g2
  have b2 := h.1.blk _ _ _ g2' eg trivial
  have r4 : rk κ .z K.z.o.i = κ[4] := rk_some (k := K.z.o.i) e4
  have rg : rk κ .z kg = κ[kg.toNat - 1] := rk_some eg
  have hen : (gs.map Gn.enc).map (AV.rens (rk κ .z)) = gs.map Gn.enc := by
    rw [List.map_map]
    exact List.map_congr_left fun g _ => by simp [Gn.enc, AV.rens, AV.ren]
  have b2 : G.get (rk κ .z kg) = some (.row wr 2 (gs.map Gn.enc)) := by
    rw [rg, b2, ← hen]
    exact congrArg (fun z => some (Blk.row wr 2 z)) (by rw [hen, hen])
  have hA : Arr G 2 (.slice (rk κ .z kg) 0 n 2 ex cap) (gs.map Gn.enc) := by
    refine .inr ⟨_, 0, ex, cap, by rw [List.length_map, g3], hok _ _ b2, fun _ => ⟨0, wr, _, rfl, b2, by rw [List.drop_zero, List.take_length]⟩⟩
  rw [r4]
  have := f91_ok (H := G.ext L) (Heap.get_ext_old hok b1 L) (hA.ext L) (by omega) id
  rw [g6] at this
  exact this
/-- what a record leaves -/
def PhiR (tl2 : List Blk) (M : Heap) (kn : K) (ws : List (List AV)) (κ : List K) (G : Heap) : Prop := ∃ κ', StF tl2 G kn ws κ' ∧ same6 κ κ' ∧ G.ok ∧ ∀ k rows, M.get k = some (.row true 24 rows) → G.get k = some (.row true 24 rows)
theorem PhiR.row (h : PhiR tl2 M kn ws κ G) : G.ok ∧ G.get kn = some (nRow (rk κ .z K.z.i) (rk κ .z K.z.o.o) (rk κ .z K.z.o.i) ((wN ws.length).ren (rk κ .z)) (.int .i64 0) (.int .i64 0) (.map (rk κ .z K.z.i.o))) ∧ isWt G ((wN ws.length).ren (rk κ .z)) ws := by
  obtain ⟨κ', h1, h2, h3, -⟩ := h
  have e : (wN ws.length).ren (rk κ' .z) = (wN ws.length).ren (rk κ .z) := AV.ren_congr fun k hk => rk_same h2 (by
    cases hw : ws.length with
    | zero => rw [hw] at hk; simp [wN, AV.keys] at hk
    | succ n => rw [hw] at hk; simp [wN, AV.keys] at hk; subst hk; decide)
  have r := h1.row
  have t := h1.wt
  rw [e] at r t
  rw [rk_same h2 (k := K.z.i) (by decide), rk_same h2 (k := K.z.o.o) (by decide), rk_same h2 (k := K.z.o.i) (by decide), rk_same h2 (k := K.z.i.o) (by decide)] at r
  exact ⟨h3, r, t⟩
theorem phi_end {c : List AV} {G1 : Heap} (hL : Lay tl2) (h : PhiR tl2 M kn ws κ G1)
    (h1 : ∃ wv', G.get kn = some (nRow (rk κ .z K.z.i) (rk κ .z K.z.o.o) (rk κ .z K.z.o.i) wv' (.int .i64 0) (.int .i64 0) (.map (rk κ .z K.z.i.o))) ∧ isWt G wv' (ws ++ [c])) (hX : G.ok) (hK : Kp (kn :: wk ((wN ws.length).ren (rk κ .z))) G1 G) : St tl2 G kn (ws ++ [c]) ∧ Keep24 M G ws := by
  obtain ⟨-, hrow, hwt⟩ := h.row
  obtain ⟨κ', g1, g2, g3, g4⟩ := h
  have e : (wN ws.length).ren (rk κ .z) = (wN ws.length).ren (rk κ' .z) := AV.ren_congr fun k hk => (rk_same g2 (by
    cases hw : ws.length with
    | zero => rw [hw] at hk; simp [wN, AV.keys] at hk
    | succ n => rw [hw] at hk; simp [wN, AV.keys] at hk; subst hk; decide)).symm
  refine ⟨says_St hL g1 (rk_same g2 (k := K.z.i) (by decide)) (rk_same g2 (k := K.z.o.o) (by decide)) (rk_same g2 (k := K.z.o.i) (by decide)) (rk_same g2 (k := K.z.i.o) (by decide)) e h1 hX hK, fun k rows hk hne => ?_⟩
  refine hK.keep k _ (fun hm => ?_) (g4 k rows hk)
  rcases List.mem_cons.1 hm with rfl | hm
  · have := g4 _ _ hk
    rw [hrow] at this
    unfold nRow at this
    injection Option.some.inj this with _ e _
    cases e
  · rcases hwt with ⟨_, e2⟩ | ⟨kw, _, e2, e3⟩
    · rw [e2] at hm; cases hm
    · rw [e2] at hm
      have : k = kw := by
        cases hl : ws.length with
        | zero => rw [hl] at hm; cases hm
        | succ n => rw [hl] at hm; exact List.mem_singleton.1 hm
      subst this
      have := g4 _ _ hk
      rw [e3] at this
      injection Option.some.inj this with _ _ e4
      exact hne e4.symm
theorem take_split (l1 : Lay tl) (l2 : Lay tl2) (hr : RunR tl tl2 sR e sel ws.length) (hg : e ≠ none → GoneIs tl2 1) (hN : ws.length < 100000) (h : St tl M kn ws) :
    FnOk Tryz.prog 10 [.ptr kn 0, .agg sL] M fun r G => r = .tup [] ∧ St tl2 G kn (ws ++ [cutL 1 1 2]) ∧ Keep24 M G ws := by
  obtain ⟨hok, κ, h⟩ := h
  refine f10_told (k := 0) (.inl rfl) hok h.row fun L => ?_
  have hL := h.ext hok L
  have hokL := Heap.ok_ext hok L
  refine (f39_split (Φ := PhiR tl2 (M.ext L) kn ws κ) (e := e) (a4 := []) hokL hL.row hL.wt hN (fun L' => f28_run hokL hL (lay_blN l1 _) hr.1 l1.len (fun ρ => by simp only [sR, AV.rens, AV.ren]) hr.2.1 hr.2.2 L') (fun G' hG => hG.row) fun he G' hG L' => ?_).mono ?_
  · obtain ⟨κ', g1, g2, g3, -⟩ := hG
    rw [← rk_same g2 (k := K.z.o.i) (by decide)]
    exact gone_run g1 g3 (hg he) L'
  · rintro r G ⟨rfl, G1, g1, g2, g3, g4⟩
    obtain ⟨q1, q2⟩ := phi_end l2 g1 g2 g3 g4
    exact ⟨rfl, q1, fun k rows hk hne => q2 k rows (Heap.get_ext_old hok hk L) hne⟩
theorem take_join (l1 : Lay tl) (l2 : Lay tl2) (hr : RunR tl tl2 jR e sel ws.length) (hg : e ≠ none → GoneIs tl2 2) (hN : ws.length < 100000) (h : St tl M kn ws) :
    FnOk Tryz.prog 10 [.ptr kn 0, .agg jL] M fun r G => r = .tup [] ∧ St tl2 G kn (ws ++ [cutL 2 1 4]) ∧ Keep24 M G ws := by
  obtain ⟨hok, κ, h⟩ := h
  refine f10_told (k := 0) (.inr rfl) hok h.row fun L => ?_
  have hL := h.ext hok L
  have hokL := Heap.ok_ext hok L
  refine (f39_join (Φ := PhiR tl2 (M.ext L) kn ws κ) (e := e) (a4 := []) hokL hL.row hL.wt hN (fun L' => f28_run hokL hL (lay_blN l1 _) hr.1 l1.len (fun ρ => by simp only [jR, AV.rens, AV.ren]) hr.2.1 hr.2.2 L') (fun G' hG => hG.row) fun he G' hG L' => ?_).mono ?_
  · obtain ⟨κ', g1, g2, g3, -⟩ := hG
    rw [← rk_same g2 (k := K.z.o.i) (by decide)]
    exact gone_run g1 g3 (hg he) L'
  · rintro r G ⟨rfl, G1, g1, g2, g3, g4⟩
    obtain ⟨q1, q2⟩ := phi_end l2 g1 g2 g3 g4
    exact ⟨rfl, q1, fun k rows hk hne => q2 k rows (Heap.get_ext_old hok hk L) hne⟩
end
end Go.Proofs
/- NodeCuts: calls that look at the shards alone; Sync. -/

set_option linter.all false
set_option maxRecDepth 100000
namespace Go.Proofs
open Go Go.Ev
section
variable {M G X : Heap} {kn : K} {tl tl2 : List Blk} {ws : List (List AV)} {κ : List K} {bl : List Blk}
/-- the shards alone -/
def hT : List Blk → List Blk
  | _ :: _ :: h :: _ :: r => .dead :: .dead :: .dead :: .dead :: h :: .dead :: r
  | _ => []
theorem fit_mask {m : List Blk} (h : Fit M κ bl) (hl : m.length = bl.length) (hm : ∀ (i : Nat) (b : Blk), m[i]? = some b → b.live → bl[i]? = some b) : Fit M κ m :=
  ⟨h.len.trans hl.symm, h.nodup, h.old, fun b hb k hk => by
    obtain ⟨i, hi⟩ := List.mem_iff_getElem?.1 hb
    rw [hl]
    cases b with
    | dead => cases hk
    | row wr e rows => exact h.closed _ (List.mem_of_getElem? (hm i _ hi trivial)) k hk
    | map es => exact h.closed _ (List.mem_of_getElem? (hm i _ hi trivial)) k hk, fun i b k hb hk hlv => h.blk i b k (hm i b hb hlv) hk hlv⟩
theorem hT_fit (h : StF tl M kn ws κ) (hl : 4 ≤ tl.length) : Fit M κ (hT tl) := by
  obtain ⟨a, b, c, d, r, rfl⟩ : ∃ a b c d r, tl = a :: b :: c :: d :: r := by
    rcases tl with _ | ⟨a, _ | ⟨b, _ | ⟨c, _ | ⟨d, r⟩⟩⟩⟩ <;> first | (simp at hl; done) | exact ⟨_, _, _, _, _, rfl⟩
  refine fit_mask h.1 rfl fun i x hx hlv => ?_
  rcases i with _ | _ | _ | _ | _ | _ | i
  all_goals first
    | exact hx
    | (simp only [hT, List.getElem?_cons_zero, List.getElem?_cons_succ, Option.some.injEq] at hx; subst hx; exact hlv.elim)
/-- a call that changes nothing -/
theorem look {f : FuncId} {args : List AV} {ds : List Blk} {es : List K} {v1 : AV} (hM : M.ok) (hF : Fit M κ bl) (hd : ∀ b ∈ ds, b = .dead)
    (hc : chkB bl (bl ++ ds) ((List.range bl.length).map hp0.key ++ es) args v1 = true)
    (hr : runL (evFn Tryz.prog XL 100000 f args (hp0.ext bl)) ((List.range bl.length).map hp0.key ++ es) (bl ++ ds) = some (v1.ren (rk ((List.range bl.length).map hp0.key ++ es) .z), true, wantL ((List.range bl.length).map hp0.key ++ es) (bl ++ ds))) :
    FnOk Tryz.prog f (AV.rens (rk κ .z) args) M fun v G => ∃ κ', v = v1.ren (rk κ' .z) ∧ G.ok ∧ M.nx.toNat ≤ G.nx.toNat ∧ ∀ k b, M.get k = some b → G.get k = some b := by
  refine (FnOk.run good_XL hc hr hF).mono ?_
  rintro v G ⟨κ', rfl, hX⟩
  refine ⟨κ', rfl, hX.ok, hX.nx, fun k b hk => ?_⟩
  by_cases hex : ∃ (i : Nat) (c : Blk), bl[i]? = some c ∧ c.live ∧ κ[i]? = some k
  · obtain ⟨i, c, h1, h2, h3⟩ := hex
    have hi := (List.getElem?_eq_some_iff.1 h1).1
    have hs : ((List.range bl.length).map hp0.key ++ es)[i]? = some (hp0.key i) := by
      rw [List.getElem?_append_left (by rw [List.length_map, List.length_range]; exact hi), List.getElem?_map, List.getElem?_range hi]; rfl
    have h4 := hX.stay i _ hs (by rw [hp0_key]; omega)
    have h5 : (hp0.key i).toNat - 1 = i := by rw [hp0_key]; rfl
    rw [h5, h3] at h4
    have h6 := hX.fit.blk i c k (by rw [List.getElem?_append_left hi]; exact h1) h4 h2
    rw [hF.blk i c k h1 h3 h2] at hk
    cases hk
    rw [h6]
    refine congrArg some (Blk.ren_congr fun j hj => ?_)
    have hjl := hF.closed c (List.mem_of_getElem? h1) j hj
    have hjp := j.toNat_pos
    have hs2 : ((List.range bl.length).map hp0.key ++ es)[j.toNat - 1]? = some (hp0.key (j.toNat - 1)) := by
      rw [List.getElem?_append_left (by rw [List.length_map, List.length_range]; omega), List.getElem?_map, List.getElem?_range (by omega)]; rfl
    have h7 := hX.stay (j.toNat - 1) _ hs2 (by rw [hp0_key]; omega)
    rw [hp0_key, Nat.add_sub_cancel] at h7
    unfold rk
    rw [h7]
  · exact hX.keep k b hk fun i c h1 h2 h3 => hex ⟨i, c, h1, h2, h3⟩
theorem StF.kept (h : StF tl M kn ws κ) (hn : M.nx.toNat ≤ G.nx.toNat) (hk : ∀ k b, M.get k = some b → G.get k = some b) : StF tl G kn ws κ :=
  ⟨h.1.keep hn fun i b k c _ _ _ hc => hk k c hc, h.2.1, fun hne kw hkw => hk _ _ (h.2.2 hne kw hkw)⟩
/-- a call at the shards that changes nothing, in a state -/
theorem look_St {f : FuncId} {a : List AV} {ds : List Blk} {es : List K} {v1 : AV} (hL : Lay tl) (h : StF tl M kn ws κ) (hM : M.ok) (ha : ∀ ρ, AV.rens ρ a = a) (hd : ∀ b ∈ ds, b = .dead)
    (hc : chkB (hT tl) (hT tl ++ ds) ((List.range (hT tl).length).map hp0.key ++ es) (.ptr K.z.o.i 0 :: a) v1 = true)
    (hr : runL (evFn Tryz.prog XL 100000 f (.ptr K.z.o.i 0 :: a) (hp0.ext (hT tl))) ((List.range (hT tl).length).map hp0.key ++ es) (hT tl ++ ds) = some (v1.ren (rk ((List.range (hT tl).length).map hp0.key ++ es) .z), true, wantL ((List.range (hT tl).length).map hp0.key ++ es) (hT tl ++ ds))) :
    FnOk Tryz.prog f (.ptr (rk κ .z K.z.o.i) 0 :: a) M fun v G => (∃ κ', v = v1.ren (rk κ' .z)) ∧ StF tl G kn ws κ ∧ G.ok ∧ ∀ k b, M.get k = some b → G.get k = some b := by
  have := look hM (hT_fit h hL.len) hd hc hr
  have e : AV.rens (rk κ .z) (.ptr K.z.o.i 0 :: a) = .ptr (rk κ .z K.z.o.i) 0 :: a := by rw [AV.rens, ha, AV.ren]
  rw [e] at this
  refine this.mono ?_
  rintro v G ⟨κ', h1, h2, h3, h4⟩
  exact ⟨⟨κ', h1⟩, h.kept h3 h4, h2, h4⟩
end
end Go.Proofs
