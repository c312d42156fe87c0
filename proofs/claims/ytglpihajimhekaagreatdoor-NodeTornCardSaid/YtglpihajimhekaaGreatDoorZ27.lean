/- part. -/
import Derived.Test.YtglpihajimhekaaGreatDoorZ26
set_option linter.all false
set_option maxRecDepth 100000
namespace Go.Proofs
open Go Go.Ev
section
variable {G G' : Heap} {k kn kd kj kh : K} {ks : List K} {rows : List (List AV)} {b : Blk} {x s : Sh}
theorem sh_kp (h : x.ok G) (hb : bareL x.done) (hk : Kp ks G G') (hx : ∀ j ∈ ks, ∀ wr e rows, G.get j = some (.row wr e rows) → e ≠ 4 ∧ e ≠ 5 ∧ e ≠ 6) : x.ok G' := by
 have h3 : ∀ {e : Nat} {v : AV} {xs : List (List AV)}, Arr G e v xs → e = 4 ∨ e = 5 ∨ e = 6 → Arr G' e v xs := fun hA he => arr_kp hA hk fun j hj wr rows hg => by
  have := hx j hj wr _ rows hg
  omega
 exact ⟨h3 h.c (by simp), h3 h.e (by simp), h3 h.d (by simp), hb.ok _, h.cl, h.el, h.dl⟩
theorem sh_ko (h : x.ok G) (hb : bareL x.done) (hk : KO G G') (hle : G.nx.toNat ≤ G'.nx.toNat) : x.ok G' :=
 ⟨arr_ko h.c hk hle (by decide), arr_ko h.e hk hle (by decide), arr_ko h.d hk hle (by decide), hb.ok _, h.cl, h.el, h.dl⟩
theorem kp_set (G : Heap) (k : K) (b : Blk) : Kp [k] G (G.set k b) := ⟨fun j c hj hc => by rw [Heap.get_set, if_neg (by rintro rfl; simp at hj)]; exact hc, by rw [Heap.nx_set]; exact Nat.le_refl _⟩
theorem sh_set8 (h : x.ok G) (hb : bareL x.done) (hk : G.get k = some (.row true 8 rows)) : x.ok (G.set k b) :=
 sh_kp h hb (kp_set G k b) fun j hj wr e rows hg => by rw [List.mem_singleton.1 hj, hk] at hg; cases hg; decide
theorem isNd.set8 {bs : List Nat} {n m : Nat} {ws : List (List AV)} {x5 x6 x7 : AV} (h : isNd G kn kd kj kh bs n m ws x5 x6 x7 s) (hk : G.get k = some (.row true 8 rows)) (hr : ∀ r ∈ rows, ∃ x : Sh, r = x.enc) (h0 : rows ≠ []) (hne : s.enc ∉ rows) : isNd (G.set k b) kn kd kj kh bs n m ws x5 x6 x7 s := by
 obtain ⟨wv, hn, hw⟩ := h.row
 obtain ⟨lv, hh⟩ := h.hold
 have hkp := kp_set G k b
 have hok : (G.set k b).ok := Heap.ok_set h.ok hk
 have n1 : kn ≠ k := by
  rintro rfl
  rw [hk] at hn
  injection hn with hn
  injection hn with _ _ hn
  subst hn
  obtain ⟨x, e⟩ := hr _ List.mem_cons_self
  simp [Sh.enc] at e
 have n2 : kd ≠ k := by rintro rfl; rw [h.disk] at hk; cases hk
 have n3 : kj ≠ k := by rintro rfl; rw [h.jour] at hk; cases hk
 have n4 : kh ≠ k := by rintro rfl; rw [hh.row] at hk; cases hk
 have h3 : ∀ {e : Nat} {v : AV} {xs : List (List AV)}, Arr G e v xs → e ≠ 8 → Arr (G.set k b) e v xs := fun hA he => arr_kp hA hkp fun j hj wr rows hg => by
  rw [List.mem_singleton.1 hj, hk] at hg
  cases hg
  exact absurd rfl he
 refine ⟨hok, ⟨wv, hkp.keep _ _ (by simp [n1]) hn, ?_⟩, hkp.keep _ _ (by simp [n2]) h.disk, hkp.keep _ _ (by simp [n3]) h.jour, ⟨lv, hok, hkp.keep _ _ (by simp [n4]) hh.row, arr_kp hh.l hkp fun j hj wr rows' hg r hrm hm => ?_, .inl ⟨rfl, rfl⟩, fun s' hs' => ?_, hh.small, hh.few⟩⟩
 ·rcases hw with hw | ⟨kw, a1, a2, a3⟩
  ·exact .inl hw
  ·exact .inr ⟨kw, a1, a2, hkp.keep _ _ (fun hm => by rw [← List.mem_singleton.1 hm, a3] at hk; cases hk) a3⟩
 ·rw [List.mem_singleton.1 hj, hk] at hg
  cases hg
  rw [List.map_cons, List.map_nil, List.mem_singleton] at hm
  subst hm
  exact hne hrm
 ·exact sh_set8 (hh.each s' hs') (hh.small s' hs').b hk
theorem appQ8 {kS : K} (hok : G.ok) {n : Nat} {xs : List (List AV)} (hw : G.get kS = some (.row true 8 xs)) (hn : xs.length = n + 1) {L : List Blk} {j : Nat} {wr ex : Bool} {y : List AV} (hj : L[j]? = some (.row wr 8 [y])) (hN : n < 100000) :
  appQ 8 128 (some (.slice kS 0 (n + 1) 8 false (n + 1))) (some (.slice (G.key j) 0 1 8 ex 1)) (G.ext L) = .val (.slice ((G.set kS .dead).key L.length) 0 (n + 2) 8 false (n + 2)) ((G.set kS .dead).ext (L ++ [.row true 8 (xs ++ [y])])) ∧
  appQ 8 128 (some (.slice kS 0 (n + 1) 8 true (n + 1))) (some (.slice (G.key j) 0 1 8 ex 1)) (G.ext L) = .val (.slice (G.key L.length) 0 (n + 2) 8 false (n + 2)) (G.ext (L ++ [.row true 8 (xs ++ [y])])) := by
 have hjl := (List.getElem?_eq_some_iff.1 hj).1
 have hg := Heap.get_ext_old hok hw L
 have hb1 : (2 * ((n + 1) + 1) + 192) * 128 ≤ 281474976710656 := Nat.le_trans (Nat.mul_le_mul_right _ (show _ ≤ 300000 by omega)) (by decide)
 have hs := fun (α : Type) (c : Heap → α) => Heap.setC_here hok hw .dead L c
 have htk : xs.take (n + 1) = xs := by rw [← hn]; exact List.take_length
 refine ⟨?_, ?_⟩
 ·show appR 8 128 (.c _) (.c _) .lf (G.ext L) = _
  unfold appR
  simp only [go_sem, withX, evX, Heap.get_ext_key _ _ _ hjl, hg, hj, hn, htk, List.drop_zero, List.take_succ_cons, List.take_zero, List.length_cons, List.length_nil, Nat.zero_mod, Nat.zero_div, Nat.reduceAdd, Nat.reduceSub, Nat.reduceMul, Nat.reduceDiv, Nat.reduceMod, Nat.reduceEqDiff, Nat.reduceLeDiff, Nat.reduceLT, reduceIte, List.take_length, List.cons_append]
  rw [if_pos (Nat.le_refl _), if_neg (by omega), if_pos hb1, hs, Heap.addC_ext]
  rfl
 ·show appR 8 128 (.c _) (.c _) .lf (G.ext L) = _
  unfold appR
  simp only [go_sem, withX, evX, Heap.get_ext_key _ _ _ hjl, hg, hj, hn, htk, List.drop_zero, List.take_succ_cons, List.take_zero, List.length_cons, List.length_nil, Nat.zero_mod, Nat.zero_div, Nat.reduceAdd, Nat.reduceSub, Nat.reduceMul, Nat.reduceDiv, Nat.reduceMod, Nat.reduceEqDiff, Nat.reduceLeDiff, Nat.reduceLT, reduceIte, List.take_length, List.cons_append]
  rw [if_pos (Nat.le_refl _), if_neg (by omega), if_pos hb1]
theorem app_st {kS : K} {bs : List Nat} {n m i : Nat} {ws : List (List AV)} {x5 x6 x7 : AV} (ex : Bool) (hN : isNd G kn kd kj kh bs n m ws x5 x6 x7 s) {xs : List Sh} (hS : G.get kS = some (.row true 8 (xs.map Sh.enc))) (hl : xs.length = i + 1) (hi : i < 100000) (hne : s.enc ∉ xs.map Sh.enc) {L : List Blk} {j : Nat} {y : Sh} (hj : L[j]? = some (.row true 8 [y.enc])) :
  ∃ kS' X, appQ 8 128 (some (.slice kS 0 (i + 1) 8 ex (i + 1))) (some (.slice (G.key j) 0 1 8 true 1)) (G.ext L) = .val (.slice kS' 0 (i + 2) 8 false (i + 2)) X ∧ isNd X kn kd kj kh bs n m ws x5 x6 x7 s ∧ X.get kS' = some (.row true 8 ((xs ++ [y]).map Sh.enc)) ∧ Kp [kS] (G.ext L) X ∧ G.nx.toNat ≤ kS'.toNat := by
 obtain ⟨h1, h2⟩ := appQ8 hN.ok hS (by rw [List.length_map]; exact hl) (ex := true) hj hi
 have hm : (xs ++ [y]).map Sh.enc = xs.map Sh.enc ++ [y.enc] := by rw [List.map_append]; rfl
 have hll : (L ++ [Blk.row true 8 (xs.map Sh.enc ++ [y.enc])])[L.length]? = some (.row true 8 (xs.map Sh.enc ++ [y.enc])) := by rw [List.getElem?_append_right (Nat.le_refl _), Nat.sub_self]; rfl
 cases ex
 ·refine ⟨_, _, h1, (hN.set8 hS (fun r hr => ?_) (fun e => ?_) hne).ext _, by rw [hm]; exact get_lit hll, ⟨fun k c hk hc => ?_, ?_⟩, ?_⟩
  ·obtain ⟨x, _, rfl⟩ := List.mem_map.1 hr
   exact ⟨x, rfl⟩
  ·have := congrArg List.length e
   rw [List.length_map, hl] at this
   cases this
  ·rw [← Heap.ext_append, ← Heap.set_ext_old _ _ _ _ (hN.ok _ _ hS)]
   refine Heap.get_ext_old (Heap.ok_set (Heap.ok_ext hN.ok L) (Heap.get_ext_old hN.ok hS L)) ?_ _
   rw [Heap.get_set, if_neg (by rintro rfl; simp at hk)]; exact hc
  ·rw [Heap.nx_ext, Heap.nx_ext, Heap.toNat_key, Heap.toNat_key, Heap.nx_set, List.length_append]; omega
  ·rw [Heap.toNat_key, Heap.nx_set]; exact Nat.le_add_right _ _
 ·refine ⟨_, _, h2, hN.ext _, by rw [hm]; exact get_lit hll, ⟨fun k c hk hc => ?_, ?_⟩, ?_⟩
  ·rw [← Heap.ext_append]
   exact Heap.get_ext_old (Heap.ok_ext hN.ok L) hc _
  ·rw [Heap.nx_ext, Heap.nx_ext, Heap.toNat_key, Heap.toNat_key, List.length_append]; omega
  ·rw [Heap.toNat_key]; exact Nat.le_add_right _ _
end
end Go.Proofs
