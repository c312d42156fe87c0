/- cut: what is known, walked. -/
import Derived.Test.YtomljpdjfobeoaaDoorZ19
set_option linter.all false
set_option linter.all false
set_option maxRecDepth 100000
namespace Go.Proofs
open Go Go.Ev
variable {H : Heap}

theorem part_ok' {s : Sh} (hdk : allOk H s.done) (hcl : s.cells.length < 4294967296) (hel : s.evs.length < 4294967296) (hdl : s.done.length < 4294967296) {L : List Blk} {a b c : Nat} (id : Int) (f t : List Nat) (ha : L[a]? = some (outB 5 ((withinL f t s.cells).map Cell.enc))) (hb : L[b]? = some (outB 4 ((evW f t s.evs).map Evn.enc))) (hc : L[c]? = some (zB (nilB s.dv) 6 (s.done.map Dn.enc))) :
    (partS s id f t (H.key a) (H.key b) (H.key c)).ok (H.ext L) where
  c := arr_outV ha (List.length_map ..)
  e := arr_outV hb (List.length_map ..)
  d := arr_zV hc (List.length_map ..)
  dok := hdk.ext L
  cl := Nat.lt_of_le_of_lt (List.length_filter_le ..) hcl
  el := Nat.lt_of_le_of_lt (List.length_filter_le ..) hel
  dl := hdl
theorem part_ok {s : Sh} (h : s.ok H) {L : List Blk} {a b c : Nat} (id : Int) (f t : List Nat) (ha : L[a]? = some (outB 5 ((withinL f t s.cells).map Cell.enc))) (hb : L[b]? = some (outB 4 ((evW f t s.evs).map Evn.enc))) (hc : L[c]? = some (zB (nilB s.dv) 6 (s.done.map Dn.enc))) :
    (partS s id f t (H.key a) (H.key b) (H.key c)).ok (H.ext L) := part_ok' h.dok h.cl h.el h.dl id f t ha hb hc
theorem arr_lit {L : List Blk} {esz i n : Nat} {wr ex : Bool} {cap : Nat} {xs : List (List AV)} (h : L[i]? = some (.row wr esz xs)) (hn : xs.length = n) : Arr (H.ext L) esz (.slice (H.key i) 0 n esz ex cap) xs := by
  subst hn
  have hil := (List.getElem?_eq_some_iff.1 h).1
  exact .inr ⟨_, _, _, _, rfl, by rw [Heap.nx_ext, Heap.toNat_key, Heap.toNat_key]; omega, fun _ => ⟨0, wr, xs, (Nat.zero_mul _).symm, by rw [Heap.get_ext_key _ _ _ hil, h], by rw [List.drop_zero, List.take_length]⟩⟩
def kc1 : Cell := ⟨[97], [], 1, false, 0⟩
def kc2 : Cell := ⟨[109], [], 1, false, 1⟩
def ke1 : Evn := ⟨[97], 1, [], false⟩
noncomputable def kS (H : Heap) : Sh := ⟨1, 4, [], [], false, [kc1, kc2], [ke1], [], .slice (H.key 0) 0 2 5 true 2, .slice (H.key 1) 0 1 4 true 1, .nils⟩
theorem kS_ok (L : List Blk) : (kS H).ok (H.ext (.row true 5 [kc1.enc, kc2.enc] :: .row true 4 [ke1.enc] :: L)) where
  c := arr_lit rfl rfl
  e := arr_lit rfl rfl
  d := .inl ⟨rfl, rfl⟩
  dok := fun d hd => absurd (show d ∈ [] from hd) (by simp)
  cl := by show 2 < _; decide
  el := by show 1 < _; decide
  dl := by show 0 < _; decide
theorem lt_ac : ltS [97] [99] := (ltS_cons ..).2 (.inl (by decide))
theorem lt_cm : ltS [99] [109] := (ltS_cons ..).2 (.inl (by decide))
theorem k_span : isSpan [] [] := ⟨by decide, by decide, .inl rfl⟩
theorem k_has (k : Nat) : has [] [] [k] := ⟨k_span, ⟨by simp, by show (1 : Int) ≤ 8; decide⟩, not_ltS_nil _, .inl rfl⟩
theorem kS_sh : isSh (kS H) := by
  refine ⟨by show (1 : Int) ≤ 1 ∧ (1 : Int) ≤ 1000000000000 ∧ (1 : Int) ≤ 4 ∧ (4 : Int) ≤ 1000000; decide, k_span, fun c hc => ?_, by show (1 : Int) ≤ 24; decide, ⟨isIdx_of (fun c hc => ?_) ?_, fun e he => ?_, fun c hc => ?_⟩, fun j hj => absurd hj (Nat.not_lt_zero _)⟩
  · have hc : c ∈ [kc1, kc2] := hc
    simp only [List.mem_cons, List.not_mem_nil, or_false] at hc
    rcases hc with rfl | rfl <;> exact k_has _
  · have hc : c ∈ [kc1, kc2] := hc
    simp only [List.mem_cons, List.not_mem_nil, or_false] at hc
    rcases hc with rfl | rfl <;> decide
  · show List.Pairwise _ [kc1, kc2]
    exact List.pairwise_cons.2 ⟨fun d hd => by rw [List.mem_singleton.1 hd]; exact ltS_trans lt_ac lt_cm, List.pairwise_singleton ..⟩
  · have he : e ∈ [ke1] := he
    rw [List.mem_singleton.1 he]
    exact ⟨rfl, by decide⟩
  · have hc : c ∈ [kc1, kc2] := hc
    simp only [List.mem_cons, List.not_mem_nil, or_false] at hc
    rcases hc with rfl | rfl
    · exact ofH_iff.2 (by show runR kc1 [ke1] 0 = some 1; decide)
    · exact ofH_iff.2 (by show runR kc2 [ke1] 1 = some 1; decide)
theorem k_in : inSplit (kS H) [99] := ⟨k_has _, rfl⟩
theorem k_lo : withinL [] [99] (kS H).cells = [kc1] := by
  refine (cells_lo kS_sh k_in).trans ?_
  show [kc1, kc2].filter _ = _
  rw [List.filter_cons_of_pos (p := fun c : Cell => decide (ltS c.key [99])) (decide_eq_true lt_ac), List.filter_cons_of_neg (by rw [decide_eq_false (show ¬ ltS kc2.key [99] from ltS_asymm lt_cm)]; decide)]
  rfl
theorem k_hi : withinL [99] [] (kS H).cells = [kc2] := by
  refine (cells_hi kS_sh k_in).trans ?_
  show [kc1, kc2].filter _ = _
  rw [List.filter_cons_of_neg (by rw [decide_eq_false (show ¬ ¬ ltS kc1.key [99] from fun h => h lt_ac)]; decide), List.filter_cons_of_pos (p := fun c : Cell => decide (¬ ltS c.key [99])) (decide_eq_true (ltS_asymm lt_cm))]
  rfl
theorem k_elo : evW [] [99] (kS H).evs = [ke1] := by
  refine (evs_lo kS_sh k_in).trans ?_
  show [ke1].filter _ = _
  rw [List.filter_cons_of_pos (p := fun c : Evn => decide (ltS c.key [99])) (decide_eq_true lt_ac)]
  rfl
theorem k_ehi : evW [99] [] (kS H).evs = [] := by
  refine (evs_hi kS_sh k_in).trans ?_
  show [ke1].filter _ = _
  rw [List.filter_cons_of_neg (by rw [decide_eq_true (show ltS ke1.key [99] from lt_ac)]; decide)]
  rfl
theorem k_join {l r : Int} {k0 k1 k2 k3 k4 k5 : K} : joinEvs (partS (kS H) l [] [99] k0 k1 k2) (partS (kS H) r [99] [] k3 k4 k5) = [ke1] := by
  refine (joinEvs_parts (s := kS H) kS_sh k_in).trans ?_
  show evW [] [99] (kS H).evs ++ evW [99] [] (kS H).evs = _
  rw [k_elo, k_ehi]; rfl
theorem k_okSplit : okSplit (kS H) 2 3 := ⟨⟨kS_sh, by show ¬ (false : Bool) = true; decide⟩, by decide, by decide, by decide⟩
theorem k_noSplit : ¬ okSplit (kS H) 2 2 := fun h => h.2.2.2 rfl
theorem f18_ok : FnOk Tryd.prog 18 [] H fun r G => r = .bool true ∧ G = H := by
  refine FnOk.assume fun hok => ?_
  refine FnOk.drop (R := fun r => r = .bool true) ?_ (by rintro v rfl ρ; rw [AV.ren])
  refine FnOk.of_WW Tryd.func18 rfl C18ok R18ok E0 good_E0 ?_
  simp only [go_sem, C18]
  refine CL.of (f21_ok (s := kS H) (kS_ok _) (by show 0 < 100000; decide) (by show 1 < 100000; decide) [99] 2 3) ?_
  rintro _ _ ⟨rfl, rfl⟩
  unfold splitV splitB
  rw [if_pos k_okSplit, if_pos k_in, if_pos ⟨k_okSplit, k_in⟩]
  have kfr : (kS H).fr = [] := rfl
  have kto : (kS H).to = [] := rfl
  simp only [go_sem, Heap.key_ext, partS, partB, Sh.enc, kfr, kto]
  have hk1 : ∀ {L : List Blk} {a b c : Nat} (id : Int) (f t : List Nat), L[a]? = some (outB 5 ((withinL f t (kS H).cells).map Cell.enc)) → L[b]? = some (outB 4 ((evW f t (kS H).evs).map Evn.enc)) → L[c]? = some (zB (nilB (kS H).dv) 6 ((kS H).done.map Dn.enc)) →
      (partS (kS H) id f t (H.key a) (H.key b) (H.key c)).ok (H.ext L) := part_ok' (fun d hd => absurd (show d ∈ [] from hd) (by simp)) (by show 2 < _; decide) (by show 1 < _; decide) (by show 0 < _; decide)
  have hc1 := k_lo (H := H)
  have hc2 := k_hi (H := H)
  have he1 := k_elo (H := H)
  have he2 := k_ehi (H := H)
  refine CL.of (f23_ok (s := partS (kS H) 2 [] [99] (H.key 3) (H.key 4) (H.key 5)) (t := partS (kS H) 3 [99] [] (H.key 6) (H.key 7) (H.key 8)) (hk1 2 [] [99] rfl rfl rfl) (hk1 3 [99] [] rfl rfl rfl) (by show 0 < _; decide) (by show 0 < _; decide) (by show (withinL [] [99] (kS H).cells).length < _; rw [hc1]; decide) (by show (withinL [99] [] (kS H).cells).length < _; rw [hc2]; decide) (by show (evW [] [99] (kS H).evs).length < _; rw [he1]; decide) (by show (evW [99] [] (kS H).evs).length < _; rw [he2]; decide) 4) ?_
  rintro _ _ ⟨rfl, rfl⟩
  unfold joinV joinB
  have jOk : okJoin (partS (kS H) 2 [] [99] (H.key 3) (H.key 4) (H.key 5)) (partS (kS H) 3 [99] [] (H.key 6) (H.key 7) (H.key 8)) 4 := parts_join (s := kS H) kS_sh k_in (by decide) (by decide) (by decide)
  have jMe : meets (partS (kS H) 2 [] [99] (H.key 3) (H.key 4) (H.key 5)) (partS (kS H) 3 [99] [] (H.key 6) (H.key 7) (H.key 8)) := parts_meet (s := kS H) kS_sh k_in
  have jEv : joinEvs (partS (kS H) 2 [] [99] (H.key 3) (H.key 4) (H.key 5)) (partS (kS H) 3 [99] [] (H.key 6) (H.key 7) (H.key 8)) = [ke1] := k_join
  rw [if_pos jOk, if_pos jMe, if_pos ⟨jOk, jMe⟩]
  generalize nilB (partS (kS H) 3 [99] [] (H.key 6) (H.key 7) (H.key 8)).dv = z
  simp only [go_sem, Heap.key_ext, joinS, Sh.enc]
  refine CL.of (f21_ok (s := kS H) (kS_ok _) (by show 0 < 100000; decide) (by show 1 < 100000; decide) [99] 2 2) ?_
  rintro _ _ ⟨rfl, rfl⟩
  unfold splitV splitB
  rw [if_neg k_noSplit, if_neg fun h => k_noSplit h.1]
  simp only [go_sem, zeroS]
  refine CL.of (f23_ok (s := partS (kS H) 3 [99] [] (H.key 6) (H.key 7) (H.key 8)) (t := partS (kS H) 2 [] [99] (H.key 3) (H.key 4) (H.key 5)) (hk1 3 [99] [] rfl rfl rfl) (hk1 2 [] [99] rfl rfl rfl) (by show 0 < _; decide) (by show 0 < _; decide) (by show (withinL [99] [] (kS H).cells).length < _; rw [hc2]; decide) (by show (withinL [] [99] (kS H).cells).length < _; rw [hc1]; decide) (by show (evW [99] [] (kS H).evs).length < _; rw [he2]; decide) (by show (evW [] [99] (kS H).evs).length < _; rw [he1]; decide) 4) ?_
  rintro _ _ ⟨rfl, rfl⟩
  have jOk2 : okJoin (partS (kS H) 3 [99] [] (H.key 6) (H.key 7) (H.key 8)) (partS (kS H) 2 [] [99] (H.key 3) (H.key 4) (H.key 5)) 4 := ⟨jOk.2.1, jOk.1, jOk.2.2⟩
  have jNo : ¬ meets (partS (kS H) 3 [99] [] (H.key 6) (H.key 7) (H.key 8)) (partS (kS H) 2 [] [99] (H.key 3) (H.key 4) (H.key 5)) := fun h => h.2.2.1 rfl
  unfold joinV joinB
  rw [if_pos jOk2, if_neg jNo, if_neg fun h => jNo h.2]
  have hi1 : ((withinL [] [99] (kS H).cells).length : Int) = 1 := by rw [hc1]; rfl
  have hi2 : ((evW [] [99] (kS H).evs).length : Int) = 1 := by rw [he1]; rfl
  have hi3 : ((evW [99] [] (kS H).evs).length : Int) = 0 := by rw [he2]; rfl
  have hi4 : (((partS (kS H) 2 [] [99] (H.key 3) (H.key 4) (H.key 5)).cells.length + (partS (kS H) 3 [99] [] (H.key 6) (H.key 7) (H.key 8)).cells.length : Nat) : Int) = 2 := by
    show (((withinL [] [99] (kS H).cells).length + (withinL [99] [] (kS H).cells).length : Nat) : Int) = 2
    rw [hc1, hc2]; rfl
  simp only [go_sem, zeroS, hi1, hi2, hi3, hi4]
  refine CL.bool (f22_ok (some 10) 10) (fun _ => ?_) (fun g => absurd rfl g)
  simp only [go_sem]
  refine CL.bool (f22_ok (some 22) 22) (fun _ => ?_) (fun g => absurd rfl g)
  simp only [go_sem]
  exact ⟨_, rfl⟩
end Go.Proofs
/- cut: CutJoins, walked. -/

set_option linter.all false
set_option linter.all false
set_option maxRecDepth 100000
namespace Go.Proofs
open Go Go.Ev
variable {H : Heap}

theorem sameD_self (l : List Dn) : sameD l l := ⟨rfl, fun i c d h1 h2 => by rw [h1] at h2; cases h2; exact ⟨rfl, rfl, rfl, rfl, rfl, rfl⟩⟩
theorem join_ok {s t : Sh} (h : allOk H s.done) (h2 : allOk H t.done) (hc : s.cells.length + t.cells.length < 4294967296) (he : s.evs.length + t.evs.length < 4294967296) (hd : (joinP s.done t.done).length < 4294967296) {z : Bool} {id : Int} {L : List Blk} {i j k : Nat} (hi : L[i]? = some (outB 5 ((joinCells s t).map Cell.enc))) (hj : L[j]? = some (outB 4 ((joinEvs s t).map Evn.enc))) (hk : L[k]? = some (zB z 6 ((joinP s.done t.done).map Dn.enc))) :
    (joinS z s t id (H.key i) (H.key j) (H.key k)).ok (H.ext L) where
  c := arr_outV hi (by rw [List.length_map]; exact keepC_len _ _)
  e := arr_outV hj (List.length_map ..)
  d := arr_zV hk (List.length_map ..)
  dok := (joinP_ok h h2).ext L
  cl := by show (joinCells s t).length < _; rw [joinCells, keepC_len, List.length_append]; exact hc
  el := by show (joinEvs s t).length < _; rw [joinEvs, List.length_drop, List.length_append]; omega
  dl := hd
/-- a shard of whatever length -/
structure Sh.okw (H : Heap) (s : Sh) : Prop where
  c : Arr H 5 s.cv (s.cells.map Cell.enc)
  e : Arr H 4 s.ev (s.evs.map Evn.enc)
  d : Arr H 6 s.dv (s.done.map Dn.enc)
  dok : allOk H s.done
theorem Sh.okw.ext {s : Sh} (h : s.okw H) (L : List Blk) : s.okw (H.ext L) := ⟨h.c.ext L, h.e.ext L, h.d.ext L, h.dok.ext L⟩
def fewS (s : Sh) : Prop := s.cells.length ≤ 30 ∧ s.evs.length ≤ 40 ∧ s.done.length ≤ 6
instance (s : Sh) : Decidable (fewS s) := inferInstanceAs (Decidable (_ ∧ _))
theorem Sh.okw.ok {s : Sh} (h : s.okw H) (hf : fewS s) : s.ok H := ⟨h.c, h.e, h.d, h.dok, by have := hf.1; omega, by have := hf.2.1; omega, by have := hf.2.2; omega⟩
theorem f19_few {s : Sh} (h : s.okw H) : FnOk Tryd.prog 19 [.agg s.enc] H fun r G => r = .bool (decide (fewS s)) ∧ G = H := by
  refine FnOk.drop (R := fun r => r = .bool (decide (fewS s))) ?_ (by rintro v rfl ρ; rw [AV.ren])
  refine FnOk.of_WW Tryd.func19 rfl C19ok R19ok E0 good_E0 ?_
  have elen := fun G => h.e.len G
  simp only [List.length_map] at elen
  have clen := fun G => h.c.len G
  simp only [List.length_map] at clen
  have dlen := fun G => h.d.len G
  simp only [List.length_map] at dlen
  simp only [go_sem, C19, Sh.enc, elen, clen, dlen]
  refine ⟨fun g1 => ⟨fun g2 => ⟨fun g3 => ⟨bool_t ⟨by omega, by omega, by omega⟩, _, rfl⟩, fun g3 => ⟨bool_f fun g => absurd g.2.2 (by omega), _, rfl⟩⟩, fun g2 => ⟨bool_f fun g => absurd g.2.1 (by omega), _, rfl⟩⟩, fun g1 => ⟨bool_f fun g => absurd g.1 (by omega), _, rfl⟩⟩
theorem f6_ok {s : Sh} (hw : s.okw H) (k : List Nat) : FnOk Tryd.prog 6 [.agg s.enc, .str k] H fun r G => r = .bool true ∧ G = H := by
  refine FnOk.assume fun hok => ?_
  refine FnOk.drop (R := fun r => r = .bool true) ?_ (by rintro v rfl ρ; rw [AV.ren])
  refine FnOk.of_WW Tryd.func6 rfl C6ok R6ok E0 good_E0 ?_
  simp only [go_sem, C6, Sh.enc]
  refine CL.of f18_ok ?_
  rintro _ G' ⟨rfl, hG⟩
  rw [hG]
  clear hG
  simp only [go_sem]
  refine CL.bool (f19_few (hw.ext _)) (fun g1 => ?_) (fun g1 => ?_)
  rotate_left
  · simp only [go_sem]
    exact ⟨_, rfl⟩
  have h := hw.ok g1
  have g1 : s.cells.length ≤ 30 ∧ s.evs.length ≤ 40 ∧ s.done.length ≤ 6 := g1
  simp only [go_sem]
  refine ⟨fun _ => ⟨_, rfl⟩, fun g2 => ?_⟩
  refine CL.bool (f20_ok (h.ext _)) (fun g3 => ?_) (fun g3 => ?_)
  rotate_left
  · simp only [go_sem]
    exact ⟨_, rfl⟩
  simp only [go_sem]
  refine ⟨fun _ => ⟨_, rfl⟩, fun g4 => ?_⟩
  refine CL.of (f21_ok (h.ext _) (by omega) (by omega) k 7 8) ?_
  rintro _ _ ⟨rfl, rfl⟩
  have hoks : okSplit s 7 8 := ⟨⟨g3, by rw [g4]; decide⟩, by decide, by decide, by decide⟩
  unfold splitV splitB
  rw [if_pos hoks]
  by_cases hin : inSplit s k
  rotate_left
  · rw [if_neg hin, if_neg fun h => hin h.2]
    simp only [go_sem, zeroS]
    refine CL.bool (f22_ok (some 22) 22) (fun _ => ?_) (fun g => absurd rfl g)
    simp only [go_sem]
    exact ⟨_, rfl⟩
  rw [if_pos hin, if_pos ⟨hoks, hin⟩]
  have hpc : (withinL s.fr k s.cells).length + (withinL k s.to s.cells).length = s.cells.length := by rw [← List.length_append, cells_all g3 hin]
  have hpe := evs_len g3 hin
  simp only [go_sem, Heap.key_ext, partS, partB, Sh.enc]
  have hw1 : IntKind.i64.wrap (((withinL s.fr k s.cells).length : Int) + ((withinL k s.to s.cells).length : Int)) = s.cells.length := by rw [wrap_i64 (by omega) (by omega)]; omega
  have hw2 : IntKind.i64.wrap (((evW s.fr k s.evs).length : Int) + ((evW k s.to s.evs).length : Int)) = s.evs.length := by rw [wrap_i64 (by omega) (by omega)]; omega
  have clen := fun G => h.c.len G
  have elen := fun G => h.e.len G
  simp only [List.length_map] at clen elen
  have hP := fun {L : List Blk} => part_ok (L := L) (a := 1) (b := 2) (c := 3) h 7 s.fr k
  have hQ := fun {L : List Blk} => part_ok (L := L) (a := 4) (b := 5) (c := 6) h 8 k s.to
  have sP : isSh (partS s 7 s.fr k (H.key 1) (H.key 2) (H.key 3)) := part_sh g3 hin.lo (by decide) _ _ _
  have sQ : isSh (partS s 8 k s.to (H.key 4) (H.key 5) (H.key 6)) := part_sh g3 hin.hi (by decide) _ _ _
  refine CL.bool (f20_ok (s := (partS s 7 s.fr k (H.key 1) (H.key 2) (H.key 3))) (hP rfl rfl rfl)) (fun _ => ?_) (fun g => absurd sP g)
  simp only [go_sem]
  refine CL.bool (f20_ok (s := (partS s 8 k s.to (H.key 4) (H.key 5) (H.key 6))) (hQ rfl rfl rfl)) (fun _ => ?_) (fun g => absurd sQ g)
  simp only [go_sem, hw1, hw2, clen, elen]
  refine CL.of (f23_ok (s := (partS s 7 s.fr k (H.key 1) (H.key 2) (H.key 3))) (t := (partS s 8 k s.to (H.key 4) (H.key 5) (H.key 6))) (hP rfl rfl rfl) (hQ rfl rfl rfl) (by show s.done.length < _; omega) (by show s.done.length < _; omega) (by show (withinL s.fr k s.cells).length < _; omega) (by show (withinL k s.to s.cells).length < _; omega) (by show (evW s.fr k s.evs).length < _; omega) (by show (evW k s.to s.evs).length < _; omega) 9) ?_
  rintro _ _ ⟨rfl, rfl⟩
  have jOk : okJoin (partS s 7 s.fr k (H.key 1) (H.key 2) (H.key 3)) (partS s 8 k s.to (H.key 4) (H.key 5) (H.key 6)) 9 := parts_join g3 hin (by decide) (by decide) (by decide)
  have jMe : meets (partS s 7 s.fr k (H.key 1) (H.key 2) (H.key 3)) (partS s 8 k s.to (H.key 4) (H.key 5) (H.key 6)) := parts_meet g3 hin
  unfold joinV joinB
  rw [if_pos jOk, if_pos jMe, if_pos ⟨jOk, jMe⟩]
  generalize nilB ((partS s 8 k s.to (H.key 4) (H.key 5) (H.key 6))).dv = z
  have hJd : joinP s.done s.done = s.done := joinP_parts g3
  have hJc : joinCells (partS s 7 s.fr k (H.key 1) (H.key 2) (H.key 3)) (partS s 8 k s.to (H.key 4) (H.key 5) (H.key 6)) = s.cells := joinCells_parts g3 hin
  have hJe : (joinEvs (partS s 7 s.fr k (H.key 1) (H.key 2) (H.key 3)) (partS s 8 k s.to (H.key 4) (H.key 5) (H.key 6))).length = s.evs.length := by rw [joinEvs_parts g3 hin, List.length_append]; exact hpe
  have sJ : isSh (joinS z (partS s 7 s.fr k (H.key 1) (H.key 2) (H.key 3)) (partS s 8 k s.to (H.key 4) (H.key 5) (H.key 6)) 9 (H.key 9) (H.key 10) (H.key 11)) := joined_sh g3 hin (by decide) _ _ _ _
  have hJ := fun {L : List Blk} => join_ok (s := (partS s 7 s.fr k (H.key 1) (H.key 2) (H.key 3))) (t := (partS s 8 k s.to (H.key 4) (H.key 5) (H.key 6))) (z := z) (id := 9) (L := L) (i := 9) (j := 10) (k := 11) h.dok h.dok (by show (withinL s.fr k s.cells).length + (withinL k s.to s.cells).length < _; omega) (by show (evW s.fr k s.evs).length + (evW k s.to s.evs).length < _; omega) (by show (joinP s.done s.done).length < _; rw [hJd]; omega)
  simp only [go_sem, Heap.key_ext, Sh.enc]
  refine CL.bool (f20_ok (s := joinS z (partS s 7 s.fr k (H.key 1) (H.key 2) (H.key 3)) (partS s 8 k s.to (H.key 4) (H.key 5) (H.key 6)) 9 (H.key 9) (H.key 10) (H.key 11)) (hJ rfl rfl rfl)) (fun _ => ?_) (fun g => absurd sJ g)
  simp only [go_sem]
  have hh : isHist (joinEvs (partS s 7 s.fr k (H.key 1) (H.key 2) (H.key 3)) (partS s 8 k s.to (H.key 4) (H.key 5) (H.key 6))) s.cells := by rw [joinEvs_parts g3 hin]; exact hist_join g3 hin
  refine CL.bool (f24_ok (by exact Sh.ok.c (s := joinS z (partS s 7 s.fr k (H.key 1) (H.key 2) (H.key 3)) (partS s 8 k s.to (H.key 4) (H.key 5) (H.key 6)) 9 (H.key 9) (H.key 10) (H.key 11)) (hJ rfl rfl rfl)) (h.c.ext _) (by show (joinCells (partS s 7 s.fr k (H.key 1) (H.key 2) (H.key 3)) (partS s 8 k s.to (H.key 4) (H.key 5) (H.key 6))).length < _; rw [hJc]; exact h.cl) h.cl) (fun _ => ?_) (fun g => absurd hJc g)
  simp only [go_sem]
  refine CL.bool (f25_ok (by exact Sh.ok.d (s := joinS z (partS s 7 s.fr k (H.key 1) (H.key 2) (H.key 3)) (partS s 8 k s.to (H.key 4) (H.key 5) (H.key 6)) 9 (H.key 9) (H.key 10) (H.key 11)) (hJ rfl rfl rfl)) (h.d.ext _) (by exact Sh.ok.dok (s := joinS z (partS s 7 s.fr k (H.key 1) (H.key 2) (H.key 3)) (partS s 8 k s.to (H.key 4) (H.key 5) (H.key 6)) 9 (H.key 9) (H.key 10) (H.key 11)) (hJ rfl rfl rfl)) (h.dok.ext _) (by show (joinP s.done s.done).length < _; rw [hJd]; omega)) (fun _ => ?_) (fun g => absurd (by show sameD (joinP s.done s.done) s.done; rw [hJd]; exact sameD_self _) g)
  simp only [go_sem]
  refine CL.bool (f25_ok (by exact Sh.ok.d (s := (partS s 7 s.fr k (H.key 1) (H.key 2) (H.key 3))) (hP rfl rfl rfl)) (h.d.ext _) (h.dok.ext _) (h.dok.ext _) (by omega)) (fun _ => ?_) (fun g => absurd (sameD_self s.done) g)
  have pf : ((partS s 7 s.fr k (H.key 1) (H.key 2) (H.key 3))).fr = s.fr := rfl
  have pt : ((partS s 8 k s.to (H.key 4) (H.key 5) (H.key 6))).to = s.to := rfl
  simp only [go_sem, joinS, hJe, elen, pf, pt]
  refine CL.bool (f26_ok (l := joinEvs (partS s 7 s.fr k (H.key 1) (H.key 2) (H.key 3)) (partS s 8 k s.to (H.key 4) (H.key 5) (H.key 6))) (by exact arr_outV (i := 10) rfl (by rw [List.length_map]; exact hJe)) (h.c.ext _) (by show (joinEvs (partS s 7 s.fr k (H.key 1) (H.key 2) (H.key 3)) (partS s 8 k s.to (H.key 4) (H.key 5) (H.key 6))).length < _; rw [hJe]; exact h.el) h.cl) (fun _ => ?_) (fun g => absurd hh g)
  simp only [go_sem]
  exact ⟨_, rfl⟩
end Go.Proofs
