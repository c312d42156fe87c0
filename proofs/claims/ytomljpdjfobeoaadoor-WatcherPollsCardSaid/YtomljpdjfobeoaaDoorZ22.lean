/- the law of polls: walked. -/
import Derived.Test.YtomljpdjfobeoaaDoorZ21
set_option linter.all false
set_option linter.all false
set_option maxRecDepth 100000
namespace Go.Proofs
open Go Go.Ev
variable {H : Heap}

theorem partsP_app (f t : List Nat) (a b : List Pl) : partsP f t (a ++ b) = partsP f t a ++ partsP f t b := by
  unfold partsP
  rw [List.filter_append, List.map_append]
theorem f4_ok {f t at_ : List Nat} {v : AV} {seen : List Sn} (hA : Arr H 2 v (seen.map Sn.enc)) {b : Nat} (hb : b ≤ 255) (cr : Int) : FnOk Tryd.prog 4 [.agg [.str f, .str t], v, .str at_, .int .u8 b, .int .i64 cr] H fun r G => r = .bool true ∧ G = H := by
  refine FnOk.assume fun hok => ?_
  refine FnOk.drop (R := fun r => r = .bool true) ?_ (by rintro v rfl ρ; rw [AV.ren])
  refine FnOk.of_WW Tryd.func4 rfl C4ok R4ok EM good_EM ?_
  have hlen := fun G => hA.len G
  simp only [List.length_map] at hlen
  simp only [go_sem, C4]
  refine CL.of f8_ok ?_
  rintro _ G' ⟨rfl, hG⟩
  rw [hG]
  clear hG
  obtain ⟨H1, hH1⟩ : ∃ H1, H1 = H.ext [.row true 2 [[.str f, .str t]]] := ⟨_, rfl⟩
  have hok1 : H1.ok := by rw [hH1]; exact Heap.ok_ext hok _
  have hbox : H1.get (H.key 0) = some (.row true 2 [[.str f, .str t]]) := by rw [hH1]; exact get_first [] []
  have hbox1 : ∀ L, (H1.ext L).get (H.key 0) = some (.row true 2 [[.str f, .str t]]) := Heap.get_ext_old hok1 hbox
  have hA1 : Arr H1 2 v (seen.map Sn.enc) := by rw [hH1]; exact hA.ext _
  have hE1 : ∀ L, ∃ l, H1.ext L = H.ext l := fun L => ⟨_, by rw [hH1, Heap.ext_append]⟩
  rw [← hH1]
  refine WW.nil ?_
  by_cases hsl : seen.length ≤ 40
  rotate_left
  · have z := eq_true (show (40 : Int) < (seen.length : Int) by omega)
    simp only [go_sem, hlen, z]
    exact hE1 _
  have z1 := eq_false (show ¬ (40 : Int) < (seen.length : Int) by omega)
  simp only [go_sem, hlen, z1]
  refine ⟨fun _ => hE1 _, fun _ => ⟨fun _ => hE1 _, fun _ => ?_⟩⟩
  have h9 : FnOk Tryd.prog 9 [.int .i64 1] (H1.ext []) fun r G => r = .ptr (H1.key 0) 0 ∧ G = H1.ext [.row true 2 [[.int .i64 (IntKind.i64.wrap (200 + 1)), .nils]]] := by rw [Heap.ext_nil]; exact f9_ok 1
  refine CL.of h9 ?_
  rintro _ G' ⟨rfl, hG⟩
  rw [hG]
  clear hG h9
  have hnew := isW.new hok1 (IntKind.i64.wrap (200 + 1))
  simp only [go_sem, hbox1]
  refine CL.of (f10_ok hnew.1 (hA1.ext _) (by omega) f t) ?_
  intro r G1 hr
  by_cases hfit : fitsW f t seen
  rotate_left
  · rw [if_neg hfit] at hr
    obtain ⟨rfl, hW1, hN1⟩ := hr
    obtain ⟨LF, hLF⟩ := (hN1.own _ hnew.2).base
    rw [hLF]
    simp only [go_sem]
    exact hE1 _
  rw [if_pos hfit, if_pos (by decide)] at hr
  obtain ⟨rfl, s1, sv1, hW1, hN1⟩ := hr
  obtain ⟨L1, hL1⟩ := (hN1.own _ hnew.2).base
  obtain ⟨a, ha⟩ : ∃ a : Nat, a = b % 3 := ⟨_, rfl⟩
  obtain ⟨c, hc⟩ : ∃ c : Nat, c = b / 3 % 3 := ⟨_, rfl⟩
  have e1 : IntKind.i64.wrap ((b : Int).tmod 3) = (a : Int) := by
    rw [Int.tmod_eq_emod_of_nonneg (by omega), wrap_i64 (by omega) (by omega)]; omega
  have e2 : IntKind.u8.wrap ((b : Int).tdiv 3) = ((b / 3 : Nat) : Int) := by
    rw [Int.tdiv_eq_ediv_of_nonneg (by omega), show (b : Int) / 3 = ((b / 3 : Nat) : Int) by omega]
    exact wrap_u8 (by omega)
  have e3 : IntKind.i64.wrap (((b / 3 : Nat) : Int).tmod 3) = (c : Int) := by
    rw [Int.tmod_eq_emod_of_nonneg (by omega), wrap_i64 (by omega) (by omega)]; omega
  refine WW.nil ?_
  simp only [go_sem, e1, e2, e3]
  obtain ⟨ps, hps⟩ : ∃ ps : List Pl, ps = [⟨1, 1, a, [], at_⟩, ⟨2, 1, c, at_, []⟩] := ⟨_, rfl⟩
  refine CL.of (f13_ok (hW1.ext _) (i := 0) rfl rfl cr (ps := ps) (by rw [hps]; exact arr_row (i := 2) rfl rfl) (by rw [hps]; exact (show 2 ≤ 1000 by decide))) ?_
  rintro _ G3 ⟨ov3, L3, xs, rfl, hG3, hA3, hx3, hS3⟩
  have hok3 : G3.ok := by rw [hG3]; exact Heap.ok_ext (Heap.ok_ext hW1.ok _) _
  have hv3 : Arr G3 2 v (seen.map Sn.enc) := by rw [hG3, hL1]; exact ((hA1.ext _).ext _).ext _
  have hbox3 : G3.get (H.key 0) = some (.row true 2 [[.str f, .str t]]) := by rw [hG3, hL1, Heap.ext_append, Heap.ext_append]; exact hbox1 _
  have hlo : G3.get (G1.key 0) = some (.row true 2 [[.str [], .str at_]]) := by rw [hG3, Heap.ext_append, Heap.get_ext_key _ _ _ (by exact Nat.zero_lt_succ _)]; rfl
  have hhi : G3.get (G1.key 1) = some (.row true 2 [[.str at_, .str []]]) := by rw [hG3, Heap.ext_append, Heap.get_ext_key _ _ _ (by exact Nat.succ_lt_succ (Nat.zero_lt_succ _))]; rfl
  have hE3 : ∀ L, ∃ l, G3.ext L = H.ext l := fun L => by
    rw [hG3, hL1, Heap.ext_append, Heap.ext_append, Heap.ext_append]; exact hE1 _
  clear hG3
  have hx3 : xs.map Prod.fst = partsP f t ps := hx3
  have hS3 : ∀ x ∈ xs, Arr G3 2 x.2 ((inT x.1.fr x.1.to seen).map Sn.enc) := hS3
  have hA3 : Arr G3 24 ov3 (xs.map (pollE (IntKind.i64.wrap (200 + 1)) 0 (min (max cr 0) 8) 0)) := hA3
  have hxl : xs.length = (partsP f t ps).length := by rw [← hx3, List.length_map]
  have hpl : ps.length = 2 := by rw [hps]; rfl
  have hx2 : xs.length ≤ 2 := by
    have := partsP_len f t ps 2
    rw [List.take_of_length_le (by omega)] at this; omega
  have hnext : ∀ (j : Nat) (p : Pl), ps[j]? = some p → okMeet p.fr p.to f t → ∃ y, xs[(partsP f t (ps.take j)).length]? = some y ∧ y.1 = partP f t p := fun j p hp g => by
    have h1 : partsP f t ps = partsP f t (ps.take (j + 1)) ++ partsP f t (ps.drop (j + 1)) := by
      rw [← partsP_app, List.take_append_drop]
    rw [(partsP_succ hp).1 g, ← hx3] at h1
    have h2 : (xs.map Prod.fst)[(partsP f t (ps.take j)).length]? = some (partP f t p) := by
      rw [h1, List.append_assoc, List.getElem?_append_right (Nat.le_refl _), Nat.sub_self]; rfl
    rw [List.getElem?_map] at h2
    cases h3 : xs[(partsP f t (ps.take j)).length]? with
    | none => rw [h3] at h2; cases h2
    | some y => rw [h3] at h2; exact ⟨y, rfl, by simpa using h2⟩
  have hcr : max 0 (min cr 8) = min (max cr 0) 8 := by omega
  have hl3 := fun G => hA3.len G
  simp only [List.length_map] at hl3
  have z2 := eq_false (show ¬ (2 : Int) < (xs.length : Int) by omega)
  refine WW.nil ?_
  simp only [go_sem, hl3, z2]
  refine LL.sth good_EM (fun j : Nat => 2 - j) (fun j G5 => j ≤ 2 ∧ ∃ L, G5 = G3.ext L)
    (fun j => [((.o .z), v), ((.i (.o .z)), .int .i64 cr), ((.o (.i .z)), .ptr (H.key 0) 0), ((.i (.o (.i .z))), .int .i64 0), ((.i (.i (.i .z))), .int .i64 a), ((.o (.o (.o (.o .z)))), .int .i64 c), ((.i (.o (.o (.o .z)))), .ptr (G1.key 0) 0), ((.o (.i (.o (.o .z)))), .ptr (G1.key 1) 0), ((.i (.i (.o (.o .z)))), ov3), ((.i (.o (.i (.o .z)))), .int .i64 (partsP f t (ps.take j)).length), ((.o (.i (.i (.o .z)))), .int .i64 j)]) ?_ 0 ?_ ?_
  rotate_left
  · exact ⟨Nat.zero_le _, [], by rw [Heap.ext_nil]⟩
  · refine Slots.all ?_
    simp only [go_sem]
    rfl
  rintro j G5 ⟨hj, L5, hL5⟩
  have hok5 : G5.ok := by rw [hL5]; exact Heap.ok_ext hok3 _
  have hbox5 : ∀ L, (G5.ext L).get (H.key 0) = some (.row true 2 [[.str f, .str t]]) := fun L => by rw [hL5, Heap.ext_append]; exact Heap.get_ext_old hok3 hbox3 _
  have hlo5 : ∀ L, (G5.ext L).get (G1.key 0) = some (.row true 2 [[.str [], .str at_]]) := fun L => by rw [hL5, Heap.ext_append]; exact Heap.get_ext_old hok3 hlo _
  have hhi5 : ∀ L, (G5.ext L).get (G1.key 1) = some (.row true 2 [[.str at_, .str []]]) := fun L => by rw [hL5, Heap.ext_append]; exact Heap.get_ext_old hok3 hhi _
  have hA5 : Arr G5 24 ov3 (xs.map (pollE (IntKind.i64.wrap (200 + 1)) 0 (min (max cr 0) 8) 0)) := by rw [hL5]; exact hA3.ext _
  have hv5 : Arr G5 2 v (seen.map Sn.enc) := by rw [hL5]; exact hv3.ext _
  have i16 := fun f t L => e16 hv5 (by omega) f t L
  have h012 : j = 0 ∨ j = 1 ∨ j = 2 := by omega
  rcases h012 with rfl | rfl | rfl
  · have hp : ps[0]? = some (⟨1, 1, a, [], at_⟩ : Pl) := by rw [hps]; rfl
    have hsucc := partsP_succ (f := f) (t := t) hp
    obtain ⟨i, hi⟩ : ∃ i, i = (partsP f t (ps.take 0)).length := ⟨_, rfl⟩
    rw [← hi]
    have hi2 : i ≤ 2 := by have := partsP_len f t ps 0; omega
    have hwi : IntKind.i64.wrap ((i : Int) + 1) = ((i + 1 : Nat) : Int) := wrap_succ (by omega)
    simp only [go_sem, C4L0, hlo5, hhi5, hbox5]
    refine CL.of (f14_ok [] at_ f t) ?_
    rintro _ _ ⟨rfl, rfl⟩
    by_cases g : okMeet [] at_ f t
    · obtain ⟨y, hy1, hy2⟩ := hnext 0 (⟨1, 1, a, [], at_⟩ : Pl) hp g
      rw [← hi] at hy1
      have hsucc := congrArg List.length (hsucc.1 g)
      rw [List.length_append, ← hi] at hsucc
      have hyl := (List.getElem?_eq_some_iff.1 hy1).1
      obtain ⟨yp, yv⟩ := y
      obtain rfl : yp = (⟨1, 1, a, maxS [] f, lowS at_ t⟩ : Pl) := hy2
      have hS5 : Arr G5 2 yv ((inT (maxS [] f) (lowS at_ t) seen).map Sn.enc) := by rw [hL5]; exact (hS3 _ (List.mem_of_getElem? hy1)).ext L5
      obtain ⟨k3, r3, ex3, cap3, wr3, rows3, hv3, -, hgo3, hrow3⟩ := hA5.at hok5 (j := i) (by rw [List.length_map]; exact hyl)
      rw [List.getElem_map, (List.getElem?_eq_some_iff.1 hy1).2] at hrow3
      rw [List.length_map] at hv3
      have hsi : i + 1 ≤ xs.length := hyl
      have z5 := eq_false (show ¬ (xs.length : Int) ≤ (i : Int) by omega)
      have i15 : ∀ b1 b2, EM 15 [yv, outV (G5.key 2) 2 (inT (maxS [] f) (lowS at_ t) seen).length] (G5.ext [b1, b2, outB 2 ((inT (maxS [] f) (lowS at_ t) seen).map Sn.enc)]) = .ok (.bool true) (G5.ext [b1, b2, outB 2 ((inT (maxS [] f) (lowS at_ t) seen).map Sn.enc)]) := fun b1 b2 => by
        rw [e15 (hS5.ext _) (arr_outV (i := 2) rfl (List.length_map ..)) (by have := inT_len (maxS [] f) (lowS at_ t) seen seen.length; rw [List.take_length] at this; omega), decide_eq_true rfl]
      unfold meetV
      rw [if_pos g]
      simp only [go_sem, hv3, hgo3, hrow3, hsi, z5, pollE, hcr, i16, i15, hwi]
      refine ⟨0 + 1, by decide, ⟨by decide, _, by rw [hL5, Heap.ext_append]⟩, ?_⟩
      refine Slots.all ?_
      simp only [go_sem, hsucc]
      rw [show IntKind.i64.wrap ((0 : Int) + 1) = 1 from wrap_i64 (by decide) (by decide)]
    · have hsucc := congrArg List.length (hsucc.2 g)
      rw [← hi] at hsucc
      unfold meetV
      rw [if_neg g]
      simp only [go_sem]
      refine ⟨0 + 1, by decide, ⟨by decide, _, by rw [hL5, Heap.ext_append]⟩, ?_⟩
      refine Slots.all ?_
      simp only [go_sem, hsucc]
      rw [show IntKind.i64.wrap ((0 : Int) + 1) = 1 from wrap_i64 (by decide) (by decide)]
  · have hp : ps[1]? = some (⟨2, 1, c, at_, []⟩ : Pl) := by rw [hps]; rfl
    have hsucc := partsP_succ (f := f) (t := t) hp
    obtain ⟨i, hi⟩ : ∃ i, i = (partsP f t (ps.take 1)).length := ⟨_, rfl⟩
    rw [← hi]
    have hi2 : i ≤ 2 := by have := partsP_len f t ps 1; omega
    have hwi : IntKind.i64.wrap ((i : Int) + 1) = ((i + 1 : Nat) : Int) := wrap_succ (by omega)
    simp only [go_sem, C4L0, hlo5, hhi5, hbox5]
    refine CL.of (f14_ok at_ [] f t) ?_
    rintro _ _ ⟨rfl, rfl⟩
    by_cases g : okMeet at_ [] f t
    · obtain ⟨y, hy1, hy2⟩ := hnext 1 (⟨2, 1, c, at_, []⟩ : Pl) hp g
      rw [← hi] at hy1
      have hsucc := congrArg List.length (hsucc.1 g)
      rw [List.length_append, ← hi] at hsucc
      have hyl := (List.getElem?_eq_some_iff.1 hy1).1
      obtain ⟨yp, yv⟩ := y
      obtain rfl : yp = (⟨2, 1, c, maxS at_ f, lowS [] t⟩ : Pl) := hy2
      have hS5 : Arr G5 2 yv ((inT (maxS at_ f) (lowS [] t) seen).map Sn.enc) := by rw [hL5]; exact (hS3 _ (List.mem_of_getElem? hy1)).ext L5
      obtain ⟨k3, r3, ex3, cap3, wr3, rows3, hv3, -, hgo3, hrow3⟩ := hA5.at hok5 (j := i) (by rw [List.length_map]; exact hyl)
      rw [List.getElem_map, (List.getElem?_eq_some_iff.1 hy1).2] at hrow3
      rw [List.length_map] at hv3
      have hsi : i + 1 ≤ xs.length := hyl
      have z5 := eq_false (show ¬ (xs.length : Int) ≤ (i : Int) by omega)
      have i15 : ∀ b1 b2, EM 15 [yv, outV (G5.key 2) 2 (inT (maxS at_ f) (lowS [] t) seen).length] (G5.ext [b1, b2, outB 2 ((inT (maxS at_ f) (lowS [] t) seen).map Sn.enc)]) = .ok (.bool true) (G5.ext [b1, b2, outB 2 ((inT (maxS at_ f) (lowS [] t) seen).map Sn.enc)]) := fun b1 b2 => by
        rw [e15 (hS5.ext _) (arr_outV (i := 2) rfl (List.length_map ..)) (by have := inT_len (maxS at_ f) (lowS [] t) seen seen.length; rw [List.take_length] at this; omega), decide_eq_true rfl]
      unfold meetV
      rw [if_pos g]
      simp only [go_sem, hv3, hgo3, hrow3, hsi, z5, pollE, hcr, i16, i15, hwi]
      refine ⟨1 + 1, by decide, ⟨by decide, _, by rw [hL5, Heap.ext_append]⟩, ?_⟩
      refine Slots.all ?_
      simp only [go_sem, hsucc]
      rw [show IntKind.i64.wrap ((1 : Int) + 1) = 2 from wrap_i64 (by decide) (by decide)]
    · have hsucc := congrArg List.length (hsucc.2 g)
      rw [← hi] at hsucc
      unfold meetV
      rw [if_neg g]
      simp only [go_sem]
      refine ⟨1 + 1, by decide, ⟨by decide, _, by rw [hL5, Heap.ext_append]⟩, ?_⟩
      refine Slots.all ?_
      simp only [go_sem, hsucc]
      rw [show IntKind.i64.wrap ((1 : Int) + 1) = 2 from wrap_i64 (by decide) (by decide)]
  · simp only [go_sem, C4L0, hl3]
    rw [List.take_of_length_le (by omega), hxl]
    exact ⟨fun _ => by rw [hL5, Heap.ext_append]; exact hE3 _, fun g => absurd rfl g⟩
end Go.Proofs
