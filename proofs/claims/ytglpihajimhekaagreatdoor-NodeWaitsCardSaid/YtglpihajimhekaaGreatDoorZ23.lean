/- NodeWaits: walked. -/
import Derived.Test.YtglpihajimhekaaGreatDoorZ22
set_option linter.all false
set_option maxRecDepth 100000
namespace Go.Proofs
open Go Go.Ev
variable {H : Heap}
theorem f8_let {s id : Nat} (hs : s < 3) (hi : id < 1000) (kd : Int) (key to val : List Nat) (n : Int) (wv : AV) (hw : ∀ top σ, AV.ren (rho H top σ) wv = wv) : FnOk Tryz.prog 8 [.int .i64 s, .int .i64 id, .agg (opL kd key to val n wv)] H fun r G => r = .agg (letL s id (opL kd key to val n wv)) ∧ G = H := by
  refine FnOk.dropOld (R := fun r => r = .agg (letL s id (opL kd key to val n wv))) ?_ (by rintro v rfl top σ; simp only [letL, opL, List.cons_append, List.nil_append, AV.ren, AV.rens, hw])
  refine FnOk.of_WW Tryz.func8 rfl C8ok R8ok E0 good_E0 ?_
  have hz : IntKind.i64.wrap (200 + (s : Int)) = 200 + (s : Int) := by rw [wrap_i64 (by omega) (by omega)]
  simp only [go_sem, C8, letL, opL, List.cons_append, List.nil_append, hz]
  first | done | exact ⟨_, rfl⟩ | exact ⟨rfl, _, rfl⟩ | trace_state
theorem f17_put (a b : List Nat) : FnOk Tryz.prog 17 [.str a, .str b] H fun r G => r = .agg (opL 2 a [] b 0 .nils) ∧ G = H := by
  refine FnOk.drop (R := fun r => r = .agg (opL 2 a [] b 0 .nils)) ?_ (by rintro v rfl ρ; simp only [opL, AV.ren, AV.rens])
  refine FnOk.of_WW Tryz.func17 rfl C17ok R17ok E0 good_E0 ?_
  simp only [go_sem, C17, opL]
  first | done | exact ⟨_, rfl⟩ | exact ⟨rfl, _, rfl⟩ | trace_state
theorem FnOk.andLe {P : Program} {f : FuncId} {args : List AV} {Q : AV → Heap → Prop} (h : FnOk P f args H Q) : FnOk P f args H fun v G => Q v G ∧ H.nx.toNat ≤ G.nx.toNat :=
  fun φ w args' ha hw => (h φ w args' ha hw).mono fun e u ⟨v, G, hq, ψ, v', e1, hv, hW, hE⟩ => ⟨v, G, ⟨hq, hE.nx⟩, ψ, v', e1, hv, hW, hE⟩
theorem arr_ko {G G' : Heap} {e : Nat} {v : AV} {xs : List (List AV)} (h : Arr G e v xs) (hk : KO G G') (hle : G.nx.toNat ≤ G'.nx.toNat) (he : e ≠ 2 ∧ e ≠ 24 ∧ e ≠ 8) : Arr G' e v xs := by
  rcases h with g | ⟨c, off, ex, cap, hv, hc, g⟩
  · exact .inl g
  · refine .inr ⟨c, off, ex, cap, hv, Nat.lt_of_lt_of_le hc hle, fun hn => ?_⟩
    obtain ⟨r, wr', rows', h1, h2, h3⟩ := g hn
    exact ⟨r, wr', rows', h1, hk c _ h2 ⟨he.1, he.2.1, fun e => absurd e he.2.2⟩, h3⟩
theorem isWt.arr {G : Heap} {wv : AV} {ws : List (List AV)} (hok : G.ok) (h : isWt G wv ws) : Arr G 24 wv ws := by
  rcases h with ⟨rfl, rfl⟩ | ⟨kw, h1, rfl, h3⟩
  · exact .inl ⟨rfl, rfl⟩
  · cases ws with
    | nil => exact absurd rfl h1
    | cons w ws => exact .inr ⟨kw, 0, false, _, rfl, hok _ _ h3, fun _ => ⟨0, true, _, rfl, h3, by rw [List.drop_zero, List.take_length]⟩⟩
/-- a row of bytes -/
def bytV (ks : List Nat) : List (List AV) := ks.map fun k : Nat => [AV.int .u8 (k : Int)]
theorem Wd.waits {kn kd kj kh : K} {x5 x6 x7 : AV} {ks : List Nat} {i : Nat} {M : Heap} (h : Wd kn kd kj kh x5 x6 x7 ks i M) : FnOk Tryz.prog 14 [.ptr kn 0] M fun r G => r = .int .i64 (cntW ks i : Nat) ∧ G = M := by
  obtain ⟨bs, n, m, ws, s, s0, N, hN, hR, hG, h1, h2, h3, h4, h5⟩ := h
  obtain ⟨wv, hn, hw⟩ := hN.row
  rw [← h5.1]
  exact f14_ok (hw.arr hN.ok) hn
theorem f4_ok {v : AV} {ks : List Nat} (hok : H.ok) (hA : Arr H 1 v (bytV ks)) (hkb : ∀ k ∈ ks, k ≤ 255) (hl : ks.length ≤ 9223372036854775807) : FnOk Tryz.prog 4 [v] H fun r _ => r = .bool true := by
  refine FnOk.of_WW Tryz.func4 rfl C4ok R4ok E0 good_E0 ?_
  have hlen : ∀ G, _ := fun G => hA.len G
  simp only [bytV, List.length_map] at hlen
  simp only [go_sem, C4]
  refine CL.of known_ok ?_
  rintro _ G' ⟨rfl, hG⟩; rw [hG]; clear hG
  simp only [go_sem, hlen]
  refine ⟨fun h => ?_, fun h => ?_⟩
  · first | trivial | exact trivial
  have hl30 : ks.length ≤ 30 := by omega
  refine CL.of (FnOk.andLe (new_all (Heap.ok_ext hok _) (get_lit (i := 0) rfl))) ?_
  rintro _ M ⟨⟨⟨kn, kd, kj, kh, km, rfl, hN0⟩, hkeep⟩, hle⟩
  have hW0 : Wd kn kd kj kh (.int .i64 0) (.int .i64 0) (.map km) ks 0 M := ⟨_, _, _, _, _, _, 0, hN0, ⟨⟨rfl, rfl, rfl, rfl, rfl, rfl, rfl, rfl⟩, fun _ => rfl⟩, gd_new, Nat.le_refl _, Nat.zero_le _, by show 29 ≤ 31 + 100 * 0; decide, Nat.le_refl _, rfl, fun q hq => absurd hq (Nat.not_lt_zero _)⟩
  have hA0 : Arr M 1 v (bytV ks) := by
    rcases hA with g | ⟨c, off, ex, cap, hv, hc, g⟩
    · exact .inl g
    · refine .inr ⟨c, off, ex, cap, hv, Nat.lt_of_lt_of_le hc (Nat.le_trans (by rw [Heap.nx_ext, Heap.toNat_key]; exact Nat.le_add_right _ _) hle), fun hn => ?_⟩
      obtain ⟨r, wr', rows', h1, h2, h3⟩ := g hn
      exact ⟨r, wr', rows', h1, hkeep c _ (Heap.get_ext_old hok h2 _) (ne_key hok h2 0), h3⟩
  clear hkeep hle hN0
  refine WW.nil ?_
  simp only [go_sem]
  refine LL.sth good_E0 (fun i : Nat => ks.length - i) (fun i M => i ≤ ks.length ∧ Wd kn kd kj kh (.int .i64 0) (.int .i64 0) (.map km) ks i M ∧ Arr M 1 v (bytV ks))
    (fun i => [(K.z, v), (K.z.o.o, .ptr kn 0), (K.z.o.i, .int .i64 (cntW ks i : Nat)), (K.z.i.o, .int .i64 i)]) ?_ 0 ⟨Nat.zero_le _, hW0.ext _, hA0.ext _⟩ (Slots.all (by simp only [go_sem]; first | done | rfl | trace_state))
  rintro i M ⟨hi, hW, hAM⟩
  have hlenM : ∀ G, _ := fun G => hAM.len G
  simp only [bytV, List.length_map] at hlenM
  have hw1 : IntKind.i64.wrap ((i : Int) + 1) = ((i + 1 : Nat) : Int) := by rw [wrap_i64 (by omega) (by omega)]; omega
  by_cases hlt : i < ks.length
  · have hwok : ∃ bs n m ws s, isNd M kn kd kj kh bs n m ws (.int .i64 0) (.int .i64 0) (.map km) s := by
      obtain ⟨bs, n, m, ws, s, s0, N, hN, _⟩ := id hW
      exact ⟨bs, n, m, ws, s, hN⟩
    obtain ⟨_, _, _, _, _, hNM⟩ := hwok
    have hokM := hNM.ok
    obtain ⟨kk, r, ex', cap', wr, rows, hv, hrho, hgo, hrow⟩ := hAM.at hokM (j := i) (by rw [bytV, List.length_map]; exact hlt)
    simp only [bytV, List.length_map, List.getElem_map] at hv hrow
    subst hv
    have hget : ks[i]? = some ks[i] := List.getElem?_eq_getElem hlt
    have hkle := hkb _ (List.mem_of_getElem? hget)
    generalize ks[i] = k at hrow hget hkle
    have hci : (i : Int) < (ks.length : Int) := by omega
    have hsi : i + 1 ≤ ks.length := by omega
    have hcs := cntW_succ hget
    have hcl := cntW_le ks i
    have hgo0 := hgo []
    rw [Heap.ext_nil] at hgo0
    have hnext : ∀ M2 : Heap, Wd kn kd kj kh (.int .i64 0) (.int .i64 0) (.map km) ks (i + 1) M2 → KO M M2 → M.nx.toNat ≤ M2.nx.toNat → (i + 1 ≤ ks.length ∧ Wd kn kd kj kh (.int .i64 0) (.int .i64 0) (.map km) ks (i + 1) M2 ∧ Arr M2 1 (.slice kk (r * 1) ks.length 1 ex' cap') (bytV ks)) := fun M2 h1 h2 h3 => ⟨hsi, h1, arr_ko hAM h2 h3 ⟨by decide, by decide, by decide⟩⟩
    rcases (show k % 4 = 0 ∨ k % 4 = 1 ∨ k % 4 = 2 ∨ k % 4 = 3 by omega) with hk4 | hk4 | hk4 | hk4
    · have hm4 : (k : Int).tmod 4 = 0 := by rw [Int.tmod_eq_emod_of_nonneg (by omega)]; omega
      rw [hk4, if_neg (by decide)] at hcs
      have hw2 : IntKind.i64.wrap ((cntW ks i : Nat) + 1 : Int) = ((cntW ks (i + 1) : Nat) : Int) := by rw [hcs, wrap_i64 (by omega) (by omega)]; omega
      simp only [go_sem, hlenM, hci, hsi, hgo, hgo0, hrow, hm4, hw1]
      refine CL.of (f17_put _ _) ?_
      rintro _ G' ⟨rfl, hG⟩; rw [hG]; clear hG
      simp only [go_sem, opL]
      refine CL.of (f8_let (s := 0) (id := i + 1) (by decide) (by omega) 2 [107] [] [118] 0 .nils (fun _ _ => rfl)) ?_
      rintro _ G' ⟨rfl, hG⟩; rw [hG]; clear hG
      simp only [go_sem]
      have e := hW.put (by omega) hget hk4
      try rw [Heap.ext_nil]
      refine CL.of (FnOk.andLe e) ?_
      rintro _ M2 ⟨⟨rfl, hW2, hko⟩, hle⟩
      refine WW.nil ?_
      simp only [go_sem, hw2]
      refine CL.of (hW2.ext _).waits ?_
      rintro _ G' ⟨rfl, hG⟩; rw [hG]; clear hG
      simp only [go_sem, hw1]
      exact ⟨i + 1, by show ks.length - (i + 1) < ks.length - i; omega, (by rw [Heap.ext_nil]; exact hnext M2 hW2 hko hle), Slots.all (by simp only [go_sem]; first | done | rfl | trace_state)⟩
    · have hm4 : (k : Int).tmod 4 = 1 := by rw [Int.tmod_eq_emod_of_nonneg (by omega)]; omega
      rw [hk4, if_neg (by decide)] at hcs
      have hw2 : IntKind.i64.wrap ((cntW ks i : Nat) + 1 : Int) = ((cntW ks (i + 1) : Nat) : Int) := by rw [hcs, wrap_i64 (by omega) (by omega)]; omega
      simp only [go_sem, hlenM, hci, hsi, hgo, hgo0, hrow, hm4, hw1]
      refine CL.of (f8_let (s := 0) (id := i + 1) (by decide) (by omega) 1 [107] [] [] 0 .nils (fun _ _ => rfl)) ?_
      rintro _ G' ⟨rfl, hG⟩; rw [hG]; clear hG
      simp only [go_sem]
      have e := hW.get (by omega) hget hk4
      try rw [Heap.ext_nil]
      refine CL.of (FnOk.andLe e) ?_
      rintro _ M2 ⟨⟨rfl, hW2, hko⟩, hle⟩
      refine WW.nil ?_
      simp only [go_sem, hw2]
      refine CL.of (hW2.ext _).waits ?_
      rintro _ G' ⟨rfl, hG⟩; rw [hG]; clear hG
      simp only [go_sem, hw1]
      exact ⟨i + 1, by show ks.length - (i + 1) < ks.length - i; omega, (by rw [Heap.ext_nil]; exact hnext M2 hW2 hko hle), Slots.all (by simp only [go_sem]; first | done | rfl | trace_state)⟩
    · have hm4 : (k : Int).tmod 4 = 2 := by rw [Int.tmod_eq_emod_of_nonneg (by omega)]; omega
      rw [hk4, if_neg (by decide)] at hcs
      have hw2 : IntKind.i64.wrap ((cntW ks i : Nat) + 1 : Int) = ((cntW ks (i + 1) : Nat) : Int) := by rw [hcs, wrap_i64 (by omega) (by omega)]; omega
      simp only [go_sem, hlenM, hci, hsi, hgo, hgo0, hrow, hm4, hw1]
      have e := hW.poll (by omega) hget hk4
      simp only [pollW] at e
      try rw [Heap.ext_nil]
      refine CL.of (FnOk.andLe e) ?_
      rintro _ M2 ⟨⟨rfl, hW2, hko⟩, hle⟩
      refine WW.nil ?_
      simp only [go_sem, hw2]
      refine CL.of (hW2.ext _).waits ?_
      rintro _ G' ⟨rfl, hG⟩; rw [hG]; clear hG
      simp only [go_sem, hw1]
      exact ⟨i + 1, by show ks.length - (i + 1) < ks.length - i; omega, (by rw [Heap.ext_nil]; exact hnext M2 hW2 hko hle), Slots.all (by simp only [go_sem]; first | done | rfl | trace_state)⟩
    · have hm4 : (k : Int).tmod 4 = 3 := by rw [Int.tmod_eq_emod_of_nonneg (by omega)]; omega
      rw [hk4, if_pos rfl] at hcs
      have hw2 : IntKind.i64.wrap ((cntW ks i : Nat) - 1 : Int) = ((cntW ks i : Nat) : Int) - 1 := by rw [wrap_i64 (by omega) (by omega)]
      have hw3 : IntKind.i64.wrap (((cntW ks i : Nat) : Int) - 1 + 1) = ((cntW ks (i + 1) : Nat) : Int) := by rw [hcs, wrap_i64 (by omega) (by omega)]; omega
      simp only [go_sem, hlenM, hci, hsi, hgo, hgo0, hrow, hm4, hw1, hw2]
      have e := hW.plan hget hk4
      simp only [planW] at e
      try rw [Heap.ext_nil]
      refine CL.of (FnOk.andLe e) ?_
      rintro _ M2 ⟨⟨rfl, hW2, hko⟩, hle⟩
      refine WW.nil ?_
      simp only [go_sem, hw2, hw3]
      refine CL.of (hW2.ext _).waits ?_
      rintro _ G' ⟨rfl, hG⟩; rw [hG]; clear hG
      simp only [go_sem, hw1]
      exact ⟨i + 1, by show ks.length - (i + 1) < ks.length - i; omega, (by rw [Heap.ext_nil]; exact hnext M2 hW2 hko hle), Slots.all (by simp only [go_sem]; first | done | rfl | trace_state)⟩
  · obtain rfl : i = ks.length := by omega
    have hci : ¬ ((ks.length : Int) < (ks.length : Int)) := by omega
    simp only [go_sem, hlenM, hci]
    obtain ⟨bs, n, m, ws, s, s0, N, hN, hR, hG, h1, h2, h3, h4, h5⟩ := hW
    refine CL.of (FnOk.andLe (f10_ok hN)) ?_
    rintro rv M2 ⟨⟨hwt, hN2, hkp⟩, hle⟩
    obtain ⟨wv0, hn0, -⟩ := hN.row
    have hko : KO M M2 := KO.kp hkp fun j hj b hb ho => by
      simp only [List.mem_cons, List.not_mem_nil, or_false] at hj
      rcases hj with rfl | rfl
      · rw [hn0] at hb; cases hb
        obtain ⟨s, e⟩ := ho.2.2 rfl _ List.mem_cons_self
        simp [Sh.enc] at e
      · rw [hN.disk] at hb; cases hb; exact ho.1 rfl
    have hA2 := arr_ko hAM hko hle ⟨by decide, by decide, by decide⟩
    have hok2 := hN2.ok
    have hL := hwt.arr hok2
    clear hwt hkp hko hle hn0 hAM hA0 hW0
    refine WW.nil ?_
    simp only [go_sem]
    refine LL.sth good_E0 (fun i : Nat => ks.length - i) (fun i M => M = M2 ∧ i ≤ ks.length)
      (fun i => [(K.z, v), (K.z.o.o, .ptr kn 0), (K.z.i.i, rv), (K.z.o.o.o, .int .i64 (cntW ks i : Nat)), (K.z.o.o.i, .int .i64 i)]) ?_ 0 ⟨Heap.ext_nil _, Nat.zero_le _⟩ (Slots.all (by simp only [go_sem]; first | done | rfl | trace_state))
    rintro i M ⟨rfl, hi⟩
    have hw1 : IntKind.i64.wrap ((i : Int) + 1) = ((i + 1 : Nat) : Int) := by rw [wrap_i64 (by omega) (by omega)]; omega
    have hlen2 : ∀ G, _ := fun G => hL.len G
    by_cases hlt : i < ks.length
    · obtain ⟨kk, r, ex', cap', wr, rows, hv, hrho, hgo, hrow⟩ := hA2.at hok2 (j := i) (by rw [bytV, List.length_map]; exact hlt)
      simp only [bytV, List.length_map, List.getElem_map] at hv hrow
      subst hv
      have hget : ks[i]? = some ks[i] := List.getElem?_eq_getElem hlt
      generalize ks[i] = k at hrow hget
      have hci : (i : Int) < (ks.length : Int) := by omega
      have hsi : i + 1 ≤ ks.length := by omega
      have hcs := cntW_succ hget
      have hcl := cntW_le ks i
      have hgo0 := hgo []
      rw [Heap.ext_nil] at hgo0
      by_cases hk3 : k % 4 = 3
      · have hm4 : (k : Int).tmod 4 = 3 := by rw [Int.tmod_eq_emod_of_nonneg (by omega)]; omega
        rw [if_pos hk3] at hcs
        simp only [go_sem, hlenM, hci, hsi, hgo, hgo0, hrow, hm4, hw1]
        exact ⟨i + 1, by show ks.length - (i + 1) < ks.length - i; omega, ⟨by first | rfl | exact Heap.ext_nil _, hsi⟩, Slots.all (by simp only [go_sem, hcs, hw1]; first | done | rfl | trace_state)⟩
      · rw [if_neg hk3] at hcs
        obtain ⟨l, hl1, hl2⟩ := h5.2 i hlt k hget hk3
        have hcw : cntW ks i < ws.length := (List.getElem?_eq_some_iff.1 hl1).1
        obtain ⟨kk2, r2, ex2, cap2, wr2, rows2, hv2, -, hgo2, hrow2⟩ := hL.at hok2 (j := cntW ks i) hcw
        have hle2 : ws[cntW ks i] = l := by
          have := List.getElem?_eq_getElem hcw
          rw [hl1] at this
          exact (Option.some.inj this).symm
        rw [hle2] at hrow2
        subst hv2
        have hgo20 := hgo2 []
        rw [Heap.ext_nil] at hgo20
        have hw2 : IntKind.i64.wrap ((cntW ks i : Nat) + 1 : Int) = ((cntW ks (i + 1) : Nat) : Int) := by rw [hcs, wrap_i64 (by omega) (by omega)]; omega
        have hc1 : ¬ (ws.length : Int) ≤ (cntW ks i : Nat) := by omega
        have hc2 : cntW ks i + 1 ≤ ws.length := hcw
        have hc3 : cntW ks i ≤ ws.length := by omega
        rcases hl2 with ⟨hk2, c0, c1, c2, c3, rfl⟩ | ⟨hk2, g, x, rfl⟩
        · simp only [saidL, List.cons_append, List.nil_append] at hrow2
          have z200 : (200 : Int) + ((0 : Nat) : Int) = 200 := rfl
          rw [z200] at hrow2
          rcases (show k % 4 = 0 ∨ k % 4 = 1 by omega) with hk4 | hk4
          · skip
            have hm4 : (k : Int).tmod 4 = 0 := by rw [Int.tmod_eq_emod_of_nonneg (by omega)]; omega
            simp only [go_sem, hlenM, hlen2, hci, hsi, hgo, hgo0, hrow, hm4, hw1, hgo2, hgo20, hrow2, hc1, hc2, hc3]
            exact ⟨i + 1, by show ks.length - (i + 1) < ks.length - i; omega, ⟨by first | rfl | exact Heap.ext_nil _, hsi⟩, Slots.all (by simp only [go_sem, hw2, hw1]; first | done | rfl | trace_state)⟩
          · skip
            have hm4 : (k : Int).tmod 4 = 1 := by rw [Int.tmod_eq_emod_of_nonneg (by omega)]; omega
            simp only [go_sem, hlenM, hlen2, hci, hsi, hgo, hgo0, hrow, hm4, hw1, hgo2, hgo20, hrow2, hc1, hc2, hc3]
            exact ⟨i + 1, by show ks.length - (i + 1) < ks.length - i; omega, ⟨by first | rfl | exact Heap.ext_nil _, hsi⟩, Slots.all (by simp only [go_sem, hw2, hw1]; first | done | rfl | trace_state)⟩
        · simp only [fedW] at hrow2
          have hm4 : (k : Int).tmod 4 = 2 := by rw [Int.tmod_eq_emod_of_nonneg (by omega)]; omega
          simp only [go_sem, hlenM, hlen2, hci, hsi, hgo, hgo0, hrow, hm4, hw1, hgo2, hgo20, hrow2, hc1, hc2, hc3]
          exact ⟨i + 1, by show ks.length - (i + 1) < ks.length - i; omega, ⟨by first | rfl | exact Heap.ext_nil _, hsi⟩, Slots.all (by simp only [go_sem, hw2, hw1]; first | done | rfl | trace_state)⟩
    · obtain rfl : i = ks.length := by omega
      have hci : ¬ ((ks.length : Int) < (ks.length : Int)) := by omega
      have hce : ((cntW ks ks.length : Nat) : Int) = (ws.length : Int) := by rw [h5.1]
      simp only [go_sem, hlenM, hlen2, hci, hce]
      refine CL.of (f10_ok (hN2.ext _)) ?_
      rintro rv2 M3 ⟨hwt3, hN3, -⟩
      rcases hwt3 with ⟨-, rfl⟩ | ⟨_, h, _⟩
      rotate_left
      · exact absurd rfl h
      obtain ⟨wv3, hn3, hw3⟩ := hN3.row
      have h14 := fun L => f14_ok ((hw3.arr hN3.ok).ext L) (Heap.get_ext_old hN3.ok hn3 L)
      refine WW.nil ?_
      simp only [go_sem]
      refine CL.of (h14 _) ?_
      rintro _ G' ⟨rfl, hG⟩; rw [hG]; clear hG
      simp only [go_sem, List.length_nil]
      first | done | trace_state
end Go.Proofs
