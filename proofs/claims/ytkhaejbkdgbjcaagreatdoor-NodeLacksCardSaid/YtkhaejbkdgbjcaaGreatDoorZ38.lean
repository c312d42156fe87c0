/- NodeLacks: installs at a quiet node. -/
import Derived.Test.YtkhaejbkdgbjcaaGreatDoorZ37
import Derived.Test.YtkhaejbkdgbjcaaGreatDoorZ36
import Derived.Test.YtkhaejbkdgbjcaaGreatDoorZ35
import Derived.Test.YtkhaejbkdgbjcaaGreatDoorZ34
import Derived.Test.YtkhaejbkdgbjcaaGreatDoorZ33
import Derived.Test.YtkhaejbkdgbjcaaGreatDoorZ32
import Derived.Test.YtkhaejbkdgbjcaaGreatDoorZ31
import Derived.KernelRfl
set_option linter.all false
set_option maxRecDepth 100000
namespace Go.Proofs
open Go Go.Ev
theorem quiR_ok : ∀ c, c < 30 → quiR c = true
  | 0, _ => aQ0
  | 1, _ => aQ1
  | 2, _ => aQ2
  | 3, _ => aQ3
  | 4, _ => aQ4
  | 5, _ => aQ5
  | 6, _ => aQ6
  | 7, _ => aQ7
  | 8, _ => aQ8
  | 9, _ => aQ9
  | 10, _ => aQ10
  | 11, _ => aQ11
  | 12, _ => aQ12
  | 13, _ => aQ13
  | 14, _ => aQ14
  | 15, _ => aQ15
  | 16, _ => aQ16
  | 17, _ => aQ17
  | 18, _ => aQ18
  | 19, _ => aQ19
  | 20, _ => aQ20
  | 21, _ => aQ21
  | 22, _ => aQ22
  | 23, _ => aQ23
  | 24, _ => aQ24
  | 25, _ => aQ25
  | 26, _ => aQ26
  | 27, _ => aQ27
  | 28, _ => aQ28
  | 29, _ => aQ29
  | m + 30, h => absurd h (by omega)
theorem run_qui {c : Nat} (hc : c < 30) : RunB (pH c).flatten (tR c) (kB (yR c)) 0 := by
  obtain ⟨r1, r2⟩ := runB_t (quiR_ok c hc)
  rw [fLN_eq] at r1 r2
  exact ⟨kB_ok (yR c), r1, r2⟩
end Go.Proofs
/- NodeLacks: pieces that are pushed, and those that aren't. -/


set_option linter.all false
set_option maxRecDepth 100000
namespace Go.Proofs
open Go Go.Ev
section
variable {M G : Heap} {kb kd kj kh : K} {n : Nat} {F : List (Int × List Nat)} {ks : List K}
def PN (M : Heap) (kb kd kj kh : K) (n : Nat) (F : List (Int × List Nat)) : Prop :=
  (F = [] ∧ B0 M kb kd kj kh) ∨ ∃ ws es, BP M kb kd kj kh ws es ∧ ws ≠ [] ∧ ws.length ≤ n ∧ (∀ x ∈ ws, ∃ j, x = pushedL j) ∧ (∀ q ∈ F, findM es q.1 = some q.2) ∧ ∀ i, (∀ q ∈ F, q.1 ≠ i) → findM es i = none
theorem PN.ext (h : PN M kb kd kj kh n F) (L : List Blk) : PN (M.ext L) kb kd kj kh n F := by
  rcases h with ⟨rfl, h⟩ | ⟨ws, es, h, h2⟩
  · exact .inl ⟨rfl, h.ext L⟩
  · exact .inr ⟨ws, es, h.ext L, h2⟩
theorem findM_one' (j : Int) (d : List Nat) (i : Int) : findM [(j, d)] i = if i = j then some d else none := findM_ins j i d []
theorem push_PN (h : PN M kb kd kj kh n F) {j : Int} (h0 : 0 ≤ j) (hj : j < 1000) {d : List Nat} (hd : d.length ≤ 255) (hn : n < 100000) (hc : ∀ q ∈ F, q.1 ≠ j) :
    FnOk Tryz.prog 10 [.ptr kb 0, .agg (mvL 11 1 2 j d)] M fun r G => r = .tup [] ∧ PN G kb kd kj kh (n + 1) ((j, d) :: F) ∧ G.ok ∧ ∀ k b, M.get k = some b → okp b → G.get k = some b := by
  rcases h with ⟨rfl, h⟩ | ⟨ws, es, h, hne, hl, hw, hF, hN⟩
  · refine (push_0 h h0 hj hd).mono ?_
    rintro r G ⟨rfl, g1, g2⟩
    refine ⟨rfl, .inr ⟨_, _, g1, by simp, by simp, fun x hx => ⟨j, List.mem_singleton.1 hx⟩, fun q hq => ?_, fun i hi => ?_⟩, g1.ok, fun k b hb ho => g2 k b hb (okp_okb (by simp) ho)⟩
    · rw [List.mem_singleton.1 hq]
      exact findM_one j d
    · rw [findM_one', if_neg fun e => hi _ List.mem_cons_self e.symm]
  · refine (push_1 h h0 hj hd (by omega)).mono ?_
    rintro r G ⟨rfl, g1, g2⟩
    refine ⟨rfl, .inr ⟨_, _, g1, by simp, by rw [List.length_append]; show ws.length + 1 ≤ n + 1; omega, fun x hx => ?_, fun q hq => ?_, fun i hi => ?_⟩, g1.ok, fun k b hb ho => g2 k b hb (okp_okb hw ho)⟩
    · rcases List.mem_append.1 hx with hx | hx
      · exact hw x hx
      · exact ⟨j, List.mem_singleton.1 hx⟩
    · rw [findM_ins]
      rcases List.mem_cons.1 hq with rfl | hq
      · rw [if_pos rfl]
      · rw [if_neg (hc q hq)]; exact hF q hq
    · rw [findM_ins, if_neg fun e => hi _ List.mem_cons_self e.symm]
      exact hN i fun q hq => hi q (List.mem_cons_of_mem _ hq)
/-- install where a piece lacks, at a node with pieces -/
theorem lack_BP {es : List (Int × List Nat)} {m : Nat} (h : BP M kb kd kj kh [] es) (hf : ∃ i : Nat, i < m ∧ findM es (i : Int) = none) (hm : m < 1000) :
    FnOk Tryz.prog 10 [.ptr kb 0, .agg (mvL 13 1 2 m [])] M fun r G => r = .tup [] ∧ BN G kb kd kj kh ∧ ∃ wv x5 x6 x7, G.get kb = some (nRow kd kj kh wv x5 x6 x7) ∧ isWt G wv [instL 1] := by
  obtain ⟨wv, km, hn, hw, hm2⟩ := h.row
  refine f10_inst (Q := fun r G => BN G kb kd kj kh ∧ ∃ wv x5 x6 x7, G.get kb = some (nRow kd kj kh wv x5 x6 x7) ∧ isWt G wv [instL 1]) h.ok hn (okI_lo (by decide) (by decide)) (okI_lo (by decide) (by decide)) (okI_lo (by omega) (by omega)) fun L => ?_
  have hok := Heap.ok_ext h.ok L
  have hB := h.toBN.ext L
  have hn1 := Heap.get_ext_old h.ok hn L
  have hw1 := hw.ext h.ok L
  refine (f36_not hok hn1 hB.h hw1 (by decide) (fun L2 => f92_not (Heap.get_ext_old hok hn1 L2) (Heap.get_ext_old hok (Heap.get_ext_old h.ok hm2 L) L2) hf (by omega))).mono ?_
  rintro r G ⟨rfl, ⟨wv', g1, g2⟩, g3, g4⟩
  have hK : Kb [] (M.ext L) G := kb_of hn1 hw1 (fun k hk => by
    rcases List.mem_cons.1 hk with rfl | hk
    · exact .inl rfl
    · exact .inr (.inr hk)) g4
  exact ⟨rfl, hK.bn g3 hB, wv', _, _, _, g1, g2⟩
/-- install where a piece lacks, at a new node -/
theorem lack_B0 {x7 : AV} {m : Nat} (h : BN M kb kd kj kh) (hn : M.get kb = some (nRow kd kj kh .nils (.int .i64 0) (.int .i64 0) x7)) (hm : m < 1000) :
    FnOk Tryz.prog 10 [.ptr kb 0, .agg (mvL 13 1 2 m [])] M fun r G => r = .tup [] ∧ BN G kb kd kj kh ∧ ∃ wv x5 x6 x7, G.get kb = some (nRow kd kj kh wv x5 x6 x7) ∧ isWt G wv [instL 1] := by
  refine f10_inst (Q := fun r G => BN G kb kd kj kh ∧ ∃ wv x5 x6 x7, G.get kb = some (nRow kd kj kh wv x5 x6 x7) ∧ isWt G wv [instL 1]) h.ok hn (okI_lo (by decide) (by decide)) (okI_lo (by decide) (by decide)) (okI_lo (by omega) (by omega)) fun L => ?_
  have hok := Heap.ok_ext h.ok L
  have hB := h.ext L
  have hn1 := Heap.get_ext_old h.ok hn L
  have hw1 : isWt (M.ext L) .nils [] := .inl ⟨rfl, rfl⟩
  refine (f36_not hok hn1 hB.h hw1 (by decide) (fun L2 => f92_fresh (Heap.get_ext_old hok hn1 L2))).mono ?_
  rintro r G ⟨rfl, ⟨wv', g1, g2⟩, g3, g4⟩
  have hK : Kb [] (M.ext L) G := kb_of hn1 hw1 (fun k hk => by
    rcases List.mem_cons.1 hk with rfl | hk
    · exact .inl rfl
    · exact .inr (.inr hk)) g4
  exact ⟨rfl, hK.bn g3 hB, wv', _, _, _, g1, g2⟩
/-- Get of b behind an install, its copy let go -/
theorem get_bR {c : Nat} {ws : List (List AV)} (hc : c < 30) (h : SQ (tR c) M kb ws ks) : ∃ kh, (∃ a b d e f g h', M.get kb = some (.row true 8 [[a, b, d, .ptr kh 0, e, f, g, h']])) ∧ FnOk Tryz.prog 15 [.ptr kh 0, .int .i64 1] M fun r X => ∃ S : Sh, r = .tup [.agg S.enc, .bool true] ∧ ∃ L, X = M.ext L := by
  obtain ⟨hok, κ, ⟨hF, h0, _⟩, ha⟩ := h
  refine ⟨_, ?_, (get_fit hF hok (hdIs 2 c) rfl).mono ?_⟩
  · rw [hF.blk 0 (nP (wN ws.length)) kb rfl h0 trivial]
    exact ⟨_, _, _, _, _, _, _, rfl⟩
  · rintro r X ⟨S, rfl, -, hL, -⟩
    exact ⟨S, rfl, hL⟩
end
end Go.Proofs
/- NodeLacks: the law: walked. NOT FINISHED. -/

set_option linter.all false
set_option maxRecDepth 100000
namespace Go.Proofs
open Go Go.Ev
theorem f4_ok {a b e : Nat} (ha : a ≤ 255) (hb : b ≤ 255) (he : e ≤ 255) : FnOk Tryz.prog 4 [.int .u8 a, .int .u8 b, .int .u8 e] hp0 fun r _ => r = .bool true := by
  refine FnOk.of_WW Tryz.func4 rfl C4ok R4ok E0 good_E0 ?_
  obtain ⟨c, hc0⟩ : ∃ c, c = a % 30 := ⟨_, rfl⟩
  have hc : c < 30 := by omega
  have hk30 : IntKind.u8.wrap ((a : Int).tmod 30) = (c : Int) := by
    rw [Int.tmod_eq_emod_of_nonneg (by omega)]
    have := wrap_u8 (m := a % 30) (by omega)
    rw [hc0, ← this]; congr 1
  have hk30' : IntKind.i64.wrap (c : Int) = (c : Int) := wrap_i64 (by omega) (by omega)
  have hk30i : IntKind.i64.wrap ((a : Int).tmod 30) = (c : Int) := by
    rw [Int.tmod_eq_emod_of_nonneg (by omega), wrap_i64 (by omega) (by omega)]; omega
  simp only [go_sem, C4]
  refine CL.of known_ok ?_
  rintro _ G' ⟨rfl, hG⟩; rw [hG]; clear hG
  simp only [go_sem]
  refine CL.of new_A ?_
  rintro _ M ⟨ka, rfl, hA⟩
  refine WW.nil ?_
  simp only [go_sem]
  refine CL.of (new_AB hA) ?_
  rintro _ M ⟨kb, kd, kj, kh, rfl, hB, hA⟩
  refine WW.nil ?_
  simp only [go_sem, hk30, hk30']
  refine LL.sth good_E0 (fun i : Nat => c - i) (fun i M => i ≤ c ∧ AN (blH i) M ka [kb, kd, kj, kh] ∧ B0 M kb kd kj kh)
    (fun i => [(K.z, .int .u8 a), (K.z.o, .int .u8 b), (K.z.i, .int .u8 e), (K.z.o.o.o, .ptr ka 0), (K.z.o.o.i, .ptr kb 0), (K.z.o.i.o, .int .i64 i)]) ?_ 0 ⟨Nat.zero_le _, hA, hB⟩ (Slots.all (by simp only [go_sem, hk30i]; first | done | rfl | trace_state))
  rintro i M ⟨hic, hA, hB⟩
  have hw : IntKind.i64.wrap ((i : Int) + 1) = ((i + 1 : Nat) : Int) := by rw [wrap_i64 (by omega) (by omega)]; omega
  simp only [go_sem, hw, hk30, hk30', hk30i]
  refine ⟨fun hlt => ?_, fun hge => ?_⟩
  · have hlt' : i < c := by omega
    have m3 : (i : Int).tmod 3 = ((i % 3 : Nat) : Int) := by rw [Int.tmod_eq_emod_of_nonneg (by omega)]; omega
    have d3 : IntKind.i64.wrap ((i : Int).tdiv 3) = ((i / 3 : Nat) : Int) := by rw [Int.tdiv_eq_ediv_of_nonneg (by omega), wrap_i64 (by omega) (by omega)]; omega
    have d4 : IntKind.i64.wrap (((i / 3 : Nat) : Int) + 1) = ((i / 3 + 1 : Nat) : Int) := by rw [wrap_i64 (by omega) (by omega)]; omega
    have m9 : (i : Int).tmod 9 = ((i % 9 : Nat) : Int) := by rw [Int.tmod_eq_emod_of_nonneg (by omega)]; omega
    have w3 : IntKind.i64.wrap (97 + ((i % 9 : Nat) : Int)) = ((97 + i % 9 : Nat) : Int) := by rw [wrap_i64 (by omega) (by omega)]; omega
    have w4 : IntKind.u8.wrap ((97 + i % 9 : Nat) : Int) = ((97 + i % 9 : Nat) : Int) := wrap_u8 (by omega)
    have hb1 := fun (f : R1) (d : List Nat → R1) => bytesC_one (β := R1) (m := 97 + i % 9) (by omega) f d
    simp only [go_sem, hw, m3, d3, d4, m9, w3, w4, hb1]
    refine CL.of (f12_ok _ _) ?_
    rintro _ G' ⟨rfl, hG⟩; rw [hG]; clear hG
    simp only [go_sem]
    refine CL.of (f11_any (by omega) (by omega) _ _) ?_
    rintro _ G' ⟨rfl, hG⟩; rw [hG]; clear hG
    simp only [go_sem]
    refine CL.of (put_a (by omega) (hA.ext _)) ?_
    rintro _ M2 ⟨rfl, hA2, hS⟩
    have hB2 : B0 M2 kb kd kj kh := (hB.ext _).same hS hA2.1 (by simp) (by simp) (by simp) (by simp)
    refine WW.nil ?_
    simp only [go_sem, hw]
    exact ⟨i + 1, by show c - (i + 1) < c - i; omega, ⟨by omega, hA2, hB2⟩, Slots.all (by simp only [go_sem]; first | done | rfl | trace_state)⟩
  · obtain rfl : c = i := by omega
    refine CL.of (sync_a hc hA) ?_
    rintro r1 M2 ⟨hA2, hS2⟩
    have hB2 : B0 M2 kb kd kj kh := hB.same hS2 hA2.1 (by simp) (by simp) (by simp) (by simp)
    refine WW.nil ?_
    simp only [go_sem]
    try rw [Heap.ext_nil]
    refine CL.of (hand_a hc hA2) ?_
    rintro _ M5 ⟨kp, rfl, hkp, hok5, hS5⟩
    have hB5 : B0 M5 kb kd kj kh := hB2.same hS5 hok5 (by simp) (by simp) (by simp) (by simp)
    obtain ⟨p1, p2, p3, p4⟩ := pH_ok hc
    obtain ⟨ps, hps⟩ : ∃ ps, ps = pH c := ⟨_, rfl⟩
    rw [← hps] at hkp p1 p2 p3 p4 ⊢
    have hO5 : Oth M5 [kp] := fun k hk => by rw [List.mem_singleton.1 hk]; exact ⟨true, 1, _, hkp, fun e => absurd e (by decide), by decide, by decide⟩
    obtain ⟨j, hj⟩ : ∃ j, j = e % ps.length := ⟨_, rfl⟩
    have hjl : j < ps.length := by rw [hj]; exact Nat.mod_lt _ (by omega)
    have hu : IntKind.i64.wrap (e : Int) = (e : Int) := wrap_i64 (by omega) (by omega)
    have hj2 : (e : Int).tmod (ps.length : Int) = (j : Int) := by rw [Int.tmod_eq_emod_of_nonneg (by omega), hj]; omega
    have hne : ¬ ((ps.length : Int) = 0) := by omega
    have hnl : ¬ ps.length = 0 := by omega
    obtain ⟨q, hq⟩ : ∃ q, q = b % 3 := ⟨_, rfl⟩
    have hq3 : q < 3 := by omega
    have hb3 : (b : Int).tmod 3 = (q : Int) := by rw [Int.tmod_eq_emod_of_nonneg (by omega)]; omega
    refine WW.nil ?_
    simp only [go_sem, hu, hj2, hne, hnl]
    refine LL.sth good_E0 (fun i : Nat => ps.length - i) (fun i M => i ≤ ps.length ∧ M.ok ∧ Same [kp] M5 M ∧ ∃ F, PN M kb kd kj kh i F ∧ (∀ m, m < i → ¬ (q = 0 ∧ m = j) → ∃ d, ps[m]? = some d ∧ ((m : Int), d) ∈ F) ∧ ∀ x ∈ F, ∃ m : Nat, m < i ∧ ps[m]? = some x.2 ∧ x.1 = (m : Int) ∧ ¬ (q = 0 ∧ m = j))
      (fun i => [(K.z.o, .int .u8 b), (K.z.o.o.i, .ptr kb 0), (K.z.i.o.i, .int .i64 j), (K.z.o.i.i, .slice kp 0 ps.length 1 false ps.length), (K.z.i.i.o, .int .i64 i)]) ?_ 0 ⟨Nat.zero_le _, (by rw [Heap.ext_nil]; exact hok5), (by rw [Heap.ext_nil]; exact (fun _ _ _ h => h)), [], (by rw [Heap.ext_nil]; exact .inl ⟨rfl, hB5⟩), fun m h => absurd h (by omega), by simp⟩ (Slots.all (by simp only [go_sem]; first | done | rfl | trace_state))
    rintro i M ⟨hin, hokM, hSM, F, hPN, hF1, hF2⟩
    have hw : IntKind.i64.wrap ((i : Int) + 1) = ((i + 1 : Nat) : Int) := by rw [wrap_i64 (by omega) (by omega)]; omega
    simp only [go_sem, hw]
    refine ⟨fun hlt => ?_, fun hge => ?_⟩
    · have hil : i < ps.length := by omega
      refine CL.of (f17_mv 11 1 2 i) ?_
      rintro _ G' ⟨rfl, hG⟩; rw [hG]; clear hG
      obtain ⟨d, hd⟩ : ∃ d, ps[i]? = some d := ⟨ps[i], List.getElem?_eq_getElem hil⟩
      have hdl : d.length ≤ 255 := p1 d (List.mem_of_getElem? hd)
      have hkpM := fun L => Heap.get_ext_old hokM (hSM kp (by simp) _ hkp) L
      have hrd : ∀ k : List AV → R1, readC R1.fail 1 (ps.map fun p => [AV.str p]) (i * 1) 1 k = k [.str d] := fun k => by
        have := readC_at (β := R1) R1.fail 1 (ps.map fun p => [AV.str p]) i 0 1 k (by decide) (by decide)
        rw [Nat.add_zero] at this
        rw [this, List.getElem?_map, hd]
        rfl
      have hil1 : i + 1 ≤ ps.length := hil
      have e1 := push_PN (M := M.ext [.row true 24 [mvL 11 1 2 i d]]) (hPN.ext _) (j := i) (by omega) (by omega) hdl (by omega) (fun x hx => by
        obtain ⟨m, m0, _, m2, _⟩ := hF2 x hx
        omega)
      simp only [mvL] at e1
      by_cases hsk : q = 0 ∧ i = j
      · obtain ⟨rfl, rfl⟩ := hsk
        have hb0 : (b : Int).tmod 3 = 0 := hb3
        simp only [go_sem, mvL, hkpM, hrd, hil1, hb0]
        exact ⟨i + 1, by show ps.length - (i + 1) < ps.length - i; omega, ⟨by omega, Heap.ok_ext hokM _, hSM.trans (Same.ext hokM _), F, (by
          rcases hPN with ⟨rfl, h⟩ | ⟨ws, es, g1, g2, g3, g4⟩
          · exact .inl ⟨rfl, h.ext _⟩
          · exact .inr ⟨ws, es, g1.ext _, g2, by omega, g4⟩), (fun m hm hn => hF1 m (by
            rcases Nat.lt_or_ge m i with h | h
            · exact h
            · exact absurd (show m = i by omega) hn) fun h => hn h.2), fun x hx => by
          obtain ⟨m, m0, m1, m2, m3⟩ := hF2 x hx
          exact ⟨m, by omega, m1, m2, fun h => m3 ⟨rfl, h⟩⟩⟩, Slots.all (by simp only [go_sem, hw]; first | done | rfl | trace_state)⟩
      · have hgo : ∀ (x : R1 → Prop), True := fun _ => trivial
        have htail : ∀ M6 : Heap, PN M6 kb kd kj kh (i + 1) (((i : Int), d) :: F) → M6.ok → (∀ k b, (M.ext [.row true 24 [mvL 11 1 2 i d]]).get k = some b → okp b → M6.get k = some b) → (i + 1 ≤ ps.length ∧ M6.ok ∧ Same [kp] M5 M6 ∧ ∃ F, PN M6 kb kd kj kh (i + 1) F ∧ (∀ m, m < i + 1 → ¬ (q = 0 ∧ m = j) → ∃ d, ps[m]? = some d ∧ ((m : Int), d) ∈ F) ∧ ∀ x ∈ F, ∃ m : Nat, m < i + 1 ∧ ps[m]? = some x.2 ∧ x.1 = (m : Int) ∧ ¬ (q = 0 ∧ m = j)) := fun M6 hP6 hok6 hk6 => by
          refine ⟨hil1, hok6, hSM.trans ((Same.ext hokM _).trans (oth_okp ((Same.ext hokM _).oth (hSM.oth hO5)) hk6)), _, hP6, fun m hm hn => ?_, fun x hx => ?_⟩
          · by_cases e : m = i
            · subst e; exact ⟨d, hd, List.mem_cons_self⟩
            · obtain ⟨d', g1, g2⟩ := hF1 m (by omega) hn
              exact ⟨d', g1, List.mem_cons_of_mem _ g2⟩
          · rcases List.mem_cons.1 hx with rfl | hx
            · exact ⟨i, by omega, hd, rfl, hsk⟩
            · obtain ⟨m, m0, m1⟩ := hF2 x hx
              exact ⟨m, by omega, m1⟩
        rcases (show q = 0 ∨ q = 1 ∨ q = 2 by omega) with h0 | h0 | h0
        all_goals
          rw [h0] at hb3
          simp only [go_sem, mvL, hkpM, hrd, hil1, hb3]
        · refine ⟨fun hij => ?_, fun hij => absurd ⟨h0, by omega⟩ hsk⟩
          refine CL.of e1 ?_
          rintro _ M6 ⟨rfl, hP6, hok6, hk6⟩
          refine WW.nil ?_
          simp only [go_sem, hw]
          exact ⟨i + 1, by show ps.length - (i + 1) < ps.length - i; omega, (by rw [Heap.ext_nil]; exact htail M6 hP6 hok6 hk6), Slots.all (by simp only [go_sem]; first | done | rfl | trace_state)⟩
        · refine CL.of e1 ?_
          rintro _ M6 ⟨rfl, hP6, hok6, hk6⟩
          refine WW.nil ?_
          simp only [go_sem, hw]
          exact ⟨i + 1, by show ps.length - (i + 1) < ps.length - i; omega, (by rw [Heap.ext_nil]; exact htail M6 hP6 hok6 hk6), Slots.all (by simp only [go_sem]; first | done | rfl | trace_state)⟩
        · refine CL.of e1 ?_
          rintro _ M6 ⟨rfl, hP6, hok6, hk6⟩
          refine WW.nil ?_
          simp only [go_sem, hw]
          exact ⟨i + 1, by show ps.length - (i + 1) < ps.length - i; omega, (by rw [Heap.ext_nil]; exact htail M6 hP6 hok6 hk6), Slots.all (by simp only [go_sem]; first | done | rfl | trace_state)⟩
    · obtain rfl : i = ps.length := by omega
      rcases hPN with ⟨rfl, hBz⟩ | ⟨ws, es, hBP, hwne, hwl, -, hfd, hnf⟩
      · have hq0 : q = 0 := by
          refine Classical.byContradiction fun h => ?_
          obtain ⟨d, _, g⟩ := hF1 0 (by omega) fun g => h g.1
          cases g
        rw [hq0] at hb3
        obtain ⟨x7, hrow⟩ := hBz.row
        try rw [Heap.ext_nil]
        refine CL.of (f13_bn hBz.toBN hrow (.inl ⟨rfl, rfl⟩)) ?_
        rintro rr M6 ⟨-, hBN6, hrow6, -⟩
        refine WW.nil ?_
        simp only [go_sem, hb3]
        refine CL.of (f17_mv 13 1 2 ps.length) ?_
        rintro _ G' ⟨rfl, hG⟩; rw [hG]; clear hG
        simp only [go_sem, mvL]
        try rw [Heap.ext_nil]
        have e1 := lack_B0 (m := ps.length) hBN6 hrow6 (by omega)
        simp only [mvL] at e1
        refine CL.of e1 ?_
        rintro _ M7 ⟨rfl, hBN7, wv7, y5, y6, y7, hrow7, hwt7⟩
        refine WW.nil ?_
        simp only [go_sem, hb3]
        try rw [Heap.ext_nil]
        refine CL.of (f13_bn hBN7 hrow7 hwt7) ?_
        rintro wv8 M8 ⟨hw8, hBN8, hrow8, -⟩
        rcases hw8 with ⟨h, _⟩ | ⟨kw, -, rfl, hkw⟩
        · cases h
        refine WW.nil ?_
        simp only [go_sem]
        unfold nRow at hrow8
        refine CL.of (f14_ok (Heap.get_ext_old hBN8.ok hrow8 _)) ?_
        rintro _ G' ⟨rfl, hG⟩; rw [hG]; clear hG
        simp only [go_sem]
        refine CL.of (f15_no ((empty_hd hBN8.ok hBN8.h).ext _) 1 rfl) ?_
        rintro _ G' ⟨rfl, hG⟩; rw [hG]; clear hG
        have gw := fun L => Heap.get_ext_old hBN8.ok hkw L
        simp only [instL] at gw hkw
        simp only [go_sem, zS, hkw, gw]
        first | done | trace_state
      · have hSO := hSM.oth hO5
        try rw [Heap.ext_nil]
        refine CL.of (sync_BP hBP hwne hSO) ?_
        rintro rr M6 ⟨-, ⟨kd6, kj6, kh6, hBP6⟩, hS6⟩
        have hO6 := hS6.oth hSO
        refine WW.nil ?_
        rcases (show q = 0 ∨ q = 1 ∨ q = 2 by omega) with h0 | h0 | h0
        all_goals
          rw [h0] at hb3
          simp only [go_sem, hb3]
        · refine CL.of (f17_mv 13 1 2 ps.length) ?_
          rintro _ G' ⟨rfl, hG⟩; rw [hG]; clear hG
          simp only [go_sem, mvL]
          try rw [Heap.ext_nil]
          have e1 := lack_BP (m := ps.length) hBP6 ⟨j, hjl, hnf _ fun x hx e => by
            obtain ⟨m, m0, m1, m2, m3⟩ := hF2 x hx
            exact m3 ⟨h0, by omega⟩⟩ (by omega)
          simp only [mvL] at e1
          refine CL.of e1 ?_
          rintro _ M7 ⟨rfl, hBN7, wv7, y5, y6, y7, hrow7, hwt7⟩
          refine WW.nil ?_
          simp only [go_sem, hb3]
          try rw [Heap.ext_nil]
          refine CL.of (f13_bn hBN7 hrow7 hwt7) ?_
          rintro wv8 M8 ⟨hw8, hBN8, hrow8, -⟩
          rcases hw8 with ⟨h, _⟩ | ⟨kw, -, rfl, hkw⟩
          · cases h
          refine WW.nil ?_
          simp only [go_sem]
          unfold nRow at hrow8
          refine CL.of (f14_ok (Heap.get_ext_old hBN8.ok hrow8 _)) ?_
          rintro _ G' ⟨rfl, hG⟩; rw [hG]; clear hG
          simp only [go_sem]
          refine CL.of (f15_no ((empty_hd hBN8.ok hBN8.h).ext _) 1 rfl) ?_
          rintro _ G' ⟨rfl, hG⟩; rw [hG]; clear hG
          have gw := fun L => Heap.get_ext_old hBN8.ok hkw L
          simp only [instL] at gw hkw
          simp only [go_sem, zS, hkw, gw]
          first | done | trace_state
        · try rw [Heap.ext_nil]
          refine CL.of (crash_BP hBP6 hO6) ?_
          rintro _ M6b ⟨rfl, ⟨kd7, kj7, kh7, hBP7⟩, hS7⟩
          refine WW.nil ?_
          simp only [go_sem, hb3]
          refine CL.of (f17_mv 13 1 2 ps.length) ?_
          rintro _ G' ⟨rfl, hG⟩; rw [hG]; clear hG
          simp only [go_sem, mvL]
          try rw [Heap.ext_nil]
          have e1 := lack_BP (m := ps.length) hBP7 ⟨0, by omega, rfl⟩ (by omega)
          simp only [mvL] at e1
          refine CL.of e1 ?_
          rintro _ M7 ⟨rfl, hBN7, wv7, y5, y6, y7, hrow7, hwt7⟩
          refine WW.nil ?_
          simp only [go_sem, hb3]
          try rw [Heap.ext_nil]
          refine CL.of (f13_bn hBN7 hrow7 hwt7) ?_
          rintro wv8 M8 ⟨hw8, hBN8, hrow8, -⟩
          rcases hw8 with ⟨h, _⟩ | ⟨kw, -, rfl, hkw⟩
          · cases h
          refine WW.nil ?_
          simp only [go_sem]
          unfold nRow at hrow8
          refine CL.of (f14_ok (Heap.get_ext_old hBN8.ok hrow8 _)) ?_
          rintro _ G' ⟨rfl, hG⟩; rw [hG]; clear hG
          simp only [go_sem]
          refine CL.of (f15_no ((empty_hd hBN8.ok hBN8.h).ext _) 1 rfl) ?_
          rintro _ G' ⟨rfl, hG⟩; rw [hG]; clear hG
          have gw := fun L => Heap.get_ext_old hBN8.ok hkw L
          simp only [instL] at gw hkw
          simp only [go_sem, zS, hkw, gw]
          first | done | trace_state
        · refine CL.of (f17_mv 13 1 2 ps.length) ?_
          rintro _ G' ⟨rfl, hG⟩; rw [hG]; clear hG
          simp only [go_sem, mvL]
          try rw [Heap.ext_nil]
          have hkp6 := hS6 kp (by simp) _ (hSM kp (by simp) _ hkp)
          have hfe : ∀ (i : Nat) (d : List Nat), ps[i]? = some d → findM es (i : Int) = some d := fun i d hi => by
            have hil := (List.getElem?_eq_some_iff.1 hi).1
            obtain ⟨d', g1, g2⟩ := hF1 i hil fun g => by omega
            rw [hi] at g1; cases g1
            exact hfd _ g2
          have e1 := inst_b0 (ks := []) hBP6 hkp6 (by simp) (by simp [Oth]) hfe (fun e => by rw [e] at p2; simp at p2) (by omega) (by omega) (layR hc) (by rw [hps]; exact run_qui hc)
          simp only [mvL] at e1
          refine CL.of e1 ?_
          rintro _ M7 ⟨rfl, hQ7, -⟩
          refine WW.nil ?_
          simp only [go_sem, hb3]
          obtain ⟨khb, ⟨z0, z1, z2, z4, z5, z6, z7, hrow7⟩, hget7⟩ := get_bR hc hQ7
          try rw [Heap.ext_nil]
          refine CL.of (f14_ok hrow7) ?_
          rintro _ G' ⟨rfl, hG⟩; rw [hG]; clear hG
          simp only [go_sem]
          try rw [Heap.ext_nil]
          refine CL.of hget7 ?_
          rintro _ M8 ⟨S, rfl, L, hL⟩
          have hQ8 : SQ (tR c) M8 kb [instL 0] [] := by rw [hL]; exact hQ7.ext L
          refine WW.nil ?_
          simp only [go_sem, Sh.enc]
          try rw [Heap.ext_nil]
          refine CL.of (crash_SQ (cra_ok hc) (hQ8.ext _) (by simp [Oth])) ?_
          rintro _ M9 ⟨rfl, ⟨kd9, kj9, kh9, hBP9⟩, -⟩
          obtain ⟨wv9, km9, hrow9, hwt9, -⟩ := hBP9.row
          rcases hwt9 with ⟨_, rfl⟩ | ⟨_, h, _⟩
          rotate_left
          · exact absurd rfl h
          unfold nRowP nRow at hrow9
          refine WW.nil ?_
          simp only [go_sem]
          refine CL.of (f14_ok (Heap.get_ext_old hBP9.ok hrow9 _)) ?_
          rintro _ G' ⟨rfl, hG⟩; rw [hG]; clear hG
          simp only [go_sem]
          refine CL.of (f15_no ((empty_hd hBP9.ok hBP9.h).ext _) 1 rfl) ?_
          rintro _ G' ⟨rfl, hG⟩; rw [hG]; clear hG
          simp only [go_sem, zS]
          refine CL.of (f20_ok (xs := []) (.inl ⟨rfl, rfl⟩) (Heap.get_ext_old hBP9.ok hrow9 _)) ?_
          rintro _ G' ⟨rfl, hG⟩; rw [hG]; clear hG
          simp only [go_sem]
          first | done | trace_state
end Go.Proofs
