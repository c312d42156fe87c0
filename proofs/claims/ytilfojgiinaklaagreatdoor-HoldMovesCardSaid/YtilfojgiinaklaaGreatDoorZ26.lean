/- the shards of a node of two; the record of all there is: walked. -/
import Derived.Test.YtilfojgiinaklaaGreatDoorZ25
set_option linter.all false
set_option linter.all false
set_option maxRecDepth 100000
namespace Go.Proofs
open Go Go.Ev
variable {H : Heap}

section
variable {G : Heap} {k : K} {lv gv : AV} {a b : Sh} {gs : List Gn}
theorem f17_two (h : isHd G k lv gv [a, b] gs) : FnOk Tryz.prog 17 [.ptr k 0] G fun r G' => r = .slice (G.key 0) 0 2 8 false 2 ∧ G' = G.ext [.dead] := by
  refine FnOk.dropW ?_
  refine FnOk.of_WW Tryz.func17 rfl C17ok R17ok E0 good_E0 ?_
  have hk : ∀ L, (G.ext L).get k = _ := fun L => Heap.get_ext_old h.ok h.row L
  have hA := h.l
  have hlen := fun G => hA.len G; have hren := hA.ren
  simp only [go_sem, C17, hk, hlen]
  refine LL.st good_E0 (S := Int × AV × List Blk) (fun s => (2 - s.1).toNat) (fun s => s = (0, .nils, []) ∨ s = (1, .slice (G.key 0) 0 1 8 false 1, [.row true 8 [(a.cop (G.key 1) (G.key 2) (G.key 3)).enc], .dead, .dead, .dead]) ∨ s = (2, .slice (G.key 0) 0 2 8 false 2, [.dead]))
    (fun s => [((.o (.o .z)), s.2.1), ((.o (.i (.o .z))), lv), ((.i (.i (.o .z))), .int .i64 2), ((.o (.o (.i .z))), .int .i64 s.1)])
    (fun s => s.2.2) ?_ (0, .nils, []) (σ := []) (Wk.of rfl (by decide) (by simp only [go_sem, hren]; first | done | rfl | trace_state) (by simp only [go_sem, Sh.cop, Sh.enc, zV_ren]; first | done | rfl | trace_state)) (.inl rfl)
  obtain ⟨kk, r, ex', cap', wr, rows, hv, hrho, hgo, hrow⟩ := hA.at h.ok (j := 0) (Nat.zero_lt_succ _)
  obtain ⟨kk1, r1, ex1, cap1, wr1, rows1, hv1, hrho1, hgo1, hrow1⟩ := hA.at h.ok (j := 1) (Nat.succ_lt_succ (Nat.zero_lt_succ _))
  have hsa := h.each a (by simp)
  have hsb := h.each b (by simp)
  have hma := h.small a (by simp)
  have hmb := h.small b (by simp)
  have hw01 : IntKind.i64.wrap (0 + 1) = 1 := rfl
  have hw12 : IntKind.i64.wrap (1 + 1) = 2 := rfl
  rintro _ (rfl | rfl | rfl)
  · have hrow : rows[r]? = some [.int .i64 a.id, .int .i64 a.ep, .str a.fr, .str a.to, .bool a.frz, a.cv, a.ev, a.dv] := hrow
    simp only [go_sem, hv, hgo, hrow]
    refine CL.of (f52_ok (hsa.ext _) hma) ?_
    rintro _ G' ⟨rfl, hG⟩; rw [hG]; clear hG
    simp only [go_sem, Sh.cop, Sh.enc, copB, Heap.key_ext]
    exact ⟨(1, .slice (G.key 0) 0 1 8 false 1, [.row true 8 [(a.cop (G.key 1) (G.key 2) (G.key 3)).enc], .dead, .dead, .dead]), by show (2 - 1 : Int).toNat < (2 - 0 : Int).toNat; decide, .inr (.inl rfl), _, [5, 1, 2, 3], rfl, Wk.of rfl (by decide) (by simp only [go_sem, hren, hrho, hv, hw01]; first | done | rfl | trace_state) (by simp only [go_sem, Sh.cop, Sh.enc, zV_ren]; first | done | rfl | trace_state)⟩
  · have hrow1 : rows1[r1 + 1]? = some [.int .i64 b.id, .int .i64 b.ep, .str b.fr, .str b.to, .bool b.frz, b.cv, b.ev, b.dv] := hrow1
    simp only [go_sem, hv1, hgo1, hrow1]
    refine CL.of (f52_ok (hsb.ext _) hmb) ?_
    rintro _ G' ⟨rfl, hG⟩; rw [hG]; clear hG
    simp only [go_sem, Sh.cop, Sh.enc, copB, Heap.key_ext]
    exact ⟨(2, .slice (G.key 0) 0 2 8 false 2, [.dead]), by show (2 - 2 : Int).toNat < (2 - 1 : Int).toNat; decide, .inr (.inr rfl), _, [9], rfl, Wk.of rfl (by decide) (by simp only [go_sem, hren, hrho1, hv1, hw12]; first | done | rfl | trace_state) (by simp only [go_sem, Sh.cop, Sh.enc, zV_ren]; first | done | rfl | trace_state)⟩
  · simp only [go_sem]
    exact ⟨[.dead], [0], by simp only [go_sem], rfl, rfl, by decide, by simp only [go_sem]⟩
end
open Classical in
/-- its shards, what it gave away -/
noncomputable def EB (f : FuncId) (args : List AV) (H : Heap) : RC :=
  match f with
  | 17 => match args with
    | [.ptr k 0] => if ∃ lv gv a b gs, isHd H k lv gv [a, b] gs then .ok (.slice (H.key 0) 0 2 8 false 2) (H.ext [.dead]) else .fail
    | _ => .fail
  | 60 => match args with
    | [v] => if Arr H 2 v [[.int .i64 1, .int .i64 1]] then .ok (zV (nilB v) (H.key 0) 2 1) (H.ext [zB (nilB v) 2 [[.int .i64 1, .int .i64 1]]]) else .fail
    | _ => .fail
  | _ => .fail
theorem good_EB : Ev.Good Tryz.prog EB := by
  intro f args H r G he φ w args' ha hw
  refine (?_ : FnOk Tryz.prog f args H fun v' G' => v' = r ∧ G' = G).one φ w args' ha hw
  unfold EB at he
  split at he
  · split at he
    · split at he
      · rename_i hc
        obtain ⟨lv, gv, a, b, gs, hc⟩ := hc
        cases he; exact f17_two hc
      · cases he
    · cases he
  · split at he
    · split at he
      · rename_i hc
        cases he; exact clone_zd clo42 hc (by show (2 * 1 + 192) * 16 ≤ 281474976710656; decide) (fun top σ => rfl)
      · cases he
    · cases he
  · cases he
section
variable {G : Heap} {k : K} {lv gv : AV} {a b : Sh} {gs : List Gn}
theorem eb16 (h : isHd G k lv gv [a, b] gs) : EB 17 [.ptr k 0] G = .ok (.slice (G.key 0) 0 2 8 false 2) (G.ext [.dead]) := if_pos ⟨lv, gv, a, b, gs, h⟩
theorem eb42 {v : AV} (h : Arr G 2 v [[.int .i64 1, .int .i64 1]]) : EB 60 [v] G = .ok (zV (nilB v) (G.key 0) 2 1) (G.ext [zB (nilB v) 2 [[.int .i64 1, .int .i64 1]]]) := if_pos h
theorem f23_two (h : isHd G k lv gv [a, b] [⟨1, 1⟩]) : FnOk Tryz.prog 23 [.ptr k 0] G fun r G' => (∃ c w, r = .agg [.int .i64 1, .int .i64 0, .int .i64 0, .int .i64 0, .int .i64 0, .int .i64 0, .int .i64 0, .str [], .str [], .str [], .int .i64 0, .nils, .str [], .str [], .slice c 0 2 8 false 2, w]) ∧ ∃ L, G' = G.ext L := by
  refine FnOk.of_WW Tryz.func23 rfl C23ok R23ok EB good_EB ?_
  have hk : ∀ L, (G.ext L).get k = _ := fun L => Heap.get_ext_old h.ok h.row L
  have e16 := fun L => eb16 (h.ext L)
  have e42 := fun L => eb42 (G := G.ext L) (h.g.ext L)
  simp only [go_sem, C23, hk, e16, e42]
  exact ⟨⟨_, _, rfl⟩, _, rfl⟩
end
end Go.Proofs
/- whether the law's own functions are known: walked. -/




set_option linter.all false
set_option linter.all false
set_option maxRecDepth 100000
namespace Go.Proofs
open Go Go.Ev
variable {H : Heap}

section
variable {a b : Sh}
theorem half.id1 (h : half a b) : idx (fun s => decide (s.id = 1)) [a, b] 0 = -1 := by
  unfold idx
  rw [decide_eq_false (by rw [h.a1]; decide), if_neg Bool.false_ne_true]
  unfold idx
  rw [decide_eq_false (by rw [h.b1]; decide), if_neg Bool.false_ne_true]
  rfl
theorem half.find (h : half a b) : idx (findQ [107]) [a, b] 0 = ((0 : Nat) : Int) := by
  unfold idx
  have : findQ [107] a = true := by
    unfold findQ
    rw [h.a4, if_neg Bool.false_ne_true, h.a2, h.a3]
    exact decide_eq_true ⟨⟨by decide, by decide, .inr (by exact ltS_nil 109 [])⟩, ⟨by simp, by show (1 : Int) ≤ 8; decide⟩, not_ltS_nil _, .inr ((ltS_cons 107 109 [] []).2 (.inl (by decide)))⟩
  rw [this, if_pos rfl]
theorem half.at (h : half a b) : idx (atQ []) [a, b] 0 = ((0 : Nat) : Int) := by
  unfold idx
  have : atQ [] a = true := by
    unfold atQ
    rw [h.a4, if_neg Bool.false_ne_true, h.a2, h.a3]
    exact decide_eq_true ⟨.inr rfl, .inr (by rintro (g | g); exact not_ltS_nil _ g; cases g)⟩
  rw [this, if_pos rfl]
end
theorem f5_ok : FnOk Tryz.prog 5 [] H fun r G => r = .bool true ∧ G = H := by
  refine FnOk.assume fun hok => ?_
  refine FnOk.drop (R := fun r => r = .bool true) ?_ (by rintro v rfl ρ; rw [AV.ren])
  refine FnOk.of_WW Tryz.func5 rfl C5ok R5ok E0 good_E0 ?_
  simp only [go_sem, C5]
  refine CL.of f12_ok ?_
  rintro _ G' ⟨rfl, hG⟩
  rw [hG]
  clear hG
  simp only [go_sem, Heap.key_ext]
  have hA : ∀ b0, Arr (H.ext [b0, .row true 8 [(nS 1 1 [] [] false).enc]]) 8 (.slice (H.key 1) 0 1 8 true 1) [(nS 1 1 [] [] false).enc] := fun b0 => .inr ⟨H.key 1, 0, true, 1, rfl, Heap.ok_ext hok _ _ _ (get_lit rfl), fun _ => ⟨0, true, _, rfl, get_lit rfl, rfl⟩⟩
  refine CL.of (f13_base (newHd hok _) (hA _) (shOne 1 (by decide) (by decide))) ?_
  rintro _ M1 ⟨rfl, ⟨lv1, h1⟩, n1⟩
  refine WW.nil ?_
  simp only [go_sem, zA]
  refine CL.of (f13_ask (h1.ext _)) ?_
  rintro _ M2 ⟨rfl, ⟨lv2, cv, ev, dv, h2⟩, n2⟩
  refine WW.nil ?_
  simp only [go_sem, zA]
  refine CL.of (f13_split (h2.ext _)) ?_
  rintro _ M3 ⟨rfl, ⟨lv3, gv3, a, b, h3, hf⟩, n3⟩
  refine WW.nil ?_
  simp only [go_sem, zA]
  have q4 := n3.keep (M2.key 0) _ (ne_key h2.ok h2.row 0) (get_lit rfl)
  refine CL.of (f13_err (h3.ext _) (kind := 3) (.inl rfl) 0 0 0 (.int .i64 0) (.str []) (.str []) (.str []) (.int .i64 0) .nils (.str []) (.str []) .nils .nils (n0 := 1) (n1 := 1) (m := 14) fun L => f41_none ((h3.ext _).ext L) 3 0 0 0 _ _ _ _ _ _ _ _ _ _ hf.id1) ?_
  rintro _ M4 ⟨rfl, h4, n4⟩
  have r4 := n4.keep (M2.key 0) _ (by exact ne_key h2.ok h2.row 0) (Heap.get_ext_old h3.ok q4 _)
  have g4 := fun L => Heap.get_ext_old h4.ok r4 L
  refine WW.nil ?_
  simp only [go_sem, zA]
  have ha1 := hf.a1
  refine CL.of (f21_yes (h4.ext _) [107] (i := 0) hf.find rfl) ?_
  rintro _ G' ⟨rfl, hG⟩; rw [hG]; clear hG
  simp only [go_sem, Sh.cop, Sh.enc, copB, Heap.key_ext]
  refine CL.of (f15_no (h4.ext _) 1 hf.id1) ?_
  rintro _ G' ⟨rfl, hG⟩; rw [hG]; clear hG
  simp only [go_sem, zS]
  refine CL.of f8_rc ?_
  rintro _ G' ⟨rfl, hG⟩; rw [hG]; clear hG
  simp only [go_sem]
  refine CL.of f9_rc ?_
  rintro _ G' ⟨rfl, hG⟩; rw [hG]; clear hG
  simp only [go_sem, rcE]
  refine CL.of (f22_yes (h4.ext _) [] (i := 0) hf.at rfl) ?_
  rintro _ G' ⟨rfl, hG⟩; rw [hG]; clear hG
  simp only [go_sem, Sh.cop, Sh.enc, copB, Heap.key_ext, g4, ha1]
  have hle : H.nx.toNat ≤ (H.key 0).toNat := by rw [Heap.toNat_key]; exact Nat.le_add_right ..
  have hown : ∀ L, ∃ l, M4.ext L = H.ext l := fun L => ext_own (n4.own H (ext_own (n3.own H (ext_own (n2.own H (ext_own (n1.own H ⟨_, rfl⟩ hle) _) hle) _) hle) _) hle) L
  refine CL.of (f20_ok (some 14) 14) ?_
  rintro _ G' ⟨rfl, hG⟩; rw [hG]; clear hG
  simp only [go_sem, g4]
  refine CL.of (f18_ok (h4.ext _) 1) ?_
  rintro _ G' ⟨rfl, hG⟩; rw [hG]; clear hG
  have hg : goneN [⟨1, 1⟩] 1 = 1 := rfl
  rw [hg]
  simp only [go_sem]
  refine CL.of (f17_two (h4.ext _)) ?_
  rintro _ G' ⟨rfl, hG⟩; rw [hG]; clear hG
  simp only [go_sem]
  refine CL.of (f23_two (h4.ext _)) ?_
  rintro _ G' ⟨⟨c, w, rfl⟩, L, hG⟩
  rw [hG, Heap.ext_append]
  clear hG
  simp only [go_sem]
  exact hown _
end Go.Proofs
/- HoldMoves: walked. -/


set_option linter.all false
set_option linter.all false
set_option maxRecDepth 100000
namespace Go.Proofs
open Go Go.Ev
variable {H : Heap}

/-- the first node behind so many puts, the other one empty -/
def InvM (H : Heap) (kh kg : K) (i : Nat) (M : Heap) : Prop := (∃ lv s, isHd M kh lv .nils [s] [] ∧ PutI 3 false i s) ∧ isHd M kg .nils .nils [] [] ∧ ∃ L, M = H.ext L
theorem f4_ok {n m : Nat} (hn : n ≤ 255) (hm : m ≤ 255) : FnOk Tryz.prog 4 [.int .u8 n, .int .u8 m] H fun r G => r = .bool true ∧ G = H := by
  refine FnOk.assume fun hok => ?_
  refine FnOk.drop (R := fun r => r = .bool true) ?_ (by rintro v rfl ρ; rw [AV.ren])
  refine FnOk.of_WW Tryz.func4 rfl C4ok R4ok E0 good_E0 ?_
  have hN : IntKind.i64.wrap ((n : Int).tmod 20) = ((n % 20 : Nat) : Int) := by
    rw [Int.tmod_eq_emod_of_nonneg (by omega), wrap_i64 (by omega) (by omega)]
    omega
  have hA : IntKind.i64.wrap ((m : Int).tmod 3) = ((m % 3 : Nat) : Int) := by
    rw [Int.tmod_eq_emod_of_nonneg (by omega), wrap_i64 (by omega) (by omega)]
    omega
  obtain ⟨N, hNe⟩ : ∃ N, N = n % 20 := ⟨_, rfl⟩
  have hN20 : N < 20 := by omega
  rw [← hNe] at hN
  have hle : H.nx.toNat ≤ (H.key 0).toNat := by rw [Heap.toNat_key]; exact Nat.le_add_right ..
  simp only [go_sem, C4]
  refine CL.of f5_ok ?_
  rintro _ G' ⟨rfl, hG⟩; rw [hG]; clear hG
  simp only [go_sem]
  refine CL.of f11_ok ?_
  rintro _ M ⟨rfl, ⟨lv, hM⟩, hB⟩
  rw [Heap.ext_nil] at hB
  rw [Heap.key_ext] at hM
  simp only [List.length_nil, Nat.zero_add, Nat.add_zero] at hM
  refine WW.nil ?_
  simp only [go_sem, Heap.key_ext]
  refine CL.of f12_ok ?_
  rintro _ M1 ⟨rfl, hM1⟩
  obtain ⟨kg, hkg⟩ : ∃ kg, kg = M.key 0 := ⟨_, rfl⟩
  have hkg1 : (M.ext []).key 0 = kg := hkg.symm
  have hM1' : M1 = M.ext [.row true 2 [[.nils, .nils]]] := hM1
  have hh1 : isHd M1 (H.key 0) lv .nils [nS 1 3 [] [] false] [] := by rw [hM1']; exact hM.ext _
  have hg1 : isHd M1 kg .nils .nils [] [] := by rw [hM1', hkg]; exact newHd hM.ok []
  have hB1 : ∃ L, M1 = H.ext L := by rw [hM1']; exact ext_own hB _
  have hne : kg ≠ H.key 0 := by
    rw [hkg]
    exact fun e => ne_key hM.ok hM.row 0 e.symm
  have hleg : H.nx.toNat ≤ kg.toNat := by
    obtain ⟨L, hL⟩ := hB
    rw [hkg, hL, Heap.toNat_key, Heap.nx_ext, Heap.toNat_key]
    omega
  clear hM1 hM1' hM hkg
  refine WW.nil ?_
  simp only [go_sem, hkg1]
  refine LL.sth good_E0 (fun i : Nat => N - i) (fun i M => i ≤ N ∧ InvM H (H.key 0) kg i M)
    (fun i => [(.z, .int .u8 n), ((.o .z), .int .u8 m), ((.o (.i .z)), .ptr (H.key 0) 0), ((.i (.i .z)), .ptr kg 0), ((.o (.o (.o .z))), .int .i64 i)]) ?_ 0 ⟨Nat.zero_le _, by rw [Heap.ext_nil]; exact ⟨⟨lv, _, hh1, putI_nil 3 false⟩, hg1, hB1⟩⟩ (Slots.all (by simp only [go_sem]; first | done | rfl | trace_state))
  clear hh1 hg1 hB1
  rintro i M1 ⟨hi, ⟨lv, s, hh, hP⟩, hg, hB⟩
  by_cases hlt : i < N
  · have hci : (i : Int) < (N : Int) := by omega
    have hw : IntKind.i64.wrap ((i : Int) + 1) = (i : Int) + 1 := wrap_i64 (by omega) (by omega)
    have hr7 : (i : Int).tmod 7 = ((i % 7 : Nat) : Int) := by rw [Int.tmod_eq_emod_of_nonneg (by omega)]; omega
    have ha7 : IntKind.i64.wrap (97 + ((i % 7 : Nat) : Int)) = ((97 + i % 7 : Nat) : Int) := by rw [wrap_i64 (by omega) (by omega)]; omega
    have hu := wrap_u8 (m := 97 + i % 7) (by omega)
    have al := fun c => bytesC_all (β := R1) (l := [97 + i % 7]) (fun b hb => by rw [List.mem_singleton] at hb; omega) .fail c
    simp only [List.map_cons, List.map_nil, byteV] at al
    have hkey : isKey [97 + i % 7] := ⟨by simp, by show (1 : Int) ≤ 8; decide⟩
    simp only [go_sem, hN, hci, hw, hr7, ha7, hu, al]
    refine CL.of (f13_put (hh.ext _) hP (by omega) hkey) ?_
    rintro _ M2 ⟨⟨ver, rfl⟩, ⟨lv', t, h', hPt⟩, n2⟩
    have g2 := isHd.other (hh.ext _) (hg.ext _) hne h'.ok n2
    have b2 := n2.own H (ext_own hB _) hle
    refine WW.nil ?_
    simp only [go_sem, hw]
    refine ⟨i + 1, by show N - (i + 1) < N - i; omega, ⟨by omega, ⟨lv', t, h'.ext _, hPt⟩, g2.ext _, ext_own b2 _⟩, Slots.all (by simp only [go_sem]; first | done | rfl | trace_state)⟩
  · have hci : ¬ (i : Int) < (N : Int) := by omega
    obtain rfl : i = N := by omega
    have hs : isSh s := hP.sh (by omega) (by decide) (by decide)
    have hsm := hP.small (by omega)
    have hid : s.id = 1 := hP.hd.1
    have hep : s.ep = 3 := hP.hd.2.1
    simp only [go_sem, hN, hci]
    refine CL.of (f14_ok 3 1 3 0 0 0) ?_
    rintro _ G' ⟨rfl, hG⟩; rw [hG]; clear hG
    simp only [go_sem]
    refine CL.of (f13_frz (hh.ext _) hid hep) ?_
    rintro _ M2 ⟨rfl, ⟨lv2, cv, ev, dv, h2⟩, n2⟩
    have g2 := isHd.other (hh.ext _) (hg.ext _) hne h2.ok n2
    have b2 := n2.own H (ext_own hB _) hle
    refine WW.nil ?_
    simp only [go_sem, zA]
    obtain ⟨q, hq⟩ : ∃ q : Sh, q = ⟨s.id, s.ep, s.fr, s.to, true, s.cells, s.evs, s.done, cv, ev, dv⟩ := ⟨_, rfl⟩
    have qs : isSh q := by rw [hq]; exact hs
    have qsm : smallS q := by rw [hq]; exact ⟨hsm.b, hsm.c, hsm.e, hsm.d⟩
    have qid : q.id = 1 := by rw [hq]; exact hid
    have qep : q.ep = 3 := by rw [hq]; exact hep
    have qfz : q.frz = true := by rw [hq]
    have qL : (imgT q).length < 200001 := by
      have h1 := imgT_len qs qsm
      have h2 : q.cells.length ≤ 20 := by rw [hq]; exact Nat.le_trans hP.cl (by omega)
      have h3 : q.evs.length ≤ 20 := by rw [hq]; exact Nat.le_trans (Nat.le_of_eq hP.len) (by omega)
      have h4 : q.done.length ≤ 1 := by rw [hq]; exact hP.dl
      omega
    rw [← hq] at h2
    clear hq hs hsm hid hep hP hh hg hB n2
    have hqo := h2.each q (by simp)
    refine CL.of (f15_yes (h2.ext _) 1 (i := 0) (idx_one (decide_eq_true qid)) rfl) ?_
    rintro _ G' ⟨rfl, hG⟩; rw [hG]; clear hG
    simp only [go_sem, Sh.cop, Sh.enc, copB, Heap.key_ext]
    have hco : ∀ x y, (q.cop (M2.key 1) (M2.key 2) (M2.key 3)).ok (M2.ext [x, zB (nilB q.cv) 5 (q.cells.map Cell.enc), zB (nilB q.ev) 4 (q.evs.map Evn.enc), zB (nilB q.dv) 6 (q.done.map Dn.enc), y]) := fun x y => Sh.cop_ok hqo rfl rfl rfl
    have hcs : isSh (q.cop (M2.key 1) (M2.key 2) (M2.key 3)) := qs
    have hcsm : smallS (q.cop (M2.key 1) (M2.key 2) (M2.key 3)) := ⟨qsm.b, qsm.c, qsm.e, qsm.d⟩
    have hcI : imgT (q.cop (M2.key 1) (M2.key 2) (M2.key 3)) = imgT q := rfl
    refine CL.of (f16_ok (hco _ _) hcs hcsm (by rw [hcI]; omega)) ?_
    rintro _ G' ⟨rfl, hG⟩; rw [hG]; clear hG
    rw [hcI]
    simp only [go_sem]
    refine CL.of (f13_new (g2.ext _) qs qsm qL qid qep qfz) ?_
    rintro _ M3 ⟨rfl, ⟨lv3, cv3, ev3, dv3, h3⟩, n3⟩
    have hh3 := isHd.other (g2.ext _) (h2.ext _) (Ne.symm hne) h3.ok n3
    have e10 := n3.keep (M2.key 4) _ (ne_key g2.ok g2.row 4) (get_lit rfl)
    have e12 := n3.keep (M2.key 5) _ (ne_key g2.ok g2.row 5) (get_lit rfl)
    have qo3 := n3.sh (g2.ext _).row (Sh.cop_ok hqo (i := 1) (j := 2) (m := 3) rfl rfl rfl) hcsm
    have b3 := n3.own H (ext_own b2 _) hleg
    clear n3 hco
    refine WW.nil ?_
    simp only [go_sem, zA]
    refine CL.of (f15_yes (h3.ext _) 1 (i := 0) (idx_one (decide_eq_true rfl)) rfl) ?_
    rintro _ G' ⟨rfl, hG⟩; rw [hG]; clear hG
    simp only [go_sem, Sh.cop, Sh.enc, copB, Heap.key_ext]
    refine CL.of (f14_ok 6 1 3 0 0 0) ?_
    rintro _ G' ⟨rfl, hG⟩; rw [hG]; clear hG
    simp only [go_sem]
    refine CL.of (f13_away (hh3.ext _) qid qep (by omega) qfz) ?_
    rintro _ M4 ⟨rfl, ⟨lv4, gv4, h4⟩, n4⟩
    have g4 := isHd.other (hh3.ext _) (h3.ext _) hne h4.ok n4
    have f10 := n4.keep (M2.key 4) _ (by exact ne_key h2.ok h2.row 4) (Heap.get_ext_old h3.ok e10 _)
    have f12 := n4.keep (M2.key 5) _ (by exact ne_key h2.ok h2.row 5) (Heap.get_ext_old h3.ok e12 _)
    have f15 := n4.keep (M3.key 4) _ (ne_key hh3.ok hh3.row 4) (get_lit rfl)
    have qo4 := n4.sh (hh3.ext _).row (qo3.ext _) hcsm
    have t3 := h3.each _ (List.mem_singleton_self _)
    have t3s := h3.small _ (List.mem_singleton_self _)
    have to4 := n4.sh (hh3.ext _).row (Sh.cop_ok t3 (i := 1) (j := 2) (m := 3) rfl rfl rfl) ⟨t3s.b, t3s.c, t3s.e, t3s.d⟩
    have b4 := n4.own H (ext_own b3 _) hle
    have hgn : goneN [⟨q.id, q.ep⟩] 1 = 3 := by
      show (if q.id = 1 then q.ep else 0) = 3
      rw [if_pos qid, qep]
    have r15 := fun L => Heap.get_ext_old h4.ok f15 L
    have r10 := fun L => Heap.get_ext_old h4.ok f10 L
    have s15 := fun b (l : List Blk) (α : Type) (c' : Heap → α) => Heap.setC_here h4.ok f15 b l c'
    have k15 := fun b (l : List Blk) => Heap.get_set_here h4.ok f15 b l
    have ss15 := fun b d (l : List Blk) (α : Type) (c' : Heap → α) => Heap.setC_set_here h4.ok f15 b d l c'
    have hne15 : M3.key 4 ≠ M2.key 4 := fun e => by
      have h1 := h3.ok _ _ e10
      rw [← e, Heap.toNat_key] at h1
      omega
    have k10 := fun b (l : List Blk) => Heap.get_set_there h4.ok f10 hne15 b l
    have n4' := (Nx.ext h3.ok _).trans n4
    clear n4
    refine WW.nil ?_
    simp only [go_sem, zA]
    refine CL.of (f17_none (h4.ext _)) ?_
    rintro _ G' ⟨rfl, hG⟩; rw [hG]; clear hG
    simp only [go_sem]
    refine CL.of (f18_ok (h4.ext _) 1) ?_
    rintro _ G' ⟨rfl, hG⟩
    rw [hG, hgn]
    clear hG
    simp only [go_sem, r15, r10, s15, k15, ss15, k10]
    have tb4 : (⟨1, 3, q.fr, q.to, true, q.cells, q.evs, q.done, zV (nilB cv3) (M3.key 1) 5 q.cells.length, zV (nilB ev3) (M3.key 2) 4 q.evs.length, zV (nilB dv3) (M3.key 3) 6 q.done.length⟩ : Sh).ok M4 := ⟨to4.c, to4.e, to4.d, to4.dok, to4.cl, to4.el, to4.dl⟩
    have tbs : smallS (⟨1, 3, q.fr, q.to, true, q.cells, q.evs, q.done, zV (nilB cv3) (M3.key 1) 5 q.cells.length, zV (nilB ev3) (M3.key 2) 4 q.evs.length, zV (nilB dv3) (M3.key 3) 6 q.done.length⟩ : Sh) := ⟨t3s.b, t3s.c, t3s.e, t3s.d⟩
    refine CL.of (f19_same (a := q.cop (M2.key 1) (M2.key 2) (M2.key 3)) (b := ⟨1, 3, q.fr, q.to, true, q.cells, q.evs, q.done, zV (nilB cv3) (M3.key 1) 5 q.cells.length, zV (nilB ev3) (M3.key 2) 4 q.evs.length, zV (nilB dv3) (M3.key 3) 6 q.done.length⟩) (Sh.ok.set8 qo4 hcsm f15 _ _) (Sh.ok.set8 tb4 tbs f15 _ _) ⟨qid, qep, rfl, rfl, qfz, rfl, rfl, rfl⟩) ?_
    rintro _ G' ⟨rfl, hG⟩; rw [hG]; clear hG
    simp only [go_sem]
    have hj4 : M3.nx.toNat ≤ (M3.key 4).toNat := by rw [Heap.toNat_key]; exact Nat.le_add_right ..
    have hne12 : M3.key 4 ≠ M2.key 5 := fun e => by
      have h1 := h3.ok _ _ e12
      rw [← e, Heap.toNat_key] at h1
      omega
    obtain ⟨A, hAe⟩ : ∃ A, A = m % 3 := ⟨_, rfl⟩
    rw [← hAe] at hA
    have hA3 : A < 3 := by omega
    clear hAe
    refine LL.sth good_E0 (fun j : Nat => A + 1 - j) (fun j M => j ≤ A + 1 ∧ isHd M kg lv3 .nils [⟨1, 4, q.fr, q.to, false, q.cells, q.evs, q.done, cv3, ev3, dv3⟩] [] ∧ isHd M (H.key 0) lv4 gv4 [] [⟨q.id, q.ep⟩] ∧ M.get (M2.key 4) = some (.row true 8 [(q.cop (M2.key 1) (M2.key 2) (M2.key 3)).enc]) ∧ M.get (M2.key 5) = some (.row true 16 [[.int .i64 5, .int .i64 1, .int .i64 4, .int .i64 0, .int .i64 0, .int .i64 0, .int .i64 0, .str [], .str [], .str [], .int .i64 0, .nils, .str [], .str (wrapT (imgT q)), .nils, .nils]]) ∧ (q.cop (M2.key 1) (M2.key 2) (M2.key 3)).ok M ∧ ∃ L, M = H.ext L)
      (fun j => [((.o .z), .int .u8 m), ((.o (.i .z)), .ptr (H.key 0) 0), ((.i (.i .z)), .ptr kg 0), ((.i (.i (.o .z))), .ptr (M2.key 4) 0), ((.i (.o (.i .z))), .ptr (M2.key 5) 0), ((.o (.o (.i (.o .z)))), .int .i64 j)]) ?_ 0
      ⟨Nat.zero_le _, isHd.far g4 h3 hj4 f15 _ _, isHd.nil8 h4 f15 _ _, k10 _ _, Heap.get_set_there h4.ok f12 hne12 _ _, Sh.ok.set8 qo4 hcsm f15 _ _, (Nx.cell n4' h3.ok h4.ok (i := 4) f15 _ _).own H b3 hle⟩ (Slots.all (by simp only [go_sem]; first | done | rfl | trace_state))
    clear r15 r10 s15 k15 ss15 k10 f10 f12 f15 qo4 to4 tb4 g4 h4 b4 n4'
    rintro j M5 ⟨hj, g5, h5, m10, m12, qo5, b5⟩
    have r10 := fun L => Heap.get_ext_old g5.ok m10 L
    have r12 := fun L => Heap.get_ext_old g5.ok m12 L
    by_cases hlt2 : j < A + 1
    · have hci2 : (j : Int) ≤ (A : Int) := by omega
      have hw := wrap_succ (n := j) (by omega)
      simp only [go_sem, hA, hci2, r12]
      refine CL.of (f13_there (g5.ext _) (i := 0) (idx_one (decide_eq_true rfl)) rfl 4 _) ?_
      rintro _ M6 ⟨rfl, g6, n6⟩
      have h6 := isHd.other (g5.ext _) (h5.ext _) (Ne.symm hne) g6.ok n6
      have p10 := n6.keep (M2.key 4) _ (ne_key g2.ok g2.row 4) (r10 _)
      have p12 := n6.keep (M2.key 5) _ (ne_key g2.ok g2.row 5) (r12 _)
      have qo6 := n6.sh (g5.ext _).row (qo5.ext _) hcsm
      have b6 := n6.own H (ext_own b5 _) hleg
      refine WW.nil ?_
      simp only [go_sem, zA]
      refine CL.of (f20_ok (some 22) 22) ?_
      rintro _ G' ⟨rfl, hG⟩; rw [hG]; clear hG
      simp only [go_sem, hw]
      refine ⟨j + 1, by show A + 1 - (j + 1) < A + 1 - j; omega, ⟨by omega, g6.ext _, h6.ext _, Heap.get_ext_old g6.ok p10 _, Heap.get_ext_old g6.ok p12 _, qo6.ext _, ext_own b6 _⟩, Slots.all (by simp only [go_sem]; first | done | rfl | trace_state)⟩
    · have hci2 : ¬ (j : Int) ≤ (A : Int) := by omega
      simp only [go_sem, hA, hci2]
      refine CL.of (f14_ok 3 1 4 0 0 0) ?_
      rintro _ G' ⟨rfl, hG⟩; rw [hG]; clear hG
      simp only [go_sem]
      refine CL.of (f13_frz (g5.ext _) rfl rfl) ?_
      rintro _ M6 ⟨rfl, ⟨lv6, cv6, ev6, dv6, g6⟩, n6⟩
      have h6 := isHd.other (g5.ext _) (h5.ext _) (Ne.symm hne) g6.ok n6
      have p10 := n6.keep (M2.key 4) _ (ne_key g2.ok g2.row 4) (r10 _)
      have p12 := n6.keep (M2.key 5) _ (ne_key g2.ok g2.row 5) (r12 _)
      have qo6 := n6.sh (g5.ext _).row (qo5.ext _) hcsm
      have b6 := n6.own H (ext_own b5 _) hleg
      refine WW.nil ?_
      simp only [go_sem, zA]
      refine CL.of (f14_ok 6 1 4 0 0 0) ?_
      rintro _ G' ⟨rfl, hG⟩; rw [hG]; clear hG
      simp only [go_sem]
      refine CL.of (f13_away (g6.ext _) rfl rfl (by show (0 : Int) ≤ 4; decide) rfl) ?_
      rintro _ M7 ⟨rfl, ⟨lv7, gv7, g7⟩, n7⟩
      have h7 := isHd.other (g6.ext _) (h6.ext _) (Ne.symm hne) g7.ok n7
      have q10 := n7.keep (M2.key 4) _ (ne_key g2.ok g2.row 4) (Heap.get_ext_old g6.ok p10 _)
      have q12 := n7.keep (M2.key 5) _ (ne_key g2.ok g2.row 5) (Heap.get_ext_old g6.ok p12 _)
      have qo7 := n7.sh (g6.ext _).row (qo6.ext _) hcsm
      have b7 := n7.own H (ext_own b6 _) hleg
      have u12 := fun L => Heap.get_ext_old g7.ok q12 L
      refine WW.nil ?_
      simp only [go_sem, u12]
      refine CL.of (f13_gone (g7.ext _) rfl (m := 4) (Int.le_refl 4) _) ?_
      rintro _ M8 ⟨rfl, g8, n8⟩
      have h8 := isHd.other (g7.ext _) (h7.ext _) (Ne.symm hne) g8.ok n8
      have v10 := n8.keep (M2.key 4) _ (ne_key g2.ok g2.row 4) (Heap.get_ext_old g7.ok q10 _)
      have qo8 := n8.sh (g7.ext _).row (qo7.ext _) hcsm
      have b8 := n8.own H (ext_own b7 _) hleg
      have w10 := fun L => Heap.get_ext_old g8.ok v10 L
      refine WW.nil ?_
      simp only [go_sem, zA, w10, Sh.enc, Sh.cop]
      refine CL.of (f16_ok (s := q.cop (M2.key 1) (M2.key 2) (M2.key 3)) (qo8.ext _) hcs hcsm (by rw [hcI]; omega)) ?_
      rintro _ G' ⟨rfl, hG⟩; rw [hG]; clear hG
      rw [hcI]
      simp only [go_sem]
      refine CL.of (f13_gone (h8.ext _) rfl (m := 3) (by rw [hgn]; exact Int.le_refl 3) _) ?_
      rintro _ M9 ⟨rfl, h9, n9⟩
      have g9 := isHd.other (h8.ext _) (g8.ext _) hne h9.ok n9
      have b9 := n9.own H (ext_own b8 _) hle
      refine WW.nil ?_
      simp only [go_sem, zA]
      refine CL.of (f20_ok (some 22) 22) ?_
      rintro _ G' ⟨rfl, hG⟩; rw [hG]; clear hG
      simp only [go_sem]
      refine CL.of (f20_ok (some 22) 22) ?_
      rintro _ G' ⟨rfl, hG⟩; rw [hG]; clear hG
      simp only [go_sem]
      refine CL.of (f17_none (g9.ext _)) ?_
      rintro _ G' ⟨rfl, hG⟩; rw [hG]; clear hG
      simp only [go_sem]
      exact ext_own b9 _
end Go.Proofs
