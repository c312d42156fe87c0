/- NodeHands: reckoned. -/
import Derived.Test.YtkhaejbkdgbjcaaGreatDoorZ31
import Derived.KernelRfl
set_option linter.all false
set_option maxRecDepth 100000
namespace Go.Proofs
open Go Go.Ev
theorem aP27 : putR 27 = true := by kernel_rfl
theorem aS27 : synR 27 = true := by kernel_rfl
theorem aH27 : hanR 27 = true := by kernel_rfl
theorem aR27 (n : Nat) : recR 27 n := ⟨by kernel_rfl, by kernel_rfl⟩
theorem aY27 (n : Nat) : sy2R 27 n := ⟨by kernel_rfl, by kernel_rfl⟩
theorem aZ27 : pu2R 27 = true := by kernel_rfl
theorem aW27 : sy3R 27 = true := by kernel_rfl
theorem aP28 : putR 28 = true := by kernel_rfl
theorem aS28 : synR 28 = true := by kernel_rfl
theorem aH28 : hanR 28 = true := by kernel_rfl
theorem aR28 (n : Nat) : recR 28 n := ⟨by kernel_rfl, by kernel_rfl⟩
theorem aY28 (n : Nat) : sy2R 28 n := ⟨by kernel_rfl, by kernel_rfl⟩
theorem aZ28 : pu2R 28 = true := by kernel_rfl
theorem aW28 : sy3R 28 = true := by kernel_rfl
theorem aS29 : synR 29 = true := by kernel_rfl
theorem aH29 : hanR 29 = true := by kernel_rfl
theorem aR29 (n : Nat) : recR 29 n := ⟨by kernel_rfl, by kernel_rfl⟩
theorem aY29 (n : Nat) : sy2R 29 n := ⟨by kernel_rfl, by kernel_rfl⟩
theorem aZ29 : pu2R 29 = true := by kernel_rfl
theorem aW29 : sy3R 29 = true := by kernel_rfl
end Go.Proofs
/- NodeHands: all that is reckoned. -/










set_option linter.all false
set_option maxRecDepth 100000
namespace Go.Proofs
open Go Go.Ev
theorem aaP : ∀ c, c < 29 → putR c = true
  | 0, _ => aP0
  | 1, _ => aP1
  | 2, _ => aP2
  | 3, _ => aP3
  | 4, _ => aP4
  | 5, _ => aP5
  | 6, _ => aP6
  | 7, _ => aP7
  | 8, _ => aP8
  | 9, _ => aP9
  | 10, _ => aP10
  | 11, _ => aP11
  | 12, _ => aP12
  | 13, _ => aP13
  | 14, _ => aP14
  | 15, _ => aP15
  | 16, _ => aP16
  | 17, _ => aP17
  | 18, _ => aP18
  | 19, _ => aP19
  | 20, _ => aP20
  | 21, _ => aP21
  | 22, _ => aP22
  | 23, _ => aP23
  | 24, _ => aP24
  | 25, _ => aP25
  | 26, _ => aP26
  | 27, _ => aP27
  | 28, _ => aP28
  | m + 29, h => absurd h (by omega)
theorem aaS : ∀ c, c < 30 → synR c = true
  | 0, _ => aS0
  | 1, _ => aS1
  | 2, _ => aS2
  | 3, _ => aS3
  | 4, _ => aS4
  | 5, _ => aS5
  | 6, _ => aS6
  | 7, _ => aS7
  | 8, _ => aS8
  | 9, _ => aS9
  | 10, _ => aS10
  | 11, _ => aS11
  | 12, _ => aS12
  | 13, _ => aS13
  | 14, _ => aS14
  | 15, _ => aS15
  | 16, _ => aS16
  | 17, _ => aS17
  | 18, _ => aS18
  | 19, _ => aS19
  | 20, _ => aS20
  | 21, _ => aS21
  | 22, _ => aS22
  | 23, _ => aS23
  | 24, _ => aS24
  | 25, _ => aS25
  | 26, _ => aS26
  | 27, _ => aS27
  | 28, _ => aS28
  | 29, _ => aS29
  | m + 30, h => absurd h (by omega)
theorem aaH : ∀ c, c < 30 → hanR c = true
  | 0, _ => aH0
  | 1, _ => aH1
  | 2, _ => aH2
  | 3, _ => aH3
  | 4, _ => aH4
  | 5, _ => aH5
  | 6, _ => aH6
  | 7, _ => aH7
  | 8, _ => aH8
  | 9, _ => aH9
  | 10, _ => aH10
  | 11, _ => aH11
  | 12, _ => aH12
  | 13, _ => aH13
  | 14, _ => aH14
  | 15, _ => aH15
  | 16, _ => aH16
  | 17, _ => aH17
  | 18, _ => aH18
  | 19, _ => aH19
  | 20, _ => aH20
  | 21, _ => aH21
  | 22, _ => aH22
  | 23, _ => aH23
  | 24, _ => aH24
  | 25, _ => aH25
  | 26, _ => aH26
  | 27, _ => aH27
  | 28, _ => aH28
  | 29, _ => aH29
  | m + 30, h => absurd h (by omega)
theorem aaR (n : Nat) : ∀ c, c < 30 → recR c n
  | 0, _ => aR0 n
  | 1, _ => aR1 n
  | 2, _ => aR2 n
  | 3, _ => aR3 n
  | 4, _ => aR4 n
  | 5, _ => aR5 n
  | 6, _ => aR6 n
  | 7, _ => aR7 n
  | 8, _ => aR8 n
  | 9, _ => aR9 n
  | 10, _ => aR10 n
  | 11, _ => aR11 n
  | 12, _ => aR12 n
  | 13, _ => aR13 n
  | 14, _ => aR14 n
  | 15, _ => aR15 n
  | 16, _ => aR16 n
  | 17, _ => aR17 n
  | 18, _ => aR18 n
  | 19, _ => aR19 n
  | 20, _ => aR20 n
  | 21, _ => aR21 n
  | 22, _ => aR22 n
  | 23, _ => aR23 n
  | 24, _ => aR24 n
  | 25, _ => aR25 n
  | 26, _ => aR26 n
  | 27, _ => aR27 n
  | 28, _ => aR28 n
  | 29, _ => aR29 n
  | m + 30, h => absurd h (by omega)
theorem aaY (n : Nat) : ∀ c, c < 30 → sy2R c n
  | 0, _ => aY0 n
  | 1, _ => aY1 n
  | 2, _ => aY2 n
  | 3, _ => aY3 n
  | 4, _ => aY4 n
  | 5, _ => aY5 n
  | 6, _ => aY6 n
  | 7, _ => aY7 n
  | 8, _ => aY8 n
  | 9, _ => aY9 n
  | 10, _ => aY10 n
  | 11, _ => aY11 n
  | 12, _ => aY12 n
  | 13, _ => aY13 n
  | 14, _ => aY14 n
  | 15, _ => aY15 n
  | 16, _ => aY16 n
  | 17, _ => aY17 n
  | 18, _ => aY18 n
  | 19, _ => aY19 n
  | 20, _ => aY20 n
  | 21, _ => aY21 n
  | 22, _ => aY22 n
  | 23, _ => aY23 n
  | 24, _ => aY24 n
  | 25, _ => aY25 n
  | 26, _ => aY26 n
  | 27, _ => aY27 n
  | 28, _ => aY28 n
  | 29, _ => aY29 n
  | m + 30, h => absurd h (by omega)
theorem aaZ : ∀ c, c < 30 → pu2R c = true
  | 0, _ => aZ0
  | 1, _ => aZ1
  | 2, _ => aZ2
  | 3, _ => aZ3
  | 4, _ => aZ4
  | 5, _ => aZ5
  | 6, _ => aZ6
  | 7, _ => aZ7
  | 8, _ => aZ8
  | 9, _ => aZ9
  | 10, _ => aZ10
  | 11, _ => aZ11
  | 12, _ => aZ12
  | 13, _ => aZ13
  | 14, _ => aZ14
  | 15, _ => aZ15
  | 16, _ => aZ16
  | 17, _ => aZ17
  | 18, _ => aZ18
  | 19, _ => aZ19
  | 20, _ => aZ20
  | 21, _ => aZ21
  | 22, _ => aZ22
  | 23, _ => aZ23
  | 24, _ => aZ24
  | 25, _ => aZ25
  | 26, _ => aZ26
  | 27, _ => aZ27
  | 28, _ => aZ28
  | 29, _ => aZ29
  | m + 30, h => absurd h (by omega)
theorem aaW : ∀ c, c < 30 → sy3R c = true
  | 0, _ => aW0
  | 1, _ => aW1
  | 2, _ => aW2
  | 3, _ => aW3
  | 4, _ => aW4
  | 5, _ => aW5
  | 6, _ => aW6
  | 7, _ => aW7
  | 8, _ => aW8
  | 9, _ => aW9
  | 10, _ => aW10
  | 11, _ => aW11
  | 12, _ => aW12
  | 13, _ => aW13
  | 14, _ => aW14
  | 15, _ => aW15
  | 16, _ => aW16
  | 17, _ => aW17
  | 18, _ => aW18
  | 19, _ => aW19
  | 20, _ => aW20
  | 21, _ => aW21
  | 22, _ => aW22
  | 23, _ => aW23
  | 24, _ => aW24
  | 25, _ => aW25
  | 26, _ => aW26
  | 27, _ => aW27
  | 28, _ => aW28
  | 29, _ => aW29
  | m + 30, h => absurd h (by omega)
end Go.Proofs
/- NodeHands: its steps, in states. -/

set_option linter.all false
set_option maxRecDepth 100000
namespace Go.Proofs
open Go Go.Ev
section
variable {M G : Heap} {kn ka kb kd kj kh : K} {c : Nat} {ks : List K} {ws : List (List AV)} {es : List (Int × List Nat)}
theorem all30 {f : Nat → Bool} (h : allB f (List.range 30) = true) {c : Nat} (hc : c < 30) : f c = true := allB_ok h c (List.mem_range.2 hc)
theorem blH_pos (c : Nat) : 0 < (blH c).length := by unfold blH; rw [List.length_cons]; exact Nat.succ_pos _
theorem blY_pos (c : Nat) : 0 < (blY c).length := by unfold blY; rw [List.length_cons]; exact Nat.succ_pos _
theorem yP_0 : ∀ c, c < 29 → (yP c)[0]? = some 1 := by decide
theorem askH_ren (c : Nat) (ρ : K → K) : AV.rens ρ [.agg (askH c)] = [.agg (askH c)] := by simp only [askH, askK, iv, AV.rens, AV.ren]
theorem put_a (hc : c < 29) (h : AN (blH c) M ka ks) : FnOk Tryz.prog 10 [.ptr ka 0, .agg (askH c)] M fun r G => r = .tup [] ∧ AN (blH (c + 1)) G ka ks ∧ Same ks M G := by
  obtain ⟨r1, r2⟩ := runB_t (aaP c hc)
  have h0 : (kL (yP c))[0]? = some .z := by
    rw [kL, List.getElem?_map, yP_0 c hc]; rfl
  refine (step_AN (askH_ren c) h0 (blH_pos c) r1 r2 h).mono ?_
  rintro r G ⟨⟨ρ, rfl⟩, h1, h2⟩
  exact ⟨rfl, h1, h2⟩
theorem yA_0 (c : Nat) : (kL (yA c))[0]? = some .z := by
  rw [kL, List.getElem?_map, yA, List.getElem?_map, List.getElem?_range (blY_pos c)]; rfl
theorem sync_a (hc : c < 30) (h : AN (blH c) M ka ks) : FnOk Tryz.prog 13 [.ptr ka 0] M fun r G => AN (blY c) G ka ks ∧ Same ks M G := by
  obtain ⟨r1, r2⟩ := runB_t (aaS c hc)
  refine (step_AN (a := []) (fun ρ => by rw [AV.rens]) (yA_0 c) (blH_pos c) r1 r2 h).mono ?_
  rintro r G ⟨_, h1, h2⟩
  exact ⟨h1, h2⟩
theorem lsV_pos {k : K} {w n : Nat} (h : n ≠ 0) : lsV k w n = .slice k 0 n w false n := by
  cases n with
  | zero => exact absurd rfl h
  | succ n => rfl
theorem arrI_ls {bl : List Blk} {k : K} {w n : Nat} {xs : List (List AV)} (hl : xs.length = n) (hb : n ≠ 0 → bl[k.toNat - 1]? = some (.row true w xs)) (hz : ∀ ρ, xs.map (AV.rens ρ) = xs) : arrI bl w (lsV k w n) xs := by
  subst hl
  by_cases h : xs.length = 0
  · rw [h]; exact .inl ⟨rfl, List.length_eq_zero_iff.1 h⟩
  · exact .inr ⟨k, true, lsV_pos h, fun e => h (by rw [e]; rfl), hb h, hz⟩
theorem cellsH_len (c : Nat) : (cellsH c).length = min c 9 := by rw [cellsH, List.length_map, List.length_range]
theorem evsH_len (c : Nat) : (evsH c).length = min c 24 := by rw [evsH, List.length_map, List.length_range]
theorem doneH_len (c : Nat) : (doneH c).length = min c 3 := by rw [doneH, List.length_map, List.length_range]
theorem doneH_bare (c : Nat) : bareL (doneH c) := fun d hd => by
  rw [doneH, List.mem_map] at hd
  obtain ⟨s, _, rfl⟩ := hd
  exact ⟨rfl, rfl⟩
theorem hdIs {b0 b1 b2 b3 b5 : Blk} (ep : Int) (c : Nat) : HdIs (b0 :: b1 :: b2 :: b3 :: hold1 :: b5 :: shbH ep c) (sH ep c) := by
  refine ⟨rfl, rfl, arrI_ls ((List.length_map ..).trans (cellsH_len c)) (fun h => ?_) (Cell.map_rens · _), arrI_ls ((List.length_map ..).trans (evsH_len c)) (fun h => ?_) (Evn.map_rens · _), arrI_ls ((List.length_map ..).trans (doneH_len c)) (fun h => ?_) fun ρ => bareL.rens (doneH_bare c) ρ, doneH_bare c, ?_, ?_, ?_⟩
  · cases c with
    | zero => exact absurd rfl h
    | succ c => rfl
  · cases c with
    | zero => exact absurd rfl h
    | succ c => rfl
  · cases c with
    | zero => exact absurd rfl h
    | succ c => rfl
  · show (cellsH c).length < _; rw [cellsH_len]; omega
  · show (evsH c).length < _; rw [evsH_len]; omega
  · show (doneH c).length < _; rw [doneH_len]; omega
/-- Get of a, its copy held -/
theorem get_a (h : AN (blY c) M ka ks) : ∃ kh, (∃ a b d e f g h', M.get ka = some (.row true 8 [[a, b, d, .ptr kh 0, e, f, g, h']])) ∧ FnOk Tryz.prog 15 [.ptr kh 0, .int .i64 1] M fun r X => ∃ S : Sh, r = .tup [.agg S.enc, .bool true] ∧ sameSh S (sH 1 c) ∧ (∃ L, X = M.ext L) ∧ ∃ k2, Oth X k2 ∧ (∀ k ∈ k2, M.nx.toNat ≤ k.toNat) ∧ ∀ Y : Heap, Y.ok → Same k2 X Y → S.ok Y := by
  obtain ⟨hok, hl, κ, hF, h0, ha⟩ := h
  refine ⟨_, ?_, get_fit hF hok (hdIs 1 c) rfl⟩
  rw [hF.blk 0 (nB .nils) ka rfl h0 trivial]
  exact ⟨_, _, _, _, _, _, _, rfl⟩
theorem okP : allB (fun c => an2 (allB (fun d => leN d.length 255) (pH c)) (an2 (leN 1 (pH c).length) (an2 (leN (pH c).length 6) (leN (pH c).flatten.length 100000)))) (List.range 30) = true := by kernel_rfl
theorem pH_ok (hc : c < 30) : (∀ d ∈ pH c, d.length ≤ 255) ∧ 1 ≤ (pH c).length ∧ (pH c).length ≤ 6 ∧ (pH c).flatten.length ≤ 100000 := by
  obtain ⟨h1, h⟩ := an2_t (all30 okP hc)
  obtain ⟨h2, h⟩ := an2_t h
  obtain ⟨h3, h4⟩ := an2_t h
  exact ⟨fun d hd => leN_t (allB_ok h1 d hd), leN_t h2, leN_t h3, leN_t h4⟩
theorem hand_a (hc : c < 30) (h : AN (blY c) M ka ks) : FnOk Tryz.prog 16 [.ptr ka 0, .int .i64 1, .int .i64 1] M fun r G => ∃ kp, r = .tup [.slice kp 0 (pH c).length 1 false (pH c).length, .bool true] ∧ G.get kp = some (.row true 1 ((pH c).map fun p => [.str p])) ∧ G.ok ∧ Same ks M G := by
  obtain ⟨r1, r2⟩ := runB_t (aaH c hc)
  obtain ⟨k0, hk⟩ : ∃ k, kL (yH c) = [k] := by
    have : allB (fun c => Nat.beq (yH c).length 1) (List.range 30) = true := by kernel_rfl
    have := Nat.eq_of_beq_eq_true (all30 this hc)
    obtain ⟨x, hx⟩ := List.length_eq_one_iff.1 this
    exact ⟨kOf x, by rw [hx]; rfl⟩
  rw [hk] at r1 r2
  exact hand_AN r1 r2 h
theorem layR_ : allB (fun c => layQB (tR c)) (List.range 30) = true := by kernel_rfl
theorem layR (hc : c < 30) : LayQ (tR c) := layQ_of (all30 layR_ hc)
/-- install at b -/
theorem ins_b (hc : c < 30) (h : BP M kb kd kj kh ws es) (hne : ws ≠ []) (hN : ws.length < 100000) (ho : Oth M ks) (hf : ∀ (i : Nat) (d : List Nat), (pH c)[i]? = some d → findM es (i : Int) = some d) :
    FnOk Tryz.prog 10 [.ptr kb 0, .agg (mvL 13 1 2 (pH c).length [])] M fun r G => r = .tup [] ∧ SQ (tR c) G kb (ws ++ [instL 0]) ks ∧ Same ks M G := by
  obtain ⟨p1, p2, p3, p4⟩ := pH_ok hc
  obtain ⟨n, hn⟩ : ∃ n, ws.length = n + 1 := ⟨ws.length - 1, by have := List.length_pos_iff.2 hne; omega⟩
  obtain ⟨q1, q2⟩ := (aaR n c hc).ok
  rw [fLN_eq] at q1 q2
  refine inst_b h hne hN ho hf (fun e => by rw [e] at p2; simp at p2) (by omega) (by omega) (layR hc) ⟨kB_ok (yR c), ?_, ?_⟩
  · rw [hn]; exact q1
  · rw [hn]; exact q2
theorem sync_b (hc : c < 30) (hne : ws ≠ []) (h : SQ (tR c) M kb ws ks) (ho : Oth M ks) :
    FnOk Tryz.prog 13 [.ptr kb 0] M fun r G => ∃ kw, r = .slice kw 0 ws.length 24 false ws.length ∧ G.get kw = some (.row true 24 ws) ∧ SQ (tT c) G kb [] ks ∧ Same ks M G :=
  sync_SQ (sel := kB (yS c)) (layR hc) rfl (fun n => ⟨kB_ok (yS c), (aaY n c hc).ok⟩) hne h ho
theorem get_b (h : SQ (tT c) M kb [] ks) : ∃ kh, (∃ a b d e f g h', M.get kb = some (.row true 8 [[a, b, d, .ptr kh 0, e, f, g, h']])) ∧ FnOk Tryz.prog 15 [.ptr kh 0, .int .i64 1] M fun r X => ∃ S : Sh, r = .tup [.agg S.enc, .bool true] ∧ sameSh S (sH 2 c) ∧ (∃ L, X = M.ext L) ∧ ∃ k2, Oth X k2 ∧ (∀ k ∈ k2, M.nx.toNat ≤ k.toNat) ∧ ∀ Y : Heap, Y.ok → Same k2 X Y → S.ok Y := by
  obtain ⟨hok, κ, ⟨hF, h0, _⟩, ha⟩ := h
  refine ⟨_, ?_, get_fit hF hok (hdIs 2 c) rfl⟩
  rw [hF.blk 0 (nP (wN 0)) kb rfl h0 trivial]
  exact ⟨_, _, _, _, _, _, _, rfl⟩
theorem SQ.more {tl : List Blk} {k2 : List K} (h : SQ tl M kb [] ks) (h2 : ∀ k ∈ k2, M.nx.toNat ≤ k.toNat) : SQ tl M kb [] (ks ++ k2) := by
  obtain ⟨hok, κ, hF, ha⟩ := h
  refine ⟨hok, κ, hF, fun k hk hm => ?_⟩
  rcases List.mem_append.1 hk with hk | hk
  · exact ha k hk hm
  · have := hF.1.old k hm
    have := h2 k hk
    omega
theorem last_put (hc : c < 30) (h : SQ (tT c) M kb [] ks) (ho : Oth M ks) : FnOk Tryz.prog 10 [.ptr kb 0, .agg askZ] M fun r G => r = .tup [] ∧ SW saidZ (tW c) G kb ks ∧ Same ks M G := by
  obtain ⟨r1, r2⟩ := runB_t (aaZ c hc)
  exact put_SQ (fun ρ => by simp only [askZ, askK, iv, AV.rens, AV.ren]) rfl r1 r2 h ho
theorem last_sync (hc : c < 30) (h : SW saidZ (tW c) M kb ks) (ho : Oth M ks) : FnOk Tryz.prog 13 [.ptr kb 0] M fun r G => (∃ kw, r = .slice kw 0 1 24 false 1 ∧ G.get kw = some (.row true 24 [saidZ])) ∧ G.ok ∧ Same ks M G := by
  obtain ⟨r1, r2⟩ := runB_t (aaW c hc)
  exact sync_SW (fun ρ => by simp only [saidZ, AV.rens, AV.ren]) r1 r2 h ho
end
end Go.Proofs
/- NodeFeeds: its puts: walked. -/


set_option linter.all false
set_option maxRecDepth 100000
namespace Go.Proofs
open Go Go.Ev
variable {H : Heap}
theorem f12_ok (a b : List Nat) : FnOk Tryz.prog 12 [.str a, .str b] H fun r G => r = .agg [.int .i64 2, .str a, .str [], .str b, .int .i64 0, .nils] ∧ G = H := by
  refine FnOk.drop (R := fun r => r = .agg [.int .i64 2, .str a, .str [], .str b, .int .i64 0, .nils]) ?_ (by rintro v rfl ρ; simp only [AV.ren, AV.rens])
  refine FnOk.of_WW Tryz.func12 rfl C12ok R12ok E0 good_E0 ?_
  simp only [go_sem, C12]
  exact ⟨_, rfl⟩
end Go.Proofs
/- NodeHands: walked. -/


set_option linter.all false
set_option maxRecDepth 100000
namespace Go.Proofs
open Go Go.Ev
section
variable {H : Heap}
theorem f11_any {s id : Nat} (hs : s < 3) (hi : id < 1000) (key val : List Nat) : FnOk Tryz.prog 11 [.int .i64 s, .int .i64 id, .agg [.int .i64 2, .str key, .str [], .str val, .int .i64 0, .nils]] H fun r G => r = .agg (askK s id key val) ∧ G = H := by
  refine FnOk.drop (R := fun r => r = .agg (askK s id key val)) ?_ (by rintro v rfl ρ; simp only [askK, iv, AV.ren, AV.rens])
  refine FnOk.of_WW Tryz.func11 rfl C11ok R11ok E0 good_E0 ?_
  have hz : IntKind.i64.wrap (200 + (s : Int)) = ((200 + s : Nat) : Int) := by rw [wrap_i64 (by omega) (by omega)]; omega
  simp only [go_sem, C11, askK, iv, hz]
  first | done | exact ⟨_, rfl⟩ | exact ⟨rfl, _, rfl⟩ | trace_state
theorem read5' {β : Type} (f : β) (a b c d e : AV) (k : List AV → β) : readC f 1 [[a], [b], [c], [d], [e]] 0 5 k = k [a, b, c, d, e] := rfl
theorem f17_mv (k a b c : Int) : FnOk Tryz.prog 17 [.int .i64 k, .agg [.int .i64 a, .int .i64 b, .int .i64 c, .int .i64 0, .int .i64 0]] H fun r G => r = .agg (mvL k a b c []) ∧ G = H := by
  refine FnOk.assume fun hok => ?_
  refine FnOk.drop (R := fun r => r = .agg (mvL k a b c [])) ?_ (by rintro v rfl ρ; simp only [mvL, AV.ren, AV.rens])
  refine FnOk.of_WW Tryz.func17 rfl C17ok R17ok E0 good_E0 ?_
  simp only [go_sem, C17, read5']
  first | done | exact ⟨rfl, _, rfl⟩ | trace_state
end
def rowA : Blk := .row true 8 [[.int .i64 1, .int .i64 1, .str [], .str [], .bool false, .nils, .nils, .nils]]
theorem rNA : runB 9 [.int .i64 0, .slice .z 0 1 8 true 1] [rowA] (blH 0) (kL [8, 1, 5, 10, 6, 7, 54]) (.ptr .z 0) = true := by kernel_rfl
theorem new_A : FnOk Tryz.prog 9 [.int .i64 0, .slice (hp0.key 0) 0 1 8 true 1] (hp0.ext [rowA]) fun v G => ∃ ka, v = .ptr ka 0 ∧ AN (blH 0) G ka [] := by
  have hF : Fit (hp0.ext [rowA]) [hp0.key 0] [rowA] := by
    refine ⟨rfl, by simp, fun k hk => ?_, fun b hb k hk => ?_, fun i b k hb hk hl => ?_⟩
    · rw [List.mem_singleton.1 hk, nx_small, hp0_key]; decide
    · rw [List.mem_singleton.1 hb] at hk
      simp [Blk.keysA, rowA, AV.keyss, AV.keys] at hk
    · cases i with
      | zero => cases hb; cases hk; rfl
      | succ i => simp at hb
  obtain ⟨r1, r2⟩ := runB_t rNA
  have := FnOk.run good_XC0 r1 r2 hF
  refine this.mono ?_
  rintro v G ⟨κ, hv, hX⟩
  have hl : 0 < κ.length := by rw [hX.fit.len]; exact blH_pos 0
  have e : κ[0]? = some κ[0] := List.getElem?_eq_getElem hl
  refine ⟨κ[0], ?_, hX.ok, by simp, κ, hX.fit, e, by simp [Away]⟩
  rw [hv, AV.ren, rk_some (k := .z) e]
end Go.Proofs
/- NodeHands: the law: walked. -/

set_option linter.all false
set_option maxRecDepth 100000
namespace Go.Proofs
open Go Go.Ev
section
variable {M : Heap} {ka kb kd kj kh : K} {bl : List Blk} {ks k2 : List K}
theorem AN.grow (h : AN bl M ka ks) (L : List Blk) (h2 : ∀ k ∈ k2, M.nx.toNat ≤ k.toNat) (h3 : ∀ k ∈ k2, k.toNat < (M.ext L).nx.toNat) : AN bl (M.ext L) ka (ks ++ k2) := by
  obtain ⟨hok, hl, κ, hF, h0, ha⟩ := h
  refine ⟨Heap.ok_ext hok L, fun k hk => ?_, κ, hF.ext hok L, h0, fun k hk hm => ?_⟩
  · rcases List.mem_append.1 hk with hk | hk
    · exact Nat.lt_of_lt_of_le (hl k hk) (by rw [Heap.nx_ext, Heap.toNat_key]; exact Nat.le_add_right _ _)
    · exact h3 k hk
  · rcases List.mem_append.1 hk with hk | hk
    · exact ha k hk hm
    · have := hF.old k hm
      have := h2 k hk
      omega
theorem Oth.lt (h : Oth M ks) (hok : M.ok) : ∀ k ∈ ks, k.toNat < M.nx.toNat := fun k hk => by
  obtain ⟨wr, w, rows, h1, _⟩ := h k hk
  exact hok _ _ h1
theorem PS.ext {n : Nat} {F : List (Int × List Nat)} (h : PS M kb kd kj kh n F) (L : List Blk) : PS (M.ext L) kb kd kj kh n F := by
  rcases h with ⟨rfl, h⟩ | ⟨ws, es, h, h2⟩
  · exact .inl ⟨rfl, h.ext L⟩
  · exact .inr ⟨ws, es, h.ext L, h2⟩
theorem mv_pushed (a b c : Int) (d : List Nat) (j : Int) : mvL 11 a b c d ≠ pushedL j := fun e => by
  have := congrArg (fun l => l[0]?) e
  simp [mvL, pushedL] at this
theorem Same.left {G : Heap} {k3 : List K} (h : Same (ks ++ k3) M G) : Same ks M G := fun k hk => h k (List.mem_append_left _ hk)
theorem Oth.app {k3 : List K} (h : Oth M ks) (h2 : Oth M k3) : Oth M (ks ++ k3) := fun k hk => by
  rcases List.mem_append.1 hk with hk | hk
  · exact h k hk
  · exact h2 k hk
theorem oth_okp (h : Oth M ks) {G : Heap} (hk : ∀ k b, M.get k = some b → okp b → G.get k = some b) : Same ks M G := fun k hm b hb => by
  obtain ⟨wr, w, rows, h1, h2, h3, h4⟩ := h k hm
  rw [h1] at hb; cases hb
  exact hk k _ h1 ⟨h2, fun e => absurd e h3⟩
end
theorem f11_z {H : Heap} : FnOk Tryz.prog 11 [.int .i64 0, .int .i64 100, .agg [.int .i64 2, .str [122], .str [], .str [119], .int .i64 0, .nils]] H fun r G => r = .agg askZ ∧ G = H := f11_any (s := 0) (id := 100) (by decide) (by decide) [122] [119]
theorem f3_ok {a b : Nat} (ha : a ≤ 255) (hb : b ≤ 255) (tw : Bool) : FnOk Tryz.prog 3 [.int .u8 a, .int .u8 b, .bool tw] hp0 fun r _ => r = .bool true := by
  refine FnOk.of_WW Tryz.func3 rfl C3ok R3ok E0 good_E0 ?_
  obtain ⟨c, hc0⟩ : ∃ c, c = a % 30 := ⟨_, rfl⟩
  have hc : c < 30 := by omega
  have hk30 : IntKind.u8.wrap ((a : Int).tmod 30) = (c : Int) := by
    rw [Int.tmod_eq_emod_of_nonneg (by omega)]
    have := wrap_u8 (m := a % 30) (by omega)
    rw [hc0, ← this]; congr 1
  have hk30' : IntKind.i64.wrap (c : Int) = (c : Int) := wrap_i64 (by omega) (by omega)
  have hk30i : IntKind.i64.wrap ((a : Int).tmod 30) = (c : Int) := by
    rw [Int.tmod_eq_emod_of_nonneg (by omega), wrap_i64 (by omega) (by omega)]; omega
  simp only [go_sem, C3]
  refine CL.of known_ok ?_
  rintro _ G' ⟨rfl, hG⟩; rw [hG]; clear hG
  simp only [go_sem]
  refine CL.of new_A ?_
  rintro _ M ⟨ka, rfl, hA⟩
  refine WW.nil ?_
  simp only [go_sem]
  refine CL.of (new_AB hA) ?_
  rintro _ M ⟨kb, kd, kj, kh, rfl, hB, hA⟩
  refine WW.nil ?_
  simp only [go_sem, hk30, hk30']
  refine LL.sth good_E0 (fun i : Nat => c - i) (fun i M => i ≤ c ∧ AN (blH i) M ka [kb, kd, kj, kh] ∧ B0 M kb kd kj kh)
    (fun i => [(K.z.o, .int .u8 b), (K.z.i, .bool tw), (K.z.o.o.o, .ptr ka 0), (K.z.o.o.i, .ptr kb 0), (K.z.o.i.o, .int .i64 c), (K.z.o.i.i, .int .i64 i)]) ?_ 0 ⟨Nat.zero_le _, hA, hB⟩ (Slots.all (by simp only [go_sem, hk30i]; first | done | rfl | trace_state))
  rintro i M ⟨hic, hA, hB⟩
  have hw : IntKind.i64.wrap ((i : Int) + 1) = ((i + 1 : Nat) : Int) := by rw [wrap_i64 (by omega) (by omega)]; omega
  simp only [go_sem, hw]
  refine ⟨fun hlt => ?_, fun hge => ?_⟩
  · have hlt' : i < c := by omega
    have m3 : (i : Int).tmod 3 = ((i % 3 : Nat) : Int) := by rw [Int.tmod_eq_emod_of_nonneg (by omega)]; omega
    have d3 : IntKind.i64.wrap ((i : Int).tdiv 3) = ((i / 3 : Nat) : Int) := by rw [Int.tdiv_eq_ediv_of_nonneg (by omega), wrap_i64 (by omega) (by omega)]; omega
    have d4 : IntKind.i64.wrap (((i / 3 : Nat) : Int) + 1) = ((i / 3 + 1 : Nat) : Int) := by rw [wrap_i64 (by omega) (by omega)]; omega
    have m9 : (i : Int).tmod 9 = ((i % 9 : Nat) : Int) := by rw [Int.tmod_eq_emod_of_nonneg (by omega)]; omega
    have w3 : IntKind.i64.wrap (97 + ((i % 9 : Nat) : Int)) = ((97 + i % 9 : Nat) : Int) := by rw [wrap_i64 (by omega) (by omega)]; omega
    have w4 : IntKind.u8.wrap ((97 + i % 9 : Nat) : Int) = ((97 + i % 9 : Nat) : Int) := wrap_u8 (by omega)
    have hb1 := fun (f : R1) (d : List Nat → R1) => bytesC_one (β := R1) (m := 97 + i % 9) (by omega) f d
    simp only [go_sem, hw, m3, d3, d4, m9, w3, w4, hb1]
    refine CL.of (f12_ok _ _) ?_
    rintro _ G' ⟨rfl, hG⟩; rw [hG]; clear hG
    simp only [go_sem]
    refine CL.of (f11_any (by omega) (by omega) _ _) ?_
    rintro _ G' ⟨rfl, hG⟩; rw [hG]; clear hG
    simp only [go_sem]
    refine CL.of (put_a (by omega) (hA.ext _)) ?_
    rintro _ M2 ⟨rfl, hA2, hS⟩
    have hB2 : B0 M2 kb kd kj kh := (hB.ext _).same hS hA2.1 (by simp) (by simp) (by simp) (by simp)
    refine WW.nil ?_
    simp only [go_sem, hw]
    exact ⟨i + 1, by show c - (i + 1) < c - i; omega, ⟨by omega, hA2, hB2⟩, Slots.all (by simp only [go_sem]; first | done | rfl | trace_state)⟩
  · obtain rfl : c = i := by omega
    refine CL.of (sync_a hc hA) ?_
    rintro r1 M2 ⟨hA2, hS2⟩
    have hB2 : B0 M2 kb kd kj kh := hB.same hS2 hA2.1 (by simp) (by simp) (by simp) (by simp)
    refine WW.nil ?_
    simp only [go_sem]
    obtain ⟨kha, ⟨x0, x1, x2, x4, x5, x6, x7, hrow⟩, hget⟩ := get_a hA2
    refine CL.of (f14_ok hrow) ?_
    rintro _ G' ⟨rfl, hG⟩; rw [hG]; clear hG
    simp only [go_sem]
    refine CL.of hget ?_
    rintro _ M3 ⟨S, rfl, hsame, ⟨L3, hL3⟩, k2, hO, hlt, hkeep⟩
    have hA3 : AN (blY c) M3 ka ([kb, kd, kj, kh] ++ k2) := by
      have hok3 : M3.ok := by rw [hL3]; exact Heap.ok_ext hA2.1 L3
      have h3 := hO.lt hok3
      rw [hL3] at h3 ⊢
      exact hA2.grow L3 hlt h3
    have hB3 : B0 M3 kb kd kj kh := by rw [hL3]; exact hB2.ext L3
    clear hL3
    refine WW.nil ?_
    simp only [go_sem, Sh.enc]
    obtain ⟨row, hrw⟩ : ∃ row, row = [S.enc] := ⟨_, rfl⟩
    have hA4 : AN (blY c) (M3.ext [.row true 8 [S.enc]]) ka (([kb, kd, kj, kh] ++ k2) ++ [M3.key 0]) := hA3.grow _ (fun k hk => by rw [List.mem_singleton.1 hk, Heap.toNat_key]; omega) (fun k hk => by rw [List.mem_singleton.1 hk, Heap.nx_ext, Heap.toNat_key, Heap.toNat_key]; exact Nat.lt_succ_self _)
    have hB4 : B0 (M3.ext [.row true 8 [S.enc]]) kb kd kj kh := hB3.ext _
    have hO4 : Oth (M3.ext [.row true 8 [S.enc]]) (k2 ++ [M3.key 0]) := ((Same.ext hA3.1 _).oth hO).app fun k hk => by
      rw [List.mem_singleton.1 hk]; exact ⟨true, 8, _, get_lit rfl, fun _ => ⟨S, rfl⟩, by decide, by decide⟩
    have hk4 : ∀ Y : Heap, Y.ok → Same k2 (M3.ext [.row true 8 [S.enc]]) Y → S.ok Y := fun Y hY hYS => hkeep Y hY ((Same.ext hA3.1 _).trans hYS)
    have hS4 : (M3.ext [.row true 8 [S.enc]]).get (M3.key 0) = some (.row true 8 [S.enc]) := get_lit rfl
    obtain ⟨M4, hM4⟩ : ∃ M4, M4 = M3.ext [.row true 8 [S.enc]] := ⟨_, rfl⟩
    rw [← hM4] at hA4 hB4 hO4 hk4 hS4
    simp only [Sh.enc] at hM4
    rw [← hM4]
    obtain ⟨kS, hkS⟩ : ∃ kS, kS = M3.key 0 := ⟨_, rfl⟩
    rw [← hkS] at hA4 hO4 hS4 ⊢
    clear hM4 hkS
    refine CL.of (hand_a hc hA4) ?_
    rintro _ M5 ⟨kp, rfl, hkp, hok5, hS5⟩
    have hB5 : B0 M5 kb kd kj kh := hB4.same hS5 hok5 (by simp) (by simp) (by simp) (by simp)
    have hS5' : Same (k2 ++ [kS]) M4 M5 := fun k hk => hS5 k (by
      simp only [List.mem_append] at hk ⊢
      rcases hk with hk | hk
      · exact .inl (.inr hk)
      · exact .inr hk)
    have hO5 : Oth M5 ((k2 ++ [kS]) ++ [kp]) := (hS5'.oth hO4).app fun k hk => by
      rw [List.mem_singleton.1 hk]; exact ⟨true, 1, _, hkp, fun e => absurd e (by decide), by decide, by decide⟩
    have hS5S : M5.get kS = some (.row true 8 [S.enc]) := hS5' kS (by simp) _ hS4
    have hk5 : ∀ Y : Heap, Y.ok → Same k2 M5 Y → S.ok Y := fun Y hY hYS => hk4 Y hY (hS5'.left.trans hYS)
    clear hA4 hB4 hO4 hk4 hS4 hA3 hB3 hS5 hS5' hget hrow hO hlt hkeep hA2 hB2 hS2
    obtain ⟨p1, p2, p3, p4⟩ := pH_ok hc
    obtain ⟨ps, hps⟩ : ∃ ps, ps = pH c := ⟨_, rfl⟩
    rw [← hps] at hkp p1 p2 p3 p4 ⊢
    refine WW.nil ?_
    simp only [go_sem]
    refine LL.sth good_E0 (fun i : Nat => ps.length - i) (fun i M => i ≤ ps.length ∧ M.ok ∧ Same ((k2 ++ [kS]) ++ [kp]) M5 M ∧ ∃ F, PS M kb kd kj kh (2 * i) F ∧ (∀ m, m < i → ∃ d, ps[(m + b) % ps.length]? = some d ∧ ((((m + b) % ps.length : Nat) : Int), d) ∈ F) ∧ ∀ q ∈ F, ∃ m : Nat, ps[m]? = some q.2 ∧ q.1 = (m : Int))
      (fun i => [(K.z.o, .int .u8 b), (K.z.i, .bool tw), (K.z.o.o.i, .ptr kb 0), (K.z.i.o.o, .ptr kS 0), (K.z.i.i.o, .slice kp 0 ps.length 1 false ps.length), (K.z.o.o.o.o, .int .i64 i)]) ?_ 0 ⟨Nat.zero_le _, (by rw [Heap.ext_nil]; exact hok5), (by rw [Heap.ext_nil]; exact (fun _ _ _ h => h)), [], (by rw [Heap.ext_nil]; exact .inl ⟨rfl, hB5⟩), fun m h => absurd h (by omega), by simp⟩ (Slots.all (by simp only [go_sem]; first | done | rfl | trace_state))
    rintro i M ⟨hin, hokM, hSM, F, hPS, hF1, hF2⟩
    have hw : IntKind.i64.wrap ((i : Int) + 1) = ((i + 1 : Nat) : Int) := by rw [wrap_i64 (by omega) (by omega)]; omega
    simp only [go_sem, hw]
    refine ⟨fun hlt => ?_, fun hge => ?_⟩
    · obtain ⟨j, hj⟩ : ∃ j, j = (i + b) % ps.length := ⟨_, rfl⟩
      have hjl : j < ps.length := by rw [hj]; exact Nat.mod_lt _ (by omega)
      have hu : IntKind.i64.wrap (b : Int) = (b : Int) := wrap_i64 (by omega) (by omega)
      have hu2 : IntKind.i64.wrap ((i : Int) + (b : Int)) = ((i + b : Nat) : Int) := by rw [wrap_i64 (by omega) (by omega)]; omega
      have hj2 : ((i + b : Nat) : Int).tmod (ps.length : Int) = (j : Int) := by rw [Int.tmod_eq_emod_of_nonneg (by omega), hj]; omega
      have hne : ¬ ((ps.length : Int) = 0) := by omega
      have hnl : ¬ ps.length = 0 := by omega
      simp only [go_sem, hu, hu2, hj2, hne, hnl]
      refine CL.of (f17_mv 11 1 2 j) ?_
      rintro _ G' ⟨rfl, hG⟩; rw [hG]; clear hG
      obtain ⟨d, hd⟩ : ∃ d, ps[j]? = some d := ⟨ps[j], List.getElem?_eq_getElem hjl⟩
      have hdl : d.length ≤ 255 := p1 d (List.mem_of_getElem? hd)
      have hkpM := fun L => Heap.get_ext_old hokM (hSM kp (by simp) _ hkp) L
      have hrd : ∀ k : List AV → R1, readC R1.fail 1 (ps.map fun p => [AV.str p]) (j * 1) 1 k = k [.str d] := fun k => by
        have := readC_at (β := R1) R1.fail 1 (ps.map fun p => [AV.str p]) j 0 1 k (by decide) (by decide)
        rw [Nat.add_zero] at this
        rw [this, List.getElem?_map, hd]
        rfl
      have hjl1 : j + 1 ≤ ps.length := hjl
      simp only [go_sem, mvL, hkpM, hrd, hjl1]
      have hF3 : ∀ q ∈ F, q.1 = (j : Int) → q.2 = d := fun q hq e => by
        obtain ⟨m, m1, m2⟩ := hF2 q hq
        have : m = j := by rw [e] at m2; omega
        rw [this, hd] at m1
        exact (Option.some.inj m1).symm
      have e1 := push_PS (M := M.ext [.row true 24 [mvL 11 1 2 j d]]) (hPS.ext _) (j := j) (by omega) (by omega) hdl (by omega) hF3
      simp only [mvL] at e1
      refine CL.of e1 ?_
      rintro _ M6 ⟨rfl, hPS6, hok6, hkeep6⟩
      have hSM6 : Same ((k2 ++ [kS]) ++ [kp]) M5 M6 := hSM.trans ((Same.ext hokM _).trans (oth_okp ((Same.ext hokM _).oth (hSM.oth hO5)) hkeep6))
      have hlet : M6.get (M.key 0) = some (.row true 24 [mvL 11 1 2 j d]) := hkeep6 _ _ (get_lit rfl) ⟨fun e => absurd e (by decide), fun _ => ⟨_, rfl, mv_pushed 1 2 j d⟩⟩
      have hlet' := hlet
      simp only [mvL] at hlet'
      have hletL := fun L => Heap.get_ext_old hok6 hlet' L
      have hF6 : ∀ F2 : List (Int × List Nat), (∀ q ∈ ((j : Int), d) :: F, q ∈ F2) → ∀ m, m < i + 1 → ∃ d, ps[(m + b) % ps.length]? = some d ∧ ((((m + b) % ps.length : Nat) : Int), d) ∈ F2 := fun F2 h m hm => by
        by_cases e : m = i
        · subst e
          rw [← hj]
          exact ⟨d, hd, h _ List.mem_cons_self⟩
        · obtain ⟨d', q1, q2⟩ := hF1 m (by omega)
          have q3 := h _ (List.mem_cons_of_mem _ q2)
          exact ⟨d', q1, q3⟩
      have hF7 : ∀ q ∈ ((j : Int), d) :: F, ∃ m : Nat, ps[m]? = some q.2 ∧ q.1 = (m : Int) := fun q hq => by
        rcases List.mem_cons.1 hq with rfl | hq
        · exact ⟨j, hd, rfl⟩
        · exact hF2 q hq
      refine WW.nil ?_
      cases tw with
      | false =>
        simp only [go_sem, hw]
        have hPS7 : PS M6 kb kd kj kh (2 * (i + 1)) (((j : Int), d) :: F) := by
          rcases hPS6 with ⟨e, _⟩ | ⟨ws, es, q1, q2, q3, q4⟩
          · cases e
          · exact .inr ⟨ws, es, q1, q2, by omega, q4⟩
        exact ⟨i + 1, by show ps.length - (i + 1) < ps.length - i; omega, ⟨by omega, by first | exact hok6 | (rw [Heap.ext_nil]; exact hok6), by first | exact hSM6 | (rw [Heap.ext_nil]; exact hSM6), _, by first | exact hPS7 | (rw [Heap.ext_nil]; exact hPS7), hF6 _ fun _ h => h, hF7⟩, Slots.all (by simp only [go_sem]; first | done | rfl | trace_state)⟩
      | true =>
        simp only [go_sem, hw, hletL]
        have e2 := push_PS hPS6 (j := j) (by omega) (by omega) hdl (by omega) fun q hq e => by
          rcases List.mem_cons.1 hq with rfl | hq
          · rfl
          · exact hF3 q hq e
        simp only [mvL] at e2
        rw [Heap.ext_nil]
        refine CL.of e2 ?_
        rintro _ M7 ⟨rfl, hPS7, hok7, hkeep7⟩
        have hSM7 : Same ((k2 ++ [kS]) ++ [kp]) M5 M7 := hSM6.trans (oth_okp (hSM6.oth hO5) hkeep7)
        have hPS8 : PS M7 kb kd kj kh (2 * (i + 1)) (((j : Int), d) :: ((j : Int), d) :: F) := by
          rcases hPS7 with ⟨e, _⟩ | ⟨ws, es, q1, q2, q3, q4⟩
          · cases e
          · exact .inr ⟨ws, es, q1, q2, by omega, q4⟩
        refine WW.nil ?_
        simp only [go_sem, hw]
        exact ⟨i + 1, by show ps.length - (i + 1) < ps.length - i; omega, ⟨by omega, by first | exact hok7 | (rw [Heap.ext_nil]; exact hok7), by first | exact hSM7 | (rw [Heap.ext_nil]; exact hSM7), _, by first | exact hPS8 | (rw [Heap.ext_nil]; exact hPS8), hF6 _ fun _ h => List.mem_cons_of_mem _ h, fun q hq => by
          rcases List.mem_cons.1 hq with rfl | hq
          · exact ⟨j, hd, rfl⟩
          · exact hF7 q hq⟩, Slots.all (by simp only [go_sem]; first | done | rfl | trace_state)⟩
    · obtain rfl : i = ps.length := by omega
      rcases hPS with ⟨rfl, _⟩ | ⟨ws, es, hBP, hne, hwl, -, hfd⟩
      · obtain ⟨d, _, q⟩ := hF1 0 (by omega)
        cases q
      have hf : ∀ (q : Nat) (d : List Nat), ps[q]? = some d → findM es (q : Int) = some d := fun q d hq => by
        have hql : q < ps.length := (List.getElem?_eq_some_iff.1 hq).1
        have hm : ((q + (ps.length - b % ps.length)) % ps.length + b) % ps.length = q := by
          rw [Nat.mod_add_mod]
          have h1 := Nat.div_add_mod b ps.length
          have h2 : b % ps.length < ps.length := Nat.mod_lt _ (by omega)
          have h3 : q + (ps.length - b % ps.length) + b = q + ps.length * (b / ps.length + 1) := by rw [Nat.mul_succ]; omega
          rw [h3, Nat.add_mul_mod_self_left, Nat.mod_eq_of_lt hql]
        obtain ⟨d', q1, q2⟩ := hF1 ((q + (ps.length - b % ps.length)) % ps.length) (Nat.mod_lt _ (by omega))
        rw [hm] at q1 q2
        rw [hq] at q1
        rw [hfd _ q2, Option.some.inj q1]
      refine CL.of (f17_mv 13 1 2 ps.length) ?_
      rintro _ G' ⟨rfl, hG⟩; rw [hG]; clear hG
      simp only [go_sem, mvL]
      rw [Heap.ext_nil]
      have e1 := ins_b hc hBP hne (by omega) (hSM.oth hO5) (by rw [← hps]; exact hf)
      rw [← hps] at e1
      simp only [mvL] at e1
      refine CL.of e1 ?_
      rintro _ M8 ⟨rfl, hQ8, hS8⟩
      have hS8 := hSM.trans hS8
      refine WW.nil ?_
      simp only [go_sem]
      rw [Heap.ext_nil]
      refine CL.of (sync_b hc (by simp) hQ8 (hS8.oth hO5)) ?_
      rintro _ M9 ⟨kw, rfl, hkw, hQ9, hS9⟩
      have hS9 := hS8.trans hS9
      have hok9 := hQ9.1
      obtain ⟨W, hW⟩ : ∃ W, W = ws ++ [instL 0] := ⟨_, rfl⟩
      obtain ⟨n, hn⟩ : ∃ n, n = ws.length := ⟨_, rfl⟩
      have hWl : W.length = n + 1 := by rw [hW, List.length_append, hn]; rfl
      have hlast : W[n]? = some (instL 0) := by rw [hW, hn, List.getElem?_append_right (Nat.le_refl _), Nat.sub_self]; rfl
      rw [← hW] at hkw ⊢
      obtain ⟨lv, hlv⟩ : ∃ lv, lv = AV.slice kw 0 W.length 24 false W.length := ⟨_, rfl⟩
      have hAr : Arr M9 24 lv W := by
        rw [hlv]
        exact .inr ⟨kw, 0, false, _, rfl, hok9 _ _ hkw, fun _ => ⟨0, true, W, rfl, hkw, by rw [List.drop_zero, List.take_length]⟩⟩
      rw [← hlv]
      have hlen := fun G => hAr.len G
      rw [hWl] at hlen
      obtain ⟨kk, r, ex', cap', wr, rows, hv, -, hgo, hrow⟩ := hAr.at hok9 (j := n) (by omega)
      rw [List.getElem?_eq_getElem (by omega)] at hlast
      rw [Option.some.inj hlast] at hrow
      have hgo0 := hgo []
      rw [Heap.ext_nil] at hgo0
      rw [hWl] at hv
      simp only [instL] at hrow
      have z1 : ¬ ((n + 1 : Nat) : Int) = 0 := by omega
      have z2 : IntKind.i64.wrap (((n + 1 : Nat) : Int) - 1) = (n : Int) := by rw [wrap_i64 (by omega) (by omega)]; omega
      have z3 : n + 1 ≤ n + 1 := Nat.le_refl _
      have e2 : (r + n) * 24 + 3 + 2 = (r + n) * 24 + 5 := rfl
      clear hlv hkw
      refine WW.nil ?_
      have z4 : n ≤ n := Nat.le_refl _
      simp only [go_sem, hlen, z1, z2, hv, z3, z4, hgo, hgo0, hrow, e2]
      obtain ⟨khb, ⟨y0, y1, y2, y4, y5, y6, y7, hrow9⟩, hget9⟩ := get_b hQ9
      try rw [Heap.ext_nil]
      refine CL.of (f14_ok hrow9) ?_
      rintro _ G' ⟨rfl, hG⟩; rw [hG]; clear hG
      simp only [go_sem]
      refine CL.of hget9 ?_
      rintro _ M10 ⟨S2, rfl, hsame2, ⟨L10, hL10⟩, k5, hO10, hlt10, hkeep10⟩
      have hQ10 : SQ (tT c) M10 kb [] (((k2 ++ [kS]) ++ [kp]) ++ k5) := by rw [hL10]; exact (hQ9.more hlt10).ext L10
      have hS10 : Same ((k2 ++ [kS]) ++ [kp]) M5 M10 := by rw [hL10]; exact hS9.trans (Same.ext hok9 _)
      clear hL10
      refine WW.nil ?_
      simp only [go_sem, Sh.enc]
      obtain ⟨T, hT⟩ : ∃ T : Sh, T = { S2 with ep := 1 } := ⟨_, rfl⟩
      have hT1 : ∀ Y : Heap, S2.ok Y → T.ok Y := fun Y h => by rw [hT]; exact ⟨h.c, h.e, h.d, h.dok, h.cl, h.el, h.dl⟩
      have hTe : T.enc = [.int .i64 S2.id, .int .i64 1, .str S2.fr, .str S2.to, .bool S2.frz, S2.cv, S2.ev, S2.dv] := by rw [hT]; rfl
      have hTs : sameSh T S := by
        obtain ⟨s1, s2, s3, s4, s5, s6, s7, s8⟩ := hsame2
        obtain ⟨t1, t2, t3, t4, t5, t6, t7, t8⟩ := hsame
        rw [hT]
        exact ⟨s1.trans t1.symm, t2.symm, s3.trans t3.symm, s4.trans t4.symm, s5.trans t5.symm, s6.trans t6.symm, s7.trans t7.symm, s8.trans t8.symm⟩
      rw [← hTe]
      have hok10 := hQ10.1
      have hQ11 : SQ (tT c) (M10.ext [.row true 8 [T.enc]]) kb [] ((((k2 ++ [kS]) ++ [kp]) ++ k5) ++ [M10.key 0]) := (hQ10.more (k2 := [M10.key 0]) fun k hk => by rw [List.mem_singleton.1 hk, Heap.toNat_key]; omega).ext _
      have hO11 : Oth (M10.ext [.row true 8 [T.enc]]) ((((k2 ++ [kS]) ++ [kp]) ++ k5) ++ [M10.key 0]) := ((Same.ext hok10 _).oth ((hS10.oth hO5).app hO10)).app fun k hk => by
        rw [List.mem_singleton.1 hk]; exact ⟨true, 8, _, get_lit rfl, fun _ => ⟨T, rfl⟩, by decide, by decide⟩
      have hS11 : Same ((k2 ++ [kS]) ++ [kp]) M5 (M10.ext [.row true 8 [T.enc]]) := hS10.trans (Same.ext hok10 _)
      have hk11 : ∀ Y : Heap, Y.ok → Same k5 (M10.ext [.row true 8 [T.enc]]) Y → T.ok Y := fun Y hY hYS => hT1 Y (hkeep10 Y hY ((Same.ext hok10 _).trans hYS))
      have hT11 : (M10.ext [.row true 8 [T.enc]]).get (M10.key 0) = some (.row true 8 [T.enc]) := get_lit rfl
      obtain ⟨M11, hM11⟩ : ∃ M11, M11 = M10.ext [.row true 8 [T.enc]] := ⟨_, rfl⟩
      obtain ⟨kT, hkT⟩ : ∃ kT, kT = M10.key 0 := ⟨_, rfl⟩
      rw [← hM11] at hQ11 hO11 hS11 hk11 hT11 ⊢
      rw [← hkT] at hQ11 hO11 hT11 ⊢
      clear hM11 hkT
      refine CL.of (f12_ok _ _) ?_
      rintro _ G' ⟨rfl, hG⟩; rw [hG]; clear hG
      simp only [go_sem]
      refine CL.of f11_z ?_
      rintro _ G' ⟨rfl, hG⟩; rw [hG]; clear hG
      simp only [go_sem]
      refine CL.of (last_put hc hQ11 hO11) ?_
      rintro _ M12 ⟨rfl, hW12, hS12⟩
      refine WW.nil ?_
      simp only [go_sem]
      try rw [Heap.ext_nil]
      refine CL.of (last_sync hc hW12 (hS12.oth hO11)) ?_
      rintro _ M13 ⟨⟨kw2, rfl, hkw2⟩, hok13, hS13⟩
      have hS13 := hS12.trans hS13
      have g1 := hS13 kT (by simp) _ hT11
      have g2 := hS13 kS (by simp) _ (hS11 kS (by simp) _ hS5S)
      have o1 : T.ok M13 := hk11 M13 hok13 fun k hk => hS13 k (by simp [hk])
      have o2 : S.ok M13 := hk5 M13 hok13 fun k hk b hb => hS13 k (by simp [hk]) b (hS11 k (by simp [hk]) b hb)
      have g1L := fun L => Heap.get_ext_old hok13 g1 L
      have g2L := fun L => Heap.get_ext_old hok13 g2 L
      have g3L := fun L => Heap.get_ext_old hok13 hkw2 L
      have e18 := f18_same o1 o2 hTs
      simp only [Sh.enc] at g1L g2L e18 g1 g2
      simp only [saidZ] at g3L hkw2
      refine WW.nil ?_
      simp only [go_sem, g1, g2, g1L, g2L]
      try rw [Heap.ext_nil]
      refine CL.of e18 ?_
      rintro _ G' ⟨rfl, hG⟩; rw [hG]; clear hG
      simp only [go_sem, hkw2, g3L]
      first | done | trace_state
end Go.Proofs
