/- NodeHands: all that is reckoned. -/
import Derived.Test.YtkhaejbkdgbjcaaGreatDoorZ30
import Derived.Test.YtkhaejbkdgbjcaaGreatDoorZ29
import Derived.Test.YtkhaejbkdgbjcaaGreatDoorZ28
import Derived.Test.YtkhaejbkdgbjcaaGreatDoorZ27
import Derived.Test.YtkhaejbkdgbjcaaGreatDoorZ26
import Derived.Test.YtkhaejbkdgbjcaaGreatDoorZ25
import Derived.Test.YtkhaejbkdgbjcaaGreatDoorZ24
import Derived.Test.YtkhaejbkdgbjcaaGreatDoorZ23
import Derived.Test.YtkhaejbkdgbjcaaGreatDoorZ22
import Derived.Test.YtkhaejbkdgbjcaaGreatDoorZ21
import Derived.Test.YtkhaejbkdgbjcaaGreatDoorZ20
import Derived.KernelRfl
set_option linter.all false
set_option maxRecDepth 100000
namespace Go.Proofs
open Go Go.Ev
theorem aaP : ∀ c, c < 29 → putR c = true
  | 0, _ => aP0
  | 1, _ => aP1
  | 2, _ => aP2
  | 3, _ => aP3
  | 4, _ => aP4
  | 5, _ => aP5
  | 6, _ => aP6
  | 7, _ => aP7
  | 8, _ => aP8
  | 9, _ => aP9
  | 10, _ => aP10
  | 11, _ => aP11
  | 12, _ => aP12
  | 13, _ => aP13
  | 14, _ => aP14
  | 15, _ => aP15
  | 16, _ => aP16
  | 17, _ => aP17
  | 18, _ => aP18
  | 19, _ => aP19
  | 20, _ => aP20
  | 21, _ => aP21
  | 22, _ => aP22
  | 23, _ => aP23
  | 24, _ => aP24
  | 25, _ => aP25
  | 26, _ => aP26
  | 27, _ => aP27
  | 28, _ => aP28
  | m + 29, h => absurd h (by omega)
theorem aaS : ∀ c, c < 30 → synR c = true
  | 0, _ => aS0
  | 1, _ => aS1
  | 2, _ => aS2
  | 3, _ => aS3
  | 4, _ => aS4
  | 5, _ => aS5
  | 6, _ => aS6
  | 7, _ => aS7
  | 8, _ => aS8
  | 9, _ => aS9
  | 10, _ => aS10
  | 11, _ => aS11
  | 12, _ => aS12
  | 13, _ => aS13
  | 14, _ => aS14
  | 15, _ => aS15
  | 16, _ => aS16
  | 17, _ => aS17
  | 18, _ => aS18
  | 19, _ => aS19
  | 20, _ => aS20
  | 21, _ => aS21
  | 22, _ => aS22
  | 23, _ => aS23
  | 24, _ => aS24
  | 25, _ => aS25
  | 26, _ => aS26
  | 27, _ => aS27
  | 28, _ => aS28
  | 29, _ => aS29
  | m + 30, h => absurd h (by omega)
theorem aaH : ∀ c, c < 30 → hanR c = true
  | 0, _ => aH0
  | 1, _ => aH1
  | 2, _ => aH2
  | 3, _ => aH3
  | 4, _ => aH4
  | 5, _ => aH5
  | 6, _ => aH6
  | 7, _ => aH7
  | 8, _ => aH8
  | 9, _ => aH9
  | 10, _ => aH10
  | 11, _ => aH11
  | 12, _ => aH12
  | 13, _ => aH13
  | 14, _ => aH14
  | 15, _ => aH15
  | 16, _ => aH16
  | 17, _ => aH17
  | 18, _ => aH18
  | 19, _ => aH19
  | 20, _ => aH20
  | 21, _ => aH21
  | 22, _ => aH22
  | 23, _ => aH23
  | 24, _ => aH24
  | 25, _ => aH25
  | 26, _ => aH26
  | 27, _ => aH27
  | 28, _ => aH28
  | 29, _ => aH29
  | m + 30, h => absurd h (by omega)
end Go.Proofs
/- NodeHands: its steps, in states. -/

set_option linter.all false
set_option maxRecDepth 100000
namespace Go.Proofs
open Go Go.Ev
section
variable {M G : Heap} {kn ka kb kd kj kh : K} {c : Nat} {ks : List K} {ws : List (List AV)} {es : List (Int × List Nat)}
theorem all30 {f : Nat → Bool} (h : allB f (List.range 30) = true) {c : Nat} (hc : c < 30) : f c = true := allB_ok h c (List.mem_range.2 hc)
theorem blH_pos (c : Nat) : 0 < (blH c).length := by unfold blH; rw [List.length_cons]; exact Nat.succ_pos _
theorem blY_pos (c : Nat) : 0 < (blY c).length := by unfold blY; rw [List.length_cons]; exact Nat.succ_pos _
theorem yP_0 : ∀ c, c < 29 → (yP c)[0]? = some 1 := by decide
theorem askH_ren (c : Nat) (ρ : K → K) : AV.rens ρ [.agg (askH c)] = [.agg (askH c)] := by simp only [askH, askK, iv, AV.rens, AV.ren]
theorem put_a (hc : c < 29) (h : AN (blH c) M ka ks) : FnOk Tryz.prog 10 [.ptr ka 0, .agg (askH c)] M fun r G => r = .tup [] ∧ AN (blH (c + 1)) G ka ks ∧ Same ks M G := by
  obtain ⟨r1, r2⟩ := runB_t (aaP c hc)
  have h0 : (kL (yP c))[0]? = some .z := by
    rw [kL, List.getElem?_map, yP_0 c hc]; rfl
  refine (step_AN (askH_ren c) h0 (blH_pos c) r1 r2 h).mono ?_
  rintro r G ⟨⟨ρ, rfl⟩, h1, h2⟩
  exact ⟨rfl, h1, h2⟩
theorem yA_0 (c : Nat) : (kL (yA c))[0]? = some .z := by
  rw [kL, List.getElem?_map, yA, List.getElem?_map, List.getElem?_range (blY_pos c)]; rfl
theorem sync_a (hc : c < 30) (h : AN (blH c) M ka ks) : FnOk Tryz.prog 13 [.ptr ka 0] M fun r G => AN (blY c) G ka ks ∧ Same ks M G := by
  obtain ⟨r1, r2⟩ := runB_t (aaS c hc)
  refine (step_AN (a := []) (fun ρ => by rw [AV.rens]) (yA_0 c) (blH_pos c) r1 r2 h).mono ?_
  rintro r G ⟨_, h1, h2⟩
  exact ⟨h1, h2⟩
theorem lsV_pos {k : K} {w n : Nat} (h : n ≠ 0) : lsV k w n = .slice k 0 n w false n := by
  cases n with
  | zero => exact absurd rfl h
  | succ n => rfl
theorem arrI_ls {bl : List Blk} {k : K} {w n : Nat} {xs : List (List AV)} (hl : xs.length = n) (hb : n ≠ 0 → bl[k.toNat - 1]? = some (.row true w xs)) (hz : ∀ ρ, xs.map (AV.rens ρ) = xs) : arrI bl w (lsV k w n) xs := by
  subst hl
  by_cases h : xs.length = 0
  · rw [h]; exact .inl ⟨rfl, List.length_eq_zero_iff.1 h⟩
  · exact .inr ⟨k, true, lsV_pos h, fun e => h (by rw [e]; rfl), hb h, hz⟩
theorem cellsH_len (c : Nat) : (cellsH c).length = min c 9 := by rw [cellsH, List.length_map, List.length_range]
theorem evsH_len (c : Nat) : (evsH c).length = min c 24 := by rw [evsH, List.length_map, List.length_range]
theorem doneH_len (c : Nat) : (doneH c).length = min c 3 := by rw [doneH, List.length_map, List.length_range]
theorem doneH_bare (c : Nat) : bareL (doneH c) := fun d hd => by
  rw [doneH, List.mem_map] at hd
  obtain ⟨s, _, rfl⟩ := hd
  exact ⟨rfl, rfl⟩
theorem hdIs {b0 b1 b2 b3 b5 : Blk} (ep : Int) (c : Nat) : HdIs (b0 :: b1 :: b2 :: b3 :: hold1 :: b5 :: shbH ep c) (sH ep c) := by
  refine ⟨rfl, rfl, arrI_ls ((List.length_map ..).trans (cellsH_len c)) (fun h => ?_) (Cell.map_rens · _), arrI_ls ((List.length_map ..).trans (evsH_len c)) (fun h => ?_) (Evn.map_rens · _), arrI_ls ((List.length_map ..).trans (doneH_len c)) (fun h => ?_) fun ρ => bareL.rens (doneH_bare c) ρ, doneH_bare c, ?_, ?_, ?_⟩
  · cases c with
    | zero => exact absurd rfl h
    | succ c => rfl
  · cases c with
    | zero => exact absurd rfl h
    | succ c => rfl
  · cases c with
    | zero => exact absurd rfl h
    | succ c => rfl
  · show (cellsH c).length < _; rw [cellsH_len]; omega
  · show (evsH c).length < _; rw [evsH_len]; omega
  · show (doneH c).length < _; rw [doneH_len]; omega
theorem okP : allB (fun c => an2 (allB (fun d => leN d.length 255) (pH c)) (an2 (leN 1 (pH c).length) (an2 (leN (pH c).length 6) (leN (pH c).flatten.length 100000)))) (List.range 30) = true := by kernel_rfl
theorem pH_ok (hc : c < 30) : (∀ d ∈ pH c, d.length ≤ 255) ∧ 1 ≤ (pH c).length ∧ (pH c).length ≤ 6 ∧ (pH c).flatten.length ≤ 100000 := by
  obtain ⟨h1, h⟩ := an2_t (all30 okP hc)
  obtain ⟨h2, h⟩ := an2_t h
  obtain ⟨h3, h4⟩ := an2_t h
  exact ⟨fun d hd => leN_t (allB_ok h1 d hd), leN_t h2, leN_t h3, leN_t h4⟩
theorem hand_a (hc : c < 30) (h : AN (blY c) M ka ks) : FnOk Tryz.prog 16 [.ptr ka 0, .int .i64 1, .int .i64 1] M fun r G => ∃ kp, r = .tup [.slice kp 0 (pH c).length 1 false (pH c).length, .bool true] ∧ G.get kp = some (.row true 1 ((pH c).map fun p => [.str p])) ∧ G.ok ∧ Same ks M G := by
  obtain ⟨r1, r2⟩ := runB_t (aaH c hc)
  obtain ⟨k0, hk⟩ : ∃ k, kL (yH c) = [k] := by
    have : allB (fun c => Nat.beq (yH c).length 1) (List.range 30) = true := by kernel_rfl
    have := Nat.eq_of_beq_eq_true (all30 this hc)
    obtain ⟨x, hx⟩ := List.length_eq_one_iff.1 this
    exact ⟨kOf x, by rw [hx]; rfl⟩
  rw [hk] at r1 r2
  exact hand_AN r1 r2 h
theorem layR_ : allB (fun c => layQB (tR c)) (List.range 30) = true := by kernel_rfl
theorem layR (hc : c < 30) : LayQ (tR c) := layQ_of (all30 layR_ hc)
end
end Go.Proofs
/- NodeFeeds: its puts: walked. -/


set_option linter.all false
set_option maxRecDepth 100000
namespace Go.Proofs
open Go Go.Ev
variable {H : Heap}
theorem f12_ok (a b : List Nat) : FnOk Tryz.prog 12 [.str a, .str b] H fun r G => r = .agg [.int .i64 2, .str a, .str [], .str b, .int .i64 0, .nils] ∧ G = H := by
  refine FnOk.drop (R := fun r => r = .agg [.int .i64 2, .str a, .str [], .str b, .int .i64 0, .nils]) ?_ (by rintro v rfl ρ; simp only [AV.ren, AV.rens])
  refine FnOk.of_WW Tryz.func12 rfl C12ok R12ok E0 good_E0 ?_
  simp only [go_sem, C12]
  exact ⟨_, rfl⟩
end Go.Proofs
/- NodeHands: walked. -/


set_option linter.all false
set_option maxRecDepth 100000
namespace Go.Proofs
open Go Go.Ev
section
variable {H : Heap}
theorem f11_any {s id : Nat} (hs : s < 3) (hi : id < 1000) (key val : List Nat) : FnOk Tryz.prog 11 [.int .i64 s, .int .i64 id, .agg [.int .i64 2, .str key, .str [], .str val, .int .i64 0, .nils]] H fun r G => r = .agg (askK s id key val) ∧ G = H := by
  refine FnOk.drop (R := fun r => r = .agg (askK s id key val)) ?_ (by rintro v rfl ρ; simp only [askK, iv, AV.ren, AV.rens])
  refine FnOk.of_WW Tryz.func11 rfl C11ok R11ok E0 good_E0 ?_
  have hz : IntKind.i64.wrap (200 + (s : Int)) = ((200 + s : Nat) : Int) := by rw [wrap_i64 (by omega) (by omega)]; omega
  simp only [go_sem, C11, askK, iv, hz]
  first | done | exact ⟨_, rfl⟩ | exact ⟨rfl, _, rfl⟩ | trace_state
theorem read5' {β : Type} (f : β) (a b c d e : AV) (k : List AV → β) : readC f 1 [[a], [b], [c], [d], [e]] 0 5 k = k [a, b, c, d, e] := rfl
theorem f17_mv (k a b c : Int) : FnOk Tryz.prog 17 [.int .i64 k, .agg [.int .i64 a, .int .i64 b, .int .i64 c, .int .i64 0, .int .i64 0]] H fun r G => r = .agg (mvL k a b c []) ∧ G = H := by
  refine FnOk.assume fun hok => ?_
  refine FnOk.drop (R := fun r => r = .agg (mvL k a b c [])) ?_ (by rintro v rfl ρ; simp only [mvL, AV.ren, AV.rens])
  refine FnOk.of_WW Tryz.func17 rfl C17ok R17ok E0 good_E0 ?_
  simp only [go_sem, C17, read5']
  first | done | exact ⟨rfl, _, rfl⟩ | trace_state
end
def rowA : Blk := .row true 8 [[.int .i64 1, .int .i64 1, .str [], .str [], .bool false, .nils, .nils, .nils]]
theorem rNA : runB 9 [.int .i64 0, .slice .z 0 1 8 true 1] [rowA] (blH 0) (kL [8, 1, 5, 10, 6, 7, 54]) (.ptr .z 0) = true := by kernel_rfl
theorem new_A : FnOk Tryz.prog 9 [.int .i64 0, .slice (hp0.key 0) 0 1 8 true 1] (hp0.ext [rowA]) fun v G => ∃ ka, v = .ptr ka 0 ∧ AN (blH 0) G ka [] := by
  have hF : Fit (hp0.ext [rowA]) [hp0.key 0] [rowA] := by
    refine ⟨rfl, by simp, fun k hk => ?_, fun b hb k hk => ?_, fun i b k hb hk hl => ?_⟩
    · rw [List.mem_singleton.1 hk, nx_small, hp0_key]; decide
    · rw [List.mem_singleton.1 hb] at hk
      simp [Blk.keysA, rowA, AV.keyss, AV.keys] at hk
    · cases i with
      | zero => cases hb; cases hk; rfl
      | succ i => simp at hb
  obtain ⟨r1, r2⟩ := runB_t rNA
  have := FnOk.run good_XC0 r1 r2 hF
  refine this.mono ?_
  rintro v G ⟨κ, hv, hX⟩
  have hl : 0 < κ.length := by rw [hX.fit.len]; exact blH_pos 0
  have e : κ[0]? = some κ[0] := List.getElem?_eq_getElem hl
  refine ⟨κ[0], ?_, hX.ok, by simp, κ, hX.fit, e, by simp [Away]⟩
  rw [hv, AV.ren, rk_some (k := .z) e]
end Go.Proofs
/- NodeHands: the law: walked. -/

set_option linter.all false
set_option maxRecDepth 100000
namespace Go.Proofs
open Go Go.Ev
section
variable {M : Heap} {ka kb kd kj kh : K} {bl : List Blk} {ks k2 : List K}
theorem oth_okp (h : Oth M ks) {G : Heap} (hk : ∀ k b, M.get k = some b → okp b → G.get k = some b) : Same ks M G := fun k hm b hb => by
  obtain ⟨wr, w, rows, h1, h2, h3, h4⟩ := h k hm
  rw [h1] at hb; cases hb
  exact hk k _ h1 ⟨h2, fun e => absurd e h3⟩
end
end Go.Proofs
/- NodeLacks: Sync, Crash at node b with its pieces. -/

set_option linter.all false
set_option maxRecDepth 100000
namespace Go.Proofs
open Go Go.Ev
section
variable {M G : Heap} {kn kd kj kh : K} {ws : List (List AV)} {es : List (Int × List Nat)} {ks : List K}
/-- Sync of b with its pieces -/
theorem rSB (n : Nat) : RunD 13 [.ptr .z 0] (nP (.slice K.z.o 0 (n + 1) 24 false (n + 1)) :: .dead :: tB) (nP .nils :: .dead :: tB) (kB []) (.slice K.z.o 0 (n + 1) 24 false (n + 1)) := ⟨by kernel_rfl, by kernel_rfl⟩
theorem bp_of_fit {κ : List K} {km : K} (hok : G.ok) (hF : Fit G κ (nP .nils :: .dead :: tB)) (hl : κ[0]? = some kn) (h5 : κ[5]? = some km) (hm : G.get km = some (.map (encM es))) : BP G kn (rk κ .z K.z.i) (rk κ .z K.z.o.o) (rk κ .z K.z.o.i) [] es := by
  have hl6 : κ.length = 6 := hF.len
  have e : ∀ i, (hi : i < 6) → κ[i]? = some (κ[i]'(by omega)) := fun i hi => List.getElem?_eq_getElem _
  have g : ∀ {i : Nat} {b : Blk} (k : K), k.toNat - 1 = i → i < 6 → (nP .nils :: .dead :: tB)[i]? = some b → b.live → G.get (rk κ .z k) = some (b.ren (rk κ .z)) := fun {i b} k ek hi hb hlv => by
    rw [rk_some (k := k) (by rw [ek]; exact e i hi)]
    exact hF.blk i b _ hb (e i hi) hlv
  refine ⟨⟨hok, g K.z.i rfl (by decide) rfl trivial, g K.z.o.o rfl (by decide) rfl trivial, g K.z.o.i rfl (by decide) rfl trivial⟩, .nils, km, ?_, .inl ⟨rfl, rfl⟩, hm⟩
  rw [hF.blk 0 (nP .nils) kn rfl hl trivial]
  have e5 : rk κ .z K.z.i.o = km := rk_some (k := K.z.i.o) h5
  rw [← e5]; rfl
theorem sync_BP (h : BP M kn kd kj kh ws es) (hne : ws ≠ []) (ho : Oth M ks) : FnOk Tryz.prog 13 [.ptr kn 0] M fun r G => (∃ kw, r = .slice kw 0 ws.length 24 false ws.length ∧ G.get kw = some (.row true 24 ws)) ∧ (∃ kd kj kh, BP G kn kd kj kh [] es) ∧ Same ks M G := by
  obtain ⟨κ, km, hS, hA, e1, e2, e3, e4, hm⟩ := fit_BP h hne ho
  obtain ⟨n, hn⟩ : ∃ n, ws.length = n + 1 := ⟨ws.length - 1, by have := List.length_pos_iff.2 hne; omega⟩
  have hF := hS.1
  obtain ⟨r1, r2⟩ := (rSB n).ok
  have hFn : Fit M κ (nP (.slice K.z.o 0 (n + 1) 24 false (n + 1)) :: .dead :: tB) := by rw [hn] at hF; exact hF
  have := run_held good_XC0 r1 r2 hFn h.ok ho hA
  have e : AV.rens (rk κ .z) [.ptr .z 0] = [.ptr kn 0] := by simp only [AV.rens, AV.ren, rk_some (k := .z) hS.2.1]
  rw [e] at this
  refine this.mono ?_
  rintro v G ⟨κ', hv, hX, hSm, hA'⟩
  have hst : ∀ i, i < 6 → κ'[i]? = κ[i]? := fun i hi => by
    have := hX.stay i _ (kB_ok [] i hi) (by rw [hp0_key]; exact hi)
    rw [hp0_key] at this
    exact this
  have hl6 : κ.length = 6 := hFn.len
  have h5 : κ[5]? = some km := by
    have : κ[5]? = some (κ[5]'(by omega)) := List.getElem?_eq_getElem _
    rw [this, ← e4]
    exact congrArg some (rk_some (k := K.z.i.o) this).symm
  have hm' : G.get km = some (.map (encM es)) := hX.keep km _ hm fun i c g1 g2 g3 => by
    have := hFn.inj g3 h5
    subst this
    cases g1
    exact g2
  have h1 : κ[1]? = some (κ[1]'(by omega)) := List.getElem?_eq_getElem _
  have hw := hS.2.2.1 hne _ h1
  refine ⟨⟨κ[1]'(by omega), ?_, hX.keep _ _ hw fun i b g1 g2 => fit_no24 hFn (by
    have := lay_tB (n := ws.length)
    rw [hn] at this
    exact this) hw g1 g2⟩, ?_⟩
  · rw [hv, hn]
    show AV.slice (rk κ' .z K.z.o) 0 _ 24 false _ = _
    rw [rk_some (k := K.z.o) ((hst 1 (by decide)).trans h1)]
  exact ⟨⟨_, _, _, bp_of_fit hX.ok hX.fit ((hst 0 (by decide)).trans hS.2.1) ((hst 5 (by decide)).trans h5) hm'⟩, hSm⟩
theorem f92_fresh {wv x7 : AV} {n : Nat} (hn : M.get kn = some (nRow kd kj kh wv (.int .i64 0) (.int .i64 0) x7)) :
    FnOk Tryz.prog 92 [.ptr kn 0, .agg (inL n)] M fun r G => r = .tup [.str [], .bool false] ∧ G = M := by
  refine FnOk.assume fun hok => ?_
  refine FnOk.drop (R := fun r => r = .tup [.str [], .bool false]) ?_ (by rintro v rfl ρ; simp only [AV.ren, AV.rens])
  refine FnOk.of_WW Tryz.func92 rfl C92ok R92ok E0 good_E0 ?_
  have hn' := fun L => Heap.get_ext_old hok hn L
  simp only [nRow] at hn'
  simp only [go_sem, C92, inL, hn']
  first | done | exact ⟨_, rfl⟩ | exact ⟨rfl, _, rfl⟩ | trace_state
end
end Go.Proofs
/- NodeLacks: Crash at node b. -/

set_option linter.all false
set_option maxRecDepth 100000
namespace Go.Proofs
open Go Go.Ev
/-- its row behind a crash -/
def nPc : Blk := .row true 8 [[.int .i64 0, .ptr K.z.o 0, .ptr K.z.i 0, .ptr K.z.o.o 0, .nils, .int .i64 1, .int .i64 2, .map K.z.o.i]]
def blC : List Blk := [nPc, dB, .row true 2 [[.ptr K.z.o 0, .int .i64 1]], hB, .map []]
theorem rCB : runB 19 [.ptr .z 0, .int .i64 0] [nPc, dB, .dead, .dead, .dead] blC (kL [1, 2, 12, 7, 6]) (.tup []) = true := by kernel_rfl
noncomputable def craR (c : Nat) : Bool := runB 19 [.ptr .z 0, .int .i64 0] [nP (.slice K.z.o 0 1 24 false 1), .dead, .row true 2 [[.str (hdB ++ recB c), iv (recB c).length]], .dead, .dead, .dead] blC (kL [1, 3, 13, 8, 7]) (.tup [])
section
variable {M G : Heap} {kn kd kj kh : K} {ws : List (List AV)} {es : List (Int × List Nat)} {ks κ : List K}
/-- so it stands behind a crash -/
theorem bp_crash (hok : G.ok) (hF : Fit G κ blC) (h0 : κ[0]? = some kn) : ∃ kd kj kh, BP G kn kd kj kh [] [] := by
  have hl : κ.length = 5 := hF.len
  obtain ⟨a, b, c, d, e, rfl⟩ : ∃ a b c d e, κ = [a, b, c, d, e] := by
    rcases κ with _ | ⟨a, _ | ⟨b, _ | ⟨c, _ | ⟨d, _ | ⟨e, _ | ⟨f, l⟩⟩⟩⟩⟩⟩ <;> first | (simp at hl; done) | exact ⟨_, _, _, _, _, rfl⟩
  cases h0
  have g0 := hF.blk 0 _ _ rfl rfl trivial
  have g1 := hF.blk 1 _ _ rfl rfl trivial
  have g2 := hF.blk 2 _ _ rfl rfl trivial
  have g3 := hF.blk 3 _ _ rfl rfl trivial
  have g4 := hF.blk 4 _ _ rfl rfl trivial
  exact ⟨b, c, d, ⟨hok, g1, g2, g3⟩, .nils, e, g0, .inl ⟨rfl, rfl⟩, g4⟩
theorem crash_BP (h : BP M kn kd kj kh [] es) (ho : Oth M ks) : FnOk Tryz.prog 19 [.ptr kn 0, .int .i64 0] M fun r G => r = .tup [] ∧ (∃ kd kj kh, BP G kn kd kj kh [] []) ∧ Same ks M G := by
  obtain ⟨wv, km, hn, hw, hm⟩ := h.row
  rcases hw with ⟨_, rfl⟩ | ⟨kw, hne, _⟩
  rotate_left
  · exact absurd rfl hne
  have hd := h.d
  have hj := h.j
  have hh := h.h
  have ne : ∀ {a b : K} {x y : Blk}, M.get a = some x → M.get b = some y → x ≠ y → a ≠ b := fun h1 h2 h3 e => by
    subst e; rw [h1] at h2; exact h3 (Option.some.inj h2)
  have hF : Fit M [kn, kd, kj, kh, km] [nPc, dB, .dead, .dead, .dead] := by
    refine ⟨rfl, ?_, ?_, ?_, ?_⟩
    · simp only [List.nodup_cons, List.mem_cons, List.not_mem_nil, or_false, not_or, List.nodup_nil, and_true, not_false_eq_true]
      refine ⟨⟨?_, ?_, ?_, ?_⟩, ⟨?_, ?_, ?_⟩, ⟨?_, ?_⟩, ?_⟩
      · exact ne hn hd (by unfold nRowP nRow dB; intro e; injection e with _ e _; cases e)
      · exact ne hn hj (by unfold nRowP nRow jB; intro e; injection e with _ e _; cases e)
      · exact ne hn hh (by unfold nRowP nRow hB; intro e; injection e with _ e _; cases e)
      · exact ne hn hm (by unfold nRowP nRow; intro e; cases e)
      · exact ne hd hj (by unfold dB jB; intro e; simp at e)
      · exact ne hd hh (by unfold dB hB; intro e; simp at e)
      · exact ne hd hm (by unfold dB; intro e; cases e)
      · exact ne hj hh (by unfold jB hB; intro e; simp at e)
      · exact ne hj hm (by unfold jB; intro e; cases e)
      · exact ne hh hm (by unfold hB; intro e; cases e)
    · intro k hk
      simp only [List.mem_cons, List.not_mem_nil, or_false] at hk
      rcases hk with rfl | rfl | rfl | rfl | rfl
      · exact h.ok _ _ hn
      · exact h.ok _ _ hd
      · exact h.ok _ _ hj
      · exact h.ok _ _ hh
      · exact h.ok _ _ hm
    · intro b hb k hk
      simp only [List.mem_cons, List.not_mem_nil, or_false] at hb
      show k.toNat ≤ 5
      rcases hb with rfl | rfl | rfl | rfl | rfl
      · have hk : k ∈ [K.z.o, K.z.i, K.z.o.o, K.z.o.i] := by simpa [Blk.keysA, nPc, AV.keyss, AV.keys] using hk
        simp only [List.mem_cons, List.not_mem_nil, or_false] at hk
        rcases hk with rfl | rfl | rfl | rfl <;> decide
      · cases hk
      · cases hk
      · cases hk
      · cases hk
    · intro i b k hb hk hl
      rcases i with _ | _ | _ | _ | _ | i
      · cases hb; cases hk; exact hn
      · cases hb; cases hk; exact hd
      · cases hb; exact hl.elim
      · cases hb; exact hl.elim
      · cases hb; exact hl.elim
      · cases hb
  have hA : Away ks [kn, kd, kj, kh, km] := fun k hk hm2 => by
    obtain ⟨wr, w, rows, q1, q2, q3, q4⟩ := ho k hk
    simp only [List.mem_cons, List.not_mem_nil, or_false] at hm2
    rcases hm2 with rfl | rfl | rfl | rfl | rfl
    · rw [hn] at q1; unfold nRowP nRow at q1; cases q1
      obtain ⟨s, e⟩ := q2 rfl
      simp [Sh.enc] at e
    · rw [hd] at q1; unfold dB at q1; cases q1; exact q4 rfl
    · rw [hj] at q1; unfold jB at q1; cases q1; exact q4 rfl
    · rw [hh] at q1; unfold hB at q1; cases q1; exact q4 rfl
    · rw [hm] at q1; cases q1
  obtain ⟨r1, r2⟩ := runB_t rCB
  have := run_held good_XC0 r1 r2 hF h.ok ho hA
  have e : AV.rens (rk [kn, kd, kj, kh, km] .z) [.ptr .z 0, .int .i64 0] = [.ptr kn 0, .int .i64 0] := by simp only [AV.rens, AV.ren]; rfl
  rw [e] at this
  refine this.mono ?_
  rintro v G ⟨κ', hv, hX, hS, hA'⟩
  exact ⟨by rw [hv]; rfl, bp_crash hX.ok hX.fit (hX.stay 0 .z rfl (by decide)), hS⟩
end
end Go.Proofs
/- NodeLacks: Crash behind an install. -/

set_option linter.all false
set_option maxRecDepth 100000
namespace Go.Proofs
open Go Go.Ev
section
variable {M G : Heap} {kn : K} {ks κ : List K} {c : Nat}
theorem fit_take {bl : List Blk} {n : Nat} (h : Fit M κ bl) (hn : n ≤ bl.length) (hc : ∀ b ∈ bl.take n, ∀ k ∈ b.keysA, k.toNat ≤ n) : Fit M (κ.take n) (bl.take n) := by
  have hl : (bl.take n).length = n := by rw [List.length_take]; omega
  refine ⟨by rw [List.length_take, List.length_take, h.len], List.Nodup.sublist (List.take_sublist n κ) h.nodup, fun k hk => h.old k (List.mem_of_mem_take hk), fun b hb k hk => by rw [hl]; exact hc b hb k hk, fun i b k hb hk hlv => ?_⟩
  have hi : i < n := by have := (List.getElem?_eq_some_iff.1 hb).1; omega
  rw [List.getElem?_take_of_lt hi] at hb hk
  rw [h.blk i b k hb hk hlv]
  refine congrArg some (Blk.ren_congr fun j hj => ?_)
  have hjn := hc b (List.mem_of_getElem? (i := i) (by rw [List.getElem?_take_of_lt hi]; exact hb)) j hj
  have := j.toNat_pos
  unfold rk
  rw [List.getElem?_take_of_lt (by omega)]
theorem crash_SQ (hr : craR c = true) (h : SQ (tR c) M kn [instL 0] ks) (ho : Oth M ks) : FnOk Tryz.prog 19 [.ptr kn 0, .int .i64 0] M fun r G => r = .tup [] ∧ (∃ kd kj kh, BP G kn kd kj kh [] []) ∧ Same ks M G := by
  obtain ⟨hok, κ, ⟨hF, h0, _⟩, ha⟩ := h
  have hF : Fit M κ (blQ 1 (tR c)) := hF
  have hlen : 6 ≤ κ.length := by rw [hF.len]; exact Nat.le_add_left 6 _
  have hM : Fit M (κ.take 6) [nP (wN 1), .dead, .row true 2 [[.str (hdB ++ recB c), iv (recB c).length]], .dead, .dead, .dead] := by
    have h1 : Fit M κ (([nP (wN 1), .dead, .row true 2 [[.str (hdB ++ recB c), iv (recB c).length]], .dead, .dead, .dead] : List Blk) ++ shbH 2 c) := fit_mask hF rfl fun i b hb hl => by
      rcases i with _ | _ | _ | _ | _ | _ | i
      all_goals first
        | exact hb
        | (simp only [List.cons_append, List.getElem?_cons_zero, List.getElem?_cons_succ, Option.some.injEq] at hb; subst hb; exact hl.elim)
    have h2 := fit_take (n := 6) h1 (Nat.le_add_left 6 _) (fun b hb k hk => by
      have hb : b ∈ ([nP (wN 1), .dead, .row true 2 [[.str (hdB ++ recB c), iv (recB c).length]], .dead, .dead, .dead] : List Blk) := hb
      simp only [List.mem_cons, List.not_mem_nil, or_false] at hb
      rcases hb with rfl | rfl | rfl | rfl | rfl | rfl
      · have hk : k ∈ [K.z.i, K.z.o.o, K.z.o.i, K.z.o, K.z.i.o] := by simpa [Blk.keysA, nP, wN, AV.keyss, AV.keys] using hk
        simp only [List.mem_cons, List.not_mem_nil, or_false] at hk
        rcases hk with rfl | rfl | rfl | rfl | rfl <;> decide
      · cases hk
      · cases hk
      · cases hk
      · cases hk
      · cases hk)
    exact h2
  obtain ⟨r1, r2⟩ := runB_t hr
  have hA : Away ks (κ.take 6) := fun k hk hm => ha k hk (List.mem_of_mem_take hm)
  have := run_held good_XC0 r1 r2 hM hok ho hA
  have h06 : (κ.take 6)[0]? = some kn := by rw [List.getElem?_take_of_lt (by decide)]; exact h0
  have e : AV.rens (rk (κ.take 6) .z) [.ptr .z 0, .int .i64 0] = [.ptr kn 0, .int .i64 0] := by simp only [AV.rens, AV.ren, rk_some (k := .z) h06]
  rw [e] at this
  refine this.mono ?_
  rintro v G ⟨κ', hv, hX, hS, hA'⟩
  exact ⟨by rw [hv]; rfl, bp_crash hX.ok hX.fit ((hX.stay 0 .z rfl (show 1 ≤ 6 from by decide)).trans h06), hS⟩
end
end Go.Proofs
/- NodeLacks: Crash behind an install: reckoned. -/

set_option linter.all false
set_option maxRecDepth 100000
namespace Go.Proofs
open Go Go.Ev
theorem cra_a : allB craR [0, 1, 2, 3, 4, 5, 6, 7, 8, 9, 10, 11, 12, 13, 14] = true := by kernel_rfl
theorem cra_b : allB craR [15, 16, 17, 18, 19, 20, 21, 22, 23, 24, 25, 26, 27, 28, 29] = true := by kernel_rfl
theorem cra_ok {c : Nat} (hc : c < 30) : craR c = true := by
  by_cases h : c < 15
  · exact allB_ok cra_a c (by have : c ∈ List.range 15 := List.mem_range.2 h; exact this)
  · refine allB_ok cra_b c ?_
    have : c = 15 ∨ c = 16 ∨ c = 17 ∨ c = 18 ∨ c = 19 ∨ c = 20 ∨ c = 21 ∨ c = 22 ∨ c = 23 ∨ c = 24 ∨ c = 25 ∨ c = 26 ∨ c = 27 ∨ c = 28 ∨ c = 29 := by omega
    rcases this with rfl | rfl | rfl | rfl | rfl | rfl | rfl | rfl | rfl | rfl | rfl | rfl | rfl | rfl | rfl <;> simp
end Go.Proofs
/- NodeLacks: install at a node with nothing to say. -/

set_option linter.all false
set_option maxRecDepth 100000
namespace Go.Proofs
open Go Go.Ev
section
variable {M G X : Heap} {kn ka kd kj kh km : K} {tl tl2 : List Blk} {ws : List (List AV)} {κ ks : List K} {es : List (Int × List Nat)}
theorem fit_BP0 {kw : K} {wr0 : Bool} {rows0 : List (List AV)} (h : BP M kn kd kj kh [] es) (hkw : M.get kw = some (.row wr0 1 rows0)) (hkk : kw ∉ ks) (ho : Oth M ks) : ∃ κ km, StQ tB M kn [] κ ∧ Away ks κ ∧ rk κ .z K.z.i = kd ∧ rk κ .z K.z.o.o = kj ∧ rk κ .z K.z.o.i = kh ∧ rk κ .z K.z.i.o = km ∧ M.get km = some (.map (encM es)) := by
  obtain ⟨wv, km, hn, hw, hm⟩ := h.row
  rcases hw with ⟨_, rfl⟩ | ⟨_, hne, _⟩
  rotate_left
  · exact absurd rfl hne
  have hd := h.d
  have hj := h.j
  have hh := h.h
  have ne : ∀ {a b : K} {x y : Blk}, M.get a = some x → M.get b = some y → x ≠ y → a ≠ b := fun h1 h2 h3 e => by
    subst e; rw [h1] at h2; exact h3 (Option.some.inj h2)
  have hnd : [kn, kw, kd, kj, kh, km].Nodup := by
    simp only [List.nodup_cons, List.mem_cons, List.not_mem_nil, or_false, not_or, List.nodup_nil, and_true, not_false_eq_true]
    refine ⟨⟨?_, ?_, ?_, ?_, ?_⟩, ⟨?_, ?_, ?_, ?_⟩, ⟨?_, ?_, ?_⟩, ⟨?_, ?_⟩, ?_⟩
    · exact ne hn hkw (by unfold nRowP nRow; intro e; injection e with _ e _; cases e)
    · exact ne hn hd (by unfold nRowP nRow dB; intro e; injection e with _ e _; cases e)
    · exact ne hn hj (by unfold nRowP nRow jB; intro e; injection e with _ e _; cases e)
    · exact ne hn hh (by unfold nRowP nRow hB; intro e; injection e with _ e _; cases e)
    · exact ne hn hm (by unfold nRowP nRow; intro e; cases e)
    · exact ne hkw hd (by unfold dB; intro e; injection e with _ e _; cases e)
    · exact ne hkw hj (by unfold jB; intro e; injection e with _ e _; cases e)
    · exact ne hkw hh (by unfold hB; intro e; injection e with _ e _; cases e)
    · exact ne hkw hm (by intro e; cases e)
    · exact ne hd hj (by unfold dB jB; intro e; simp at e)
    · exact ne hd hh (by unfold dB hB; intro e; simp at e)
    · exact ne hd hm (by unfold dB; intro e; cases e)
    · exact ne hj hh (by unfold jB hB; intro e; simp at e)
    · exact ne hj hm (by unfold jB; intro e; cases e)
    · exact ne hh hm (by unfold hB; intro e; cases e)
  refine ⟨[kn, kw, kd, kj, kh, km], km, ⟨⟨rfl, hnd, ?_, ?_, ?_⟩, rfl, fun h => absurd rfl h, fun k hk => by cases hk; exact ⟨_, hm⟩⟩, ?_, rfl, rfl, rfl, rfl, hm⟩
  · intro k hk
    simp only [List.mem_cons, List.not_mem_nil, or_false] at hk
    rcases hk with rfl | rfl | rfl | rfl | rfl | rfl
    · exact h.ok _ _ hn
    · exact h.ok _ _ hkw
    · exact h.ok _ _ hd
    · exact h.ok _ _ hj
    · exact h.ok _ _ hh
    · exact h.ok _ _ hm
  · intro b hb k hk
    simp only [blQ, tB, List.mem_cons, List.not_mem_nil, or_false] at hb
    show k.toNat ≤ 6
    rcases hb with rfl | rfl | rfl | rfl | rfl | rfl
    · have hk : k ∈ [K.z.i, K.z.o.o, K.z.o.i, K.z.i.o] := by
        simpa [Blk.keysA, nP, wN, AV.keyss, AV.keys] using hk
      simp only [List.mem_cons, List.not_mem_nil, or_false] at hk
      rcases hk with rfl | rfl | rfl | rfl <;> decide
    · cases hk
    · cases hk
    · have hk : k ∈ [K.z.i] := by simpa [Blk.keysA, AV.keyss, AV.keys] using hk
      rw [List.mem_singleton.1 hk]; decide
    · cases hk
    · cases hk
  · intro i b k hb hk hl
    rcases i with _ | _ | _ | _ | _ | _ | i
    · cases hb; cases hk
      rw [hn]; rfl
    · cases hb; exact hl.elim
    · cases hb; cases hk; exact hd
    · cases hb; cases hk; exact hj
    · cases hb; cases hk; exact hh
    · cases hb; exact hl.elim
    · cases hb
  · intro k hk hm2
    obtain ⟨wr, w, rows, q1, q2, q3, q4⟩ := ho k hk
    simp only [List.mem_cons, List.not_mem_nil, or_false] at hm2
    rcases hm2 with rfl | rfl | rfl | rfl | rfl | rfl
    · rw [hn] at q1; unfold nRowP nRow at q1; cases q1
      obtain ⟨s, e⟩ := q2 rfl
      simp [Sh.enc] at e
    · exact hkk hk
    · rw [hd] at q1; unfold dB at q1; cases q1; exact q4 rfl
    · rw [hj] at q1; unfold jB at q1; cases q1; exact q4 rfl
    · rw [hh] at q1; unfold hB at q1; cases q1; exact q4 rfl
    · rw [hm] at q1; cases q1
theorem inst_b0 {kw : K} {wr0 : Bool} {rows0 : List (List AV)} {ls : List (List Nat)} {sel : List K} (h : BP M kn kd kj kh [] es) (hkw : M.get kw = some (.row wr0 1 rows0)) (hkk : kw ∉ ks) (ho : Oth M ks) (hf : ∀ (i : Nat) (d : List Nat), ls[i]? = some d → findM es (i : Int) = some d) (hls : ls ≠ []) (hln : ls.length < 1000) (hl : ls.flatten.length < 1000000)
    (hL2 : LayQ tl2) (hr : RunB ls.flatten tl2 sel 0) :
    FnOk Tryz.prog 10 [.ptr kn 0, .agg (mvL 13 1 2 ls.length [])] M fun r G => r = .tup [] ∧ SQ tl2 G kn [instL 0] ks ∧ Same ks M G := by
  obtain ⟨κ, km, hS, hA, e1, e2, e3, e4, hm⟩ := fit_BP0 h hkw hkk ho
  have hrow := hS.row
  have hwt := hS.wt
  rw [e1, e2, e3, e4] at hrow
  refine f10_inst (Q := fun r G => SQ tl2 G kn [instL 0] ks ∧ Same ks M G) h.ok hrow (okI_lo (by decide) (by decide)) (okI_lo (by decide) (by decide)) (okI_lo (by omega) (by omega)) fun L => ?_
  have hokL := Heap.ok_ext h.ok L
  have hSL := hS.ext h.ok L
  refine (f36_in (Φ := fun G => ∃ κ', StQ tl2 G kn [] κ' ∧ same6 κ κ' ∧ G.ok ∧ Same ks (M.ext L) G ∧ Away ks κ') hokL (Heap.get_ext_old h.ok hrow L) (Heap.get_ext_old h.ok h.h L) (hwt.ext h.ok L) (by decide) (Heap.get_ext_old h.ok hm L) hf hls (by omega) hl
    (fun L' => f28_runQ hokL hSL lay_tB hr.1 (by decide) rfl (fun ρ => by simp only [instR, AV.rens, AV.ren]) ((Same.ext h.ok L).oth ho) hA hr.2.1 hr.2.2 L') (fun G' hG => ?_)).mono ?_
  · obtain ⟨κ', g1, g2, g3, -⟩ := hG
    have ew : (wN ([] : List (List AV)).length).ren (rk κ' .z) = (wN ([] : List (List AV)).length).ren (rk κ .z) := AV.ren_congr fun k hk => rk_same g2 (by rw [wN_keys hk]; decide)
    have r := g1.row
    have t := g1.wt
    rw [ew] at r t
    rw [rk_same g2 (k := K.z.i) (by decide), rk_same g2 (k := K.z.o.o) (by decide), rk_same g2 (k := K.z.o.i) (by decide), rk_same g2 (k := K.z.i.o) (by decide), e1, e2, e3, e4] at r
    exact ⟨g3, r, t⟩
  · rintro r G ⟨rfl, G1, ⟨κ', g1, g2, g3, g4, g5⟩, g6, g7, g8⟩
    have ew : (wN ([] : List (List AV)).length).ren (rk κ .z) = (wN ([] : List (List AV)).length).ren (rk κ' .z) := AV.ren_congr fun k hk => (rk_same g2 (by rw [wN_keys hk]; decide)).symm
    have hoL := (Same.ext h.ok L).oth ho
    obtain ⟨q1, q2⟩ := says_SQ hL2 g1 (g4.oth hoL) g5 ((rk_same g2 (k := K.z.i) (by decide)).trans e1) ((rk_same g2 (k := K.z.o.o) (by decide)).trans e2) ((rk_same g2 (k := K.z.o.i) (by decide)).trans e3) ((rk_same g2 (k := K.z.i.o) (by decide)).trans e4) ew g6 g7 g8
    exact ⟨rfl, q1, ((Same.ext h.ok L).trans g4).trans q2⟩
end
end Go.Proofs
/- NodeLacks: Sync of a node that holds nothing. -/


set_option linter.all false
set_option maxRecDepth 100000
namespace Go.Proofs
open Go Go.Ev
section
variable {G : Heap} {kn kd kj kh : K}
theorem f13_bn {wv x5 x6 x7 : AV} {ws : List (List AV)} (h : BN G kn kd kj kh) (hn : G.get kn = some (nRow kd kj kh wv x5 x6 x7)) (hw : isWt G wv ws) :
    FnOk Tryz.prog 13 [.ptr kn 0] G fun r G' => isWt G' r ws ∧ BN G' kn kd kj kh ∧ G'.get kn = some (nRow kd kj kh .nils x5 x6 x7) ∧ Kp [kn, kd] G G' := by
  have hd := h.d
  have hj := h.j
  have hh := h.h
  have ne : ∀ {a b : K} {x y : Blk}, G.get a = some x → G.get b = some y → x ≠ y → a ≠ b := fun h1 h2 h3 e => by
    subst e; rw [h1] at h2; exact h3 (Option.some.inj h2)
  have nkn : kd ≠ kn := ne hd hn (by unfold nRow dB; intro e; injection e with _ e _; cases e)
  have nkj : kd ≠ kj := ne hd hj (by unfold dB jB; intro e; simp at e)
  have nkh : kd ≠ kh := ne hd hh (by unfold dB hB; intro e; simp at e)
  have njn : kn ≠ kj := ne hn hj (by unfold nRow jB; intro e; injection e with _ e _; cases e)
  have nhn : kn ≠ kh := ne hn hh (by unfold nRow hB; intro e; injection e with _ e _; cases e)
  have hd' := hd
  have hj' := hj
  unfold dB at hd'
  unfold jB at hj'
  refine FnOk.of_WW Tryz.func13 rfl C13ok R13ok E0 good_E0 ?_
  have hn' := fun L => Heap.get_ext_old h.ok hn L
  simp only [nRow] at hn'
  simp only [go_sem, C13, hn']
  refine CL.of (f29_ok (Heap.get_ext_old h.ok hj' _) (Heap.get_ext_old h.ok hd' _)) ?_
  rintro _ D ⟨rfl, hD⟩
  rw [Heap.set_ext_old _ _ _ _ (h.ok _ _ hd)] at hD
  rw [Heap.ext_nil] at hD
  have dok : D.ok := by rw [hD]; exact Heap.ok_set h.ok hd
  have dn : D.get kn = some (.row true 8 [[.int .i64 0, .ptr kd 0, .ptr kj 0, .ptr kh 0, wv, x5, x6, x7]]) := by rw [hD, Heap.get_set, if_neg nkn]; exact hn
  have dd : D.get kd = some dB := by rw [hD, Heap.get_set, if_pos rfl]; rfl
  have dj : D.get kj = some (jB kd) := by rw [hD, Heap.get_set, if_neg nkj]; exact hj
  have dh : D.get kh = some hB := by rw [hD, Heap.get_set, if_neg nkh]; exact hh
  have dw : isWt D wv ws := by
    rcases hw with e | ⟨kw, a1, a2, a3⟩
    · exact .inl e
    · refine .inr ⟨kw, a1, a2, ?_⟩
      rw [hD, Heap.get_set, if_neg ?_]
      · exact a3
      · rintro rfl; rw [hd'] at a3; cases a3
  have kpD : ∀ b, Kp [kn, kd] G (D.set kn b) := fun b => ⟨fun j c hj hc => by rw [Heap.get_set, if_neg (by rintro rfl; simp at hj), hD, Heap.get_set, if_neg (by rintro rfl; simp at hj)]; exact hc, by rw [Heap.nx_set, hD, Heap.nx_set]; exact Nat.le_refl _⟩
  clear hD
  have dn' := fun L => Heap.get_ext_old dok dn L
  have s0 : ∀ b (α : Type) (c' : Heap → α), D.setC kn b c' = c' (D.set kn b) := fun b α c' => by
    have := Heap.setC_here dok dn b [] c'
    rwa [Heap.ext_nil, Heap.ext_nil] at this
  refine WW.nil ?_
  simp only [go_sem, dn, s0, Heap.ext_nil]
  have en : ∀ b, (D.set kn b).get kn = some b := fun b => by rw [Heap.get_set, if_pos rfl]
  refine ⟨?_, ⟨Heap.ok_set dok dn, ?_, ?_, ?_⟩, en _, kpD _⟩
  · rcases dw with e | ⟨kw, a1, a2, a3⟩
    · exact .inl e
    · refine .inr ⟨kw, a1, a2, ?_⟩
      rw [Heap.get_set, if_neg ?_]
      · exact a3
      · rintro rfl; rw [dn] at a3; cases a3
  · rw [Heap.get_set, if_neg nkn.symm]; exact dd
  · rw [Heap.get_set, if_neg njn]; exact dj
  · rw [Heap.get_set, if_neg nhn]; exact dh
end
end Go.Proofs
/- NodeLacks: installs at a quiet node: what is to be reckoned. -/

set_option linter.all false
set_option maxRecDepth 100000
namespace Go.Proofs
open Go Go.Ev
noncomputable def quiR (c : Nat) : Bool := runB 28 [.ptr .z 0, .agg (fLN (pH c).flatten instR)] (blQ 0 tB) (blQ 0 (tR c)) (kB (yR c)) (.tup [.agg zA, .nili])
end Go.Proofs
