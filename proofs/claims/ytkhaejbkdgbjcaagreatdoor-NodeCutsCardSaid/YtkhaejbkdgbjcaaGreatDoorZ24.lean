/- NodeCuts: what the states are. -/
import Derived.Test.YtkhaejbkdgbjcaaGreatDoorZ23
import Derived.KernelRfl
set_option linter.all false
set_option maxRecDepth 100000
namespace Go.Proofs
open Go Go.Ev
theorem lay_P : ∀ c, c < 10 → Lay (tP c)
  | 0, _ => lay_of (by kernel_rfl)
  | 1, _ => lay_of (by kernel_rfl)
  | 2, _ => lay_of (by kernel_rfl)
  | 3, _ => lay_of (by kernel_rfl)
  | 4, _ => lay_of (by kernel_rfl)
  | 5, _ => lay_of (by kernel_rfl)
  | 6, _ => lay_of (by kernel_rfl)
  | 7, _ => lay_of (by kernel_rfl)
  | 8, _ => lay_of (by kernel_rfl)
  | 9, _ => lay_of (by kernel_rfl)
  | n + 10, h => absurd h (by omega)
theorem lay_S : ∀ c, c < 10 → Lay (tS c)
  | 0, _ => lay_of (by kernel_rfl)
  | 1, _ => lay_of (by kernel_rfl)
  | 2, _ => lay_of (by kernel_rfl)
  | 3, _ => lay_of (by kernel_rfl)
  | 4, _ => lay_of (by kernel_rfl)
  | 5, _ => lay_of (by kernel_rfl)
  | 6, _ => lay_of (by kernel_rfl)
  | 7, _ => lay_of (by kernel_rfl)
  | 8, _ => lay_of (by kernel_rfl)
  | 9, _ => lay_of (by kernel_rfl)
  | n + 10, h => absurd h (by omega)
theorem lay_J : ∀ c, c < 10 → Lay (tJ c)
  | 0, _ => lay_of (by kernel_rfl)
  | 1, _ => lay_of (by kernel_rfl)
  | 2, _ => lay_of (by kernel_rfl)
  | 3, _ => lay_of (by kernel_rfl)
  | 4, _ => lay_of (by kernel_rfl)
  | 5, _ => lay_of (by kernel_rfl)
  | 6, _ => lay_of (by kernel_rfl)
  | 7, _ => lay_of (by kernel_rfl)
  | 8, _ => lay_of (by kernel_rfl)
  | 9, _ => lay_of (by kernel_rfl)
  | n + 10, h => absurd h (by omega)
theorem gone_S : ∀ c, c < 10 → GoneIs (tS c) 1
  | 0, _ => ⟨_, _, _, _, _, _, [⟨1, 1⟩], rfl, rfl, rfl, by decide, by decide, rfl⟩
  | 1, _ => ⟨_, _, _, _, _, _, [⟨1, 1⟩], rfl, rfl, rfl, by decide, by decide, rfl⟩
  | 2, _ => ⟨_, _, _, _, _, _, [⟨1, 1⟩], rfl, rfl, rfl, by decide, by decide, rfl⟩
  | 3, _ => ⟨_, _, _, _, _, _, [⟨1, 1⟩], rfl, rfl, rfl, by decide, by decide, rfl⟩
  | 4, _ => ⟨_, _, _, _, _, _, [⟨1, 1⟩], rfl, rfl, rfl, by decide, by decide, rfl⟩
  | 5, _ => ⟨_, _, _, _, _, _, [⟨1, 1⟩], rfl, rfl, rfl, by decide, by decide, rfl⟩
  | 6, _ => ⟨_, _, _, _, _, _, [⟨1, 1⟩], rfl, rfl, rfl, by decide, by decide, rfl⟩
  | 7, _ => ⟨_, _, _, _, _, _, [⟨1, 1⟩], rfl, rfl, rfl, by decide, by decide, rfl⟩
  | 8, _ => ⟨_, _, _, _, _, _, [⟨1, 1⟩], rfl, rfl, rfl, by decide, by decide, rfl⟩
  | 9, _ => ⟨_, _, _, _, _, _, [⟨1, 1⟩], rfl, rfl, rfl, by decide, by decide, rfl⟩
  | n + 10, h => absurd h (by omega)
theorem gone_J1 : ∀ c, c < 10 → GoneIs (tJ c) 1
  | 0, _ => ⟨_, _, _, _, _, _, [⟨1, 1⟩, ⟨2, 1⟩, ⟨3, 1⟩], rfl, rfl, rfl, by decide, by decide, rfl⟩
  | 1, _ => ⟨_, _, _, _, _, _, [⟨1, 1⟩, ⟨2, 1⟩, ⟨3, 1⟩], rfl, rfl, rfl, by decide, by decide, rfl⟩
  | 2, _ => ⟨_, _, _, _, _, _, [⟨1, 1⟩, ⟨2, 1⟩, ⟨3, 1⟩], rfl, rfl, rfl, by decide, by decide, rfl⟩
  | 3, _ => ⟨_, _, _, _, _, _, [⟨1, 1⟩, ⟨2, 1⟩, ⟨3, 1⟩], rfl, rfl, rfl, by decide, by decide, rfl⟩
  | 4, _ => ⟨_, _, _, _, _, _, [⟨1, 1⟩, ⟨2, 1⟩, ⟨3, 1⟩], rfl, rfl, rfl, by decide, by decide, rfl⟩
  | 5, _ => ⟨_, _, _, _, _, _, [⟨1, 1⟩, ⟨2, 1⟩, ⟨3, 1⟩], rfl, rfl, rfl, by decide, by decide, rfl⟩
  | 6, _ => ⟨_, _, _, _, _, _, [⟨1, 1⟩, ⟨2, 1⟩, ⟨3, 1⟩], rfl, rfl, rfl, by decide, by decide, rfl⟩
  | 7, _ => ⟨_, _, _, _, _, _, [⟨1, 1⟩, ⟨2, 1⟩, ⟨3, 1⟩], rfl, rfl, rfl, by decide, by decide, rfl⟩
  | 8, _ => ⟨_, _, _, _, _, _, [⟨1, 1⟩, ⟨2, 1⟩, ⟨3, 1⟩], rfl, rfl, rfl, by decide, by decide, rfl⟩
  | 9, _ => ⟨_, _, _, _, _, _, [⟨1, 1⟩, ⟨2, 1⟩, ⟨3, 1⟩], rfl, rfl, rfl, by decide, by decide, rfl⟩
  | n + 10, h => absurd h (by omega)
theorem gone_J2 : ∀ c, c < 10 → GoneIs (tJ c) 2
  | 0, _ => ⟨_, _, _, _, _, _, [⟨1, 1⟩, ⟨2, 1⟩, ⟨3, 1⟩], rfl, rfl, rfl, by decide, by decide, rfl⟩
  | 1, _ => ⟨_, _, _, _, _, _, [⟨1, 1⟩, ⟨2, 1⟩, ⟨3, 1⟩], rfl, rfl, rfl, by decide, by decide, rfl⟩
  | 2, _ => ⟨_, _, _, _, _, _, [⟨1, 1⟩, ⟨2, 1⟩, ⟨3, 1⟩], rfl, rfl, rfl, by decide, by decide, rfl⟩
  | 3, _ => ⟨_, _, _, _, _, _, [⟨1, 1⟩, ⟨2, 1⟩, ⟨3, 1⟩], rfl, rfl, rfl, by decide, by decide, rfl⟩
  | 4, _ => ⟨_, _, _, _, _, _, [⟨1, 1⟩, ⟨2, 1⟩, ⟨3, 1⟩], rfl, rfl, rfl, by decide, by decide, rfl⟩
  | 5, _ => ⟨_, _, _, _, _, _, [⟨1, 1⟩, ⟨2, 1⟩, ⟨3, 1⟩], rfl, rfl, rfl, by decide, by decide, rfl⟩
  | 6, _ => ⟨_, _, _, _, _, _, [⟨1, 1⟩, ⟨2, 1⟩, ⟨3, 1⟩], rfl, rfl, rfl, by decide, by decide, rfl⟩
  | 7, _ => ⟨_, _, _, _, _, _, [⟨1, 1⟩, ⟨2, 1⟩, ⟨3, 1⟩], rfl, rfl, rfl, by decide, by decide, rfl⟩
  | 8, _ => ⟨_, _, _, _, _, _, [⟨1, 1⟩, ⟨2, 1⟩, ⟨3, 1⟩], rfl, rfl, rfl, by decide, by decide, rfl⟩
  | 9, _ => ⟨_, _, _, _, _, _, [⟨1, 1⟩, ⟨2, 1⟩, ⟨3, 1⟩], rfl, rfl, rfl, by decide, by decide, rfl⟩
  | n + 10, h => absurd h (by omega)
end Go.Proofs
/- NodeCuts: its puts, as states. -/


set_option linter.all false
set_option maxRecDepth 100000
namespace Go.Proofs
open Go Go.Ev
section
variable {M G : Heap} {kn : K} {c : Nat}
/-- behind c puts -/
def Pu (c : Nat) (M : Heap) (kn : K) : Prop := M.ok ∧ ∃ κ, Fit M κ (blP c) ∧ κ[0]? = some kn
theorem saidP_ren (i : Nat) (ρ : K → K) : AV.rens ρ (saidP i 1) = saidP i 1 := by simp only [saidP, AV.rens, AV.ren]
theorem wsP_len (c : Nat) : (wsP c).length = c := by rw [wsP, List.length_map, List.length_range]
theorem wB_ren (c : Nat) (ρ : K → K) : (wB c).ren ρ = wB c := by
  cases c with
  | zero => rfl
  | succ n =>
    show Blk.row true 24 ((wsP (n + 1)).map (AV.rens ρ)) = _
    rw [wsP, List.map_map]
    refine congrArg (Blk.row true 24) (List.map_congr_left fun i _ => saidP_ren i ρ)
theorem new_Pu : FnOk Tryz.prog 9 [.int .i64 0, .slice (hp0.key 0) 0 1 8 true 1] (hp0.ext [Blk.row true 8 [[.int .i64 1, .int .i64 1, .str [], .str [], .bool false, .nils, .nils, .nils]]]) fun v G => ∃ kn, v = .ptr kn 0 ∧ Pu 0 G kn := by
  have hF : Fit (hp0.ext [Blk.row true 8 [[.int .i64 1, .int .i64 1, .str [], .str [], .bool false, .nils, .nils, .nils]]]) [hp0.key 0] [Blk.row true 8 [[.int .i64 1, .int .i64 1, .str [], .str [], .bool false, .nils, .nils, .nils]]] := by
    refine ⟨rfl, by simp, fun k hk => ?_, fun b hb k hk => ?_, fun i b k hb hk hl => ?_⟩
    · rw [List.mem_singleton.1 hk, nx_small, hp0_key]; decide
    · rw [List.mem_singleton.1 hb] at hk
      simp [Blk.keysA, AV.keyss, AV.keys] at hk
    · cases i with
      | zero => cases hb; cases hk; rfl
      | succ i => simp at hb
  have := FnOk.run good_XL rN.1 rN.2 hF
  refine this.mono ?_
  rintro v G ⟨κ, hv, hX⟩
  have hl : 0 < κ.length := by rw [hX.fit.len]; exact Nat.zero_lt_succ _
  have e : κ[0]? = some κ[0] := List.getElem?_eq_getElem hl
  refine ⟨κ[0], ?_, hX.ok, κ, hX.fit, e⟩
  rw [hv, AV.ren, rk_some (k := .z) e]
theorem put_Pu (hc : c < 9) (h : Pu c M kn) (L : List Blk) : FnOk Tryz.prog 10 [.ptr kn 0, .agg (askP c [97 + 2 * c])] (M.ext L) fun r G => r = .tup [] ∧ Pu (c + 1) G kn := by
  obtain ⟨hok, κ, hF, h0⟩ := h
  obtain ⟨r1, r2⟩ := rP c hc
  have := FnOk.run good_XL r1 r2 (hF.ext hok L)
  have e : AV.rens (rk κ .z) [.ptr .z 0, .agg (askP c [97 + 2 * c])] = [.ptr kn 0, .agg (askP c [97 + 2 * c])] := by
    simp only [AV.rens, AV.ren, askP, rk_some (k := .z) h0]
  rw [e] at this
  refine this.mono ?_
  rintro v G ⟨κ', hv, hX⟩
  refine ⟨by rw [hv]; rfl, hX.ok, κ', hX.fit, ?_⟩
  have hs : (xP (c + 1))[0]? = some .z := by
    rcases (by omega : c = 0 ∨ c = 1 ∨ c = 2 ∨ c = 3 ∨ c = 4 ∨ c = 5 ∨ c = 6 ∨ c = 7 ∨ c = 8) with rfl | rfl | rfl | rfl | rfl | rfl | rfl | rfl | rfl <;> rfl
  rw [hX.stay 0 .z hs (by show 1 ≤ (tP c).length + 1 + 1; omega)]
  exact h0
theorem Pu.st (h : Pu c M kn) : St (tP c) M kn (wsP c) := by
  obtain ⟨hok, κ, hF, h0⟩ := h
  refine ⟨hok, κ, ?_, h0, fun hne kw hk => ?_⟩
  · rw [wsP_len]
    refine fit_mask hF rfl fun i b hb hl => ?_
    rcases i with _ | _ | i
    · exact hb
    · cases hb; exact hl.elim
    · exact hb
  · cases c with
    | zero => exact absurd rfl hne
    | succ n =>
      rw [hF.blk 1 (wB (n + 1)) kw rfl hk trivial, wB_ren]
      rfl
end
/-- the answers behind so many letters -/
def wsC (c j k l : Nat) : List (List AV) := wsP c ++ (List.replicate j (cutL 1 1 2) ++ (List.replicate k (cutL 2 1 4) ++ List.replicate l (cutL 1 1 2)))
theorem wsC_len (c j k l : Nat) : (wsC c j k l).length = c + (j + (k + l)) := by simp [wsC, wsP_len]
theorem wsC_j (c j : Nat) : wsC c j 0 0 ++ [cutL 1 1 2] = wsC c (j + 1) 0 0 := by
  simp only [wsC, List.replicate_zero, List.append_nil, List.append_assoc]
  rw [← List.replicate_succ']
theorem wsC_k (c j k : Nat) : wsC c j k 0 ++ [cutL 2 1 4] = wsC c j (k + 1) 0 := by
  simp only [wsC, List.replicate_zero, List.append_nil, List.append_assoc]
  rw [← List.replicate_succ']
theorem wsC_l (c j k : Nat) : wsC c j k 0 ++ [cutL 1 1 2] = wsC c j k 1 := by
  simp only [wsC, List.replicate_zero, List.append_nil, List.append_assoc]
  rfl
theorem wsC_0 (c : Nat) : wsC c 0 0 0 = wsP c := by simp [wsC]
/-- a letter of the mover is none of these -/
theorem wsC_ne (c j k l : Nat) : [sL] ≠ wsC c j k l ∧ [jL] ≠ wsC c j k l := by
  have key : ∀ x ∈ wsC c j k l, x ≠ sL ∧ x ≠ jL := by
    intro x hx
    simp only [wsC, wsP, List.mem_append, List.mem_map, List.mem_replicate] at hx
    rcases hx with ⟨i, _, rfl⟩ | ⟨_, rfl⟩ | ⟨_, rfl⟩ | ⟨_, rfl⟩
    all_goals
      refine ⟨fun e => ?_, fun e => ?_⟩ <;>
      · have := congrArg (fun z => z[0]?) e
        simp [saidP, cutL, sL, jL] at this
  exact ⟨fun e => (key sL (by rw [← e]; simp)).1 rfl, fun e => (key jL (by rw [← e]; simp)).2 rfl⟩
end Go.Proofs
/- NodeCuts: its steps, in states. -/







set_option linter.all false
set_option maxRecDepth 100000
namespace Go.Proofs
open Go Go.Ev
section
variable {M G : Heap} {kn ks kj : K} {c j k l : Nat} {tl : List Blk}
/-- so it stands behind j splits -/
def SpS (c j : Nat) (M : Heap) (kn : K) : Prop := St (match j with | 0 => tP c | _ + 1 => tS c) M kn (wsC c j 0 0)
theorem split_one (hc : c < 10) (hj : j < 5) (h : SpS c j M kn) : FnOk Tryz.prog 10 [.ptr kn 0, .agg sL] M fun r G => r = .tup [] ∧ SpS c (j + 1) G kn ∧ Keep24 M G (wsC c j 0 0) := by
  have hl : (wsC c j 0 0).length = c + j := by rw [wsC_len]; omega
  cases j with
  | zero =>
    have := take_split (e := none) (lay_P c hc) (lay_S c hc) (by rw [hl]; exact rS c hc) (fun h => absurd rfl h) (by omega) h
    rw [wsC_j] at this
    exact this
  | succ j =>
    have := take_split (e := some 14) (lay_S c hc) (lay_S c hc) (by rw [hl]; exact rT (c + j) c hc) (fun _ => gone_S c hc) (by omega) h
    rw [wsC_j] at this
    exact this
/-- so it stands behind k joins -/
def SpJ (c j k : Nat) (M : Heap) (kn : K) : Prop := St (match k with | 0 => tS c | _ + 1 => tJ c) M kn (wsC c j k 0)
theorem join_one (hc : c < 10) (hj : j < 5) (hj0 : 0 < j) (hk : k < 5) (h : SpJ c j k M kn) : FnOk Tryz.prog 10 [.ptr kn 0, .agg jL] M fun r G => r = .tup [] ∧ SpJ c j (k + 1) G kn ∧ Keep24 M G (wsC c j k 0) := by
  obtain ⟨j, rfl⟩ : ∃ i, j = i + 1 := ⟨j - 1, by omega⟩
  have hl : (wsC c (j + 1) k 0).length = c + j + k + 1 := by rw [wsC_len]; omega
  cases k with
  | zero =>
    have := take_join (e := none) (lay_S c hc) (lay_J c hc) (by rw [hl]; exact rJ (c + j + 0) c hc) (fun h => absurd rfl h) (by omega) h
    rw [wsC_k] at this
    exact this
  | succ k =>
    have := take_join (e := some 14) (lay_J c hc) (lay_J c hc) (by rw [hl]; exact rK (c + j + (k + 1)) c hc) (fun _ => gone_J2 c hc) (by omega) h
    rw [wsC_k] at this
    exact this
theorem split_last (hc : c < 10) (hj : j < 5) (hj0 : 0 < j) (hk : k < 5) (hk0 : 0 < k) (h : SpJ c j k M kn) : FnOk Tryz.prog 10 [.ptr kn 0, .agg sL] M fun r G => r = .tup [] ∧ St (tJ c) G kn (wsC c j k 1) ∧ Keep24 M G (wsC c j k 0) := by
  obtain ⟨j, rfl⟩ : ∃ i, j = i + 1 := ⟨j - 1, by omega⟩
  obtain ⟨k, rfl⟩ : ∃ i, k = i + 1 := ⟨k - 1, by omega⟩
  have hl : (wsC c (j + 1) (k + 1) 0).length = c + j + k + 1 + 1 := by rw [wsC_len]; omega
  have := take_split (e := some 14) (lay_J c hc) (lay_J c hc) (by rw [hl]; exact rZ (c + j + k + 1) c hc) (fun _ => gone_J1 c hc) (by omega) h
  rw [wsC_l] at this
  exact this
/-- Sync: all that waited is told -/
theorem sync_St {ws : List (List AV)} (hc : c < 10) (hne : ws ≠ []) (h : St (tJ c) M kn ws) : FnOk Tryz.prog 13 [.ptr kn 0] M fun r G => ∃ kw, r = .slice kw 0 ws.length 24 false ws.length ∧ G.get kw = some (.row true 24 ws) ∧ St (tY (tJ c)) G kn [] := by
  obtain ⟨hok, κ, h⟩ := h
  obtain ⟨n, hn⟩ : ∃ n, ws.length = n + 1 := ⟨ws.length - 1, by have := List.length_pos_iff.2 hne; omega⟩
  have hF := h.1
  obtain ⟨r1, r2⟩ := rY n c hc
  have hFn : Fit M κ (blN (n + 1) (tJ c)) := by rw [← hn]; exact hF
  have := FnOk.run good_XL r1 r2 hFn
  have e : AV.rens (rk κ .z) [.ptr .z 0] = [.ptr kn 0] := by simp only [AV.rens, AV.ren, rk_some (k := .z) h.2.1]
  rw [e] at this
  have hL := lay_J c hc
  refine this.mono ?_
  rintro v G ⟨κ', hv, hX⟩
  have h1 : 1 < κ.length := by rw [hF.len]; show 1 < (tJ c).length + 1 + 1; omega
  have hk1 : κ[1]? = some κ[1] := List.getElem?_eq_getElem h1
  have hs1 := hX.stay 1 _ (pre6_ok _ 1 (by decide)) (by rw [hp0_key]; show 2 ≤ (tJ c).length + 1 + 1; omega)
  rw [hp0_key] at hs1
  have hs1 : κ'[1]? = some κ[1] := hs1.trans hk1
  have hs0 := hX.stay 0 _ (pre6_ok _ 0 (by decide)) (by rw [hp0_key]; show 1 ≤ (tJ c).length + 1 + 1; omega)
  rw [hp0_key] at hs0
  have hs0 : κ'[0]? = some kn := hs0.trans h.2.1
  have hw := h.2.2 hne _ hk1
  refine ⟨κ[1], ?_, hX.keep _ _ hw fun i b g1 g2 => fit_no24 hFn (lay_blN hL _) hw g1 g2, hX.ok, κ', hX.fit, hs0, fun h => absurd rfl h⟩
  rw [hv, hn]
  show AV.slice (rk κ' .z K.z.o) 0 _ 24 false _ = _
  rw [rk_some (k := K.z.o) hs1]
end
end Go.Proofs
/- NodeFeeds: its puts: walked. -/


set_option linter.all false
set_option maxRecDepth 100000
namespace Go.Proofs
open Go Go.Ev
variable {H : Heap}
theorem f12_ok (a b : List Nat) : FnOk Tryz.prog 12 [.str a, .str b] H fun r G => r = .agg [.int .i64 2, .str a, .str [], .str b, .int .i64 0, .nils] ∧ G = H := by
  refine FnOk.drop (R := fun r => r = .agg [.int .i64 2, .str a, .str [], .str b, .int .i64 0, .nils]) ?_ (by rintro v rfl ρ; simp only [AV.ren, AV.rens])
  refine FnOk.of_WW Tryz.func12 rfl C12ok R12ok E0 good_E0 ?_
  simp only [go_sem, C12]
  exact ⟨_, rfl⟩
theorem f11_put {i : Nat} (hi : i < 1000) (key : List Nat) : FnOk Tryz.prog 11 [.int .i64 0, .int .i64 ((i : Int) + 1), .agg [.int .i64 2, .str key, .str [], .str [118], .int .i64 0, .nils]] H fun r G => r = .agg (askP i key) ∧ G = H := by
  refine FnOk.drop (R := fun r => r = .agg (askP i key)) ?_ (by rintro v rfl ρ; simp only [askP, AV.ren, AV.rens])
  refine FnOk.of_WW Tryz.func11 rfl C11ok R11ok E0 good_E0 ?_
  have hz : IntKind.i64.wrap (200 + 0) = 200 := rfl
  simp only [go_sem, C11, askP, hz]
  exact ⟨_, rfl⟩
/-- the cells, the events of puts of one key -/
noncomputable def kC : Nat → List Cell
  | 0 => []
  | i + 1 => refW (kC i) (nextC (kC i) [107] [118] false)
noncomputable def kE : Nat → List Evn
  | 0 => []
  | i + 1 => kE i ++ [nextE (kC i) [107] [118] false]
theorem has_k : has [99] [112] [107] := by
  refine ⟨?_, ?_, ?_, .inr ?_⟩ <;> first | decide | (unfold isSpan; decide) | (unfold isKey; decide)
theorem wrap_run : (allN 20 fun i => Nat.ble (wrapT (recT 0 (i + 1) 107 118)).length 100) = true := by kernel_rfl
theorem wrapT_feeds {i : Nat} (h : i < 20) : (wrapT (recT 0 (i + 1) 107 118)).length ≤ 100 := Nat.le_of_ble_eq_true (allN_of wrap_run i h)
/-- so it is behind some puts -/
def Fd (k i : Nat) (M : Heap) : Prop := i ≤ k ∧ ∃ bs n m ws s, isNd M K.z.o.i.i K.z.o.o.o K.z.i.o.i K.z.o.o.i bs n m ws (.int .i64 0) (.int .i64 0) (.map K.z.o.i.o) s ∧ PutI 1 false i s ∧ s.fr = [99] ∧ s.to = [112] ∧ s.evs = kE i ∧ s.cells = kC i ∧ n ≤ bs.length ∧ bs.length ≤ 31 + 100 * i ∧ m ≤ 1 + i ∧ ws.length = i
theorem Fd.put {k i : Nat} {M : Heap} (h : Fd k i M) (hi : i < k) (hk : k < 20) : FnOk Tryz.prog 10 [.ptr K.z.o.i.i 0, .agg (askP i [107])] M fun r G => r = .tup [] ∧ Fd k (i + 1) G := by
  obtain ⟨_, bs, n, m, ws, s, hN, hP, h1, h2, h3, h4, h5, h6, h7, h8⟩ := h
  have hT : ∀ J : Heap, FnOk Tryz.prog 53 [.agg (putL i [107])] J fun r J' => r = .str (recT 0 (i + 1) 107 118) ∧ J' = J := fun J => bytes_feeds (by omega)
  have hw := wrapT_feeds (i := i) (by omega)
  refine (f10_put hN hP (by omega) (b := 107) (by rw [h1, h2]; exact has_k) hT (by simp [recT]) (by show 18 < 1000000; decide) (by omega) h5 (by omega) (by omega)).mono ?_
  rintro r G ⟨rfl, t, ver, g1, g2, g3⟩
  refine ⟨rfl, by omega, _, _, _, _, t, g1, g2, g3.span.1.trans h1, g3.span.2.trans h2, ?_, ?_, ?_, ?_, by omega, ?_⟩
  · rw [g3.evs, h3, h4]; rfl
  · rw [g3.cells, h4]; rfl
  · rw [List.length_append]; omega
  · rw [List.length_append]; omega
  · rw [List.length_append, h8]; rfl
end Go.Proofs
/- NodeCuts: walked. -/


set_option linter.all false
set_option maxRecDepth 100000
namespace Go.Proofs
open Go Go.Ev
section
variable {H : Heap}
/-- a letter of the mover -/
def toldL (k : Int) (a b c d e : AV) : List AV := [.int .i64 k, .int .i64 100, .int .i64 0, a, b, c, d, e, .int .i64 0, .str [], .str [], .str [], .int .i64 0, .nils, .int .i64 0, .str [], .int .i64 0, .nils, .str [], .str [], .nils, .nils, .nils, .str []]
theorem read5 {β : Type} (f : β) (a b c d e : AV) (k : List AV → β) : readC f 1 [[a], [b], [c], [d], [e]] 0 5 k = k [a, b, c, d, e] := rfl
theorem f17_ok (k a b c d e : Int) : FnOk Tryz.prog 17 [.int .i64 k, .agg [.int .i64 a, .int .i64 b, .int .i64 c, .int .i64 d, .int .i64 e]] H fun r G => r = .agg (toldL k (.int .i64 a) (.int .i64 b) (.int .i64 c) (.int .i64 d) (.int .i64 e)) ∧ G = H := by
  refine FnOk.assume fun hok => ?_
  refine FnOk.drop (R := fun r => r = .agg (toldL k (.int .i64 a) (.int .i64 b) (.int .i64 c) (.int .i64 d) (.int .i64 e))) ?_ (by rintro v rfl ρ; simp only [toldL, AV.ren, AV.rens])
  refine FnOk.of_WW Tryz.func17 rfl C17ok R17ok E0 good_E0 ?_
  simp only [go_sem, C17, read5]
  exact ⟨rfl, _, rfl⟩
end
theorem wsC_lo {c j k l m : Nat} (h : m < c) : (wsC c j k l)[m]? = some (saidP m 1) := by
  rw [wsC, List.getElem?_append_left (by rw [wsP_len]; exact h), wsP, List.getElem?_map, List.getElem?_range h]; rfl
theorem wsC_hi {c j k l m : Nat} (h : c ≤ m) (h2 : m < c + (j + (k + l))) : ∃ x y : Int, ((x = 1 ∧ y = 2) ∨ (x = 2 ∧ y = 4)) ∧ (wsC c j k l)[m]? = some (cutL x 1 y) := by
  rw [wsC, List.getElem?_append_right (by rw [wsP_len]; exact h), wsP_len]
  by_cases h3 : m - c < j
  · rw [List.getElem?_append_left (by rw [List.length_replicate]; exact h3), List.getElem?_replicate, if_pos h3]
    exact ⟨1, 2, .inl ⟨rfl, rfl⟩, rfl⟩
  · rw [List.getElem?_append_right (by rw [List.length_replicate]; omega), List.length_replicate]
    by_cases h4 : m - c - j < k
    · rw [List.getElem?_append_left (by rw [List.length_replicate]; exact h4), List.getElem?_replicate, if_pos h4]
      exact ⟨2, 4, .inr ⟨rfl, rfl⟩, rfl⟩
    · rw [List.getElem?_append_right (by rw [List.length_replicate]; omega), List.length_replicate, List.getElem?_replicate, if_pos (by omega)]
      exact ⟨1, 2, .inl ⟨rfl, rfl⟩, rfl⟩
theorem lenIs.len {v : AV} {n : Nat} (h : lenIs v n) (G : Heap) : (asSliceC v R1.fail (R1.val (AV.int IntKind.i64 0) G) fun _ _ len _ _ _ => R1.val (AV.int IntKind.i64 (len : Int)) G) = R1.val (AV.int IntKind.i64 (n : Int)) G := by
  rcases h with ⟨rfl, rfl⟩ | ⟨k, ex, cap, rfl⟩ <;> rfl
theorem f7_ok {a n : Nat} (ha : a ≤ 255) (hn : n ≤ 255) : FnOk Tryz.prog 7 [.int .u8 a, .int .u8 n] hp0 fun r _ => r = .bool true := by
  refine FnOk.of_WW Tryz.func7 rfl C7ok R7ok E0 good_E0 ?_
  obtain ⟨c, hc0⟩ : ∃ c, c = n % 10 := ⟨_, rfl⟩
  have hc : c < 10 := by omega
  have hk10 : IntKind.i64.wrap ((n : Int).tmod 10) = (c : Int) := by
    rw [Int.tmod_eq_emod_of_nonneg (by omega), wrap_i64 (n := (n : Int) % 10) (by omega) (by omega)]; omega
  simp only [go_sem, C7]
  refine CL.of known_ok ?_
  rintro _ G' ⟨rfl, hG⟩; rw [hG]; clear hG
  simp only [go_sem]
  refine CL.of new_Pu ?_
  rintro _ M ⟨kn, rfl, hPu⟩
  refine WW.nil ?_
  simp only [go_sem, hk10]
  refine LL.sth good_E0 (fun i : Nat => c - i) (fun i M => i ≤ c ∧ Pu i M kn)
    (fun i => [(K.z, .int .u8 a), (K.z.o, .int .u8 n), (K.z.i.o, .ptr kn 0), (K.z.i.i, .int .i64 i)]) ?_ 0 ⟨Nat.zero_le _, hPu⟩ (Slots.all (by simp only [go_sem]; first | done | rfl | trace_state))
  rintro i M ⟨hic, hP⟩
  have hw : IntKind.i64.wrap ((i : Int) + 1) = (i : Int) + 1 := wrap_i64 (by omega) (by omega)
  simp only [go_sem, hk10]
  refine ⟨fun hlt => ?_, fun hge => ?_⟩
  · have hlt' : i < c := by omega
    have w2 : IntKind.i64.wrap (2 * (i : Int)) = 2 * (i : Int) := wrap_i64 (by omega) (by omega)
    have w3 : IntKind.i64.wrap (97 + 2 * (i : Int)) = 97 + 2 * (i : Int) := wrap_i64 (by omega) (by omega)
    have w4 : IntKind.u8.wrap (97 + 2 * (i : Int)) = ((97 + 2 * i : Nat) : Int) := by
      have := wrap_u8 (m := 97 + 2 * i) (by omega)
      rw [← this]; congr 1
    have hb := fun (f : R1) (d : List Nat → R1) => bytesC_one (β := R1) (m := 97 + 2 * i) (by omega) f d
    simp only [go_sem, hw, w2, w3, w4, hb]
    refine CL.of (f12_ok _ _) ?_
    rintro _ G' ⟨rfl, hG⟩; rw [hG]; clear hG
    simp only [go_sem]
    refine CL.of (f11_put (by omega) _) ?_
    rintro _ G' ⟨rfl, hG⟩; rw [hG]; clear hG
    simp only [go_sem]
    refine CL.of (put_Pu (by omega) hP _) ?_
    rintro _ M2 ⟨rfl, hP2⟩
    refine WW.nil ?_
    simp only [go_sem, hw]
    exact ⟨i + 1, by show c - (i + 1) < c - i; omega, ⟨by omega, hP2⟩, Slots.all (by simp only [go_sem]; first | done | rfl | trace_state)⟩
  · obtain rfl : c = i := by omega
    have hS := hP.st
    refine CL.of (f17_ok 19 1 1 2 3 0) ?_
    rintro _ G' ⟨rfl, hG⟩; rw [hG]; clear hG
    obtain ⟨A, hA0⟩ : ∃ A, A = a % 4 := ⟨_, rfl⟩
    have hA : IntKind.i64.wrap ((a : Int).tmod 4) = (A : Int) := by
      rw [Int.tmod_eq_emod_of_nonneg (by omega), wrap_i64 (n := (a : Int) % 4) (by omega) (by omega)]; omega
    have hA4 : A < 4 := by omega
    simp only [go_sem, toldL, hA]
    refine LL.sth good_E0 (fun j : Nat => A + 1 - j) (fun j G => j ≤ A + 1 ∧ SpS c j G kn ∧ G.get (M.key 0) = some (.row true 24 [sL]))
      (fun j => [(K.z, .int .u8 a), (K.z.o, .int .u8 n), (K.z.i.o, .ptr kn 0), (K.z.o.o.o, .ptr (M.key 0) 0), (K.z.o.o.i, .int .i64 j)]) ?_ 0 ⟨Nat.zero_le _, by show St (tP c) _ kn (wsC c 0 0 0); rw [wsC_0]; exact hS.ext _, get_lit rfl⟩ (Slots.all (by simp only [go_sem]; first | done | rfl | trace_state))
    rintro j G ⟨hj, hSj, hks⟩
    have hks' := hks
    simp only [sL] at hks'
    have hksL := fun L => Heap.get_ext_old hSj.1 hks' L
    have w1 : IntKind.i64.wrap ((j : Int) + 1) = ((j + 1 : Nat) : Int) := by rw [wrap_i64 (by omega) (by omega)]; omega
    simp only [go_sem, hA, hksL, w1]
    refine ⟨fun hle => ?_, fun hgt => ?_⟩
    · rw [Heap.ext_nil]
      have e := split_one hc (by omega) hSj
      simp only [sL] at e
      refine CL.of e ?_
      rintro _ G2 ⟨rfl, h2, hk2⟩
      refine WW.nil ?_
      simp only [go_sem, w1]
      exact ⟨j + 1, by show A + 1 - (j + 1) < A + 1 - j; omega, ⟨by omega, h2, hk2 _ _ hks (wsC_ne ..).1⟩, Slots.all (by simp only [go_sem]; first | done | rfl | trace_state)⟩
    · obtain rfl : j = A + 1 := by omega
      refine CL.of (f17_ok 20 2 1 3 1 4) ?_
      rintro _ G' ⟨rfl, hG⟩; rw [hG]; clear hG
      obtain ⟨okG, κ, hF⟩ := (show St (tS c) G kn (wsC c (A + 1) 0 0) from hSj)
      have hrow := fun L => Heap.get_ext_old okG hF.row L
      simp only [nRow] at hrow
      simp only [go_sem, toldL]
      refine CL.of (f14_ok (hrow _)) ?_
      rintro _ G' ⟨rfl, hG⟩; rw [hG]; clear hG
      obtain ⟨es, k2, ex2, cap2, q1, q2⟩ := two_S c hc
      simp only [go_sem]
      refine CL.of (look_St (lay_S c hc) (hF.ext okG _) (Heap.ok_ext okG _) (fun ρ => by simp only [AV.rens]) (by simp) q1 q2) ?_
      rintro _ G3 ⟨⟨κ3, rfl⟩, hF3, ok3, hk3⟩
      have hB : IntKind.i64.wrap ((a : Int).tmod 3) = ((a % 3 : Nat) : Int) := by
        rw [Int.tmod_eq_emod_of_nonneg (by omega), wrap_i64 (n := (a : Int) % 3) (by omega) (by omega)]; omega
      obtain ⟨B, hB0⟩ : ∃ B, B = a % 3 := ⟨_, rfl⟩
      rw [← hB0] at hB
      have hB3 : B < 3 := by omega
      refine WW.nil ?_
      simp only [go_sem, AV.ren, hB]
      have hks3 := hk3 _ _ (Heap.get_ext_old okG hks [.row true 24 [jL]])
      refine LL.sth good_E0 (fun k : Nat => B + 1 - k) (fun k X => k ≤ B + 1 ∧ SpJ c (A + 1) k X kn ∧ X.get (M.key 0) = some (.row true 24 [sL]) ∧ X.get (G.key 0) = some (.row true 24 [jL]))
        (fun k => [(K.z, .int .u8 a), (K.z.o, .int .u8 n), (K.z.i.o, .ptr kn 0), (K.z.o.o.o, .ptr (M.key 0) 0), (K.z.o.i.o, .ptr (G.key 0) 0), (K.z.o.i.i, .int .i64 2), (K.z.i.o.o, .int .i64 k)]) ?_ 0 ⟨Nat.zero_le _, by rw [Heap.ext_nil]; exact ⟨ok3, κ, hF3⟩, by rw [Heap.ext_nil]; exact hks3, by rw [Heap.ext_nil]; exact hk3 _ _ (get_lit rfl)⟩ (Slots.all (by simp only [go_sem]; first | done | rfl | trace_state))
      rintro k X ⟨hk, hSk, hxs, hxj⟩
      have hxs' := hxs
      have hxj' := hxj
      simp only [sL] at hxs'
      simp only [jL] at hxj'
      have hxsL := fun L => Heap.get_ext_old hSk.1 hxs' L
      have hxjL := fun L => Heap.get_ext_old hSk.1 hxj' L
      have w2 : IntKind.i64.wrap ((k : Int) + 1) = ((k + 1 : Nat) : Int) := by rw [wrap_i64 (by omega) (by omega)]; omega
      simp only [go_sem, hB, hxsL, hxjL, w2]
      refine ⟨fun hle => ?_, fun hgt => ?_⟩
      · rw [Heap.ext_nil]
        have e := join_one hc (by omega) (Nat.succ_pos A) (by omega) hSk
        simp only [jL] at e
        refine CL.of e ?_
        rintro _ X2 ⟨rfl, h2, hk2⟩
        refine WW.nil ?_
        simp only [go_sem, w2]
        exact ⟨k + 1, by show B + 1 - (k + 1) < B + 1 - k; omega, ⟨by omega, h2, hk2 _ _ hxs (wsC_ne ..).1, hk2 _ _ hxj (wsC_ne ..).2⟩, Slots.all (by simp only [go_sem]; first | done | rfl | trace_state)⟩
      · obtain rfl : k = B + 1 := by omega
        rw [Heap.ext_nil]
        have e := split_last hc (by omega) (Nat.succ_pos A) (by omega) (Nat.succ_pos B) hSk
        simp only [sL] at e
        refine CL.of e ?_
        rintro _ Y ⟨rfl, hY, -⟩
        have hYl : (wsC c (A + 1) (B + 1) 1).length = c + A + B + 3 := by rw [wsC_len]; omega
        refine WW.nil ?_
        simp only [go_sem]
        rw [Heap.ext_nil]
        refine CL.of (sync_St hc (fun h => by rw [h] at hYl; simp at hYl) hY) ?_
        rintro _ Z ⟨kw, rfl, hkw, hZ⟩
        rw [hYl]
        obtain ⟨W, hW⟩ : ∃ W, W = wsC c (A + 1) (B + 1) 1 := ⟨_, rfl⟩
        obtain ⟨N, hN⟩ : ∃ N, N = c + A + B + 3 := ⟨_, rfl⟩
        have hkw : Z.get kw = some (.row true 24 W) := by rw [hW]; exact hkw
        have hWl : W.length = N := by rw [hW, hN]; exact hYl
        obtain ⟨lv, hlv⟩ : ∃ lv, lv = AV.slice kw 0 (c + A + B + 3) 24 false (c + A + B + 3) := ⟨_, rfl⟩
        have hAr : Arr Z 24 lv W := by
          rw [hlv, ← hN]
          exact .inr ⟨kw, 0, false, _, by rw [hWl], hZ.1 _ _ hkw, fun _ => ⟨0, true, W, rfl, hkw, by rw [List.drop_zero, List.take_length]⟩⟩
        rw [← hlv]
        clear hlv hks hks' hksL hxs hxs' hxsL hxj hxj' hxjL hks3 hk3 hrow q1 q2 e
        have hlen := fun G => hAr.len G
        rw [hWl] at hlen
        refine WW.nil ?_
        simp only [go_sem, hlen]
        refine LL.sth good_E0 (fun m : Nat => N - m) (fun m X => X = Z ∧ m ≤ N)
          (fun m => [(K.z, .int .u8 a), (K.z.o, .int .u8 n), (K.z.i.o, .ptr kn 0), (K.z.o.i.i, .int .i64 2), (K.z.i.o.i, lv), (K.z.i.i.o, .int .i64 ((m - c : Nat) : Int)), (K.z.i.i.i, .int .i64 m)]) ?_ 0 ⟨Heap.ext_nil Z, Nat.zero_le _⟩ (Slots.all (by simp only [go_sem, Nat.zero_sub]; first | done | rfl | trace_state))
        rintro m X ⟨rfl, hm⟩
        have w3 : IntKind.i64.wrap ((m : Int) + 1) = ((m + 1 : Nat) : Int) := by rw [wrap_i64 (by omega) (by omega)]; omega
        rw [Heap.ext_nil]
        simp only [go_sem, hlen, w3]
        refine ⟨fun hlt => ?_, fun hge => ?_⟩
        · have hmN : m < W.length := by omega
          obtain ⟨kk, r, ex', cap', wr, rows, hv, -, hgo, hrow⟩ := hAr.at hZ.1 hmN
          have hgo0 := hgo []
          rw [Heap.ext_nil] at hgo0
          have hsi : m + 1 ≤ N := by omega
          rw [hWl] at hv
          have e0 : (r + m) * 24 + 3 + 0 = (r + m) * 24 + 3 := rfl
          have e2 : (r + m) * 24 + 3 + 2 = (r + m) * 24 + 5 := rfl
          have e3 : (r + m) * 24 + 3 + 3 = (r + m) * 24 + 6 := rfl
          by_cases hmc : m < c
          · have hx := wsC_lo (c := c) (j := A + 1) (k := B + 1) (l := 1) hmc
            rw [← hW, List.getElem?_eq_getElem hmN] at hx
            rw [Option.some.inj hx] at hrow
            simp only [saidP] at hrow
            have e4 : m - c = 0 := by omega
            have e5 : m + 1 - c = 0 := by omega
            simp only [go_sem, hv, hsi, hgo, hgo0, hrow, w3, e0, e2, e3, e4]
            exact ⟨m + 1, by show N - (m + 1) < N - m; omega, ⟨rfl, hsi⟩, Slots.all (by simp only [go_sem, e5]; first | done | rfl | trace_state)⟩
          · obtain ⟨x, y, hxy, hx⟩ := wsC_hi (c := c) (j := A + 1) (k := B + 1) (l := 1) (by omega : c ≤ m) (by omega)
            rw [← hW, List.getElem?_eq_getElem hmN] at hx
            rw [Option.some.inj hx] at hrow
            simp only [cutL] at hrow
            have w4 : IntKind.i64.wrap (((m - c : Nat) : Int) + 1) = ((m + 1 - c : Nat) : Int) := by rw [wrap_i64 (by omega) (by omega)]; omega
            rcases hxy with ⟨rfl, rfl⟩ | ⟨rfl, rfl⟩
            · simp only [go_sem, hv, hsi, hgo, hgo0, hrow, w3, w4, e0, e2, e3]
              exact ⟨m + 1, by show N - (m + 1) < N - m; omega, ⟨rfl, hsi⟩, Slots.all (by simp only [go_sem]; first | done | rfl | trace_state)⟩
            · simp only [go_sem, hv, hsi, hgo, hgo0, hrow, w3, w4, e0, e2, e3]
              exact ⟨m + 1, by show N - (m + 1) < N - m; omega, ⟨rfl, hsi⟩, Slots.all (by simp only [go_sem]; first | done | rfl | trace_state)⟩
        · obtain rfl : m = N := by omega
          obtain ⟨okZ, κz, hFz⟩ := hZ
          have hrz := fun L => Heap.get_ext_old okZ hFz.row L
          simp only [nRow] at hrz
          have hrz0 := hrz []
          rw [Heap.ext_nil] at hrz0
          refine CL.of (f14_ok hrz0) ?_
          rintro _ G' ⟨rfl, hG⟩; rw [hG]; clear hG
          simp only [go_sem]
          obtain ⟨ds, es4, cv, ev, dv, p1, ⟨p2, p3⟩, p4⟩ := get_J c hc
          refine CL.of (look_St (lay_Y c hc) hFz okZ (fun ρ => by simp only [AV.rens, AV.ren]) p1 p2 p3) ?_
          rintro _ G4 ⟨⟨κ4, rfl⟩, hF4, ok4, -⟩
          have hc4 : lenIs (cv.ren (rk κ4 .z)) c := by
            rcases p4 with ⟨rfl, h⟩ | ⟨k, ex, cap, rfl⟩
            · exact .inl ⟨rfl, h⟩
            · exact .inr ⟨_, ex, cap, rfl⟩
          have hr4 := fun L => Heap.get_ext_old ok4 hF4.row L
          simp only [nRow] at hr4
          refine WW.nil ?_
          simp only [go_sem, AV.ren, AV.rens, hr4, hc4.len, hk10]
          refine CL.of (f14_ok (hr4 _)) ?_
          rintro _ G' ⟨rfl, hG⟩; rw [hG]; clear hG
          simp only [go_sem]
          obtain ⟨es5, k5, ex5, cap5, z1, z2⟩ := one_J c hc
          refine CL.of (look_St (lay_Y c hc) (hF4.ext ok4 _) (Heap.ok_ext ok4 _) (fun ρ => by simp only [AV.rens]) (by simp) z1 z2) ?_
          rintro _ G5 ⟨⟨κ5, rfl⟩, hF5, ok5, -⟩
          have v1 : IntKind.i64.wrap ((A : Int) + 1) = (A : Int) + 1 := wrap_i64 (by omega) (by omega)
          have v2 : IntKind.i64.wrap ((A : Int) + 1 + (B : Int)) = (A : Int) + 1 + (B : Int) := wrap_i64 (by omega) (by omega)
          have v3 : IntKind.i64.wrap ((A : Int) + 1 + (B : Int) + 1) = (A : Int) + 1 + (B : Int) + 1 := wrap_i64 (by omega) (by omega)
          have v4 : IntKind.i64.wrap ((A : Int) + 1 + (B : Int) + 1 + 1) = (A : Int) + 1 + (B : Int) + 1 + 1 := wrap_i64 (by omega) (by omega)
          have v5 : ((m - c : Nat) : Int) = (A : Int) + 1 + (B : Int) + 1 + 1 := by omega
          refine WW.nil ?_
          simp only [go_sem, AV.ren, AV.rens, hA, hB, v1, v2, v3, v4, v5]

end Go.Proofs
