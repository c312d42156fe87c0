/- part. -/
import Derived.Test.YtglpihajimhekaaGreatDoorZ18
import Derived.Test.YtglpihajimhekaaGreatDoorProg
import Derived.KernelRfl
set_option linter.all false
set_option maxRecDepth 100000
namespace Go.Proofs
open Go Go.Ev
variable {H : Heap}
theorem withL_mem {c x : Cell} : ∀ {l : List Cell}, x ∈ withL l c → x = c ∨ x ∈ l
 | [], h => by simpa [withL] using h
 | d :: l, h => by
  unfold withL at h
  split at h
  ·rcases List.mem_cons.1 h with h | h
   ·exact .inr (by simp [h])
   ·rcases withL_mem h with h | h
    ·exact .inl h
    ·exact .inr (by simp [h])
  ·split at h
   ·rcases List.mem_cons.1 h with h | h
    ·exact .inl h
    ·exact .inr (by simp [h])
   ·rcases List.mem_cons.1 h with h | h
    ·exact .inl h
    ·exact .inr h
theorem withL_ord {c : Cell} : ∀ {l : List Cell}, Ord l → Ord (withL l c)
 | [], _ => by simp [withL, Ord]
 | d :: l, h => by
  have h' := List.pairwise_cons.1 h
  unfold withL
  split
  ·rename_i h1
   refine List.pairwise_cons.2 ⟨fun x hx => ?_, withL_ord h'.2⟩
   rcases withL_mem hx with rfl | hx
   ·exact h1
   ·exact h'.1 x hx
  ·rename_i h1
   split
   ·rename_i h2
    exact List.pairwise_cons.2 ⟨fun x hx => by rw [← h2]; exact h'.1 x hx, h'.2⟩
   ·rename_i h2
    have h3 : ltS c.key d.key := by rcases ltS_tri d.key c.key with g | g | g; exact absurd g h1; exact absurd g h2; exact g
    refine List.pairwise_cons.2 ⟨fun x hx => ?_, h⟩
    rcases List.mem_cons.1 hx with rfl | hx
    ·exact h3
    ·exact ltS_trans h3 (h'.1 x hx)
theorem getL_withL_self {c : Cell} : ∀ {l : List Cell}, getL (withL l c) c.key = (c, true)
 | [] => by simp [withL, getL]
 | d :: l => by
  unfold withL
  split
  ·rename_i h1
   have hne : d.key ≠ c.key := fun e => ltS_irrefl _ (e ▸ h1)
   rw [getL, if_neg hne]
   exact getL_withL_self
  ·split <;> simp [getL]
theorem getL_withL_other {c : Cell} {k : List Nat} (hk : k ≠ c.key) : ∀ {l : List Cell}, getL (withL l c) k = getL l k
 | [] => by simp [withL, getL, Ne.symm hk]
 | d :: l => by
  unfold withL
  split
  ·rw [getL, getL, getL_withL_other hk]
  ·split
   ·rename_i h2
    rw [getL, getL, if_neg (Ne.symm hk), if_neg (fun e => hk (by rw [← e, h2]))]
   ·rw [getL, if_neg (Ne.symm hk)]
theorem getL_miss {k : List Nat} : ∀ {l : List Cell}, (getL l k).2 = false → (getL l k).1 = ⟨k, [], 0, false, 0⟩ ∧ ∀ c ∈ l, ¬ c.key = k
 | [], _ => ⟨rfl, fun c hc => absurd hc List.not_mem_nil⟩
 | d :: l, h => by
  unfold getL at h ⊢
  split at h
  ·cases h
  ·rename_i hk
   rw [if_neg hk]
   obtain ⟨h1, h2⟩ := getL_miss h
   exact ⟨h1, fun c hc => by
    rcases List.mem_cons.1 hc with rfl | hc
    ·exact hk
    ·exact h2 c hc⟩
theorem ord_same {l : List Cell} (ho : Ord l) {c d : Cell} (hc : c ∈ l) (hd : d ∈ l) (hk : c.key = d.key) : c = d := by
 obtain ⟨i, hi, rfl⟩ := List.mem_iff_getElem.1 hc
 obtain ⟨j, hj, rfl⟩ := List.mem_iff_getElem.1 hd
 have hp := List.pairwise_iff_getElem.1 ho
 rcases Nat.lt_trichotomy i j with h | h | h
 ·have := hp i j hi hj h; rw [hk] at this; exact absurd this (ltS_irrefl _)
 ·subst h; rfl
 ·have := hp j i hj hi h; rw [hk] at this; exact absurd this (ltS_irrefl _)
def nextC (cs : List Cell) (k v : List Nat) (d : Bool) : Cell := ⟨k, v, (getL cs k).1.ver + 1, d, (getL cs k).1.floor⟩
def nextE (cs : List Cell) (k v : List Nat) (d : Bool) : Evn := ⟨k, (getL cs k).1.ver + 1, v, d⟩
theorem runR_up {c c' : Cell} (hk : c'.key = c.key) (hv : c.ver < c'.ver) : ∀ {l : List Evn} {v w : Int}, runR c l v = some w → w ≤ c.ver → runR c' l v = some w
 | [], _, _, h, _ => h
 | e :: l, v, w, h, hw => by
  rw [runR] at h ⊢
  rw [hk]
  split at h
  ·rename_i h1
   rw [if_pos h1]
   split at h
   ·rename_i h2
    have := runR_ge h
    rw [if_pos ⟨h2.1, fun g => by omega⟩]
    exact runR_up hk hv h hw
   ·cases h
  ·rename_i h1
   rw [if_neg h1]
   exact runR_up hk hv h hw
theorem runR_congr {c c' : Cell} (hk : c'.key = c.key) (hv : c'.ver = c.ver) (ha : c'.value = c.value) (hd : c'.del = c.del) : ∀ {l : List Evn} {v : Int}, runR c' l v = runR c l v
 | [], _ => rfl
 | e :: l, v => by rw [runR, runR, hk, hv, ha, hd, runR_congr hk hv ha hd, runR_congr hk hv ha hd]
theorem cell_of {l : List Evn} {cs : List Cell} (h : isHist l cs) (k : List Nat) : (getL cs k).1.key = k ∧ 0 ≤ (getL cs k).1.ver ∧ 0 ≤ (getL cs k).1.floor ∧ (getL cs k).1.floor ≤ (getL cs k).1.ver ∧ runR (getL cs k).1 l (getL cs k).1.floor = some (getL cs k).1.ver := by
 cases hf : (getL cs k).2 with
 | true =>
  obtain ⟨c, hc⟩ : ∃ c, getL cs k = (c, true) := ⟨(getL cs k).1, by rw [← hf]⟩
  obtain ⟨h1, h2⟩ := getL_mem hc
  rw [hc]
  have := isIdx_all h.1 c h1
  exact ⟨h2, Int.le_trans this.2.1 this.2.2, this.2.1, this.2.2, ofH_iff.1 (h.2.2 c h1)⟩
 | false =>
  obtain ⟨h1, h2⟩ := getL_miss hf
  rw [h1]
  refine ⟨rfl, Int.le_refl _, Int.le_refl _, Int.le_refl _, runR_none fun e he g => ?_⟩
  obtain ⟨c, hc, hk⟩ := getL_true.1 (h.2.1 e he).1
  exact h2 c hc (hk.trans g)
theorem hist_put {l : List Evn} {cs : List Cell} (h : isHist l cs) {k v : List Nat} {d : Bool} (hk : isKey k) (hv : (v.length : Int) ≤ 12) (hd : d = true → v = []) (hm : (getL cs k).1.ver < 1000000000000) : isHist (l ++ [nextE cs k v d]) (withL cs (nextC cs k v d)) := by
 obtain ⟨c1, c2, c3, c4, c5⟩ := cell_of h k
 have ho := isIdx_pair h.1
 have ho2 := withL_ord (c := nextC cs k v d) ho
 have hself := getL_withL_self (c := nextC cs k v d) (l := cs)
 have hmem := (getL_mem hself).1
 have hmay : mayBe k v ((getL cs k).1.ver + 1) d := ⟨hk, hv, hd, by omega, by omega⟩
 refine ⟨isIdx_of (fun c hc => ?_) ho2, fun e he => ?_, fun c hc => ?_⟩
 ·rcases withL_mem hc with rfl | hc
  ·exact ⟨hmay, c3, by show (getL cs k).1.floor ≤ (getL cs k).1.ver + 1; omega⟩
  ·exact isIdx_all h.1 c hc
 ·rcases List.mem_append.1 he with he | he
  ·obtain ⟨h1, h2⟩ := h.2.1 e he
   refine ⟨?_, h2⟩
   by_cases hek : e.key = k
   ·have : (getL (withL cs (nextC cs k v d)) k) = (nextC cs k v d, true) := hself
    rw [hek, this]
   ·rw [getL_withL_other (show e.key ≠ (nextC cs k v d).key from hek)]; exact h1
  ·rw [List.mem_singleton.1 he]
   have : (getL (withL cs (nextC cs k v d)) k) = (nextC cs k v d, true) := hself
   exact ⟨by show (getL (withL cs (nextC cs k v d)) k).2 = true; rw [this], hmay⟩
 ·rw [ofH_iff, runR_append]
  by_cases hck : c.key = k
  ·obtain rfl : c = nextC cs k v d := ord_same ho2 hc hmem hck
   rw [show (nextC cs k v d).floor = (getL cs k).1.floor from rfl, runR_up (c := (getL cs k).1) (c' := nextC cs k v d) c1.symm (by show (getL cs k).1.ver < (getL cs k).1.ver + 1; omega) c5 (Int.le_refl _)]
   show runR (nextC cs k v d) [nextE cs k v d] (getL cs k).1.ver = some ((getL cs k).1.ver + 1)
   rw [runR, if_pos (show (nextE cs k v d).key = (nextC cs k v d).key from rfl), if_pos ⟨rfl, fun _ => ⟨rfl, rfl⟩⟩]
   rfl
  ·have hcm : c ∈ cs := by
    rcases withL_mem hc with rfl | hc
    ·exact absurd rfl hck
    ·exact hc
   rw [ofH_iff.1 (h.2.2 c hcm)]
   show runR c [nextE cs k v d] c.ver = some c.ver
   rw [runR, if_neg fun g => hck g.symm]
   rfl
theorem hist_step {l : List Evn} {e : Evn} {cs : List Cell} (h : isHist (e :: l) cs) : isHist l (cs.map (flo e)) := by
 have hK := ((Kept.refl h.1).step h (e := e) (by simp)).1
 refine ⟨hK.idx, fun x hx => ⟨hK.has _ (h.2.1 x (by simp [hx])).1, (h.2.1 x (by simp [hx])).2⟩, fun c hc => ?_⟩
 obtain ⟨d, hd, rfl⟩ := List.mem_map.1 hc
 have h1 := ofH_iff.1 (h.2.2 d hd)
 rw [ofH_iff]
 rw [runR] at h1
 by_cases hk : e.key = d.key
 ·rw [if_pos hk] at h1
  split at h1
  ·rename_i h2
   have e1 : flo e d = { d with floor := max d.floor e.ver } := if_pos hk.symm
   rw [e1]
   have e2 : max d.floor e.ver = d.floor + 1 := by have := h2.1; omega
   show runR { d with floor := max d.floor e.ver } l (max d.floor e.ver) = some d.ver
   rw [e2, runR_congr (c := d) (c' := { d with floor := d.floor + 1 }) rfl rfl rfl rfl]
   exact h1
  ·cases h1
 ·rw [if_neg hk] at h1
  rw [flo_no fun g => hk g.symm]
  exact h1
theorem hist_keep : ∀ (n : Nat) {l : List Evn} {cs : List Cell}, isHist l cs → isHist (l.drop n) (keepC (l.take n) cs)
 | 0, _, _, h => h
 | n + 1, [], _, h => h
 | n + 1, e :: l, _, h => hist_keep n (hist_step h)
end Go.Proofs
namespace Go.Proofs
open Go Go.Ev
variable {H : Heap}
theorem rho_two {H : Heap} (top a b : Nat) : rho H top [a, b] (H.key 0) = H.key a ∧ rho H top [a, b] (H.key 1) = H.key b := ⟨rho_key rfl, rho_key rfl⟩
theorem get_two {α : Type} (l : List α) (a b : α) : (l ++ [a, b])[l.length]? = some a ∧ (l ++ [a, b])[l.length + 1]? = some b := by
 constructor
 ·rw [List.getElem?_append_right (Nat.le_refl _), Nat.sub_self]; rfl
 ·rw [List.getElem?_append_right (by omega), Nat.add_sub_cancel_left]; rfl
end Go.Proofs
namespace Go.Proofs
open Go Go.Ev
variable {H : Heap}
def A86 (H : Heap) (args : List AV) (q : List Cell × Cell) : Prop := ∃ v, args = [v, .agg q.2.enc] ∧ Arr H 5 v (q.1.map Cell.enc) ∧ q.1.length < 10000 ∧ cellIs q.2
def A149 (H : Heap) (args : List AV) (q : AV × List Evn × List Cell × Evn) : Prop := ∃ v, args = [v, q.1, .agg q.2.2.2.enc, .int .i64 24] ∧ Arr H 4 v (q.2.1.map Evn.enc) ∧ Arr H 5 q.1 (q.2.2.1.map Cell.enc) ∧ q.2.1.length < 10000 ∧ q.2.2.1.length < 10000 ∧ isHist (q.2.1 ++ [q.2.2.2]) q.2.2.1
theorem keepC_nil (cs : List Cell) : keepC [] cs = cs := rfl
noncomputable def addS (s : Sh) (c : Cell) (e : Evn) (k0 k1 : K) : Sh := ⟨s.id, s.ep, s.fr, s.to, s.frz, keepC ((s.evs ++ [e]).take ((s.evs ++ [e]).length - 24)) (refW s.cells c), (s.evs ++ [e]).drop ((s.evs ++ [e]).length - 24), s.done, outV k0 5 (refW s.cells c).length, outV k1 4 ((s.evs ++ [e]).drop ((s.evs ++ [e]).length - 24)).length, s.dv⟩
noncomputable def addB (s : Sh) (c : Cell) (e : Evn) : List Blk := [outB 5 ((keepC ((s.evs ++ [e]).take ((s.evs ++ [e]).length - 24)) (refW s.cells c)).map Cell.enc), outB 4 (((s.evs ++ [e]).drop ((s.evs ++ [e]).length - 24)).map Evn.enc)]
end Go.Proofs
namespace Go.Proofs
open Go Go.Ev
variable {H : Heap}
def A134 (H : Heap) (args : List AV) (q : Sh × Cell × Evn) : Prop := args = [.agg q.1.enc, .agg q.2.1.enc, .agg q.2.2.enc] ∧ q.1.ok H ∧ q.1.evs.length < 10000 ∧ q.1.cells.length < 10000 ∧ cellIs q.2.1 ∧ (refW q.1.cells q.2.1).length < 10000 ∧ isHist (q.1.evs ++ [q.2.2]) (refW q.1.cells q.2.1)
theorem withL_len (c : Cell) : ∀ (l : List Cell), (withL l c).length ≤ l.length + 1
 | [] => by simp [withL]
 | d :: l => by
  have := withL_len c l
  unfold withL
  split
  ·simp only [List.length_cons]; omega
  ·split <;> simp
noncomputable def putS (s : Sh) (k v : List Nat) : Sh := ⟨s.id, s.ep, s.fr, s.to, s.frz, keepC ((s.evs ++ [nextE s.cells k v false]).take ((s.evs ++ [nextE s.cells k v false]).length - 24)) (withL s.cells (nextC s.cells k v false)), (s.evs ++ [nextE s.cells k v false]).drop ((s.evs ++ [nextE s.cells k v false]).length - 24), s.done, .nils, .nils, .nils⟩
end Go.Proofs
namespace Go.Proofs
open Go Go.Ev
variable {H : Heap}
def putA (n : Int) : An := ⟨0, [], n, [], .nils⟩
theorem putA_ok (H : Heap) (n : Int) : (putA n).ok H := ⟨.inl ⟨rfl, rfl⟩, (by decide : (0 : Nat) ≤ 9223372036854775807)⟩
noncomputable def askS (s : Sh) (k v : List Nat) (ses id : Int) (k0 k1 k2 : K) : Sh := ⟨s.id, s.ep, s.fr, s.to, s.frz, (addS s (nextC s.cells k v false) (nextE s.cells k v false) k0 k1).cells, (addS s (nextC s.cells k v false) (nextE s.cells k v false) k0 k1).evs, withD s.done ⟨ses, id, putA ((getL s.cells k).1.ver + 1)⟩, (addS s (nextC s.cells k v false) (nextE s.cells k v false) k0 k1).cv, (addS s (nextC s.cells k v false) (nextE s.cells k v false) k0 k1).ev, outV k2 6 (withD s.done ⟨ses, id, putA ((getL s.cells k).1.ver + 1)⟩).length⟩
noncomputable def askB (s : Sh) (k v : List Nat) (ses id : Int) : List Blk := addB s (nextC s.cells k v false) (nextE s.cells k v false) ++ [outB 6 ((withD s.done ⟨ses, id, putA ((getL s.cells k).1.ver + 1)⟩).map Dn.enc)]
end Go.Proofs
namespace Go.Proofs
open Go Go.Ev
variable {H : Heap}
theorem isSh_same {a b : Sh} (h : sameSh a b) (hb : isSh b) : isSh a := by
 obtain ⟨h1, h2, h3, h4, h5, h6, h7, h8⟩ := h
 unfold isSh at hb ⊢
 rw [h1, h2, h3, h4, h6, h7, h8]
 exact hb
theorem putA_is {n : Int} (h1 : 0 ≤ n) (h2 : n < 281474976710656) : isAns (putA n) := ⟨⟨by show (0 : Int) ≤ 0; decide, by show (0 : Int) < _; decide, h1, h2, by show (0 : Int) ≤ 255; decide⟩, by show (0 : Int) ≤ 16; decide, fun ⟨r, hr, _⟩ => absurd hr List.not_mem_nil⟩
theorem hist_nil : isHist [] [] := ⟨fun j h => absurd h (Nat.not_lt_zero _), fun e he => absurd he List.not_mem_nil, fun c hc => absurd hc List.not_mem_nil⟩
end Go.Proofs
namespace Go.Proofs
open Go.RowKit Go.Extern.Stop Go.Stop Go.Extern
theorem code1_nil (w : World) : Calls Tryz.prog 236 #[.nilIface] w fun e w' => e = .returned (.int .i64 0) ∧ Go.Ev.Grows w w' := by
 go_enter Tryz.func236, Tryz.ntmps236
 go_wp2_with (first | (go_at_call 113; refine (as_nil _ _).mono ?_; rintro e w' ⟨rfl, rfl⟩))
 go_ret
 exact ⟨rfl, Go.Ev.Grows.alloc _ _⟩
set_option maxHeartbeats 4000000 in
theorem code1_num (n : Int) (w : World) (hg : w.cell? ⟨0, 0, none⟩ = some (.iface 251 (.agg #[.pointer (some ⟨2, 68, none⟩)]))) : Calls Tryz.prog 236 #[.iface 125 (.int .i64 n)] w fun e w' => e = .returned (.int .i64 n) ∧ Go.Ev.Grows w w' := by
 have hlt : 0 < w.heap.size := by
  rcases Nat.eq_zero_or_pos w.heap.size with h0 | h
  ·simp [World.cell?, h0] at hg
  ·exact h
 have hgA : (w.alloc (.cells #[.int .i64 0] 125)).cell? ⟨0, 0, none⟩ = some (.iface 251 (.agg #[.pointer (some ⟨2, 68, none⟩)])) := by
  rw [World.cell?_alloc_lt _ _ ⟨0, 0, none⟩ hlt]; exact hg
 have htA : (w.alloc (.cells #[.int .i64 0] 125)).cell? ⟨w.heap.size, 0, none⟩ = some (.int .i64 0) := by simp
 have hfA : (w.alloc (.cells #[.int .i64 0] 125)).frozen? ⟨w.heap.size, 0, none⟩ = false := by simp
 go_enter Tryz.func236, Tryz.ntmps236
 go_wp2_with (first | (go_at_call 113; refine (as_hit n _ (.int .i64 0) _ hgA htA hfA).mono ?_; rintro e w' ⟨rfl, rfl⟩))
 go_ret
 refine ⟨rfl, ?_⟩
 exact ((((Go.Ev.Grows.alloc _ _).trans (Go.Ev.Grows.alloc _ _)).trans (Go.Ev.Grows.alloc _ _)).trans (Go.Ev.Grows.alloc _ _)).trans (Go.Ev.Grows.alloc _ _)
end Go.Proofs
namespace Go.Proofs
open Go Go.Ev
variable {H : Heap}
theorem f236_ok (a : Option Int) : FnOk Tryz.prog 236 [errV a] H fun r G => r = .int .i64 (a.getD 0) ∧ G = H := by
 refine FnOk.of_calls fun φ w args' ha hw => ?_
 obtain ⟨v, rfl, h1⟩ := one_arg ha
 have e1 := errV_inv h1
 cases a with
 | none =>
  obtain rfl : v = .nilIface := e1
  refine (code1_nil w).mono ?_
  rintro e w' ⟨rfl, hg⟩
  exact ⟨⟨_, rfl, .int _ _⟩, hg⟩
 | some a =>
  obtain rfl : v = .iface 125 (.int .i64 a) := e1
  refine (code1_num a w (hw.rom 0 _ (List.mem_singleton.2 rfl)).1).mono ?_
  rintro e w' ⟨rfl, hg⟩
  exact ⟨⟨_, rfl, .int _ _⟩, hg⟩
theorem f295_ok {c : Cell} (h1 : 0 ≤ c.ver) (h2 : c.ver < 1000000000000) (v : List Nat) (d : Bool) : FnOk Tryz.prog 295 [.agg c.enc, .str v, .bool d] H fun r G => r = .tup [.agg (Cell.enc ⟨c.key, v, c.ver + 1, d, c.floor⟩), .agg (Evn.enc ⟨c.key, c.ver + 1, v, d⟩), .nili] ∧ G = H := by
 refine FnOk.drop (R := fun r => r = .tup [.agg (Cell.enc ⟨c.key, v, c.ver + 1, d, c.floor⟩), .agg (Evn.enc ⟨c.key, c.ver + 1, v, d⟩), .nili]) ?_ (by rintro v rfl ρ; simp only [AV.ren, AV.rens, Cell.rens, Evn.rens])
 refine FnOk.of_WW Tryz.func295 rfl C295ok R295ok E0 good_E0 ?_
 have hw : IntKind.i64.wrap (c.ver + 1) = c.ver + 1 := wrap_i64 (by omega) (by omega)
 have z1 := eq_false (show ¬ (1000000000000 : Int) ≤ c.ver by omega)
 simp only [go_sem, C295, Cell.enc, hw, z1]
 exact ⟨rfl, _, rfl⟩
theorem f276_ok {c : Cell} (h1 : 0 ≤ c.ver) (h2 : c.ver < 1000000000000) {v : List Nat} (hv : (v.length : Int) ≤ 12) : FnOk Tryz.prog 276 [.agg c.enc, .str v] H fun r G => r = .tup [.agg (Cell.enc ⟨c.key, v, c.ver + 1, false, c.floor⟩), .agg (Evn.enc ⟨c.key, c.ver + 1, v, false⟩), .nili] ∧ G = H := by
 refine FnOk.drop (R := fun r => r = .tup [.agg (Cell.enc ⟨c.key, v, c.ver + 1, false, c.floor⟩), .agg (Evn.enc ⟨c.key, c.ver + 1, v, false⟩), .nili]) ?_ (by rintro v rfl ρ; simp only [AV.ren, AV.rens, Cell.rens, Evn.rens])
 refine FnOk.of_WW Tryz.func276 rfl C276ok R276ok E0 good_E0 ?_
 have z1 := eq_false (show ¬ (12 : Int) < (v.length : Int) by omega)
 simp only [go_sem, C276, Cell.enc, z1]
 refine CL.of (f295_ok (c := c) h1 h2 v false) ?_
 rintro _ _ ⟨rfl, rfl⟩
 simp only [go_sem, Cell.enc, Evn.enc]
 exact ⟨_, rfl⟩
theorem f191_put (k v : List Nat) : FnOk Tryz.prog 191 [.agg [.int .i64 2, .str k, .str [], .str v, .int .i64 0, .nils]] H fun r G => r = .bool true ∧ G = H := by
 refine FnOk.drop (R := fun r => r = .bool true) ?_ (by rintro v rfl ρ; rw [AV.ren])
 refine FnOk.of_WW Tryz.func191 rfl C191ok R191ok E0 good_E0 ?_
 simp only [go_sem, C191]
 exact ⟨_, rfl⟩
theorem f140_put {k v : List Nat} (hk : isKey k) (hv : (v.length : Int) ≤ 12) : FnOk Tryz.prog 140 [.agg [.int .i64 2, .str k, .str [], .str v, .int .i64 0, .nils]] H fun r G => r = .bool true ∧ G = H := by
 refine FnOk.drop (R := fun r => r = .bool true) ?_ (by rintro v rfl ρ; rw [AV.ren])
 refine FnOk.of_WW Tryz.func140 rfl C140ok R140ok E0 good_E0 ?_
 have z2 := eq_true (show (v.length : Int) ≤ 40 by omega)
 simp only [go_sem, C140]
 refine CL.of (f191_put k v) ?_
 rintro _ _ ⟨rfl, rfl⟩
 simp only [go_sem]
 refine CL.bool (f127_ok k) (fun g => ?_) (fun g => absurd hk g)
 simp only [go_sem, z2]
 exact ⟨_, rfl⟩
theorem f83_put (k v : List Nat) : FnOk Tryz.prog 83 [.agg [.int .i64 2, .str k, .str [], .str v, .int .i64 0, .nils]] H fun r G => r = .bool true ∧ G = H := by
 refine FnOk.drop (R := fun r => r = .bool true) ?_ (by rintro v rfl ρ; rw [AV.ren])
 refine FnOk.of_WW Tryz.func83 rfl C83ok R83ok E0 good_E0 ?_
 simp only [go_sem, C83]
 exact ⟨_, rfl⟩
end Go.Proofs
namespace Go.Proofs
open Go Go.Ev
variable {H : Heap}
def A81 (H : Heap) (args : List AV) (l : List Evn) : Prop := ∃ k, args = [outV k 4 l.length] ∧ Arr H 4 (outV k 4 l.length) (l.map Evn.enc) ∧ l.length < 100000
noncomputable def EA (f : FuncId) (args : List AV) (H : Heap) : RC :=
 match f with
 | 115 => ot (A81 H args) fun l => .ok (outV H.nx 4 l.length) (H.ext [outB 4 (l.map Evn.enc)])
 | 240 => ot (A50 H args) fun q => .ok (.tup [outV (H.key 1) 4 (q.1.drop (q.1.length - 24)).length, outV (H.key 0) 5 q.2.length]) (H.ext [outB 5 ((keepC (q.1.take (q.1.length - 24)) q.2).map Cell.enc), outB 4 ((q.1.drop (q.1.length - 24)).map Evn.enc)])
 | _ => .fail
theorem outV_null {k : K} {e n : Nat} (h : n = 0) : outV k e n = .nils := by subst h; rfl
theorem good_EA : Ev.Good Tryz.prog EA := by
 intro f args H r G he φ w args' ha hw
 refine (?_ : FnOk Tryz.prog f args H fun v' G' => v' = r ∧ G' = G).one φ w args' ha hw
 unfold EA at he
 split at he
 ·obtain ⟨l, ⟨k, rfl, h1, h2⟩, hz⟩ := ot_ok he
  clear he
  cases hz
  exact clone_n clo75 (List.length_map ..) outV_null h1 (by omega) (fun _ _ => Evn.map_rens _ _)
 ·obtain ⟨q, ⟨k, k', rfl, h1, h2, h3, h4⟩, hz⟩ := ot_ok he
  clear he
  cases hz
  exact f240_ok rfl rfl h1 h2 h3 h4
 ·cases he
theorem e81 {k : K} {l : List Evn} (hA : Arr H 4 (outV k 4 l.length) (l.map Evn.enc)) (hl : l.length < 100000) (L : List Blk) : EA 115 [outV k 4 l.length] (H.ext L) = .ok (outV (H.key L.length) 4 l.length) (H.ext (L ++ [outB 4 (l.map Evn.enc)])) := by
 show ot (A81 (H.ext L) [outV k 4 l.length]) (fun l => .ok (outV (H.ext L).nx 4 l.length) ((H.ext L).ext [outB 4 (l.map Evn.enc)])) = _
 rw [ot_eq (p := A81 (H.ext L) [outV k 4 l.length]) (x := l) ⟨k, rfl, hA.ext L, hl⟩, Heap.nx_ext, Heap.ext_append]
 rintro l' ⟨k', h1, h2, _⟩
 injection h1 with h1
 rw [← h1] at h2
 exact (evs_uniq (hA.ext L) h2).symm
theorem e37 {k k' : K} {xs : List Evn} {cs : List Cell} {L : List Blk} (h1 : Arr (H.ext L) 4 (outV k 4 xs.length) (xs.map Evn.enc)) (h2 : Arr (H.ext L) 5 (outV k' 5 cs.length) (cs.map Cell.enc)) (hx : xs.length < 100000) (hc : cs.length < 100000) :
  EA 240 [outV k 4 xs.length, outV k' 5 cs.length, .int .i64 24] (H.ext L) = .ok (.tup [outV (H.key (L.length + 1)) 4 (xs.drop (xs.length - 24)).length, outV (H.key L.length) 5 cs.length]) (H.ext (L ++ [outB 5 ((keepC (xs.take (xs.length - 24)) cs).map Cell.enc), outB 4 ((xs.drop (xs.length - 24)).map Evn.enc)])) := by
 show ot (A50 (H.ext L) [outV k 4 xs.length, outV k' 5 cs.length, .int .i64 24]) (fun q => .ok (.tup [outV ((H.ext L).key 1) 4 (q.1.drop (q.1.length - 24)).length, outV ((H.ext L).key 0) 5 q.2.length]) ((H.ext L).ext [outB 5 ((keepC (q.1.take (q.1.length - 24)) q.2).map Cell.enc), outB 4 ((q.1.drop (q.1.length - 24)).map Evn.enc)])) = _
 rw [ot_eq (p := A50 (H.ext L) [outV k 4 xs.length, outV k' 5 cs.length, .int .i64 24]) (x := (xs, cs)) ⟨_, _, rfl, h1, h2, hx, hc⟩, Heap.key_ext, Heap.key_ext, Heap.ext_append]
 ·rfl
 rintro ⟨xs', ys'⟩ ⟨k, k', h3, h4, h5, _, _⟩
 injection h3 with h3 h6
 injection h6 with h6 _
 rw [← h3] at h4
 rw [← h6] at h5
 rw [evs_uniq h1 h4, cells_uniq h2 h5]
theorem f278_ok {k k' : K} {l : List Evn} {cs : List Cell} (hA : Arr H 4 (outV k 4 l.length) (l.map Evn.enc)) (hB : Arr H 5 (outV k' 5 cs.length) (cs.map Cell.enc)) (hl : l.length < 10000) (hc : cs.length < 10000) (e : Evn) :
  FnOk Tryz.prog 278 [outV k 4 l.length, outV k' 5 cs.length, .agg e.enc, .int .i64 24] H fun r G => r = .tup [outV (H.key 1) 4 ((l ++ [e]).drop ((l ++ [e]).length - 24)).length, outV (H.key 0) 5 cs.length] ∧ G = H.ext [outB 5 ((keepC ((l ++ [e]).take ((l ++ [e]).length - 24)) cs).map Cell.enc), outB 4 (((l ++ [e]).drop ((l ++ [e]).length - 24)).map Evn.enc)] := by
 refine FnOk.assume fun hok => ?_
 refine FnOk.dropW ?_
 obtain ⟨es, hes⟩ : ∃ es, es = l ++ [e] := ⟨_, rfl⟩
 rw [← hes]
 refine FnOk.of_WW Tryz.func278 rfl C278ok R278ok EA good_EA ?_
 have i81 := e81 hA (by omega)
 have hel : es.length = l.length + 1 := by rw [hes, List.length_append]; rfl
 simp only [go_sem, C278, Evn.enc, i81, ↓appR_hide]
 rw [appQ_out (i := 2) (j := 1) rfl (List.length_map ..) rfl (okBig_le (by omega) (by decide))]
 rw [← hel, show outB 4 (l.map Evn.enc ++ [[.str e.key, .int .i64 e.ver, .str e.val, .bool e.del]]) = outB 4 (es.map Evn.enc) by rw [hes, List.map_append]; rfl]
 have i37 := fun b0 b1 b2 => e37 (H := H) (k := H.key 3) (k' := k') (xs := es) (cs := cs) (L := [b0, b1, b2, outB 4 (es.map Evn.enc)]) (arr_outV (i := 3) rfl (List.length_map ..)) (hB.ext _) (by omega) (by omega)
 simp only [go_sem, i37]
 exact ⟨_, [4, 5], by simp only [outV_ren', go_sem], rfl, rfl, by decide, by simp only [go_sem, ↓outB_ren', Cell.map_rens, Evn.map_rens, implies_true]⟩
theorem frV_pos {v : AV} {k : K} {e n : Nat} (h : 0 < n) : frV v k e n = outV k e n := by
 unfold frV
 split
 ·rfl
 ·exact (outV_pos h).symm
theorem frL_pos {v : AV} {e : Nat} {xs : List (List AV)} (h : 0 < xs.length) : frL v e xs = [outB e xs] := by
 cases xs with
 | nil => exact absurd h (Nat.lt_irrefl 0)
 | cons x xs => unfold frL; split <;> rfl
theorem withL_pos (c : Cell) : ∀ l : List Cell, 0 < (withL l c).length
 | [] => by simp [withL]
 | d :: l => by
  unfold withL
  split
  ·simp
  ·split <;> simp
theorem f279_at {v : AV} {l : List Cell} (hA : Arr H 5 v (l.map Cell.enc)) (hl : l.length < 10000) {c : Cell} (hc : cellIs c) :
  FnOk Tryz.prog 279 [v, .agg c.enc] H fun r G => r = outV H.nx 5 (withL l c).length ∧ G = H.ext [outB 5 ((withL l c).map Cell.enc)] := by
 refine (f279_ok hA (by omega) c).mono ?_
 rintro r G ⟨rfl, rfl⟩
 have hp := withL_pos c l
 rw [withC, if_pos hc, frV_pos hp, frL_pos (by rw [List.length_map]; exact hp)]
 exact ⟨rfl, rfl⟩
def A139 (H : Heap) (args : List AV) (q : List Cell × Cell) : Prop := ∃ v, args = [v, .agg q.2.enc] ∧ Arr H 5 v (q.1.map Cell.enc) ∧ q.1.length < 10000 ∧ cellIs q.2
def A138 (H : Heap) (args : List AV) (q : List Evn × List Cell × Evn) : Prop := ∃ k k', args = [outV k 4 q.1.length, outV k' 5 q.2.1.length, .agg q.2.2.enc, .int .i64 24] ∧ Arr H 4 (outV k 4 q.1.length) (q.1.map Evn.enc) ∧ Arr H 5 (outV k' 5 q.2.1.length) (q.2.1.map Cell.enc) ∧ q.1.length < 10000 ∧ q.2.1.length < 10000
noncomputable def EG (f : FuncId) (args : List AV) (H : Heap) : RC :=
 match f with
 | 279 => ot (A139 H args) fun q => .ok (outV H.nx 5 (withL q.1 q.2).length) (H.ext [outB 5 ((withL q.1 q.2).map Cell.enc)])
 | 278 => ot (A138 H args) fun q => .ok (.tup [outV (H.key 1) 4 ((q.1 ++ [q.2.2]).drop ((q.1 ++ [q.2.2]).length - 24)).length, outV (H.key 0) 5 q.2.1.length]) (H.ext [outB 5 ((keepC ((q.1 ++ [q.2.2]).take ((q.1 ++ [q.2.2]).length - 24)) q.2.1).map Cell.enc), outB 4 (((q.1 ++ [q.2.2]).drop ((q.1 ++ [q.2.2]).length - 24)).map Evn.enc)])
 | 236 => match args with | [.nili] => .ok (.int .i64 0) H | _ => .fail
 | _ => .fail
theorem good_EG : Ev.Good Tryz.prog EG := by
 intro f args H r G he φ w args' ha hw
 refine (?_ : FnOk Tryz.prog f args H fun v' G' => v' = r ∧ G' = G).one φ w args' ha hw
 unfold EG at he
 split at he
 ·obtain ⟨q, ⟨v, rfl, h1, h2, h3⟩, hz⟩ := ot_ok he
  clear he
  cases hz
  exact f279_at h1 h2 h3
 ·obtain ⟨q, ⟨k, k', rfl, h1, h2, h3, h4⟩, hz⟩ := ot_ok he
  clear he
  cases hz
  exact f278_ok h1 h2 h3 h4 _
 ·split at he
  ·cases he; exact f236_ok none
  ·cases he
 ·cases he
theorem e139 {v : AV} {l : List Cell} (hA : Arr H 5 v (l.map Cell.enc)) (hl : l.length < 10000) {c : Cell} (hc : cellIs c) (L : List Blk) :
  EG 279 [v, .agg [.str c.key, .str c.value, .int .i64 c.ver, .bool c.del, .int .i64 c.floor]] (H.ext L) = .ok (outV (H.key L.length) 5 (withL l c).length) (H.ext (L ++ [outB 5 ((withL l c).map Cell.enc)])) := by
 show ot (A139 (H.ext L) [v, .agg c.enc]) (fun q => .ok (outV (H.ext L).nx 5 (withL q.1 q.2).length) ((H.ext L).ext [outB 5 ((withL q.1 q.2).map Cell.enc)])) = _
 rw [ot_eq (p := A139 (H.ext L) [v, .agg c.enc]) (x := (l, c)) ⟨v, rfl, hA.ext L, hl, hc⟩, Heap.nx_ext, Heap.ext_append]
 rintro ⟨l', c'⟩ ⟨v', h1, h2, _⟩
 injection h1 with h1 h3
 injection h3 with h3 _
 injection h3 with h3
 dsimp only at h1 h2 h3
 subst h1
 rw [cells_uniq (hA.ext L) h2, Cell.enc_one h3]
theorem e138 {k k' : K} {l : List Evn} {cs : List Cell} {L : List Blk} (hA : Arr (H.ext L) 4 (outV k 4 l.length) (l.map Evn.enc)) (hB : Arr (H.ext L) 5 (outV k' 5 cs.length) (cs.map Cell.enc)) (hl : l.length < 10000) (hc : cs.length < 10000) (e : Evn) :
  EG 278 [outV k 4 l.length, outV k' 5 cs.length, .agg [.str e.key, .int .i64 e.ver, .str e.val, .bool e.del], .int .i64 24] (H.ext L) = .ok (.tup [outV (H.key (L.length + 1)) 4 ((l ++ [e]).drop ((l ++ [e]).length - 24)).length, outV (H.key L.length) 5 cs.length]) (H.ext (L ++ [outB 5 ((keepC ((l ++ [e]).take ((l ++ [e]).length - 24)) cs).map Cell.enc), outB 4 (((l ++ [e]).drop ((l ++ [e]).length - 24)).map Evn.enc)])) := by
 show ot (A138 (H.ext L) [outV k 4 l.length, outV k' 5 cs.length, .agg e.enc, .int .i64 24]) (fun q => .ok (.tup [outV ((H.ext L).key 1) 4 ((q.1 ++ [q.2.2]).drop ((q.1 ++ [q.2.2]).length - 24)).length, outV ((H.ext L).key 0) 5 q.2.1.length]) ((H.ext L).ext [outB 5 ((keepC ((q.1 ++ [q.2.2]).take ((q.1 ++ [q.2.2]).length - 24)) q.2.1).map Cell.enc), outB 4 (((q.1 ++ [q.2.2]).drop ((q.1 ++ [q.2.2]).length - 24)).map Evn.enc)])) = _
 rw [ot_eq (p := A138 (H.ext L) [outV k 4 l.length, outV k' 5 cs.length, .agg e.enc, .int .i64 24]) (x := (l, cs, e)) ⟨_, _, rfl, hA, hB, hl, hc⟩, Heap.key_ext, Heap.key_ext, Heap.ext_append]
 ·rfl
 rintro ⟨l', cs', e'⟩ ⟨k, k', h1, h2, h3, _⟩
 injection h1 with h1 h4
 injection h4 with h4 h5
 injection h5 with h5 _
 injection h5 with h5
 dsimp only at h1 h2 h3 h4 h5
 rw [← h1] at h2
 rw [← h4] at h3
 rw [evs_uniq hA h2, cells_uniq hB h3, Evn.enc_one h5]
theorem e109 (H : Heap) : EG 236 [.nili] H = .ok (.int .i64 0) H := rfl
theorem f235_put {s : Sh} (h : s.ok H) {ke : K} (hev : s.ev = outV ke 4 s.evs.length) (hel : s.evs.length < 9000) (hcl : s.cells.length < 9000) {k v : List Nat} (hk : isKey k) (hv : (v.length : Int) ≤ 12) (hI : isHist s.evs s.cells) (hm : (getL s.cells k).1.ver < 1000000000000) :
  FnOk Tryz.prog 235 [.agg s.enc, .str k, .str v, .bool false] H fun r G => r = .tup [.agg (addS s (nextC s.cells k v false) (nextE s.cells k v false) (H.key 0) (H.key 1)).enc, .agg (nextC s.cells k v false).enc, .nili] ∧ G = H.ext (addB s (nextC s.cells k v false) (nextE s.cells k v false)) := by
 refine FnOk.dropW ?_
 refine FnOk.of_WW Tryz.func235 rfl C235ok R235ok EG good_EG ?_
 obtain ⟨c1, c2, c3, c4, _⟩ := cell_of hI k
 have hput := hist_put hI hk hv (d := false) (fun h => by cases h) hm
 have hw : refW s.cells (nextC s.cells k v false) = withL s.cells (nextC s.cells k v false) := refW_eq hI.1 _
 have hwl := withL_len (nextC s.cells k v false) s.cells
 have hcell : cellIs (nextC s.cells k v false) := isIdx_all hput.1 _ (getL_mem getL_withL_self).1
 have hA := h.e
 rw [hev] at hA
 obtain ⟨cs, hcs⟩ : ∃ cs, cs = withL s.cells (nextC s.cells k v false) := ⟨_, rfl⟩
 have i139 := e139 h.c (by omega) hcell
 have i138 := fun b0 b1 b2 b3 b4 b5 => e138 (H := H) (k := ke) (k' := H.key 6) (l := s.evs) (cs := cs) (L := [b0, b1, b2, b3, b4, b5, outB 5 (cs.map Cell.enc)]) (hA.ext _) (arr_outV (i := 6) rfl (List.length_map ..)) (by omega) (by rw [hcs]; omega) (nextE s.cells k v false)
 have dren := h.d.ren
 unfold addS addB
 rw [hw, ← hcs]
 rw [← hcs] at i139
 simp only [nextC, nextE] at i139 i138
 simp only [go_sem, C235, Sh.enc, hev]
 refine CL.of (f130_ok (h.c.ext _) h.cl k) ?_
 rintro _ _ ⟨rfl, rfl⟩
 simp only [go_sem, Cell.enc]
 refine CL.of (f276_ok (c := (getL s.cells k).1) c2 hm hv) ?_
 rintro _ _ ⟨rfl, rfl⟩
 simp only [go_sem, Cell.enc, Evn.enc, c1, i139, i138]
 refine ⟨_, [7, 8], by simp only [nextC, nextE, Sh.enc, Cell.enc, c1, outV_ren', dren, go_sem], rfl, rfl, by decide, by simp only [nextC, nextE, go_sem, ↓outB_ren', Cell.map_rens, Evn.map_rens, implies_true]⟩
end Go.Proofs
namespace Go.Proofs
open Go Go.Ev
variable {H : Heap}
theorem f196_put {s : Sh} (h : s.ok H) {ke : K} (hev : s.ev = outV ke 4 s.evs.length) (hel : s.evs.length < 9000) (hcl : s.cells.length < 9000) {k v : List Nat} (hk : isKey k) (hv : (v.length : Int) ≤ 12) (hI : isHist s.evs s.cells) (hm : (getL s.cells k).1.ver < 1000000000000) :
  FnOk Tryz.prog 196 [.agg s.enc, .str k, .str v, .bool false] H fun r G => r = .tup [.agg (addS s (nextC s.cells k v false) (nextE s.cells k v false) (H.key 0) (H.key 1)).enc, .agg [.int .i64 0, .str [], .int .i64 ((getL s.cells k).1.ver + 1), .nils]] ∧ G = H.ext (addB s (nextC s.cells k v false) (nextE s.cells k v false)) := by
 refine FnOk.dropW ?_
 refine FnOk.of_WW Tryz.func196 rfl C196ok R196ok EG good_EG ?_
 have dren := h.d.ren
 simp only [go_sem, C196, Sh.enc]
 refine CL.of (f235_put (h.ext _) hev hel hcl hk hv hI hm) ?_
 rintro _ _ ⟨rfl, rfl⟩
 simp only [go_sem, Sh.enc, addS, addB, Heap.key_ext, Cell.enc, nextC, nextE, e109]
 exact ⟨_, [3, 4], by simp only [addS, nextC, nextE, Sh.enc, outV_ren', dren, go_sem], rfl, rfl, by decide, by simp only [addB, nextC, nextE, go_sem, ↓outB_ren', Cell.map_rens, Evn.map_rens, implies_true]⟩
theorem f148_put {s : Sh} (h : s.ok H) {ke : K} (hev : s.ev = outV ke 4 s.evs.length) (hel : s.evs.length < 9000) (hcl : s.cells.length < 9000) {k v : List Nat} (hk : isKey k) (hv : (v.length : Int) ≤ 12) (hI : isHist s.evs s.cells) (hm : (getL s.cells k).1.ver < 1000000000000) :
  FnOk Tryz.prog 148 [.agg s.enc, .agg [.int .i64 2, .str k, .str [], .str v, .int .i64 0, .nils]] H fun r G => r = .tup [.agg (addS s (nextC s.cells k v false) (nextE s.cells k v false) (H.key 0) (H.key 1)).enc, .agg [.int .i64 0, .str [], .int .i64 ((getL s.cells k).1.ver + 1), .nils]] ∧ G = H.ext (addB s (nextC s.cells k v false) (nextE s.cells k v false)) := by
 refine FnOk.dropW ?_
 refine FnOk.of_WW Tryz.func148 rfl C148ok R148ok E0 good_E0 ?_
 have dren := h.d.ren
 simp only [go_sem, C148, Sh.enc]
 refine CL.of (f140_put hk hv) ?_
 rintro _ _ ⟨rfl, rfl⟩
 simp only [go_sem]
 refine CL.of (f196_put (h.ext _) hev hel hcl hk hv hI hm) ?_
 rintro _ _ ⟨rfl, rfl⟩
 simp only [go_sem, Sh.enc, addS, addB, Heap.key_ext]
 exact ⟨_, [4, 5], by simp only [addS, nextC, nextE, Sh.enc, outV_ren', dren, go_sem], rfl, rfl, by decide, by simp only [addB, nextC, nextE, go_sem, ↓outB_ren', Cell.map_rens, Evn.map_rens, implies_true]⟩
end Go.Proofs
namespace Go.Proofs
open Go Go.Ev
variable {H : Heap}
theorem rows_le {l : List Dn} (h : ∀ d ∈ l, d.an.rows = []) : ∀ d ∈ l, (d.an.rows.length : Int) ≤ 16 := fun d hd => by rw [h d hd]; decide
theorem stands_rows {l : List Dn} (h : ∀ d ∈ l, d.an.rows = []) (s id : Int) : (stands l s id).1.rows = [] := by
 unfold stands
 cases hf : findD l s with
 | none => rfl
 | some d =>
  dsimp only
  split
  ·rfl
  ·split
   ·exact h d (findD_mem hf).1
   ·rfl
theorem f82_put {s : Sh} (h : s.ok H) {ke : K} (hev : s.ev = outV ke 4 s.evs.length) (hel : s.evs.length < 9000) (hcl : s.cells.length < 9000) {k v : List Nat} (hk : isKey k) (hv : (v.length : Int) ≤ 12) (hI : isHist s.evs s.cells) (hm : (getL s.cells k).1.ver < 1000000000000) (hdl : s.done.length < 9000) (hup : upD s.done) (hrw : ∀ d ∈ s.done, d.an.rows = []) {ses id : Int} (hn : (stands s.done ses id).2 = 0) :
  FnOk Tryz.prog 82 [.agg s.enc, .int .i64 ses, .int .i64 id, .agg [.int .i64 2, .str k, .str [], .str v, .int .i64 0, .nils]] H fun r G => r = .tup [.agg (askS s k v ses id (H.key 0) (H.key 1) (H.key 2)).enc, .agg [.int .i64 0, .str [], .int .i64 ((getL s.cells k).1.ver + 1), .nils], .int .i64 0] ∧ G = H.ext (askB s k v ses id) := by
 refine FnOk.dropW ?_
 refine FnOk.of_WW Tryz.func82 rfl C82ok R82ok E0 good_E0 ?_
 have hdok := withD_ok h.dok (putA_ok H ((getL s.cells k).1.ver + 1)) (d := ⟨ses, id, putA ((getL s.cells k).1.ver + 1)⟩)
 have drn := hdok.rens
 simp only [go_sem, C82, Sh.enc]
 refine CL.of (f147_ok (h.d.ext _) (h.dok.ext _) (by omega) hup (rows_le hrw) ses id) ?_
 rintro _ _ ⟨z, rfl, rfl⟩
 have hrr := stands_rows hrw ses id
 cases z
 all_goals
  simp only [go_sem, ansV, hn, hrr, zV, zB]
  refine CL.of (f148_put (h.ext _) hev hel hcl hk hv hI hm) ?_
  rintro _ _ ⟨rfl, rfl⟩
  simp only [go_sem, Sh.enc, addS, addB, Heap.key_ext]
  refine CL.of (f83_put k v) ?_
  rintro _ _ ⟨rfl, rfl⟩
  simp only [go_sem, Sh.enc]
  refine CL.of (f149_ok (d := ⟨ses, id, putA ((getL s.cells k).1.ver + 1)⟩) (h.d.ext _) (h.dok.ext _) (putA_ok _ _) hup (by omega)) ?_
  rintro _ _ ⟨rfl, rfl⟩
  simp only [go_sem, Sh.enc]
  exact ⟨_, [6, 7, 9], by simp only [askS, addS, nextC, nextE, Sh.enc, outV_ren', go_sem], rfl, rfl, by decide, by simp only [askB, addB, nextC, nextE, go_sem, ↓outB_ren', Cell.map_rens, Evn.map_rens, drn, implies_true]⟩
end Go.Proofs
namespace Go.Proofs
open Go Go.Ev K
noncomputable def C16 := mkC Tryz.prog Tryz.f16 52
theorem C16ok : CCok Tryz.prog Tryz.f16 52 C16 := mkC_ok _
@[go_sem] theorem call16 (a H) : callC Tryz.prog 16 a H = .call 16 a := callC_ok (by kernel_rfl) a H
theorem R16ok : resKs Tryz.prog Tryz.f16.results.toList = some [(RK.tmp z.o.i)] := by kernel_rfl
@[go_sem] theorem call111 (a H) : callC Tryz.prog 111 a H = .call 111 a := callC_ok (by kernel_rfl) a H
noncomputable def C47 := mkC Tryz.prog Tryz.f47 26
theorem C47ok : CCok Tryz.prog Tryz.f47 26 C47 := mkC_ok _
@[go_sem] theorem call47 (a H) : callC Tryz.prog 47 a H = .call 47 a := callC_ok (by kernel_rfl) a H
theorem R47ok : resKs Tryz.prog Tryz.f47.results.toList = some [(RK.tmp z.o.i)] := by kernel_rfl
noncomputable def C48 := mkC Tryz.prog Tryz.f48 26
theorem C48ok : CCok Tryz.prog Tryz.f48 26 C48 := mkC_ok _
@[go_sem] theorem call48 (a H) : callC Tryz.prog 48 a H = .call 48 a := callC_ok (by kernel_rfl) a H
theorem R48ok : resKs Tryz.prog Tryz.f48.results.toList = some [(RK.tmp z.o.i)] := by kernel_rfl
noncomputable def C49 := mkC Tryz.prog Tryz.f49 55
theorem C49ok : CCok Tryz.prog Tryz.f49 55 C49 := mkC_ok _
@[go_sem] theorem call49 (a H) : callC Tryz.prog 49 a H = .call 49 a := callC_ok (by kernel_rfl) a H
theorem R49ok : resKs Tryz.prog Tryz.f49.results.toList = some [(RK.tmp z.o.i)] := by kernel_rfl
noncomputable def C120 := mkC Tryz.prog Tryz.f120 11
theorem C120ok : CCok Tryz.prog Tryz.f120 11 C120 := mkC_ok _
@[go_sem] theorem call120 (a H) : callC Tryz.prog 120 a H = .call 120 a := callC_ok (by kernel_rfl) a H
theorem R120ok : resKs Tryz.prog Tryz.f120.results.toList = some [(RK.tmp z.i)] := by kernel_rfl
noncomputable def C118 := mkC Tryz.prog Tryz.f118 52
theorem C118ok : CCok Tryz.prog Tryz.f118 52 C118 := mkC_ok _
@[go_sem] theorem call118 (a H) : callC Tryz.prog 118 a H = .call 118 a := callC_ok (by kernel_rfl) a H
theorem R118ok : resKs Tryz.prog Tryz.f118.results.toList = some [(RK.tmp z.o.i)] := by kernel_rfl
noncomputable def C183 := mkC Tryz.prog Tryz.f183 18
theorem C183ok : CCok Tryz.prog Tryz.f183 18 C183 := mkC_ok _
@[go_sem] theorem call183 (a H) : callC Tryz.prog 183 a H = .call 183 a := callC_ok (by kernel_rfl) a H
theorem R183ok : resKs Tryz.prog Tryz.f183.results.toList = some [(RK.tmp z.i)] := by kernel_rfl
noncomputable def C184 := mkC Tryz.prog Tryz.f184 19
theorem C184ok : CCok Tryz.prog Tryz.f184 19 C184 := mkC_ok _
@[go_sem] theorem call184 (a H) : callC Tryz.prog 184 a H = .call 184 a := callC_ok (by kernel_rfl) a H
theorem R184ok : resKs Tryz.prog Tryz.f184.results.toList = some [(RK.tmp z.i)] := by kernel_rfl
noncomputable def C135 := mkC Tryz.prog Tryz.f135 42
theorem C135ok : CCok Tryz.prog Tryz.f135 42 C135 := mkC_ok _
@[go_sem] theorem call135 (a H) : callC Tryz.prog 135 a H = .call 135 a := callC_ok (by kernel_rfl) a H
theorem R135ok : resKs Tryz.prog Tryz.f135.results.toList = some [(RK.tmp z.i), (RK.tmp z.o.o), (RK.tmp z.o.i)] := by kernel_rfl
end Go.Proofs
namespace Go.Proofs
open Go Go.Ev
variable {H : Heap}
theorem f47_ok {v w : AV} {l m : List Cell} (hA : Arr H 5 v (l.map Cell.enc)) (hB : Arr H 5 w (m.map Cell.enc)) (hl : l.length < 4294967296) (hm : m.length < 4294967296) :
  FnOk Tryz.prog 47 [v, w] H fun r G => r = .bool (decide (l = m)) ∧ G = H := by
 refine FnOk.assume fun hok => ?_
 refine FnOk.drop (R := fun r => r = .bool (decide (l = m))) ?_ (by rintro v rfl ρ; rw [AV.ren])
 refine FnOk.of_WW Tryz.func47 rfl C47ok R47ok E0 good_E0 ?_
 rcases hA.forms with ⟨rfl, hnil⟩ | ⟨k, off, ex, cap, rfl, hrho⟩ <;> rcases hB.forms with ⟨rfl, hnil2⟩ | ⟨k2, off2, ex2, cap2, rfl, hrho2⟩
 ·have hn0 : l.length = 0 := by simpa using hnil
  have hm0 : m.length = 0 := by simpa using hnil2
  by_cases hlen : l.length = m.length
  ·have hle : (l.length : Int) = (m.length : Int) := by omega
   have h0 : (0 : Int) = (m.length : Int) := by omega
   have h0 : (l.length : Int) = 0 := by omega
   simp only [go_sem, C47, List.length_map, hle, h0.symm]
   refine LL.st good_E0 (fun i : Nat => l.length - i) (fun i => i ≤ l.length ∧ ∀ j, j < i → l[j]? = m[j]?)
    (fun i => [(.z, .nils), ((.o .z), .nils), ((.o (.i .z)), .int .i64 i)])
    (fun i => []) ?_ 0 (σ := []) (Wk.mk' rfl (by decide) (by simp only [go_sem, List.length_map, hn0, hm0]) (by simp only [go_sem, List.length_map, hn0, hm0])) ⟨by omega, by simp⟩
   rintro i ⟨hi, hno⟩
   by_cases hlt : i < l.length
   ·exact absurd hlt (by omega)
   ·have hci : ¬ (i : Int) < (l.length : Int) := by omega
    simp only [go_sem, List.length_map, hci, show ¬ (i : Int) < 0 by omega]
    refine ⟨bool_t (List.ext_getElem? fun j => ?_), _, rfl⟩
    rcases Nat.lt_or_ge j l.length with g | g
    ·exact hno j (by omega)
    ·rw [List.getElem?_eq_none g, List.getElem?_eq_none (by omega)]
  ·have hne : ¬ (l.length : Int) = (m.length : Int) := by omega
   have h0 : ¬ (0 : Int) = (m.length : Int) := by omega
   have h0 : ¬ (l.length : Int) = 0 := by omega
   exact absurd (hn0.trans hm0.symm) hlen
 ·have hn0 : l.length = 0 := by simpa using hnil
  skip
  by_cases hlen : l.length = m.length
  ·have hle : (l.length : Int) = (m.length : Int) := by omega
   have h0 : (0 : Int) = (m.length : Int) := by omega
   skip
   simp only [go_sem, C47, List.length_map, hle, h0.symm]
   refine LL.st good_E0 (fun i : Nat => l.length - i) (fun i => i ≤ l.length ∧ ∀ j, j < i → l[j]? = m[j]?)
    (fun i => [(.z, .nils), ((.o .z), .slice k2 off2 (m.map Cell.enc).length 5 ex2 cap2), ((.o (.i .z)), .int .i64 i)])
    (fun i => []) ?_ 0 (σ := []) (Wk.mk' rfl (by decide) (by simp only [go_sem, List.length_map, hn0, hrho2]) (by simp only [go_sem, List.length_map, hn0, hrho2])) ⟨by omega, by simp⟩
   rintro i ⟨hi, hno⟩
   by_cases hlt : i < l.length
   ·exact absurd hlt (by omega)
   ·have hci : ¬ (i : Int) < (l.length : Int) := by omega
    simp only [go_sem, List.length_map, hci, show ¬ (i : Int) < 0 by omega]
    refine ⟨bool_t (List.ext_getElem? fun j => ?_), _, rfl⟩
    rcases Nat.lt_or_ge j l.length with g | g
    ·exact hno j (by omega)
    ·rw [List.getElem?_eq_none g, List.getElem?_eq_none (by omega)]
  ·have hne : ¬ (l.length : Int) = (m.length : Int) := by omega
   have h0 : ¬ (0 : Int) = (m.length : Int) := by omega
   skip
   simp only [go_sem, C47, List.length_map, hne, h0]
   exact ⟨bool_f fun h => hlen (by rw [h]), _, rfl⟩
 ·skip
  have hm0 : m.length = 0 := by simpa using hnil2
  by_cases hlen : l.length = m.length
  ·have hle : (l.length : Int) = (m.length : Int) := by omega
   skip
   have h0 : (l.length : Int) = 0 := by omega
   simp only [go_sem, C47, List.length_map, h0]
   refine LL.st good_E0 (fun i : Nat => l.length - i) (fun i => i ≤ l.length ∧ ∀ j, j < i → l[j]? = m[j]?)
    (fun i => [(.z, .slice k off (l.map Cell.enc).length 5 ex cap), ((.o .z), .nils), ((.o (.i .z)), .int .i64 i)])
    (fun i => []) ?_ 0 (σ := []) (Wk.mk' rfl (by decide) (by simp only [go_sem, List.length_map, hrho, hm0]) (by simp only [go_sem, List.length_map, hrho, hm0])) ⟨by omega, by simp⟩
   rintro i ⟨hi, hno⟩
   by_cases hlt : i < l.length
   ·exact absurd hlt (by omega)
   ·have hci : ¬ (i : Int) < (l.length : Int) := by omega
    simp only [go_sem, List.length_map, hci]
    refine ⟨bool_t (List.ext_getElem? fun j => ?_), _, rfl⟩
    rcases Nat.lt_or_ge j l.length with g | g
    ·exact hno j (by omega)
    ·rw [List.getElem?_eq_none g, List.getElem?_eq_none (by omega)]
  ·have hne : ¬ (l.length : Int) = (m.length : Int) := by omega
   skip
   have h0 : ¬ (l.length : Int) = 0 := by omega
   simp only [go_sem, C47, List.length_map, hne, h0]
   exact ⟨bool_f fun h => hlen (by rw [h]), _, rfl⟩
 ·skip
  skip
  by_cases hlen : l.length = m.length
  ·have hle : (l.length : Int) = (m.length : Int) := by omega
   skip
   skip
   simp only [go_sem, C47, List.length_map, hle]
   refine LL.st good_E0 (fun i : Nat => l.length - i) (fun i => i ≤ l.length ∧ ∀ j, j < i → l[j]? = m[j]?)
    (fun i => [(.z, .slice k off (l.map Cell.enc).length 5 ex cap), ((.o .z), .slice k2 off2 (m.map Cell.enc).length 5 ex2 cap2), ((.o (.i .z)), .int .i64 i)])
    (fun i => []) ?_ 0 (σ := []) (Wk.mk' rfl (by decide) (by simp only [go_sem, List.length_map, hrho, hrho2]) (by simp only [go_sem, List.length_map, hrho, hrho2])) ⟨by omega, by simp⟩
   rintro i ⟨hi, hno⟩
   by_cases hlt : i < l.length
   ·obtain ⟨kk, r, ex', cap', wr, rows, hv, hk, hg, _, hat⟩ := hA.pick (j := i) (by simpa using hlt)
    have hrow := hat i (by simpa using hlt)
    have hgo := Heap.get_ext_old hok hg
    have hw := wrap_succ (n := i) (by omega)
    have hci : (i : Int) < (l.length : Int) := by omega
    have hsi : i + 1 ≤ l.length := by omega
    have hget : l[i]? = some l[i] := List.getElem?_eq_getElem hlt
    cases hv
    obtain ⟨kk2, r2, ex2', cap2', wr2, rows2, hv2, hk2, hg2, _, hat2⟩ := hB.pick (j := i) (by simpa [hlen] using hlt)
    have hrow2 := hat2 i (by simpa [hlen] using hlt)
    have hgo2 := Heap.get_ext_old hok hg2
    have hci2 : (i : Int) < (m.length : Int) := by omega
    have hsi2 : i + 1 ≤ m.length := by omega
    have hget2 : m[i]? = some m[i] := List.getElem?_eq_getElem (by omega)
    cases hv2
    have hbad : ¬ l[i] = m[i] → ¬ l = m := fun h e => h (Option.some.inj (by rw [← hget, ← hget2, e]))
    simp only [go_sem, List.length_map, hw, hgo, hrow, hci, hsi, List.getElem?_eq_getElem hlt, Cell.enc, hrow2, hgo2, hci2, hsi2, hget2]
    have hex : l[i] = m[i] ↔ l[i].key = m[i].key ∧ l[i].value = m[i].value ∧ l[i].ver = m[i].ver ∧ l[i].del = m[i].del ∧ l[i].floor = m[i].floor := by
     cases l[i]; cases m[i]; simp
    refine ⟨fun a1 => ⟨fun a2 => ⟨fun a3 => ⟨fun a4 => ⟨fun a5 => ?_, fun h => ⟨bool_f (hbad fun e => h (hex.1 e).2.2.2.2), _, rfl⟩⟩, fun h => ⟨bool_f (hbad fun e => h (hex.1 e).2.2.2.1), _, rfl⟩⟩, fun h => ⟨bool_f (hbad fun e => h (hex.1 e).2.2.1), _, rfl⟩⟩, fun h => ⟨bool_f (hbad fun e => h (hex.1 e).2.1), _, rfl⟩⟩, fun h => ⟨bool_f (hbad fun e => h (hex.1 e).1), _, rfl⟩⟩
    refine ⟨i + 1, by show l.length - (i + 1) < l.length - i; omega, ?_, _, [], rfl, Wk.mk' rfl (by decide) (by simp only [go_sem, hrho, List.length_map, hrho2]) (by simp only [go_sem, hrho, List.length_map, hrho2])⟩
    refine ⟨by omega, fun j hj => ?_⟩
    rcases Nat.lt_or_ge j i with g | g
    ·exact hno j g
    ·obtain rfl : j = i := by omega
     rw [hget, hget2, hex.2 ⟨a1, a2, a3, a4, a5⟩]
   ·have hci : ¬ (i : Int) < (l.length : Int) := by omega
    simp only [go_sem, List.length_map, hci]
    refine ⟨bool_t (List.ext_getElem? fun j => ?_), _, rfl⟩
    rcases Nat.lt_or_ge j l.length with g | g
    ·exact hno j (by omega)
    ·rw [List.getElem?_eq_none g, List.getElem?_eq_none (by omega)]
  ·have hne : ¬ (l.length : Int) = (m.length : Int) := by omega
   skip
   skip
   simp only [go_sem, C47, List.length_map, hne]
   exact ⟨bool_f fun h => hlen (by rw [h]), _, rfl⟩
theorem f118_ok {a b : An} (ha : a.ok H) (hb : b.ok H) : FnOk Tryz.prog 118 [.agg a.enc, .agg b.enc] H fun r G => r = .bool (decide (sameA a b)) ∧ G = H := by
 refine FnOk.assume fun hok => ?_
 refine FnOk.drop (R := fun r => r = .bool (decide (sameA a b))) ?_ (by rintro v rfl ρ; rw [AV.ren])
 refine FnOk.of_WW Tryz.func118 rfl C118ok R118ok E0 good_E0 ?_
 obtain ⟨code, val, ver, l, v⟩ := a
 obtain ⟨code2, val2, ver2, m, w⟩ := b
 obtain ⟨hA, hl⟩ := ha
 obtain ⟨hB, hm⟩ := hb
 simp only at hA hl hB hm
 have hlen := fun G => hA.len G; simp only [List.length_map] at hlen; have hren := hA.ren
 have hlen2 := fun G => hB.len G
 simp only [List.length_map] at hlen2
 have hren2 := hB.ren
 simp only [go_sem, C118, An.enc, hlen, hlen2]
 refine ⟨fun g => ⟨bool_f fun e => g e.1, _, rfl⟩, fun g1 => ⟨fun g => ⟨bool_f fun e => g e.2.1, _, rfl⟩, fun g2 => ⟨fun g => ⟨bool_f fun e => g e.2.2.1, _, rfl⟩, fun g3 => ⟨fun g => ⟨bool_f fun e => g (by rw [show l = m from e.2.2.2]), _, rfl⟩, fun g4 => ?_⟩⟩⟩⟩
 have g1 := Classical.not_not.1 g1
 have g2 := Classical.not_not.1 g2
 have g3 := Classical.not_not.1 g3
 have hlm : l.length = m.length := by omega
 subst g1 g2 g3
 refine LL.st good_E0 (fun i : Nat => l.length - i) (fun i => i ≤ l.length ∧ ∀ j, j < i → l[j]? = m[j]?)
  (fun i => [((.i .z), .ptr (H.key 0) 0), ((.o (.o .z)), .ptr (H.key 1) 0), ((.o (.i .z)), .int .i64 i)]) (fun i => [.row true 4 [[.int .i64 code, .str val, .int .i64 ver, v]], .row true 4 [[.int .i64 code, .str val, .int .i64 ver, w]]]) ?_ 0 (σ := [0, 1]) (Wk.of rfl (by decide) (by simp only [go_sem, hren, hren2]) (by simp only [go_sem, hren, hren2])) ⟨Nat.zero_le _, fun j h => absurd h (Nat.not_lt_zero _)⟩
 rintro i ⟨hi, hno⟩
 by_cases hlt : i < l.length
 ·obtain ⟨kk2, r2, ex2, cap2, wr2, rows2, hv2, hrho2, hgo2, hrow2⟩ := hB.at hok (j := i) (by rw [List.length_map]; omega)
  simp only [List.length_map, List.getElem_map] at hv2 hrow2
  have hget2 : m[i]? = some (m[i]'(by omega)) := List.getElem?_eq_getElem (by omega)
  generalize m[i]'(by omega) = d at hrow2 hget2
  obtain ⟨kk, r, ex', cap', wr, rows, hv, hrho, hgo, hrow⟩ := hA.at hok (j := i) (by rw [List.length_map]; exact hlt); simp only [List.length_map, List.getElem_map] at hv hrow; cases hv; have hget : l[i]? = some l[i] := List.getElem?_eq_getElem hlt; generalize l[i] = c at hrow hget; have hw := wrap_succ (n := i) (by omega); have hci : (i : Int) < (l.length : Int) := (by omega); have hsi : i + 1 ≤ l.length := (by omega)
  subst hv2
  have hsi2 : i + 1 ≤ m.length := by omega
  simp only [go_sem, hlen, hlen2, hci, hsi, hsi2, hgo, hgo2, hrow, hrow2, hw, Rw.enc]
  have hbad : ¬ c = d → ∀ v w, AV.bool false = .bool (decide (sameA ⟨code, val, ver, l, v⟩ ⟨code, val, ver, m, w⟩)) := fun h v w => bool_f fun e => h (by rw [show l = m from e.2.2.2, hget2] at hget; exact (Option.some.inj hget).symm)
  refine ⟨fun g1 => ⟨fun g2 => ⟨fun g3 => ?_, fun g => ⟨hbad (fun e => g (by rw [e])) _ _, _, rfl⟩⟩, fun g => ⟨hbad (fun e => g (by rw [e])) _ _, _, rfl⟩⟩, fun g => ⟨hbad (fun e => g (by rw [e])) _ _, _, rfl⟩⟩
  refine ⟨i + 1, by show l.length - (i + 1) < l.length - i; omega, ⟨by omega, fun j hj => ?_⟩, _, [0, 1], rfl, Wk.of rfl (by decide) (by simp only [go_sem, hrho, hrho2]) (by simp only [go_sem, hrho, hrho2])⟩
  rcases Nat.lt_or_ge j i with h | h
  ·exact hno j h
  ·obtain rfl : j = i := by omega
   rw [hget, hget2, Rw.enc_inj ⟨g1, g2, g3⟩]
 ·have hci : ¬ (i : Int) < (l.length : Int) := by omega
  simp only [go_sem, hci, hlen]
  refine ⟨bool_t ⟨rfl, rfl, rfl, List.ext_getElem? fun j => ?_⟩, _, rfl⟩
  rcases Nat.lt_or_ge j l.length with h | h
  ·exact hno j (by omega)
  ·show l[j]? = m[j]?
   rw [List.getElem?_eq_none h, List.getElem?_eq_none (by omega)]
noncomputable def EO2 : FuncId → List AV → Heap → RC
 | 118, [.agg [.int .i64 c, .str s, .int .i64 n, v], .agg [.int .i64 c2, .str s2, .int .i64 n2, v2]], H => match rwsOf H v with | some l => (match rwsOf H v2 with | some l2 => .ok (.bool (decide (sameA ⟨c, s, n, l, v⟩ ⟨c2, s2, n2, l2, v2⟩))) H | none => .fail) | none => .fail
 | _, _, _ => .fail
theorem good_EO2 : Ev.Good Tryz.prog EO2 := by
 intro f args H r G he φ w args' ha hw
 refine (?_ : FnOk Tryz.prog f args H fun v' G' => v' = r ∧ G' = G).one φ w args' ha hw
 unfold EO2 at he
 split at he
 ·split at he
  ·rename_i hl
   split at he
   ·rename_i hl2
    cases he
    exact f118_ok (a := ⟨_, _, _, _, _⟩) (b := ⟨_, _, _, _, _⟩) (rwsOf_spec hl) (rwsOf_spec hl2)
   ·cases he
  ·cases he
 ·cases he
theorem e31 {a b : An} (h : a.ok H) (g : b.ok H) : EO2 118 [.agg [.int .i64 a.code, .str a.val, .int .i64 a.ver, a.rv], .agg [.int .i64 b.code, .str b.val, .int .i64 b.ver, b.rv]] H = .ok (.bool (decide (sameA a b))) H := by
 show (match rwsOf H a.rv with | some l => (match rwsOf H b.rv with | some l2 => RC.ok (.bool (decide (sameA ⟨a.code, a.val, a.ver, l, a.rv⟩ ⟨b.code, b.val, b.ver, l2, b.rv⟩))) H | none => .fail) | none => .fail) = _
 rw [rwsOf_eq h.1 h.2, rwsOf_eq g.1 g.2]
theorem f49_ok {v w : AV} {l m : List Dn} (hA : Arr H 6 v (l.map Dn.enc)) (hB : Arr H 6 w (m.map Dn.enc)) (ha : allOk H l) (hb : allOk H m) (hl : l.length < 9223372036854775807) :
  FnOk Tryz.prog 49 [v, w] H fun r G => r = .bool (decide (sameD l m)) ∧ G = H := by
 refine FnOk.assume fun hok => ?_
 refine FnOk.drop (R := fun r => r = .bool (decide (sameD l m))) ?_ (by rintro v rfl ρ; rw [AV.ren])
 refine FnOk.of_WW Tryz.func49 rfl C49ok R49ok EO2 good_EO2 ?_
 have hlen := fun G => hA.len G; simp only [List.length_map] at hlen; have hren := hA.ren
 have hlen2 := fun G => hB.len G
 simp only [List.length_map] at hlen2
 have hren2 := hB.ren
 simp only [go_sem, C49, hlen, hlen2]
 refine ⟨fun h => ⟨bool_f fun e => h (by rw [e.1]), _, rfl⟩, fun h => ?_⟩
 have hlm : l.length = m.length := by have := Classical.not_not.1 h; omega
 refine LL.st good_EO2 (fun i : Nat => l.length - i) (fun i => i ≤ l.length ∧ ∀ (j : Nat) (c d : Dn), j < i → l[j]? = some c → m[j]? = some d → sameDn c d)
  (fun i => [(.z, v), ((.o .z), w), ((.o (.i .z)), .int .i64 i)]) (fun i => []) ?_ 0 (σ := []) (Wk.of rfl (by decide) (by simp only [go_sem, hren, hren2]) (by simp only [go_sem])) ⟨Nat.zero_le _, fun j c d h => absurd h (Nat.not_lt_zero _)⟩
 rintro i ⟨hi, hno⟩
 by_cases hlt : i < l.length
 ·obtain ⟨kk2, r2, ex2, cap2, wr2, rows2, hv2, hrho2, hgo2, hrow2⟩ := hB.at hok (j := i) (by rw [List.length_map]; omega)
  simp only [List.length_map, List.getElem_map] at hv2 hrow2
  have hget2 : m[i]? = some (m[i]'(by omega)) := List.getElem?_eq_getElem (by omega)
  generalize m[i]'(by omega) = d at hrow2 hget2
  obtain ⟨kk, r, ex', cap', wr, rows, hv, hrho, hgo, hrow⟩ := hA.at hok (j := i) (by rw [List.length_map]; exact hlt); simp only [List.length_map, List.getElem_map] at hv hrow; cases hv; have hget : l[i]? = some l[i] := List.getElem?_eq_getElem hlt; generalize l[i] = c at hrow hget; have hw := wrap_succ (n := i) (by omega); have hci : (i : Int) < (l.length : Int) := (by omega); have hsi : i + 1 ≤ l.length := (by omega)
  subst hv2
  have hsi2 : i + 1 ≤ m.length := by omega
  have hco := ha c (List.mem_of_getElem? hget)
  have hdo := hb d (List.mem_of_getElem? hget2)
  have he := fun L => e31 (hco.ext L) (hdo.ext L)
  simp only [go_sem, off6, hlen, hlen2, hci, hsi, hsi2, hgo, hgo2, hrow, hrow2, hw, Dn.enc, he]
  have hbad : ¬ sameDn c d → AV.bool false = .bool (decide (sameD l m)) := fun h => bool_f fun e => h (e.2 i c d hget hget2)
  refine ⟨fun g => ⟨hbad fun e => g e.1, _, rfl⟩, fun g1 => ⟨fun g => ⟨hbad fun e => g e.2.1, _, rfl⟩, fun g2 => ⟨fun g3 => ?_, fun g => ⟨hbad fun e => g e.2.2, _, rfl⟩⟩⟩⟩
  refine ⟨i + 1, by show l.length - (i + 1) < l.length - i; omega, ⟨by omega, fun j c' d' hj hc hd => ?_⟩, _, [], rfl, Wk.of rfl (by decide) (by simp only [go_sem, hrho, hrho2]) (by simp only [go_sem])⟩
  rcases Nat.lt_or_ge j i with h | h
  ·exact hno j c' d' h hc hd
  ·obtain rfl : j = i := by omega
   rw [hget] at hc; rw [hget2] at hd; cases hc; cases hd
   exact ⟨Classical.not_not.1 g1, Classical.not_not.1 g2, g3⟩
 ·have hci : ¬ (i : Int) < (l.length : Int) := by omega
  simp only [go_sem, hci, hlen]
  refine ⟨bool_t ⟨hlm, fun j c d hc hd => hno j c d (by have := (List.getElem?_eq_some_iff.1 hc).1; omega) hc hd⟩, _, rfl⟩
theorem f48_ok {v w : AV} {l m : List Evn} (hA : Arr H 4 v (l.map Evn.enc)) (hB : Arr H 4 w (m.map Evn.enc)) (hl : l.length < 9223372036854775807) :
  FnOk Tryz.prog 48 [v, w] H fun r G => r = .bool (decide (l = m)) ∧ G = H := by
 refine FnOk.assume fun hok => ?_
 refine FnOk.drop (R := fun r => r = .bool (decide (l = m))) ?_ (by rintro v rfl ρ; rw [AV.ren])
 refine FnOk.of_WW Tryz.func48 rfl C48ok R48ok E0 good_E0 ?_
 have hlen := fun G => hA.len G; simp only [List.length_map] at hlen; have hren := hA.ren
 have hlen2 := fun G => hB.len G
 simp only [List.length_map] at hlen2
 have hren2 := hB.ren
 simp only [go_sem, C48, hlen, hlen2]
 refine ⟨fun h => ⟨bool_f fun e : l = m => h (by rw [e]), _, rfl⟩, fun h => ?_⟩
 have hlm : l.length = m.length := by have := Classical.not_not.1 h; omega
 refine LL.st good_E0 (fun i : Nat => l.length - i) (fun i => i ≤ l.length ∧ ∀ j, j < i → l[j]? = m[j]?)
  (fun i => [(.z, v), ((.o .z), w), ((.o (.i .z)), .int .i64 i)]) (fun i => []) ?_ 0 (σ := []) (Wk.of rfl (by decide) (by simp only [go_sem, hren, hren2]) (by simp only [go_sem])) ⟨Nat.zero_le _, fun j h => absurd h (Nat.not_lt_zero _)⟩
 rintro i ⟨hi, hno⟩
 by_cases hlt : i < l.length
 ·obtain ⟨kk2, r2, ex2, cap2, wr2, rows2, hv2, hrho2, hgo2, hrow2⟩ := hB.at hok (j := i) (by rw [List.length_map]; omega)
  simp only [List.length_map, List.getElem_map] at hv2 hrow2
  have hget2 : m[i]? = some (m[i]'(by omega)) := List.getElem?_eq_getElem (by omega)
  generalize m[i]'(by omega) = d at hrow2 hget2
  obtain ⟨kk, r, ex', cap', wr, rows, hv, hrho, hgo, hrow⟩ := hA.at hok (j := i) (by rw [List.length_map]; exact hlt); simp only [List.length_map, List.getElem_map] at hv hrow; cases hv; have hget : l[i]? = some l[i] := List.getElem?_eq_getElem hlt; generalize l[i] = c at hrow hget; have hw := wrap_succ (n := i) (by omega); have hci : (i : Int) < (l.length : Int) := (by omega); have hsi : i + 1 ≤ l.length := (by omega)
  subst hv2
  have hsi2 : i + 1 ≤ m.length := by omega
  have hbad : ¬ c = d → AV.bool false = .bool (decide (l = m)) := fun h => bool_f fun e => h (by rw [e, hget2] at hget; exact (Option.some.inj hget).symm)
  by_cases hcd : c = d
  ·subst hcd
   obtain ⟨ck, cn, cv, cd⟩ := c
   cases cd
   all_goals
    simp only [go_sem, hlen, hlen2, hci, hsi, hsi2, hgo, hgo2, hrow, hrow2, hw, Evn.enc]
    refine ⟨i + 1, by show l.length - (i + 1) < l.length - i; omega, ⟨by omega, fun j hj => ?_⟩, _, [], rfl, Wk.of rfl (by decide) (by simp only [go_sem, hrho, hrho2]) (by simp only [go_sem])⟩
    rcases Nat.lt_or_ge j i with h | h
    ·exact hno j h
    ·obtain rfl : j = i := by omega
     rw [hget, hget2]
  ·have hb := hbad hcd
   obtain ⟨ck, cn, cv, cd⟩ := c
   obtain ⟨dk, dn, dv, dd⟩ := d
   cases cd <;> cases dd
   all_goals
    simp only [go_sem, hlen, hlen2, hci, hsi, hsi2, hgo, hgo2, hrow, hrow2, hw, Evn.enc]
    repeat' (first | apply And.intro | intro _)
   all_goals first | exact hb | exact ⟨_, rfl⟩ | (exfalso; apply hcd; simp_all)
 ·have hci : ¬ (i : Int) < (l.length : Int) := by omega
  simp only [go_sem, hci, hlen]
  refine ⟨bool_t (List.ext_getElem? fun j => ?_), _, rfl⟩
  rcases Nat.lt_or_ge j l.length with h | h
  ·exact hno j (by omega)
  ·rw [List.getElem?_eq_none h, List.getElem?_eq_none (by omega)]
end Go.Proofs
namespace Go.Proofs
open Go Go.Ev K
noncomputable def C44 := mkC Tryz.prog Tryz.f44 56
theorem C44ok : CCok Tryz.prog Tryz.f44 56 C44 := mkC_ok _
@[go_sem] theorem call44 (a H) : callC Tryz.prog 44 a H = .call 44 a := callC_ok (by kernel_rfl) a H
theorem R44ok : resKs Tryz.prog Tryz.f44.results.toList = some [(RK.cell z.o.i true 4), (RK.tmp z.i.o)] := by kernel_rfl
noncomputable def C79 := mkC Tryz.prog Tryz.f79 13
theorem C79ok : CCok Tryz.prog Tryz.f79 13 C79 := mkC_ok _
@[go_sem] theorem call79 (a H) : callC Tryz.prog 79 a H = .call 79 a := callC_ok (by kernel_rfl) a H
theorem R79ok : resKs Tryz.prog Tryz.f79.results.toList = some [(RK.cell z.o.i true 8), (RK.tmp z.i.o)] := by kernel_rfl
noncomputable def C23 := mkC Tryz.prog Tryz.f23 3
theorem C23ok : CCok Tryz.prog Tryz.f23 3 C23 := mkC_ok _
@[go_sem] theorem call23 (a H) : callC Tryz.prog 23 a H = .call 23 a := callC_ok (by kernel_rfl) a H
theorem R23ok : resKs Tryz.prog Tryz.f23.results.toList = some [(RK.tmp z)] := by kernel_rfl
@[go_sem] theorem call43 (a H) : callC Tryz.prog 43 a H = .call 43 a := callC_ok (by kernel_rfl) a H
@[go_sem] theorem call54 (a H) : callC Tryz.prog 54 a H = .call 54 a := callC_ok (by kernel_rfl) a H
noncomputable def C13 := mkC Tryz.prog Tryz.f13 22
theorem C13ok : CCok Tryz.prog Tryz.f13 22 C13 := mkC_ok _
@[go_sem] theorem call13 (a H) : callC Tryz.prog 13 a H = .call 13 a := callC_ok (by kernel_rfl) a H
theorem R13ok : resKs Tryz.prog Tryz.f13.results.toList = some [(RK.tmp z.i)] := by kernel_rfl
noncomputable def C55 := mkC Tryz.prog Tryz.f55 11
theorem C55ok : CCok Tryz.prog Tryz.f55 11 C55 := mkC_ok _
@[go_sem] theorem call55 (a H) : callC Tryz.prog 55 a H = .call 55 a := callC_ok (by kernel_rfl) a H
theorem R55ok : resKs Tryz.prog Tryz.f55.results.toList = some [(RK.cell z.i true 16)] := by kernel_rfl
noncomputable def C109 := mkC Tryz.prog Tryz.f109 46
theorem C109ok : CCok Tryz.prog Tryz.f109 46 C109 := mkC_ok _
@[go_sem] theorem call109 (a H) : callC Tryz.prog 109 a H = .call 109 a := callC_ok (by kernel_rfl) a H
theorem R109ok : resKs Tryz.prog Tryz.f109.results.toList = some [(RK.tmp z.o.i)] := by kernel_rfl
noncomputable def C110 := mkC Tryz.prog Tryz.f110 40
theorem C110ok : CCok Tryz.prog Tryz.f110 40 C110 := mkC_ok _
@[go_sem] theorem call110 (a H) : callC Tryz.prog 110 a H = .call 110 a := callC_ok (by kernel_rfl) a H
theorem R110ok : resKs Tryz.prog Tryz.f110.results.toList = some [(RK.cell z.o.i true 4), (RK.tmp z.i.o)] := by kernel_rfl
noncomputable def C50 := mkC Tryz.prog Tryz.f50 17
theorem C50ok : CCok Tryz.prog Tryz.f50 17 C50 := mkC_ok _
@[go_sem] theorem call50 (a H) : callC Tryz.prog 50 a H = .call 50 a := callC_ok (by kernel_rfl) a H
theorem R50ok : resKs Tryz.prog Tryz.f50.results.toList = some [(RK.cell z.o.i true 8), (RK.tmp z.i.o)] := by kernel_rfl
noncomputable def C51 := mkC Tryz.prog Tryz.f51 11
theorem C51ok : CCok Tryz.prog Tryz.f51 11 C51 := mkC_ok _
@[go_sem] theorem call51 (a H) : callC Tryz.prog 51 a H = .call 51 a := callC_ok (by kernel_rfl) a H
theorem R51ok : resKs Tryz.prog Tryz.f51.results.toList = some [(RK.tmp z.o.i)] := by kernel_rfl
noncomputable def C146 := mkC Tryz.prog Tryz.f146 13
theorem C146ok : CCok Tryz.prog Tryz.f146 13 C146 := mkC_ok _
@[go_sem] theorem call146 (a H) : callC Tryz.prog 146 a H = .call 146 a := callC_ok (by kernel_rfl) a H
theorem R146ok : resKs Tryz.prog Tryz.f146.results.toList = some [(RK.tmp z.o.o)] := by kernel_rfl
noncomputable def C45 := mkC Tryz.prog Tryz.f45 38
theorem C45ok : CCok Tryz.prog Tryz.f45 38 C45 := mkC_ok _
@[go_sem] theorem call45 (a H) : callC Tryz.prog 45 a H = .call 45 a := callC_ok (by kernel_rfl) a H
theorem R45ok : resKs Tryz.prog Tryz.f45.results.toList = some [(RK.cell z.i true 8)] := by kernel_rfl
@[go_sem] theorem call126 (a H) : callC Tryz.prog 126 a H = .call 126 a := callC_ok (by kernel_rfl) a H
noncomputable def C168 := mkC Tryz.prog Tryz.f168 9
theorem C168ok : CCok Tryz.prog Tryz.f168 9 C168 := mkC_ok _
@[go_sem] theorem call168 (a H) : callC Tryz.prog 168 a H = .call 168 a := callC_ok (by kernel_rfl) a H
theorem R168ok : resKs Tryz.prog Tryz.f168.results.toList = some [(RK.tmp z.o.i)] := by kernel_rfl
noncomputable def C169 := mkC Tryz.prog Tryz.f169 6
theorem C169ok : CCok Tryz.prog Tryz.f169 6 C169 := mkC_ok _
@[go_sem] theorem call169 (a H) : callC Tryz.prog 169 a H = .call 169 a := callC_ok (by kernel_rfl) a H
theorem R169ok : resKs Tryz.prog Tryz.f169.results.toList = some [(RK.tmp z.i)] := by kernel_rfl
noncomputable def C170 := mkC Tryz.prog Tryz.f170 7
theorem C170ok : CCok Tryz.prog Tryz.f170 7 C170 := mkC_ok _
@[go_sem] theorem call170 (a H) : callC Tryz.prog 170 a H = .call 170 a := callC_ok (by kernel_rfl) a H
theorem R170ok : resKs Tryz.prog Tryz.f170.results.toList = some [] := by kernel_rfl
noncomputable def C171 := mkC Tryz.prog Tryz.f171 14
theorem C171ok : CCok Tryz.prog Tryz.f171 14 C171 := mkC_ok _
@[go_sem] theorem call171 (a H) : callC Tryz.prog 171 a H = .call 171 a := callC_ok (by kernel_rfl) a H
theorem R171ok : resKs Tryz.prog Tryz.f171.results.toList = some [] := by kernel_rfl
noncomputable def C173 := mkC Tryz.prog Tryz.f173 20
theorem C173ok : CCok Tryz.prog Tryz.f173 20 C173 := mkC_ok _
@[go_sem] theorem call173 (a H) : callC Tryz.prog 173 a H = .call 173 a := callC_ok (by kernel_rfl) a H
theorem R173ok : resKs Tryz.prog Tryz.f173.results.toList = some [(RK.tmp z.o.i)] := by kernel_rfl
noncomputable def C80 := mkC Tryz.prog Tryz.f80 19
theorem C80ok : CCok Tryz.prog Tryz.f80 19 C80 := mkC_ok _
@[go_sem] theorem call80 (a H) : callC Tryz.prog 80 a H = .call 80 a := callC_ok (by kernel_rfl) a H
theorem R80ok : resKs Tryz.prog Tryz.f80.results.toList = some [(RK.tmp z.i)] := by kernel_rfl
noncomputable def C174 := mkC Tryz.prog Tryz.f174 26
theorem C174ok : CCok Tryz.prog Tryz.f174 26 C174 := mkC_ok _
@[go_sem] theorem call174 (a H) : callC Tryz.prog 174 a H = .call 174 a := callC_ok (by kernel_rfl) a H
theorem R174ok : resKs Tryz.prog Tryz.f174.results.toList = some [] := by kernel_rfl
end Go.Proofs
namespace Go.Proofs
open Go Go.Ev K
noncomputable def C119 := mkC Tryz.prog Tryz.f119 19
theorem C119ok : CCok Tryz.prog Tryz.f119 19 C119 := mkC_ok _
@[go_sem] theorem call119 (a H) : callC Tryz.prog 119 a H = .call 119 a := callC_ok (by kernel_rfl) a H
theorem R119ok : resKs Tryz.prog Tryz.f119.results.toList = some [(RK.tmp z.o.i)] := by kernel_rfl
noncomputable def C163 := mkC Tryz.prog Tryz.f163 56
theorem C163ok : CCok Tryz.prog Tryz.f163 56 C163 := mkC_ok _
@[go_sem] theorem call163 (a H) : callC Tryz.prog 163 a H = .call 163 a := callC_ok (by kernel_rfl) a H
theorem R163ok : resKs Tryz.prog Tryz.f163.results.toList = some [(RK.tmp z.i), (RK.tmp z.o.o), (RK.tmp z.o.i)] := by kernel_rfl
noncomputable def C166 := mkC Tryz.prog Tryz.f166 45
theorem C166ok : CCok Tryz.prog Tryz.f166 45 C166 := mkC_ok _
@[go_sem] theorem call166 (a H) : callC Tryz.prog 166 a H = .call 166 a := callC_ok (by kernel_rfl) a H
theorem R166ok : resKs Tryz.prog Tryz.f166.results.toList = some [(RK.tmp z.o.i), (RK.tmp z.i.o), (RK.tmp z.i.i)] := by kernel_rfl
noncomputable def C213 := mkC Tryz.prog Tryz.f213 9
theorem C213ok : CCok Tryz.prog Tryz.f213 9 C213 := mkC_ok _
@[go_sem] theorem call213 (a H) : callC Tryz.prog 213 a H = .call 213 a := callC_ok (by kernel_rfl) a H
theorem R213ok : resKs Tryz.prog Tryz.f213.results.toList = some [] := by kernel_rfl
noncomputable def C214 := mkC Tryz.prog Tryz.f214 19
theorem C214ok : CCok Tryz.prog Tryz.f214 19 C214 := mkC_ok _
@[go_sem] theorem call214 (a H) : callC Tryz.prog 214 a H = .call 214 a := callC_ok (by kernel_rfl) a H
theorem R214ok : resKs Tryz.prog Tryz.f214.results.toList = some [(RK.tmp z.o.i)] := by kernel_rfl
noncomputable def C215 := mkC Tryz.prog Tryz.f215 18
theorem C215ok : CCok Tryz.prog Tryz.f215 18 C215 := mkC_ok _
@[go_sem] theorem call215 (a H) : callC Tryz.prog 215 a H = .call 215 a := callC_ok (by kernel_rfl) a H
theorem R215ok : resKs Tryz.prog Tryz.f215.results.toList = some [(RK.tmp z.i)] := by kernel_rfl
noncomputable def C216 := mkC Tryz.prog Tryz.f216 20
theorem C216ok : CCok Tryz.prog Tryz.f216 20 C216 := mkC_ok _
@[go_sem] theorem call216 (a H) : callC Tryz.prog 216 a H = .call 216 a := callC_ok (by kernel_rfl) a H
theorem R216ok : resKs Tryz.prog Tryz.f216.results.toList = some [(RK.tmp z.o.i)] := by kernel_rfl
noncomputable def C217 := mkC Tryz.prog Tryz.f217 148
theorem C217ok : CCok Tryz.prog Tryz.f217 148 C217 := mkC_ok _
@[go_sem] theorem call217 (a H) : callC Tryz.prog 217 a H = .call 217 a := callC_ok (by kernel_rfl) a H
theorem R217ok : resKs Tryz.prog Tryz.f217.results.toList = some [] := by kernel_rfl
noncomputable def C218 := mkC Tryz.prog Tryz.f218 8
theorem C218ok : CCok Tryz.prog Tryz.f218 8 C218 := mkC_ok _
@[go_sem] theorem call218 (a H) : callC Tryz.prog 218 a H = .call 218 a := callC_ok (by kernel_rfl) a H
theorem R218ok : resKs Tryz.prog Tryz.f218.results.toList = some [(RK.tmp z.i)] := by kernel_rfl
noncomputable def C219 := mkC Tryz.prog Tryz.f219 6
theorem C219ok : CCok Tryz.prog Tryz.f219 6 C219 := mkC_ok _
@[go_sem] theorem call219 (a H) : callC Tryz.prog 219 a H = .call 219 a := callC_ok (by kernel_rfl) a H
theorem R219ok : resKs Tryz.prog Tryz.f219.results.toList = some [(RK.tmp z.i)] := by kernel_rfl
noncomputable def C220 := mkC Tryz.prog Tryz.f220 42
theorem C220ok : CCok Tryz.prog Tryz.f220 42 C220 := mkC_ok _
@[go_sem] theorem call220 (a H) : callC Tryz.prog 220 a H = .call 220 a := callC_ok (by kernel_rfl) a H
theorem R220ok : resKs Tryz.prog Tryz.f220.results.toList = some [(RK.tmp z.o.i)] := by kernel_rfl
@[go_sem] theorem call221 (a H) : callC Tryz.prog 221 a H = .call 221 a := callC_ok (by kernel_rfl) a H
noncomputable def C222 := mkC Tryz.prog Tryz.f222 9
theorem C222ok : CCok Tryz.prog Tryz.f222 9 C222 := mkC_ok _
@[go_sem] theorem call222 (a H) : callC Tryz.prog 222 a H = .call 222 a := callC_ok (by kernel_rfl) a H
theorem R222ok : resKs Tryz.prog Tryz.f222.results.toList = some [(RK.tmp z.o.o)] := by kernel_rfl
noncomputable def C190 := mkC Tryz.prog Tryz.f190 13
theorem C190ok : CCok Tryz.prog Tryz.f190 13 C190 := mkC_ok _
@[go_sem] theorem call190 (a H) : callC Tryz.prog 190 a H = .call 190 a := callC_ok (by kernel_rfl) a H
theorem R190ok : resKs Tryz.prog Tryz.f190.results.toList = some [(RK.tmp z.o.i)] := by kernel_rfl
noncomputable def C252 := mkC Tryz.prog Tryz.f252 63
theorem C252ok : CCok Tryz.prog Tryz.f252 63 C252 := mkC_ok _
@[go_sem] theorem call252 (a H) : callC Tryz.prog 252 a H = .call 252 a := callC_ok (by kernel_rfl) a H
theorem R252ok : resKs Tryz.prog Tryz.f252.results.toList = some [] := by kernel_rfl
noncomputable def C253 := mkC Tryz.prog Tryz.f253 6
theorem C253ok : CCok Tryz.prog Tryz.f253 6 C253 := mkC_ok _
@[go_sem] theorem call253 (a H) : callC Tryz.prog 253 a H = .call 253 a := callC_ok (by kernel_rfl) a H
theorem R253ok : resKs Tryz.prog Tryz.f253.results.toList = some [(RK.tmp z.i)] := by kernel_rfl
noncomputable def C254 := mkC Tryz.prog Tryz.f254 53
theorem C254ok : CCok Tryz.prog Tryz.f254 53 C254 := mkC_ok _
@[go_sem] theorem call254 (a H) : callC Tryz.prog 254 a H = .call 254 a := callC_ok (by kernel_rfl) a H
theorem R254ok : resKs Tryz.prog Tryz.f254.results.toList = some [] := by kernel_rfl
noncomputable def C263 := mkC Tryz.prog Tryz.f263 25
theorem C263ok : CCok Tryz.prog Tryz.f263 25 C263 := mkC_ok _
@[go_sem] theorem call263 (a H) : callC Tryz.prog 263 a H = .call 263 a := callC_ok (by kernel_rfl) a H
theorem R263ok : resKs Tryz.prog Tryz.f263.results.toList = some [(RK.tmp z.i)] := by kernel_rfl
noncomputable def C286 := mkC Tryz.prog Tryz.f286 53
theorem C286ok : CCok Tryz.prog Tryz.f286 53 C286 := mkC_ok _
@[go_sem] theorem call286 (a H) : callC Tryz.prog 286 a H = .call 286 a := callC_ok (by kernel_rfl) a H
theorem R286ok : resKs Tryz.prog Tryz.f286.results.toList = some [] := by kernel_rfl
end Go.Proofs
namespace Go.Proofs
open Go Go.Ev
variable {H : Heap}
theorem and63u {b : Nat} (h : b < 256) : IntKind.u8.wrap ((BitVec.ofInt IntKind.u8.bits (b : Int) &&& BitVec.ofInt IntKind.u8.bits 63).toNat : Int) = ((b % 64 : Nat) : Int) := by
 have h1 : (BitVec.ofInt IntKind.u8.bits (b : Int) &&& BitVec.ofInt IntKind.u8.bits 63).toNat = b % 64 := by
  rw [BitVec.toNat_and, BitVec.toNat_ofInt, BitVec.toNat_ofInt]
  show ((b : Int) % ((2 ^ 8 : Nat) : Int)).toNat &&& ((63 : Int) % ((2 ^ 8 : Nat) : Int)).toNat = _
  rw [show ((b : Int) % ((2 ^ 8 : Nat) : Int)).toNat = b by omega, show ((63 : Int) % ((2 ^ 8 : Nat) : Int)).toNat = 2 ^ 6 - 1 by decide, Nat.and_two_pow_sub_one_eq_mod]
 rw [h1]
 exact wrap_u8 (by omega)
theorem bin_and63u {β : Type} (ek : EK) (pk : Option (List LK)) (lit : Bool) {b : Nat} (h : b < 256) (f : β) (c : AV → β) : binV Tryz.prog ek pk lit .and (.int .u8 (b : Int)) (.int .u8 63) f c = c (.int .u8 ((b % 64 : Nat) : Int)) := by rw [bin_and, and63u h]
theorem pow64_le {i : Nat} (hi : i < 8) : 64 ^ i ≤ 4398046511104 := by
 have : 64 ^ i ≤ 64 ^ 7 := Nat.pow_le_pow_right (by decide) (by omega)
 simpa using this
theorem mul_lt64 {r p : Nat} (hr : r < 64) (hp : p ≤ 4398046511104) : r * p < 281474976710656 := by
 have h1 : r * p ≤ 63 * p := Nat.mul_le_mul_right p (by omega)
 omega
theorem pow64 (i : Nat) : 64 ^ i = 2 ^ (6 * i) := by rw [Nat.pow_mul]
theorem bin_shl64 {β : Type} (ek : EK) (pk : Option (List LK)) (lit : Bool) {r i : Nat} (hr : r < 64) (hi : i < 8) (f : β) (c : AV → β) : binV Tryz.prog ek pk lit .shl (.int .i64 (r : Int)) (.int .i64 ((6 * i : Nat) : Int)) f c = c (.int .i64 ((r * 64 ^ i : Nat) : Int)) := by
 have hb : min (6 * i) IntKind.i64.bits = 6 * i := Nat.min_eq_left (by show 6 * i ≤ 64; omega)
 have h2 : (r : Int) * 2 ^ (6 * i) = ((r * 64 ^ i : Nat) : Int) := by rw [pow64]; push_cast; rfl
 have h3 := mul_lt64 hr (pow64_le hi)
 rw [bin_shl, hb, h2, wrap_i64 (by omega) (by omega)]
theorem bin_or64n {β : Type} (ek : EK) (pk : Option (List LK)) (lit : Bool) {a r i : Nat} (ha : a < 64 ^ i) (hr : r < 64) (hi : i < 8) (f : β) (c : AV → β) : binV Tryz.prog ek pk lit .or (.int .i64 (a : Int)) (.int .i64 ((r * 64 ^ i : Nat) : Int)) f c = c (.int .i64 ((a + r * 64 ^ i : Nat) : Int)) := by
 have h3 := mul_lt64 hr (pow64_le hi)
 have h4 := pow64_le hi
 have h1 : (BitVec.ofInt IntKind.i64.bits (a : Int) ||| BitVec.ofInt IntKind.i64.bits ((r * 64 ^ i : Nat) : Int)).toNat = a + r * 64 ^ i := by
  rw [BitVec.toNat_or, BitVec.toNat_ofInt, BitVec.toNat_ofInt]
  show ((a : Int) % ((2 ^ 64 : Nat) : Int)).toNat ||| (((r * 64 ^ i : Nat) : Int) % ((2 ^ 64 : Nat) : Int)).toNat = _
  generalize hq : r * 64 ^ i = q at h3
  rw [show ((a : Int) % ((2 ^ 64 : Nat) : Int)).toNat = a by omega, show ((q : Int) % ((2 ^ 64 : Nat) : Int)).toNat = q by omega, ← hq, Nat.or_comm, Nat.mul_comm, pow64, ← Nat.two_pow_add_eq_or_of_lt (by rw [← pow64]; exact ha), Nat.add_comm]
 generalize hq : r * 64 ^ i = q at h1 h3
 rw [bin_or, h1, wrap_i64 (by omega) (by omega)]
def hdN (m : Nat) : Nat := if m < 64 then m else 64 + m % 64
theorem numT_cons (m : Nat) : ∃ t, numT m = hdN m :: t := by
 unfold hdN
 by_cases h : m < 64
 ·exact ⟨[], by rw [numT_lo h, if_pos h]⟩
 ·exact ⟨numT (m / 64), by rw [numT_hi h, if_neg h]⟩
theorem f163_num {n : Nat} (hn : n < 281474976710656) {l : List Nat} (hl : l.length < 1000000) : FnOk Tryz.prog 163 [.str (numT n ++ l)] H fun r G => r = .tup [.int .i64 n, .str l, .nili] ∧ G = H := by
 refine FnOk.drop (R := fun r => r = .tup [.int .i64 n, .str l, .nili]) ?_ (by rintro v rfl ρ; simp only [AV.ren, AV.rens])
 refine FnOk.of_WW Tryz.func163 rfl C163ok R163ok E0 good_E0 ?_
 obtain ⟨s, hs⟩ : ∃ s, s = numT n ++ l := ⟨_, rfl⟩
 rw [← hs]
 simp only [go_sem, C163]
 refine LL.st good_E0 (fun i : Nat => 8 - i) (fun i => i < 8 ∧ s.drop i = numT (n / 64 ^ i) ++ l ∧ (i = 0 ∨ 0 < n / 64 ^ i)) (fun i => [(.z, .str s), ((.o (.i .z)), .int .i64 (n % 64 ^ i : Nat)), ((.o (.o (.o .z))), .int .i64 i)]) (fun _ => []) ?_ 0 (σ := [])
  (Wk.of rfl (by decide) (by simp only [go_sem, Nat.pow_zero, Nat.mod_one]; first | done | rfl | trace_state) (by simp only [go_sem])) ⟨by decide, by rw [List.drop_zero, Nat.pow_zero, Nat.div_one, hs], .inl rfl⟩
 rintro i ⟨hi, hd, hz⟩
 obtain ⟨m, hm⟩ : ∃ m, m = n / 64 ^ i := ⟨_, rfl⟩
 rw [← hm] at hd hz
 obtain ⟨t, ht⟩ := numT_cons m
 have hb : hdN m ≤ 127 := by unfold hdN; split <;> omega
 have hget : s[i]? = some (hdN m) := by
  have := congrArg (·[0]?) hd
  rw [ht] at this
  simpa using this
 obtain ⟨hlt, -⟩ := List.getElem?_eq_some_iff.1 hget
 have hdr : s.drop (i + 1) = t ++ l := by
  have := congrArg (List.drop 1) hd
  rw [ht, List.drop_drop] at this
  simpa [Nat.add_comm] using this
 have c1 : ¬ (s.length : Int) ≤ (i : Int) := by omega
 have c0 : (i : Int) < 8 := by omega
 have c2 : ¬ (127 : Int) < (hdN m : Int) := by omega
 have hw6 : IntKind.i64.wrap (6 * (i : Int)) = ((6 * i : Nat) : Int) := by rw [wrap_i64 (by omega) (by omega)]; push_cast; rfl
 have hwi : IntKind.i64.wrap ((i : Int) + 1) = ((i + 1 : Nat) : Int) := wrap_succ (by omega)
 have hle : i + 1 ≤ s.length := hlt
 have hdc : ∀ {β : Type} (f : β) (c : List Nat → β), dropC f (i + 1) s c = c (t ++ l) := fun f c => by rw [dropC_eq, if_pos hle, hdr]
 have hr : hdN m % 64 < 64 := Nat.mod_lt _ (by decide)
 have ha : n % 64 ^ i < 64 ^ i := Nat.mod_lt _ (Nat.pow_pos (by decide))
 have A := fun f c => bin_and63u (β := R1) .no none true (b := hdN m) (by omega) f c
 have S := fun f c => bin_shl64 (β := R1) .no none false hr hi f c
 have O := fun f c => bin_or64n (β := R1) .no none false ha hr hi f c
 have hwc : IntKind.i64.wrap ((hdN m % 64 : Nat) : Int) = ((hdN m % 64 : Nat) : Int) := wrap_i64 (by omega) (by omega)
 have h0i : (0 : Int) ≤ ((i + 1 : Nat) : Int) := by omega
 have hmod : hdN m % 64 = m % 64 := by unfold hdN; split <;> omega
 simp only [go_sem, c0, c1, hget, c2, ↓A, ↓S, ↓O, hw6, hwc, hwi, hdc, h0i, Int.toNat_natCast]
 have hret : ((hdN m : Nat) : Int) < 64 → AV.tup [AV.int .i64 ((n % 64 ^ i + hdN m % 64 * 64 ^ i : Nat) : Int), .str (t ++ l), .nili] = .tup [.int .i64 n, .str l, .nili] := fun h => by
  have hm64 : m < 64 := by
   refine Nat.lt_of_not_le fun h6 => ?_
   unfold hdN at h
   rw [if_neg (by omega)] at h
   omega
  have ht0 : t = [] := by
   rw [numT_lo hm64] at ht
   exact (List.cons.inj ht).2.symm
  have e : n % 64 ^ i + hdN m % 64 * 64 ^ i = n := by
   rw [hmod, Nat.mod_eq_of_lt hm64, hm, Nat.mul_comm, Nat.mod_add_div]
  rw [e, ht0]
  rfl
 have hnx : ¬ ((hdN m : Nat) : Int) < 64 → (i + 1 < 8 ∧ s.drop (i + 1) = numT (n / 64 ^ (i + 1)) ++ l ∧ (i + 1 = 0 ∨ 0 < n / 64 ^ (i + 1))) ∧ n % 64 ^ (i + 1) = n % 64 ^ i + hdN m % 64 * 64 ^ i := fun h => by
  have hm64 : ¬ m < 64 := fun h6 => by
   unfold hdN at h
   rw [if_pos h6] at h
   omega
  have hq : n / 64 ^ (i + 1) = m / 64 := by rw [Nat.pow_succ, ← Nat.div_div_eq_div_mul, hm]
  have ht1 : t = numT (m / 64) := by
   rw [numT_hi hm64] at ht
   exact (List.cons.inj ht).2.symm
  have hpos : 0 < m / 64 := by omega
  refine ⟨⟨?_, by rw [hdr, ht1, hq], .inr (by rw [hq]; exact hpos)⟩, by rw [Nat.mod_pow_succ, hmod, hm, Nat.mul_comm]⟩
  refine Nat.lt_of_not_le fun h8 => ?_
  have h7 : 64 ^ 8 ≤ 64 ^ (i + 1) := Nat.pow_le_pow_right (by decide) h8
  have h9 : n < 64 ^ (i + 1) := Nat.lt_of_lt_of_le hn h7
  rw [← hq, Nat.div_eq_of_lt h9] at hpos
  exact absurd hpos (Nat.lt_irrefl _)
 refine ⟨fun h0 => ⟨fun hi0 => ?_, fun _ => ⟨fun hs64 => ⟨hret hs64, _, rfl⟩, fun hs64 => ?_⟩⟩, fun h0 => ⟨fun hs64 => ⟨hret hs64, _, rfl⟩, fun hs64 => ?_⟩⟩
 ·rcases hz with rfl | hz
  ·exact absurd hi0 (by decide)
  ·refine absurd h0 ?_
   unfold hdN
   split <;> omega
 all_goals
  obtain ⟨hg, hnm⟩ := hnx hs64
  exact ⟨i + 1, by show 8 - (i + 1) < 8 - i; omega, hg, _, [], rfl, Wk.of rfl (by decide) (by simp only [go_sem, hnm]; first | done | rfl | trace_state) (by simp only [go_sem])⟩
end Go.Proofs
namespace Go.Proofs
open Go Go.Ev
variable {H : Heap}
def xorU (x y : Int) : Int := IntKind.u32.wrap ((BitVec.ofInt IntKind.u32.bits x ^^^ BitVec.ofInt IntKind.u32.bits y).toNat : Int)
theorem bin_xorU {β : Type} (ek : EK) (pk : Option (List LK)) (lit : Bool) (x y : Int) (f : β) (c : AV → β) : binV Tryz.prog ek pk lit .xor (.int .u32 x) (.int .u32 y) f c = c (.int .u32 (xorU x y)) := by rw [bin_xor]; rfl
def stepU (x : Int) (b : Nat) : Int := IntKind.u32.wrap (xorU x (IntKind.u32.wrap (b : Int)) * 16777619)
def sumT (s : List Nat) : Int := s.foldl stepU 2166136261
theorem sumT_next {s : List Nat} {i b : Nat} (h : s[i]? = some b) : sumT (s.take (i + 1)) = IntKind.u32.wrap (xorU (sumT (s.take i)) (IntKind.u32.wrap (b : Int)) * 16777619) := by
 unfold sumT
 rw [List.take_add_one, h, List.foldl_append]
 rfl
theorem f184_ok {s : List Nat} (hl : s.length < 4611686018427387904) : FnOk Tryz.prog 184 [.str s] H fun r G => r = .int .u32 (sumT s) ∧ G = H := by
 refine FnOk.drop (R := fun r => r = .int .u32 (sumT s)) ?_ (by rintro v rfl ρ; rw [AV.ren])
 refine FnOk.of_WW Tryz.func184 rfl C184ok R184ok E0 good_E0 ?_
 simp only [go_sem, C184]
 refine LL.st good_E0 (fun i : Nat => s.length - i) (fun i => i ≤ s.length) (fun i => [(.z, .str s), ((.o (.o .z)), .int .u32 (sumT (s.take i))), ((.i (.i .z)), .int .i64 s.length), ((.o (.o (.o .z))), .int .i64 i)]) (fun _ => []) ?_ 0 (σ := []) (Wk.of rfl (by decide) (by simp only [go_sem]; first | done | rfl | trace_state) (by simp only [go_sem]; first | done | rfl | trace_state)) (Nat.zero_le _)
 rintro i hi
 by_cases hlt : i < s.length
 ·have hget : s[i]? = some s[i] := List.getElem?_eq_getElem hlt
  generalize s[i] = b at hget
  have hci : (i : Int) < (s.length : Int) := by omega
  have hw := wrap_succ (n := i) (by omega)
  have hnew := sumT_next hget
  have X := fun x y f c => bin_xorU (β := R1) .no none false x y f c
  simp only [go_sem, hci, hget, ↓X, hw]
  exact ⟨i + 1, by show s.length - (i + 1) < s.length - i; omega, (show i + 1 ≤ s.length by omega), _, [], rfl, Wk.of rfl (by decide) (by simp only [go_sem, hnew, hw]; first | done | rfl | trace_state) (by simp only [go_sem])⟩
 ·have hci : ¬ (i : Int) < (s.length : Int) := by omega
  simp only [go_sem, hci]
  rw [List.take_of_length_le (by omega)]
  exact ⟨rfl, _, rfl⟩
def byU (x : Int) : Nat := (IntKind.u8.wrap x).toNat
theorem byU_eq (x : Int) : IntKind.u8.wrap x = (byU x : Int) := by
 unfold byU
 have : 0 ≤ IntKind.u8.wrap x := by show 0 ≤ x % _; exact Int.emod_nonneg _ (by decide)
 omega
theorem byU_le (x : Int) : byU x ≤ 255 := by
 have h := byU_eq x
 have : IntKind.u8.wrap x < 256 := by show x % (2 ^ 8 : Int) < 256; exact Int.emod_lt_of_pos x (by decide)
 omega
def byT (x : Int) : List Nat := [byU x, byU (x.fdiv 256), byU (x.fdiv 65536), byU (x.fdiv 16777216)]
theorem shr0 {β : Type} (ek : EK) (pk : Option (List LK)) (lit : Bool) (a : Int) (k : IntKind) (f : β) (c : AV → β) : binV Tryz.prog ek pk lit .shr (.int .u32 a) (.int k 0) f c = c (.int .u32 a) := by
 have h := bin_shr (P := Tryz.prog) ek pk lit .u32 a f c k 0
 have e : a.fdiv (2 ^ min 0 IntKind.u32.bits) = a := Int.fdiv_one a
 rw [e] at h
 exact h
theorem shr8 {β : Type} (ek : EK) (pk : Option (List LK)) (lit : Bool) (a : Int) (k : IntKind) (f : β) (c : AV → β) : binV Tryz.prog ek pk lit .shr (.int .u32 a) (.int k 8) f c = c (.int .u32 (a.fdiv 256)) := bin_shr (P := Tryz.prog) ek pk lit .u32 a f c k 8
theorem shr16 {β : Type} (ek : EK) (pk : Option (List LK)) (lit : Bool) (a : Int) (k : IntKind) (f : β) (c : AV → β) : binV Tryz.prog ek pk lit .shr (.int .u32 a) (.int k 16) f c = c (.int .u32 (a.fdiv 65536)) := bin_shr (P := Tryz.prog) ek pk lit .u32 a f c k 16
theorem shr24 {β : Type} (ek : EK) (pk : Option (List LK)) (lit : Bool) (a : Int) (k : IntKind) (f : β) (c : AV → β) : binV Tryz.prog ek pk lit .shr (.int .u32 a) (.int k 24) f c = c (.int .u32 (a.fdiv 16777216)) := bin_shr (P := Tryz.prog) ek pk lit .u32 a f c k 24
theorem readC_four {β : Type} (f : β) (a b c d : AV) (k : List AV → β) : readC f 1 [[a], [b], [c], [d]] 0 4 k = k [a, b, c, d] := rfl
theorem byT_all {β : Type} (x : Int) (f : β) (c : List Nat → β) : bytesC [.int .u8 (byU x), .int .u8 (byU (x.fdiv 256)), .int .u8 (byU (x.fdiv 65536)), .int .u8 (byU (x.fdiv 16777216))] f c = c (byT x) := by
 refine bytesC_all (l := byT x) (fun b hb => ?_) f c
 simp only [byT, List.mem_cons, List.not_mem_nil, or_false] at hb
 rcases hb with rfl | rfl | rfl | rfl <;> exact byU_le _
theorem f183_ok (x : Int) : FnOk Tryz.prog 183 [.int .u32 x] H fun r G => r = .str (byT x) ∧ G = H := by
 refine FnOk.drop (R := fun r => r = .str (byT x)) ?_ (by rintro v rfl ρ; rw [AV.ren])
 refine FnOk.of_WW Tryz.func183 rfl C183ok R183ok E0 good_E0 ?_
 simp only [go_sem, C183]
 refine LL.st good_E0 (S := Int × List Nat) (fun s => (4 - s.1).toNat) (fun s => s = (0, [0, 0, 0, 0]) ∨ s = (1, [byU x, 0, 0, 0]) ∨ s = (2, [byU x, byU (x.fdiv 256), 0, 0]) ∨ s = (3, [byU x, byU (x.fdiv 256), byU (x.fdiv 65536), 0]) ∨ s = (4, byT x))
  (fun s => [(.z, .int .u32 x), ((.o (.o .z)), .ptr (H.key 0) 0), ((.o (.i .z)), .int .i64 s.1)]) (fun s => [.row true 1 (s.2.map byteC)]) ?_ (0, [0, 0, 0, 0]) (σ := [0]) (Wk.of rfl (by decide) (by simp only [go_sem]; first | done | rfl | trace_state) (by simp only [go_sem, byteC, byteV, byT]; first | done | rfl | trace_state)) (.inl rfl)
 have w0 : IntKind.i64.wrap (8 * 0) = 0 := rfl
 have w1 : IntKind.i64.wrap (8 * 1) = 8 := rfl
 have w2 : IntKind.i64.wrap (8 * 2) = 16 := rfl
 have w3 : IntKind.i64.wrap (8 * 3) = 24 := rfl
 have b0 := byU_eq x
 have b1 := byU_eq (x.fdiv 256)
 have b2 := byU_eq (x.fdiv 65536)
 have b3 := byU_eq (x.fdiv 16777216)
 have s0 := fun l f c => shr0 (β := R1) .no none l x .i64 f c
 have s1 := fun l f c => shr8 (β := R1) .no none l x .i64 f c
 have s2 := fun l f c => shr16 (β := R1) .no none l x .i64 f c
 have s3 := fun l f c => shr24 (β := R1) .no none l x .i64 f c
 have rd := fun a b c d k => readC_four (β := R1) .fail a b c d k
 have al := fun c => byT_all (β := R1) x .fail c
 rintro _ (rfl | rfl | rfl | rfl | rfl)
 ·simp only [go_sem, byteC, byteV, w0, ↓s0, b0]
  exact ⟨(1, [byU x, 0, 0, 0]), by show (4 - 1 : Int).toNat < (4 - 0 : Int).toNat; decide, .inr (.inl rfl), _, [0], rfl, Wk.of rfl (by decide) (by simp only [go_sem]; first | done | rfl | trace_state) (by simp only [go_sem, byteC, byteV, byT]; first | done | rfl | trace_state)⟩
 ·simp only [go_sem, byteC, byteV, w1, ↓s1, b1]
  exact ⟨(2, [byU x, byU (x.fdiv 256), 0, 0]), by show (4 - 2 : Int).toNat < (4 - 1 : Int).toNat; decide, .inr (.inr (.inl rfl)), _, [0], rfl, Wk.of rfl (by decide) (by simp only [go_sem]; first | done | rfl | trace_state) (by simp only [go_sem, byteC, byteV, byT]; first | done | rfl | trace_state)⟩
 ·simp only [go_sem, byteC, byteV, w2, ↓s2, b2]
  exact ⟨(3, [byU x, byU (x.fdiv 256), byU (x.fdiv 65536), 0]), by show (4 - 3 : Int).toNat < (4 - 2 : Int).toNat; decide, .inr (.inr (.inr (.inl rfl))), _, [0], rfl, Wk.of rfl (by decide) (by simp only [go_sem]; first | done | rfl | trace_state) (by simp only [go_sem, byteC, byteV, byT]; first | done | rfl | trace_state)⟩
 ·simp only [go_sem, byteC, byteV, w3, ↓s3, b3]
  exact ⟨(4, byT x), by show (4 - 4 : Int).toNat < (4 - 3 : Int).toNat; decide, .inr (.inr (.inr (.inr rfl))), _, [0], rfl, Wk.of rfl (by decide) (by simp only [go_sem]; first | done | rfl | trace_state) (by simp only [go_sem, byteC, byteV, byT]; first | done | rfl | trace_state)⟩
 ·simp only [go_sem, byteC, byteV, byT, rd, al]
  exact ⟨Nat.le_refl 4, _, rfl⟩
def wrapT (s : List Nat) : List Nat := byT (sumT (textT s)) ++ textT s
theorem textT_le {s : List Nat} (h : s.length < 1000000) : (textT s).length < 1000100 := by
 have := numT_small (n := s.length) (by omega)
 show (numT s.length ++ s).length < _
 rw [List.length_append]
 omega
theorem f120_ok {s : List Nat} (hs : s.length < 1000000) : FnOk Tryz.prog 120 [.str s] H fun r G => r = .str (wrapT s) ∧ G = H := by
 refine FnOk.drop (R := fun r => r = .str (wrapT s)) ?_ (by rintro v rfl ρ; rw [AV.ren])
 refine FnOk.of_WW Tryz.func120 rfl C120ok R120ok E0 good_E0 ?_
 have hl := textT_le hs
 have h4 : ∀ x, (byT x).length = 4 := fun x => rfl
 have hle : 4 + (textT s).length ≤ 9223372036854775807 := by omega
 simp only [go_sem, C120]
 refine CL.of (f124_ok (s := s) (by omega)) ?_
 rintro _ G' ⟨rfl, hG⟩; rw [hG]; clear hG
 simp only [go_sem]
 refine CL.of (f184_ok (s := textT s) (by omega)) ?_
 rintro _ G' ⟨rfl, hG⟩; rw [hG]; clear hG
 simp only [go_sem]
 refine CL.of (f183_ok _) ?_
 rintro _ G' ⟨rfl, hG⟩; rw [hG]; clear hG
 simp only [go_sem, h4, hle]
 exact ⟨rfl, _, rfl⟩
end Go.Proofs
namespace Go.Proofs
open Go Go.Ev
variable {H : Heap}
theorem textT_app (s l : List Nat) : textT s ++ l = numT s.length ++ (s ++ l) := by unfold textT; rw [List.append_assoc]
theorem drop_app {β : Type} (f : β) (s l : List Nat) (c : List Nat → β) : dropC f s.length (s ++ l) c = c l := by
 rw [dropC_eq, if_pos (by rw [List.length_append]; exact Nat.le_add_right _ _), List.drop_left]
theorem take_app {β : Type} (f : β) (s l : List Nat) (c : List Nat → β) : takeC f s.length (s ++ l) c = c s := by
 rw [takeC_eq, if_pos (by rw [List.length_append]; exact Nat.le_add_right _ _), List.take_left]
theorem f166_txt {s l : List Nat} {most : Int} (hm : (s.length : Int) ≤ most) (hl : s.length + l.length < 1000000) : FnOk Tryz.prog 166 [.str (textT s ++ l), .int .i64 most] H fun r G => r = .tup [.str s, .str l, .nili] ∧ G = H := by
 refine FnOk.drop (R := fun r => r = .tup [.str s, .str l, .nili]) ?_ (by rintro v rfl ρ; simp only [AV.ren, AV.rens])
 rw [textT_app]
 refine FnOk.of_WW Tryz.func166 rfl C166ok R166ok E0 good_E0 ?_
 have hla : (s ++ l).length = s.length + l.length := List.length_append
 simp only [go_sem, C166]
 refine CL.of (f163_num (n := s.length) (by omega) (l := s ++ l) (by omega)) ?_
 rintro _ G' ⟨rfl, hG⟩; rw [hG]; clear hG
 simp only [go_sem]
 refine CL.of (f65_ok none 11) ?_
 rintro _ G' ⟨rfl, hG⟩; rw [hG]; clear hG
 have h1 : ¬ most < (s.length : Int) := by omega
 have h2 : ¬ ((s.length + l.length : Nat) : Int) < (s.length : Int) := by omega
 have h3 : s.length ≤ s.length + l.length := Nat.le_add_right _ _
 have h4 : (0 : Int) ≤ (s.length : Int) := by omega
 have d := fun f c => drop_app (β := R1) f s l c
 have t := fun f c => take_app (β := R1) f s l c
 have d0 : ∀ {β : Type} (f : β) (c : List Nat → β), dropC f 0 (s ++ l) c = c (s ++ l) := fun f c => by rw [dropC_eq, if_pos (Nat.zero_le _), List.drop_zero]
 have t0 : List.take s.length (s ++ l) = s := List.take_left
 have z0 : 0 ≤ s.length := Nat.zero_le _
 simp only [go_sem, h1, h2, h3, h4, hla, d, t, Int.toNat_natCast, d0, t0, z0, Nat.sub_zero]
 exact ⟨_, rfl⟩
noncomputable def EFr (f : FuncId) (args : List AV) (H : Heap) : RC :=
 match f with
 | 184 => match args with | [.str s] => if s.length < 4611686018427387904 then .ok (.int .u32 (sumT s)) H else .fail | _ => .fail
 | 183 => match args with | [.int .u32 x] => .ok (.str (byT x)) H | _ => .fail
 | _ => .fail
theorem good_EFr : Ev.Good Tryz.prog EFr := by
 intro f args H r G he φ w args' ha hw
 refine (?_ : FnOk Tryz.prog f args H fun v' G' => v' = r ∧ G' = G).one φ w args' ha hw
 unfold EFr at he
 split at he
 ·split at he
  ·split at he
   ·rename_i hc
    cases he; exact f184_ok hc
   ·cases he
  ·cases he
 ·split at he
  ·cases he; exact f183_ok _
  ·cases he
 ·cases he
theorem ef120 {s : List Nat} (h : s.length < 4611686018427387904) (H : Heap) : EFr 184 [.str s] H = .ok (.int .u32 (sumT s)) H := if_pos h
theorem ef119 (x : Int) (H : Heap) : EFr 183 [.int .u32 x] H = .ok (.str (byT x)) H := rfl
end Go.Proofs
