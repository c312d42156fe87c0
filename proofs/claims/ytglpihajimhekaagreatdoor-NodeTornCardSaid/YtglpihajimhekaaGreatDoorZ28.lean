/- part. -/
import Derived.Test.YtglpihajimhekaaGreatDoorZ27
set_option linter.all false
set_option maxRecDepth 100000
namespace Go.Proofs
open Go Go.Ev
variable {H : Heap}
structure TI (kf : Nat → Nat) (ks : List Nat) (kn kd kj kh km kv : K) (v : AV) (i : Nat) (kS : K) (sf : Nat) (X : Heap) : Prop where
 nd : ∃ n m ws s, isNd X kn kd kj kh (diskT kf i) n m ws (.int .i64 0) (.int .i64 0) (.map km) s ∧ Rel s (stS kf i) ∧ n + (diskT kf sf).length = (diskT kf i).length ∧ m ≤ i + 1 ∧ ws.length ≤ i
 le : sf ≤ i ∧ i ≤ ks.length
 sv : ∃ x : Sh, X.get kv = some (.row true 8 [x.enc]) ∧ x.ok X ∧ Rel x (stS kf i)
 ss : ∃ xs : List Sh, X.get kS = some (.row true 8 (xs.map Sh.enc)) ∧ xs.length = i + 1 ∧ ∀ q x, xs[q]? = some x → x.ok X ∧ Rel x (stS kf q)
 ne : kS ≠ kv
 ka : Arr X 1 v (bytV ks)
theorem nx_le (Z : Heap) (l : List Blk) : Z.nx.toNat ≤ (Z.ext l).nx.toNat := by rw [Heap.nx_ext, Heap.toNat_key]; exact Nat.le_add_right _ _
theorem recsT_small {kf : Nat → Nat} : ∀ i, ∀ s ∈ recsT kf i, s.length < 200001
 | 0, s, h => by rw [List.mem_singleton.1 h]; decide
 | i + 1, s, h => by
  rcases List.mem_append.1 h with h | h
  ·exact recsT_small i s h
  ·rw [List.mem_singleton.1 h]
   exact Nat.lt_trans (opT_len _ _) (by decide)
theorem st_bare {kf : Nat → Nat} {i : Nat} (hi : i ≤ 20) {x : Sh} (hR : Rel x (stS kf i)) : bareL x.done := by
 rw [hR.1.2.2.2.2.2.2.2]; exact (gd_st i hi).bare
theorem TI.of {kf : Nat → Nat} {ks : List Nat} {kn kd kj kh km kv kS : K} {v : AV} {i sf n m : Nat} {ws : List (List AV)} {A X : Heap} {t y : Sh} {xs : List Sh} {kl : List K}
  (hN : isNd X kn kd kj kh (diskT kf (i + 1)) n m ws (.int .i64 0) (.int .i64 0) (.map km) t) (hR : Rel t (stS kf (i + 1))) (hns : n + (diskT kf sf).length = (diskT kf (i + 1)).length) (hm : m ≤ i + 2) (hws : ws.length ≤ i + 1) (hsf : sf ≤ i + 1) (hil : i + 1 ≤ ks.length) (hi : i < 20)
  (hkv : X.get kv = some (.row true 8 [y.enc])) (hy : y.ok A) (hyR : Rel y (stS kf (i + 1))) (hS : X.get kS = some (.row true 8 ((xs ++ [y]).map Sh.enc))) (hl : xs.length = i + 1) (hxs : ∀ q x, xs[q]? = some x → x.ok A ∧ Rel x (stS kf q)) (hne : kS ≠ kv) (hka : Arr A 1 v (bytV ks))
  (hK : Kp kl A X) (hw : ∀ j ∈ kl, ∀ wr e rows, A.get j = some (.row wr e rows) → e = 8 ∨ e = 2) : TI kf ks kn kd kj kh km kv v (i + 1) kS sf X := by
 have hsh : ∀ z q, q ≤ 20 → z.ok A → Rel z (stS kf q) → z.ok X := fun z q hq hz hzR => sh_kp hz (st_bare hq hzR) hK fun j hj wr e rows hg => by
  have := hw j hj wr e rows hg
  omega
 refine ⟨⟨n, m, ws, t, hN, hR, hns, hm, hws⟩, ⟨hsf, hil⟩, ⟨y, hkv, hsh y _ (by omega) hy hyR, hyR⟩, ⟨xs ++ [y], hS, by rw [List.length_append, hl]; rfl, fun q z hz => ?_⟩, hne, arr_kp hka hK fun j hj wr rows hg => by have := hw j hj wr _ rows hg; omega⟩
 rcases Nat.lt_or_ge q xs.length with hq | hq
 ·rw [List.getElem?_append_left hq] at hz
  obtain ⟨h1, h2⟩ := hxs q z hz
  exact ⟨hsh z q (by omega) h1 h2, h2⟩
 ·rw [List.getElem?_append_right hq] at hz
  rcases Nat.eq_or_lt_of_le hq with h | h
  ·rw [← h, Nat.sub_self] at hz
   cases hz
   rw [← h, hl]
   exact ⟨hsh y _ (by omega) hy hyR, hyR⟩
  ·rw [List.getElem?_eq_none (by show 1 ≤ _; omega)] at hz
   cases hz
set_option maxHeartbeats 4000000 in
theorem f3_ok {v : AV} {ks : List Nat} {sy kp : Nat} (hok : H.ok) (hA : Arr H 1 v (bytV ks)) (hkb : ∀ k ∈ ks, k ≤ 255) (hsy : sy ≤ 255) (hkp : kp ≤ 65535) : FnOk Tryz.prog 3 [v, .int .u8 sy, .int .u16 kp] H fun r _ => r = .bool true := by
 refine FnOk.of_WW Tryz.func3 rfl C3ok R3ok (EC Tryz.prog srR) (good_EC _ _) ?_
 have hlen : ∀ G, _ := fun G => hA.len G
 simp only [bytV, List.length_map] at hlen
 simp only [go_sem, C3]
 refine CL.of known_ok ?_
 rintro _ G' ⟨rfl, hG⟩; rw [hG]; clear hG
 simp only [go_sem, hlen]
 refine ⟨fun h => ?_, fun h => ?_⟩
 ·first | trivial | exact trivial
 have hl30 : ks.length ≤ 20 := by omega
 refine CL.of (FnOk.andLe (new_all (Heap.ok_ext hok _) (get_lit (i := 0) rfl))) ?_
 rintro _ M ⟨⟨⟨kn, kd, kj, kh, km, rfl, hN0⟩, hkeep⟩, hle⟩
 have hA0 : Arr M 1 v (bytV ks) := by
  rcases hA with g | ⟨c, off, ex, cap, hv, hc, g⟩
  ·exact .inl g
  ·refine .inr ⟨c, off, ex, cap, hv, Nat.lt_of_lt_of_le hc (Nat.le_trans (by rw [Heap.nx_ext, Heap.toNat_key]; exact Nat.le_add_right _ _) hle), fun hn => ?_⟩
   obtain ⟨r, wr', rows', h1, h2, h3⟩ := g hn
   exact ⟨r, wr', rows', h1, hkeep c _ (Heap.get_ext_old hok h2 _) (ne_key hok h2 0), h3⟩
 clear hkeep hle
 refine WW.nil ?_
 simp only [go_sem]
 obtain ⟨kf, hkf⟩ : ∃ kf : Nat → Nat, kf = fun q => ks.getD q 0 := ⟨_, rfl⟩
 have hbsa : diskT kf 0 = bsa := by show wrapT baseT ++ [] = bsa; rw [List.append_nil, wrap_base]
 have hI0 : TI kf ks kn kd kj kh km (M.key 0) v 0 (M.key 1) 0 (M.ext [.row true 8 [[.int .i64 1, .int .i64 1, .str [], .str [], .bool false, .nils, .nils, .nils]], .row true 8 [[.int .i64 1, .int .i64 1, .str [], .str [], .bool false, .nils, .nils, .nils]]]) := by
  refine ⟨⟨0, 1, [], _, by rw [hbsa]; exact hN0.ext _, rel_new, by omega, Nat.le_refl _, Nat.le_refl _⟩, ⟨Nat.le_refl _, Nat.zero_le _⟩, ⟨nS 1 1 [] [] false, get_lit rfl, nS_ok .., rel_new⟩, ⟨[nS 1 1 [] [] false], get_lit rfl, rfl, fun q x hx => ?_⟩, fun e => ?_, hA0.ext _⟩
  ·cases q with
   | zero => cases hx; exact ⟨nS_ok .., rel_new⟩
   | succ q => cases hx
  ·have := congrArg K.toNat e
   rw [Heap.toNat_key, Heap.toNat_key] at this
   omega
 refine LL.sth (good_EC _ _) (fun p : Nat × K × Bool × Nat => ks.length - p.1) (fun p X => TI kf ks kn kd kj kh km (M.key 0) v p.1 p.2.1 p.2.2.2 X)
  (fun p => [(K.z, v), (K.z.o, .int .u8 sy), (K.z.i, .int .u16 kp), (K.z.o.o.o, .ptr kn 0), (K.z.o.o.i, .ptr (M.key 0) 0), (K.z.o.i.o, .slice p.2.1 0 (p.1 + 1) 8 p.2.2.1 (p.1 + 1)), (K.z.o.i.i, .int .i64 p.2.2.2), (K.z.i.o.o, .int .i64 p.1)]) ?_ (0, M.key 1, true, 0) hI0 (Slots.all (by simp only [go_sem]; first | done | exact ⟨rfl, rfl, rfl, rfl, rfl, rfl, rfl, rfl⟩ | trace_state))
 clear hI0 hN0 hA0
 obtain ⟨kv, hkv⟩ : ∃ kv, kv = M.key 0 := ⟨_, rfl⟩
 rw [← hkv]
 clear hkv
 rintro ⟨i, kS, ex, sf⟩ X hI
 dsimp only at hI ⊢
 by_cases hlt : i < ks.length
 ·obtain ⟨⟨n, m, ws, s, hN, hR, hns, hm, hws⟩, ⟨hsf, hil⟩, ⟨x, hx1, hx2, hx3⟩, ⟨xs, hs1, hs2, hs3⟩, hne, hka⟩ := hI
  have okX := hN.ok
  have hlenX := fun G => hka.len G
  simp only [bytV, List.length_map] at hlenX
  obtain ⟨kk, r, ex', cap', wr, rows, hv, hrho, hgo, hrow⟩ := hka.at okX (j := i) (by rw [bytV, List.length_map]; exact hlt)
  simp only [bytV, List.length_map, List.getElem_map] at hv hrow
  have hget : ks[i]? = some ks[i] := List.getElem?_eq_getElem hlt
  have hkb2 : ks[i] ≤ 255 := hkb _ (List.getElem_mem hlt)
  have hkfi : kf i = ks[i] := by rw [hkf]; show ks.getD i 0 = _; rw [List.getD_eq_getElem?_getD, hget]; rfl
  generalize ks[i] = k at *
  have hw1 : IntKind.i64.wrap ((i : Int) + 1) = ((i + 1 : Nat) : Int) := wrap_succ (by omega)
  have hci : (i : Int) < (ks.length : Int) := by omega
  have hsi : i + 1 ≤ ks.length := hlt
  subst hv
  have hv65 : IntKind.u8.wrap (IntKind.i64.wrap (65 + (i : Int))) = ((65 + i : Nat) : Int) := by rw [wrap_i64 (by omega) (by omega), show (65 + (i : Int)) = ((65 + i : Nat) : Int) by omega, wrap_u8 (by omega)]
  have hby := fun (f : R1) c => bytesC_one (m := 65 + i) (by omega) f c
  have hm5 : (k : Int).tmod 5 = ((k % 5 : Nat) : Int) := by rw [Int.tmod_eq_emod_of_nonneg (by omega)]; omega
  have hm3 : (k : Int).tmod 3 = ((k % 3 : Nat) : Int) := by rw [Int.tmod_eq_emod_of_nonneg (by omega)]; omega
  have hi3 : (i : Int).tmod 3 = ((i % 3 : Nat) : Int) := by rw [Int.tmod_eq_emod_of_nonneg (by omega)]; omega
  have hd3 : (i : Int).tdiv 3 = ((i / 3 : Nat) : Int) := by rw [Int.tdiv_eq_ediv_of_nonneg (by omega)]; omega
  have hw97 : IntKind.u8.wrap (97 + ((k % 5 : Nat) : Int)) = ((97 + k % 5 : Nat) : Int) := by rw [show (97 + ((k % 5 : Nat) : Int)) = ((97 + k % 5 : Nat) : Int) by omega, wrap_u8 (by omega)]
  have hby2 := fun (f : R1) c => bytesC_one (m := 97 + k % 5) (by omega) f c
  have hwid : IntKind.i64.wrap (((i / 3 : Nat) : Int) + 1) = ((i / 3 + 1 : Nat) : Int) := wrap_succ (by omega)
  have hw5 : IntKind.u8.wrap ((k % 5 : Nat) : Int) = ((k % 5 : Nat) : Int) := wrap_u8 (by omega)
  have hw3 : IntKind.u8.wrap ((k % 3 : Nat) : Int) = ((k % 3 : Nat) : Int) := wrap_u8 (by omega)
  have hs8 : IntKind.u64.wrap ((i : Int).tmod 8) = ((i % 8 : Nat) : Int) := by
   rw [Int.tmod_eq_emod_of_nonneg (by omega), show (i : Int) % 8 = ((i % 8 : Nat) : Int) by omega]
   exact wrap_nat .u64 _ (by show i % 8 ≤ 18446744073709551615; omega)
  have hwi3 : IntKind.i64.wrap ((i % 3 : Nat) : Int) = ((i % 3 : Nat) : Int) := wrap_i64 (by omega) (by omega)
  have hwd3 : IntKind.i64.wrap ((i / 3 : Nat) : Int) = ((i / 3 : Nat) : Int) := wrap_i64 (by omega) (by omega)
  simp only [go_sem, hlenX, hci, hsi, hgo, hrow, hv65, hby, hm5, hm3, hi3, hd3, hw97, hby2, hwid, hw5, hw3, hwi3, hwd3]
  refine ⟨fun hk3 => ?_, fun hk3 => ?_⟩
  ·have hk0 : kf i % 3 = 0 := by rw [hkfi]; omega
   refine CL.of (f8_let (s := i % 3) (id := i / 3 + 1) (Nat.mod_lt _ (by decide)) (by omega) 6 [] [] [] 0 (.slice (X.key 3) 0 3 3 true 3) (fun top σ => (arr_row (xs := [[.str [97], .str [65 + i], .bool false], [.str [98], .str [65 + i], .bool false], [.str [99], .str [65 + i], .bool false]]) (wr := true) (i := 3) rfl rfl).ren top σ)) ?_
   rintro _ G' ⟨rfl, hG⟩; rw [hG]; clear hG
   simp only [go_sem]
   refine CL.of (FnOk.andLe (node_bat (hN.ext _) hR (by omega) hk0 (by omega) (by omega) (by omega) (get_lit (i := 3) rfl))) ?_
   rintro _ G1 ⟨⟨rfl, t, y0, hN1, hR1, hko1⟩, hle1⟩
   have okG1 := hN1.ok
   have gkv := hko1 kv _ (Heap.get_ext_old okX hx1 _) ⟨by decide, by decide, fun _ r hr => ⟨x, List.mem_singleton.1 hr⟩⟩
   have gkS := hko1 kS _ (Heap.get_ext_old okX hs1 _) ⟨by decide, by decide, fun _ r hr => by obtain ⟨z, _, rfl⟩ := List.mem_map.1 hr; exact ⟨z, rfl⟩⟩
   have gko := hko1 (X.key 2) _ (get_lit (i := 2) rfl) ⟨by decide, by decide, fun h => by cases h⟩
   have gkw := hko1 (X.key 3) _ (get_lit (i := 3) rfl) ⟨by decide, by decide, fun h => by cases h⟩
   have hxG : x.ok G1 := sh_ko (hx2.ext _) (st_bare (by omega) hx3) hko1 hle1
   have gkv' := fun L => Heap.get_ext_old okG1 gkv L
   have gko' := fun L => Heap.get_ext_old okG1 gko L
   have skv := fun b (l : List Blk) (α : Type) (c' : Heap → α) => Heap.setC_here okG1 gkv b l c'
   have kkv := fun b (l : List Blk) => Heap.get_set_here okG1 gkv b l
   simp only [Sh.enc] at gkv'
   refine WW.nil ?_
   simp only [go_sem, gkv', gko', hi3, hd3, hwid, hwi3, hwd3]
   refine CL.of (ref_bat (Heap.ok_ext okG1 _) (hxG.ext _) hx3 (by omega) hk0 (Heap.get_ext_old okG1 gkw _)) ?_
   rintro _ _ ⟨y, a, L, rfl, rfl, hy1, hy2⟩
   rw [Heap.ext_nil] at hy1 ⊢
   simp only [go_sem, ↓appR_hide, Sh.enc, gkv', skv, kkv]
   have hG1k : G1.get kv = some (.row true 8 ([x].map Sh.enc)) := gkv
   have hne1 : t.enc ∉ [x.enc] := fun hm => by
    have := Sh.uniq (List.mem_singleton.1 hm) (hN1.hold.choose_spec.each t (by simp)) hxG
    have e1 := hR1.1.2.2.2.2.2.2.2
    rw [this, hx3.1.2.2.2.2.2.2.2] at e1
    exact st_ne (kf := kf) (by omega) (Nat.le_refl i) e1.symm
   have hN2 := hN1.set8 (b := .row true 8 [y.enc]) gkv (fun r hr => ⟨x, List.mem_singleton.1 hr⟩) (by simp) hne1
   have gkS2 : (G1.set kv (.row true 8 [y.enc])).get kS = some (.row true 8 (xs.map Sh.enc)) := by rw [Heap.get_set, if_neg (Ne.symm hne)]; exact gkS
   have hne2 : t.enc ∉ xs.map Sh.enc := fun hm => by
    obtain ⟨z, hz1, hz2⟩ := List.mem_map.1 hm
    obtain ⟨q, hq⟩ := List.getElem?_of_mem hz1
    obtain ⟨hq1, hq2⟩ := hs3 q z hq
    have hql : q < i + 1 := by rw [← hs2]; exact (List.getElem?_eq_some_iff.1 hq).1
    have hzG : z.ok G1 := sh_ko (hq1.ext _) (st_bare (by omega) hq2) hko1 hle1
    have := Sh.uniq hz2 hzG (hN1.hold.choose_spec.each t (by simp))
    have e1 := hR1.1.2.2.2.2.2.2.2
    rw [← this, hq2.1.2.2.2.2.2.2.2] at e1
    exact st_ne (kf := kf) (by omega) (by omega) e1.symm
   obtain ⟨kS', X3, happ, hN3, hS3, hK3, hfr⟩ := app_st ex hN2 gkS2 hs2 (by omega) hne2 (L := L ++ [.row true 8 [y.enc]]) (j := L.length) (y := y) (by rw [List.getElem?_append_right (Nat.le_refl _), Nat.sub_self]; rfl)
   rw [show (G1.set kv (.row true 8 [y.enc])).key L.length = G1.key L.length from Heap.key_set ..] at happ
   simp only [Sh.enc] at happ
   rw [happ]
   simp only [go_sem, hs8]
   have hkA : (G1.ext L).get kv = some (.row true 8 [x.enc]) := Heap.get_ext_old okG1 gkv L
   have hSA : (G1.ext L).get kS = some (.row true 8 (xs.map Sh.enc)) := Heap.get_ext_old okG1 gkS L
   have okA : (G1.ext L).ok := Heap.ok_ext okG1 L
   have hA3 : Kp [kv, kS] (G1.ext L) X3 := by
    have h1 : Kp [kv, kS] (G1.ext L) ((G1.ext L).set kv (.row true 8 [y.enc])) := (kp_set _ _ _).wk (by simp)
    have h2 : Kp [kv, kS] ((G1.set kv (.row true 8 [y.enc])).ext L) ((G1.set kv (.row true 8 [y.enc])).ext (L ++ [.row true 8 [y.enc]])) := by
     rw [← Heap.ext_append]
     exact ⟨fun j c _ hc => Heap.get_ext_old (Heap.ok_ext hN2.ok L) hc _, nx_le _ _⟩
    rw [Heap.set_ext_old _ _ _ _ (okG1 _ _ gkv)] at h1
    exact (h1.trans h2).trans (hK3.wk (by simp))
   have hkv3 : X3.get kv = some (.row true 8 [y.enc]) := hK3.keep _ _ (by simp [Ne.symm hne]) (Heap.get_set_here okG1 gkv _ _)
   have hne3 : kS' ≠ kv := fun e => by
    have := okG1 _ _ gkv
    rw [← e] at this
    rw [Heap.nx_set] at hfr
    omega
   have hkaA : Arr (G1.ext L) 1 (.slice kk (r * 1) ks.length 1 ex' cap') (bytV ks) := (arr_ko (hka.ext _) hko1 hle1 (by decide)).ext L
   have hxsA : ∀ q z, xs[q]? = some z → z.ok (G1.ext L) ∧ Rel z (stS kf q) := fun q z hz => by
    obtain ⟨a1, a2⟩ := hs3 q z hz
    have hql : q < i + 1 := by rw [← hs2]; exact (List.getElem?_eq_some_iff.1 hz).1
    exact ⟨(sh_ko (a1.ext _) (st_bare (by omega) a2) hko1 hle1).ext L, a2⟩
   have hdl : (diskT kf (i + 1)).length = (diskT kf i).length + (wrapT (opT (kf i) i)).length := by rw [disk_next, List.length_append]
   have hwl : (ws ++ [y0]).length = ws.length + 1 := List.length_append
   refine ⟨fun _ => ?_, fun _ => ?_⟩
   ·obtain ⟨wv3, hn3, -⟩ := hN3.row
    obtain ⟨wv1, hn1, -⟩ := hN1.row
    have hnA : (G1.ext L).get kn = _ := Heap.get_ext_old okG1 hn1 L
    have hdA : (G1.ext L).get kd = _ := Heap.get_ext_old okG1 hN1.disk L
    have hkn : kv ≠ kn := by
     rintro rfl
     rw [gkv] at hn1
     simp [Sh.enc] at hn1
    have hkd : kv ≠ kd := by rintro rfl; rw [hN1.disk] at gkv; cases gkv
    have hSn : kS' ≠ kn := by
     rintro rfl
     rw [hn3] at hS3
     rw [List.map_append, List.map_cons, List.map_nil] at hS3
     cases xs with
     | nil => cases hs2
     | cons z xs => simp [Sh.enc] at hS3
    have hSd : kS' ≠ kd := by rintro rfl; rw [hN3.disk] at hS3; cases hS3
    refine CL.of (f10_ok hN3) ?_
    rintro rv X4 ⟨hwt, hN4, hK4⟩
    have hl4 := fun G => (hwt.arr hN4.ok).len G
    have hc0 : ¬ ((ws.length + 1 : Nat) : Int) = 0 := by omega
    simp only [go_sem, hl4, hwl, hc0, hw1]
    refine ⟨(i + 1, kS', false, i + 1), by show ks.length - (i + 1) < ks.length - i; omega, ?_, Slots.all (by simp only [go_sem, hw1]; first | done | trace_state)⟩
    refine TI.of (sf := i + 1) hN4 hR1 (Nat.zero_add _) (by omega) (Nat.zero_le _) (Nat.le_refl _) hsi (by omega) (hK4.keep _ _ (by simp [hkn, hkd]) hkv3) hy1 hy2 (hK4.keep _ _ (by simp [hSn, hSd]) hS3) hs2 hxsA hne3 hkaA ((hA3.wk (ks' := [kv, kS, kn, kd]) (by simp)).trans (hK4.wk (by simp))) ?_
    intro j hj wr e rows hg
    simp only [List.mem_cons, List.not_mem_nil, or_false] at hj
    rcases hj with rfl | rfl | rfl | rfl
    ·rw [hkA] at hg; cases hg; exact .inl rfl
    ·rw [hSA] at hg; cases hg; exact .inl rfl
    ·rw [hnA] at hg; cases hg; exact .inl rfl
    ·rw [hdA] at hg; cases hg; exact .inr rfl
   ·refine ⟨(i + 1, kS', false, sf), by show ks.length - (i + 1) < ks.length - i; omega, ?_, Slots.all (by simp only [go_sem, hw1]; first | done | trace_state)⟩
    refine TI.of (sf := sf) hN3 hR1 (by omega) (by omega) (by omega) (by omega) hsi (by omega) hkv3 hy1 hy2 hS3 hs2 hxsA hne3 hkaA hA3 ?_
    intro j hj wr e rows hg
    simp only [List.mem_cons, List.not_mem_nil, or_false] at hj
    rcases hj with rfl | rfl
    ·rw [hkA] at hg; cases hg; exact .inl rfl
    ·rw [hSA] at hg; cases hg; exact .inl rfl
  ·obtain rfl : k = kf i := hkfi.symm
   have hk0 : ¬ kf i % 3 = 0 := by omega
   refine CL.of (f8_let (s := i % 3) (id := i / 3 + 1) (Nat.mod_lt _ (by decide)) (by omega) 2 [97 + kf i % 5] [] [65 + i] 0 .nils (fun _ _ => rfl)) ?_
   rintro _ G' ⟨rfl, hG⟩; rw [hG]; clear hG
   simp only [go_sem]
   refine CL.of (FnOk.andLe (node_put (hN.ext _) hR (by omega) hk0 (by omega) (by omega) (by omega))) ?_
   rintro _ G1 ⟨⟨rfl, t, y0, hN1, hR1, hko1⟩, hle1⟩
   have okG1 := hN1.ok
   have gkv := hko1 kv _ (Heap.get_ext_old okX hx1 _) ⟨by decide, by decide, fun _ r hr => ⟨x, List.mem_singleton.1 hr⟩⟩
   have gkS := hko1 kS _ (Heap.get_ext_old okX hs1 _) ⟨by decide, by decide, fun _ r hr => by obtain ⟨z, _, rfl⟩ := List.mem_map.1 hr; exact ⟨z, rfl⟩⟩
   have gko := hko1 (X.key 2) _ (get_lit (i := 2) rfl) ⟨by decide, by decide, fun h => by cases h⟩
   have hxG : x.ok G1 := sh_ko (hx2.ext _) (st_bare (by omega) hx3) hko1 hle1
   have gkv' := fun L => Heap.get_ext_old okG1 gkv L
   have gko' := fun L => Heap.get_ext_old okG1 gko L
   have skv := fun b (l : List Blk) (α : Type) (c' : Heap → α) => Heap.setC_here okG1 gkv b l c'
   have kkv := fun b (l : List Blk) => Heap.get_set_here okG1 gkv b l
   simp only [Sh.enc] at gkv'
   refine WW.nil ?_
   simp only [go_sem, gkv', gko', hi3, hd3, hwid, hwi3, hwd3]
   refine CL.of (ref_put (hxG.ext _) hx3 (by omega) hk0) ?_
   rintro _ _ ⟨y, a, L, rfl, rfl, hy1, hy2⟩
   rw [Heap.ext_nil] at hy1 ⊢
   simp only [go_sem, ↓appR_hide, Sh.enc, gkv', skv, kkv]
   have hG1k : G1.get kv = some (.row true 8 ([x].map Sh.enc)) := gkv
   have hne1 : t.enc ∉ [x.enc] := fun hm => by
    have := Sh.uniq (List.mem_singleton.1 hm) (hN1.hold.choose_spec.each t (by simp)) hxG
    have e1 := hR1.1.2.2.2.2.2.2.2
    rw [this, hx3.1.2.2.2.2.2.2.2] at e1
    exact st_ne (kf := kf) (by omega) (Nat.le_refl i) e1.symm
   have hN2 := hN1.set8 (b := .row true 8 [y.enc]) gkv (fun r hr => ⟨x, List.mem_singleton.1 hr⟩) (by simp) hne1
   have gkS2 : (G1.set kv (.row true 8 [y.enc])).get kS = some (.row true 8 (xs.map Sh.enc)) := by rw [Heap.get_set, if_neg (Ne.symm hne)]; exact gkS
   have hne2 : t.enc ∉ xs.map Sh.enc := fun hm => by
    obtain ⟨z, hz1, hz2⟩ := List.mem_map.1 hm
    obtain ⟨q, hq⟩ := List.getElem?_of_mem hz1
    obtain ⟨hq1, hq2⟩ := hs3 q z hq
    have hql : q < i + 1 := by rw [← hs2]; exact (List.getElem?_eq_some_iff.1 hq).1
    have hzG : z.ok G1 := sh_ko (hq1.ext _) (st_bare (by omega) hq2) hko1 hle1
    have := Sh.uniq hz2 hzG (hN1.hold.choose_spec.each t (by simp))
    have e1 := hR1.1.2.2.2.2.2.2.2
    rw [← this, hq2.1.2.2.2.2.2.2.2] at e1
    exact st_ne (kf := kf) (by omega) (by omega) e1.symm
   obtain ⟨kS', X3, happ, hN3, hS3, hK3, hfr⟩ := app_st ex hN2 gkS2 hs2 (by omega) hne2 (L := L ++ [.row true 8 [y.enc]]) (j := L.length) (y := y) (by rw [List.getElem?_append_right (Nat.le_refl _), Nat.sub_self]; rfl)
   rw [show (G1.set kv (.row true 8 [y.enc])).key L.length = G1.key L.length from Heap.key_set ..] at happ
   simp only [Sh.enc] at happ
   rw [happ]
   simp only [go_sem, hs8]
   have hkA : (G1.ext L).get kv = some (.row true 8 [x.enc]) := Heap.get_ext_old okG1 gkv L
   have hSA : (G1.ext L).get kS = some (.row true 8 (xs.map Sh.enc)) := Heap.get_ext_old okG1 gkS L
   have okA : (G1.ext L).ok := Heap.ok_ext okG1 L
   have hA3 : Kp [kv, kS] (G1.ext L) X3 := by
    have h1 : Kp [kv, kS] (G1.ext L) ((G1.ext L).set kv (.row true 8 [y.enc])) := (kp_set _ _ _).wk (by simp)
    have h2 : Kp [kv, kS] ((G1.set kv (.row true 8 [y.enc])).ext L) ((G1.set kv (.row true 8 [y.enc])).ext (L ++ [.row true 8 [y.enc]])) := by
     rw [← Heap.ext_append]
     exact ⟨fun j c _ hc => Heap.get_ext_old (Heap.ok_ext hN2.ok L) hc _, nx_le _ _⟩
    rw [Heap.set_ext_old _ _ _ _ (okG1 _ _ gkv)] at h1
    exact (h1.trans h2).trans (hK3.wk (by simp))
   have hkv3 : X3.get kv = some (.row true 8 [y.enc]) := hK3.keep _ _ (by simp [Ne.symm hne]) (Heap.get_set_here okG1 gkv _ _)
   have hne3 : kS' ≠ kv := fun e => by
    have := okG1 _ _ gkv
    rw [← e] at this
    rw [Heap.nx_set] at hfr
    omega
   have hkaA : Arr (G1.ext L) 1 (.slice kk (r * 1) ks.length 1 ex' cap') (bytV ks) := (arr_ko (hka.ext _) hko1 hle1 (by decide)).ext L
   have hxsA : ∀ q z, xs[q]? = some z → z.ok (G1.ext L) ∧ Rel z (stS kf q) := fun q z hz => by
    obtain ⟨a1, a2⟩ := hs3 q z hz
    have hql : q < i + 1 := by rw [← hs2]; exact (List.getElem?_eq_some_iff.1 hz).1
    exact ⟨(sh_ko (a1.ext _) (st_bare (by omega) a2) hko1 hle1).ext L, a2⟩
   have hdl : (diskT kf (i + 1)).length = (diskT kf i).length + (wrapT (opT (kf i) i)).length := by rw [disk_next, List.length_append]
   have hwl : (ws ++ [y0]).length = ws.length + 1 := List.length_append
   refine ⟨fun _ => ?_, fun _ => ?_⟩
   ·obtain ⟨wv3, hn3, -⟩ := hN3.row
    obtain ⟨wv1, hn1, -⟩ := hN1.row
    have hnA : (G1.ext L).get kn = _ := Heap.get_ext_old okG1 hn1 L
    have hdA : (G1.ext L).get kd = _ := Heap.get_ext_old okG1 hN1.disk L
    have hkn : kv ≠ kn := by
     rintro rfl
     rw [gkv] at hn1
     simp [Sh.enc] at hn1
    have hkd : kv ≠ kd := by rintro rfl; rw [hN1.disk] at gkv; cases gkv
    have hSn : kS' ≠ kn := by
     rintro rfl
     rw [hn3] at hS3
     rw [List.map_append, List.map_cons, List.map_nil] at hS3
     cases xs with
     | nil => cases hs2
     | cons z xs => simp [Sh.enc] at hS3
    have hSd : kS' ≠ kd := by rintro rfl; rw [hN3.disk] at hS3; cases hS3
    refine CL.of (f10_ok hN3) ?_
    rintro rv X4 ⟨hwt, hN4, hK4⟩
    have hl4 := fun G => (hwt.arr hN4.ok).len G
    have hc0 : ¬ ((ws.length + 1 : Nat) : Int) = 0 := by omega
    simp only [go_sem, hl4, hwl, hc0, hw1]
    refine ⟨(i + 1, kS', false, i + 1), by show ks.length - (i + 1) < ks.length - i; omega, ?_, Slots.all (by simp only [go_sem, hw1]; first | done | trace_state)⟩
    refine TI.of (sf := i + 1) hN4 hR1 (Nat.zero_add _) (by omega) (Nat.zero_le _) (Nat.le_refl _) hsi (by omega) (hK4.keep _ _ (by simp [hkn, hkd]) hkv3) hy1 hy2 (hK4.keep _ _ (by simp [hSn, hSd]) hS3) hs2 hxsA hne3 hkaA ((hA3.wk (ks' := [kv, kS, kn, kd]) (by simp)).trans (hK4.wk (by simp))) ?_
    intro j hj wr e rows hg
    simp only [List.mem_cons, List.not_mem_nil, or_false] at hj
    rcases hj with rfl | rfl | rfl | rfl
    ·rw [hkA] at hg; cases hg; exact .inl rfl
    ·rw [hSA] at hg; cases hg; exact .inl rfl
    ·rw [hnA] at hg; cases hg; exact .inl rfl
    ·rw [hdA] at hg; cases hg; exact .inr rfl
   ·refine ⟨(i + 1, kS', false, sf), by show ks.length - (i + 1) < ks.length - i; omega, ?_, Slots.all (by simp only [go_sem, hw1]; first | done | trace_state)⟩
    refine TI.of (sf := sf) hN3 hR1 (by omega) (by omega) (by omega) (by omega) hsi (by omega) hkv3 hy1 hy2 hS3 hs2 hxsA hne3 hkaA hA3 ?_
    intro j hj wr e rows hg
    simp only [List.mem_cons, List.not_mem_nil, or_false] at hj
    rcases hj with rfl | rfl
    ·rw [hkA] at hg; cases hg; exact .inl rfl
    ·rw [hSA] at hg; cases hg; exact .inl rfl
 ·obtain ⟨⟨n, m, ws, s, hN, hR, hns, hm, hws⟩, ⟨hsf, hil⟩, ⟨x, hx1, hx2, hx3⟩, ⟨xs, hs1, hs2, hs3⟩, hne, hka⟩ := hI
  obtain rfl : i = ks.length := by omega
  have okX := hN.ok
  have hlenX := fun G => hka.len G
  simp only [bytV, List.length_map] at hlenX
  have hci : ¬ ((ks.length : Int) < (ks.length : Int)) := by omega
  have hdl := disk_len (kf := kf) ks.length (by omega)
  obtain ⟨q, p, hq1, hq2, hq3, hq4⟩ := disk_cut (kf := kf) (sf := sf) ks.length hsf ((diskT kf ks.length).length - n + min (kp % 600) n) (by omega) (by omega)
  have hkp6 : (kp : Int).tmod 600 = ((kp % 600 : Nat) : Int) := by rw [Int.tmod_eq_emod_of_nonneg (by omega)]; omega
  have hwk : IntKind.u16.wrap ((kp % 600 : Nat) : Int) = ((kp % 600 : Nat) : Int) := wrap_nat .u16 _ (by show kp % 600 ≤ 65535; omega)
  have hwk2 : IntKind.i64.wrap ((kp % 600 : Nat) : Int) = ((kp % 600 : Nat) : Int) := wrap_i64 (by omega) (by omega)
  simp only [go_sem, hlenX, hci, hkp6, hwk, hwk2]
  refine CL.of (f11_ok (st := stS kf) (l := recsT kf q) (p := p) (hN.ext _) (by omega) (by omega) (by omega) hq3 hq4 (recsT_zero q) (by rw [recsT_len]; omega) (recsT_small q) rfl (fun j T hT => by
   have hj : j < q := by
    have := (List.getElem?_eq_some_iff.1 hT).1
    rw [recsT_len] at this; omega
   rw [recsT_get q j hj] at hT
   cases hT
   exact rec_st (by omega))) ?_
  rintro _ G1 ⟨rfl, kj', kh', km', z, hN1, hz, hK1⟩
  rw [recsT_len, Nat.add_sub_cancel] at hz
  rw [Heap.ext_nil] at hK1
  obtain ⟨wv, hn1, hw1⟩ := hN1.row
  obtain ⟨lv, hh1⟩ := hN1.hold
  refine WW.nil ?_
  simp only [go_sem]
  refine CL.of (f12_ok (Heap.get_ext_old hN1.ok hn1 _)) ?_
  rintro _ G' ⟨rfl, hG⟩; rw [hG]; clear hG
  simp only [go_sem]
  refine CL.of (f13_one (hh1.ext _)) ?_
  rintro _ _ ⟨rfl, rfl⟩
  rw [Heap.ext_nil]
  have hzo := hh1.each z (by simp)
  have hzc : (z.cop (G1.key 1) (G1.key 2) (G1.key 3)).ok (G1.ext (shL G1 z)) := Sh.cop_ok hzo rfl rfl rfl
  have gz : ∀ L, ((G1.ext (shL G1 z)).ext L).get (G1.key 5) = some (.row true 8 [(z.cop (G1.key 1) (G1.key 2) (G1.key 3)).enc]) := fun L => get_lit2 rfl
  have hN5 := hN1.ext (shL G1 z)
  obtain rfl : wv = .nils := by
   rcases hw1 with ⟨_, h⟩ | ⟨_, h, _⟩
   ·exact h
   ·exact absurd rfl h
  have hn5 := Heap.get_ext_old hN1.ok hn1 (shL G1 z)
  obtain ⟨G5, hG5⟩ : ∃ G5, G5 = G1.ext (shL G1 z) := ⟨_, rfl⟩
  rw [← hG5] at hzc gz hN5 hn5 ⊢
  refine WW.nil ?_
  simp only [go_sem]
  refine CL.of (f14_ok (xs := []) (.inl ⟨rfl, rfl⟩) (Heap.get_ext_old hN5.ok hn5 _)) ?_
  rintro _ G' ⟨rfl, hG⟩; rw [hG]; clear hG
  simp only [go_sem, List.length_nil]
  refine CL.of (f15_ok (Heap.get_ext_old hN5.ok hn5 _) (Heap.get_ext_old hN5.ok hN5.disk _)) ?_
  rintro _ G' ⟨rfl, hG⟩; rw [hG]; clear hG
  simp only [go_sem]
  obtain ⟨wvX, hnX, -⟩ := hN.row
  have hSn : kS ≠ kn := by
   rintro rfl
   rw [hnX] at hs1
   cases xs with
   | nil => cases hs2
   | cons z xs => simp [Sh.enc] at hs1
  have hSd : kS ≠ kd := by rintro rfl; rw [hN.disk] at hs1; cases hs1
  have hS5 : G5.get kS = some (.row true 8 (xs.map Sh.enc)) := by
   rw [hG5]; exact Heap.get_ext_old hN1.ok (hK1.keep _ _ (by simp [hSn, hSd]) hs1) _
  have hx5 : ∀ j w, xs[j]? = some w → w.ok G5 ∧ Rel w (stS kf j) := fun j w hj => by
   obtain ⟨a1, a2⟩ := hs3 j w hj
   have hjl : j < ks.length + 1 := by rw [← hs2]; exact (List.getElem?_eq_some_iff.1 hj).1
   refine ⟨?_, a2⟩
   rw [hG5]
   refine (sh_kp a1 (st_bare (by omega) a2) hK1 fun k hk wr e rows hg => ?_).ext _
   simp only [List.mem_cons, List.not_mem_nil, or_false] at hk
   rcases hk with rfl | rfl
   ·rw [hnX] at hg; cases hg; decide
   ·rw [hN.disk] at hg; cases hg; decide
  obtain ⟨zc, hzE⟩ : ∃ zc, zc = z.cop (G1.key 1) (G1.key 2) (G1.key 3) := ⟨_, rfl⟩
  have hzs : sameSh zc (stS kf q) := by rw [hzE]; exact hz.1
  rw [← hzE] at hzc gz
  have ok5 := hN5.ok
  have gz5 : ∀ L, (G5.ext L).get (G1.key 5) = some (.row true 8 [zc.enc]) := gz
  simp only [Sh.enc] at gz5
  have hSA : Arr G5 8 (.slice kS 0 (ks.length + 1) 8 ex (ks.length + 1)) (xs.map Sh.enc) := .inr ⟨kS, 0, ex, _, by rw [List.length_map, hs2], ok5 _ _ hS5, fun _ => ⟨0, true, _, rfl, hS5, by rw [List.drop_zero, List.take_length]⟩⟩
  obtain ⟨sv, hsv⟩ : ∃ sv, sv = AV.slice kS 0 (ks.length + 1) 8 ex (ks.length + 1) := ⟨_, rfl⟩
  rw [← hsv] at hSA
  have hlS := fun G => hSA.len G
  simp only [List.length_map, hs2] at hlS
  obtain ⟨kl, hkl⟩ : ∃ kl, kl = G1.key 5 := ⟨_, rfl⟩
  rw [← hkl] at gz5
  refine LL.sth (good_EC _ _) (fun j : Nat => ks.length + 1 - j) (fun j Y => Y = G5 ∧ j ≤ q) (fun j => [(K.z.o.o.o.o, .int .i64 j), (K.z.o.i.o, sv), (K.z.i.i.i, .slice kl 0 1 8 false 1)]) ?_ sf ⟨by first | rfl | exact Heap.ext_nil _, hq1⟩ (Slots.all (by simp only [go_sem, hsv, hkl]; first | done | exact ⟨rfl, rfl, rfl⟩ | trace_state))
  clear hsv
  rintro j Y ⟨rfl, hjq⟩
  have hjl : j < xs.length := by rw [hs2]; omega
  obtain ⟨kk, r, ex', cap', wr, rows, hv, hrho, hgo, hrow⟩ := hSA.at ok5 (j := j) (by rw [List.length_map]; exact hjl)
  simp only [List.length_map, List.getElem_map, hs2] at hv hrow
  obtain ⟨hw1, hw2⟩ := hx5 j _ (List.getElem?_eq_getElem hjl)
  have hwq : j = q → sameSh xs[j] (stS kf q) := fun e => by rw [← e]; exact hw2.1
  have hwd : sameSh xs[j] (stS kf j) := hw2.1
  generalize xs[j] = w at hrow hw1 hwq hwd
  have hdq := (gd_st (kf := kf) q (by omega)).hd
  have hdj := (gd_st (kf := kf) j (by omega)).hd
  obtain ⟨c, hc, hcs⟩ := sr_ex (hzc.ext []) (hw1.ext []) ⟨(hzs.1.trans hdq.1).trans (hwd.1.trans hdj.1).symm, (hzs.2.1.trans hdq.2.1).trans (hwd.2.1.trans hdj.2.1).symm, (hzs.2.2.1.trans hdq.2.2.1).trans (hwd.2.2.1.trans hdj.2.2.1).symm, (hzs.2.2.2.1.trans hdq.2.2.2.1).trans (hwd.2.2.2.1.trans hdj.2.2.2.1).symm, (hzs.2.2.2.2.1.trans hdq.2.2.2.2).trans (hwd.2.2.2.2.1.trans hdj.2.2.2.2).symm⟩
  have hcj : (j : Int) < ((ks.length + 1 : Nat) : Int) := by omega
  have hsj : j + 1 ≤ ks.length + 1 := by omega
  have hwj : IntKind.i64.wrap ((j : Int) + 1) = ((j + 1 : Nat) : Int) := wrap_succ (by omega)
  simp only [Sh.enc] at hc hrow
  subst hv
  simp only [go_sem, hlS, hcj, hsj, hgo, hrow, gz5, hc, hwj]
  cases c
  ·have hlt2 : j < q := by
    rcases Nat.eq_or_lt_of_le hjq with e | e
    ·have h2 := hwq e
     exact absurd (hcs ⟨hzs.1.trans h2.1.symm, hzs.2.1.trans h2.2.1.symm, hzs.2.2.1.trans h2.2.2.1.symm, hzs.2.2.2.1.trans h2.2.2.2.1.symm, hzs.2.2.2.2.1.trans h2.2.2.2.2.1.symm, hzs.2.2.2.2.2.1.trans h2.2.2.2.2.2.1.symm, hzs.2.2.2.2.2.2.1.trans h2.2.2.2.2.2.2.1.symm, hzs.2.2.2.2.2.2.2.trans h2.2.2.2.2.2.2.2.symm⟩) (by decide)
    ·exact e
   simp only [go_sem, hwj]
   exact ⟨j + 1, by show ks.length + 1 - (j + 1) < ks.length + 1 - j; omega, ⟨Heap.ext_nil _, hlt2⟩, Slots.all (by simp only [go_sem, hwj]; first | done | trace_state)⟩
  ·simp only [go_sem]
end Go.Proofs
