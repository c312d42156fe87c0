/- part. -/
import Derived.Test.YtglpihajimhekaaGreatDoorZ21
import Derived.KernelRfl
import Derived.Test.YtglpihajimhekaaGreatDoorProg
set_option linter.all false
set_option maxRecDepth 100000
namespace Go.Proofs
open Go Go.Ev
variable {H : Heap}
theorem f235_c {N : Nat} {s : Sh} (h : s.ok H) {ke : K} (hev : s.ev = outV ke 4 s.evs.length) (hG : GdC N s) (hN : N < 900) {k v : List Nat} (hk : isKey k) (hv : (v.length : Int) ≤ 12) :
  FnOk Tryz.prog 235 [.agg s.enc, .str k, .str v, .bool false] H (fun r G => r = .tup [.agg (chgS s k v (H.key 0) (H.key 1)).enc, .agg (nextC s.cells k v false).enc, .nili] ∧ G = H.ext [outB 5 ((chgS s k v (H.key 0) (H.key 1)).cells.map Cell.enc), outB 4 ((chgS s k v (H.key 0) (H.key 1)).evs.map Evn.enc)]) :=
 f235_put h hev (by have := hG.el; omega) (by have := hG.cl; omega) hk hv hG.hist (by have := hG.vers k; omega)
theorem chg_ok {N : Nat} {s x : Sh} (h : s.ok H) (hd : x.done = s.done ∧ x.dv = s.dv) (hG : GdC N x) (hN : N < 900) {k v : List Nat} {L : List Blk} {i j : Nat} (hi : L[i]? = some (outB 5 ((chgS x k v (H.key i) (H.key j)).cells.map Cell.enc))) (hj : L[j]? = some (outB 4 ((chgS x k v (H.key i) (H.key j)).evs.map Evn.enc))) : (chgS x k v (H.key i) (H.key j)).ok (H.ext L) where
 c := arr_outV hi (by rw [List.length_map]; exact keepC_len _ _)
 e := arr_outV hj (List.length_map ..)
 d := by
  show Arr _ 6 x.dv (x.done.map Dn.enc)
  rw [hd.1, hd.2]; exact h.d.ext L
 dok := by
  show allOk _ x.done
  rw [hd.1]; exact h.dok.ext L
 cl := by
  show (keepC _ _).length < _
  rw [keepC_len, refW_eq hG.hist.1]
  have := withL_len (nextC x.cells k v false) x.cells
  have := hG.cl
  omega
 el := by
  show (List.drop _ _).length < _
  rw [List.length_drop, List.length_append]
  have := hG.el
  show x.evs.length + 1 - _ < _
  omega
 dl := by
  show x.done.length < _
  rw [hd.1]; exact h.dl
noncomputable def chg3 (s : Sh) (a b c v : List Nat) (k0 k1 : K) : Sh := chgS (chgS (chgS s a v .z .z) b v .z .z) c v k0 k1
theorem chg_ev (s : Sh) (k v : List Nat) (k0 k1 : K) : (chgS s k v k0 k1).ev = outV k1 4 (chgS s k v k0 k1).evs.length := by
 unfold chgS addS; exact rfl
theorem chg_cv (s : Sh) (k v : List Nat) (k0 k1 : K) : (chgS s k v k0 k1).cv = outV k0 5 (chgS s k v k0 k1).cells.length := by
 show outV k0 5 (refW _ _).length = outV k0 5 (keepC _ _).length
 rw [keepC_len]
theorem chgS_same {x z : Sh} (h : sameSh x z) (k v : List Nat) (k0 k1 j0 j1 : K) : sameSh (chgS x k v k0 k1) (chgS z k v j0 j1) := by
 obtain ⟨h1, h2, h3, h4, h5, h6, h7, h8⟩ := h
 refine ⟨h1, h2, h3, h4, h5, ?_, ?_, h8⟩
 ·show keepC _ _ = keepC _ _
  rw [h6, h7]
 ·show List.drop _ _ = List.drop _ _
  rw [h6, h7]
theorem f199_three {N : Nat} {s : Sh} (hok : H.ok) (h : s.ok H) {ke : K} (hev : s.ev = outV ke 4 s.evs.length) (hG : GdC N s) (hN : N < 800) {a b c v : List Nat} (ha : isKey a) (hb : isKey b) (hc : isKey c) (hv : (v.length : Int) ≤ 12)
  {kw : K} {ex : Bool} {cap : Nat} (hk : H.get kw = some (.row true 3 ((wr3 a b c v).map Wr.enc))) :
  ∃ y L, FnOk Tryz.prog 199 [.agg s.enc, .slice kw 0 3 3 ex cap] H (fun r G => r = .tup [.agg (Sh.enc y), .agg [.int .i64 0, .str [], .int .i64 3, .nils]] ∧ G = H.ext L) ∧ L[15]? = some (outB 5 (y.cells.map Cell.enc)) ∧ L[16]? = some (outB 4 (y.evs.map Evn.enc)) ∧ (y.cv = outV (H.key 15) 5 y.cells.length ∧ y.ev = outV (H.key 16) 4 y.evs.length) ∧ GdC (N + 3) y ∧ sameSh y (chg3 s a b c v .z .z) ∧ y.dv = s.dv := by
 obtain ⟨e1, e2, e3, e4, e5⟩ := hG.hd
 have hA : Arr H 3 (.slice kw 0 3 3 ex cap) ((wr3 a b c v).map Wr.enc) := .inr ⟨kw, 0, ex, cap, rfl, hok _ _ hk, fun _ => ⟨0, true, _, rfl, hk, rfl⟩⟩
 have hk' : ∀ L, (H.ext L).get kw = some (.row true 3 [[.str a, .str v, .bool false], [.str b, .str v, .bool false], [.str c, .str v, .bool false]]) := fun L => Heap.get_ext_old hok hk L
 have ok1 : ∀ L : List Blk, L[5]? = some (outB 5 ((chgS s a v (H.key 5) (H.key 6)).cells.map Cell.enc)) → L[6]? = some (outB 4 ((chgS s a v (H.key 5) (H.key 6)).evs.map Evn.enc)) → (chgS s a v (H.key 5) (H.key 6)).ok (H.ext L) := fun L h5 h6 => chg_ok h ⟨rfl, rfl⟩ hG (by omega) h5 h6
 obtain ⟨y1, hy1⟩ : ∃ y1, y1 = chgS s a v (H.key 5) (H.key 6) := ⟨_, rfl⟩
 have g1 : GdC (N + 1) y1 := by rw [hy1]; exact hG.chg (by omega) ha hv _ _
 have v1 : y1.ev = outV (H.key 6) 4 y1.evs.length := by rw [hy1]; exact chg_ev ..
 have d1 : y1.done = s.done ∧ y1.dv = s.dv := by rw [hy1]; exact ⟨rfl, rfl⟩
 rw [← hy1] at ok1
 have ok2 : ∀ L : List Blk, L[10]? = some (outB 5 ((chgS y1 b v (H.key 10) (H.key 11)).cells.map Cell.enc)) → L[11]? = some (outB 4 ((chgS y1 b v (H.key 10) (H.key 11)).evs.map Evn.enc)) → (chgS y1 b v (H.key 10) (H.key 11)).ok (H.ext L) := fun L h5 h6 => chg_ok h d1 g1 (by omega) h5 h6
 obtain ⟨y2, hy2⟩ : ∃ y2, y2 = chgS y1 b v (H.key 10) (H.key 11) := ⟨_, rfl⟩
 have g2 : GdC (N + 2) y2 := by rw [hy2]; exact g1.chg (by omega) hb hv _ _
 have v2 : y2.ev = outV (H.key 11) 4 y2.evs.length := by rw [hy2]; exact chg_ev ..
 have d2 : y2.done = s.done ∧ y2.dv = s.dv := by rw [hy2]; exact d1
 rw [← hy2] at ok2
 have ok3 : ∀ L : List Blk, L[15]? = some (outB 5 ((chgS y2 c v (H.key 15) (H.key 16)).cells.map Cell.enc)) → L[16]? = some (outB 4 ((chgS y2 c v (H.key 15) (H.key 16)).evs.map Evn.enc)) → (chgS y2 c v (H.key 15) (H.key 16)).ok (H.ext L) := fun L h5 h6 => chg_ok h d2 g2 (by omega) h5 h6
 obtain ⟨y3, hy3⟩ : ∃ y3, y3 = chgS y2 c v (H.key 15) (H.key 16) := ⟨_, rfl⟩
 have g3 : GdC (N + 3) y3 := by rw [hy3]; exact g2.chg (by omega) hc hv _ _
 have v3 : y3.ev = outV (H.key 16) 4 y3.evs.length := by rw [hy3]; exact chg_ev ..
 have d3 : y3.done = s.done ∧ y3.dv = s.dv := by rw [hy3]; exact d2
 rw [← hy3] at ok3
 obtain ⟨c1, hc1⟩ : ∃ c1, c1 = nextC s.cells a v false := ⟨_, rfl⟩
 obtain ⟨c2, hc2⟩ : ∃ c2, c2 = nextC y1.cells b v false := ⟨_, rfl⟩
 obtain ⟨c3, hc3⟩ : ∃ c3, c3 = nextC y2.cells c v false := ⟨_, rfl⟩
 have w1 : IntKind.i64.wrap (0 + 1) = 1 := rfl
 have w2 : IntKind.i64.wrap (1 + 1) = 2 := rfl
 have w3 : IntKind.i64.wrap (2 + 1) = 3 := rfl
 have q1 : ∀ k : List AV → R1, readC R1.fail 3 [[.str a, .str v, .bool false], [.str b, .str v, .bool false], [.str c, .str v, .bool false]] 3 3 k = k [.str b, .str v, .bool false] := fun _ => rfl
 have q2 : ∀ k : List AV → R1, readC R1.fail 3 [[.str a, .str v, .bool false], [.str b, .str v, .bool false], [.str c, .str v, .bool false]] 6 3 k = k [.str c, .str v, .bool false] := fun _ => rfl
 have z1 : (1 : Int).toNat = 1 := rfl
 have z2 : (2 : Int).toNat = 2 := rfl
 have u3 : y3.cv = outV (H.key 15) 5 y3.cells.length := by rw [hy3]; exact chg_cv ..
 refine ⟨?y, ?L, ?a, ?b⟩
 case a =>
  refine FnOk.of_WW Tryz.func199 rfl C199ok R199ok E0 good_E0 ?_
  simp only [go_sem, C199, Sh.enc]
  refine CL.bool (f238_ok (l := wr3 a b c v) (hA.ext _) (by show 3 ≤ 9223372036854775807; decide) (fun _ _ => call239 ..) (fun top σ => by exact cap_lit (Nat.zero_lt_succ _) 239 top σ) (p := fun c => ¬ has s.fr s.to c.key) fun c hcm L => by exact f239_ok (s := s) (get_lit2 rfl) c) (fun g6 => ?_) (fun g6 => ?_)
  ·obtain ⟨x, hx, hn⟩ := g6
   rw [e3, e4] at hn
   simp only [wr3, List.mem_cons, List.not_mem_nil, or_false] at hx
   rcases hx with rfl | rfl | rfl
   ·exact absurd (has_all ha) hn
   ·exact absurd (has_all hb) hn
   ·exact absurd (has_all hc) hn
  simp only [go_sem]
  refine LL.un good_E0 3 ?_
  simp only [go_sem, hk', Sh.enc]
  refine CL.of (f235_c (h.ext _) hev hG (by omega) ha hv) ?_
  rintro _ _ ⟨rfl, rfl⟩
  simp only [Heap.key_ext, List.length_cons, List.length_nil, Nat.zero_add, Nat.reduceAdd]
  rw [← hy1, ← hc1]
  simp only [go_sem, hk', Sh.enc, Cell.enc, w1, w2, w3, z1, z2, q1, q2]
  have e2 := fun L h5 h6 => f235_c (ok1 L h5 h6) v1 g1 (by omega) hb hv
  refine CL.of (e2 _ (by rfl) (by rfl)) ?_
  rintro _ _ ⟨rfl, rfl⟩
  simp only [Heap.key_ext, List.length_cons, List.length_nil, Nat.zero_add, Nat.reduceAdd]
  rw [← hy2, ← hc2]
  simp only [go_sem, hk', Sh.enc, Cell.enc, w1, w2, w3, z1, z2, q1, q2]
  have e3 := fun L h5 h6 => f235_c (ok2 L h5 h6) v2 g2 (by omega) hc hv
  refine CL.of (e3 _ (by rfl) (by rfl)) ?_
  rintro _ _ ⟨rfl, rfl⟩
  simp only [Heap.key_ext, List.length_cons, List.length_nil, Nat.zero_add, Nat.reduceAdd]
  rw [← hy3, ← hc3]
  simp only [go_sem, hk', Sh.enc, Cell.enc, w1, w2, w3, z1, z2, q1, q2]
  refine And.intro ?_ ?_
  ·exact rfl
  ·exact rfl
 case b =>
  refine ⟨rfl, rfl, ⟨u3, v3⟩, g3, ?_, d3.2⟩
  rw [hy3]
  refine chgS_same ?_ ..
  rw [hy2]
  refine chgS_same ?_ ..
  rw [hy1]
  exact chgS_same ⟨rfl, rfl, rfl, rfl, rfl, rfl, rfl, rfl⟩ ..
noncomputable def batS (s : Sh) (a b c v : List Nat) (k0 k1 : K) : Sh := ⟨s.id, s.ep, s.fr, s.to, s.frz, (chg3 s a b c v .z .z).cells, (chg3 s a b c v .z .z).evs, s.done, outV k0 5 (chg3 s a b c v .z .z).cells.length, outV k1 4 (chg3 s a b c v .z .z).evs.length, s.dv⟩
noncomputable def batB (s : Sh) (a b c v : List Nat) : List Blk := [outB 5 ((chg3 s a b c v .z .z).cells.map Cell.enc), outB 4 ((chg3 s a b c v .z .z).evs.map Evn.enc)]
theorem f199_bat {N : Nat} {s : Sh} (hok : H.ok) (h : s.ok H) {ke : K} (hev : s.ev = outV ke 4 s.evs.length) (hG : GdC N s) (hN : N < 800) {a b c v : List Nat} (ha : isKey a) (hb : isKey b) (hc : isKey c) (hv : (v.length : Int) ≤ 12)
  {kw : K} {ex : Bool} {cap : Nat} (hk : H.get kw = some (.row true 3 ((wr3 a b c v).map Wr.enc))) :
  FnOk Tryz.prog 199 [.agg s.enc, .slice kw 0 3 3 ex cap] H fun r G => r = .tup [.agg (batS s a b c v (H.key 0) (H.key 1)).enc, .agg [.int .i64 0, .str [], .int .i64 3, .nils]] ∧ G = H.ext (batB s a b c v) := by
 refine FnOk.dropW ?_
 obtain ⟨y, L, hx, l1, l2, ⟨l3, l4⟩, -, ⟨s1, s2, s3, s4, s5, s6, s7, s8⟩, l5⟩ := f199_three hok h hev hG hN ha hb hc hv (ex := ex) (cap := cap) hk
 refine hx.mono ?_
 rintro r G ⟨rfl, rfl⟩
 have dren := h.d.ren
 rw [s6] at l1 l3
 rw [s7] at l2 l4
 have t1 : s.id = y.id := s1.symm
 have t2 : s.ep = y.ep := s2.symm
 have t3 : s.fr = y.fr := s3.symm
 have t4 : s.to = y.to := s4.symm
 have t5 : s.frz = y.frz := s5.symm
 refine ⟨L, [15, 16], ?_, rfl, rfl, by decide, ?_⟩
 ·simp only [batS, Sh.enc, l3, l4, l5, t1, t2, t3, t4, t5, outV_ren', dren, go_sem]
 ·simp only [batB, go_sem, l1, l2, ↓outB_ren', Cell.map_rens, Evn.map_rens, implies_true]
end Go.Proofs
namespace Go.Proofs
open Go.RowKit Go.Extern.Stop Go.Stop Go.Extern
theorem Tryz.as_valueOfB (t : Addr) (w : World) : (ReflectliteValue.unpack (.iface 210 (.pointer (some t)))).run Tryz.prog w
  = .ok (.agg #[.pointer (some ⟨2, 210, none⟩), .pointer (some ⟨w.heap.size, 0, none⟩), .int .u64 150]) (w.alloc (.cells #[.pointer (some t)] 210)) := by kernel_rfl
theorem Tryz.as_typeB (a : Addr) (w : World) : (ReflectliteValue.methodAny (ReflectliteValue.valueError "reflectlite.Value.Type" 0) (fun t _ _ _ => ReflectliteType.toType t) #[.agg #[.pointer (some ⟨2, 210, none⟩), .pointer (some a), .int .u64 150]]).run Tryz.prog w
  = .ok (.iface 251 (.agg #[.pointer (some ⟨2, 210, none⟩)])) w := by kernel_rfl
theorem Tryz.as_kindB (w : World) : ((ReflectliteType.abiMethod fun t => (fun a : Nat => Value.int IntKind.u8 (a : Int)) <$> Rtype.kind t) #[.pointer (some ⟨2, 210, none⟩)]).run Tryz.prog w = .ok (.int .u8 22) w := by kernel_rfl
theorem Tryz.as_kindS (w : World) : ((ReflectliteType.abiMethod fun t => (fun a : Nat => Value.int IntKind.u8 (a : Int)) <$> Rtype.kind t) #[.pointer (some ⟨2, 129, none⟩)]).run Tryz.prog w = .ok (.int .u8 25) w := by kernel_rfl
theorem Tryz.as_partsB (a : Addr) (w : World) : (ReflectliteValue.parts (.agg #[.pointer (some ⟨2, 210, none⟩), .pointer (some a), .int .u64 150])).run Tryz.prog w = .ok (some (210, a, 150)) w := by kernel_rfl
theorem Tryz.as_isNilB (a p : Addr) (W : World) (ha : W.cell? a = some (.pointer (some p))) :
  (ReflectliteValue.method (ReflectliteValue.valueError "reflectlite.Value.IsNil" 0) ReflectliteValue.isNil #[.agg #[.pointer (some ⟨2, 210, none⟩), .pointer (some a), .int .u64 150]]).run Tryz.prog W = .ok (.bool false) W := by
 rw [rlm]
 simp only [Sem.run_bind, Tryz.as_partsB, Result.andThen]
 simp [ReflectliteValue.isNil, loadVar, isAgg, underlying, Tryz.underlying210, ha, Result.andThen]
theorem Tryz.as_elemB (w : World) : (ReflectliteType.method ReflectliteType.elem #[.agg #[.pointer (some ⟨2, 210, none⟩)]]).run Tryz.prog w = .ok (.iface 251 (.agg #[.pointer (some ⟨2, 129, none⟩)])) w := by kernel_rfl
theorem Tryz.as_implementsS (w : World) : (ReflectliteType.relation "Implements" ReflectliteType.implements_ #[.agg #[.pointer (some ⟨2, 129, none⟩)], .iface 251 (.agg #[.pointer (some ⟨2, 68, none⟩)])]).run Tryz.prog w = .ok (.bool true) w := by kernel_rfl
theorem Tryz.as_assignableS (w : World) : (ReflectliteType.relation "AssignableTo" ReflectliteType.assignableTo #[.agg #[.pointer (some ⟨2, 125, none⟩)], .iface 251 (.agg #[.pointer (some ⟨2, 129, none⟩)])]).run Tryz.prog w = .ok (.bool false) w := by kernel_rfl
theorem Tryz.noAs (v : Value) (xT : TypeId) (w : World) : (Instr.typeAssert (.iface 125 v) xT 292 true).run Tryz.prog w = .ok (.tuple #[.nilIface, .bool false]) w := run_typeAssert_lacksB Tryz.underlying292 (by kernel_rfl) (by kernel_rfl) v xT w
set_option maxHeartbeats 4000000 in
theorem as_miss (e : Int) (t : Addr) (w : World) (hg : w.cell? ⟨0, 0, none⟩ = some (.iface 251 (.agg #[.pointer (some ⟨2, 68, none⟩)]))) :
  Calls Tryz.prog 113 #[.iface 125 (.int .i64 e), .iface 210 (.pointer (some t))] w fun ev w' => ev = .returned (.bool false) ∧ w' = (((w.alloc (.cells #[.pointer (some t)] 210)).alloc (.cells #[.pointer (some ⟨2, 210, none⟩), .pointer (some ⟨w.heap.size, 0, none⟩), .int .u64 150] 235)).alloc (.cells #[.pointer (some ⟨2, 210, none⟩), .pointer (some ⟨w.heap.size, 0, none⟩), .int .u64 150] 235)) := by
 have h6 := @run_callFunc_extern Tryz.prog 179 _ (fun args => ReflectliteValue.unpack (args.getD 0 (.tuple #[]))) Tryz.func179 (by kernel_rfl) (by kernel_rfl) (by kernel_rfl) (by kernel_rfl)
 have h7 := @run_callFunc_extern Tryz.prog 180 _ (ReflectliteValue.methodAny (ReflectliteValue.valueError "reflectlite.Value.Type" 0) (fun t _ _ _ => ReflectliteType.toType t)) Tryz.func180 (by kernel_rfl) (by kernel_rfl) (by kernel_rfl) (by kernel_rfl)
 have h8 := @run_callFunc_extern Tryz.prog 181 _ (ReflectliteValue.method (ReflectliteValue.valueError "reflectlite.Value.IsNil" 0) ReflectliteValue.isNil) Tryz.func181 (by kernel_rfl) (by kernel_rfl) (by kernel_rfl) (by kernel_rfl)
 have h27 := @run_callFunc_extern Tryz.prog 321 _ (ReflectliteType.abiMethod fun t => do pure (.int .u8 (← Rtype.kind t))) Tryz.func321 (by kernel_rfl) (by kernel_rfl) (by kernel_rfl) (by kernel_rfl)
 have h37 := @run_callFunc_extern Tryz.prog 333 _ (ReflectliteType.method ReflectliteType.elem) Tryz.func333 (by kernel_rfl) (by kernel_rfl) (by kernel_rfl) (by kernel_rfl)
 have h38 := @run_callFunc_extern Tryz.prog 334 _ (ReflectliteType.relation "Implements" ReflectliteType.implements_) Tryz.func334 (by kernel_rfl) (by kernel_rfl) (by kernel_rfl) (by kernel_rfl)
 have h10 := @run_callFunc_extern Tryz.prog 137 _ ReflectliteType.typeOf Tryz.func137 (by kernel_rfl) (by kernel_rfl) (by kernel_rfl) (by kernel_rfl)
 have h35 := @run_callFunc_extern Tryz.prog 331 _ (ReflectliteType.relation "AssignableTo" ReflectliteType.assignableTo) Tryz.func331 (by kernel_rfl) (by kernel_rfl) (by kernel_rfl) (by kernel_rfl)
 have tO := Tryz.as_typeOf25
 have mA := Tryz.as_methodAssignableTo
 have a25 := Tryz.as_assignableS
 have f6 := Tryz.as_valueOfB
 have f7 := Tryz.as_typeB
 have mK := Tryz.as_methodKind
 have mE := Tryz.as_methodElem
 have mI := Tryz.as_methodImplements
 have k27 := Tryz.as_kindB
 have k25 := Tryz.as_kindS
 have e27 := Tryz.as_elemB
 have i25 := Tryz.as_implementsS
 have n1 := Tryz.noAs
 have n2 := Tryz.noUnwrap
 have n3 := Tryz.noUnwraps
 have n8 := Tryz.as_isNilB ⟨w.heap.size, 0, none⟩ t ((w.alloc (.cells #[.pointer (some t)] 210)).alloc (.cells #[.pointer (some ⟨2, 210, none⟩), .pointer (some ⟨w.heap.size, 0, none⟩), .int .u64 150] 235)) (by simp)
 have hlt : 0 < w.heap.size := by
  rcases Nat.eq_zero_or_pos w.heap.size with h0 | h
  ·simp [World.cell?, h0] at hg
  ·exact h
 have hg2 : ((w.alloc (.cells #[.pointer (some t)] 210)).alloc (.cells #[.pointer (some ⟨2, 210, none⟩), .pointer (some ⟨w.heap.size, 0, none⟩), .int .u64 150] 235)).cell? ⟨0, 0, none⟩ = some (.iface 251 (.agg #[.pointer (some ⟨2, 68, none⟩)])) := by
  rw [World.cell?_alloc_lt _ _ ⟨0, 0, none⟩ (by simp), World.cell?_alloc_lt _ _ ⟨0, 0, none⟩ hlt]; exact hg
 go_enter Tryz.func113, Tryz.ntmps113
 go_wp2
 refine wp_loop_rounds 1 ?_
 rw [rounds_succ]
 go_wp2
 go_ret
 exact ⟨rfl, rfl⟩
end Go.Proofs
namespace Go.Proofs
open Go Go.Ev
variable {H : Heap}
theorem ins183 : InsFn Tryz.prog 201 6 72 [.int .i64 0, .int .i64 0, .int .i64 0, .str [], .int .i64 0, .nils] := ⟨⟨Tryz.f201, 241, 242, Tryz.func201, by kernel_rfl, by kernel_rfl, by kernel_rfl, by kernel_rfl⟩, rfl, by decide⟩
theorem ins275 : InsFn Tryz.prog 296 5 56 [.str [], .str [], .int .i64 0, .bool false, .int .i64 0] := ⟨⟨Tryz.f296, 302, 303, Tryz.func296, by kernel_rfl, by kernel_rfl, by kernel_rfl, by kernel_rfl⟩, rfl, by decide⟩
theorem num_inv {φ : Phi} {n : Int} {v : Value} (h : VRel Tryz.prog φ (.iface 125 (.int .i64 n)) v) : v = .iface 125 (.int .i64 n) := by
 cases h with | iface _ _ v' h => cases h; rfl
theorem nil_inv {φ : Phi} {v : Value} (h : VRel Tryz.prog φ .nili v) : v = .nilIface := by cases h; rfl
theorem b1 {α : Type} {a b : Nat} {x : Option α} {y : α} (e : bif' (Nat.beq a b) x none = some y) : a = b ∧ x = some y := by
 cases hb : Nat.beq a b with
 | true => rw [hb] at e; exact ⟨Nat.eq_of_beq_eq_true hb, e⟩
 | false => rw [hb] at e; cases e
theorem is_ok (args : List AV) (H : Heap) (v : AV) (G : Heap) (h : isA 125 args H = some (.ok v G)) : FnOk Tryz.prog 65 args H fun v' G' => v' = v ∧ G' = G := by
 unfold isA at h
 split at h
 case h_3 => cases h
 ·obtain ⟨rfl, h⟩ := b1 h
  cases h
  refine FnOk.of_calls fun φ w args' ha hw => ?_
  obtain ⟨x, y, rfl, h1, h2⟩ := two_args ha
  obtain rfl := nil_inv h1
  obtain rfl := num_inv h2
  refine (is_nil _ w).mono ?_
  rintro e w' ⟨rfl, rfl⟩
  exact ⟨⟨_, rfl, .bool _⟩, Grows.refl _⟩
 ·obtain ⟨q1, g1⟩ := b1 h
  obtain ⟨q2, g2⟩ := b1 g1
  rw [eqI_eq] at g2
  cases g2
  rw [q1, q2]
  refine FnOk.of_calls fun φ w args' ha hw => ?_
  obtain ⟨x, y, rfl, h1, h2⟩ := two_args ha
  obtain rfl := num_inv h1
  obtain rfl := num_inv h2
  refine (is_num _ _ w).mono ?_
  rintro e w' ⟨rfl, rfl⟩
  refine ⟨⟨_, rfl, ?_⟩, Grows.refl _⟩
  exact .bool _
theorem as_ok (args : List AV) (H : Heap) (v : AV) (G : Heap) (h : asA 125 176 210 args H = some (.ok v G)) : FnOk Tryz.prog 113 args H fun v' G' => v' = v ∧ G' = G := by
 unfold asA at h
 split at h
 case h_3 => cases h
 ·cases h
  refine FnOk.of_calls fun φ w args' ha hw => ?_
  obtain ⟨x, y, rfl, h1, h2⟩ := two_args ha
  obtain rfl := nil_inv h1
  refine (as_nil y w).mono ?_
  rintro e w' ⟨rfl, rfl⟩
  exact ⟨⟨_, rfl, .bool _⟩, Grows.refl _⟩
 ·rename_i t1 n t2 k
  obtain ⟨q1, h⟩ := b1 h
  rw [q1]
  cases hb : Nat.beq t2 210 with
  | true =>
   rw [hb] at h
   cases h
   obtain rfl := Nat.eq_of_beq_eq_true hb
   refine FnOk.of_calls fun φ w args' ha hw => ?_
   obtain ⟨x, y, rfl, h1, h2⟩ := two_args ha
   obtain rfl := num_inv h1
   cases h2 with
   | iface _ _ u' h2 =>
    cases h2 with
    | ptr _ _ a ha2 =>
     refine (as_miss n ⟨a.b, a.o + 0, none⟩ w (hw.rom 0 _ (List.mem_singleton.2 rfl)).1).mono ?_
     rintro e w' ⟨rfl, rfl⟩
     exact ⟨⟨_, rfl, .bool _⟩, (((Grows.alloc _ _).trans (Grows.alloc _ _)).trans (Grows.alloc _ _))⟩
  | false =>
   rw [hb, bif_false] at h
   obtain ⟨q2, h⟩ := b1 h
   rw [q2]
   split at h
   case h_2 => cases h
   rename_i x hk
   rw [Heap.setC_eq] at h
   cases h
   refine FnOk.of_calls_set (y' := .int .i64 n) hk (fun φ => .int _ _) rfl (fun φ => ⟨_, .bool _⟩) fun φ w args' ha hw => ?_
   obtain ⟨v, u, rfl, h1, h2⟩ := two_args ha
   obtain rfl := num_inv h1
   cases h2 with
   | iface _ _ u' h2 =>
    cases h2 with
    | ptr _ _ a ha2 =>
     refine ⟨a, ha2, fun old ho hf => ?_⟩
     refine (as_hit n ⟨a.b, a.o, none⟩ old w (hw.rom 0 _ (List.mem_singleton.2 rfl)).1 ho hf).mono ?_
     rintro e w' ⟨rfl, rfl⟩
     exact ⟨⟨_, rfl, .bool _⟩, _, (((Grows.alloc _ _).trans (Grows.alloc _ _)).trans (Grows.alloc _ _)).trans (Grows.alloc _ _), rfl⟩
noncomputable def XK : Orc := orX 201 (insA 6 72) (orX 296 (insA 5 56) (orX 65 (isA 125) (orX 113 (asA 125 176 210) X0)))
theorem good_XK : GoodX Tryz.prog XK := good_orX (insA_sound ins183) (good_orX (insA_sound ins275) (good_orX is_ok (good_orX as_ok good_X0)))
end Go.Proofs
namespace Go.Proofs
open Go Go.Ev
variable {H : Heap}
theorem known_run : Go.Ev.okB (evFn Tryz.prog XK 100000 5 [] hp0) = true := by kernel_rfl
theorem known_ok : FnOk Tryz.prog 5 [] H fun r G => r = .bool true ∧ G = H := FnOk.lift0 rfl rfl (FnOk.of_evB good_XK known_run)
noncomputable def kA (args : List AV) (H : Heap) : Option RC := match args with
 | [] => some (.ok (.bool true) H)
 | _ => none
theorem kA_ok (args : List AV) (H : Heap) (v : AV) (G : Heap) (h : kA args H = some (.ok v G)) : FnOk Tryz.prog 5 args H fun v' G' => v' = v ∧ G' = G := by
 unfold kA at h
 split at h
 ·cases h; exact known_ok
 ·cases h
noncomputable def XL : Orc := orX 5 kA XK
theorem good_XL : GoodX Tryz.prog XL := good_orX kA_ok good_XK
end Go.Proofs
namespace Go.Proofs
open Go Go.Ev
variable {H : Heap}
def askL (s id b v : Nat) : List AV := [.int .i64 1, .int .i64 (200 + (s : Int)), .int .i64 0, .int .i64 id, .int .i64 0, .int .i64 0, .int .i64 0, .int .i64 0, .int .i64 2, .str [b], .str [], .str [v], .int .i64 0, .nils, .int .i64 0, .str [], .int .i64 0, .nils, .str [], .str [], .nils, .nils, .nils, .str []]
def recL (s id b v : Nat) : List AV := [.int .i64 2, .int .i64 s, .int .i64 id, .int .i64 0, .int .i64 0, .int .i64 0, .int .i64 2, .str [b], .str [], .str [v], .int .i64 0, .nils, .str [], .str [], .nils, .nils]
def recT (s id b v : Nat) : List Nat := [2, s, id, 0, 0, 0, 2, 1, b, 0, 1, v, 0, 0, 0, 0, 0, 0]
noncomputable def EK : FuncId → List AV → Heap → RC := evFn Tryz.prog XL 100000
theorem ask_run (b v : Nat) : (allN 3 fun s => allN 31 fun i => isR (EK 27 [.agg (askL s (i + 1) b v)] hp0) (.bool true)) = true := by kernel_rfl
theorem letter_ask {s id : Nat} (hs : s < 3) (h0 : 0 < id) (h1 : id < 32) (b v : Nat) : FnOk Tryz.prog 27 [.agg (askL s id b v)] H fun r G => r = .bool true ∧ G = H := by
 obtain ⟨i, rfl⟩ : ∃ i, id = i + 1 := ⟨id - 1, by omega⟩
 exact FnOk.of_ev1 good_XL rfl rfl (allN2 (ask_run b v) s hs i (by omega))
end Go.Proofs
namespace Go.Proofs
open Go Go.Ev
variable {H : Heap}
def batL (wv : AV) : List AV := opL 6 [] [] [] 0 wv
def wrB (x : Nat) : Blk := .row true 3 ((wr3 [97] [98] [99] [x]).map Wr.enc)
theorem fit_wr {x : Nat} {kw : K} (hok : H.ok) (hk : H.get kw = some (wrB x)) : Fit H [kw] [wrB x] := by
 refine ⟨rfl, by simp, fun j hj => ?_, fun b hb j hj => ?_, fun i b j hb hj hl => ?_⟩
 ·rw [List.mem_singleton.1 hj]; exact hok _ _ hk
 ·rw [List.mem_singleton.1 hb] at hj
  simp [Blk.keysA, wrB, wr3, Wr.enc, AV.keyss, AV.keys] at hj
 ·cases i with
  | zero => cases hb; cases hj; exact hk
  | succ i => simp at hb
theorem isC (x : Nat) (ex : Bool) : chkB [wrB x] [wrB x] [.z] [.agg (batL (.slice .z 0 3 3 ex 3))] (.bool true) = true := by kernel_rfl
theorem isR_ (x : Nat) (ex : Bool) : runL (evFn Tryz.prog XL 100000 140 [.agg (batL (.slice .z 0 3 3 ex 3))] (hp0.ext [wrB x])) [.z] [wrB x] = some ((AV.bool true).ren (rk [.z] .z), true, wantL [.z] [wrB x]) := by kernel_rfl
theorem f140_bat {x : Nat} {ex : Bool} {kw : K} (hok : H.ok) (hk : H.get kw = some (wrB x)) : FnOk Tryz.prog 140 [.agg (batL (.slice kw 0 3 3 ex 3))] H fun r G => r = .bool true ∧ G = H := by
 have := FnOk.runF good_XL (isC x ex) (isR_ x ex) (fun i hi => by
  have : i = 0 := by have hi : i < 1 := hi; omega
  subst this; rfl) rfl (fun ρ => by rw [AV.ren]) (fit_wr hok hk)
 simp only [batL, opL, AV.rens, AV.ren] at this ⊢
 exact this
theorem f83_bat (wv : AV) : FnOk Tryz.prog 83 [.agg (batL wv)] H fun r G => r = .bool true ∧ G = H := by
 refine FnOk.drop (R := fun r => r = .bool true) ?_ (by rintro v rfl ρ; simp only [AV.ren])
 refine FnOk.of_WW Tryz.func83 rfl C83ok R83ok E0 good_E0 ?_
 simp only [go_sem, C83, batL, opL]
 first | done | exact ⟨_, rfl⟩ | exact ⟨rfl, _, rfl⟩ | trace_state
theorem f80_bat {x : Nat} {ex : Bool} {kw : K} (hok : H.ok) (hk : H.get kw = some (wrB x)) : FnOk Tryz.prog 80 [.agg (batL (.slice kw 0 3 3 ex 3))] H fun r G => r = .str [97] ∧ G = H := by
 refine FnOk.drop (R := fun r => r = .str [97]) ?_ (by rintro v rfl ρ; simp only [AV.ren])
 refine FnOk.of_WW Tryz.func80 rfl C80ok R80ok E0 good_E0 ?_
 have hk' : ∀ L, (H.ext L).get kw = some (.row true 3 [[.str [97], .str [x], .bool false], [.str [98], .str [x], .bool false], [.str [99], .str [x], .bool false]]) := fun L => Heap.get_ext_old hok hk L
 simp only [go_sem, C80, batL, opL, hk']
 first | done | exact ⟨_, rfl⟩ | exact ⟨rfl, _, rfl⟩ | trace_state
theorem key_a : isKey [97] := by unfold isKey; decide
theorem key_b : isKey [98] := by unfold isKey; decide
theorem key_c2 : isKey [99] := by unfold isKey; decide
theorem f148_bat {N x : Nat} {ex : Bool} {s : Sh} (hok : H.ok) (h : s.ok H) {ke : K} (hev : s.ev = outV ke 4 s.evs.length) (hG : GdC N s) (hN : N < 800) {kw : K} (hk : H.get kw = some (wrB x)) :
  FnOk Tryz.prog 148 [.agg s.enc, .agg (batL (.slice kw 0 3 3 ex 3))] H fun r G => r = .tup [.agg (batS s [97] [98] [99] [x] (H.key 0) (H.key 1)).enc, .agg [.int .i64 0, .str [], .int .i64 3, .nils]] ∧ G = H.ext (batB s [97] [98] [99] [x]) := by
 refine FnOk.dropW ?_
 refine FnOk.of_WW Tryz.func148 rfl C148ok R148ok E0 good_E0 ?_
 have dren := h.d.ren
 have e1 := fun L => f140_bat (ex := ex) (Heap.ok_ext hok L) (Heap.get_ext_old hok hk L)
 simp only [batL, opL] at e1
 simp only [go_sem, C148, Sh.enc, batL, opL]
 refine CL.of (e1 _) ?_
 rintro _ _ ⟨rfl, rfl⟩
 simp only [go_sem]
 refine CL.of (f199_bat (Heap.ok_ext hok _) (h.ext _) hev hG hN key_a key_b key_c2 (v := [x]) (by show (1 : Int) ≤ 12; decide) (Heap.get_ext_old hok hk _)) ?_
 rintro _ _ ⟨rfl, rfl⟩
 simp only [go_sem, Sh.enc, batS, batB, Heap.key_ext]
 exact ⟨_, [4, 5], by simp only [batS, Sh.enc, outV_ren', dren, go_sem], rfl, rfl, by decide, by simp only [batB, go_sem, ↓outB_ren', Cell.map_rens, Evn.map_rens, implies_true]⟩
noncomputable def batA (s : Sh) (a b c v : List Nat) (ses id : Int) (k0 k1 k2 : K) : Sh := ⟨s.id, s.ep, s.fr, s.to, s.frz, (chg3 s a b c v .z .z).cells, (chg3 s a b c v .z .z).evs, withD s.done ⟨ses, id, putA 3⟩, outV k0 5 (chg3 s a b c v .z .z).cells.length, outV k1 4 (chg3 s a b c v .z .z).evs.length, outV k2 6 (withD s.done ⟨ses, id, putA 3⟩).length⟩
noncomputable def batC (s : Sh) (a b c v : List Nat) (ses id : Int) : List Blk := batB s a b c v ++ [outB 6 ((withD s.done ⟨ses, id, putA 3⟩).map Dn.enc)]
theorem f82_bat {N x : Nat} {ex : Bool} {s : Sh} (hok : H.ok) (h : s.ok H) {ke : K} (hev : s.ev = outV ke 4 s.evs.length) (hG : GdC N s) (hN : N < 800) {kw : K} (hk : H.get kw = some (wrB x)) (hdl : s.done.length < 9000) (hup : upD s.done) (hrw : ∀ d ∈ s.done, d.an.rows = []) {ses id : Int} (hn : (stands s.done ses id).2 = 0) :
  FnOk Tryz.prog 82 [.agg s.enc, .int .i64 ses, .int .i64 id, .agg (batL (.slice kw 0 3 3 ex 3))] H fun r G => r = .tup [.agg (batA s [97] [98] [99] [x] ses id (H.key 0) (H.key 1) (H.key 2)).enc, .agg [.int .i64 0, .str [], .int .i64 3, .nils], .int .i64 0] ∧ G = H.ext (batC s [97] [98] [99] [x] ses id) := by
 refine FnOk.dropW ?_
 refine FnOk.of_WW Tryz.func82 rfl C82ok R82ok E0 good_E0 ?_
 have hdok := withD_ok h.dok (putA_ok H 3) (d := ⟨ses, id, putA 3⟩)
 have drn := hdok.rens
 have e138 := fun L => f148_bat (ex := ex) (Heap.ok_ext hok L) (h.ext L) hev hG hN (Heap.get_ext_old hok hk L)
 simp only [batL, opL] at e138
 simp only [go_sem, C82, Sh.enc, batL, opL]
 refine CL.of (f147_ok (h.d.ext _) (h.dok.ext _) (by omega) hup (rows_le hrw) ses id) ?_
 rintro _ _ ⟨z, rfl, rfl⟩
 have hrr := stands_rows hrw ses id
 cases z
 all_goals
  simp only [go_sem, ansV, hn, hrr, zV, zB]
  refine CL.of (e138 _) ?_
  rintro _ _ ⟨rfl, rfl⟩
  simp only [go_sem, Sh.enc, batS, batB, Heap.key_ext]
  refine CL.of (f83_bat _) ?_
  rintro _ _ ⟨rfl, rfl⟩
  simp only [go_sem, Sh.enc]
  refine CL.of (f149_ok (d := ⟨ses, id, putA 3⟩) (h.d.ext _) (h.dok.ext _) (putA_ok _ _) hup (by omega)) ?_
  rintro _ _ ⟨rfl, rfl⟩
  simp only [go_sem, Sh.enc]
  exact ⟨_, [6, 7, 9], by simp only [batA, Sh.enc, outV_ren', go_sem], rfl, rfl, by decide, by simp only [batC, batB, go_sem, ↓outB_ren', Cell.map_rens, Evn.map_rens, drn, implies_true]⟩
end Go.Proofs
namespace Go.Proofs
open Go Go.Ev
variable {H : Heap} {N : Nat} {P : Int → Int → Prop} {s : Sh}
theorem GdC.rel {x : Sh} (h : GdC N s) (hR : Rel x s) : GdC N x := by
 obtain ⟨h1, h2, h3, h4, h5, h6, h7, h8⟩ := hR.1
 obtain ⟨⟨a1, a2, a3, a4, a5⟩, b, c, d, e, f⟩ := h
 refine ⟨⟨h1.trans a1, h2.trans a2, h3.trans a3, h4.trans a4, h5.trans a5⟩, by rw [h6]; exact b, by rw [h6, h7]; exact c, by rw [h7]; exact d, by rw [h6]; exact e, by rw [h6]; exact f⟩
theorem chg3_gd (h : GdC N s) (hN : N < 1000000) {a b c v : List Nat} (ha : isKey a) (hb : isKey b) (hc : isKey c) (hv : (v.length : Int) ≤ 12) (k0 k1 : K) : GdC (N + 3) (chg3 s a b c v k0 k1) :=
 ((h.chg (by omega) ha hv .z .z).chg (by omega) hb hv .z .z).chg (by omega) hc hv k0 k1
theorem Gd.bat (h : Gd N P s) (hN : N < 100000) {a b c v : List Nat} (ha : isKey a) (hb : isKey b) (hc : isKey c) (hv : (v.length : Int) ≤ 12) {ses id : Int} (hs : 0 ≤ ses ∧ ses < 3) (hi : 1 ≤ id ∧ id < 1000) (k0 k1 k2 : K) :
  Gd (N + 3) (fun a b => P a b ∨ (a = ses ∧ b = id)) (batA s a b c v ses id k0 k1 k2) := by
 have hc3 := chg3_gd h.toGdC (by omega) ha hb hc hv .z .z
 refine ⟨⟨h.hd, hc3.keys, hc3.hist, hc3.el, hc3.vers, hc3.cl⟩, fun d hd => ?_, withD_up h.up, ?_⟩
 ·rcases withD_mem hd with rfl | hd
  ·exact ⟨⟨⟨hs.1, hs.2, hi.1, by show id ≤ _; omega⟩, putA_is (by decide) (by decide)⟩, rfl, rfl, .inr ⟨rfl, rfl⟩⟩
  ·obtain ⟨g1, g2, g3, g4⟩ := h.done d hd
   exact ⟨g1, g2, g3, .inl g4⟩
 ·have := withD_len (l := s.done) (d := ⟨ses, id, putA 3⟩)
  have := h.dl
  show (withD _ _).length ≤ _
  omega
theorem batA_rel {x s : Sh} (h : Rel x s) (a b c v : List Nat) (ses id : Int) (k0 k1 k2 j0 j1 j2 : K) : Rel (batA x a b c v ses id k0 k1 k2) (batA s a b c v ses id j0 j1 j2) := by
 obtain ⟨-, -, -, -, -, e6, e7, -⟩ : sameSh (chg3 x a b c v .z .z) (chg3 s a b c v .z .z) := by
  unfold chg3
  exact chgS_same (chgS_same (chgS_same h.1 ..) ..) ..
 obtain ⟨⟨h1, h2, h3, h4, h5, h6, h7, h8⟩, _⟩ := h
 unfold batA
 generalize chg3 x a b c v .z .z = X at e6 e7 ⊢
 generalize chg3 s a b c v .z .z = Y at e6 e7 ⊢
 refine ⟨⟨h1, h2, h3, h4, h5, e6, e7, ?_⟩, fun g => ?_⟩
 ·show withD _ _ = withD _ _
  rw [h8]
 ·have g : X.evs = [] := g
  show outV k1 4 X.evs.length = .nils
  rw [g]; rfl
theorem batA_ok {G : Heap} {s : Sh} {L : List Blk} {i j q : Nat} {a b c v : List Nat} {ses id : Int} (hG : GdC N s) (hN : N < 9000) (ha : isKey a) (hb : isKey b) (hc : isKey c) (hv : (v.length : Int) ≤ 12) (hd : (withD s.done ⟨ses, id, putA 3⟩).length < 10000) (hdok : allOk G s.done) (h1 : L[i]? = some (outB 5 ((chg3 s a b c v .z .z).cells.map Cell.enc))) (h2 : L[j]? = some (outB 4 ((chg3 s a b c v .z .z).evs.map Evn.enc))) (h3 : L[q]? = some (outB 6 ((withD s.done ⟨ses, id, putA 3⟩).map Dn.enc))) : (batA s a b c v ses id (G.key i) (G.key j) (G.key q)).ok (G.ext L) where
 c := arr_outV h1 (List.length_map ..)
 e := arr_outV h2 (List.length_map ..)
 d := arr_outV h3 (List.length_map ..)
 dok := (withD_ok hdok (putA_ok G _)).ext L
 cl := by have := (chg3_gd hG (by omega) ha hb hc hv .z .z).cl; show (chg3 s a b c v .z .z).cells.length < _; omega
 el := by have := (chg3_gd hG (by omega) ha hb hc hv .z .z).el; show (chg3 s a b c v .z .z).evs.length < _; omega
 dl := by show (withD _ _).length < _; omega
theorem Gd.doesB (h : Gd N P s) (hN : N < 800) {x : Nat} {ses id : Int} (hs : 0 ≤ ses ∧ ses < 3) (hi : 1 ≤ id ∧ id < 1000) (hn : ∀ a b, P a b → a = ses → b < id) (kw : K) (ex : Bool) :
  Does ses id 6 [] [] [] 0 (.slice kw 0 3 3 ex 3) (some (kw, (wr3 [97] [98] [99] [x]).map Wr.enc)) [97] s (batA s [97] [98] [99] [x] ses id .z .z .z) 3 where
 does := fun H y ke hok hy hR hev hw => by
  obtain ⟨h1, h2, h3, h4, h5, h6, h7, h8⟩ := hR.1
  have hG := h.toGdC.rel hR
  have hdl := h.dl
  have hst : (stands y.done ses id).2 = 0 := stands_new fun d hd e => hn _ _ (h.done d (by rwa [h8] at hd)).2.2.2 e
  refine ⟨_, _, f82_bat (x := x) hok hy hev hG hN (hw kw _ rfl) (by rw [h8]; omega) (by rw [h8]; exact h.up) (fun d hd => (h.done d (by rwa [h8] at hd)).2.2.1) hst, ?_, batA_rel hR ..⟩
  exact batA_ok hG (by omega) key_a key_b key_c2 (by show (1 : Int) ≤ 12; decide) (Nat.lt_of_le_of_lt withD_len (by rw [h8]; omega)) hy.dok rfl rfl rfl
 fkey := fun H hok hw => f80_bat hok (hw kw _ rfl)
 wri := fun H _ _ => f83_bat _
 find := h.find key_a
 sh := h.sh
 small := h.small (by omega)
 small2 := (h.bat (by omega) key_a key_b key_c2 (by show (1 : Int) ≤ 12; decide) hs hi .z .z .z).small (by omega)
 id1 := rfl
end Go.Proofs
namespace Go.Proofs
open Go Go.Ev K
noncomputable def C9 := mkC Tryz.prog Tryz.f9 46
theorem C9ok : CCok Tryz.prog Tryz.f9 46 C9 := mkC_ok _
@[go_sem] theorem call9 (a H) : callC Tryz.prog 9 a H = .call 9 a := callC_ok (by kernel_rfl) a H
theorem R9ok : resKs Tryz.prog Tryz.f9.results.toList = some [RK.cell z.o.o.i true 8, RK.cell z.o.i.o true 4, RK.tmp z.o.i.i] := by kernel_rfl
noncomputable def C38 := mkC Tryz.prog Tryz.f38 34
theorem C38ok : CCok Tryz.prog Tryz.f38 34 C38 := mkC_ok _
@[go_sem] theorem call38 (a H) : callC Tryz.prog 38 a H = .call 38 a := callC_ok (by kernel_rfl) a H
theorem R38ok : resKs Tryz.prog Tryz.f38.results.toList = some [RK.cell z.i.i true 4, RK.tmp z.o.o.o] := by kernel_rfl
noncomputable def C39 := mkC Tryz.prog Tryz.f39 123
theorem C39ok : CCok Tryz.prog Tryz.f39 123 C39 := mkC_ok _
@[go_sem] theorem call39 (a H) : callC Tryz.prog 39 a H = .call 39 a := callC_ok (by kernel_rfl) a H
theorem R39ok : resKs Tryz.prog Tryz.f39.results.toList = some [RK.cell z.o.i true 8, RK.cell z.i.o true 4] := by kernel_rfl
noncomputable def C40 := mkC Tryz.prog Tryz.f40 11
theorem C40ok : CCok Tryz.prog Tryz.f40 11 C40 := mkC_ok _
@[go_sem] theorem call40 (a H) : callC Tryz.prog 40 a H = .call 40 a := callC_ok (by kernel_rfl) a H
theorem R40ok : resKs Tryz.prog Tryz.f40.results.toList = some [RK.tmp z.i] := by kernel_rfl
noncomputable def C41 := mkC Tryz.prog Tryz.f41 70
theorem C41ok : CCok Tryz.prog Tryz.f41 70 C41 := mkC_ok _
@[go_sem] theorem call41 (a H) : callC Tryz.prog 41 a H = .call 41 a := callC_ok (by kernel_rfl) a H
theorem R41ok : resKs Tryz.prog Tryz.f41.results.toList = some [RK.tmp z.o.i] := by kernel_rfl
noncomputable def C95 := mkC Tryz.prog Tryz.f95 25
theorem C95ok : CCok Tryz.prog Tryz.f95 25 C95 := mkC_ok _
@[go_sem] theorem call95 (a H) : callC Tryz.prog 95 a H = .call 95 a := callC_ok (by kernel_rfl) a H
theorem R95ok : resKs Tryz.prog Tryz.f95.results.toList = some [RK.cell z.o.i true 6, RK.tmp z.i.o] := by kernel_rfl
noncomputable def C96 := mkC Tryz.prog Tryz.f96 121
theorem C96ok : CCok Tryz.prog Tryz.f96 121 C96 := mkC_ok _
@[go_sem] theorem call96 (a H) : callC Tryz.prog 96 a H = .call 96 a := callC_ok (by kernel_rfl) a H
theorem R96ok : resKs Tryz.prog Tryz.f96.results.toList = some [RK.tmp z.i] := by kernel_rfl
noncomputable def C97 := mkC Tryz.prog Tryz.f97 26
theorem C97ok : CCok Tryz.prog Tryz.f97 26 C97 := mkC_ok _
@[go_sem] theorem call97 (a H) : callC Tryz.prog 97 a H = .call 97 a := callC_ok (by kernel_rfl) a H
theorem R97ok : resKs Tryz.prog Tryz.f97.results.toList = some [RK.cell z.o.i true 5, RK.tmp z.i.o] := by kernel_rfl
noncomputable def C99 := mkC Tryz.prog Tryz.f99 52
theorem C99ok : CCok Tryz.prog Tryz.f99 52 C99 := mkC_ok _
@[go_sem] theorem call99 (a H) : callC Tryz.prog 99 a H = .call 99 a := callC_ok (by kernel_rfl) a H
theorem R99ok : resKs Tryz.prog Tryz.f99.results.toList = some [RK.cell z.o.o.i true 8, RK.cell z.o.i.o true 4] := by kernel_rfl
noncomputable def C102 := mkC Tryz.prog Tryz.f102 81
theorem C102ok : CCok Tryz.prog Tryz.f102 81 C102 := mkC_ok _
@[go_sem] theorem call102 (a H) : callC Tryz.prog 102 a H = .call 102 a := callC_ok (by kernel_rfl) a H
theorem R102ok : resKs Tryz.prog Tryz.f102.results.toList = some [RK.cell z.o.i true 8, RK.cell z.i.o true 4] := by kernel_rfl
noncomputable def C103 := mkC Tryz.prog Tryz.f103 51
theorem C103ok : CCok Tryz.prog Tryz.f103 51 C103 := mkC_ok _
@[go_sem] theorem call103 (a H) : callC Tryz.prog 103 a H = .call 103 a := callC_ok (by kernel_rfl) a H
theorem R103ok : resKs Tryz.prog Tryz.f103.results.toList = some [RK.tmp z.i.i, RK.tmp z.o.o.o] := by kernel_rfl
noncomputable def C155 := mkC Tryz.prog Tryz.f155 11
theorem C155ok : CCok Tryz.prog Tryz.f155 11 C155 := mkC_ok _
@[go_sem] theorem call155 (a H) : callC Tryz.prog 155 a H = .call 155 a := callC_ok (by kernel_rfl) a H
theorem R155ok : resKs Tryz.prog Tryz.f155.results.toList = some [RK.tmp z.i] := by kernel_rfl
noncomputable def C156 := mkC Tryz.prog Tryz.f156 25
theorem C156ok : CCok Tryz.prog Tryz.f156 25 C156 := mkC_ok _
@[go_sem] theorem call156 (a H) : callC Tryz.prog 156 a H = .call 156 a := callC_ok (by kernel_rfl) a H
theorem R156ok : resKs Tryz.prog Tryz.f156.results.toList = some [RK.tmp z.i] := by kernel_rfl
noncomputable def C159 := mkC Tryz.prog Tryz.f159 27
theorem C159ok : CCok Tryz.prog Tryz.f159 27 C159 := mkC_ok _
@[go_sem] theorem call159 (a H) : callC Tryz.prog 159 a H = .call 159 a := callC_ok (by kernel_rfl) a H
theorem R159ok : resKs Tryz.prog Tryz.f159.results.toList = some [RK.cell z.o.i true 5, RK.cell z.i.o true 4, RK.tmp z.i.i] := by kernel_rfl
noncomputable def C160 := mkC Tryz.prog Tryz.f160 21
theorem C160ok : CCok Tryz.prog Tryz.f160 21 C160 := mkC_ok _
@[go_sem] theorem call160 (a H) : callC Tryz.prog 160 a H = .call 160 a := callC_ok (by kernel_rfl) a H
theorem R160ok : resKs Tryz.prog Tryz.f160.results.toList = some [RK.cell z.i.i true 8] := by kernel_rfl
noncomputable def C161 := mkC Tryz.prog Tryz.f161 28
theorem C161ok : CCok Tryz.prog Tryz.f161 28 C161 := mkC_ok _
@[go_sem] theorem call161 (a H) : callC Tryz.prog 161 a H = .call 161 a := callC_ok (by kernel_rfl) a H
theorem R161ok : resKs Tryz.prog Tryz.f161.results.toList = some [RK.tmp z.o.i] := by kernel_rfl
noncomputable def C162 := mkC Tryz.prog Tryz.f162 56
theorem C162ok : CCok Tryz.prog Tryz.f162 56 C162 := mkC_ok _
@[go_sem] theorem call162 (a H) : callC Tryz.prog 162 a H = .call 162 a := callC_ok (by kernel_rfl) a H
theorem R162ok : resKs Tryz.prog Tryz.f162.results.toList = some [RK.tmp z.o.i] := by kernel_rfl
noncomputable def C205 := mkC Tryz.prog Tryz.f205 24
theorem C205ok : CCok Tryz.prog Tryz.f205 24 C205 := mkC_ok _
@[go_sem] theorem call205 (a H) : callC Tryz.prog 205 a H = .call 205 a := callC_ok (by kernel_rfl) a H
theorem R205ok : resKs Tryz.prog Tryz.f205.results.toList = some [RK.cell z.i.i true 5, RK.cell z.o.o.o true 4] := by kernel_rfl
noncomputable def C206 := mkC Tryz.prog Tryz.f206 20
theorem C206ok : CCok Tryz.prog Tryz.f206 20 C206 := mkC_ok _
@[go_sem] theorem call206 (a H) : callC Tryz.prog 206 a H = .call 206 a := callC_ok (by kernel_rfl) a H
theorem R206ok : resKs Tryz.prog Tryz.f206.results.toList = some [RK.tmp z.o.o.i, RK.tmp z.o.i.o] := by kernel_rfl
noncomputable def C207 := mkC Tryz.prog Tryz.f207 44
theorem C207ok : CCok Tryz.prog Tryz.f207 44 C207 := mkC_ok _
@[go_sem] theorem call207 (a H) : callC Tryz.prog 207 a H = .call 207 a := callC_ok (by kernel_rfl) a H
theorem R207ok : resKs Tryz.prog Tryz.f207.results.toList = some [RK.tmp z.i] := by kernel_rfl
end Go.Proofs
namespace Go.Proofs
open Go Go.Ev
variable {H : Heap}
theorem f155_ok (k : List Nat) : FnOk Tryz.prog 155 [.str k] H fun v G => v = .bool (decide (isKey k)) ∧ G = H := by
 refine FnOk.of_WW Tryz.func155 rfl C155ok R155ok E0 good_E0 ?_
 simp only [go_sem, C155]
 have hl : (1 : Int) ≤ (k.length : Int) ↔ ¬ k = [] := by cases k <;> simp; omega
 repeat' (first | apply And.intro | intro _)
 all_goals first | exact Heap.ext_nil H | simp_all [isKey]
theorem f156_ok (f t : List Nat) : FnOk Tryz.prog 156 [.agg [.str f, .str t]] H fun v G => v = .bool (decide (isSpan f t)) ∧ G = H := by
 refine FnOk.drop (R := fun v => v = .bool (decide (isSpan f t))) ?_ (by rintro v rfl ρ; rw [AV.ren])
 refine FnOk.of_WW Tryz.func156 rfl C156ok R156ok E0 good_E0 ?_
 simp only [go_sem, C156, not_leS]
 repeat' (first | apply And.intro | intro _)
 all_goals first | exact ⟨_, rfl⟩ | exact bool_t (by unfold isSpan; grind) | exact bool_f (by unfold isSpan; grind)
theorem f161_ok (f t k : List Nat) : FnOk Tryz.prog 161 [.agg [.str f, .str t], .str k] H fun v G => v = .bool (decide (has f t k)) ∧ G = H := by
 refine FnOk.drop (R := fun v => v = .bool (decide (has f t k))) ?_ (by rintro v rfl ρ; rw [AV.ren])
 refine FnOk.of_WW Tryz.func161 rfl C161ok R161ok E0 good_E0 ?_
 simp only [go_sem, C161]
 refine CL.bool (f156_ok _ _) (fun h1 => ?_) (fun h1 => ?_)
 all_goals simp only [go_sem]
 ·refine CL.bool (f155_ok _) (fun h2 => ?_) (fun h2 => ?_)
  all_goals simp only [go_sem]
  all_goals repeat' (first | apply And.intro | intro _)
  all_goals first | exact ⟨_, rfl⟩ | exact bool_t (by unfold has; grind) | exact bool_f (by unfold has; grind)
 ·exact ⟨bool_f (by unfold has; grind), _, rfl⟩
theorem f207_ok (c : Cell) : FnOk Tryz.prog 207 [.agg c.enc] H fun v G => v = .bool (decide (cellIs c)) ∧ G = H := by
 refine FnOk.drop (R := fun v => v = .bool (decide (cellIs c))) ?_ (by rintro v rfl ρ; rw [AV.ren])
 refine FnOk.of_WW Tryz.func207 rfl C207ok R207ok E0 good_E0 ?_
 obtain ⟨key, value, ver, del, floor⟩ := c
 cases del
 all_goals simp only [go_sem, C207, Cell.enc]
 all_goals refine CL.bool (f155_ok _) (fun h1 => ?_) (fun h1 => ?_)
 all_goals simp only [go_sem]
 all_goals repeat' (first | apply And.intro | intro _)
 all_goals first | exact ⟨_, rfl⟩ | exact bool_t (by unfold cellIs mayBe; grind) | exact bool_f (by unfold cellIs mayBe; grind)
end Go.Proofs
namespace Go.Proofs
open Go Go.Ev
variable {H : Heap}
theorem f97_ok {v : AV} {l : List Cell} (hA : Arr H 5 v (l.map Cell.enc)) (hl : l.length < 4294967296) (key : List Nat) :
  FnOk Tryz.prog 97 [v, .str key] H fun r G => r = .tup [.agg (getL l key).1.enc, .bool (getL l key).2] ∧ G = H := by
 refine FnOk.assume fun hok => ?_
 refine FnOk.drop (R := fun r => r = .tup [.agg (getL l key).1.enc, .bool (getL l key).2]) ?_ (by rintro v rfl ρ; simp only [AV.ren, AV.rens, Cell.rens])
 refine FnOk.of_WW Tryz.func97 rfl C97ok R97ok E0 good_E0 ?_
 rcases hA.forms with ⟨rfl, hnil⟩ | ⟨k, off, ex, cap, rfl, hrho⟩
 ·have hn0 : l.length = 0 := by simpa using hnil
  simp only [go_sem, C97]
  refine LL.st good_E0 (fun i : Nat => l.length - i) (fun i => i ≤ l.length ∧ ∀ x ∈ l.take i, x.key ≠ key)
   (fun i => [(.z, .nils), ((.o .z), .str key), ((.i (.o .z)), .ptr (H.key 0) 0), ((.i (.i .z)), .int .i64 i)])
   (fun i => [.row true 5 [[.str [], .str [], .int .i64 0, .bool false, .int .i64 0]]]) ?_ 0 (σ := [0]) (Wk.mk' rfl (by decide) (by simp only [go_sem, List.length_map, hn0]) (by simp only [go_sem, List.length_map, hn0])) ⟨by omega, by simp⟩
  rintro i ⟨hi, hno⟩
  by_cases hlt : i < l.length
  ·exact absurd hlt (by omega)
  ·have hci : ¬ (i : Int) < (l.length : Int) := by omega
   have := getL_none (l := l) (key := key) (by rw [take_all (by omega)] at hno; exact hno)
   simp only [go_sem, List.length_map, hci, show ¬ (i : Int) < 0 by omega]
   rw [this]
   exact ⟨rfl, _, rfl⟩
 ·simp only [go_sem, C97]
  refine LL.st good_E0 (fun i : Nat => l.length - i) (fun i => i ≤ l.length ∧ ∀ x ∈ l.take i, x.key ≠ key)
   (fun i => [(.z, .slice k off (l.map Cell.enc).length 5 ex cap), ((.o .z), .str key), ((.i (.o .z)), .ptr (H.key 0) 0), ((.i (.i .z)), .int .i64 i)])
   (fun i => [.row true 5 [[.str [], .str [], .int .i64 0, .bool false, .int .i64 0]]]) ?_ 0 (σ := [0]) (Wk.mk' rfl (by decide) (by simp only [go_sem, List.length_map, hrho]) (by simp only [go_sem, List.length_map, hrho])) ⟨by omega, by simp⟩
  rintro i ⟨hi, hno⟩
  by_cases hlt : i < l.length
  ·obtain ⟨kk, r, ex', cap', wr, rows, hv, hk, hg, _, hat⟩ := hA.pick (j := i) (by simpa using hlt)
   have hrow := hat i (by simpa using hlt)
   have hgo := Heap.get_ext_old hok hg
   have hw := wrap_succ (n := i) (by omega)
   have hci : (i : Int) < (l.length : Int) := by omega
   have hsi : i + 1 ≤ l.length := by omega
   have hget : l[i]? = some l[i] := List.getElem?_eq_getElem hlt
   cases hv
   simp only [go_sem, List.length_map, hw, hgo, hrow, hci, hsi, List.getElem?_eq_getElem hlt, Cell.enc]
   refine ⟨fun he => ?_, fun he => ?_⟩
   ·have := getL_at hno hget he
    rw [this]
    exact ⟨rfl, _, rfl⟩
   ·refine ⟨i + 1, by show l.length - (i + 1) < l.length - i; omega, ⟨by omega, ?_⟩, _, [0], rfl, Wk.mk' rfl (by decide) (by simp only [go_sem, hrho, List.length_map]) (by simp only [go_sem, hrho, List.length_map])⟩
    rw [take_next hget]
    intro x hx
    rcases List.mem_append.1 hx with h | h
    ·exact hno x h
    ·simp only [List.mem_singleton] at h; subst h; exact he
  ·have hci : ¬ (i : Int) < (l.length : Int) := by omega
   have := getL_none (l := l) (key := key) (by rw [take_all (by omega)] at hno; exact hno)
   simp only [go_sem, List.length_map, hci]
   rw [this]
   exact ⟨rfl, _, rfl⟩
end Go.Proofs
namespace Go.Proofs
open Go Go.Ev
variable {H : Heap}
theorem f162_yes {v : AV} {l : List Cell} (hA : Arr H 5 v (l.map Cell.enc)) (hl : l.length < 4294967295) {c : Cell} (hc : cellIs c) :
  FnOk Tryz.prog 162 [v, .agg c.enc] H fun r G => r = outV H.nx 5 (refW l c).length ∧ G = H.ext (outL 5 ((refW l c).map Cell.enc)) := by
 refine FnOk.assume fun hok => ?_
 rw [show (refW l c).length = ((refW l c).map Cell.enc).length from (List.length_map ..).symm]
 refine FnOk.dropV (Cell.map_rens · _) ?_
 rw [List.length_map]
 refine FnOk.of_WW Tryz.func162 rfl C162ok R162ok E0 good_E0 ?_
 rcases hA.forms with ⟨rfl, hnil⟩ | ⟨k, off, ex, cap, rfl, hrho⟩
 ·have hn0 : l.length = 0 := by simpa using hnil
  simp only [go_sem, C162, Cell.enc]
  refine CL.bool (f207_ok c) (fun h1 => ?_) (fun h1 => absurd hc h1)
  simp only [go_sem]
  refine LL.st good_E0 (fun i : Nat => l.length - i) (fun i => i ≤ l.length)
   (fun i => [(.z, .nils), ((.o (.o .z)), .ptr (H.key 0) 0), ((.o (.i .z)), outV (H.key 1) 5 (runW c (l.take i)).1.length), ((.i (.i .z)), .bool (runW c (l.take i)).2), ((.o (.o (.o .z))), .int .i64 i)])
   (fun i => [.row true 5 [c.enc], outB 5 ((runW c (l.take i)).1.map Cell.enc)]) ?_ 0 (σ := [0, 1]) (Wk.mk' rfl (by decide) (by simp only [go_sem, List.length_map, hn0, runW, List.foldl_nil, Cell.enc]) (by simp only [go_sem, List.length_map, hn0, runW, List.foldl_nil, Cell.enc])) (by omega)
  rintro i hi
  have hlen := runW_len c l i hi
  by_cases hlt : i < l.length
  ·exact absurd hlt (by omega)
  ·have hci : ¬ (i : Int) < (l.length : Int) := by omega
   rw [take_all (by omega)]
   have hmx1 : (2 * (1 + 1) + 192) * 56 ≤ 281474976710656 := by decide
   rw [take_all (by omega)] at hlen
   rcases hx : runW c l with ⟨_ | ⟨x, xs⟩, _ | _⟩
   ·have hrf : refW l c = [c] := by rw [refW, hx]; rfl
    simp only [go_sem, List.length_map, hci, show ¬ (i : Int) < 0 by omega, hmx1, Cell.enc]
    rw [hrf]
    exact ⟨_, 3, rfl, rfl, rfl⟩
   ·have hrf : refW l c = [] := by rw [refW, hx]; rfl
    simp only [go_sem, List.length_map, hci, show ¬ (i : Int) < 0 by omega, hmx1, Cell.enc]
    rw [hrf]
    exact ⟨_, 1, rfl, rfl, rfl⟩
   ·have hrf : refW l c = x :: (xs ++ [c]) := by rw [refW, hx]; rfl
    have hfull : ¬ xs.length + 1 ≤ xs.length := by omega
    have hfull2 : ¬ xs.length + 1 + 1 ≤ xs.length + 1 := by omega
    have htk : List.take xs.length (xs.map Cell.enc) = xs.map Cell.enc := List.take_of_length_le (by simp)
    have htk2 : ∀ e : List AV, List.take (xs.length + 1) (xs.map Cell.enc ++ [e]) = xs.map Cell.enc ++ [e] := fun e => List.take_of_length_le (by simp)
    have hself : xs.length ≤ xs.length := Nat.le_refl _
    have hself2 : xs.length + 1 ≤ xs.length + 1 := Nat.le_refl _
    have h5 : xs.length < 4294967296 := by rw [hx] at hlen; simp only [List.length_cons] at hlen; omega
    have hmx : (2 * (xs.length + 1 + 1) + 192) * 56 ≤ 281474976710656 := mx56 h5
    have hmx2 : (2 * (xs.length + 1 + 1 + 1) + 192) * 56 ≤ 281474976710656 := mx56b h5
    simp only [go_sem, List.length_map, hci, show ¬ (i : Int) < 0 by omega, hmx1, hfull, htk, hself, hmx, Cell.enc]
    rw [hrf]
    refine ⟨_, 3, ?_, rfl, ?_⟩
    ·simp only [go_sem]
    ·simp only [go_sem, Cell.enc]
   ·have hrf : refW l c = x :: xs := by rw [refW, hx]; rfl
    simp only [go_sem, List.length_map, hci, show ¬ (i : Int) < 0 by omega, hmx1, Cell.enc]
    rw [hrf]
    exact ⟨_, 1, rfl, rfl, rfl⟩
 ·simp only [go_sem, C162, Cell.enc]
  refine CL.bool (f207_ok c) (fun h1 => ?_) (fun h1 => absurd hc h1)
  simp only [go_sem]
  refine LL.st good_E0 (fun i : Nat => l.length - i) (fun i => i ≤ l.length)
   (fun i => [(.z, .slice k off (l.map Cell.enc).length 5 ex cap), ((.o (.o .z)), .ptr (H.key 0) 0), ((.o (.i .z)), outV (H.key 1) 5 (runW c (l.take i)).1.length), ((.i (.i .z)), .bool (runW c (l.take i)).2), ((.o (.o (.o .z))), .int .i64 i)])
   (fun i => [.row true 5 [c.enc], outB 5 ((runW c (l.take i)).1.map Cell.enc)]) ?_ 0 (σ := [0, 1]) (Wk.mk' rfl (by decide) (by simp only [go_sem, List.length_map, hrho, runW, List.foldl_nil, Cell.enc]) (by simp only [go_sem, List.length_map, hrho, runW, List.foldl_nil, Cell.enc])) (by omega)
  rintro i hi
  have hlen := runW_len c l i hi
  by_cases hlt : i < l.length
  ·obtain ⟨kk, r, ex', cap', wr, rows, hv, hk, hg, _, hat⟩ := hA.pick (j := i) (by simpa using hlt)
   have hrow := hat i (by simpa using hlt)
   have hgo := Heap.get_ext_old hok hg
   have hw := wrap_succ (n := i) (by omega)
   have hci : (i : Int) < (l.length : Int) := by omega
   have hsi : i + 1 ≤ l.length := by omega
   have hget : l[i]? = some l[i] := List.getElem?_eq_getElem hlt
   cases hv
   have hmx1 : (2 * (1 + 1) + 192) * 56 ≤ 281474976710656 := by decide
   rcases hx : runW c (l.take i) with ⟨_ | ⟨x, xs⟩, _ | _⟩
   ·simp only [go_sem, List.length_map, hw, hgo, hrow, hci, hsi, List.getElem?_eq_getElem hlt, Cell.enc, hmx1]
    refine ⟨fun h2 => ⟨fun h3 => ?_, fun h3 => ?_⟩, fun h2 => ⟨fun h3 => ?_, fun h3 => ?_⟩⟩
    ·have h3' : ¬ l[i].key = c.key := h3
     have h2' : ¬ ltS l[i].key c.key := h2
     have hnew : runW c (l.take (i + 1)) = ([c, l[i]], true) := by rw [runW_next hget, hx]; simp [stepW, h3', h2']
     try simp only [go_sem, List.length_map, hw, hgo, hrow, hci, hsi, List.getElem?_eq_getElem hlt, Cell.enc, hmx1]
     refine ⟨i + 1, by show l.length - (i + 1) < l.length - i; omega, ?_, _, [0, 5], rfl, Wk.mk' rfl (by decide) (by simp only [go_sem, hrho, List.length_map, Cell.map_rens, Cell.enc, hnew]) (by simp only [go_sem, hrho, List.length_map, Cell.map_rens, Cell.enc, hnew])⟩
     omega
    ·have h3' : l[i].key = c.key := Classical.not_not.1 h3
     have h2' : ¬ ltS l[i].key c.key := h2
     have hnew : runW c (l.take (i + 1)) = ([c], true) := by rw [runW_next hget, hx]; simp [stepW, h3', ltS_irrefl]
     try simp only [go_sem, List.length_map, hw, hgo, hrow, hci, hsi, List.getElem?_eq_getElem hlt, Cell.enc, hmx1]
     refine ⟨i + 1, by show l.length - (i + 1) < l.length - i; omega, ?_, _, [0, 3], rfl, Wk.mk' rfl (by decide) (by simp only [go_sem, hrho, List.length_map, Cell.map_rens, Cell.enc, hnew]) (by simp only [go_sem, hrho, List.length_map, Cell.map_rens, Cell.enc, hnew])⟩
     omega
    ·have h3' : ¬ l[i].key = c.key := h3
     have h2' : ltS l[i].key c.key := Classical.not_not.1 h2
     have hnew : runW c (l.take (i + 1)) = ([l[i]], false) := by rw [runW_next hget, hx]; simp [stepW, h3', h2']
     try simp only [go_sem, List.length_map, hw, hgo, hrow, hci, hsi, List.getElem?_eq_getElem hlt, Cell.enc, hmx1]
     refine ⟨i + 1, by show l.length - (i + 1) < l.length - i; omega, ?_, _, [0, 3], rfl, Wk.mk' rfl (by decide) (by simp only [go_sem, hrho, List.length_map, Cell.map_rens, Cell.enc, hnew]) (by simp only [go_sem, hrho, List.length_map, Cell.map_rens, Cell.enc, hnew])⟩
     omega
    ·have h3' : l[i].key = c.key := Classical.not_not.1 h3
     have h2' : ltS l[i].key c.key := Classical.not_not.1 h2
     exact absurd h2' (by rw [h3']; exact ltS_irrefl _)
   ·simp only [go_sem, List.length_map, hw, hgo, hrow, hci, hsi, List.getElem?_eq_getElem hlt, Cell.enc, hmx1]
    refine ⟨fun h3 => ?_, fun h3 => ?_⟩
    ·have h3' : ¬ l[i].key = c.key := h3
     have hnew : runW c (l.take (i + 1)) = ([l[i]], true) := by rw [runW_next hget, hx]; simp [stepW, h3']
     try simp only [go_sem, List.length_map, hw, hgo, hrow, hci, hsi, List.getElem?_eq_getElem hlt, Cell.enc, hmx1]
     refine ⟨i + 1, by show l.length - (i + 1) < l.length - i; omega, ?_, _, [0, 3], rfl, Wk.mk' rfl (by decide) (by simp only [go_sem, hrho, List.length_map, Cell.map_rens, Cell.enc, hnew]) (by simp only [go_sem, hrho, List.length_map, Cell.map_rens, Cell.enc, hnew])⟩
     omega
    ·have h3' : l[i].key = c.key := Classical.not_not.1 h3
     have hnew : runW c (l.take (i + 1)) = ([], true) := by rw [runW_next hget, hx]; simp [stepW, h3']
     try simp only [go_sem, List.length_map, hw, hgo, hrow, hci, hsi, List.getElem?_eq_getElem hlt, Cell.enc, hmx1]
     refine ⟨i + 1, by show l.length - (i + 1) < l.length - i; omega, ?_, _, [0, 1], rfl, Wk.mk' rfl (by decide) (by simp only [go_sem, hrho, List.length_map, Cell.map_rens, Cell.enc, hnew]) (by simp only [go_sem, hrho, List.length_map, Cell.map_rens, Cell.enc, hnew])⟩
     omega
   ·have hfull : ¬ xs.length + 1 ≤ xs.length := by omega
    have hfull2 : ¬ xs.length + 1 + 1 ≤ xs.length + 1 := by omega
    have htk : List.take xs.length (xs.map Cell.enc) = xs.map Cell.enc := List.take_of_length_le (by simp)
    have htk2 : ∀ e : List AV, List.take (xs.length + 1) (xs.map Cell.enc ++ [e]) = xs.map Cell.enc ++ [e] := fun e => List.take_of_length_le (by simp)
    have hself : xs.length ≤ xs.length := Nat.le_refl _
    have hself2 : xs.length + 1 ≤ xs.length + 1 := Nat.le_refl _
    have h5 : xs.length < 4294967296 := by rw [hx] at hlen; simp only [List.length_cons] at hlen; omega
    have hmx : (2 * (xs.length + 1 + 1) + 192) * 56 ≤ 281474976710656 := mx56 h5
    have hmx2 : (2 * (xs.length + 1 + 1 + 1) + 192) * 56 ≤ 281474976710656 := mx56b h5
    simp only [go_sem, List.length_map, hw, hgo, hrow, hci, hsi, List.getElem?_eq_getElem hlt, Cell.enc, hmx1, hfull, hfull2, htk, htk2, hself, hself2, hmx, hmx2]
    refine ⟨fun h2 => ⟨fun h3 => ?_, fun h3 => ?_⟩, fun h2 => ⟨fun h3 => ?_, fun h3 => ?_⟩⟩
    ·have h3' : ¬ l[i].key = c.key := h3
     have h2' : ¬ ltS l[i].key c.key := h2
     have hnew : runW c (l.take (i + 1)) = (x :: (xs ++ [c] ++ [l[i]]), true) := by rw [runW_next hget, hx]; simp [stepW, h3', h2']
     try simp only [go_sem, List.length_map, hw, hgo, hrow, hci, hsi, List.getElem?_eq_getElem hlt, Cell.enc, hmx1, hfull, hfull2, htk, htk2, hself, hself2, hmx, hmx2]
     refine ⟨i + 1, by show l.length - (i + 1) < l.length - i; omega, ?_, _, [0, 5], rfl, Wk.mk' rfl (by decide) (by simp only [go_sem, hrho, List.length_map, Cell.map_rens, Cell.enc, hnew]) (by simp only [go_sem, hrho, List.length_map, Cell.map_rens, Cell.enc, hnew])⟩
     omega
    ·have h3' : l[i].key = c.key := Classical.not_not.1 h3
     have h2' : ¬ ltS l[i].key c.key := h2
     have hnew : runW c (l.take (i + 1)) = (x :: (xs ++ [c]), true) := by rw [runW_next hget, hx]; simp [stepW, h3', ltS_irrefl]
     try simp only [go_sem, List.length_map, hw, hgo, hrow, hci, hsi, List.getElem?_eq_getElem hlt, Cell.enc, hmx1, hfull, hfull2, htk, htk2, hself, hself2, hmx, hmx2]
     refine ⟨i + 1, by show l.length - (i + 1) < l.length - i; omega, ?_, _, [0, 3], rfl, Wk.mk' rfl (by decide) (by simp only [go_sem, hrho, List.length_map, Cell.map_rens, Cell.enc, hnew]) (by simp only [go_sem, hrho, List.length_map, Cell.map_rens, Cell.enc, hnew])⟩
     omega
    ·have h3' : ¬ l[i].key = c.key := h3
     have h2' : ltS l[i].key c.key := Classical.not_not.1 h2
     have hnew : runW c (l.take (i + 1)) = (x :: (xs ++ [l[i]]), false) := by rw [runW_next hget, hx]; simp [stepW, h3', h2']
     try simp only [go_sem, List.length_map, hw, hgo, hrow, hci, hsi, List.getElem?_eq_getElem hlt, Cell.enc, hmx1, hfull, hfull2, htk, htk2, hself, hself2, hmx, hmx2]
     refine ⟨i + 1, by show l.length - (i + 1) < l.length - i; omega, ?_, _, [0, 3], rfl, Wk.mk' rfl (by decide) (by simp only [go_sem, hrho, List.length_map, Cell.map_rens, Cell.enc, hnew]) (by simp only [go_sem, hrho, List.length_map, Cell.map_rens, Cell.enc, hnew])⟩
     omega
    ·have h3' : l[i].key = c.key := Classical.not_not.1 h3
     have h2' : ltS l[i].key c.key := Classical.not_not.1 h2
     exact absurd h2' (by rw [h3']; exact ltS_irrefl _)
   ·have hfull : ¬ xs.length + 1 ≤ xs.length := by omega
    have hfull2 : ¬ xs.length + 1 + 1 ≤ xs.length + 1 := by omega
    have htk : List.take xs.length (xs.map Cell.enc) = xs.map Cell.enc := List.take_of_length_le (by simp)
    have htk2 : ∀ e : List AV, List.take (xs.length + 1) (xs.map Cell.enc ++ [e]) = xs.map Cell.enc ++ [e] := fun e => List.take_of_length_le (by simp)
    have hself : xs.length ≤ xs.length := Nat.le_refl _
    have hself2 : xs.length + 1 ≤ xs.length + 1 := Nat.le_refl _
    have h5 : xs.length < 4294967296 := by rw [hx] at hlen; simp only [List.length_cons] at hlen; omega
    have hmx : (2 * (xs.length + 1 + 1) + 192) * 56 ≤ 281474976710656 := mx56 h5
    have hmx2 : (2 * (xs.length + 1 + 1 + 1) + 192) * 56 ≤ 281474976710656 := mx56b h5
    simp only [go_sem, List.length_map, hw, hgo, hrow, hci, hsi, List.getElem?_eq_getElem hlt, Cell.enc, hmx1, hfull, hfull2, htk, htk2, hself, hself2, hmx, hmx2]
    refine ⟨fun h3 => ?_, fun h3 => ?_⟩
    ·have h3' : ¬ l[i].key = c.key := h3
     have hnew : runW c (l.take (i + 1)) = (x :: (xs ++ [l[i]]), true) := by rw [runW_next hget, hx]; simp [stepW, h3']
     try simp only [go_sem, List.length_map, hw, hgo, hrow, hci, hsi, List.getElem?_eq_getElem hlt, Cell.enc, hmx1, hfull, hfull2, htk, htk2, hself, hself2, hmx, hmx2]
     refine ⟨i + 1, by show l.length - (i + 1) < l.length - i; omega, ?_, _, [0, 3], rfl, Wk.mk' rfl (by decide) (by simp only [go_sem, hrho, List.length_map, Cell.map_rens, Cell.enc, hnew]) (by simp only [go_sem, hrho, List.length_map, Cell.map_rens, Cell.enc, hnew])⟩
     omega
    ·have h3' : l[i].key = c.key := Classical.not_not.1 h3
     have hnew : runW c (l.take (i + 1)) = (x :: xs, true) := by rw [runW_next hget, hx]; simp [stepW, h3']
     try simp only [go_sem, List.length_map, hw, hgo, hrow, hci, hsi, List.getElem?_eq_getElem hlt, Cell.enc, hmx1, hfull, hfull2, htk, htk2, hself, hself2, hmx, hmx2]
     refine ⟨i + 1, by show l.length - (i + 1) < l.length - i; omega, ?_, _, [0, 1], rfl, Wk.mk' rfl (by decide) (by simp only [go_sem, hrho, List.length_map, Cell.map_rens, Cell.enc, hnew]) (by simp only [go_sem, hrho, List.length_map, Cell.map_rens, Cell.enc, hnew])⟩
     omega
  ·have hci : ¬ (i : Int) < (l.length : Int) := by omega
   rw [take_all (by omega)]
   have hmx1 : (2 * (1 + 1) + 192) * 56 ≤ 281474976710656 := by decide
   rw [take_all (by omega)] at hlen
   rcases hx : runW c l with ⟨_ | ⟨x, xs⟩, _ | _⟩
   ·have hrf : refW l c = [c] := by rw [refW, hx]; rfl
    simp only [go_sem, List.length_map, hci, hmx1, Cell.enc]
    rw [hrf]
    exact ⟨_, 3, rfl, rfl, rfl⟩
   ·have hrf : refW l c = [] := by rw [refW, hx]; rfl
    simp only [go_sem, List.length_map, hci, hmx1, Cell.enc]
    rw [hrf]
    exact ⟨_, 1, rfl, rfl, rfl⟩
   ·have hrf : refW l c = x :: (xs ++ [c]) := by rw [refW, hx]; rfl
    have hfull : ¬ xs.length + 1 ≤ xs.length := by omega
    have hfull2 : ¬ xs.length + 1 + 1 ≤ xs.length + 1 := by omega
    have htk : List.take xs.length (xs.map Cell.enc) = xs.map Cell.enc := List.take_of_length_le (by simp)
    have htk2 : ∀ e : List AV, List.take (xs.length + 1) (xs.map Cell.enc ++ [e]) = xs.map Cell.enc ++ [e] := fun e => List.take_of_length_le (by simp)
    have hself : xs.length ≤ xs.length := Nat.le_refl _
    have hself2 : xs.length + 1 ≤ xs.length + 1 := Nat.le_refl _
    have h5 : xs.length < 4294967296 := by rw [hx] at hlen; simp only [List.length_cons] at hlen; omega
    have hmx : (2 * (xs.length + 1 + 1) + 192) * 56 ≤ 281474976710656 := mx56 h5
    have hmx2 : (2 * (xs.length + 1 + 1 + 1) + 192) * 56 ≤ 281474976710656 := mx56b h5
    simp only [go_sem, List.length_map, hci, hmx1, hfull, htk, hself, hmx, Cell.enc]
    rw [hrf]
    refine ⟨_, 3, ?_, rfl, ?_⟩
    ·simp only [go_sem]
    ·simp only [go_sem, Cell.enc]
   ·have hrf : refW l c = x :: xs := by rw [refW, hx]; rfl
    simp only [go_sem, List.length_map, hci, hmx1, Cell.enc]
    rw [hrf]
    exact ⟨_, 1, rfl, rfl, rfl⟩
end Go.Proofs
namespace Go.Proofs
open Go Go.Ev
variable {H : Heap}
theorem f95_ok {v : AV} {l : List Dn} (hA : Arr H 6 v (l.map Dn.enc)) (ha : allOk H l) (hl : l.length < 9223372036854775807) (s : Int) :
  FnOk Tryz.prog 95 [v, .int .i64 s] H fun r G => r = .tup [.agg (foundD (findD l s)).enc, .bool (findD l s).isSome] ∧ G = H := by
 refine FnOk.assume fun hok => ?_
 refine FnOk.dropOld (R := fun r => r = .tup [.agg (foundD (findD l s)).enc, .bool (findD l s).isSome]) ?_ ?_
 ·refine FnOk.of_WW Tryz.func95 rfl C95ok R95ok E0 good_E0 ?_
  have hlen := fun G => hA.len G; simp only [List.length_map] at hlen; have hren := hA.ren
  simp only [go_sem, C95, hlen]
  refine LL.st good_E0 (fun i : Nat => l.length - i) (fun i => i ≤ l.length ∧ ∀ j d, j < i → l[j]? = some d → ¬ d.ses = s)
   (fun i => [(.z, v), ((.o .z), .int .i64 s), ((.i (.o .z)), .ptr (H.key 0) 0), ((.i (.i .z)), .int .i64 i)]) (fun i => [.row true 6 [[.int .i64 0, .int .i64 0, .int .i64 0, .str [], .int .i64 0, .nils]]]) ?_ 0 (σ := [0]) (Wk.of rfl (by decide) (by simp only [go_sem, hren]) (by simp only [go_sem])) ⟨Nat.zero_le _, fun j d h => absurd h (Nat.not_lt_zero _)⟩
  rintro i ⟨hi, hno⟩
  by_cases hlt : i < l.length
  ·obtain ⟨kk, r, ex', cap', wr, rows, hv, hrho, hgo, hrow⟩ := hA.at hok (j := i) (by rw [List.length_map]; exact hlt); simp only [List.length_map, List.getElem_map] at hv hrow; cases hv; have hget : l[i]? = some l[i] := List.getElem?_eq_getElem hlt; generalize l[i] = c at hrow hget; have hw := wrap_succ (n := i) (by omega); have hci : (i : Int) < (l.length : Int) := (by omega); have hsi : i + 1 ≤ l.length := (by omega)
   simp only [go_sem, hci, hsi, hgo, hrow, hw, hlen, Dn.enc]
   refine ⟨fun g => ?_, fun g => ?_⟩
   ·rw [findD_first hget g hno]
    exact ⟨rfl, _, rfl⟩
   ·refine ⟨i + 1, by show l.length - (i + 1) < l.length - i; omega, ⟨by omega, fun j d hj hd => ?_⟩, _, [0], rfl, Wk.of rfl (by decide) (by simp only [go_sem, hren, hrho, hw, wrap01]) (by simp only [go_sem])⟩
    rcases Nat.lt_or_ge j i with h | h
    ·exact hno j d h hd
    ·obtain rfl : j = i := by omega
     rw [hget] at hd; cases hd; exact g
  ·have hci : ¬ (i : Int) < (l.length : Int) := by omega
   have hnone : findD l s = none := findD_none fun d hd => by
    obtain ⟨j, hj⟩ := List.mem_iff_getElem?.1 hd
    exact hno j d (by have := (List.getElem?_eq_some_iff.1 hj).1; omega) hj
   simp only [go_sem, hci, hlen, hnone]
   exact ⟨rfl, _, rfl⟩
 ·rintro _ rfl top σ
  have : (foundD (findD l s)).an.ok H := by
   cases h : findD l s with
   | none => exact zeroA_ok
   | some d => exact ha d (findD_mem h).1
  simp only [AV.ren, AV.rens, Dn.ren1 this]
end Go.Proofs
namespace Go.Proofs
open Go Go.Ev
variable {H : Heap}
theorem f41_with {v : AV} {l : List Dn} {d : Dn} (hA : Arr H 6 v (l.map Dn.enc)) (ha : allOk H l) (hd : d.an.ok H) (hup : upD l) (hl : l.length < 100000) (hk : ¬ keepsD l d) :
  FnOk Tryz.prog 41 [v, .agg d.enc] H fun r G => r = outV H.nx 6 (withD l d).length ∧ G = H.ext [outB 6 ((withD l d).map Dn.enc)] := by
 refine FnOk.assume fun hok => ?_
 refine FnOk.dropO' (List.length_map ..) (withD_ok ha hd).rens ?_
 refine FnOk.of_WW Tryz.func41 rfl C41ok R41ok E0 good_E0 ?_
 have hlen := fun G => hA.len G; simp only [List.length_map] at hlen; have hren := hA.ren
 have hdren := hd.ren
 have hap : ∀ i, allOk H (l.take i) := fun i c hc => ha c (List.mem_of_mem_take hc)
 have hend := withD_end hup hk
 have hacc0 : accR [] d = [] := rfl
 have hany0 : anyGe [] d = false := rfl
 simp only [go_sem, C41, Dn.enc]
 refine CL.of (f95_ok (hA.ext _) (ha.ext _) (by omega) d.ses) ?_
 rintro _ _ ⟨rfl, rfl⟩
 have hgt : (findD l d.ses).isSome = true → ¬ d.id < (foundD (findD l d.ses)).id := fun h g => by
  obtain ⟨x, hx⟩ := Option.isSome_iff_exists.1 h
  rw [hx] at g
  exact hk ⟨x, hx, g⟩
 generalize foundD (findD l d.ses) = x at *
 have hgt2 : ∀ b, (findD l d.ses).isSome = b → (b = true → ¬ d.id < x.id) := fun b h g => hgt (h.trans g)
 generalize (findD l d.ses).isSome = b at *
 cases b
 rotate_left
 ·have hgt' := hgt rfl
  simp only [go_sem, Dn.enc, hgt']
  refine LL.st good_E0 (fun i : Nat => l.length - i) (fun i => i ≤ l.length)
   (fun i => [(.z, v), ((.o (.o .z)), .ptr (H.key 0) 0), ((.o (.o (.o .z))), outV (H.key 1) 6 (accR (l.take i) d).length), ((.i (.o (.o .z))), .bool (anyGe (l.take i) d)), ((.o (.i (.o .z))), .int .i64 i)])
   (fun i => [.row true 6 [[.int .i64 d.ses, .int .i64 d.id, .int .i64 d.an.code, .str d.an.val, .int .i64 d.an.ver, d.an.rv]], outB 6 ((accR (l.take i) d).map Dn.enc)]) ?_ 0 (σ := [0, 1]) (Wk.of rfl (by decide) (by simp only [go_sem, hren, outV_ren', hacc0, hany0]) (by simp only [go_sem, hacc0, hdren, ↓outB_ren', implies_true])) (Nat.zero_le _)
  rintro i hi
  have hoi := accR_ok (hap i) hd
  have hln := accR_len (l := l.take i) (d := d)
  rw [List.length_take] at hln
  by_cases hlt : i < l.length
  ·obtain ⟨kk, r, ex', cap', wr, rows, hv, hrho, hgo, hrow⟩ := hA.at hok (j := i) (by rw [List.length_map]; exact hlt); simp only [List.length_map, List.getElem_map] at hv hrow; cases hv; have hget : l[i]? = some l[i] := List.getElem?_eq_getElem hlt; generalize l[i] = c at hrow hget; have hw := wrap_succ (n := i) (by omega); have hci : (i : Int) < (l.length : Int) := (by omega); have hsi : i + 1 ≤ l.length := (by omega)
   have hco := ha c (List.mem_of_getElem? hget)
   have htk := take_snoc hget
   have hoi2 := (accR_ok (hap (i + 1)) hd).rens
   rw [htk] at hoi2
   have hrise := rise_take (d := d) hup hget
   cases hany : anyGe (l.take i) d
   ·by_cases hge : d.ses ≤ c.ses
    ·obtain ⟨n1, n2, n3⟩ := accR_now hany hge
     by_cases hne : c.ses = d.ses
     ·have hnew := n3 hne
      rw [hnew] at hoi2
      have hneT := eq_true hne
      simp only [go_sem, ↓appR_hide, hlen, hci, hsi, hgo, hrow, hw, hge, hany, hneT, Dn.enc]
      refine RW_app _ [.int .i64 d.ses, .int .i64 d.id, .int .i64 d.an.code, .str d.an.val, .int .i64 d.an.ver, d.an.rv] rfl (List.length_map ..) rfl (okBig_le (by omega) (by decide)) ?_
      simp only [go_sem, ↓appR_hide, hlen, hci, hsi, hgo, hrow, hw, hneT, Dn.enc]
      rw [show outB 6 ((accR (l.take i) d).map Dn.enc ++ [[.int .i64 d.ses, .int .i64 d.id, .int .i64 d.an.code, .str d.an.val, .int .i64 d.an.ver, d.an.rv]]) = outB 6 ((accR (l.take i) d ++ [d]).map Dn.enc) by rw [List.map_append]; rfl]
      exact ⟨i + 1, by show l.length - (i + 1) < l.length - i; omega, by show i + 1 ≤ l.length; omega, _, [0, 3], rfl, Wk.of rfl (by decide) (by simp only [go_sem, outV_ren', hrho, htk, hnew, n1, hany]) (by simp only [go_sem, ↓outB_ren', htk, hnew, hdren, hoi.rens, Dn.ren1 hd, Dn.ren1 hco, implies_true])⟩
     ·have hnew := n2 hne
      rw [hnew] at hoi2
      simp only [go_sem, ↓appR_hide, hlen, hci, hsi, hgo, hrow, hw, hge, hany, hne, Dn.enc]
      refine RW_app _ [.int .i64 d.ses, .int .i64 d.id, .int .i64 d.an.code, .str d.an.val, .int .i64 d.an.ver, d.an.rv] rfl (List.length_map ..) rfl (okBig_le (by omega) (by decide)) ?_
      simp only [go_sem, ↓appR_hide, hlen, hci, hsi, hgo, hrow, hw, hne, Dn.enc]
      refine RW_app (n := (accR (l.take i) d).length + 1) ((accR (l.take i) d).map Dn.enc ++ [[.int .i64 d.ses, .int .i64 d.id, .int .i64 d.an.code, .str d.an.val, .int .i64 d.an.ver, d.an.rv]]) [.int .i64 c.ses, .int .i64 c.id, .int .i64 c.an.code, .str c.an.val, .int .i64 c.an.ver, c.an.rv] rfl (by rw [List.length_append, List.length_map]; rfl) rfl (okBig_le (by omega) (by decide)) ?_
      simp only [go_sem, ↓appR_hide, hlen, hci, hsi, hgo, hrow, hw, hne, Dn.enc]
      rw [show outB 6 ((accR (l.take i) d).map Dn.enc ++ [[.int .i64 d.ses, .int .i64 d.id, .int .i64 d.an.code, .str d.an.val, .int .i64 d.an.ver, d.an.rv]] ++ [[.int .i64 c.ses, .int .i64 c.id, .int .i64 c.an.code, .str c.an.val, .int .i64 c.an.ver, c.an.rv]]) = outB 6 ((accR (l.take i) d ++ [d] ++ [c]).map Dn.enc) by rw [List.map_append, List.map_append]; rfl]
      exact ⟨i + 1, by show l.length - (i + 1) < l.length - i; omega, by show i + 1 ≤ l.length; omega, _, [0, 5], rfl, Wk.of rfl (by decide) (by simp only [go_sem, outV_ren', hrho, htk, hnew, n1, hany]) (by simp only [go_sem, ↓outB_ren', htk, hnew, hdren, hoi.rens, Dn.ren1 hd, Dn.ren1 hco, implies_true])⟩
    ·obtain ⟨n1, hnew⟩ := accR_lo hany hge
     rw [hnew] at hoi2
     have hne : ¬ c.ses = d.ses := by omega
     simp only [go_sem, ↓appR_hide, hlen, hci, hsi, hgo, hrow, hw, hge, hany, hne, Dn.enc]
     refine RW_app _ [.int .i64 c.ses, .int .i64 c.id, .int .i64 c.an.code, .str c.an.val, .int .i64 c.an.ver, c.an.rv] rfl (List.length_map ..) rfl (okBig_le (by omega) (by decide)) ?_
     simp only [go_sem, ↓appR_hide, hlen, hci, hsi, hgo, hrow, hw, hne, Dn.enc]
     rw [show outB 6 ((accR (l.take i) d).map Dn.enc ++ [[.int .i64 c.ses, .int .i64 c.id, .int .i64 c.an.code, .str c.an.val, .int .i64 c.an.ver, c.an.rv]]) = outB 6 ((accR (l.take i) d ++ [c]).map Dn.enc) by rw [List.map_append]; rfl]
     exact ⟨i + 1, by show l.length - (i + 1) < l.length - i; omega, by show i + 1 ≤ l.length; omega, _, [0, 3], rfl, Wk.of rfl (by decide) (by simp only [go_sem, outV_ren', hrho, htk, hnew, n1, hany]) (by simp only [go_sem, ↓outB_ren', htk, hnew, hdren, hoi.rens, Dn.ren1 hd, Dn.ren1 hco, implies_true])⟩
   ·obtain ⟨n1, hnew⟩ := accR_hi (c := c) hany
    rw [hnew] at hoi2
    have hne := hrise hany
    simp only [go_sem, ↓appR_hide, hlen, hci, hsi, hgo, hrow, hw, hany, hne, Dn.enc]
    refine RW_app _ [.int .i64 c.ses, .int .i64 c.id, .int .i64 c.an.code, .str c.an.val, .int .i64 c.an.ver, c.an.rv] rfl (List.length_map ..) rfl (okBig_le (by omega) (by decide)) ?_
    simp only [go_sem, ↓appR_hide, hlen, hci, hsi, hgo, hrow, hw, hne, Dn.enc]
    rw [show outB 6 ((accR (l.take i) d).map Dn.enc ++ [[.int .i64 c.ses, .int .i64 c.id, .int .i64 c.an.code, .str c.an.val, .int .i64 c.an.ver, c.an.rv]]) = outB 6 ((accR (l.take i) d ++ [c]).map Dn.enc) by rw [List.map_append]; rfl]
    exact ⟨i + 1, by show l.length - (i + 1) < l.length - i; omega, by show i + 1 ≤ l.length; omega, _, [0, 3], rfl, Wk.of rfl (by decide) (by simp only [go_sem, outV_ren', hrho, htk, hnew, n1, hany]) (by simp only [go_sem, ↓outB_ren', htk, hnew, hdren, hoi.rens, Dn.ren1 hd, Dn.ren1 hco, implies_true])⟩
  ·have hci : ¬ (i : Int) < (l.length : Int) := by omega
   have htk : l.take i = l := List.take_of_length_le (by omega)
   rw [htk] at hoi hln ⊢
   cases hany : anyGe l d
   ·have hnew := hend.2 hany
    simp only [go_sem, ↓appR_hide, hlen, hci, hany, Dn.enc]
    refine RW_app _ [.int .i64 d.ses, .int .i64 d.id, .int .i64 d.an.code, .str d.an.val, .int .i64 d.an.ver, d.an.rv] rfl (List.length_map ..) rfl (okBig_le (by omega) (by decide)) ?_
    simp only [go_sem, ↓appR_hide, Dn.enc]
    rw [hnew]
    exact ⟨_, 3, by rw [List.length_append]; rfl, rfl, fun _ => by rw [List.map_append]; rfl⟩
   ·have hnew := hend.1 hany
    simp only [go_sem, ↓appR_hide, hlen, hci, hany, Dn.enc]
    rw [hnew]
    exact ⟨_, 1, rfl, rfl, fun _ => rfl⟩
 ·simp only [go_sem, Dn.enc]
  refine LL.st good_E0 (fun i : Nat => l.length - i) (fun i => i ≤ l.length)
   (fun i => [(.z, v), ((.o (.o .z)), .ptr (H.key 0) 0), ((.o (.o (.o .z))), outV (H.key 1) 6 (accR (l.take i) d).length), ((.i (.o (.o .z))), .bool (anyGe (l.take i) d)), ((.o (.i (.o .z))), .int .i64 i)])
   (fun i => [.row true 6 [[.int .i64 d.ses, .int .i64 d.id, .int .i64 d.an.code, .str d.an.val, .int .i64 d.an.ver, d.an.rv]], outB 6 ((accR (l.take i) d).map Dn.enc)]) ?_ 0 (σ := [0, 1]) (Wk.of rfl (by decide) (by simp only [go_sem, hren, outV_ren', hacc0, hany0]) (by simp only [go_sem, hacc0, hdren, ↓outB_ren', implies_true])) (Nat.zero_le _)
  rintro i hi
  have hoi := accR_ok (hap i) hd
  have hln := accR_len (l := l.take i) (d := d)
  rw [List.length_take] at hln
  by_cases hlt : i < l.length
  ·obtain ⟨kk, r, ex', cap', wr, rows, hv, hrho, hgo, hrow⟩ := hA.at hok (j := i) (by rw [List.length_map]; exact hlt); simp only [List.length_map, List.getElem_map] at hv hrow; cases hv; have hget : l[i]? = some l[i] := List.getElem?_eq_getElem hlt; generalize l[i] = c at hrow hget; have hw := wrap_succ (n := i) (by omega); have hci : (i : Int) < (l.length : Int) := (by omega); have hsi : i + 1 ≤ l.length := (by omega)
   have hco := ha c (List.mem_of_getElem? hget)
   have htk := take_snoc hget
   have hoi2 := (accR_ok (hap (i + 1)) hd).rens
   rw [htk] at hoi2
   have hrise := rise_take (d := d) hup hget
   cases hany : anyGe (l.take i) d
   ·by_cases hge : d.ses ≤ c.ses
    ·obtain ⟨n1, n2, n3⟩ := accR_now hany hge
     by_cases hne : c.ses = d.ses
     ·have hnew := n3 hne
      rw [hnew] at hoi2
      have hneT := eq_true hne
      simp only [go_sem, ↓appR_hide, hlen, hci, hsi, hgo, hrow, hw, hge, hany, hneT, Dn.enc]
      refine RW_app _ [.int .i64 d.ses, .int .i64 d.id, .int .i64 d.an.code, .str d.an.val, .int .i64 d.an.ver, d.an.rv] rfl (List.length_map ..) rfl (okBig_le (by omega) (by decide)) ?_
      simp only [go_sem, ↓appR_hide, hlen, hci, hsi, hgo, hrow, hw, hneT, Dn.enc]
      rw [show outB 6 ((accR (l.take i) d).map Dn.enc ++ [[.int .i64 d.ses, .int .i64 d.id, .int .i64 d.an.code, .str d.an.val, .int .i64 d.an.ver, d.an.rv]]) = outB 6 ((accR (l.take i) d ++ [d]).map Dn.enc) by rw [List.map_append]; rfl]
      exact ⟨i + 1, by show l.length - (i + 1) < l.length - i; omega, by show i + 1 ≤ l.length; omega, _, [0, 3], rfl, Wk.of rfl (by decide) (by simp only [go_sem, outV_ren', hrho, htk, hnew, n1, hany]) (by simp only [go_sem, ↓outB_ren', htk, hnew, hdren, hoi.rens, Dn.ren1 hd, Dn.ren1 hco, implies_true])⟩
     ·have hnew := n2 hne
      rw [hnew] at hoi2
      simp only [go_sem, ↓appR_hide, hlen, hci, hsi, hgo, hrow, hw, hge, hany, hne, Dn.enc]
      refine RW_app _ [.int .i64 d.ses, .int .i64 d.id, .int .i64 d.an.code, .str d.an.val, .int .i64 d.an.ver, d.an.rv] rfl (List.length_map ..) rfl (okBig_le (by omega) (by decide)) ?_
      simp only [go_sem, ↓appR_hide, hlen, hci, hsi, hgo, hrow, hw, hne, Dn.enc]
      refine RW_app (n := (accR (l.take i) d).length + 1) ((accR (l.take i) d).map Dn.enc ++ [[.int .i64 d.ses, .int .i64 d.id, .int .i64 d.an.code, .str d.an.val, .int .i64 d.an.ver, d.an.rv]]) [.int .i64 c.ses, .int .i64 c.id, .int .i64 c.an.code, .str c.an.val, .int .i64 c.an.ver, c.an.rv] rfl (by rw [List.length_append, List.length_map]; rfl) rfl (okBig_le (by omega) (by decide)) ?_
      simp only [go_sem, ↓appR_hide, hlen, hci, hsi, hgo, hrow, hw, hne, Dn.enc]
      rw [show outB 6 ((accR (l.take i) d).map Dn.enc ++ [[.int .i64 d.ses, .int .i64 d.id, .int .i64 d.an.code, .str d.an.val, .int .i64 d.an.ver, d.an.rv]] ++ [[.int .i64 c.ses, .int .i64 c.id, .int .i64 c.an.code, .str c.an.val, .int .i64 c.an.ver, c.an.rv]]) = outB 6 ((accR (l.take i) d ++ [d] ++ [c]).map Dn.enc) by rw [List.map_append, List.map_append]; rfl]
      exact ⟨i + 1, by show l.length - (i + 1) < l.length - i; omega, by show i + 1 ≤ l.length; omega, _, [0, 5], rfl, Wk.of rfl (by decide) (by simp only [go_sem, outV_ren', hrho, htk, hnew, n1, hany]) (by simp only [go_sem, ↓outB_ren', htk, hnew, hdren, hoi.rens, Dn.ren1 hd, Dn.ren1 hco, implies_true])⟩
    ·obtain ⟨n1, hnew⟩ := accR_lo hany hge
     rw [hnew] at hoi2
     have hne : ¬ c.ses = d.ses := by omega
     simp only [go_sem, ↓appR_hide, hlen, hci, hsi, hgo, hrow, hw, hge, hany, hne, Dn.enc]
     refine RW_app _ [.int .i64 c.ses, .int .i64 c.id, .int .i64 c.an.code, .str c.an.val, .int .i64 c.an.ver, c.an.rv] rfl (List.length_map ..) rfl (okBig_le (by omega) (by decide)) ?_
     simp only [go_sem, ↓appR_hide, hlen, hci, hsi, hgo, hrow, hw, hne, Dn.enc]
     rw [show outB 6 ((accR (l.take i) d).map Dn.enc ++ [[.int .i64 c.ses, .int .i64 c.id, .int .i64 c.an.code, .str c.an.val, .int .i64 c.an.ver, c.an.rv]]) = outB 6 ((accR (l.take i) d ++ [c]).map Dn.enc) by rw [List.map_append]; rfl]
     exact ⟨i + 1, by show l.length - (i + 1) < l.length - i; omega, by show i + 1 ≤ l.length; omega, _, [0, 3], rfl, Wk.of rfl (by decide) (by simp only [go_sem, outV_ren', hrho, htk, hnew, n1, hany]) (by simp only [go_sem, ↓outB_ren', htk, hnew, hdren, hoi.rens, Dn.ren1 hd, Dn.ren1 hco, implies_true])⟩
   ·obtain ⟨n1, hnew⟩ := accR_hi (c := c) hany
    rw [hnew] at hoi2
    have hne := hrise hany
    simp only [go_sem, ↓appR_hide, hlen, hci, hsi, hgo, hrow, hw, hany, hne, Dn.enc]
    refine RW_app _ [.int .i64 c.ses, .int .i64 c.id, .int .i64 c.an.code, .str c.an.val, .int .i64 c.an.ver, c.an.rv] rfl (List.length_map ..) rfl (okBig_le (by omega) (by decide)) ?_
    simp only [go_sem, ↓appR_hide, hlen, hci, hsi, hgo, hrow, hw, hne, Dn.enc]
    rw [show outB 6 ((accR (l.take i) d).map Dn.enc ++ [[.int .i64 c.ses, .int .i64 c.id, .int .i64 c.an.code, .str c.an.val, .int .i64 c.an.ver, c.an.rv]]) = outB 6 ((accR (l.take i) d ++ [c]).map Dn.enc) by rw [List.map_append]; rfl]
    exact ⟨i + 1, by show l.length - (i + 1) < l.length - i; omega, by show i + 1 ≤ l.length; omega, _, [0, 3], rfl, Wk.of rfl (by decide) (by simp only [go_sem, outV_ren', hrho, htk, hnew, n1, hany]) (by simp only [go_sem, ↓outB_ren', htk, hnew, hdren, hoi.rens, Dn.ren1 hd, Dn.ren1 hco, implies_true])⟩
  ·have hci : ¬ (i : Int) < (l.length : Int) := by omega
   have htk : l.take i = l := List.take_of_length_le (by omega)
   rw [htk] at hoi hln ⊢
   cases hany : anyGe l d
   ·have hnew := hend.2 hany
    simp only [go_sem, ↓appR_hide, hlen, hci, hany, Dn.enc]
    refine RW_app _ [.int .i64 d.ses, .int .i64 d.id, .int .i64 d.an.code, .str d.an.val, .int .i64 d.an.ver, d.an.rv] rfl (List.length_map ..) rfl (okBig_le (by omega) (by decide)) ?_
    simp only [go_sem, ↓appR_hide, Dn.enc]
    rw [hnew]
    exact ⟨_, 3, by rw [List.length_append]; rfl, rfl, fun _ => by rw [List.map_append]; rfl⟩
   ·have hnew := hend.1 hany
    simp only [go_sem, ↓appR_hide, hlen, hci, hany, Dn.enc]
    rw [hnew]
    exact ⟨_, 1, rfl, rfl, fun _ => rfl⟩
end Go.Proofs
namespace Go.Proofs
open Go Go.Ev
variable {H : Heap}
theorem f38_ok {v : AV} {l : List Dn} (hA : Arr H 6 v (l.map Dn.enc)) (ha : allOk H l) (hl : l.length < 100000) (s id : Int) :
  FnOk Tryz.prog 38 [v, .int .i64 s, .int .i64 id] H fun r G => r = .tup [.agg (stands l s id).1.enc, .int .i64 (stands l s id).2] ∧ G = H := by
 refine FnOk.assume fun hok => ?_
 refine FnOk.dropOld (R := fun r => r = .tup [.agg (stands l s id).1.enc, .int .i64 (stands l s id).2]) ?_ ?_
 ·refine FnOk.of_WW Tryz.func38 rfl C38ok R38ok E0 good_E0 ?_
  simp only [go_sem, C38]
  refine CL.of (f95_ok (hA.ext _) (ha.ext _) (by omega) s) ?_
  rintro _ _ ⟨rfl, rfl⟩
  cases hf : findD l s with
  | none =>
   rw [stands_none hf]
   simp only [go_sem, Option.isSome_none, foundD, zeroD, zeroA, Option.getD_none, Dn.enc, An.enc]
   first | exact ⟨rfl, _, rfl⟩ | exact ⟨_, rfl⟩
  | some d =>
   rw [stands_some hf]
   simp only [go_sem, Option.isSome_some, foundD, zeroA, Option.getD_some, Dn.enc]
   refine ⟨fun g => ?_, fun g => ⟨fun g2 => ?_, fun g2 => ?_⟩⟩
   ·rw [if_pos g]; exact ⟨rfl, _, rfl⟩
   ·rw [if_neg g, if_pos g2]; exact ⟨rfl, _, rfl⟩
   ·rw [if_neg g, if_neg g2]; exact ⟨rfl, _, rfl⟩
 ·rintro _ rfl top σ
  have := (stands_an ha s id).ren top σ
  simp only [An.enc, AV.ren, AV.rens, this]
end Go.Proofs
namespace Go.Proofs
open Go Go.Ev
variable {H : Heap}
theorem f162_at {v : AV} {l : List Cell} (hA : Arr H 5 v (l.map Cell.enc)) (hl : l.length < 4294967295) {c : Cell} (hc : cellIs c) :
  FnOk Tryz.prog 162 [v, .agg c.enc] H fun r G => r = outV H.nx 5 (refW l c).length ∧ G = H.ext [outB 5 ((refW l c).map Cell.enc)] := by
 refine FnOk.dropO (List.length_map ..) (Cell.map_rens · _) ?_
 refine (f162_yes hA hl hc).mono ?_
 rintro v G ⟨rfl, rfl⟩
 refine ⟨_, 0, by rw [Heap.key_zero], rfl, ?_⟩
 cases refW l c with
 | nil => intro h; exact h.elim
 | cons x xs => intro _; rfl
theorem f103_ok {kx : K} {v u : AV} {l : List Evn} {cs : List Cell} (hA : Arr H 4 v (l.map Evn.enc)) (hB : Arr H 5 u (cs.map Cell.enc)) (hl : l.length < 100000) (hc : cs.length < 100000) (hI : isHist l cs) (hvx : v = outV kx 4 l.length) :
  FnOk Tryz.prog 103 [v, u, .int .i64 24] H fun r G => r = .tup [outV (H.key 1) 4 (l.drop (l.length - 24)).length, seV (decide (0 < l.length - 24)) u (H.key 0) 5 cs.length] ∧ G = H.ext [seB (decide (0 < l.length - 24)) 5 ((keepC (l.take (l.length - 24)) cs).map Cell.enc), outB 4 ((l.drop (l.length - 24)).map Evn.enc)] := by
 refine FnOk.assume fun hok => ?_
 refine FnOk.dropW ?_
 refine FnOk.of_WW Tryz.func103 rfl C103ok R103ok E0 good_E0 ?_
 have hlen := fun G => hA.len G; simp only [List.length_map] at hlen; have hren := hA.ren
 have uren := hB.ren
 obtain ⟨kk, hkk⟩ : ∃ kk, kk = l.length - 24 := ⟨_, rfl⟩
 have e1 : max (0 : Int) 24 = 24 := by decide
 have e2 : max 0 (IntKind.i64.wrap ((l.length : Int) - 24)) = (kk : Int) := by rw [wrap_i64 (by omega) (by omega)]; omega
 rw [← hkk]
 simp only [go_sem, C103, hlen, e1, e2]
 refine LL.st good_E0 (fun i : Nat => kk - i) (fun i => i ≤ kk)
  (fun i => [(.z, v), ((.o .z), seV (decide (0 < i)) u (H.key 0) 5 cs.length), ((.i (.o (.o .z))), .int .i64 kk), ((.o (.i (.o .z))), .int .i64 i)])
  (fun i => [seB (decide (0 < i)) 5 ((keepC (l.take i) cs).map Cell.enc)]) ?_ 0 (σ := [0]) (Wk.of rfl (by decide) (by simp only [go_sem, hren, uren, seV]) (by simp only [go_sem, seB])) (Nat.zero_le _)
 rintro i hi
 have hK := Kept.take hI i
 have hBi : ∀ L, Arr (H.ext (seB (decide (0 < i)) 5 ((keepC (l.take i) cs).map Cell.enc) :: L)) 5 (seV (decide (0 < i)) u (H.key 0) 5 cs.length) ((keepC (l.take i) cs).map Cell.enc) := fun L => seArr (i := 0) rfl (by rw [List.length_map]; exact hK.len) fun h0 => by
  obtain rfl : i = 0 := by simpa using h0
  exact hB
 by_cases hlt : i < kk
 ·obtain ⟨ke, r, ex', cap', wr, rows, hv, hrho, hgo, hrow⟩ := hA.at hok (j := i) (by rw [List.length_map]; omega); simp only [List.length_map, List.getElem_map] at hv hrow; cases hv; have hget : l[i]? = some (l[i]'(by omega)) := List.getElem?_eq_getElem (by omega); generalize l[i]'(by omega) = e at hrow hget; have hw := wrap_succ (n := i) (by omega); have hci : (i : Int) < (kk : Int) := (by omega); have hsi : i + 1 ≤ l.length := (by omega)
  obtain ⟨_, c, h1, h2, h3⟩ := hK.step hI (List.mem_of_getElem? hget)
  have hnew := keepC_succ hget cs
  have hck := (getL_mem h1).2
  simp only [go_sem, hci, hsi, hgo, hrow, hw, Evn.enc]
  refine CL.of (f97_ok (hBi []) (by rw [hK.len]; omega) e.key) ?_
  rintro _ _ ⟨rfl, rfl⟩
  rw [h1]
  simp only [go_sem, Cell.enc, Evn.enc, hsi, hgo, hrow, hw]
  rw [← flo_yes hck]
  refine CL.of (f162_at (hBi [_]) (by rw [hK.len]; omega) h2) ?_
  rintro _ _ ⟨rfl, rfl⟩
  rw [h3, ← hnew]
  have hle : (keepC (l.take (i + 1)) cs).length = cs.length := keepC_len _ _
  simp only [go_sem, hw, hle]
  refine ⟨i + 1, by show kk - (i + 1) < kk - i; omega, ?_, _, [2], rfl, Wk.of rfl (by decide) (by simp only [go_sem, hrho, uren, outV_ren', seV, Nat.zero_lt_succ]) (by simp only [go_sem, seB, Nat.zero_lt_succ, ↓outB_ren', Cell.map_rens, implies_true])⟩
  show i + 1 ≤ kk
  omega
 ·have hci : ¬ (i : Int) < (kk : Int) := by omega
  obtain rfl : i = kk := by omega
  have hdl : (l.drop i).length = l.length - i := List.length_drop ..
  by_cases h0 : l.length = 0
  ·have hi0 : i = 0 := by omega
   subst hi0
   obtain rfl : l = [] := List.length_eq_zero_iff.1 h0
   rw [hvx]
   simp only [go_sem, ↓appR_hide2, hci, outV]
   rw [appQ_none (.inl ⟨rfl, rfl⟩)]
   simp only [go_sem]
   exact ⟨_, [0, 1], by simp only [seV_ren (uren _ _), go_sem], rfl, rfl, by decide, by simp only [go_sem, seB]⟩
  ·have hv : v = .slice kx 0 l.length 4 false l.length := by rw [hvx, outV_pos (by omega)]
   have q1 : i ≤ l.length := by omega
   have hA2 : ∀ L, Arr (H.ext L) 4 (.slice kx (i * 4) (l.length - i) 4 false (l.length - i)) ((l.drop i).map Evn.enc) := fun L => by
    refine Arr.ext ?_ L
    rw [hv] at hA
    rw [List.map_drop]
    exact Arr.drop_at (by decide) hA
   rw [hv]
   simp only [go_sem, ↓appR_hide2, hci, q1]
   refine ⟨⟨Nat.le_refl _, Nat.le_refl _⟩, ?_⟩
   rw [appQ_nil (by decide) (hA2 _) (by intro e; have := congrArg List.length e; rw [List.length_map, hdl] at this; simp at this; omega) (okBig_le (by rw [List.length_map, hdl]; omega) (by decide))]
   simp only [go_sem, List.length_map]
   exact ⟨_, [0, 1], by simp only [seV_ren (uren _ _), outV_ren', go_sem, Heap.key_ext], rfl, rfl, by decide, by simp only [go_sem, ↓seB_ren, Cell.map_rens, ↓outB_ren', Evn.map_rens, implies_true]⟩
end Go.Proofs
namespace Go.Proofs
open Go Go.Ev
variable {H : Heap}
noncomputable def EJ (f : FuncId) (args : List AV) (H : Heap) : RC :=
 match f with
 | 103 => ot (A43 H args) fun q => .ok (.tup [outV (H.key 1) 4 (q.2.1.drop (q.2.1.length - 24)).length, seV (decide (0 < q.2.1.length - 24)) q.1 (H.key 0) 5 q.2.2.length]) (H.ext [seB (decide (0 < q.2.1.length - 24)) 5 ((keepC (q.2.1.take (q.2.1.length - 24)) q.2.2).map Cell.enc), outB 4 ((q.2.1.drop (q.2.1.length - 24)).map Evn.enc)])
 | _ => .fail
theorem good_EJ : Ev.Good Tryz.prog EJ := by
 intro f args H r G he φ w args' ha hw
 refine (?_ : FnOk Tryz.prog f args H fun v' G' => v' = r ∧ G' = G).one φ w args' ha hw
 unfold EJ at he
 split at he
 ·obtain ⟨q, ⟨v, kx, rfl, h1, h2, h3, h4, h5, h6⟩, hz⟩ := ot_ok he
  clear he
  cases hz
  exact f103_ok h2 h3 h4 h5 h6 h1
 ·cases he
theorem e43 {G : Heap} {u : AV} {kx : K} {l : List Evn} {cs : List Cell} (hA : Arr G 4 (outV kx 4 l.length) (l.map Evn.enc)) (hB : Arr G 5 u (cs.map Cell.enc)) (hl : l.length < 100000) (hc : cs.length < 100000) (hI : isHist l cs) (L : List Blk) :
  EJ 103 [outV kx 4 l.length, u, .int .i64 24] (G.ext L) = .ok (.tup [outV (G.key (L.length + 1)) 4 (l.drop (l.length - 24)).length, seV (decide (0 < l.length - 24)) u (G.key L.length) 5 cs.length]) (G.ext (L ++ [seB (decide (0 < l.length - 24)) 5 ((keepC (l.take (l.length - 24)) cs).map Cell.enc), outB 4 ((l.drop (l.length - 24)).map Evn.enc)])) := by
 show ot (A43 (G.ext L) [outV kx 4 l.length, u, .int .i64 24]) (fun q => .ok (.tup [outV ((G.ext L).key 1) 4 (q.2.1.drop (q.2.1.length - 24)).length, seV (decide (0 < q.2.1.length - 24)) q.1 ((G.ext L).key 0) 5 q.2.2.length]) ((G.ext L).ext [seB (decide (0 < q.2.1.length - 24)) 5 ((keepC (q.2.1.take (q.2.1.length - 24)) q.2.2).map Cell.enc), outB 4 ((q.2.1.drop (q.2.1.length - 24)).map Evn.enc)])) = _
 rw [ot_eq (p := A43 (G.ext L) [outV kx 4 l.length, u, .int .i64 24]) (x := (u, l, cs)) ⟨_, kx, rfl, rfl, hA.ext L, hB.ext L, hl, hc, hI⟩, Heap.key_ext, Heap.key_ext, Heap.ext_append]
 ·rfl
 rintro ⟨u', l', cs'⟩ ⟨v', kx', h1, h2, h3, h4, _⟩
 injection h1 with h1 h6
 injection h6 with h6 _
 dsimp only at h1 h2 h3 h4 h6
 subst h1 h6
 rw [evs_uniq (hA.ext L) h3, cells_uniq (hB.ext L) h4]
end Go.Proofs
namespace Go.Proofs
open Go Go.Ev
variable {H : Heap}
theorem f205_ok {c : Cell} (h1 : 0 ≤ c.ver) (h2 : c.ver ≤ 1000000000000) (v : List Nat) (d : Bool) : FnOk Tryz.prog 205 [.agg c.enc, .str v, .bool d] H fun r G => r = .tup [.agg (Cell.enc ⟨c.key, v, c.ver + 1, d, c.floor⟩), .agg (Evn.enc ⟨c.key, c.ver + 1, v, d⟩)] ∧ G = H := by
 refine FnOk.drop (R := fun r => r = .tup [.agg (Cell.enc ⟨c.key, v, c.ver + 1, d, c.floor⟩), .agg (Evn.enc ⟨c.key, c.ver + 1, v, d⟩)]) ?_ (by rintro v rfl ρ; simp only [AV.ren, AV.rens, Cell.rens, Evn.rens])
 refine FnOk.of_WW Tryz.func205 rfl C205ok R205ok E0 good_E0 ?_
 have hw : IntKind.i64.wrap (c.ver + 1) = c.ver + 1 := wrap_i64 (by omega) (by omega)
 simp only [go_sem, C205, Cell.enc, hw]
 exact ⟨rfl, _, rfl⟩
theorem f159_ok {c : Cell} (h1 : 0 ≤ c.ver) (h2 : c.ver < 1000000000000) {v : List Nat} (hv : (v.length : Int) ≤ 12) : FnOk Tryz.prog 159 [.agg c.enc, .str v] H fun r G => r = .tup [.agg (Cell.enc ⟨c.key, v, c.ver + 1, false, c.floor⟩), .agg (Evn.enc ⟨c.key, c.ver + 1, v, false⟩), .int .i64 0] ∧ G = H := by
 refine FnOk.drop (R := fun r => r = .tup [.agg (Cell.enc ⟨c.key, v, c.ver + 1, false, c.floor⟩), .agg (Evn.enc ⟨c.key, c.ver + 1, v, false⟩), .int .i64 0]) ?_ (by rintro v rfl ρ; simp only [AV.ren, AV.rens, Cell.rens, Evn.rens])
 refine FnOk.of_WW Tryz.func159 rfl C159ok R159ok E0 good_E0 ?_
 have z1 := eq_false (show ¬ (12 : Int) < (v.length : Int) by omega)
 have z2 := eq_false (show ¬ c.ver = 1000000000000 by omega)
 simp only [go_sem, C159, Cell.enc, z1, z2]
 refine CL.of (f205_ok (c := c) h1 (by omega) v false) ?_
 rintro _ _ ⟨rfl, rfl⟩
 simp only [go_sem, Cell.enc, Evn.enc]
 exact ⟨_, rfl⟩
theorem f206_ok {v u : AV} {l : List Evn} {cs : List Cell} (hA : Arr H 4 v (l.map Evn.enc)) (hB : Arr H 5 u (cs.map Cell.enc)) (hl : l.length < 10000) (hc : cs.length < 10000) {e : Evn} (hI : isHist (l ++ [e]) cs) :
  FnOk Tryz.prog 206 [v, u, .agg e.enc, .int .i64 24] H fun r G => r = .tup [outV (H.key 1) 4 ((l ++ [e]).drop ((l ++ [e]).length - 24)).length, seV (decide (0 < (l ++ [e]).length - 24)) u (H.key 0) 5 cs.length] ∧ G = H.ext [seB (decide (0 < (l ++ [e]).length - 24)) 5 ((keepC ((l ++ [e]).take ((l ++ [e]).length - 24)) cs).map Cell.enc), outB 4 (((l ++ [e]).drop ((l ++ [e]).length - 24)).map Evn.enc)] := by
 refine FnOk.assume fun hok => ?_
 refine FnOk.dropW ?_
 obtain ⟨es, hes⟩ : ∃ es, es = l ++ [e] := ⟨_, rfl⟩
 rw [← hes]
 refine FnOk.of_WW Tryz.func206 rfl C206ok R206ok EJ good_EJ ?_
 have uren := hB.ren
 simp only [go_sem, C206, Evn.enc, ↓appR_hide2, ↓appR_hide]
 obtain ⟨G0, hG0⟩ : ∃ G0, G0 = H.ext [.row true 4 [[.str e.key, .int .i64 e.ver, .str e.val, .bool e.del]], .row true 4 [[.str e.key, .int .i64 e.ver, .str e.val, .bool e.del]]] := ⟨_, rfl⟩
 have hok0 : G0.ok := by rw [hG0]; exact Heap.ok_ext hok _
 have b0 : G0.get (H.key 0) = some (.row true 4 [e.enc]) := by rw [hG0, Heap.get_ext_key _ _ _ (by exact (show 0 < 2 by decide))]; rfl
 have hw0 : Arr G0 4 (.slice (H.key 1) 0 1 4 true 1) ([e].map Evn.enc) := by rw [hG0]; exact arr_row (i := 1) rfl rfl
 have hv0 : Arr G0 4 v (l.map Evn.enc) := by rw [hG0]; exact hA.ext _
 have hu0 : Arr G0 5 u (cs.map Cell.enc) := by rw [hG0]; exact hB.ext _
 have hB0 : ∃ L, G0 = H.ext L := ⟨_, hG0⟩
 rw [← hG0]
 obtain ⟨v1, G1, v2, G2, a1, a2, hok1, hok2, ⟨L1, hL1⟩, ⟨L2, hL2⟩, kx, hv2, hA2⟩ := app_open (bytes := 48) hok0 (by decide) hv0 hw0 (okBig_le (by rw [List.length_map, List.length_map]; show l.length + 1 ≤ _; omega) (by decide))
 rw [← List.map_append, List.length_map] at hv2
 rw [← List.map_append] at hA2
 rw [a1]
 have r0 : ∀ L, (G1.ext L).get (H.key 0) = some (.row true 4 [e.enc]) := fun L => by rw [hL1, Heap.ext_append]; exact Heap.get_ext_old hok0 b0 _
 simp only [go_sem, r0, Evn.enc, ↓appR_hide2, ↓appR_hide]
 rw [a2, hv2]
 rw [hv2] at hA2
 have hel : es.length < 100000 := by rw [hes, List.length_append]; show l.length + 1 < _; omega
 rw [← hes] at hA2 hI
 rw [show (l ++ [e]).length = es.length by rw [hes]]
 have hu2 : Arr G2 5 u (cs.map Cell.enc) := by rw [hL2]; exact hu0.ext _
 have i43 := e43 hA2 hu2 hel (by omega) hI
 obtain ⟨L3, hL3⟩ : ∃ L, G2 = H.ext L := by obtain ⟨L, hL⟩ := hB0; exact ⟨_, by rw [hL2, hL, Heap.ext_append]⟩
 simp only [go_sem, i43]
 have k0 : G2.key 0 = H.key L3.length := by rw [hL3, Heap.key_ext]; rfl
 have k1 : G2.key 1 = H.key (L3.length + 1) := by rw [hL3, Heap.key_ext]
 rw [k0, k1, hL3]
 refine ⟨_, [L3.length, L3.length + 1], ?_, Heap.ext_append .., rfl, by simp, ?_⟩
 ·rw [seV_ren (uren _ _), outV_ren', (rho_two _ _ _).1, (rho_two _ _ _).2]
 ·simp only [go_sem, (get_two _ _ _).1, (get_two _ _ _).2, ↓seB_ren, Cell.map_rens, ↓outB_ren', Evn.map_rens, implies_true]
end Go.Proofs
