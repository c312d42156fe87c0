/- once: one more in its session's place, both joined: walked. -/
import Derived.Test.YtilfojgiinaklaaGreatDoorZ16
set_option linter.all false
set_option maxRecDepth 100000
namespace Go.Proofs
open Go Go.Ev
variable {H : Heap}

theorem clo57 : CloFn Tryz.prog 103 6 72 [.int .i64 0, .int .i64 0, .int .i64 0, .str [], .int .i64 0, .nils] := ⟨⟨Tryz.f103, Tryz.func103, by kernel_rfl, by kernel_rfl⟩, rfl, by decide⟩
theorem ins58 : InsFn Tryz.prog 184 6 72 [.int .i64 0, .int .i64 0, .int .i64 0, .str [], .int .i64 0, .nils] := ⟨⟨Tryz.f184, 216, 217, Tryz.func184, by kernel_rfl, by kernel_rfl, by kernel_rfl, by kernel_rfl⟩, rfl, by decide⟩
noncomputable def lateD (x d : Dn) : Dn := if x.id ≤ d.id then d else x
noncomputable def withD (l : List Dn) (d : Dn) : List Dn := putGD lateD l d
theorem mem_withD {l : List Dn} {d c : Dn} (h : c ∈ withD l d) : c = d ∨ c ∈ l := by
  rcases mem_putGD h with h | h | ⟨x, h1, h2, rfl⟩
  · exact .inl h
  · exact .inr h
  · unfold lateD
    split
    · exact .inl rfl
    · exact .inr h1
theorem withD_ok {l : List Dn} {d : Dn} (h : allOk H l) (hd : d.an.ok H) : allOk H (withD l d) := fun c hc => by
  rcases mem_withD hc with rfl | hc
  · exact hd
  · exact h c hc
theorem withD_len {l : List Dn} {d : Dn} : (withD l d).length ≤ l.length + 1 := putGD_len
theorem f138_ok {v : AV} {l : List Dn} {d : Dn} (hA : Arr H 6 v (l.map Dn.enc)) (ha : allOk H l) (hd : d.an.ok H) (hup : upD l) (hl : l.length < 1000000) :
    FnOk Tryz.prog 138 [v, .agg d.enc] H fun r G => r = outV H.nx 6 (withD l d).length ∧ G = H.ext [outB 6 ((withD l d).map Dn.enc)] := by
  refine FnOk.assume fun hok => ?_
  refine FnOk.dropO' (List.length_map ..) (withD_ok ha hd).rens ?_
  refine FnOk.of_WW Tryz.func138 rfl C138ok R138ok E0 good_E0 ?_
  have hrens := ha.rens
  have hdren := hd.ren
  simp only [go_sem, C138, Dn.enc]
  refine CL.of (clone_z' clo57 (hA.ext _) (by rw [List.length_map]; omega) (ha.ext _).rens) ?_
  rintro _ _ ⟨z, rfl, rfl⟩
  simp only [go_sem, List.length_map]
  have hris := upD_rises hup
  refine LL.st good_E0 (fun i : Nat => l.length - i) (fun i => i ≤ l.length ∧ ∀ q c, q < i → l[q]? = some c → c.ses < d.ses)
    (fun i => [((.o (.o .z)), .ptr (H.key 0) 0), ((.o (.i .z)), zV z (H.key 1) 6 l.length), ((.i (.i .z)), .int .i64 i)]) (fun i => [.row true 6 [[.int .i64 d.ses, .int .i64 d.id, .int .i64 d.an.code, .str d.an.val, .int .i64 d.an.ver, d.an.rv]], zB z 6 (l.map Dn.enc)]) ?_ 0 (σ := [0, 1]) (Wk.of rfl (by decide) (by simp only [go_sem, zV_ren]) (by simp only [go_sem, ↓outB_ren', ↓zB_ren, hrens, hdren, implies_true])) ⟨Nat.zero_le _, fun q c h => absurd h (Nat.not_lt_zero _)⟩
  rintro i ⟨hi, hlo⟩
  by_cases hlt : i < l.length
  · have hget : l[i]? = some l[i] := List.getElem?_eq_getElem hlt
    generalize l[i] = c at hget
    have hpos : 0 < l.length := by omega
    have hzB := zB_pos (z := z) (esz := 6) (xs := l.map Dn.enc) (by rw [List.length_map]; exact hpos)
    have hw := wrap_succ (n := i) (by omega)
    have hci : (i : Int) < (l.length : Int) := by omega
    have hne : ¬ (i : Int) = (l.length : Int) := by omega
    have hsi : i + 1 ≤ l.length := by omega
    simp only [go_sem, zV_pos hpos, hzB, hci, hsi, hne, hget, List.getElem?_map, Option.map_some, Dn.enc]
    refine ⟨fun g => ?_, fun g => ?_⟩
    · have hz : AV.slice (H.key 1) 0 l.length 6 false l.length = zV z (H.key 1) 6 l.length := by rw [zV_pos hpos]
      rw [hz, ← hzB]
      refine ⟨i + 1, by show l.length - (i + 1) < l.length - i; omega, ⟨by omega, fun q x hq hx => ?_⟩, _, [0, 1], rfl, Wk.of rfl (by decide) (by simp only [go_sem, zV_ren, hw]) (by simp only [go_sem, ↓outB_ren', ↓zB_ren, hrens, hdren, implies_true])⟩
      rcases Nat.lt_or_ge q i with h | h
      · exact hlo q x h hx
      · obtain rfl : q = i := by omega
        rw [hget] at hx; cases hx; exact g
    · have hlow : lowAtD l d.ses i := ⟨hi, hlo, fun q x hq hx => by
        rcases Nat.lt_or_ge i q with h | h
        · have := hris i q c x h hget hx; omega
        · obtain rfl : q = i := by omega
          rw [hget] at hx; cases hx; exact g⟩
      refine ⟨fun g2 => ?_, fun g2 => ?_⟩
      · have hput : withD l d = l.take i ++ d :: l.drop i := putGD_not hlow (fun ⟨x, h1, h2⟩ => by rw [hget] at h1; cases h1; exact g2 h2)
        have hz : AV.slice (H.key 1) 0 l.length 6 false l.length = zV z (H.key 1) 6 l.length := by rw [zV_pos hpos]
        rw [hz, ← hzB]
        refine CL.of (insert_z ins58 (i := 1) (j := 2) (xs := l.map Dn.enc) (x := [.int .i64 d.ses, .int .i64 d.id, .int .i64 d.an.code, .str d.an.val, .int .i64 d.an.ver, d.an.rv]) (by decide) rfl rfl (List.length_map ..) hlow.1 (by omega) (by omega)) ?_
        rintro _ _ ⟨b, rfl, rfl⟩
        simp only [go_sem]
        rw [hput]
        refine ⟨_, 3, ?_, rfl, fun _ => ?_⟩
        · simp only [List.length_append, List.length_cons, List.length_take, List.length_drop]
          rw [show min i l.length + (l.length - i + 1) = l.length + 1 by omega]; rfl
        · simp only [List.map_append, List.map_cons, List.map_take, List.map_drop]; rfl
      · have hse : c.ses = d.ses := Classical.not_not.1 g2
        have hput : withD l d = l.set i (lateD c d) := putGD_has hlow hget hse
        rw [hput]
        refine ⟨fun g3 => ?_, fun g3 => ?_⟩
        · have hl3 : lateD c d = d := if_pos g3
          rw [hl3]
          exact ⟨_, 1, by rw [List.length_set, outV_pos hpos], rfl, fun _ => by rw [outB_pos (by rw [List.length_map, List.length_set]; exact hpos), List.map_set]; rfl⟩
        · have hl3 : lateD c d = c := if_neg g3
          have hs : l.set i c = l := by
            refine List.ext_getElem? fun q => ?_
            rw [List.getElem?_set]
            split
            · rename_i hq; subst hq; rw [hget]
            · rfl
          rw [hl3, hs]
          exact ⟨_, 1, by rw [outV_pos hpos], rfl, fun _ => by rw [outB_pos (by rw [List.length_map]; exact hpos)]; rfl⟩
  · have hil : i = l.length := by omega
    subst hil
    have hci : ¬ (l.length : Int) < (l.length : Int) := by omega
    have hlow : lowAtD l d.ses l.length := ⟨hi, hlo, fun q x hq hx => by have := (List.getElem?_eq_some_iff.1 hx).1; omega⟩
    have hput : withD l d = l.take l.length ++ d :: l.drop l.length := putGD_not hlow (fun ⟨x, h1, h2⟩ => by have := (List.getElem?_eq_some_iff.1 h1).1; omega)
    simp only [go_sem, hci]
    refine CL.of (insert_z ins58 (i := 1) (j := 2) (xs := l.map Dn.enc) (x := [.int .i64 d.ses, .int .i64 d.id, .int .i64 d.an.code, .str d.an.val, .int .i64 d.an.ver, d.an.rv]) (by decide) rfl rfl (List.length_map ..) hlow.1 (by omega) (by omega)) ?_
    rintro _ _ ⟨b, rfl, rfl⟩
    simp only [go_sem]
    rw [hput]
    refine ⟨_, 3, ?_, rfl, fun _ => ?_⟩
    · simp only [List.length_append, List.length_cons, List.length_take, List.length_drop]
      rw [show min l.length l.length + (l.length - l.length + 1) = l.length + 1 by omega]; rfl
    · simp only [List.map_append, List.map_cons, List.map_take, List.map_drop]; rfl
end Go.Proofs
/- once: how a request stands: walked. -/

set_option linter.all false
set_option linter.all false
set_option maxRecDepth 100000
namespace Go.Proofs
open Go Go.Ev
variable {H : Heap}

theorem agg_z0 {β : Type} (z : Bool) (k : K) (e n : Nat) (f : β) (c : List AV → β) : asAggC (zV z k e n) f c = f := by
  cases n with
  | zero => cases z <;> rfl
  | succ n => rfl
theorem one_z0 (z : Bool) (k : K) (e n : Nat) : AV.one (zV z k e n) = true := by
  cases n with
  | zero => cases z <;> rfl
  | succ n => rfl
theorem clo55 : CloFn Tryz.prog 104 3 40 [.str [], .str [], .int .i64 0] := ⟨⟨Tryz.f104, Tryz.func104, by kernel_rfl, by kernel_rfl⟩, rfl, by decide⟩
def stands (l : List Dn) (s id : Int) : An × Int := match findD l s with
  | none => (zeroA, 0)
  | some d => if d.id < id then (zeroA, 0) else if id = d.id then (d.an, 1) else (zeroA, 2)
/-- an answer with a number, its rows of one's own -/
def ansV (z : Bool) (k : K) (p : An × Int) : AV := .tup [.agg [.int .i64 p.1.code, .str p.1.val, .int .i64 p.1.ver, zV z k 3 p.1.rows.length], .int .i64 p.2]
theorem ansV_ren (ρ : K → K) (z : Bool) (k : K) (p : An × Int) : AV.ren ρ (ansV z k p) = ansV z (ρ k) p := by simp only [ansV, AV.ren, AV.rens, zV_ren]
theorem FnOk.dropA {f : FuncId} {args : List AV} {p : An × Int}
    (h : FnOk Tryz.prog f args H fun v G => ∃ z l i, v = ansV z (H.key i) p ∧ G = H.ext l ∧ ((zB z 3 (p.1.rows.map Rw.enc)).live → l[i]? = some (zB z 3 (p.1.rows.map Rw.enc)))) :
    FnOk Tryz.prog f args H fun v G => ∃ z, v = ansV z H.nx p ∧ G = H.ext [zB z 3 (p.1.rows.map Rw.enc)] := by
  refine h.wk ?_
  rintro v G ⟨z, l, i, rfl, rfl, hl⟩
  refine ⟨l, [zB z 3 (p.1.rows.map Rw.enc)], [i], ansV z H.nx p, rfl, ?_, rfl, by simp, ?_, z, rfl, rfl⟩
  · rw [ansV_ren, ← Heap.key_zero, rho_key rfl]
  · intro q hq
    simp only [List.zip_cons_cons, List.zip_nil_left, List.mem_singleton] at hq
    subst hq
    intro hlive
    show l[i]? = some (Blk.ren _ (zB z 3 (p.1.rows.map Rw.enc)))
    rw [zB_ren _ (Rw.map_rens _ _), hl hlive]
theorem stands_none {l : List Dn} {s id : Int} (h : findD l s = none) : stands l s id = (zeroA, 0) := by rw [stands, h]
theorem stands_some {l : List Dn} {s id : Int} {d : Dn} (h : findD l s = some d) : stands l s id = if d.id < id then (zeroA, 0) else if id = d.id then (d.an, 1) else (zeroA, 2) := by rw [stands, h]
theorem f135_ok {v : AV} {l : List Dn} (hA : Arr H 6 v (l.map Dn.enc)) (ha : allOk H l) (hl : l.length < 9223372036854775807) (hup : upD l) (hr : ∀ d ∈ l, (d.an.rows.length : Int) ≤ 16) (s id : Int) :
    FnOk Tryz.prog 135 [v, .int .i64 s, .int .i64 id] H fun r G => ∃ z, r = ansV z H.nx (stands l s id) ∧ G = H.ext [zB z 3 ((stands l s id).1.rows.map Rw.enc)] := by
  refine FnOk.assume fun hok => ?_
  refine FnOk.dropA ?_
  refine FnOk.of_WW Tryz.func135 rfl C135ok R135ok E0 good_E0 ?_
  have hlen := fun G => hA.len G; simp only [List.length_map] at hlen; have hren := hA.ren
  simp only [go_sem, C135, hlen]
  refine LL.st good_E0 (fun i : Nat => l.length - i) (fun i => i ≤ l.length ∧ ∀ j d, j < i → l[j]? = some d → ¬ (d.ses = s ∧ id ≤ d.id))
    (fun i => [((.o .z), .int .i64 s), ((.i .z), .int .i64 id), ((.i (.i .z)), .ptr (H.key 0) 0), ((.i (.i (.o .z))), v), ((.o (.o (.i .z))), .int .i64 l.length), ((.i (.o (.i .z))), .int .i64 i)])
    (fun i => [.row true 4 [[.int .i64 0, .str [], .int .i64 0, .nils]]]) ?_ 0 (σ := [0]) (Wk.of rfl (by decide) (by simp only [go_sem, hren]) (by simp only [go_sem])) ⟨Nat.zero_le _, fun j d h => absurd h (Nat.not_lt_zero _)⟩
  rintro i ⟨hi, hno⟩
  by_cases hlt : i < l.length
  · obtain ⟨kk, r, ex', cap', wr, rows, hv, hrho, hgo, hrow⟩ := hA.at hok (j := i) (by rw [List.length_map]; exact hlt); simp only [List.length_map, List.getElem_map] at hv hrow; cases hv; have hget : l[i]? = some l[i] := List.getElem?_eq_getElem hlt; generalize l[i] = c at hrow hget; have hw := wrap_succ (n := i) (by omega); have hci : (i : Int) < (l.length : Int) := (by omega); have hsi : i + 1 ≤ l.length := (by omega)
    have hco := ha c (List.mem_of_getElem? hget)
    simp only [go_sem, hci, hsi, hgo, hrow, hw, Dn.enc]
    have hfind : c.ses = s → findD l s = some c := fun h => by subst h; exact findD_at hup (List.mem_of_getElem? hget)
    have hnext : ¬ (c.ses = s ∧ id ≤ c.id) → ∀ j d, j < i + 1 → l[j]? = some d → ¬ (d.ses = s ∧ id ≤ d.id) := fun hc j d hj hd => by
      rcases Nat.lt_or_ge j i with h | h
      · exact hno j d h hd
      · obtain rfl : j = i := by omega
        rw [hget] at hd; cases hd; exact hc
    refine ⟨fun g => ?_, fun g => ⟨fun g2 => ?_, fun g2 => ⟨fun g3 => ?_, fun g3 => ?_⟩⟩⟩
    · exact ⟨i + 1, by show l.length - (i + 1) < l.length - i; omega, ⟨by omega, hnext fun h => g h.1⟩, _, [0], rfl, Wk.of rfl (by decide) (by simp only [go_sem, hren, hrho, hw]) (by simp only [go_sem])⟩
    · exact ⟨i + 1, by show l.length - (i + 1) < l.length - i; omega, ⟨by omega, hnext fun h => by omega⟩, _, [0], rfl, Wk.of rfl (by decide) (by simp only [go_sem, hren, hrho, hw]) (by simp only [go_sem])⟩
    · have hst : stands l s id = (c.an, 1) := by rw [stands_some (hfind (Classical.not_not.1 g)), if_neg g2, if_pos g3]
      have hrr := hr c (List.mem_of_getElem? hget)
      refine CL.of (clone_z' clo55 (hco.1.ext _) (by rw [List.length_map]; omega) (fun _ _ => Rw.map_rens _ _)) ?_
      rintro _ _ ⟨z, rfl, rfl⟩
      simp only [go_sem, agg_z0, one_z0]
      exact ⟨z, _, 2, by rw [hst]; rfl, rfl, fun _ => by rw [hst]; rfl⟩
    · have hst : stands l s id = (zeroA, 2) := by rw [stands_some (hfind (Classical.not_not.1 g)), if_neg g2, if_neg g3]
      rw [hst]
      exact ⟨true, _, 0, rfl, rfl, fun h => h.elim⟩
  · have hci : ¬ (i : Int) < (l.length : Int) := by omega
    simp only [go_sem, hci]
    have hst : stands l s id = (zeroA, 0) := by
      cases hf : findD l s with
      | none => rw [stands_none hf]
      | some d =>
        obtain ⟨h1, h2⟩ := findD_mem hf
        obtain ⟨j, hj⟩ := List.mem_iff_getElem?.1 h1
        have := hno j d (by have := (List.getElem?_eq_some_iff.1 hj).1; omega) hj
        rw [stands_some hf, if_pos (by omega)]
    rw [hst]
    exact ⟨true, _, 0, rfl, rfl, fun h => h.elim⟩
end Go.Proofs
/- once: what was done in one of two is done in both joined: the plain law and the walk. -/

set_option linter.all false
set_option linter.all false
set_option maxRecDepth 100000
namespace Go.Proofs
open Go Go.Ev
variable {H : Heap}

def bare (d : Dn) : Dn := ⟨d.ses, 0, zeroA⟩
theorem sameD_self (l : List Dn) : sameD l l := ⟨rfl, fun i c d h1 h2 => by rw [h1] at h2; cases h2; exact ⟨rfl, rfl, rfl, rfl, rfl, rfl⟩⟩
theorem isDone.rows {l : List Dn} (h : isDone l) : ∀ d ∈ l, (d.an.rows.length : Int) ≤ 16 := fun d hd => ((done_iff.1 h).1 d hd).2.2.1
end Go.Proofs
