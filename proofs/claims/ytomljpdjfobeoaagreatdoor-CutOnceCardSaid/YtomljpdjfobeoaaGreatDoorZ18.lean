/- once: one more in its session's place, both joined: walked. -/
import Derived.Test.YtomljpdjfobeoaaGreatDoorZ17
set_option linter.all false
set_option maxRecDepth 100000
namespace Go.Proofs
open Go Go.Ev
variable {H : Heap}

theorem clo57 : CloFn Tryz.prog 74 6 72 [.int .i64 0, .int .i64 0, .int .i64 0, .str [], .int .i64 0, .nils] := ⟨⟨Tryz.f74, Tryz.func74, by kernel_rfl, by kernel_rfl⟩, rfl, by decide⟩
theorem ins58 : InsFn Tryz.prog 121 6 72 [.int .i64 0, .int .i64 0, .int .i64 0, .str [], .int .i64 0, .nils] := ⟨⟨Tryz.f121, 146, 147, Tryz.func121, by kernel_rfl, by kernel_rfl, by kernel_rfl, by kernel_rfl⟩, rfl, by decide⟩
noncomputable def lateD (x d : Dn) : Dn := if x.id ≤ d.id then d else x
noncomputable def withD (l : List Dn) (d : Dn) : List Dn := putGD lateD l d
theorem lateD_ses (x d : Dn) (h : x.ses = d.ses) : (lateD x d).ses = d.ses := by unfold lateD; split <;> simp_all
theorem mem_withD {l : List Dn} {d c : Dn} (h : c ∈ withD l d) : c = d ∨ c ∈ l := by
  rcases mem_putGD h with h | h | ⟨x, h1, h2, rfl⟩
  · exact .inl h
  · exact .inr h
  · unfold lateD
    split
    · exact .inl rfl
    · exact .inr h1
theorem withD_ok {l : List Dn} {d : Dn} (h : allOk H l) (hd : d.an.ok H) : allOk H (withD l d) := fun c hc => by
  rcases mem_withD hc with rfl | hc
  · exact hd
  · exact h c hc
theorem withD_len {l : List Dn} {d : Dn} : (withD l d).length ≤ l.length + 1 := putGD_len
theorem withD_pos {l : List Dn} {d : Dn} : 0 < (withD l d).length := putGD_pos
theorem f68_ok {v : AV} {l : List Dn} {d : Dn} (hA : Arr H 6 v (l.map Dn.enc)) (ha : allOk H l) (hd : d.an.ok H) (hup : upD l) (hl : l.length < 1000000) :
    FnOk Tryz.prog 68 [v, .agg d.enc] H fun r G => r = outV H.nx 6 (withD l d).length ∧ G = H.ext [outB 6 ((withD l d).map Dn.enc)] := by
  refine FnOk.assume fun hok => ?_
  refine FnOk.dropO' (List.length_map ..) (withD_ok ha hd).rens ?_
  refine FnOk.of_WW Tryz.func68 rfl C68ok R68ok E0 good_E0 ?_
  have hrens := ha.rens
  have hdren := hd.ren
  simp only [go_sem, C68, Dn.enc]
  refine CL.of (clone_z' clo57 (hA.ext _) (by rw [List.length_map]; omega) (ha.ext _).rens) ?_
  rintro _ _ ⟨z, rfl, rfl⟩
  simp only [go_sem, List.length_map]
  have hris := upD_rises hup
  refine LL.st good_E0 (fun i : Nat => l.length - i) (fun i => i ≤ l.length ∧ ∀ q c, q < i → l[q]? = some c → c.ses < d.ses)
    (fun i => [((.o (.o .z)), .ptr (H.key 0) 0), ((.o (.i .z)), zV z (H.key 1) 6 l.length), ((.i (.i .z)), .int .i64 i)]) (fun i => [.row true 6 [[.int .i64 d.ses, .int .i64 d.id, .int .i64 d.an.code, .str d.an.val, .int .i64 d.an.ver, d.an.rv]], zB z 6 (l.map Dn.enc)]) ?_ 0 (σ := [0, 1]) (Wk.of rfl (by decide) (by simp only [go_sem, zV_ren]) (by simp only [go_sem, ↓outB_ren', ↓zB_ren, hrens, hdren, implies_true])) ⟨Nat.zero_le _, fun q c h => absurd h (Nat.not_lt_zero _)⟩
  rintro i ⟨hi, hlo⟩
  by_cases hlt : i < l.length
  · have hget : l[i]? = some l[i] := List.getElem?_eq_getElem hlt
    generalize l[i] = c at hget
    have hpos : 0 < l.length := by omega
    have hzB := zB_pos (z := z) (esz := 6) (xs := l.map Dn.enc) (by rw [List.length_map]; exact hpos)
    have hw := wrap_succ (n := i) (by omega)
    have hci : (i : Int) < (l.length : Int) := by omega
    have hne : ¬ (i : Int) = (l.length : Int) := by omega
    have hsi : i + 1 ≤ l.length := by omega
    simp only [go_sem, C68L0, zV_pos hpos, hzB, hci, hsi, hne, hget, List.getElem?_map, Option.map_some, Dn.enc]
    refine ⟨fun g => ?_, fun g => ?_⟩
    · have hz : AV.slice (H.key 1) 0 l.length 6 false l.length = zV z (H.key 1) 6 l.length := by rw [zV_pos hpos]
      rw [hz, ← hzB]
      refine ⟨i + 1, by show l.length - (i + 1) < l.length - i; omega, ⟨by omega, fun q x hq hx => ?_⟩, _, [0, 1], rfl, Wk.of rfl (by decide) (by simp only [go_sem, zV_ren, hw]) (by simp only [go_sem, ↓outB_ren', ↓zB_ren, hrens, hdren, implies_true])⟩
      rcases Nat.lt_or_ge q i with h | h
      · exact hlo q x h hx
      · obtain rfl : q = i := by omega
        rw [hget] at hx; cases hx; exact g
    · have hlow : lowAtD l d.ses i := ⟨hi, hlo, fun q x hq hx => by
        rcases Nat.lt_or_ge i q with h | h
        · have := hris i q c x h hget hx; omega
        · obtain rfl : q = i := by omega
          rw [hget] at hx; cases hx; exact g⟩
      refine ⟨fun g2 => ?_, fun g2 => ?_⟩
      · have hput : withD l d = l.take i ++ d :: l.drop i := putGD_not hlow (fun ⟨x, h1, h2⟩ => by rw [hget] at h1; cases h1; exact g2 h2)
        have hz : AV.slice (H.key 1) 0 l.length 6 false l.length = zV z (H.key 1) 6 l.length := by rw [zV_pos hpos]
        rw [hz, ← hzB]
        refine CL.of (insert_z ins58 (i := 1) (j := 2) (xs := l.map Dn.enc) (x := [.int .i64 d.ses, .int .i64 d.id, .int .i64 d.an.code, .str d.an.val, .int .i64 d.an.ver, d.an.rv]) (by decide) rfl rfl (List.length_map ..) hlow.1 (by omega) (by omega)) ?_
        rintro _ _ ⟨b, rfl, rfl⟩
        simp only [go_sem]
        rw [hput]
        refine ⟨_, 3, ?_, rfl, fun _ => ?_⟩
        · simp only [List.length_append, List.length_cons, List.length_take, List.length_drop]
          rw [show min i l.length + (l.length - i + 1) = l.length + 1 by omega]; rfl
        · simp only [List.map_append, List.map_cons, List.map_take, List.map_drop]; rfl
      · have hse : c.ses = d.ses := Classical.not_not.1 g2
        have hput : withD l d = l.set i (lateD c d) := putGD_has hlow hget hse
        rw [hput]
        refine ⟨fun g3 => ?_, fun g3 => ?_⟩
        · have hl3 : lateD c d = d := if_pos g3
          rw [hl3]
          exact ⟨_, 1, by rw [List.length_set, outV_pos hpos], rfl, fun _ => by rw [outB_pos (by rw [List.length_map, List.length_set]; exact hpos), List.map_set]; rfl⟩
        · have hl3 : lateD c d = c := if_neg g3
          have hs : l.set i c = l := by
            refine List.ext_getElem? fun q => ?_
            rw [List.getElem?_set]
            split
            · rename_i hq; subst hq; rw [hget]
            · rfl
          rw [hl3, hs]
          exact ⟨_, 1, by rw [outV_pos hpos], rfl, fun _ => by rw [outB_pos (by rw [List.length_map]; exact hpos)]; rfl⟩
  · have hil : i = l.length := by omega
    subst hil
    have hci : ¬ (l.length : Int) < (l.length : Int) := by omega
    have hlow : lowAtD l d.ses l.length := ⟨hi, hlo, fun q x hq hx => by have := (List.getElem?_eq_some_iff.1 hx).1; omega⟩
    have hput : withD l d = l.take l.length ++ d :: l.drop l.length := putGD_not hlow (fun ⟨x, h1, h2⟩ => by have := (List.getElem?_eq_some_iff.1 h1).1; omega)
    simp only [go_sem, C68L0, hci]
    refine CL.of (insert_z ins58 (i := 1) (j := 2) (xs := l.map Dn.enc) (x := [.int .i64 d.ses, .int .i64 d.id, .int .i64 d.an.code, .str d.an.val, .int .i64 d.an.ver, d.an.rv]) (by decide) rfl rfl (List.length_map ..) hlow.1 (by omega) (by omega)) ?_
    rintro _ _ ⟨b, rfl, rfl⟩
    simp only [go_sem]
    rw [hput]
    refine ⟨_, 3, ?_, rfl, fun _ => ?_⟩
    · simp only [List.length_append, List.length_cons, List.length_take, List.length_drop]
      rw [show min l.length l.length + (l.length - l.length + 1) = l.length + 1 by omega]; rfl
    · simp only [List.map_append, List.map_cons, List.map_take, List.map_drop]; rfl
end Go.Proofs
/- once: both joined: walked. -/

set_option linter.all false
set_option maxRecDepth 100000
namespace Go.Proofs
open Go Go.Ev
variable {H : Heap}

noncomputable def joinP (a b : List Dn) : List Dn := a.foldl withD b
theorem joinP_succ {a b : List Dn} {i : Nat} {c : Dn} (h : a[i]? = some c) : joinP (a.take (i + 1)) b = withD (joinP (a.take i) b) c := by
  obtain ⟨hl, rfl⟩ := List.getElem?_eq_some_iff.1 h
  unfold joinP
  rw [List.take_succ_eq_append_getElem hl, List.foldl_append]; rfl
theorem joinP_ok : ∀ {a b : List Dn}, allOk H a → allOk H b → allOk H (joinP a b)
  | [], b, _, h => h
  | x :: a, b, ha, hb => joinP_ok (a := a) (fun d hd => ha d (by simp [hd])) (withD_ok hb (ha x (by simp)))
theorem withD_up {l : List Dn} {d : Dn} (h : upD l) : upD (withD l d) := putGD_up lateD_ses h
theorem joinP_up : ∀ {a b : List Dn}, upD b → upD (joinP a b)
  | [], _, h => h
  | x :: a, b, h => joinP_up (a := a) (withD_up h)
theorem joinP_len : ∀ {a b : List Dn}, (joinP a b).length ≤ a.length + b.length
  | [], b => by simp [joinP]
  | x :: a, b => by
    have h1 := joinP_len (a := a) (b := withD b x)
    have h2 := withD_len (l := b) (d := x)
    have h3 : joinP (x :: a) b = joinP a (withD b x) := rfl
    rw [h3, List.length_cons]
    omega
end Go.Proofs
/- once: how a request stands: walked. -/

set_option linter.all false
set_option linter.all false
set_option maxRecDepth 100000
namespace Go.Proofs
open Go Go.Ev
variable {H : Heap}

def stands (l : List Dn) (s id : Int) : An × Int := match findD l s with
  | none => (zeroA, 0)
  | some d => if d.id < id then (zeroA, 0) else if id = d.id then (d.an, 1) else (zeroA, 2)
theorem stands_none {l : List Dn} {s id : Int} (h : findD l s = none) : stands l s id = (zeroA, 0) := by rw [stands, h]
theorem stands_some {l : List Dn} {s id : Int} {d : Dn} (h : findD l s = some d) : stands l s id = if d.id < id then (zeroA, 0) else if id = d.id then (d.an, 1) else (zeroA, 2) := by rw [stands, h]
end Go.Proofs
/- once: what was done in one of two is done in both joined: the plain law and the walk. -/

set_option linter.all false
set_option linter.all false
set_option maxRecDepth 100000
namespace Go.Proofs
open Go Go.Ev
variable {H : Heap}

noncomputable def laterO : Option Dn → Option Dn → Option Dn
  | none, y => y
  | some x, none => some x
  | some x, some y => some (lateD y x)
theorem find_with {l : List Dn} {x : Dn} (h : upD l) (s : Int) : findD (withD l x) s = if x.ses = s then laterO (some x) (findD l s) else findD l s := by
  rw [withD, findD_put lateD_ses h]
  cases findD l s <;> rfl
theorem isDone.rows {l : List Dn} (h : isDone l) : ∀ d ∈ l, (d.an.rows.length : Int) ≤ 16 := fun d hd => ((done_iff.1 h).1 d hd).2.2.1
end Go.Proofs
