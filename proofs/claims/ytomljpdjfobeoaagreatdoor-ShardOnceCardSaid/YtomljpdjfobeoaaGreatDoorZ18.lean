/- once: what was done, the plain law. -/
import Derived.Test.YtomljpdjfobeoaaGreatDoorZ17
import Derived.Test.YtomljpdjfobeoaaGreatDoorProg
import Derived.KernelRfl
set_option linter.all false
set_option maxRecDepth 100000
namespace Go.Proofs
open Go Go.Ev
def risesD (l : List Dn) : Prop := ∀ (p q : Nat) (c d : Dn), p < q → l[p]? = some c → l[q]? = some d → c.ses < d.ses
def hasAtD (l : List Dn) (k : Int) (i : Nat) : Prop := ∃ c, l[i]? = some c ∧ c.ses = k
def lowAtD (l : List Dn) (k : Int) (i : Nat) : Prop := i ≤ l.length ∧ (∀ q c, q < i → l[q]? = some c → c.ses < k) ∧ ∀ q c, i ≤ q → l[q]? = some c → ¬ c.ses < k
abbrev upD (l : List Dn) : Prop := l.Pairwise fun c d => c.ses < d.ses
theorem upD_cons {c : Dn} {l : List Dn} : upD (c :: l) ↔ (∀ d ∈ l, c.ses < d.ses) ∧ upD l := List.pairwise_cons
theorem isDone_cons {c : Dn} {l : List Dn} : isDone (c :: l) ↔ okD c ∧ (∀ d, l[0]? = some d → c.ses < d.ses) ∧ isDone l := by
  constructor
  · intro h
    obtain ⟨c', h0, h1, _⟩ := h 0 (by simp)
    cases h0
    refine ⟨h1, fun d hd => ?_, fun j hj => ?_⟩
    · obtain ⟨e, g0, _, g2⟩ := h 1 (by have := (List.getElem?_eq_some_iff.1 hd).1; simp; omega)
      obtain ⟨c', g3, g4⟩ := g2 (by decide)
      rw [List.getElem?_cons_succ, hd] at g0; cases g0
      cases g3; exact g4
    · obtain ⟨e, g0, g1, g2⟩ := h (j + 1) (by simp; omega)
      rw [List.getElem?_cons_succ] at g0
      refine ⟨e, g0, g1, fun h0 => ?_⟩
      obtain ⟨c', g3, g4⟩ := g2 (by omega)
      rw [show j + 1 - 1 = (j - 1) + 1 by omega, List.getElem?_cons_succ] at g3
      exact ⟨c', g3, g4⟩
  · rintro ⟨h1, h2, h3⟩ j hj
    cases j with
    | zero => exact ⟨c, rfl, h1, fun h => absurd h (by decide)⟩
    | succ j =>
      obtain ⟨e, g0, g1, g2⟩ := h3 j (by simp at hj; omega)
      refine ⟨e, by rw [List.getElem?_cons_succ]; exact g0, g1, fun _ => ?_⟩
      cases j with
      | zero => exact ⟨c, rfl, h2 e g0⟩
      | succ j => obtain ⟨d, g3, g4⟩ := g2 (by omega); exact ⟨d, by simpa using g3, g4⟩
theorem done_iff : ∀ {l : List Dn}, isDone l ↔ (∀ c ∈ l, okD c) ∧ upD l
  | [] => ⟨fun _ => ⟨by simp, .nil⟩, fun _ j hj => by simp at hj⟩
  | c :: l => by
    rw [isDone_cons, done_iff (l := l), upD_cons]
    constructor
    · rintro ⟨h1, h2, h3, h4⟩
      refine ⟨by simpa using ⟨h1, h3⟩, fun d hd => ?_, h4⟩
      cases l with
      | nil => simp at hd
      | cons e l =>
        have he := h2 e rfl
        rcases List.mem_cons.1 hd with rfl | hd
        · exact he
        · exact Int.lt_trans he ((upD_cons.1 h4).1 d hd)
    · rintro ⟨h1, h2, h4⟩
      exact ⟨h1 c (by simp), fun d hd => h2 d (List.mem_of_getElem? hd), fun d hd => h1 d (by simp [hd]), h4⟩
theorem upD_rises {l : List Dn} (h : upD l) : risesD l := by
  intro p q c d hpq hc hd
  obtain ⟨hp, rfl⟩ := List.getElem?_eq_some_iff.1 hc
  obtain ⟨hq, rfl⟩ := List.getElem?_eq_some_iff.1 hd
  exact List.pairwise_iff_getElem.1 h p q hp hq hpq
/-- one put in its place, f where its ses is there -/
noncomputable def putGD (f : Dn → Dn → Dn) : List Dn → Dn → List Dn
  | [], x => [x]
  | d :: l, x => if d.ses < x.ses then d :: putGD f l x else if d.ses = x.ses then f d x :: l else x :: d :: l
theorem lowAtD_tail {d : Dn} {l : List Dn} {k : Int} {i : Nat} (h : lowAtD (d :: l) k (i + 1)) : d.ses < k ∧ lowAtD l k i :=
  ⟨h.2.1 0 d (by omega) rfl, by have := h.1; simp at this; omega, fun q c hq hc => h.2.1 (q + 1) c (by omega) (by simpa using hc), fun q c hq hc => h.2.2 (q + 1) c (by omega) (by simpa using hc)⟩
theorem putGD_has {f : Dn → Dn → Dn} {x : Dn} : ∀ {l : List Dn} {i : Nat} {d : Dn}, lowAtD l x.ses i → l[i]? = some d → d.ses = x.ses → putGD f l x = l.set i (f d x)
  | [], i, d, _, h, _ => by simp at h
  | e :: l, 0, d, h, hd, hk => by
    cases hd
    rw [putGD, if_neg (by rw [hk]; exact Int.lt_irrefl _), if_pos hk]; rfl
  | e :: l, i + 1, d, h, hd, hk => by
    obtain ⟨h1, h2⟩ := lowAtD_tail h
    rw [putGD, if_pos h1, putGD_has h2 (by simpa using hd) hk]; rfl
theorem putGD_not {f : Dn → Dn → Dn} {x : Dn} : ∀ {l : List Dn} {i : Nat}, lowAtD l x.ses i → ¬ hasAtD l x.ses i → putGD f l x = l.take i ++ x :: l.drop i
  | [], i, h, _ => by
    obtain rfl : i = 0 := by have := h.1; simp at this; exact this
    rfl
  | e :: l, 0, h, hk => by
    have h1 : ¬ e.ses < x.ses := h.2.2 0 e (Nat.le_refl _) rfl
    rw [putGD, if_neg h1, if_neg (fun g => hk ⟨e, rfl, g⟩)]; rfl
  | e :: l, i + 1, h, hk => by
    obtain ⟨h1, h2⟩ := lowAtD_tail h
    rw [putGD, if_pos h1, putGD_not h2 (fun ⟨c, hc, g⟩ => hk ⟨c, by simpa using hc, g⟩)]; rfl
theorem mem_putGD {f : Dn → Dn → Dn} {x c : Dn} : ∀ {l : List Dn}, c ∈ putGD f l x → c = x ∨ c ∈ l ∨ ∃ d ∈ l, d.ses = x.ses ∧ c = f d x
  | [], h => by simp [putGD] at h; exact .inl h
  | d :: l, h => by
    unfold putGD at h
    split at h
    · rcases List.mem_cons.1 h with rfl | h
      · exact .inr (.inl (by simp))
      · rcases mem_putGD h with h | h | ⟨e, h1, h2⟩
        · exact .inl h
        · exact .inr (.inl (by simp [h]))
        · exact .inr (.inr ⟨e, by simp [h1], h2⟩)
    · split at h
      · rename_i hk
        rcases List.mem_cons.1 h with rfl | h
        · exact .inr (.inr ⟨d, by simp, hk, rfl⟩)
        · exact .inr (.inl (by simp [h]))
      · rcases List.mem_cons.1 h with rfl | h
        · exact .inl rfl
        · exact .inr (.inl h)
theorem putGD_len {f : Dn → Dn → Dn} {x : Dn} : ∀ {l : List Dn}, (putGD f l x).length ≤ l.length + 1
  | [] => by simp [putGD]
  | d :: l => by
    unfold putGD
    split
    · have := putGD_len (f := f) (x := x) (l := l)
      simp only [List.length_cons]; omega
    · split <;> simp
theorem findD_at : ∀ {l : List Dn} {c : Dn}, upD l → c ∈ l → findD l c.ses = some c
  | d :: l, c, h, hc => by
    obtain ⟨h1, h2⟩ := upD_cons.1 h
    rcases List.mem_cons.1 hc with rfl | hc
    · rw [findD, if_pos rfl]
    · rw [findD, if_neg (fun e => by have := h1 c hc; rw [e] at this; exact Int.lt_irrefl _ this), findD_at h2 hc]
end Go.Proofs
/- once: one more in its session's place, both joined: walked. -/

set_option linter.all false
set_option maxRecDepth 100000
namespace Go.Proofs
open Go Go.Ev
variable {H : Heap}

theorem clo57 : CloFn Tryz.prog 74 6 72 [.int .i64 0, .int .i64 0, .int .i64 0, .str [], .int .i64 0, .nils] := ⟨⟨Tryz.f74, Tryz.func74, by kernel_rfl, by kernel_rfl⟩, rfl, by decide⟩
theorem ins58 : InsFn Tryz.prog 121 6 72 [.int .i64 0, .int .i64 0, .int .i64 0, .str [], .int .i64 0, .nils] := ⟨⟨Tryz.f121, 146, 147, Tryz.func121, by kernel_rfl, by kernel_rfl, by kernel_rfl, by kernel_rfl⟩, rfl, by decide⟩
noncomputable def lateD (x d : Dn) : Dn := if x.id ≤ d.id then d else x
noncomputable def withD (l : List Dn) (d : Dn) : List Dn := putGD lateD l d
theorem mem_withD {l : List Dn} {d c : Dn} (h : c ∈ withD l d) : c = d ∨ c ∈ l := by
  rcases mem_putGD h with h | h | ⟨x, h1, h2, rfl⟩
  · exact .inl h
  · exact .inr h
  · unfold lateD
    split
    · exact .inl rfl
    · exact .inr h1
theorem withD_ok {l : List Dn} {d : Dn} (h : allOk H l) (hd : d.an.ok H) : allOk H (withD l d) := fun c hc => by
  rcases mem_withD hc with rfl | hc
  · exact hd
  · exact h c hc
theorem withD_len {l : List Dn} {d : Dn} : (withD l d).length ≤ l.length + 1 := putGD_len
theorem f68_ok {v : AV} {l : List Dn} {d : Dn} (hA : Arr H 6 v (l.map Dn.enc)) (ha : allOk H l) (hd : d.an.ok H) (hup : upD l) (hl : l.length < 1000000) :
    FnOk Tryz.prog 68 [v, .agg d.enc] H fun r G => r = outV H.nx 6 (withD l d).length ∧ G = H.ext [outB 6 ((withD l d).map Dn.enc)] := by
  refine FnOk.assume fun hok => ?_
  refine FnOk.dropO' (List.length_map ..) (withD_ok ha hd).rens ?_
  refine FnOk.of_WW Tryz.func68 rfl C68ok R68ok E0 good_E0 ?_
  have hrens := ha.rens
  have hdren := hd.ren
  simp only [go_sem, C68, Dn.enc]
  refine CL.of (clone_z' clo57 (hA.ext _) (by rw [List.length_map]; omega) (ha.ext _).rens) ?_
  rintro _ _ ⟨z, rfl, rfl⟩
  simp only [go_sem, List.length_map]
  have hris := upD_rises hup
  refine LL.st good_E0 (fun i : Nat => l.length - i) (fun i => i ≤ l.length ∧ ∀ q c, q < i → l[q]? = some c → c.ses < d.ses)
    (fun i => [((.o (.o .z)), .ptr (H.key 0) 0), ((.o (.i .z)), zV z (H.key 1) 6 l.length), ((.i (.i .z)), .int .i64 i)]) (fun i => [.row true 6 [[.int .i64 d.ses, .int .i64 d.id, .int .i64 d.an.code, .str d.an.val, .int .i64 d.an.ver, d.an.rv]], zB z 6 (l.map Dn.enc)]) ?_ 0 (σ := [0, 1]) (Wk.of rfl (by decide) (by simp only [go_sem, zV_ren]) (by simp only [go_sem, ↓outB_ren', ↓zB_ren, hrens, hdren, implies_true])) ⟨Nat.zero_le _, fun q c h => absurd h (Nat.not_lt_zero _)⟩
  rintro i ⟨hi, hlo⟩
  by_cases hlt : i < l.length
  · have hget : l[i]? = some l[i] := List.getElem?_eq_getElem hlt
    generalize l[i] = c at hget
    have hpos : 0 < l.length := by omega
    have hzB := zB_pos (z := z) (esz := 6) (xs := l.map Dn.enc) (by rw [List.length_map]; exact hpos)
    have hw := wrap_succ (n := i) (by omega)
    have hci : (i : Int) < (l.length : Int) := by omega
    have hne : ¬ (i : Int) = (l.length : Int) := by omega
    have hsi : i + 1 ≤ l.length := by omega
    simp only [go_sem, C68L0, zV_pos hpos, hzB, hci, hsi, hne, hget, List.getElem?_map, Option.map_some, Dn.enc]
    refine ⟨fun g => ?_, fun g => ?_⟩
    · have hz : AV.slice (H.key 1) 0 l.length 6 false l.length = zV z (H.key 1) 6 l.length := by rw [zV_pos hpos]
      rw [hz, ← hzB]
      refine ⟨i + 1, by show l.length - (i + 1) < l.length - i; omega, ⟨by omega, fun q x hq hx => ?_⟩, _, [0, 1], rfl, Wk.of rfl (by decide) (by simp only [go_sem, zV_ren, hw]) (by simp only [go_sem, ↓outB_ren', ↓zB_ren, hrens, hdren, implies_true])⟩
      rcases Nat.lt_or_ge q i with h | h
      · exact hlo q x h hx
      · obtain rfl : q = i := by omega
        rw [hget] at hx; cases hx; exact g
    · have hlow : lowAtD l d.ses i := ⟨hi, hlo, fun q x hq hx => by
        rcases Nat.lt_or_ge i q with h | h
        · have := hris i q c x h hget hx; omega
        · obtain rfl : q = i := by omega
          rw [hget] at hx; cases hx; exact g⟩
      refine ⟨fun g2 => ?_, fun g2 => ?_⟩
      · have hput : withD l d = l.take i ++ d :: l.drop i := putGD_not hlow (fun ⟨x, h1, h2⟩ => by rw [hget] at h1; cases h1; exact g2 h2)
        have hz : AV.slice (H.key 1) 0 l.length 6 false l.length = zV z (H.key 1) 6 l.length := by rw [zV_pos hpos]
        rw [hz, ← hzB]
        refine CL.of (insert_z ins58 (i := 1) (j := 2) (xs := l.map Dn.enc) (x := [.int .i64 d.ses, .int .i64 d.id, .int .i64 d.an.code, .str d.an.val, .int .i64 d.an.ver, d.an.rv]) (by decide) rfl rfl (List.length_map ..) hlow.1 (by omega) (by omega)) ?_
        rintro _ _ ⟨b, rfl, rfl⟩
        simp only [go_sem]
        rw [hput]
        refine ⟨_, 3, ?_, rfl, fun _ => ?_⟩
        · simp only [List.length_append, List.length_cons, List.length_take, List.length_drop]
          rw [show min i l.length + (l.length - i + 1) = l.length + 1 by omega]; rfl
        · simp only [List.map_append, List.map_cons, List.map_take, List.map_drop]; rfl
      · have hse : c.ses = d.ses := Classical.not_not.1 g2
        have hput : withD l d = l.set i (lateD c d) := putGD_has hlow hget hse
        rw [hput]
        refine ⟨fun g3 => ?_, fun g3 => ?_⟩
        · have hl3 : lateD c d = d := if_pos g3
          rw [hl3]
          exact ⟨_, 1, by rw [List.length_set, outV_pos hpos], rfl, fun _ => by rw [outB_pos (by rw [List.length_map, List.length_set]; exact hpos), List.map_set]; rfl⟩
        · have hl3 : lateD c d = c := if_neg g3
          have hs : l.set i c = l := by
            refine List.ext_getElem? fun q => ?_
            rw [List.getElem?_set]
            split
            · rename_i hq; subst hq; rw [hget]
            · rfl
          rw [hl3, hs]
          exact ⟨_, 1, by rw [outV_pos hpos], rfl, fun _ => by rw [outB_pos (by rw [List.length_map]; exact hpos)]; rfl⟩
  · have hil : i = l.length := by omega
    subst hil
    have hci : ¬ (l.length : Int) < (l.length : Int) := by omega
    have hlow : lowAtD l d.ses l.length := ⟨hi, hlo, fun q x hq hx => by have := (List.getElem?_eq_some_iff.1 hx).1; omega⟩
    have hput : withD l d = l.take l.length ++ d :: l.drop l.length := putGD_not hlow (fun ⟨x, h1, h2⟩ => by have := (List.getElem?_eq_some_iff.1 h1).1; omega)
    simp only [go_sem, C68L0, hci]
    refine CL.of (insert_z ins58 (i := 1) (j := 2) (xs := l.map Dn.enc) (x := [.int .i64 d.ses, .int .i64 d.id, .int .i64 d.an.code, .str d.an.val, .int .i64 d.an.ver, d.an.rv]) (by decide) rfl rfl (List.length_map ..) hlow.1 (by omega) (by omega)) ?_
    rintro _ _ ⟨b, rfl, rfl⟩
    simp only [go_sem]
    rw [hput]
    refine ⟨_, 3, ?_, rfl, fun _ => ?_⟩
    · simp only [List.length_append, List.length_cons, List.length_take, List.length_drop]
      rw [show min l.length l.length + (l.length - l.length + 1) = l.length + 1 by omega]; rfl
    · simp only [List.map_append, List.map_cons, List.map_take, List.map_drop]; rfl
end Go.Proofs
/- once: how a request stands: walked. -/

set_option linter.all false
set_option linter.all false
set_option maxRecDepth 100000
namespace Go.Proofs
open Go Go.Ev
variable {H : Heap}

theorem agg_z0 {β : Type} (z : Bool) (k : K) (e n : Nat) (f : β) (c : List AV → β) : asAggC (zV z k e n) f c = f := by
  cases n with
  | zero => cases z <;> rfl
  | succ n => rfl
theorem one_z0 (z : Bool) (k : K) (e n : Nat) : AV.one (zV z k e n) = true := by
  cases n with
  | zero => cases z <;> rfl
  | succ n => rfl
theorem clo55 : CloFn Tryz.prog 120 3 40 [.str [], .str [], .int .i64 0] := ⟨⟨Tryz.f120, Tryz.func120, by kernel_rfl, by kernel_rfl⟩, rfl, by decide⟩
def stands (l : List Dn) (s id : Int) : An × Int := match findD l s with
  | none => (zeroA, 0)
  | some d => if d.id < id then (zeroA, 0) else if id = d.id then (d.an, 1) else (zeroA, 2)
/-- an answer with a number, its rows of one's own -/
def ansV (z : Bool) (k : K) (p : An × Int) : AV := .tup [.agg [.int .i64 p.1.code, .str p.1.val, .int .i64 p.1.ver, zV z k 3 p.1.rows.length], .int .i64 p.2]
theorem ansV_ren (ρ : K → K) (z : Bool) (k : K) (p : An × Int) : AV.ren ρ (ansV z k p) = ansV z (ρ k) p := by simp only [ansV, AV.ren, AV.rens, zV_ren]
theorem FnOk.dropA {f : FuncId} {args : List AV} {p : An × Int}
    (h : FnOk Tryz.prog f args H fun v G => ∃ z l i, v = ansV z (H.key i) p ∧ G = H.ext l ∧ ((zB z 3 (p.1.rows.map Rw.enc)).live → l[i]? = some (zB z 3 (p.1.rows.map Rw.enc)))) :
    FnOk Tryz.prog f args H fun v G => ∃ z, v = ansV z H.nx p ∧ G = H.ext [zB z 3 (p.1.rows.map Rw.enc)] := by
  refine h.wk ?_
  rintro v G ⟨z, l, i, rfl, rfl, hl⟩
  refine ⟨l, [zB z 3 (p.1.rows.map Rw.enc)], [i], ansV z H.nx p, rfl, ?_, rfl, by simp, ?_, z, rfl, rfl⟩
  · rw [ansV_ren, ← Heap.key_zero, rho_key rfl]
  · intro q hq
    simp only [List.zip_cons_cons, List.zip_nil_left, List.mem_singleton] at hq
    subst hq
    intro hlive
    show l[i]? = some (Blk.ren _ (zB z 3 (p.1.rows.map Rw.enc)))
    rw [zB_ren _ (Rw.map_rens _ _), hl hlive]
theorem stands_none {l : List Dn} {s id : Int} (h : findD l s = none) : stands l s id = (zeroA, 0) := by rw [stands, h]
theorem stands_some {l : List Dn} {s id : Int} {d : Dn} (h : findD l s = some d) : stands l s id = if d.id < id then (zeroA, 0) else if id = d.id then (d.an, 1) else (zeroA, 2) := by rw [stands, h]
theorem f66_ok {v : AV} {l : List Dn} (hA : Arr H 6 v (l.map Dn.enc)) (ha : allOk H l) (hl : l.length < 9223372036854775807) (hup : upD l) (hr : ∀ d ∈ l, (d.an.rows.length : Int) ≤ 16) (s id : Int) :
    FnOk Tryz.prog 66 [v, .int .i64 s, .int .i64 id] H fun r G => ∃ z, r = ansV z H.nx (stands l s id) ∧ G = H.ext [zB z 3 ((stands l s id).1.rows.map Rw.enc)] := by
  refine FnOk.assume fun hok => ?_
  refine FnOk.dropA ?_
  refine FnOk.of_WW Tryz.func66 rfl C66ok R66ok E0 good_E0 ?_
  have hlen := fun G => hA.len G; simp only [List.length_map] at hlen; have hren := hA.ren
  simp only [go_sem, C66, hlen]
  refine LL.st good_E0 (fun i : Nat => l.length - i) (fun i => i ≤ l.length ∧ ∀ j d, j < i → l[j]? = some d → ¬ (d.ses = s ∧ id ≤ d.id))
    (fun i => [((.o .z), .int .i64 s), ((.i .z), .int .i64 id), ((.i (.i .z)), .ptr (H.key 0) 0), ((.i (.i (.o .z))), v), ((.o (.o (.i .z))), .int .i64 l.length), ((.i (.o (.i .z))), .int .i64 i)])
    (fun i => [.row true 4 [[.int .i64 0, .str [], .int .i64 0, .nils]]]) ?_ 0 (σ := [0]) (Wk.of rfl (by decide) (by simp only [go_sem, hren]) (by simp only [go_sem])) ⟨Nat.zero_le _, fun j d h => absurd h (Nat.not_lt_zero _)⟩
  rintro i ⟨hi, hno⟩
  by_cases hlt : i < l.length
  · obtain ⟨kk, r, ex', cap', wr, rows, hv, hrho, hgo, hrow⟩ := hA.at hok (j := i) (by rw [List.length_map]; exact hlt); simp only [List.length_map, List.getElem_map] at hv hrow; cases hv; have hget : l[i]? = some l[i] := List.getElem?_eq_getElem hlt; generalize l[i] = c at hrow hget; have hw := wrap_succ (n := i) (by omega); have hci : (i : Int) < (l.length : Int) := (by omega); have hsi : i + 1 ≤ l.length := (by omega)
    have hco := ha c (List.mem_of_getElem? hget)
    simp only [go_sem, C66L0, hci, hsi, hgo, hrow, hw, Dn.enc]
    have hfind : c.ses = s → findD l s = some c := fun h => by subst h; exact findD_at hup (List.mem_of_getElem? hget)
    have hnext : ¬ (c.ses = s ∧ id ≤ c.id) → ∀ j d, j < i + 1 → l[j]? = some d → ¬ (d.ses = s ∧ id ≤ d.id) := fun hc j d hj hd => by
      rcases Nat.lt_or_ge j i with h | h
      · exact hno j d h hd
      · obtain rfl : j = i := by omega
        rw [hget] at hd; cases hd; exact hc
    refine ⟨fun g => ?_, fun g => ⟨fun g2 => ?_, fun g2 => ⟨fun g3 => ?_, fun g3 => ?_⟩⟩⟩
    · exact ⟨i + 1, by show l.length - (i + 1) < l.length - i; omega, ⟨by omega, hnext fun h => g h.1⟩, _, [0], rfl, Wk.of rfl (by decide) (by simp only [go_sem, hren, hrho, hw]) (by simp only [go_sem])⟩
    · exact ⟨i + 1, by show l.length - (i + 1) < l.length - i; omega, ⟨by omega, hnext fun h => by omega⟩, _, [0], rfl, Wk.of rfl (by decide) (by simp only [go_sem, hren, hrho, hw]) (by simp only [go_sem])⟩
    · have hst : stands l s id = (c.an, 1) := by rw [stands_some (hfind (Classical.not_not.1 g)), if_neg g2, if_pos g3]
      have hrr := hr c (List.mem_of_getElem? hget)
      refine CL.of (clone_z' clo55 (hco.1.ext _) (by rw [List.length_map]; omega) (fun _ _ => Rw.map_rens _ _)) ?_
      rintro _ _ ⟨z, rfl, rfl⟩
      simp only [go_sem, agg_z0, one_z0]
      exact ⟨z, _, 2, by rw [hst]; rfl, rfl, fun _ => by rw [hst]; rfl⟩
    · have hst : stands l s id = (zeroA, 2) := by rw [stands_some (hfind (Classical.not_not.1 g)), if_neg g2, if_neg g3]
      rw [hst]
      exact ⟨true, _, 0, rfl, rfl, fun h => h.elim⟩
  · have hci : ¬ (i : Int) < (l.length : Int) := by omega
    simp only [go_sem, C66L0, hci]
    have hst : stands l s id = (zeroA, 0) := by
      cases hf : findD l s with
      | none => rw [stands_none hf]
      | some d =>
        obtain ⟨h1, h2⟩ := findD_mem hf
        obtain ⟨j, hj⟩ := List.mem_iff_getElem?.1 h1
        have := hno j d (by have := (List.getElem?_eq_some_iff.1 hj).1; omega) hj
        rw [stands_some hf, if_pos (by omega)]
    rw [hst]
    exact ⟨true, _, 0, rfl, rfl, fun h => h.elim⟩
end Go.Proofs
/- once: what was done in one of two is done in both joined: the plain law and the walk. -/

set_option linter.all false
set_option linter.all false
set_option maxRecDepth 100000
namespace Go.Proofs
open Go Go.Ev
variable {H : Heap}

theorem sameD_self (l : List Dn) : sameD l l := ⟨rfl, fun i c d h1 h2 => by rw [h1] at h2; cases h2; exact ⟨rfl, rfl, rfl, rfl, rfl, rfl⟩⟩
theorem isDone.rows {l : List Dn} (h : isDone l) : ∀ d ∈ l, (d.an.rows.length : Int) ≤ 16 := fun d hd => ((done_iff.1 h).1 d hd).2.2.1
end Go.Proofs
/- The laid-out code of the functions that are walked. Printed by a program. -/

set_option linter.all false
set_option maxRecDepth 100000
namespace Go.Proofs
open Go Go.Ev K
@[go_sem] theorem call9 (args : List AV) (H : Heap) : callC Tryz.prog 9 args H = .call 9 args := callC_ok (by kernel_rfl) args H
@[go_sem] theorem call10 (args : List AV) (H : Heap) : callC Tryz.prog 10 args H = .call 10 args := callC_ok (by kernel_rfl) args H
@[go_sem] theorem call11 (args : List AV) (H : Heap) : callC Tryz.prog 11 args H = .call 11 args := callC_ok (by kernel_rfl) args H
@[go_sem] theorem call12 (args : List AV) (H : Heap) : callC Tryz.prog 12 args H = .call 12 args := callC_ok (by kernel_rfl) args H
noncomputable def C15 : CC :=
  (.seq (.region [.mk (boxR false (X.t z)) (.some (i z)) Gd.no [],
   .mk (boxR false (X.t (o z))) (.some (o (o z))) Gd.no [],
   .mk (mvR (X.c (AV.bool false))) (.some (i (o z))) Gd.no []])
  (.seq (.region [.mk (faR 0 (X.t (i z))) (.some (o (i z))) Gd.no [],
   .mk (ldR false 1 (X.t (o (i z)))) (.some (i (i z))) Gd.no [],
   .mk (faR 0 (X.t (o (o z)))) (.some (o (o (o z)))) Gd.no [],
   .mk (ldR false 1 (X.t (o (o (o z))))) (.some (i (o (o z)))) Gd.no [],
   .mk (binR Tryz.prog EK.no .none false BinOp.eql (X.t (i (i z))) (X.t (i (o (o z))))) (.some (o (i (o z)))) Gd.no [],
   .mk (mvR (X.t (o (i (o z))))) (.some (i (i (o z)))) Gd.no [],
   .mk (faR 1 (X.t (i z))) (.some (o (o (i z)))) (Gd.on (i (i (o z))) true) [],
   .mk (ldR false 1 (X.t (o (o (i z))))) (.some (i (o (i z)))) (Gd.on (i (i (o z))) true) [],
   .mk (faR 1 (X.t (o (o z)))) (.some (o (i (i z)))) (Gd.on (i (i (o z))) true) [],
   .mk (ldR false 1 (X.t (o (i (i z))))) (.some (i (i (i z)))) (Gd.on (i (i (o z))) true) [],
   .mk (binR Tryz.prog EK.no .none false BinOp.eql (X.t (i (o (i z)))) (X.t (i (i (i z))))) (.some (o (o (o (o z))))) (Gd.on (i (i (o z))) true) [],
   .mk (pickR (X.t (i (i (o z)))) (X.t (o (o (o (o z))))) (X.c (AV.bool false))) (.some (i (o (o (o z))))) Gd.no [],
   .mk (mvR (X.t (i (o (o (o z)))))) (.some (o (i (o (o z))))) Gd.no [],
   .mk (faR 2 (X.t (i z))) (.some (i (i (o (o z))))) (Gd.on (o (i (o (o z)))) true) [],
   .mk (ldR true 2 (X.t (i (i (o (o z)))))) (.some (o (o (i (o z))))) (Gd.on (o (i (o (o z)))) true) [],
   .mk (faR 2 (X.t (o (o z)))) (.some (i (o (i (o z))))) (Gd.on (o (i (o (o z)))) true) [],
   .mk (ldR true 2 (X.t (i (o (i (o z)))))) (.some (o (i (i (o z))))) (Gd.on (o (i (o (o z)))) true) [],
   .mk (binR Tryz.prog EK.no (.some [LK.str, LK.str]) false BinOp.eql (X.t (o (o (i (o z))))) (X.t (o (i (i (o z)))))) (.some (i (i (i (o z))))) (Gd.on (o (i (o (o z)))) true) [],
   .mk (pickR (X.t (o (i (o (o z))))) (X.t (i (i (i (o z))))) (X.c (AV.bool false))) (.some (o (o (o (i z))))) Gd.no [],
   .mk (mvR (X.t (o (o (o (i z)))))) (.some (i (o (o (i z))))) Gd.no [],
   .mk (faR 4 (X.t (i z))) (.some (o (i (o (i z))))) (Gd.on (i (o (o (i z)))) true) [],
   .mk (ldR false 1 (X.t (o (i (o (i z)))))) (.some (i (i (o (i z))))) (Gd.on (i (o (o (i z)))) true) [],
   .mk (faR 4 (X.t (o (o z)))) (.some (o (o (i (i z))))) (Gd.on (i (o (o (i z)))) true) [],
   .mk (ldR false 1 (X.t (o (o (i (i z)))))) (.some (i (o (i (i z))))) (Gd.on (i (o (o (i z)))) true) [],
   .mk (binR Tryz.prog EK.bool .none false BinOp.eql (X.t (i (i (o (i z))))) (X.t (i (o (i (i z)))))) (.some (o (i (i (i z))))) (Gd.on (i (o (o (i z)))) true) [],
   .mk (pickR (X.t (i (o (o (i z))))) (X.t (o (i (i (i z))))) (X.c (AV.bool false))) (.some (i (i (i (i z))))) Gd.no [],
   .mk (mvR (X.t (i (i (i (i z)))))) (.some (o (o (o (o (o z)))))) Gd.no [],
   .mk (faR 5 (X.t (i z))) (.some (i (o (o (o (o z)))))) (Gd.on (o (o (o (o (o z))))) true) [],
   .mk (ldR false 1 (X.t (i (o (o (o (o z))))))) (.some (o (i (o (o (o z)))))) (Gd.on (o (o (o (o (o z))))) true) [],
   .mk (faR 5 (X.t (o (o z)))) (.some (i (i (o (o (o z)))))) (Gd.on (o (o (o (o (o z))))) true) [],
   .mk (ldR false 1 (X.t (i (i (o (o (o z))))))) (.some (o (o (i (o (o z)))))) (Gd.on (o (o (o (o (o z))))) true) [],
   .mk (callS Tryz.prog 44 [(X.t (o (i (o (o (o z)))))), (X.t (o (o (i (o (o z))))))]) (.some (i (o (i (o (o z)))))) (Gd.on (o (o (o (o (o z))))) true) [],
   .mk (pickR (X.t (o (o (o (o (o z)))))) (X.t (i (o (i (o (o z)))))) (X.c (AV.bool false))) (.some (o (i (i (o (o z)))))) Gd.no [],
   .mk (mvR (X.t (o (i (i (o (o z))))))) (.some (i (i (i (o (o z)))))) Gd.no [],
   .mk (faR 6 (X.t (i z))) (.some (o (o (o (i (o z)))))) (Gd.on (i (i (i (o (o z))))) true) [],
   .mk (ldR false 1 (X.t (o (o (o (i (o z))))))) (.some (i (o (o (i (o z)))))) (Gd.on (i (i (i (o (o z))))) true) [],
   .mk (faR 6 (X.t (o (o z)))) (.some (o (i (o (i (o z)))))) (Gd.on (i (i (i (o (o z))))) true) [],
   .mk (ldR false 1 (X.t (o (i (o (i (o z))))))) (.some (i (i (o (i (o z)))))) (Gd.on (i (i (i (o (o z))))) true) [],
   .mk (callS Tryz.prog 45 [(X.t (i (o (o (i (o z)))))), (X.t (i (i (o (i (o z))))))]) (.some (o (o (i (i (o z)))))) (Gd.on (i (i (i (o (o z))))) true) [],
   .mk (pickR (X.t (i (i (i (o (o z)))))) (X.t (o (o (i (i (o z)))))) (X.c (AV.bool false))) (.some (i (o (i (i (o z)))))) Gd.no [],
   .mk (mvR (X.t (i (o (i (i (o z))))))) (.some (o (i (i (i (o z)))))) Gd.no [],
   .mk (faR 7 (X.t (i z))) (.some (i (i (i (i (o z)))))) (Gd.on (o (i (i (i (o z))))) true) [],
   .mk (ldR false 1 (X.t (i (i (i (i (o z))))))) (.some (o (o (o (o (i z)))))) (Gd.on (o (i (i (i (o z))))) true) [],
   .mk (faR 7 (X.t (o (o z)))) (.some (i (o (o (o (i z)))))) (Gd.on (o (i (i (i (o z))))) true) [],
   .mk (ldR false 1 (X.t (i (o (o (o (i z))))))) (.some (o (i (o (o (i z)))))) (Gd.on (o (i (i (i (o z))))) true) [],
   .mk (callS Tryz.prog 46 [(X.t (o (o (o (o (i z)))))), (X.t (o (i (o (o (i z))))))]) (.some (i (i (o (o (i z)))))) (Gd.on (o (i (i (i (o z))))) true) [],
   .mk (pickR (X.t (o (i (i (i (o z)))))) (X.t (i (i (o (o (i z)))))) (X.c (AV.bool false))) (.some (o (o (i (o (i z)))))) Gd.no [],
   .mk (mvR (X.t (o (o (i (o (i z))))))) (.some (i (o z))) Gd.no []])
  .ret))
theorem C15ok : (match Tryz.f15.body with | some c => comp Tryz.prog 52 c | none => none) = some C15 := by kernel_rfl
@[go_sem] theorem call15 (args : List AV) (H : Heap) : callC Tryz.prog 15 args H = .call 15 args := callC_ok (by kernel_rfl) args H
theorem R15ok : resKs Tryz.prog Tryz.f15.results.toList = some [(RK.tmp (i (o z)))] := by kernel_rfl

noncomputable def C20 : CC :=
  (.seq (.region [.mk (boxR false (X.t (i z))) (.some (o (i z))) Gd.no [],
   .mk (fun _ H => newC false [(AV.int .i64 0), (AV.int .i64 0), (AV.str []), (AV.str []), (AV.bool false), AV.nils, AV.nils, AV.nils] H) (.some (i (i z))) Gd.no []])
  (.seq (.region [.mk (mvR (X.t z)) (.some (o (o (o z)))) Gd.no [],
   .mk (mvR (X.t (o z))) (.some (i (o (o z)))) Gd.no [],
   .mk (ldR true 2 (X.t (o (i z)))) (.some (o (i (o z)))) Gd.no [],
   .mk (buildR [(AV.int .i64 0), (AV.int .i64 0), (AV.str []), (AV.str []), (AV.bool false), AV.nils, AV.nils, AV.nils] [(0, (1, (X.t (o (o (o z)))))), (1, (1, (X.t (i (o (o z)))))), (2, (2, (X.t (o (i (o z))))))]) (.some (i (i (o z)))) Gd.no [],
   .mk (stR 8 (X.t (i (i z))) (X.t (i (i (o z))))) .none Gd.no []])
  .ret))
theorem C20ok : (match Tryz.f20.body with | some c => comp Tryz.prog 11 c | none => none) = some C20 := by kernel_rfl
@[go_sem] theorem call20 (args : List AV) (H : Heap) : callC Tryz.prog 20 args H = .call 20 args := callC_ok (by kernel_rfl) args H
theorem R20ok : resKs Tryz.prog Tryz.f20.results.toList = some [(RK.cell (i (i z)) true 8)] := by kernel_rfl

noncomputable def C22 : CC :=
  (.seq (.region [.mk (boxR false (X.t z)) (.some (o z)) Gd.no [],
   .mk (mvR (X.c (AV.bool false))) (.some (i z)) Gd.no []])
  (.seq (.region [.mk (mkfR (Fn.func 60) [] [(X.t (o z))]) (.some (i (o z))) Gd.no [],
   .mk (mvR (X.t (i (o z)))) (.some (o (o z))) Gd.no []])
  (.seq (.block 0 (.seq (.block 4 (.block 3 (.block 2 (.block 1 (.seq (.seq (.seq (.region [.mk (faR 0 (X.t (o z))) (.some (i (i z))) Gd.no [],
   .mk (ldR false 1 (X.t (i (i z)))) (.some (o (o (o z)))) Gd.no [],
   .mk (binR Tryz.prog EK.no .none true BinOp.lss (X.t (o (o (o z)))) (X.c (AV.int .i64 1))) (.some (i (o (o z)))) Gd.no [],
   .mk (mvR (X.t (i (o (o z))))) (.some (o (i (o z)))) Gd.no [],
   .mk (faR 0 (X.t (o z))) (.some (i (i (o z)))) (Gd.on (o (i (o z))) false) [],
   .mk (ldR false 1 (X.t (i (i (o z))))) (.some (o (o (i z)))) (Gd.on (o (i (o z))) false) [],
   .mk (binR Tryz.prog EK.no .none true BinOp.gtr (X.t (o (o (i z)))) (X.c (AV.int .i64 1000000000000))) (.some (i (o (i z)))) (Gd.on (o (i (o z))) false) [],
   .mk (pickR (X.t (o (i (o z)))) (X.c (AV.bool true)) (X.t (i (o (i z))))) (.some (o (i (i z)))) Gd.no [],
   .mk (mvR (X.t (o (i (i z))))) (.some (i (i (i z)))) Gd.no [],
   .mk (faR 1 (X.t (o z))) (.some (o (o (o (o z))))) (Gd.on (i (i (i z))) false) [],
   .mk (ldR false 1 (X.t (o (o (o (o z)))))) (.some (i (o (o (o z))))) (Gd.on (i (i (i z))) false) [],
   .mk (binR Tryz.prog EK.no .none true BinOp.lss (X.t (i (o (o (o z))))) (X.c (AV.int .i64 1))) (.some (o (i (o (o z))))) (Gd.on (i (i (i z))) false) [],
   .mk (pickR (X.t (i (i (i z)))) (X.c (AV.bool true)) (X.t (o (i (o (o z)))))) (.some (i (i (o (o z))))) Gd.no [],
   .mk (mvR (X.t (i (i (o (o z)))))) (.some (o (o (i (o z))))) Gd.no [],
   .mk (faR 1 (X.t (o z))) (.some (i (o (i (o z))))) (Gd.on (o (o (i (o z)))) false) [],
   .mk (ldR false 1 (X.t (i (o (i (o z)))))) (.some (o (i (i (o z))))) (Gd.on (o (o (i (o z)))) false) [],
   .mk (binR Tryz.prog EK.no .none true BinOp.gtr (X.t (o (i (i (o z))))) (X.c (AV.int .i64 1000000))) (.some (i (i (i (o z))))) (Gd.on (o (o (i (o z)))) false) [],
   .mk (pickR (X.t (o (o (i (o z))))) (X.c (AV.bool true)) (X.t (i (i (i (o z)))))) (.some (o (o (o (i z))))) Gd.no [],
   .mk (mvR (X.t (o (o (o (i z)))))) (.some (o (i z))) Gd.no []])
  (.cond (X.t (o (i z)))
  (.exit 1)
  .skip))
  (.seq (.seq (.region [.mk (faR 2 (X.t (o z))) (.some (o (i (o (i z))))) Gd.no [],
   .mk (ldR true 2 (X.t (o (i (o (i z)))))) (.some (i (i (o (i z))))) Gd.no [],
   .mk (callS Tryz.prog 62 [(X.t (i (i (o (i z)))))]) (.some (o (o (i (i z))))) Gd.no [],
   .mk (unR UnOp.not (X.t (o (o (i (i z)))))) (.some (i (o (i (i z))))) Gd.no [],
   .mk (mvR (X.t (i (o (i (i z)))))) (.some (o (i (i (i z))))) Gd.no [],
   .mk (faR 5 (X.t (o z))) (.some (i (i (i (i z))))) (Gd.on (o (i (i (i z)))) false) [],
   .mk (ldR false 1 (X.t (i (i (i (i z)))))) (.some (o (o (o (o (o z)))))) (Gd.on (o (i (i (i z)))) false) [],
   .mk (mvR (X.t (o (o z)))) (.some (i (o (o (o (o z)))))) (Gd.on (o (i (i (i z)))) false) [],
   .mk (callS Tryz.prog 63 [(X.t (o (o (o (o (o z)))))), (X.t (i (o (o (o (o z))))))]) (.some (o (i (o (o (o z)))))) (Gd.on (o (i (i (i z)))) false) [],
   .mk (pickR (X.t (o (i (i (i z))))) (X.c (AV.bool true)) (X.t (o (i (o (o (o z))))))) (.some (i (i (o (o (o z)))))) Gd.no [],
   .mk (mvR (X.t (i (i (o (o (o z))))))) (.some (i (o (o (i z))))) Gd.no []])
  (.cond (X.t (i (o (o (i z)))))
  (.exit 2)
  .skip))
  (.seq (.seq (.region [.mk (faR 6 (X.t (o z))) (.some (i (o (i (o (o z)))))) Gd.no [],
   .mk (ldR false 1 (X.t (i (o (i (o (o z))))))) (.some (o (i (i (o (o z)))))) Gd.no [],
   .mk (lenR LnK.slice (X.t (o (i (i (o (o z))))))) (.some (i (i (i (o (o z)))))) Gd.no [],
   .mk (binR Tryz.prog EK.no .none true BinOp.gtr (X.t (i (i (i (o (o z)))))) (X.c (AV.int .i64 24))) (.some (o (o (o (i (o z)))))) Gd.no [],
   .mk (mvR (X.t (o (o (o (i (o z))))))) (.some (i (o (o (i (o z)))))) Gd.no [],
   .mk (faR 6 (X.t (o z))) (.some (o (i (o (i (o z)))))) (Gd.on (i (o (o (i (o z))))) false) [],
   .mk (ldR false 1 (X.t (o (i (o (i (o z))))))) (.some (i (i (o (i (o z)))))) (Gd.on (i (o (o (i (o z))))) false) [],
   .mk (faR 5 (X.t (o z))) (.some (o (o (i (i (o z)))))) (Gd.on (i (o (o (i (o z))))) false) [],
   .mk (ldR false 1 (X.t (o (o (i (i (o z))))))) (.some (i (o (i (i (o z)))))) (Gd.on (i (o (o (i (o z))))) false) [],
   .mk (callS Tryz.prog 64 [(X.t (i (i (o (i (o z)))))), (X.t (i (o (i (i (o z))))))]) (.some (o (i (i (i (o z)))))) (Gd.on (i (o (o (i (o z))))) false) [],
   .mk (unR UnOp.not (X.t (o (i (i (i (o z))))))) (.some (i (i (i (i (o z)))))) (Gd.on (i (o (o (i (o z))))) false) [],
   .mk (pickR (X.t (i (o (o (i (o z)))))) (X.c (AV.bool true)) (X.t (i (i (i (i (o z))))))) (.some (o (o (o (o (i z)))))) Gd.no [],
   .mk (mvR (X.t (o (o (o (o (i z))))))) (.some (o (o (i (o (o z)))))) Gd.no []])
  (.cond (X.t (o (o (i (o (o z))))))
  (.exit 3)
  .skip))
  (.seq (.region [.mk (faR 7 (X.t (o z))) (.some (o (i (o (o (i z)))))) Gd.no [],
   .mk (ldR false 1 (X.t (o (i (o (o (i z))))))) (.some (i (i (o (o (i z)))))) Gd.no [],
   .mk (callS Tryz.prog 65 [(X.t (i (i (o (o (i z))))))]) (.some (o (o (i (o (i z)))))) Gd.no [],
   .mk (unR UnOp.not (X.t (o (o (i (o (i z))))))) (.some (i (o (i (o (i z)))))) Gd.no [],
   .mk (mvR (X.t (i (o (i (o (i z))))))) (.some (i (o (o (o (i z)))))) Gd.no []])
  (.cond (X.t (i (o (o (o (i z))))))
  (.exit 4)
  .skip)))))
  (.exit 0))))))
  (.seq (.seq (.region [.mk (mvR (X.c (AV.bool false))) (.some (i z)) Gd.no []])
  .ret)
  (.exit 0))))
  (.seq (.region [.mk (mvR (X.c (AV.bool true))) (.some (i z)) Gd.no []])
  .ret))))
theorem C22ok : (match Tryz.f22.body with | some c => comp Tryz.prog 53 c | none => none) = some C22 := by kernel_rfl
@[go_sem] theorem call22 (args : List AV) (H : Heap) : callC Tryz.prog 22 args H = .call 22 args := callC_ok (by kernel_rfl) args H
theorem R22ok : resKs Tryz.prog Tryz.f22.results.toList = some [(RK.tmp (i z))] := by kernel_rfl

@[go_sem] theorem call26 (args : List AV) (H : Heap) : callC Tryz.prog 26 args H = .call 26 args := callC_ok (by kernel_rfl) args H
@[go_sem] theorem call28 (args : List AV) (H : Heap) : callC Tryz.prog 28 args H = .call 28 args := callC_ok (by kernel_rfl) args H
@[go_sem] theorem call31 (args : List AV) (H : Heap) : callC Tryz.prog 31 args H = .call 31 args := callC_ok (by kernel_rfl) args H
@[go_sem] theorem call32 (args : List AV) (H : Heap) : callC Tryz.prog 32 args H = .call 32 args := callC_ok (by kernel_rfl) args H
@[go_sem] theorem call33 (args : List AV) (H : Heap) : callC Tryz.prog 33 args H = .call 33 args := callC_ok (by kernel_rfl) args H
noncomputable def C37L0 : CC :=
  (.seq (.region [.mk (binR Tryz.prog EK.no .none false BinOp.lss (X.t (o (o (o (o (o z)))))) (X.t (i (i (i (i z)))))) (.some (i (o (o (o (o z)))))) Gd.no []])
  (.seq (.cond (X.t (i (o (o (o (o z))))))
  .skip
  (.exit 2))
  (.seq (.block 3 (.seq (.region [.mk (mvR (X.t (o (o (o (o (o z))))))) (.some (o (i (o (o (o z)))))) Gd.no [],
   .mk (mvR (X.t (o (i (o (o (o z))))))) (.some (i (o (i z)))) Gd.no []])
  (.seq (.regionD [.mk (keepH (faR 0 (X.t (o (o (i z)))))) (.some (o (o (o (i (o z)))))) Gd.no [],
   .mk (keepH (ldR false 1 (X.t (o (o (o (i (o z)))))))) (.some (i (o (o (i (o z)))))) Gd.no [],
   .mk (keepH (mvR (X.t (i (o (i z)))))) (.some (o (o (i (o (o z)))))) Gd.no [],
   .mk (keepH (mvR (X.t (o (i (o z)))))) (.some (i (i (o (o (o z)))))) Gd.no [],
   .mk (keepH (iaS 5 (X.t (i (i (o (o (o z)))))) (X.t (o (o (i (o (o z)))))))) (.some (i (o (i (o (o z)))))) Gd.no [],
   .mk (keepH (faR 0 (X.t (i (o (i (o (o z)))))))) (.some (o (i (i (o (o z)))))) Gd.no [],
   .mk (keepH (ldR false 1 (X.t (o (i (i (o (o z)))))))) (.some (i (i (i (o (o z)))))) Gd.no [],
   .mk (keepH (binR Tryz.prog EK.no .none false BinOp.eql (X.t (i (i (i (o (o z)))))) (X.t (i (o (o (i (o z)))))))) (.some (o (i (o (i (o z)))))) Gd.no []])
  (.cond (X.t (o (i (o (i (o z))))))
  (.regionD [.mk (keepH (faR 1 (X.t (o (o (i z)))))) (.some (o (i (o (o (i z)))))) Gd.no [],
   .mk (keepH (ldR false 1 (X.t (o (i (o (o (i z)))))))) (.some (i (i (o (o (i z)))))) Gd.no [],
   .mk (keepH (mvR (X.t (i (o (i z)))))) (.some (o (i (i (i (o z)))))) Gd.no [],
   .mk (keepH (mvR (X.t (o (i (o z)))))) (.some (i (o (i (i (o z)))))) Gd.no [],
   .mk (keepH (iaS 5 (X.t (i (o (i (i (o z)))))) (X.t (o (i (i (i (o z)))))))) (.some (i (i (i (i (o z)))))) Gd.no [],
   .mk (keepH (faR 4 (X.t (i (i (i (i (o z)))))))) (.some (o (o (o (o (i z)))))) Gd.no [],
   .mk (keepH (ldR false 1 (X.t (o (o (o (o (i z)))))))) (.some (i (o (o (o (i z)))))) Gd.no [],
   .mk (keepH (mmR true (X.t (i (o (o (o (i z)))))) (X.t (i (i (o (o (i z)))))))) (.some (o (o (i (o (i z)))))) Gd.no [],
   .mk (keepH (mvR (X.t (i (o (i z)))))) (.some (o (o (i (i (o z)))))) Gd.no [],
   .mk (keepH (mvR (X.t (o (i (o z)))))) (.some (i (i (o (i (o z)))))) Gd.no [],
   .mk (keepH (iaS 5 (X.t (i (i (o (i (o z)))))) (X.t (o (o (i (i (o z)))))))) (.some (i (o (i (o (i z)))))) Gd.no [],
   .mk (keepH (faR 4 (X.t (i (o (i (o (i z)))))))) (.some (o (i (i (o (i z)))))) Gd.no [],
   .mk (stR 1 (X.t (o (i (i (o (i z)))))) (X.t (o (o (i (o (i z))))))) .none Gd.no []])
  .skip))))
  (.region [.mk (binR Tryz.prog EK.no .none true BinOp.add (X.t (o (o (o (o (o z)))))) (X.c (AV.int .i64 1))) (.some (i (i (i (o (i z)))))) Gd.no [],
   .mk (mvR (X.t (i (i (i (o (i z))))))) (.some (o (o (o (o (o z)))))) Gd.no []]))))
noncomputable def C37L1 : CC :=
  (.seq (.region [.mk (binR Tryz.prog EK.no .none false BinOp.lss (X.t (o (i (o (i z))))) (X.t (i (o (o (i z)))))) (.some (i (i (o (i z))))) Gd.no []])
  (.seq (.cond (X.t (i (i (o (i z)))))
  .skip
  (.exit 0))
  (.seq (.block 1 (.seq (.region [.mk (iaS 4 (X.t (o (o (o (i z))))) (X.t (o (i (o (i z)))))) (.some (o (o (i (i z))))) Gd.no [],
   .mk (ldR true 4 (X.t (o (o (i (i z)))))) (.some (i (o (i (i z))))) Gd.no [],
   .mk (fun _ H => newC false [(AV.str []), (AV.int .i64 0), (AV.str []), (AV.bool false)] H) (.some (o (o (i z)))) Gd.no [],
   .mk (stR 4 (X.t (o (o (i z)))) (X.t (i (o (i (i z)))))) .none Gd.no []])
  (.seq (.region [.mk (mvR (X.t (o (i (o z))))) (.some (o (i (i (i z))))) Gd.no [],
   .mk (lenR LnK.slice (X.t (o (i (i (i z)))))) (.some (i (i (i (i z))))) Gd.no [],
   .mk (mvR (X.c (AV.int .i64 0))) (.some (o (o (o (o (o z)))))) Gd.no []])
  (.block 2 (.loop C37L0)))))
  (.region [.mk (binR Tryz.prog EK.no .none true BinOp.add (X.t (o (i (o (i z))))) (X.c (AV.int .i64 1))) (.some (o (o (o (i (i z)))))) Gd.no [],
   .mk (mvR (X.t (o (o (o (i (i z))))))) (.some (o (i (o (i z))))) Gd.no []]))))
noncomputable def C37 : CC :=
  (.seq (.region [.mk (mvR (X.c AV.nils)) (.some (i (i z))) Gd.no [],
   .mk (mvR (X.c AV.nils)) (.some (o (o (o z)))) Gd.no []])
  (.seq (.region [.mk (mvR (X.t z)) (.some (o (i (i z)))) Gd.no [],
   .mk (lenR LnK.slice (X.t (o (i (i z))))) (.some (i (i (i z)))) Gd.no [],
   .mk (mvR (X.t (i z))) (.some (o (o (o (o z))))) Gd.no [],
   .mk (mmR true (X.t (o (o (o (o z))))) (X.c (AV.int .i64 0))) (.some (i (o (o (o z))))) Gd.no [],
   .mk (binR Tryz.prog EK.no .none false BinOp.sub (X.t (i (i (i z)))) (X.t (i (o (o (o z)))))) (.some (o (i (o (o z))))) Gd.no [],
   .mk (mmR true (X.t (o (i (o (o z))))) (X.c (AV.int .i64 0))) (.some (i (i (o (o z))))) Gd.no [],
   .mk (mvR (X.t (i (i (o (o z)))))) (.some (i (o (o z)))) Gd.no []])
  (.seq (.region [.mk (mvR (X.t (o z))) (.some (o (o (i (o z))))) Gd.no [],
   .mk (callS Tryz.prog 80 [(X.t (o (o (i (o z)))))]) (.some (i (o (i (o z))))) Gd.no [],
   .mk (mvR (X.t (i (o (i (o z)))))) (.some (o (i (o z)))) Gd.no []])
  (.seq (.seq (.region [.mk (mvR (X.t z)) (.some (o (i (i (o z))))) Gd.no [],
   .mk (mvR (X.t (i (o (o z))))) (.some (i (i (i (o z))))) Gd.no [],
   .mk (slvR 4 (X.t (o (i (i (o z))))) .none (.some (X.t (i (i (i (o z)))))) .none) (.some (o (o (o (i z))))) Gd.no [],
   .mk (lenR LnK.slice (X.t (o (o (o (i z)))))) (.some (i (o (o (i z))))) Gd.no [],
   .mk (mvR (X.c (AV.int .i64 0))) (.some (o (i (o (i z))))) Gd.no []])
  (.block 0 (.loop C37L1)))
  (.seq (.region [.mk (mvR (X.t z)) (.some (i (o (o (i (i z)))))) Gd.no [],
   .mk (mvR (X.t (i (o (o z))))) (.some (o (i (o (i (i z)))))) Gd.no [],
   .mk (slvR 4 (X.t (i (o (o (i (i z)))))) (.some (X.t (o (i (o (i (i z))))))) .none .none) (.some (i (i (o (i (i z)))))) Gd.no [],
   .mk (callS Tryz.prog 81 [(X.t (i (i (o (i (i z))))))]) (.some (o (o (i (i (i z)))))) Gd.no [],
   .mk (mvR (X.t (o (i (o z))))) (.some (i (o (i (i (i z)))))) Gd.no [],
   .mk (mvR (X.t (o (o (i (i (i z))))))) (.some (i (i z))) Gd.no [],
   .mk (mvR (X.t (i (o (i (i (i z))))))) (.some (o (o (o z)))) Gd.no []])
  .ret)))))
theorem C37ok : (match Tryz.f37.body with | some c => comp Tryz.prog 61 c | none => none) = some C37 := by kernel_rfl
@[go_sem] theorem call37 (args : List AV) (H : Heap) : callC Tryz.prog 37 args H = .call 37 args := callC_ok (by kernel_rfl) args H
theorem R37ok : resKs Tryz.prog Tryz.f37.results.toList = some [(RK.tmp (i (i z))), (RK.tmp (o (o (o z))))] := by kernel_rfl

@[go_sem] theorem call43 (args : List AV) (H : Heap) : callC Tryz.prog 43 args H = .call 43 args := callC_ok (by kernel_rfl) args H
noncomputable def C45L0 : CC :=
  (.seq (.seq (.region [.mk (mvR (X.t (o (i z)))) (.some (o (o (i z)))) Gd.no [],
   .mk (mvR (X.t z)) (.some (i (o (i z)))) Gd.no [],
   .mk (lenR LnK.slice (X.t (i (o (i z))))) (.some (o (i (i z)))) Gd.no [],
   .mk (binR Tryz.prog EK.no .none false BinOp.lss (X.t (o (o (i z)))) (X.t (o (i (i z))))) (.some (i (i (i z)))) Gd.no []])
  (.cond (X.t (i (i (i z))))
  .skip
  (.exit 0)))
  (.seq (.block 1 (.seq (.regionD [.mk (keepH (mvR (X.t (o (i z))))) (.some (i (i (i (o z))))) Gd.no [],
   .mk (keepH (mvR (X.t (o z)))) (.some (o (i (i (o z))))) Gd.no [],
   .mk (keepH (iaS 4 (X.t (o (i (i (o z))))) (X.t (i (i (i (o z))))))) (.some (o (o (o (i z))))) Gd.no [],
   .mk (keepH (ldR true 4 (X.t (o (o (o (i z))))))) (.some (i (o (o (i z))))) Gd.no [],
   .mk (keepH (mvR (X.t (o (i z))))) (.some (i (i (o (o z))))) Gd.no [],
   .mk (keepH (mvR (X.t z))) (.some (o (i (o (o z))))) Gd.no [],
   .mk (keepH (iaS 4 (X.t (o (i (o (o z))))) (X.t (i (i (o (o z))))))) (.some (o (o (i (o z))))) Gd.no [],
   .mk (keepH (ldR true 4 (X.t (o (o (i (o z))))))) (.some (i (o (i (o z))))) Gd.no [],
   .mk (keepH (binR Tryz.prog EK.no (.some [LK.str, LK.int, LK.str, LK.bool]) false BinOp.neq (X.t (i (o (i (o z))))) (X.t (i (o (o (i z))))))) (.some (o (i (o (i z))))) Gd.no []])
  (.cond (X.t (o (i (o (i z)))))
  (.seq (.region [.mk (mvR (X.c (AV.bool false))) (.some (i (o z))) Gd.no []])
  .ret)
  .skip)))
  (.region [.mk (mvR (X.t (o (i z)))) (.some (o (o (o (o z))))) Gd.no [],
   .mk (binR Tryz.prog EK.no .none true BinOp.add (X.t (o (o (o (o z))))) (X.c (AV.int .i64 1))) (.some (i (o (o (o z))))) Gd.no [],
   .mk (mvR (X.t (i (o (o (o z)))))) (.some (o (i z))) Gd.no []])))
noncomputable def C45 : CC :=
  (.seq (.region [.mk (mvR (X.c (AV.bool false))) (.some (i (o z))) Gd.no []])
  (.seq (.seq (.region [.mk (mvR (X.t z)) (.some (i (i z))) Gd.no [],
   .mk (lenR LnK.slice (X.t (i (i z)))) (.some (o (o (o z)))) Gd.no [],
   .mk (mvR (X.t (o z))) (.some (i (o (o z)))) Gd.no [],
   .mk (lenR LnK.slice (X.t (i (o (o z))))) (.some (o (i (o z)))) Gd.no [],
   .mk (binR Tryz.prog EK.no .none false BinOp.neq (X.t (o (o (o z)))) (X.t (o (i (o z))))) (.some (i (i (o z)))) Gd.no []])
  (.cond (X.t (i (i (o z))))
  (.seq (.region [.mk (mvR (X.c (AV.bool false))) (.some (i (o z))) Gd.no []])
  .ret)
  .skip))
  (.seq (.seq (.region [.mk (mvR (X.c (AV.int .i64 0))) (.some (o (i z))) Gd.no []])
  (.block 0 (.loop C45L0)))
  (.seq (.region [.mk (mvR (X.c (AV.bool true))) (.some (i (o z))) Gd.no []])
  .ret))))
theorem C45ok : (match Tryz.f45.body with | some c => comp Tryz.prog 26 c | none => none) = some C45 := by kernel_rfl
@[go_sem] theorem call45 (args : List AV) (H : Heap) : callC Tryz.prog 45 args H = .call 45 args := callC_ok (by kernel_rfl) args H
theorem R45ok : resKs Tryz.prog Tryz.f45.results.toList = some [(RK.tmp (i (o z)))] := by kernel_rfl

noncomputable def C60 : CC :=
  (.seq (.region [.mk (boxR false (X.t z)) (.some (i z)) Gd.no [],
   .mk (mvR (X.c (AV.bool false))) (.some (o (o z))) Gd.no []])
  (.seq (.region [.mk (faR 2 (X.t (o z))) (.some (i (o z))) Gd.no [],
   .mk (ldR true 2 (X.t (i (o z)))) (.some (o (i z))) Gd.no [],
   .mk (faR 0 (X.t (i z))) (.some (i (i z))) Gd.no [],
   .mk (ldR false 1 (X.t (i (i z)))) (.some (o (o (o z)))) Gd.no [],
   .mk (callS Tryz.prog 61 [(X.t (o (i z))), (X.t (o (o (o z))))]) (.some (i (o (o z)))) Gd.no [],
   .mk (unR UnOp.not (X.t (i (o (o z))))) (.some (o (i (o z)))) Gd.no [],
   .mk (mvR (X.t (o (i (o z))))) (.some (o (o z))) Gd.no []])
  .ret))
theorem C60ok : (match Tryz.f60.body with | some c => comp Tryz.prog 10 c | none => none) = some C60 := by kernel_rfl
@[go_sem] theorem call60 (args : List AV) (H : Heap) : callC Tryz.prog 60 args H = .call 60 args := callC_ok (by kernel_rfl) args H
theorem R60ok : resKs Tryz.prog Tryz.f60.results.toList = some [(RK.tmp (o (o z)))] := by kernel_rfl

noncomputable def C63 : CC :=
  (.seq (.region [.mk (mvR (X.c (AV.bool false))) (.some (i (o z))) Gd.no []])
  (.seq (.region [.mk (mvR (X.t z)) (.some (o (i z))) Gd.no [],
   .mk (mvR (X.t (o z))) (.some (i (i z))) Gd.no [],
   .mk (callS Tryz.prog 114 [(X.t (o (i z))), (X.t (i (i z)))]) (.some (o (o (o z)))) Gd.no [],
   .mk (binR Tryz.prog EK.no .none true BinOp.geq (X.t (o (o (o z)))) (X.c (AV.int .i64 0))) (.some (i (o (o z)))) Gd.no [],
   .mk (mvR (X.t (i (o (o z))))) (.some (i (o z))) Gd.no []])
  .ret))
theorem C63ok : (match Tryz.f63.body with | some c => comp Tryz.prog 9 c | none => none) = some C63 := by kernel_rfl
@[go_sem] theorem call63 (args : List AV) (H : Heap) : callC Tryz.prog 63 args H = .call 63 args := callC_ok (by kernel_rfl) args H
theorem R63ok : resKs Tryz.prog Tryz.f63.results.toList = some [(RK.tmp (i (o z)))] := by kernel_rfl

noncomputable def C64L0 : CC :=
  (.seq (.region [.mk (binR Tryz.prog EK.no .none false BinOp.lss (X.t (i (i (i z)))) (X.t (o (i (i z))))) (.some (o (o (o (o z))))) Gd.no []])
  (.seq (.cond (X.t (o (o (o (o z)))))
  .skip
  (.exit 0))
  (.seq (.block 1 (.seq (.region [.mk (iaS 4 (X.t (i (o (i z)))) (X.t (i (i (i z))))) (.some (i (o (o (o z))))) Gd.no [],
   .mk (ldR true 4 (X.t (i (o (o (o z)))))) (.some (o (i (o (o z))))) Gd.no [],
   .mk (fun _ H => newC false [(AV.str []), (AV.int .i64 0), (AV.str []), (AV.bool false)] H) (.some (i (i z))) Gd.no [],
   .mk (stR 4 (X.t (i (i z))) (X.t (o (i (o (o z)))))) .none Gd.no []])
  (.seq (.region [.mk (mvR (X.t (o z))) (.some (o (o (i (o z))))) Gd.no [],
   .mk (faR 0 (X.t (i (i z)))) (.some (i (o (i (o z))))) Gd.no [],
   .mk (ldR false 1 (X.t (i (o (i (o z)))))) (.some (o (i (i (o z))))) Gd.no [],
   .mk (callS Tryz.prog 106 [(X.t (o (o (i (o z))))), (X.t (o (i (i (o z)))))]) (.some (i (i (i (o z))))) Gd.no [],
   .mk (mvR (X.t (i (i (i (o z)))))) (.some (i (i (o (o z))))) Gd.no [],
   .mk (extR (X.t (i (i (o (o z))))) 0) (.some (o (o (o (i z))))) Gd.no [],
   .mk (extR (X.t (i (i (o (o z))))) 1) (.some (i (o (o (i z))))) Gd.no [],
   .mk (fun _ H => newC false [(AV.str []), (AV.str []), (AV.int .i64 0), (AV.bool false), (AV.int .i64 0)] H) (.some (o (o (o z)))) Gd.no [],
   .mk (stR 5 (X.t (o (o (o z)))) (X.t (o (o (o (i z)))))) .none Gd.no [],
   .mk (mvR (X.t (i (o (o (i z)))))) (.some (i (o (o z)))) Gd.no []])
  (.block 2 (.seq (.block 4 (.block 3 (.seq (.seq (.seq (.region [.mk (mvR (X.t (i (o (o z))))) (.some (i (i (o (i z))))) Gd.no [],
   .mk (unR UnOp.not (X.t (i (i (o (i z)))))) (.some (o (o (i (i z))))) Gd.no [],
   .mk (mvR (X.t (o (o (i (i z)))))) (.some (o (i (o (i z))))) Gd.no []])
  (.cond (X.t (o (i (o (i z)))))
  (.exit 3)
  .skip))
  (.seq (.region [.mk (ldR true 4 (X.t (i (i z)))) (.some (o (i (i (i z))))) Gd.no [],
   .mk (callS Tryz.prog 116 [(X.t (o (i (i (i z)))))]) (.some (i (i (i (i z))))) Gd.no [],
   .mk (unR UnOp.not (X.t (i (i (i (i z)))))) (.some (o (o (o (o (o z)))))) Gd.no [],
   .mk (mvR (X.t (o (o (o (o (o z))))))) (.some (i (o (i (i z))))) Gd.no []])
  (.cond (X.t (i (o (i (i z)))))
  (.exit 4)
  .skip)))
  (.exit 2))))
  (.seq (.seq (.region [.mk (mvR (X.c (AV.bool false))) (.some (i (o z))) Gd.no []])
  .ret)
  (.exit 2)))))))
  (.region [.mk (binR Tryz.prog EK.no .none true BinOp.add (X.t (i (i (i z)))) (X.c (AV.int .i64 1))) (.some (i (o (o (o (o z)))))) Gd.no [],
   .mk (mvR (X.t (i (o (o (o (o z))))))) (.some (i (i (i z)))) Gd.no []]))))
noncomputable def C64 : CC :=
  (.seq (.region [.mk (boxR false (X.t z)) (.some (i z)) Gd.no [],
   .mk (mvR (X.c (AV.bool false))) (.some (i (o z))) Gd.no []])
  (.seq (.seq (.region [.mk (mvR (X.t (o z))) (.some (o (i (o z)))) Gd.no [],
   .mk (callS Tryz.prog 115 [(X.t (o (i (o z))))]) (.some (i (i (o z)))) Gd.no [],
   .mk (unR UnOp.not (X.t (i (i (o z))))) (.some (o (o (i z)))) Gd.no []])
  (.cond (X.t (o (o (i z))))
  (.seq (.region [.mk (mvR (X.c (AV.bool false))) (.some (i (o z))) Gd.no []])
  .ret)
  .skip))
  (.seq (.seq (.region [.mk (ldR false 1 (X.t (i z))) (.some (i (o (i z)))) Gd.no [],
   .mk (lenR LnK.slice (X.t (i (o (i z))))) (.some (o (i (i z)))) Gd.no [],
   .mk (mvR (X.c (AV.int .i64 0))) (.some (i (i (i z)))) Gd.no []])
  (.block 0 (.loop C64L0)))
  (.seq (.region [.mk (mvR (X.t (o z))) (.some (o (i (o (o (o z)))))) Gd.no [],
   .mk (mkfR (Fn.func 117) [] [(X.t (i z))]) (.some (i (i (o (o (o z)))))) Gd.no [],
   .mk (callS Tryz.prog 63 [(X.t (o (i (o (o (o z)))))), (X.t (i (i (o (o (o z))))))]) (.some (o (o (i (o (o z)))))) Gd.no [],
   .mk (unR UnOp.not (X.t (o (o (i (o (o z))))))) (.some (i (o (i (o (o z)))))) Gd.no [],
   .mk (mvR (X.t (i (o (i (o (o z))))))) (.some (i (o z))) Gd.no []])
  .ret))))
theorem C64ok : (match Tryz.f64.body with | some c => comp Tryz.prog 37 c | none => none) = some C64 := by kernel_rfl
@[go_sem] theorem call64 (args : List AV) (H : Heap) : callC Tryz.prog 64 args H = .call 64 args := callC_ok (by kernel_rfl) args H
theorem R64ok : resKs Tryz.prog Tryz.f64.results.toList = some [(RK.tmp (i (o z)))] := by kernel_rfl

noncomputable def C69 : CC :=
  (.seq (.region [.mk (boxR false (X.t z)) (.some (i z)) Gd.no [],
   .mk (boxR false (X.t (o z))) (.some (o (o z))) Gd.no [],
   .mk (fun _ H => newC false [(AV.str []), (AV.str [])] H) (.some (i (o z))) Gd.no [],
   .mk (mvR (X.c (AV.bool false))) (.some (o (i z))) Gd.no []])
  (.seq (.regionD [.mk (addH (fun _ H => newC false [(AV.str []), (AV.str [])] H)) (.some (i (i z))) Gd.no [],
   .mk (keepH (faR 1 (X.t (o (o z))))) (.some (i (i (i z)))) Gd.no [],
   .mk (keepH (ldR false 1 (X.t (i (i (i z)))))) (.some (o (o (o (o z))))) Gd.no [],
   .mk (keepH (faR 1 (X.t (i z)))) (.some (i (o (i z)))) Gd.no [],
   .mk (keepH (ldR false 1 (X.t (i (o (i z)))))) (.some (o (i (i z)))) Gd.no [],
   .mk (keepH (faR 0 (X.t (o (o z))))) (.some (o (i (o z)))) Gd.no [],
   .mk (keepH (ldR false 1 (X.t (o (i (o z)))))) (.some (i (i (o z)))) Gd.no [],
   .mk (keepH (faR 0 (X.t (i z)))) (.some (o (o (o z)))) Gd.no [],
   .mk (keepH (ldR false 1 (X.t (o (o (o z)))))) (.some (i (o (o z)))) Gd.no [],
   .mk (keepH (mmR true (X.t (i (o (o z)))) (X.t (i (i (o z)))))) (.some (o (o (i z)))) Gd.no [],
   .mk (callS Tryz.prog 122 [(X.t (o (i (i z)))), (X.t (o (o (o (o z)))))]) (.some (i (o (o (o z))))) Gd.no [.mk (mmR true (X.t (i (o (o z)))) (X.t (i (i (o z))))) (.some (o (o (i z)))) Gd.no, .mk (ldR false 1 (X.t (o (o (o z))))) (.some (i (o (o z)))) Gd.no, .mk (faR 0 (X.t (i z))) (.some (o (o (o z)))) Gd.no, .mk (ldR false 1 (X.t (o (i (o z))))) (.some (i (i (o z)))) Gd.no, .mk (faR 0 (X.t (o (o z)))) (.some (o (i (o z)))) Gd.no],
   .mk (keepH (buildR [(AV.str []), (AV.str [])] [(0, (1, (X.t (o (o (i z)))))), (1, (1, (X.t (i (o (o (o z)))))))])) (.some (o (i (o (o z))))) Gd.no [],
   .mk (stR 2 (X.t (i (i z))) (X.t (o (i (o (o z)))))) .none Gd.no []])
  (.seq (.seq (.region [.mk (ldR true 2 (X.t (i z))) (.some (i (i (o (o z))))) Gd.no [],
   .mk (callS Tryz.prog 62 [(X.t (i (i (o (o z)))))]) (.some (o (o (i (o z))))) Gd.no [],
   .mk (unR UnOp.not (X.t (o (o (i (o z)))))) (.some (i (o (i (o z))))) Gd.no [],
   .mk (mvR (X.t (i (o (i (o z)))))) (.some (o (i (i (o z))))) Gd.no [],
   .mk (ldR true 2 (X.t (o (o z)))) (.some (i (i (i (o z))))) (Gd.on (o (i (i (o z)))) false) [],
   .mk (callS Tryz.prog 62 [(X.t (i (i (i (o z)))))]) (.some (o (o (o (i z))))) (Gd.on (o (i (i (o z)))) false) [],
   .mk (unR UnOp.not (X.t (o (o (o (i z)))))) (.some (i (o (o (i z))))) (Gd.on (o (i (i (o z)))) false) [],
   .mk (pickR (X.t (o (i (i (o z))))) (X.c (AV.bool true)) (X.t (i (o (o (i z)))))) (.some (o (i (o (i z))))) Gd.no [],
   .mk (mvR (X.t (o (i (o (i z)))))) (.some (i (i (o (i z))))) Gd.no [],
   .mk (faR 1 (X.t (i (i z)))) (.some (o (o (i (i z))))) (Gd.on (i (i (o (i z)))) false) [],
   .mk (ldR false 1 (X.t (o (o (i (i z)))))) (.some (i (o (i (i z))))) (Gd.on (i (i (o (i z)))) false) [],
   .mk (binR Tryz.prog EK.no .none true BinOp.neq (X.t (i (o (i (i z))))) (X.c (AV.str []))) (.some (o (i (i (i z))))) (Gd.on (i (i (o (i z)))) false) [],
   .mk (mvR (X.t (o (i (i (i z)))))) (.some (i (i (i (i z))))) (Gd.on (i (i (o (i z)))) false) [],
   .mk (faR 0 (X.t (i (i z)))) (.some (o (o (o (o (o z)))))) (Gd.on (i (i (i (i z)))) true) [],
   .mk (ldR false 1 (X.t (o (o (o (o (o z))))))) (.some (i (o (o (o (o z)))))) (Gd.on (i (i (i (i z)))) true) [],
   .mk (faR 1 (X.t (i (i z)))) (.some (o (i (o (o (o z)))))) (Gd.on (i (i (i (i z)))) true) [],
   .mk (ldR false 1 (X.t (o (i (o (o (o z))))))) (.some (i (i (o (o (o z)))))) (Gd.on (i (i (i (i z)))) true) [],
   .mk (binR Tryz.prog EK.no .none false BinOp.geq (X.t (i (o (o (o (o z)))))) (X.t (i (i (o (o (o z))))))) (.some (o (o (i (o (o z)))))) (Gd.on (i (i (i (i z)))) true) [],
   .mk (pickR (X.t (i (i (i (i z))))) (X.t (o (o (i (o (o z)))))) (X.c (AV.bool false))) (.some (i (o (i (o (o z)))))) (Gd.on (i (i (o (i z)))) false) [],
   .mk (pickR (X.t (i (i (o (i z))))) (X.c (AV.bool true)) (X.t (i (o (i (o (o z))))))) (.some (o (i (i (o (o z)))))) Gd.no []])
  (.cond (X.t (o (i (i (o (o z))))))
  (.seq (.region [.mk (buildR [(AV.str []), (AV.str [])] []) (.some (i (i (i (o (o z)))))) Gd.no [],
   .mk (stR 2 (X.t (i (o z))) (X.t (i (i (i (o (o z))))))) .none Gd.no [],
   .mk (mvR (X.c (AV.bool false))) (.some (o (i z))) Gd.no []])
  .ret)
  .skip))
  (.seq (.region [.mk (ldR true 2 (X.t (i (i z)))) (.some (o (o (o (i (o z)))))) Gd.no [],
   .mk (stR 2 (X.t (i (o z))) (X.t (o (o (o (i (o z))))))) .none Gd.no [],
   .mk (mvR (X.c (AV.bool true))) (.some (o (i z))) Gd.no []])
  .ret))))
theorem C69ok : (match Tryz.f69.body with | some c => comp Tryz.prog 40 c | none => none) = some C69 := by kernel_rfl
@[go_sem] theorem call69 (args : List AV) (H : Heap) : callC Tryz.prog 69 args H = .call 69 args := callC_ok (by kernel_rfl) args H
theorem R69ok : resKs Tryz.prog Tryz.f69.results.toList = some [(RK.cell (i (o z)) true 2), (RK.tmp (o (i z)))] := by kernel_rfl

noncomputable def C114L0 : CC :=
  (.seq (.region [.mk (binR Tryz.prog EK.no .none false BinOp.lss (X.t (i (o (o z)))) (X.t (o (o (o z))))) (.some (o (i (o z)))) Gd.no []])
  (.seq (.cond (X.t (o (i (o z))))
  .skip
  (.exit 0))
  (.seq (.block 1 (.seq (.region [.mk (mvR (X.t (i (o (o z))))) (.some (i (i (o z)))) Gd.no [],
   .mk (mvR (X.t (i (i (o z))))) (.some (o (i z))) Gd.no []])
  (.seq (.region [.mk (mvR (X.t (o z))) (.some (o (o (i z)))) Gd.no [],
   .mk (mvR (X.t z)) (.some (i (o (i z)))) Gd.no [],
   .mk (mvR (X.t (o (i z)))) (.some (o (i (i z)))) Gd.no [],
   .mk (iaS 5 (X.t (i (o (i z)))) (X.t (o (i (i z))))) (.some (i (i (i z)))) Gd.no [],
   .mk (ldR true 5 (X.t (i (i (i z))))) (.some (o (o (o (o z))))) Gd.no [],
   .mk (callX Tryz.prog (X.t (o (o (i z)))) [(X.t (o (o (o (o z)))))]) (.some (i (o (o (o z))))) Gd.no []])
  (.cond (X.t (i (o (o (o z)))))
  (.seq (.region [.mk (mvR (X.t (o (i z)))) (.some (o (i (o (o z))))) Gd.no [],
   .mk (mvR (X.t (o (i (o (o z)))))) (.some (i (o z))) Gd.no []])
  .ret)
  .skip))))
  (.region [.mk (binR Tryz.prog EK.no .none true BinOp.add (X.t (i (o (o z)))) (X.c (AV.int .i64 1))) (.some (i (i (o (o z))))) Gd.no [],
   .mk (mvR (X.t (i (i (o (o z)))))) (.some (i (o (o z)))) Gd.no []]))))
noncomputable def C114 : CC :=
  (.seq (.region [.mk (mvR (X.c (AV.int .i64 0))) (.some (i (o z))) Gd.no []])
  (.seq (.seq (.region [.mk (mvR (X.t z)) (.some (i (i z))) Gd.no [],
   .mk (lenR LnK.slice (X.t (i (i z)))) (.some (o (o (o z)))) Gd.no [],
   .mk (mvR (X.c (AV.int .i64 0))) (.some (i (o (o z)))) Gd.no []])
  (.block 0 (.loop C114L0)))
  (.seq (.region [.mk (mvR (X.c (AV.int .i64 (-1)))) (.some (i (o z))) Gd.no []])
  .ret)))
theorem C114ok : (match Tryz.f114.body with | some c => comp Tryz.prog 19 c | none => none) = some C114 := by kernel_rfl
@[go_sem] theorem call114 (args : List AV) (H : Heap) : callC Tryz.prog 114 args H = .call 114 args := callC_ok (by kernel_rfl) args H
theorem R114ok : resKs Tryz.prog Tryz.f114.results.toList = some [(RK.tmp (i (o z)))] := by kernel_rfl

noncomputable def C116 : CC :=
  (.seq (.region [.mk (boxR false (X.t z)) (.some (o z)) Gd.no [],
   .mk (mvR (X.c (AV.bool false))) (.some (i z)) Gd.no []])
  (.seq (.region [.mk (faR 0 (X.t (o z))) (.some (o (o z))) Gd.no [],
   .mk (ldR false 1 (X.t (o (o z)))) (.some (i (o z))) Gd.no [],
   .mk (faR 2 (X.t (o z))) (.some (o (i z))) Gd.no [],
   .mk (ldR false 1 (X.t (o (i z)))) (.some (i (i z))) Gd.no [],
   .mk (faR 1 (X.t (o z))) (.some (o (o (o z)))) Gd.no [],
   .mk (ldR false 1 (X.t (o (o (o z))))) (.some (i (o (o z)))) Gd.no [],
   .mk (faR 3 (X.t (o z))) (.some (o (i (o z)))) Gd.no [],
   .mk (ldR false 1 (X.t (o (i (o z))))) (.some (i (i (o z)))) Gd.no [],
   .mk (callS Tryz.prog 142 [(X.t (i (o z))), (X.t (i (i z))), (X.t (i (o (o z)))), (X.t (i (i (o z))))]) (.some (o (o (i z)))) Gd.no [],
   .mk (mvR (X.t (o (o (i z))))) (.some (i z)) Gd.no []])
  .ret))
theorem C116ok : (match Tryz.f116.body with | some c => comp Tryz.prog 12 c | none => none) = some C116 := by kernel_rfl
@[go_sem] theorem call116 (args : List AV) (H : Heap) : callC Tryz.prog 116 args H = .call 116 args := callC_ok (by kernel_rfl) args H
theorem R116ok : resKs Tryz.prog Tryz.f116.results.toList = some [(RK.tmp (i z))] := by kernel_rfl

noncomputable def C117 : CC :=
  (.seq (.region [.mk (boxR false (X.t z)) (.some (i z)) Gd.no [],
   .mk (mvR (X.c (AV.bool false))) (.some (o (o z))) Gd.no []])
  (.seq (.region [.mk (ldR false 1 (X.t (o z))) (.some (i (o z))) Gd.no [],
   .mk (ldR true 5 (X.t (i z))) (.some (o (i z))) Gd.no [],
   .mk (callS Tryz.prog 118 [(X.t (i (o z))), (X.t (o (i z)))]) (.some (i (i z))) Gd.no [],
   .mk (unR UnOp.not (X.t (i (i z)))) (.some (o (o (o z)))) Gd.no [],
   .mk (mvR (X.t (o (o (o z))))) (.some (o (o z))) Gd.no []])
  .ret))
theorem C117ok : (match Tryz.f117.body with | some c => comp Tryz.prog 8 c | none => none) = some C117 := by kernel_rfl
@[go_sem] theorem call117 (args : List AV) (H : Heap) : callC Tryz.prog 117 args H = .call 117 args := callC_ok (by kernel_rfl) args H
theorem R117ok : resKs Tryz.prog Tryz.f117.results.toList = some [(RK.tmp (o (o z)))] := by kernel_rfl

noncomputable def C118L0 : CC :=
  (.seq (.region [.mk (binR Tryz.prog EK.no .none false BinOp.lss (X.t (i (i (o (o z))))) (X.t (o (i (o (o z)))))) (.some (o (o (i (o z))))) Gd.no []])
  (.seq (.cond (X.t (o (o (i (o z)))))
  .skip
  (.exit 0))
  (.seq (.block 1 (.seq (.region [.mk (iaS 4 (X.t (i (o (o (o z))))) (X.t (i (i (o (o z)))))) (.some (i (o (i (o z))))) Gd.no [],
   .mk (ldR true 4 (X.t (i (o (i (o z)))))) (.some (o (i (i (o z))))) Gd.no [],
   .mk (fun _ H => newC false [(AV.str []), (AV.int .i64 0), (AV.str []), (AV.bool false)] H) (.some (i (o (o z)))) Gd.no [],
   .mk (stR 4 (X.t (i (o (o z)))) (X.t (o (i (i (o z)))))) .none Gd.no []])
  (.seq (.seq (.region [.mk (faR 0 (X.t (i (o (o z))))) (.some (i (i (i (o z))))) Gd.no [],
   .mk (ldR false 1 (X.t (i (i (i (o z)))))) (.some (o (o (o (i z))))) Gd.no [],
   .mk (faR 0 (X.t (o (o z)))) (.some (i (o (o (i z))))) Gd.no [],
   .mk (ldR false 1 (X.t (i (o (o (i z)))))) (.some (o (i (o (i z))))) Gd.no [],
   .mk (binR Tryz.prog EK.no .none false BinOp.neq (X.t (o (o (o (i z))))) (X.t (o (i (o (i z)))))) (.some (i (i (o (i z))))) Gd.no []])
  (.cond (X.t (i (i (o (i z)))))
  (.exit 1)
  .skip))
  (.seq (.seq (.region [.mk (faR 1 (X.t (i (o (o z))))) (.some (o (o (i (i z))))) Gd.no [],
   .mk (ldR false 1 (X.t (o (o (i (i z)))))) (.some (i (o (i (i z))))) Gd.no [],
   .mk (mvR (X.t (o (i z)))) (.some (o (i (i (i z))))) Gd.no [],
   .mk (binR Tryz.prog EK.no .none true BinOp.add (X.t (o (i (i (i z))))) (X.c (AV.int .i64 1))) (.some (i (i (i (i z))))) Gd.no [],
   .mk (binR Tryz.prog EK.no .none false BinOp.neq (X.t (i (o (i (i z))))) (X.t (i (i (i (i z)))))) (.some (o (o (o (o (o z)))))) Gd.no []])
  (.cond (X.t (o (o (o (o (o z))))))
  (.seq (.region [.mk (mvR (X.c (AV.bool false))) (.some (i (o z))) Gd.no []])
  .ret)
  .skip))
  (.regionD [.mk (keepH (ldR true 4 (X.t (i (o (o z)))))) (.some (i (i (o (o (o z)))))) Gd.no [],
   .mk (keepH (faR 1 (X.t (i (o (o z)))))) (.some (i (o (o (o (o z)))))) Gd.no [],
   .mk (keepH (ldR false 1 (X.t (i (o (o (o (o z)))))))) (.some (o (i (o (o (o z)))))) Gd.no [],
   .mk (mvR (X.t (o (i (o (o (o z))))))) (.some (o (i z))) Gd.no [.mk (ldR true 4 (X.t (i (o (o z))))) (.some (i (i (o (o (o z)))))) Gd.no],
   .mk (stR 4 (X.t (i (i z))) (X.t (i (i (o (o (o z))))))) .none Gd.no []])))))
  (.region [.mk (binR Tryz.prog EK.no .none true BinOp.add (X.t (i (i (o (o z))))) (X.c (AV.int .i64 1))) (.some (o (o (i (o (o z)))))) Gd.no [],
   .mk (mvR (X.t (o (o (i (o (o z))))))) (.some (i (i (o (o z))))) Gd.no []]))))
noncomputable def C118 : CC :=
  (.seq (.region [.mk (boxR false (X.t (o z))) (.some (o (o z))) Gd.no [],
   .mk (mvR (X.c (AV.bool false))) (.some (i (o z))) Gd.no []])
  (.seq (.region [.mk (faR 4 (X.t (o (o z)))) (.some (o (i (o z)))) Gd.no [],
   .mk (ldR false 1 (X.t (o (i (o z))))) (.some (i (i (o z)))) Gd.no [],
   .mk (mvR (X.t (i (i (o z))))) (.some (o (i z))) Gd.no []])
  (.seq (.region [.mk (faR 1 (X.t (o (o z)))) (.some (o (o (i z)))) Gd.no [],
   .mk (ldR false 1 (X.t (o (o (i z))))) (.some (i (o (i z)))) Gd.no [],
   .mk (faR 3 (X.t (o (o z)))) (.some (o (i (i z)))) Gd.no [],
   .mk (ldR false 1 (X.t (o (i (i z))))) (.some (i (i (i z)))) Gd.no [],
   .mk (buildR [(AV.str []), (AV.int .i64 0), (AV.str []), (AV.bool false)] [(2, (1, (X.t (i (o (i z)))))), (3, (1, (X.t (i (i (i z))))))]) (.some (o (o (o (o z))))) Gd.no [],
   .mk (fun _ H => newC false [(AV.str []), (AV.int .i64 0), (AV.str []), (AV.bool false)] H) (.some (i (i z))) Gd.no [],
   .mk (stR 4 (X.t (i (i z))) (X.t (o (o (o (o z)))))) .none Gd.no []])
  (.seq (.seq (.region [.mk (mvR (X.t z)) (.some (i (o (o (o z))))) Gd.no [],
   .mk (lenR LnK.slice (X.t (i (o (o (o z)))))) (.some (o (i (o (o z))))) Gd.no [],
   .mk (mvR (X.c (AV.int .i64 0))) (.some (i (i (o (o z))))) Gd.no []])
  (.block 0 (.loop C118L0)))
  (.seq (.region [.mk (mvR (X.t (o (i z)))) (.some (i (o (i (o (o z)))))) Gd.no [],
   .mk (faR 2 (X.t (o (o z)))) (.some (o (i (i (o (o z)))))) Gd.no [],
   .mk (ldR false 1 (X.t (o (i (i (o (o z))))))) (.some (i (i (i (o (o z)))))) Gd.no [],
   .mk (binR Tryz.prog EK.no .none false BinOp.eql (X.t (i (o (i (o (o z)))))) (X.t (i (i (i (o (o z))))))) (.some (o (o (o (i (o z)))))) Gd.no [],
   .mk (mvR (X.t (o (o (o (i (o z))))))) (.some (i (o (o (i (o z)))))) Gd.no [],
   .mk (faR 2 (X.t (i (i z)))) (.some (o (i (o (i (o z)))))) (Gd.on (i (o (o (i (o z))))) true) [],
   .mk (ldR false 1 (X.t (o (i (o (i (o z))))))) (.some (i (i (o (i (o z)))))) (Gd.on (i (o (o (i (o z))))) true) [],
   .mk (faR 1 (X.t (o (o z)))) (.some (o (o (i (i (o z)))))) (Gd.on (i (o (o (i (o z))))) true) [],
   .mk (ldR false 1 (X.t (o (o (i (i (o z))))))) (.some (i (o (i (i (o z)))))) (Gd.on (i (o (o (i (o z))))) true) [],
   .mk (binR Tryz.prog EK.no .none false BinOp.eql (X.t (i (i (o (i (o z)))))) (X.t (i (o (i (i (o z))))))) (.some (o (i (i (i (o z)))))) (Gd.on (i (o (o (i (o z))))) true) [],
   .mk (pickR (X.t (i (o (o (i (o z)))))) (X.t (o (i (i (i (o z)))))) (X.c (AV.bool false))) (.some (i (i (i (i (o z)))))) Gd.no [],
   .mk (mvR (X.t (i (i (i (i (o z))))))) (.some (o (o (o (o (i z)))))) Gd.no [],
   .mk (faR 3 (X.t (i (i z)))) (.some (i (o (o (o (i z)))))) (Gd.on (o (o (o (o (i z))))) true) [],
   .mk (ldR false 1 (X.t (i (o (o (o (i z))))))) (.some (o (i (o (o (i z)))))) (Gd.on (o (o (o (o (i z))))) true) [],
   .mk (faR 3 (X.t (o (o z)))) (.some (i (i (o (o (i z)))))) (Gd.on (o (o (o (o (i z))))) true) [],
   .mk (ldR false 1 (X.t (i (i (o (o (i z))))))) (.some (o (o (i (o (i z)))))) (Gd.on (o (o (o (o (i z))))) true) [],
   .mk (binR Tryz.prog EK.bool .none false BinOp.eql (X.t (o (i (o (o (i z)))))) (X.t (o (o (i (o (i z))))))) (.some (i (o (i (o (i z)))))) (Gd.on (o (o (o (o (i z))))) true) [],
   .mk (pickR (X.t (o (o (o (o (i z)))))) (X.t (i (o (i (o (i z)))))) (X.c (AV.bool false))) (.some (o (i (i (o (i z)))))) Gd.no [],
   .mk (mvR (X.t (o (i (i (o (i z))))))) (.some (i (o z))) Gd.no []])
  .ret)))))
theorem C118ok : (match Tryz.f118.body with | some c => comp Tryz.prog 54 c | none => none) = some C118 := by kernel_rfl
@[go_sem] theorem call118 (args : List AV) (H : Heap) : callC Tryz.prog 118 args H = .call 118 args := callC_ok (by kernel_rfl) args H
theorem R118ok : resKs Tryz.prog Tryz.f118.results.toList = some [(RK.tmp (i (o z)))] := by kernel_rfl

noncomputable def C122 : CC :=
  (.seq (.region [.mk (mvR (X.c (AV.str []))) (.some (i (o z))) Gd.no []])
  (.seq (.block 0 (.seq (.region [.mk (mvR (X.t z)) (.some (i (i z))) Gd.no [],
   .mk (binR Tryz.prog EK.no .none true BinOp.eql (X.t (i (i z))) (X.c (AV.str []))) (.some (o (o (o z)))) Gd.no [],
   .mk (mvR (X.t (o (o (o z))))) (.some (o (i z))) Gd.no []])
  (.cond (X.t (o (i z)))
  (.seq (.region [.mk (mvR (X.t (o z))) (.some (i (o (o z)))) Gd.no [],
   .mk (mvR (X.t (i (o (o z))))) (.some (i (o z))) Gd.no []])
  .ret)
  (.seq (.region [.mk (mvR (X.t (o z))) (.some (i (i (o z)))) Gd.no [],
   .mk (binR Tryz.prog EK.no .none true BinOp.eql (X.t (i (i (o z)))) (X.c (AV.str []))) (.some (o (o (i z)))) Gd.no [],
   .mk (mvR (X.t (o (o (i z))))) (.some (o (i (o z)))) Gd.no []])
  (.cond (X.t (o (i (o z))))
  (.seq (.region [.mk (mvR (X.t z)) (.some (i (o (i z)))) Gd.no [],
   .mk (mvR (X.t (i (o (i z))))) (.some (i (o z))) Gd.no []])
  .ret)
  .skip)))))
  (.seq (.region [.mk (mvR (X.t z)) (.some (o (i (i z)))) Gd.no [],
   .mk (mvR (X.t (o z))) (.some (i (i (i z)))) Gd.no [],
   .mk (mmR false (X.t (o (i (i z)))) (X.t (i (i (i z))))) (.some (o (o (o (o z))))) Gd.no [],
   .mk (mvR (X.t (o (o (o (o z)))))) (.some (i (o z))) Gd.no []])
  .ret)))
theorem C122ok : (match Tryz.f122.body with | some c => comp Tryz.prog 16 c | none => none) = some C122 := by kernel_rfl
@[go_sem] theorem call122 (args : List AV) (H : Heap) : callC Tryz.prog 122 args H = .call 122 args := callC_ok (by kernel_rfl) args H
theorem R122ok : resKs Tryz.prog Tryz.f122.results.toList = some [(RK.tmp (i (o z)))] := by kernel_rfl

@[go_sem] theorem call16 (args : List AV) (H : Heap) : callC Tryz.prog 16 args H = .call 16 args := callC_ok (by kernel_rfl) args H
end Go.Proofs
