/- once: whether they are any, few, the same: walked. -/
import Derived.Test.YtomljpdjfobeoaaDoorZ17
set_option linter.all false
set_option maxRecDepth 100000
namespace Go.Proofs
open Go Go.Ev
variable {H : Heap}

/-- what was done of a session last -/
structure Dn where
  ses : Int
  id : Int
  an : An
theorem off6 (a b c : Nat) : a * 6 + b + c = a * 6 + (b + c) := Nat.add_assoc ..
theorem wrap01 : IntKind.i64.wrap (0 + 1) = 1 := rfl
def Dn.enc (d : Dn) : List AV := [.int .i64 d.ses, .int .i64 d.id, .int .i64 d.an.code, .str d.an.val, .int .i64 d.an.ver, d.an.rv]
def allOk (H : Heap) (l : List Dn) : Prop := ∀ d ∈ l, d.an.ok H
theorem allOk.ext {l : List Dn} (h : allOk H l) (L : List Blk) : allOk (H.ext L) l := fun d hd => (h d hd).ext L
theorem An.ok.ren {a : An} (h : a.ok H) (top : Nat) (σ : List Nat) : AV.ren (rho H top σ) a.rv = a.rv := h.1.ren top σ
theorem Dn.ren1 {d : Dn} (h : d.an.ok H) (top : Nat) (σ : List Nat) : AV.rens (rho H top σ) d.enc = d.enc := by
  simp only [Dn.enc, AV.rens, AV.ren, h.ren]
theorem allOk.rens {l : List Dn} (h : allOk H l) (top : Nat) (σ : List Nat) : (l.map Dn.enc).map (AV.rens (rho H top σ)) = l.map Dn.enc := by
  rw [List.map_map]; exact List.map_congr_left fun d hd => Dn.ren1 (h d hd) top σ
def okD (d : Dn) : Prop := (0 ≤ d.ses ∧ d.ses < 3 ∧ 1 ≤ d.id ∧ d.id ≤ 1000000000000) ∧ isAns d.an
def okDt (l : List Dn) (j : Nat) : Prop := ∃ c, l[j]? = some c ∧ okD c ∧ (0 < j → ∃ d, l[j - 1]? = some d ∧ d.ses < c.ses)
def isDone (l : List Dn) : Prop := ∀ j, j < l.length → okDt l j
noncomputable instance (l : List Dn) : Decidable (isDone l) := Classical.propDecidable _
theorem f89_ok {v : AV} {l : List Dn} (hA : Arr H 6 v (l.map Dn.enc)) (ha : allOk H l) (hl : l.length < 9223372036854775807) :
    FnOk Tryd.prog 89 [v] H fun r G => r = .bool (decide (isDone l)) ∧ G = H := by
  refine FnOk.assume fun hok => ?_
  refine FnOk.drop (R := fun r => r = .bool (decide (isDone l))) ?_ (by rintro v rfl ρ; rw [AV.ren])
  refine FnOk.of_WW Tryd.func89 rfl C89ok R89ok E0 good_E0 ?_
  have hlen := fun G => hA.len G; simp only [List.length_map] at hlen; have hren := hA.ren
  simp only [go_sem, C89, hlen]
  refine LL.st good_E0 (fun i : Nat => l.length - i) (fun i => i ≤ l.length ∧ ∀ j, j < i → okDt l j)
    (fun i => [(.z, v), ((.o (.i .z)), v), ((.i (.i .z)), .int .i64 l.length), ((.o (.o (.o .z))), .int .i64 i)]) (fun i => []) ?_ 0 (σ := []) (Wk.of rfl (by decide) (by simp only [go_sem, hren]) (by simp only [go_sem])) ⟨Nat.zero_le _, fun j h => absurd h (Nat.not_lt_zero _)⟩
  rintro i ⟨hi, hno⟩
  by_cases hlt : i < l.length
  · obtain ⟨kk, r, ex', cap', wr, rows, hv, hrho, hgo, hrow⟩ := hA.at hok (j := i) (by rw [List.length_map]; exact hlt); simp only [List.length_map, List.getElem_map] at hv hrow; cases hv; have hget : l[i]? = some l[i] := List.getElem?_eq_getElem hlt; generalize l[i] = c at hrow hget; have hw := wrap_succ (n := i) (by omega); have hci : (i : Int) < (l.length : Int) := (by omega); have hsi : i + 1 ≤ l.length := (by omega)
    have hco := ha c (List.mem_of_getElem? hget)
    have hbad : ¬ okDt l i → AV.bool false = .bool (decide (isDone l)) := fun h => bool_f fun g => h (g i hlt)
    have hb1 : ¬ okD c → ¬ okDt l i := fun g ⟨c', h1, h2, _⟩ => by rw [hget] at h1; cases h1; exact g h2
    have hend : ∀ L, WW Tryd.prog E0 Tryd.f89.ntmps H [] L (H.ext []) (fun _ _ _ => True) → True := fun _ _ => trivial
    simp only [go_sem, C89L0, hci, hsi, hgo, hrow, hw, Dn.enc]
    refine ⟨fun g1 => ⟨hbad (hb1 fun e => absurd e.1.1 (by omega)), _, rfl⟩, fun g1 => ⟨fun g2 => ⟨hbad (hb1 fun e => absurd e.1.2.1 (by omega)), _, rfl⟩, fun g2 => ?_⟩⟩
    rcases i with _ | i
    · simp only [go_sem, Int.ofNat_zero, Int.lt_irrefl]
      refine ⟨fun g3 => ⟨hbad (hb1 fun e => absurd e.1.2.2.1 (by omega)), _, rfl⟩, fun g3 => ⟨fun g4 => ⟨hbad (hb1 fun e => absurd e.1.2.2.2 (by omega)), _, rfl⟩, fun g4 => ?_⟩⟩
      refine CL.one (f106_ok (a := c.an) (hco.ext _)) ?_
      by_cases hans : isAns c.an
      · have hne : ¬ ansT c.an = [] := fun e => ansT_nil.1 e hans
        simp only [go_sem, hne, hw]
        refine ⟨0 + 1, by show l.length - (0 + 1) < l.length - 0; omega, ⟨by omega, fun j hj => ?_⟩, _, [], rfl, Wk.of rfl (by decide) (by simp only [go_sem, hren, hrho, hw, wrap01]) (by simp only [go_sem])⟩
        obtain rfl : j = 0 := by omega
        exact ⟨c, hget, ⟨⟨by omega, by omega, by omega, by omega⟩, hans⟩, fun h => absurd h (by decide)⟩
      · have hne : ansT c.an = [] := ansT_nil.2 hans
        simp only [go_sem, hne]
        exact ⟨hbad (hb1 fun e => hans e.2), _, rfl⟩
    · have hpos : (0 : Int) < ((i + 1 : Nat) : Int) := by omega
      have hp : IntKind.i64.wrap (((i + 1 : Nat) : Int) - 1) = (i : Int) := by rw [wrap_i64 (by omega) (by omega)]; omega
      have hltj : i < l.length := by omega
      obtain ⟨kk2, r2, ex2, cap2, wr2, rows2, hv2, _, hgo2, hrow2⟩ := hA.at hok (j := i) (by rw [List.length_map]; exact hltj); simp only [List.length_map, List.getElem_map] at hv2 hrow2; have hgetd : l[i]? = some l[i] := List.getElem?_eq_getElem hltj; generalize l[i] = d at hrow2 hgetd; injection hv2 with e1 e2 e3 e4 e5 e6; have e2' : r2 = r := (by omega); subst e1 e2'; have hrr := hgo2 []; rw [hgo []] at hrr; cases hrr
      have hsj : i + 1 ≤ l.length := by omega
      have hi0 : (0 : Int) ≤ (i : Int) := by omega
      simp only [go_sem, hpos, hp, hi0, hsj, hgo, hrow2, Dn.enc]
      refine ⟨fun g5 => ⟨hbad ?_, _, rfl⟩, fun g5 => ?_⟩
      · rintro ⟨c', h1, _, h2⟩
        obtain ⟨d', h3, h4⟩ := h2 (by omega)
        rw [hget] at h1; cases h1
        rw [Nat.add_sub_cancel, hgetd] at h3; cases h3
        omega
      refine ⟨fun g3 => ⟨hbad (hb1 fun e => absurd e.1.2.2.1 (by omega)), _, rfl⟩, fun g3 => ⟨fun g4 => ⟨hbad (hb1 fun e => absurd e.1.2.2.2 (by omega)), _, rfl⟩, fun g4 => ?_⟩⟩
      refine CL.one (f106_ok (a := c.an) (hco.ext _)) ?_
      by_cases hans : isAns c.an
      · have hne : ¬ ansT c.an = [] := fun e => ansT_nil.1 e hans
        simp only [go_sem, hne, hw]
        refine ⟨i + 1 + 1, by show l.length - (i + 1 + 1) < l.length - (i + 1); omega, ⟨by omega, fun j hj => ?_⟩, _, [], rfl, Wk.of rfl (by decide) (by simp only [go_sem, hren, hrho, hw, wrap01]) (by simp only [go_sem])⟩
        rcases Nat.lt_or_ge j (i + 1) with h | h
        · exact hno j h
        · obtain rfl : j = i + 1 := by omega
          exact ⟨c, hget, ⟨⟨by omega, by omega, by omega, by omega⟩, hans⟩, fun _ => ⟨d, by rw [Nat.add_sub_cancel]; exact hgetd, by omega⟩⟩
      · have hne : ansT c.an = [] := ansT_nil.2 hans
        simp only [go_sem, hne]
        exact ⟨hbad (hb1 fun e => hans e.2), _, rfl⟩
  · have hci : ¬ (i : Int) < (l.length : Int) := by omega
    simp only [go_sem, C89L0, hci]
    exact ⟨bool_t fun j hj => hno j (by omega), _, rfl⟩
def fewD (l : List Dn) : Prop := (∀ d ∈ l, (d.an.val.length : Int) ≤ 60 ∧ (d.an.rows.length : Int) ≤ 8) ∧ (l.length : Int) ≤ 10
instance (l : List Dn) : Decidable (fewD l) := inferInstanceAs (Decidable (_ ∧ _))
end Go.Proofs
/- once: the same answers, the same rows of what was done, where a session's is: walked. -/

set_option linter.all false
set_option maxRecDepth 100000
namespace Go.Proofs
open Go Go.Ev
variable {H : Heap}

def sameA (a b : An) : Prop := a.code = b.code ∧ a.val = b.val ∧ a.ver = b.ver ∧ a.rows = b.rows
noncomputable instance (a b : An) : Decidable (sameA a b) := Classical.propDecidable _
theorem f54_ok {a b : An} (ha : a.ok H) (hb : b.ok H) : FnOk Tryd.prog 54 [.agg a.enc, .agg b.enc] H fun r G => r = .bool (decide (sameA a b)) ∧ G = H := by
  refine FnOk.assume fun hok => ?_
  refine FnOk.drop (R := fun r => r = .bool (decide (sameA a b))) ?_ (by rintro v rfl ρ; rw [AV.ren])
  refine FnOk.of_WW Tryd.func54 rfl C54ok R54ok E0 good_E0 ?_
  obtain ⟨code, val, ver, l, v⟩ := a
  obtain ⟨code2, val2, ver2, m, w⟩ := b
  obtain ⟨hA, hl⟩ := ha
  obtain ⟨hB, hm⟩ := hb
  simp only at hA hl hB hm
  have hlen := fun G => hA.len G; simp only [List.length_map] at hlen; have hren := hA.ren
  have hlen2 := fun G => hB.len G
  simp only [List.length_map] at hlen2
  have hren2 := hB.ren
  simp only [go_sem, C54, An.enc, hlen, hlen2]
  refine ⟨fun g => ⟨bool_f fun e => g e.1, _, rfl⟩, fun g1 => ⟨fun g => ⟨bool_f fun e => g e.2.1, _, rfl⟩, fun g2 => ⟨fun g => ⟨bool_f fun e => g e.2.2.1, _, rfl⟩, fun g3 => ⟨fun g => ⟨bool_f fun e => g (by rw [show l = m from e.2.2.2]), _, rfl⟩, fun g4 => ?_⟩⟩⟩⟩
  have g1 := Classical.not_not.1 g1
  have g2 := Classical.not_not.1 g2
  have g3 := Classical.not_not.1 g3
  have hlm : l.length = m.length := by omega
  subst g1 g2 g3
  refine LL.st good_E0 (fun i : Nat => l.length - i) (fun i => i ≤ l.length ∧ ∀ j, j < i → l[j]? = m[j]?)
    (fun i => [((.i .z), .ptr (H.key 0) 0), ((.o (.o .z)), .ptr (H.key 1) 0), ((.o (.i .z)), .int .i64 i)]) (fun i => [.row true 4 [[.int .i64 code, .str val, .int .i64 ver, v]], .row true 4 [[.int .i64 code, .str val, .int .i64 ver, w]]]) ?_ 0 (σ := [0, 1]) (Wk.of rfl (by decide) (by simp only [go_sem, hren, hren2]) (by simp only [go_sem, hren, hren2])) ⟨Nat.zero_le _, fun j h => absurd h (Nat.not_lt_zero _)⟩
  rintro i ⟨hi, hno⟩
  by_cases hlt : i < l.length
  · obtain ⟨kk2, r2, ex2, cap2, wr2, rows2, hv2, hrho2, hgo2, hrow2⟩ := hB.at hok (j := i) (by rw [List.length_map]; omega)
    simp only [List.length_map, List.getElem_map] at hv2 hrow2
    have hget2 : m[i]? = some (m[i]'(by omega)) := List.getElem?_eq_getElem (by omega)
    generalize m[i]'(by omega) = d at hrow2 hget2
    obtain ⟨kk, r, ex', cap', wr, rows, hv, hrho, hgo, hrow⟩ := hA.at hok (j := i) (by rw [List.length_map]; exact hlt); simp only [List.length_map, List.getElem_map] at hv hrow; cases hv; have hget : l[i]? = some l[i] := List.getElem?_eq_getElem hlt; generalize l[i] = c at hrow hget; have hw := wrap_succ (n := i) (by omega); have hci : (i : Int) < (l.length : Int) := (by omega); have hsi : i + 1 ≤ l.length := (by omega)
    subst hv2
    have hsi2 : i + 1 ≤ m.length := by omega
    simp only [go_sem, C54L0, hlen, hlen2, hci, hsi, hsi2, hgo, hgo2, hrow, hrow2, hw, Rw.enc]
    have hbad : ¬ c = d → ∀ v w, AV.bool false = .bool (decide (sameA ⟨code, val, ver, l, v⟩ ⟨code, val, ver, m, w⟩)) := fun h v w => bool_f fun e => h (by rw [show l = m from e.2.2.2, hget2] at hget; exact (Option.some.inj hget).symm)
    refine ⟨fun g1 => ⟨fun g2 => ⟨fun g3 => ?_, fun g => ⟨hbad (fun e => g (by rw [e])) _ _, _, rfl⟩⟩, fun g => ⟨hbad (fun e => g (by rw [e])) _ _, _, rfl⟩⟩, fun g => ⟨hbad (fun e => g (by rw [e])) _ _, _, rfl⟩⟩
    refine ⟨i + 1, by show l.length - (i + 1) < l.length - i; omega, ⟨by omega, fun j hj => ?_⟩, _, [0, 1], rfl, Wk.of rfl (by decide) (by simp only [go_sem, hrho, hrho2]) (by simp only [go_sem, hrho, hrho2])⟩
    rcases Nat.lt_or_ge j i with h | h
    · exact hno j h
    · obtain rfl : j = i := by omega
      rw [hget, hget2, Rw.enc_inj ⟨g1, g2, g3⟩]
  · have hci : ¬ (i : Int) < (l.length : Int) := by omega
    simp only [go_sem, C54L0, hci, hlen]
    refine ⟨bool_t ⟨rfl, rfl, rfl, List.ext_getElem? fun j => ?_⟩, _, rfl⟩
    rcases Nat.lt_or_ge j l.length with h | h
    · exact hno j (by omega)
    · show l[j]? = m[j]?
      rw [List.getElem?_eq_none h, List.getElem?_eq_none (by omega)]
theorem Rw.enc_one {a b : Rw} (h : a.enc = b.enc) : a = b := by
  simp [Rw.enc] at h
  exact Rw.enc_inj h
noncomputable def rwsOf (H : Heap) (v : AV) : Option (List Rw) := open Classical in if h : ∃ l : List Rw, Arr H 3 v (l.map Rw.enc) ∧ l.length ≤ 9223372036854775807 then some (Classical.choose h) else none
theorem rwsOf_eq {v : AV} {l : List Rw} (h : Arr H 3 v (l.map Rw.enc)) (hl : l.length ≤ 9223372036854775807) : rwsOf H v = some l := by
  unfold rwsOf
  have hex : ∃ l : List Rw, Arr H 3 v (l.map Rw.enc) ∧ l.length ≤ 9223372036854775807 := ⟨l, h, hl⟩
  rw [dif_pos hex]
  congr 1
  have := Arr.uniq (Classical.choose_spec hex).1 h (by decide)
  exact List.map_inj_right (fun _ _ => Rw.enc_one) |>.1 this
theorem rwsOf_spec {v : AV} {l : List Rw} (h : rwsOf H v = some l) : Arr H 3 v (l.map Rw.enc) ∧ l.length ≤ 9223372036854775807 := by
  unfold rwsOf at h
  split at h
  · rename_i hex
    cases h
    exact Classical.choose_spec hex
  · cases h
noncomputable def EO2 : FuncId → List AV → Heap → RC
  | 69, [.agg [.int .i64 c, .str s, .int .i64 n, v]], H => match rwsOf H v with | some l => .ok (.bool (decide (isAns ⟨c, s, n, l, v⟩))) H | none => .fail
  | 54, [.agg [.int .i64 c, .str s, .int .i64 n, v], .agg [.int .i64 c2, .str s2, .int .i64 n2, v2]], H => match rwsOf H v with | some l => (match rwsOf H v2 with | some l2 => .ok (.bool (decide (sameA ⟨c, s, n, l, v⟩ ⟨c2, s2, n2, l2, v2⟩))) H | none => .fail) | none => .fail
  | _, _, _ => .fail
theorem good_EO2 : Ev.Good Tryd.prog EO2 := by
  intro f args H r G he φ w args' ha hw
  refine (?_ : FnOk Tryd.prog f args H fun v' G' => v' = r ∧ G' = G).one φ w args' ha hw
  unfold EO2 at he
  split at he
  · split at he
    · rename_i hl
      cases he
      exact f69_ok (a := ⟨_, _, _, _, _⟩) (rwsOf_spec hl)
    · cases he
  · split at he
    · rename_i hl
      split at he
      · rename_i hl2
        cases he
        exact f54_ok (a := ⟨_, _, _, _, _⟩) (b := ⟨_, _, _, _, _⟩) (rwsOf_spec hl) (rwsOf_spec hl2)
      · cases he
    · cases he
  · cases he
theorem e54 {a : An} (h : a.ok H) : EO2 69 [.agg [.int .i64 a.code, .str a.val, .int .i64 a.ver, a.rv]] H = .ok (.bool (decide (isAns a))) H := by
  show (match rwsOf H a.rv with | some l => RC.ok (.bool (decide (isAns ⟨a.code, a.val, a.ver, l, a.rv⟩))) H | none => .fail) = _
  rw [rwsOf_eq h.1 h.2]
theorem e31 {a b : An} (h : a.ok H) (g : b.ok H) : EO2 54 [.agg [.int .i64 a.code, .str a.val, .int .i64 a.ver, a.rv], .agg [.int .i64 b.code, .str b.val, .int .i64 b.ver, b.rv]] H = .ok (.bool (decide (sameA a b))) H := by
  show (match rwsOf H a.rv with | some l => (match rwsOf H b.rv with | some l2 => RC.ok (.bool (decide (sameA ⟨a.code, a.val, a.ver, l, a.rv⟩ ⟨b.code, b.val, b.ver, l2, b.rv⟩))) H | none => .fail) | none => .fail) = _
  rw [rwsOf_eq h.1 h.2, rwsOf_eq g.1 g.2]
def sameDn (c d : Dn) : Prop := c.ses = d.ses ∧ c.id = d.id ∧ sameA c.an d.an
/-- the same rows of what was done -/
def sameD (l m : List Dn) : Prop := l.length = m.length ∧ ∀ (i : Nat) (c d : Dn), l[i]? = some c → m[i]? = some d → sameDn c d
noncomputable instance (l m : List Dn) : Decidable (sameD l m) := Classical.propDecidable _
theorem f25_ok {v w : AV} {l m : List Dn} (hA : Arr H 6 v (l.map Dn.enc)) (hB : Arr H 6 w (m.map Dn.enc)) (ha : allOk H l) (hb : allOk H m) (hl : l.length < 9223372036854775807) :
    FnOk Tryd.prog 25 [v, w] H fun r G => r = .bool (decide (sameD l m)) ∧ G = H := by
  refine FnOk.assume fun hok => ?_
  refine FnOk.drop (R := fun r => r = .bool (decide (sameD l m))) ?_ (by rintro v rfl ρ; rw [AV.ren])
  refine FnOk.of_WW Tryd.func25 rfl C25ok R25ok EO2 good_EO2 ?_
  have hlen := fun G => hA.len G; simp only [List.length_map] at hlen; have hren := hA.ren
  have hlen2 := fun G => hB.len G
  simp only [List.length_map] at hlen2
  have hren2 := hB.ren
  simp only [go_sem, C25, hlen, hlen2]
  refine ⟨fun h => ⟨bool_f fun e => h (by rw [e.1]), _, rfl⟩, fun h => ?_⟩
  have hlm : l.length = m.length := by have := Classical.not_not.1 h; omega
  refine LL.st good_EO2 (fun i : Nat => l.length - i) (fun i => i ≤ l.length ∧ ∀ (j : Nat) (c d : Dn), j < i → l[j]? = some c → m[j]? = some d → sameDn c d)
    (fun i => [(.z, v), ((.o .z), w), ((.o (.i .z)), .int .i64 i)]) (fun i => []) ?_ 0 (σ := []) (Wk.of rfl (by decide) (by simp only [go_sem, hren, hren2]) (by simp only [go_sem])) ⟨Nat.zero_le _, fun j c d h => absurd h (Nat.not_lt_zero _)⟩
  rintro i ⟨hi, hno⟩
  by_cases hlt : i < l.length
  · obtain ⟨kk2, r2, ex2, cap2, wr2, rows2, hv2, hrho2, hgo2, hrow2⟩ := hB.at hok (j := i) (by rw [List.length_map]; omega)
    simp only [List.length_map, List.getElem_map] at hv2 hrow2
    have hget2 : m[i]? = some (m[i]'(by omega)) := List.getElem?_eq_getElem (by omega)
    generalize m[i]'(by omega) = d at hrow2 hget2
    obtain ⟨kk, r, ex', cap', wr, rows, hv, hrho, hgo, hrow⟩ := hA.at hok (j := i) (by rw [List.length_map]; exact hlt); simp only [List.length_map, List.getElem_map] at hv hrow; cases hv; have hget : l[i]? = some l[i] := List.getElem?_eq_getElem hlt; generalize l[i] = c at hrow hget; have hw := wrap_succ (n := i) (by omega); have hci : (i : Int) < (l.length : Int) := (by omega); have hsi : i + 1 ≤ l.length := (by omega)
    subst hv2
    have hsi2 : i + 1 ≤ m.length := by omega
    have hco := ha c (List.mem_of_getElem? hget)
    have hdo := hb d (List.mem_of_getElem? hget2)
    have he := fun L => e31 (hco.ext L) (hdo.ext L)
    simp only [go_sem, off6, C25L0, hlen, hlen2, hci, hsi, hsi2, hgo, hgo2, hrow, hrow2, hw, Dn.enc, he]
    have hbad : ¬ sameDn c d → AV.bool false = .bool (decide (sameD l m)) := fun h => bool_f fun e => h (e.2 i c d hget hget2)
    refine ⟨fun g => ⟨hbad fun e => g e.1, _, rfl⟩, fun g1 => ⟨fun g => ⟨hbad fun e => g e.2.1, _, rfl⟩, fun g2 => ⟨fun g3 => ?_, fun g => ⟨hbad fun e => g e.2.2, _, rfl⟩⟩⟩⟩
    refine ⟨i + 1, by show l.length - (i + 1) < l.length - i; omega, ⟨by omega, fun j c' d' hj hc hd => ?_⟩, _, [], rfl, Wk.of rfl (by decide) (by simp only [go_sem, hrho, hrho2]) (by simp only [go_sem])⟩
    rcases Nat.lt_or_ge j i with h | h
    · exact hno j c' d' h hc hd
    · obtain rfl : j = i := by omega
      rw [hget] at hc; rw [hget2] at hd; cases hc; cases hd
      exact ⟨Classical.not_not.1 g1, Classical.not_not.1 g2, g3⟩
  · have hci : ¬ (i : Int) < (l.length : Int) := by omega
    simp only [go_sem, C25L0, hci, hlen]
    refine ⟨bool_t ⟨hlm, fun j c d hc hd => hno j c d (by have := (List.getElem?_eq_some_iff.1 hc).1; omega) hc hd⟩, _, rfl⟩
theorem f41_ok {v : AV} {l : List Dn} (hA : Arr H 6 v (l.map Dn.enc)) (ha : allOk H l) (hl : l.length < 9223372036854775807) :
    FnOk Tryd.prog 41 [v] H fun r G => r = .bool (decide (isDone l)) ∧ G = H := by
  refine FnOk.assume fun hok => ?_
  refine FnOk.drop (R := fun r => r = .bool (decide (isDone l))) ?_ (by rintro v rfl ρ; rw [AV.ren])
  refine FnOk.of_WW Tryd.func41 rfl C41ok R41ok EO2 good_EO2 ?_
  have hlen := fun G => hA.len G; simp only [List.length_map] at hlen; have hren := hA.ren
  simp only [go_sem, C41, hlen]
  refine LL.st good_EO2 (fun i : Nat => l.length - i) (fun i => i ≤ l.length ∧ ∀ j, j < i → okDt l j)
    (fun i => [(.z, v), ((.o (.o .z)), .int .i64 i)]) (fun i => []) ?_ 0 (σ := []) (Wk.of rfl (by decide) (by simp only [go_sem, hren]) (by simp only [go_sem])) ⟨Nat.zero_le _, fun j h => absurd h (Nat.not_lt_zero _)⟩
  rintro i ⟨hi, hno⟩
  by_cases hlt : i < l.length
  · obtain ⟨kk, r, ex', cap', wr, rows, hv, hrho, hgo, hrow⟩ := hA.at hok (j := i) (by rw [List.length_map]; exact hlt); simp only [List.length_map, List.getElem_map] at hv hrow; cases hv; have hget : l[i]? = some l[i] := List.getElem?_eq_getElem hlt; generalize l[i] = c at hrow hget; have hw := wrap_succ (n := i) (by omega); have hci : (i : Int) < (l.length : Int) := (by omega); have hsi : i + 1 ≤ l.length := (by omega)
    have hco := ha c (List.mem_of_getElem? hget)
    have he := fun L => e54 (hco.ext L)
    have hbad : ¬ okDt l i → AV.bool false = .bool (decide (isDone l)) := fun h => bool_f fun g => h (g i hlt)
    have hb1 : ¬ okD c → ¬ okDt l i := fun g ⟨c', h1, h2, _⟩ => by rw [hget] at h1; cases h1; exact g h2
    rcases i with _ | i
    · have hrow0 : rows[r]? = some c.enc := hrow
      have hci0 : (0 : Int) < (l.length : Int) := hci
      have hsi0 : 1 ≤ l.length := hsi
      simp only [go_sem, off6, C41L0, hci0, hsi0, hgo, hrow0, hlen, Dn.enc, he, Int.ofNat_zero, Int.lt_irrefl]
      refine ⟨fun g => ⟨hbad (hb1 fun e => absurd e.1.1 (by omega)), _, rfl⟩, fun g1 => ⟨fun g => ⟨hbad (hb1 fun e => absurd e.1.2.1 (by omega)), _, rfl⟩, fun g2 => ⟨fun g => ⟨hbad (hb1 fun e => absurd e.1.2.2.1 (by omega)), _, rfl⟩, fun g3 => ⟨fun g => ⟨hbad (hb1 fun e => absurd e.1.2.2.2 (by omega)), _, rfl⟩, fun g4 => ⟨fun g5 => ?_, fun g => ⟨hbad (hb1 fun e => g e.2), _, rfl⟩⟩⟩⟩⟩⟩
      refine ⟨0 + 1, by show l.length - (0 + 1) < l.length - 0; omega, ⟨by omega, fun j hj => ?_⟩, _, [], rfl, Wk.of rfl (by decide) (by simp only [go_sem, hren, hrho, hw, wrap01]) (by simp only [go_sem])⟩
      obtain rfl : j = 0 := by omega
      exact ⟨c, hget, ⟨⟨by omega, by omega, by omega, by omega⟩, g5⟩, fun h => absurd h (by decide)⟩
    · have hpos : (0 : Int) < ((i + 1 : Nat) : Int) := by omega
      have hp : IntKind.i64.wrap (((i + 1 : Nat) : Int) - 1) = (i : Int) := by rw [wrap_i64 (by omega) (by omega)]; omega
      have hltj : i < l.length := by omega
      obtain ⟨kk2, r2, ex2, cap2, wr2, rows2, hv2, _, hgo2, hrow2⟩ := hA.at hok (j := i) (by rw [List.length_map]; exact hltj); simp only [List.length_map, List.getElem_map] at hv2 hrow2; have hgetd : l[i]? = some l[i] := List.getElem?_eq_getElem hltj; generalize l[i] = d at hrow2 hgetd; injection hv2 with e1 e2 e3 e4 e5 e6; have e2' : r2 = r := (by omega); subst e1 e2'; have hrr := hgo2 []; rw [hgo []] at hrr; cases hrr
      have hsj : i + 1 ≤ l.length := by omega
      have hi0 : (0 : Int) ≤ (i : Int) := by omega
      simp only [go_sem, off6, C41L0, hci, hsi, hgo, hrow, hrow2, hw, hlen, Dn.enc, he, hpos, hp, hi0, hsj]
      refine ⟨fun g => ⟨hbad (hb1 fun e => absurd e.1.1 (by omega)), _, rfl⟩, fun g1 => ⟨fun g => ⟨hbad (hb1 fun e => absurd e.1.2.1 (by omega)), _, rfl⟩, fun g2 => ⟨fun g => ⟨hbad (hb1 fun e => absurd e.1.2.2.1 (by omega)), _, rfl⟩, fun g3 => ⟨fun g => ⟨hbad (hb1 fun e => absurd e.1.2.2.2 (by omega)), _, rfl⟩, fun g4 => ⟨fun g5 => ⟨fun g6 => ⟨hbad ?_, _, rfl⟩, fun g6 => ?_⟩, fun g => ⟨hbad (hb1 fun e => g e.2), _, rfl⟩⟩⟩⟩⟩⟩
      · rintro ⟨c', h1, _, h2⟩
        obtain ⟨d', h3, h4⟩ := h2 (by omega)
        rw [hget] at h1; cases h1
        rw [Nat.add_sub_cancel, hgetd] at h3; cases h3
        omega
      · refine ⟨i + 1 + 1, by show l.length - (i + 1 + 1) < l.length - (i + 1); omega, ⟨by omega, fun j hj => ?_⟩, _, [], rfl, Wk.of rfl (by decide) (by simp only [go_sem, hren, hrho, hw, wrap01]) (by simp only [go_sem])⟩
        rcases Nat.lt_or_ge j (i + 1) with h | h
        · exact hno j h
        · obtain rfl : j = i + 1 := by omega
          exact ⟨c, hget, ⟨⟨by omega, by omega, by omega, by omega⟩, g5⟩, fun _ => ⟨d, by rw [Nat.add_sub_cancel]; exact hgetd, by omega⟩⟩
  · have hci : ¬ (i : Int) < (l.length : Int) := by omega
    simp only [go_sem, C41L0, hci, hlen]
    exact ⟨bool_t fun j hj => hno j (by omega), _, rfl⟩
def findD : List Dn → Int → Option Dn
  | [], _ => none
  | d :: l, s => if d.ses = s then some d else findD l s
theorem findD_first : ∀ {l : List Dn} {i : Nat} {c : Dn} {s : Int}, l[i]? = some c → c.ses = s → (∀ j d, j < i → l[j]? = some d → ¬ d.ses = s) → findD l s = some c
  | [], i, c, s, h, _, _ => by simp at h
  | d :: l, 0, c, s, h, hs, _ => by cases h; rw [findD, if_pos hs]
  | d :: l, i + 1, c, s, h, hs, hn => by rw [findD, if_neg (hn 0 d (by omega) rfl), findD_first (i := i) (by simpa using h) hs fun j e hj he => hn (j + 1) e (by omega) (by simpa using he)]
theorem findD_none : ∀ {l : List Dn} {s : Int}, (∀ d ∈ l, ¬ d.ses = s) → findD l s = none
  | [], _, _ => rfl
  | d :: l, s, h => by rw [findD, if_neg (h d (by simp)), findD_none fun c hc => h c (by simp [hc])]
theorem findD_mem : ∀ {l : List Dn} {s : Int} {d : Dn}, findD l s = some d → d ∈ l ∧ d.ses = s
  | [], _, _, h => by cases h
  | c :: l, s, d, h => by
    unfold findD at h
    split at h
    · cases h; rename_i hk; exact ⟨by simp, hk⟩
    · obtain ⟨h1, h2⟩ := findD_mem h; exact ⟨by simp [h1], h2⟩
def zeroA : An := ⟨0, [], 0, [], .nils⟩
def zeroD : Dn := ⟨0, 0, zeroA⟩
theorem zeroA_ok : zeroA.ok H := ⟨.inl ⟨rfl, rfl⟩, by decide⟩
def foundD (o : Option Dn) : Dn := o.getD zeroD
end Go.Proofs
/- once: what was done, the plain law. -/

set_option linter.all false
set_option maxRecDepth 100000
namespace Go.Proofs
open Go Go.Ev
def risesD (l : List Dn) : Prop := ∀ (p q : Nat) (c d : Dn), p < q → l[p]? = some c → l[q]? = some d → c.ses < d.ses
def hasAtD (l : List Dn) (k : Int) (i : Nat) : Prop := ∃ c, l[i]? = some c ∧ c.ses = k
def lowAtD (l : List Dn) (k : Int) (i : Nat) : Prop := i ≤ l.length ∧ (∀ q c, q < i → l[q]? = some c → c.ses < k) ∧ ∀ q c, i ≤ q → l[q]? = some c → ¬ c.ses < k
abbrev upD (l : List Dn) : Prop := l.Pairwise fun c d => c.ses < d.ses
theorem upD_cons {c : Dn} {l : List Dn} : upD (c :: l) ↔ (∀ d ∈ l, c.ses < d.ses) ∧ upD l := List.pairwise_cons
theorem isDone_cons {c : Dn} {l : List Dn} : isDone (c :: l) ↔ okD c ∧ (∀ d, l[0]? = some d → c.ses < d.ses) ∧ isDone l := by
  constructor
  · intro h
    obtain ⟨c', h0, h1, _⟩ := h 0 (by simp)
    cases h0
    refine ⟨h1, fun d hd => ?_, fun j hj => ?_⟩
    · obtain ⟨e, g0, _, g2⟩ := h 1 (by have := (List.getElem?_eq_some_iff.1 hd).1; simp; omega)
      obtain ⟨c', g3, g4⟩ := g2 (by decide)
      rw [List.getElem?_cons_succ, hd] at g0; cases g0
      cases g3; exact g4
    · obtain ⟨e, g0, g1, g2⟩ := h (j + 1) (by simp; omega)
      rw [List.getElem?_cons_succ] at g0
      refine ⟨e, g0, g1, fun h0 => ?_⟩
      obtain ⟨c', g3, g4⟩ := g2 (by omega)
      rw [show j + 1 - 1 = (j - 1) + 1 by omega, List.getElem?_cons_succ] at g3
      exact ⟨c', g3, g4⟩
  · rintro ⟨h1, h2, h3⟩ j hj
    cases j with
    | zero => exact ⟨c, rfl, h1, fun h => absurd h (by decide)⟩
    | succ j =>
      obtain ⟨e, g0, g1, g2⟩ := h3 j (by simp at hj; omega)
      refine ⟨e, by rw [List.getElem?_cons_succ]; exact g0, g1, fun _ => ?_⟩
      cases j with
      | zero => exact ⟨c, rfl, h2 e g0⟩
      | succ j => obtain ⟨d, g3, g4⟩ := g2 (by omega); exact ⟨d, by simpa using g3, g4⟩
theorem done_iff : ∀ {l : List Dn}, isDone l ↔ (∀ c ∈ l, okD c) ∧ upD l
  | [] => ⟨fun _ => ⟨by simp, .nil⟩, fun _ j hj => by simp at hj⟩
  | c :: l => by
    rw [isDone_cons, done_iff (l := l), upD_cons]
    constructor
    · rintro ⟨h1, h2, h3, h4⟩
      refine ⟨by simpa using ⟨h1, h3⟩, fun d hd => ?_, h4⟩
      cases l with
      | nil => simp at hd
      | cons e l =>
        have he := h2 e rfl
        rcases List.mem_cons.1 hd with rfl | hd
        · exact he
        · exact Int.lt_trans he ((upD_cons.1 h4).1 d hd)
    · rintro ⟨h1, h2, h4⟩
      exact ⟨h1 c (by simp), fun d hd => h2 d (List.mem_of_getElem? hd), fun d hd => h1 d (by simp [hd]), h4⟩
theorem upD_rises {l : List Dn} (h : upD l) : risesD l := by
  intro p q c d hpq hc hd
  obtain ⟨hp, rfl⟩ := List.getElem?_eq_some_iff.1 hc
  obtain ⟨hq, rfl⟩ := List.getElem?_eq_some_iff.1 hd
  exact List.pairwise_iff_getElem.1 h p q hp hq hpq
theorem isDone.upDD {l : List Dn} (h : isDone l) : upD l := (done_iff.1 h).2
/-- one put in its place, f where its ses is there -/
noncomputable def putGD (f : Dn → Dn → Dn) : List Dn → Dn → List Dn
  | [], x => [x]
  | d :: l, x => if d.ses < x.ses then d :: putGD f l x else if d.ses = x.ses then f d x :: l else x :: d :: l
theorem lowAtD_tail {d : Dn} {l : List Dn} {k : Int} {i : Nat} (h : lowAtD (d :: l) k (i + 1)) : d.ses < k ∧ lowAtD l k i :=
  ⟨h.2.1 0 d (by omega) rfl, by have := h.1; simp at this; omega, fun q c hq hc => h.2.1 (q + 1) c (by omega) (by simpa using hc), fun q c hq hc => h.2.2 (q + 1) c (by omega) (by simpa using hc)⟩
theorem putGD_has {f : Dn → Dn → Dn} {x : Dn} : ∀ {l : List Dn} {i : Nat} {d : Dn}, lowAtD l x.ses i → l[i]? = some d → d.ses = x.ses → putGD f l x = l.set i (f d x)
  | [], i, d, _, h, _ => by simp at h
  | e :: l, 0, d, h, hd, hk => by
    cases hd
    rw [putGD, if_neg (by rw [hk]; exact Int.lt_irrefl _), if_pos hk]; rfl
  | e :: l, i + 1, d, h, hd, hk => by
    obtain ⟨h1, h2⟩ := lowAtD_tail h
    rw [putGD, if_pos h1, putGD_has h2 (by simpa using hd) hk]; rfl
theorem putGD_not {f : Dn → Dn → Dn} {x : Dn} : ∀ {l : List Dn} {i : Nat}, lowAtD l x.ses i → ¬ hasAtD l x.ses i → putGD f l x = l.take i ++ x :: l.drop i
  | [], i, h, _ => by
    obtain rfl : i = 0 := by have := h.1; simp at this; exact this
    rfl
  | e :: l, 0, h, hk => by
    have h1 : ¬ e.ses < x.ses := h.2.2 0 e (Nat.le_refl _) rfl
    rw [putGD, if_neg h1, if_neg (fun g => hk ⟨e, rfl, g⟩)]; rfl
  | e :: l, i + 1, h, hk => by
    obtain ⟨h1, h2⟩ := lowAtD_tail h
    rw [putGD, if_pos h1, putGD_not h2 (fun ⟨c, hc, g⟩ => hk ⟨c, by simpa using hc, g⟩)]; rfl
theorem mem_putGD {f : Dn → Dn → Dn} {x c : Dn} : ∀ {l : List Dn}, c ∈ putGD f l x → c = x ∨ c ∈ l ∨ ∃ d ∈ l, d.ses = x.ses ∧ c = f d x
  | [], h => by simp [putGD] at h; exact .inl h
  | d :: l, h => by
    unfold putGD at h
    split at h
    · rcases List.mem_cons.1 h with rfl | h
      · exact .inr (.inl (by simp))
      · rcases mem_putGD h with h | h | ⟨e, h1, h2⟩
        · exact .inl h
        · exact .inr (.inl (by simp [h]))
        · exact .inr (.inr ⟨e, by simp [h1], h2⟩)
    · split at h
      · rename_i hk
        rcases List.mem_cons.1 h with rfl | h
        · exact .inr (.inr ⟨d, by simp, hk, rfl⟩)
        · exact .inr (.inl (by simp [h]))
      · rcases List.mem_cons.1 h with rfl | h
        · exact .inl rfl
        · exact .inr (.inl h)
theorem putGD_up {f : Dn → Dn → Dn} (hf : ∀ d x, d.ses = x.ses → (f d x).ses = x.ses) {x : Dn} : ∀ {l : List Dn}, upD l → upD (putGD f l x)
  | [], _ => List.pairwise_singleton _ _
  | d :: l, h => by
    obtain ⟨h1, h2⟩ := upD_cons.1 h
    unfold putGD
    split
    · rename_i hd
      refine upD_cons.2 ⟨fun c hc => ?_, putGD_up hf h2⟩
      rcases mem_putGD hc with rfl | hc | ⟨e, he, hk, rfl⟩
      · exact hd
      · exact h1 c hc
      · rw [hf e x hk, ← hk]; exact h1 e he
    · rename_i hd
      split
      · rename_i hk
        exact upD_cons.2 ⟨fun c hc => by rw [hf d x hk, ← hk]; exact h1 c hc, h2⟩
      · rename_i hk
        have hx : x.ses < d.ses := by
          rcases Int.lt_trichotomy d.ses x.ses with e | e | e
          · exact absurd e hd
          · exact absurd e hk
          · exact e
        refine upD_cons.2 ⟨fun c hc => ?_, h⟩
        rcases List.mem_cons.1 hc with rfl | hc
        · exact hx
        · exact Int.lt_trans hx (h1 c hc)
theorem putGD_len {f : Dn → Dn → Dn} {x : Dn} : ∀ {l : List Dn}, (putGD f l x).length ≤ l.length + 1
  | [] => by simp [putGD]
  | d :: l => by
    unfold putGD
    split
    · have := putGD_len (f := f) (x := x) (l := l)
      simp only [List.length_cons]; omega
    · split <;> simp
theorem putGD_pos {f : Dn → Dn → Dn} {x : Dn} {l : List Dn} : 0 < (putGD f l x).length := by
  cases l with
  | nil => simp [putGD]
  | cons d l => unfold putGD; split <;> (try split) <;> simp
theorem findD_key : ∀ {l : List Dn} {k : Int} {c : Dn}, findD l k = some c → c.ses = k ∧ c ∈ l
  | [], _, _, h => by cases h
  | d :: l, k, c, h => by
    unfold findD at h
    split at h
    · cases h; rename_i hk; exact ⟨hk, by simp⟩
    · obtain ⟨h1, h2⟩ := findD_key h; exact ⟨h1, by simp [h2]⟩
theorem findD_at : ∀ {l : List Dn} {c : Dn}, upD l → c ∈ l → findD l c.ses = some c
  | d :: l, c, h, hc => by
    obtain ⟨h1, h2⟩ := upD_cons.1 h
    rcases List.mem_cons.1 hc with rfl | hc
    · rw [findD, if_pos rfl]
    · rw [findD, if_neg (fun e => by have := h1 c hc; rw [e] at this; exact Int.lt_irrefl _ this), findD_at h2 hc]
theorem findD_put {f : Dn → Dn → Dn} (hf : ∀ d x, d.ses = x.ses → (f d x).ses = x.ses) {x : Dn} : ∀ {l : List Dn} (_ : upD l) (k : Int), findD (putGD f l x) k = if x.ses = k then some (match findD l k with | none => x | some d => f d x) else findD l k
  | [], _, k => by simp only [putGD, findD]
  | d :: l, h, k => by
    obtain ⟨h1, h2⟩ := upD_cons.1 h
    unfold putGD
    split
    · rename_i hd
      rw [findD, findD_put hf h2 k, findD]
      by_cases hk : d.ses = k
      · rw [if_pos hk, if_pos hk, if_neg (fun e => by rw [hk, e] at hd; exact Int.lt_irrefl _ hd)]
      · rw [if_neg hk, if_neg hk]
    · rename_i hd
      split
      · rename_i hk
        simp only [findD, hf d x hk]
        by_cases e : x.ses = k
        · simp only [if_pos e, if_pos (hk.trans e)]
        · simp only [if_neg e, if_neg (fun g => e (hk.symm.trans g))]
      · rename_i hk
        have hx : x.ses < d.ses := by
          rcases Int.lt_trichotomy d.ses x.ses with e | e | e
          · exact absurd e hd
          · exact absurd e hk
          · exact e
        by_cases e : x.ses = k
        · subst e
          rw [findD, if_pos rfl, if_pos rfl, findD_none]
          intro c hc g
          rcases List.mem_cons.1 hc with rfl | hc
          · rw [g] at hx; exact Int.lt_irrefl _ hx
          · have := Int.lt_trans hx (h1 c hc); rw [g] at this; exact Int.lt_irrefl _ this
        · rw [findD, if_neg e, if_neg e]
theorem upD_ext : ∀ {l m : List Dn}, upD l → upD m → (∀ k, findD l k = findD m k) → l = m
  | [], [], _, _, _ => rfl
  | [], d :: m, _, _, h => by have := h d.ses; rw [findD, findD, if_pos rfl] at this; cases this
  | c :: l, [], _, _, h => by have := h c.ses; rw [findD, findD, if_pos rfl] at this; cases this
  | c :: l, d :: m, hl, hm, h => by
    obtain ⟨h1, h2⟩ := upD_cons.1 hl
    obtain ⟨g1, g2⟩ := upD_cons.1 hm
    have hcd : c.ses = d.ses := by
      rcases Int.lt_trichotomy c.ses d.ses with e | e | e
      · have := h c.ses
        rw [findD, if_pos rfl] at this
        obtain ⟨hk, hmem⟩ := findD_key this.symm
        rcases List.mem_cons.1 hmem with rfl | hmem
        · exact absurd e (Int.lt_irrefl _)
        · exact absurd (Int.lt_trans e (g1 c hmem)) (Int.lt_irrefl _)
      · exact e
      · have := h d.ses
        rw [findD.eq_2 d.ses d m, if_pos rfl] at this
        obtain ⟨hk, hmem⟩ := findD_key this
        rcases List.mem_cons.1 hmem with rfl | hmem
        · exact absurd e (Int.lt_irrefl _)
        · exact absurd (Int.lt_trans e (h1 d hmem)) (Int.lt_irrefl _)
    have hce : c = d := by
      have := h c.ses
      rw [findD, if_pos rfl, findD, if_pos hcd.symm] at this
      exact Option.some.inj this
    subst hce
    congr 1
    refine upD_ext h2 g2 fun k => ?_
    by_cases e : c.ses = k
    · rw [findD_none (fun x hx g => by have := h1 x hx; rw [e, g] at this; exact Int.lt_irrefl _ this), findD_none (fun x hx g => by have := g1 x hx; rw [e, g] at this; exact Int.lt_irrefl _ this)]
    · have := h k
      rwa [findD, if_neg e, findD, if_neg e] at this
end Go.Proofs
/- once: one more in its session's place, both joined: walked. -/

set_option linter.all false
set_option maxRecDepth 100000
namespace Go.Proofs
open Go Go.Ev
variable {H : Heap}

theorem clo57 : CloFn Tryd.prog 72 6 72 [.int .i64 0, .int .i64 0, .int .i64 0, .str [], .int .i64 0, .nils] := ⟨⟨Tryd.f72, Tryd.func72, by kernel_rfl, by kernel_rfl⟩, rfl, by decide⟩
theorem ins58 : InsFn Tryd.prog 94 6 72 [.int .i64 0, .int .i64 0, .int .i64 0, .str [], .int .i64 0, .nils] := ⟨⟨Tryd.f94, 109, 110, Tryd.func94, by kernel_rfl, by kernel_rfl, by kernel_rfl, by kernel_rfl⟩, rfl, by decide⟩
noncomputable def lateD (x d : Dn) : Dn := if x.id ≤ d.id then d else x
noncomputable def withD (l : List Dn) (d : Dn) : List Dn := putGD lateD l d
theorem lateD_ses (x d : Dn) (h : x.ses = d.ses) : (lateD x d).ses = d.ses := by unfold lateD; split <;> simp_all
theorem mem_withD {l : List Dn} {d c : Dn} (h : c ∈ withD l d) : c = d ∨ c ∈ l := by
  rcases mem_putGD h with h | h | ⟨x, h1, h2, rfl⟩
  · exact .inl h
  · exact .inr h
  · unfold lateD
    split
    · exact .inl rfl
    · exact .inr h1
theorem withD_ok {l : List Dn} {d : Dn} (h : allOk H l) (hd : d.an.ok H) : allOk H (withD l d) := fun c hc => by
  rcases mem_withD hc with rfl | hc
  · exact hd
  · exact h c hc
theorem withD_len {l : List Dn} {d : Dn} : (withD l d).length ≤ l.length + 1 := putGD_len
theorem withD_pos {l : List Dn} {d : Dn} : 0 < (withD l d).length := putGD_pos
theorem hasAtD_get {l : List Dn} {k : Int} {i : Nat} (h : hasAtD l k i) : ∃ d, l[i]? = some d ∧ d.ses = k ∧ i < l.length := by
  obtain ⟨d, h1, h2⟩ := h
  exact ⟨d, h1, h2, (List.getElem?_eq_some_iff.1 h1).1⟩
theorem f78_ok {v : AV} {l : List Dn} {d : Dn} (hA : Arr H 6 v (l.map Dn.enc)) (ha : allOk H l) (hd : d.an.ok H) (hup : upD l) (hl : l.length < 1000000) :
    FnOk Tryd.prog 78 [v, .agg d.enc] H fun r G => r = outV H.nx 6 (withD l d).length ∧ G = H.ext [outB 6 ((withD l d).map Dn.enc)] := by
  refine FnOk.assume fun hok => ?_
  refine FnOk.dropO' (List.length_map ..) (withD_ok ha hd).rens ?_
  refine FnOk.of_WW Tryd.func78 rfl C78ok R78ok E0 good_E0 ?_
  have hrens := ha.rens
  have hdren := hd.ren
  simp only [go_sem, C78, Dn.enc]
  refine CL.of (clone_z' clo57 (hA.ext _) (by rw [List.length_map]; omega) (ha.ext _).rens) ?_
  rintro _ _ ⟨z, rfl, rfl⟩
  simp only [go_sem, List.length_map]
  have hris := upD_rises hup
  refine LL.st good_E0 (fun i : Nat => l.length - i) (fun i => i ≤ l.length ∧ ∀ q c, q < i → l[q]? = some c → c.ses < d.ses)
    (fun i => [((.o (.o .z)), .ptr (H.key 0) 0), ((.o (.i .z)), zV z (H.key 1) 6 l.length), ((.i (.i .z)), .int .i64 i)]) (fun i => [.row true 6 [[.int .i64 d.ses, .int .i64 d.id, .int .i64 d.an.code, .str d.an.val, .int .i64 d.an.ver, d.an.rv]], zB z 6 (l.map Dn.enc)]) ?_ 0 (σ := [0, 1]) (Wk.of rfl (by decide) (by simp only [go_sem, zV_ren]) (by simp only [go_sem, ↓outB_ren', ↓zB_ren, hrens, hdren, implies_true])) ⟨Nat.zero_le _, fun q c h => absurd h (Nat.not_lt_zero _)⟩
  rintro i ⟨hi, hlo⟩
  by_cases hlt : i < l.length
  · have hget : l[i]? = some l[i] := List.getElem?_eq_getElem hlt
    generalize l[i] = c at hget
    have hpos : 0 < l.length := by omega
    have hzB := zB_pos (z := z) (esz := 6) (xs := l.map Dn.enc) (by rw [List.length_map]; exact hpos)
    have hw := wrap_succ (n := i) (by omega)
    have hci : (i : Int) < (l.length : Int) := by omega
    have hne : ¬ (i : Int) = (l.length : Int) := by omega
    have hsi : i + 1 ≤ l.length := by omega
    simp only [go_sem, C78L0, zV_pos hpos, hzB, hci, hsi, hne, hget, List.getElem?_map, Option.map_some, Dn.enc]
    refine ⟨fun g => ?_, fun g => ?_⟩
    · have hz : AV.slice (H.key 1) 0 l.length 6 false l.length = zV z (H.key 1) 6 l.length := by rw [zV_pos hpos]
      rw [hz, ← hzB]
      refine ⟨i + 1, by show l.length - (i + 1) < l.length - i; omega, ⟨by omega, fun q x hq hx => ?_⟩, _, [0, 1], rfl, Wk.of rfl (by decide) (by simp only [go_sem, zV_ren, hw]) (by simp only [go_sem, ↓outB_ren', ↓zB_ren, hrens, hdren, implies_true])⟩
      rcases Nat.lt_or_ge q i with h | h
      · exact hlo q x h hx
      · obtain rfl : q = i := by omega
        rw [hget] at hx; cases hx; exact g
    · have hlow : lowAtD l d.ses i := ⟨hi, hlo, fun q x hq hx => by
        rcases Nat.lt_or_ge i q with h | h
        · have := hris i q c x h hget hx; omega
        · obtain rfl : q = i := by omega
          rw [hget] at hx; cases hx; exact g⟩
      refine ⟨fun g2 => ?_, fun g2 => ?_⟩
      · have hput : withD l d = l.take i ++ d :: l.drop i := putGD_not hlow (fun ⟨x, h1, h2⟩ => by rw [hget] at h1; cases h1; exact g2 h2)
        have hz : AV.slice (H.key 1) 0 l.length 6 false l.length = zV z (H.key 1) 6 l.length := by rw [zV_pos hpos]
        rw [hz, ← hzB]
        refine CL.of (insert_z ins58 (i := 1) (j := 2) (xs := l.map Dn.enc) (x := [.int .i64 d.ses, .int .i64 d.id, .int .i64 d.an.code, .str d.an.val, .int .i64 d.an.ver, d.an.rv]) (by decide) rfl rfl (List.length_map ..) hlow.1 (by omega) (by omega)) ?_
        rintro _ _ ⟨b, rfl, rfl⟩
        simp only [go_sem]
        rw [hput]
        refine ⟨_, 3, ?_, rfl, fun _ => ?_⟩
        · simp only [List.length_append, List.length_cons, List.length_take, List.length_drop]
          rw [show min i l.length + (l.length - i + 1) = l.length + 1 by omega]; rfl
        · simp only [List.map_append, List.map_cons, List.map_take, List.map_drop]; rfl
      · have hse : c.ses = d.ses := Classical.not_not.1 g2
        have hput : withD l d = l.set i (lateD c d) := putGD_has hlow hget hse
        rw [hput]
        refine ⟨fun g3 => ?_, fun g3 => ?_⟩
        · have hl3 : lateD c d = d := if_pos g3
          rw [hl3]
          exact ⟨_, 1, by rw [List.length_set, outV_pos hpos], rfl, fun _ => by rw [outB_pos (by rw [List.length_map, List.length_set]; exact hpos), List.map_set]; rfl⟩
        · have hl3 : lateD c d = c := if_neg g3
          have hs : l.set i c = l := by
            refine List.ext_getElem? fun q => ?_
            rw [List.getElem?_set]
            split
            · rename_i hq; subst hq; rw [hget]
            · rfl
          rw [hl3, hs]
          exact ⟨_, 1, by rw [outV_pos hpos], rfl, fun _ => by rw [outB_pos (by rw [List.length_map]; exact hpos)]; rfl⟩
  · have hil : i = l.length := by omega
    subst hil
    have hci : ¬ (l.length : Int) < (l.length : Int) := by omega
    have hlow : lowAtD l d.ses l.length := ⟨hi, hlo, fun q x hq hx => by have := (List.getElem?_eq_some_iff.1 hx).1; omega⟩
    have hput : withD l d = l.take l.length ++ d :: l.drop l.length := putGD_not hlow (fun ⟨x, h1, h2⟩ => by have := (List.getElem?_eq_some_iff.1 h1).1; omega)
    simp only [go_sem, C78L0, hci]
    refine CL.of (insert_z ins58 (i := 1) (j := 2) (xs := l.map Dn.enc) (x := [.int .i64 d.ses, .int .i64 d.id, .int .i64 d.an.code, .str d.an.val, .int .i64 d.an.ver, d.an.rv]) (by decide) rfl rfl (List.length_map ..) hlow.1 (by omega) (by omega)) ?_
    rintro _ _ ⟨b, rfl, rfl⟩
    simp only [go_sem]
    rw [hput]
    refine ⟨_, 3, ?_, rfl, fun _ => ?_⟩
    · simp only [List.length_append, List.length_cons, List.length_take, List.length_drop]
      rw [show min l.length l.length + (l.length - l.length + 1) = l.length + 1 by omega]; rfl
    · simp only [List.map_append, List.map_cons, List.map_take, List.map_drop]; rfl
end Go.Proofs
/- once: both joined: walked. -/

set_option linter.all false
set_option maxRecDepth 100000
namespace Go.Proofs
open Go Go.Ev
variable {H : Heap}

noncomputable def joinP (a b : List Dn) : List Dn := a.foldl withD b
theorem joinP_succ {a b : List Dn} {i : Nat} {c : Dn} (h : a[i]? = some c) : joinP (a.take (i + 1)) b = withD (joinP (a.take i) b) c := by
  obtain ⟨hl, rfl⟩ := List.getElem?_eq_some_iff.1 h
  unfold joinP
  rw [List.take_succ_eq_append_getElem hl, List.foldl_append]; rfl
theorem joinP_ok : ∀ {a b : List Dn}, allOk H a → allOk H b → allOk H (joinP a b)
  | [], b, _, h => h
  | x :: a, b, ha, hb => joinP_ok (a := a) (fun d hd => ha d (by simp [hd])) (withD_ok hb (ha x (by simp)))
theorem withD_up {l : List Dn} {d : Dn} (h : upD l) : upD (withD l d) := putGD_up lateD_ses h
theorem joinP_up : ∀ {a b : List Dn}, upD b → upD (joinP a b)
  | [], _, h => h
  | x :: a, b, h => joinP_up (a := a) (withD_up h)
theorem joinP_len : ∀ {a b : List Dn}, (joinP a b).length ≤ a.length + b.length
  | [], b => by simp [joinP]
  | x :: a, b => by
    have h1 := joinP_len (a := a) (b := withD b x)
    have h2 := withD_len (l := b) (d := x)
    have h3 : joinP (x :: a) b = joinP a (withD b x) := rfl
    rw [h3, List.length_cons]
    omega
theorem f53_ok {u v : AV} {l b : List Dn} (hA : Arr H 6 v (l.map Dn.enc)) (hB : Arr H 6 u (b.map Dn.enc)) (ha : allOk H l) (hb : allOk H b) (hup : upD b) (hl : l.length < 100000) (hbl : b.length < 100000) :
    FnOk Tryd.prog 53 [v, u] H fun r G => ∃ z, r = zV z H.nx 6 (joinP l b).length ∧ G = H.ext [zB z 6 ((joinP l b).map Dn.enc)] := by
  refine FnOk.assume fun hok => ?_
  refine FnOk.dropZn' (List.length_map ..) (joinP_ok ha hb).rens ?_
  refine FnOk.of_WW Tryd.func53 rfl C53ok R53ok E0 good_E0 ?_
  have hlen := fun G => hA.len G; simp only [List.length_map] at hlen; have hren := hA.ren
  simp only [go_sem, C53]
  refine CL.of (clone_z' clo57 (hB.ext _) (by rw [List.length_map]; omega) (hb.ext _).rens) ?_
  rintro _ _ ⟨z, rfl, rfl⟩
  simp only [go_sem, List.length_map, hlen]
  have hokP : ∀ i, allOk H (joinP (l.take i) b) := fun i => joinP_ok (fun d hd => ha d (List.mem_of_mem_take hd)) hb
  refine LL.st good_E0 (fun i : Nat => l.length - i) (fun i => i ≤ l.length)
    (fun i => [((.o (.i .z)), zV z (H.key 0) 6 (joinP (l.take i) b).length), ((.i (.i (.o .z))), v), ((.o (.o (.i .z))), .int .i64 l.length), ((.i (.o (.i .z))), .int .i64 i)])
    (fun i => [zB z 6 ((joinP (l.take i) b).map Dn.enc)]) ?_ 0 (σ := [0]) (Wk.of rfl (by decide) (by simp only [go_sem, hren, zV_ren, joinP, List.foldl_nil]) (by simp only [go_sem, joinP, List.foldl_nil, ↓zB_ren, hb.rens, implies_true])) (Nat.zero_le _)
  rintro i hi
  by_cases hlt : i < l.length
  · obtain ⟨kk, r, ex', cap', wr, rows, hv, hrho, hgo, hrow⟩ := hA.at hok (j := i) (by rw [List.length_map]; exact hlt); simp only [List.length_map, List.getElem_map] at hv hrow; cases hv; have hget : l[i]? = some l[i] := List.getElem?_eq_getElem hlt; generalize l[i] = c at hrow hget; have hw := wrap_succ (n := i) (by omega); have hci : (i : Int) < (l.length : Int) := (by omega); have hsi : i + 1 ≤ l.length := (by omega)
    have hco := ha c (List.mem_of_getElem? hget)
    have hupP : upD (joinP (l.take i) b) := joinP_up hup
    have hnew := joinP_succ (b := b) hget
    have hln := joinP_len (a := l.take i) (b := b)
    rw [List.length_take] at hln
    have hoi := hokP i
    have hoi2 := (hokP (i + 1)).rens
    generalize joinP (l.take i) b = acc at hupP hnew hln hoi ⊢
    rw [hnew] at hoi2
    simp only [go_sem, C53L0, hci, hsi, hgo, hrow, hw, Dn.enc]
    refine CL.of (f78_ok (l := acc) (d := c) (arr_zV rfl (List.length_map ..)) (hoi.ext _) (hco.ext _) hupP (by omega)) ?_
    rintro _ _ ⟨rfl, rfl⟩
    simp only [go_sem, hw]
    have hwp := withD_pos (l := acc) (d := c)
    have hz : outV (H.key 2) 6 (withD acc c).length = zV z (H.key 2) 6 (withD acc c).length := by rw [outV_pos hwp, zV_pos hwp]
    have hz2 : outB 6 ((withD acc c).map Dn.enc) = zB z 6 ((withD acc c).map Dn.enc) := by rw [outB_pos (by rw [List.length_map]; exact hwp), zB_pos (by rw [List.length_map]; exact hwp)]
    rw [hz, hz2]
    refine ⟨i + 1, by show l.length - (i + 1) < l.length - i; omega, ?_, _, [2], rfl, Wk.of rfl (by decide) (by simp only [go_sem, zV_ren, hrho, hnew, hw]) (by simp only [go_sem, ↓zB_ren, hoi2, implies_true, hnew])⟩
    show i + 1 ≤ l.length
    omega
  · have hci : ¬ (i : Int) < (l.length : Int) := by omega
    simp only [go_sem, C53L0, hci]
    rw [List.take_of_length_le (by omega)]
    exact ⟨z, _, 0, rfl, rfl, fun _ => rfl⟩
end Go.Proofs
/- cut: small functions, walked. -/




set_option linter.all false
set_option linter.all false
set_option maxRecDepth 100000
namespace Go.Proofs
open Go Go.Ev
variable {H : Heap}

def isID (n : Int) : Prop := 1 ≤ n ∧ n ≤ 1000000000000
instance (n : Int) : Decidable (isID n) := inferInstanceAs (Decidable (_ ∧ _))
theorem f43_ok (n : Int) : FnOk Tryd.prog 43 [.int .i64 n] H fun r G => r = .bool (decide (isID n)) ∧ G = H := by
  refine FnOk.of_WW Tryd.func43 rfl C43ok R43ok E0 good_E0 ?_
  simp only [go_sem, C43]
  refine ⟨fun g => ⟨fun g2 => ⟨bool_t ⟨g, g2⟩, Heap.ext_nil H⟩, fun g2 => ⟨bool_f fun h => g2 h.2, Heap.ext_nil H⟩⟩, fun g => ⟨bool_f fun h => g h.1, Heap.ext_nil H⟩⟩
theorem f47_ok (a b : Option Int) : FnOk Tryd.prog 47 [errV a, errV b] H fun r G => r = errV (a.or b) ∧ G = H := by
  refine FnOk.of_WW Tryd.func47 rfl C47ok R47ok E0 good_E0 ?_
  cases a <;> cases b <;> simp only [go_sem, C47, errV, Option.or] <;> exact Heap.ext_nil H
theorem f22_ok (a : Option Int) (n : Int) : FnOk Tryd.prog 22 [errV a, .int .i64 n] H fun r G => r = .bool (decide (a = some n)) ∧ G = H := by
  refine FnOk.of_WW Tryd.func22 rfl C22ok R22ok E0 good_E0 ?_
  cases a with
  | none =>
    simp only [go_sem, C22, errV]
    exact Heap.ext_nil H
  | some a =>
    simp only [go_sem, C22, errV]
    refine CL.one (f46_ok (some a)) ?_
    simp only [go_sem, Option.getD_some]
    refine ⟨fun g => ⟨bool_f fun h => by cases h; exact g rfl, Heap.ext_nil H⟩, fun g => ?_⟩
    refine CL.one (f32_ok (some a) n) ?_
    rw [decide_eq_true (congrArg some (Classical.not_not.1 g))]
    simp only [go_sem]
    exact Heap.ext_nil H
theorem f48_ok (f t f' t' : List Nat) : FnOk Tryd.prog 48 [.agg [.str f, .str t], .agg [.str f', .str t']] H fun r G => r = .bool (decide (isSpan f t ∧ isSpan f' t' ∧ ¬ t = [] ∧ t = f')) ∧ G = H := by
  refine FnOk.drop (R := fun r => r = .bool (decide (isSpan f t ∧ isSpan f' t' ∧ ¬ t = [] ∧ t = f'))) ?_ (by rintro v rfl ρ; rw [AV.ren])
  refine FnOk.of_WW Tryd.func48 rfl C48ok R48ok E0 good_E0 ?_
  simp only [go_sem, C48]
  refine CL.bool (f59_ok f t) (fun g1 => ?_) (fun g1 => ?_)
  · simp only [go_sem]
    refine CL.bool (f59_ok f' t') (fun g2 => ?_) (fun g2 => ?_)
    · simp only [go_sem]
      refine ⟨fun g3 => ⟨fun g4 => ⟨bool_t ⟨g1, g2, g3, g4⟩, _, rfl⟩, fun g4 => ⟨bool_f fun h => g4 h.2.2.2, _, rfl⟩⟩, fun g3 => ⟨bool_f fun h => g3 h.2.2.1, _, rfl⟩⟩
    · simp only [go_sem]
      exact ⟨bool_f fun h => g2 h.2.1, _, rfl⟩
  · simp only [go_sem]
    exact ⟨bool_f fun h => g1 h.1, _, rfl⟩
theorem f49_ok (id ep : Int) (f t : List Nat) : FnOk Tryd.prog 49 [.int .i64 id, .int .i64 ep, .agg [.str f, .str t]] H fun r G => r = .agg [.int .i64 id, .int .i64 ep, .str f, .str t, .bool false, .nils, .nils, .nils] ∧ G = H := by
  refine FnOk.drop (R := fun r => r = .agg [.int .i64 id, .int .i64 ep, .str f, .str t, .bool false, .nils, .nils, .nils]) ?_ (by rintro v rfl ρ; simp only [AV.ren, AV.rens])
  refine FnOk.of_WW Tryd.func49 rfl C49ok R49ok E0 good_E0 ?_
  simp only [go_sem, C49]
  exact ⟨_, rfl⟩
theorem f44_ok (f t k : List Nat) : FnOk Tryd.prog 44 [.agg [.str f, .str t], .str k] H fun r G => r = (if has f t k ∧ ltS f k then .tup [.agg [.str f, .str k], .agg [.str k, .str t], .bool true] else .tup [.agg [.str [], .str []], .agg [.str [], .str []], .bool false]) ∧ G = H := by
  refine FnOk.drop (R := fun r => r = (if has f t k ∧ ltS f k then .tup [.agg [.str f, .str k], .agg [.str k, .str t], .bool true] else .tup [.agg [.str [], .str []], .agg [.str [], .str []], .bool false])) ?_ (by rintro v rfl ρ; split <;> simp only [AV.ren, AV.rens])
  refine FnOk.of_WW Tryd.func44 rfl C44ok R44ok E0 good_E0 ?_
  simp only [go_sem, C44]
  refine CL.bool (f65_ok f t k) (fun g1 => ?_) (fun g1 => ?_)
  · simp only [go_sem]
    refine ⟨fun g2 => ?_, fun g2 => ?_⟩
    · rw [if_neg fun h => ?_]
      · exact ⟨rfl, _, rfl⟩
      · rcases g2 with g2 | g2
        · exact ltS_irrefl _ (ltS_trans g2 h.2)
        · rw [g2] at h; exact ltS_irrefl _ h.2
    · have hlt : ltS f k := by
        rcases ltS_tri f k with h | h | h
        · exact h
        · exact absurd (.inr h.symm) g2
        · exact absurd (.inl h) g2
      rw [if_pos ⟨g1, hlt⟩]
      exact ⟨rfl, _, rfl⟩
  · simp only [go_sem]
    rw [if_neg fun h => g1 h.1]
    exact ⟨rfl, _, rfl⟩
structure Evn where
  key : List Nat
  ver : Int
  val : List Nat
  del : Bool
  deriving DecidableEq
def Evn.enc (e : Evn) : List AV := [.str e.key, .int .i64 e.ver, .str e.val, .bool e.del]
theorem Evn.rens (ρ : K → K) (c : Evn) : AV.rens ρ c.enc = c.enc := by simp only [Evn.enc, AV.rens, AV.ren]
theorem Evn.map_rens (ρ : K → K) (l : List Evn) : (l.map Evn.enc).map (AV.rens ρ) = l.map Evn.enc := by
  rw [List.map_map]; exact List.map_congr_left fun c _ => Evn.rens ρ c
def isEv (e : Evn) : Prop := mayBe e.key e.val e.ver e.del
instance (e : Evn) : Decidable (isEv e) := inferInstanceAs (Decidable (mayBe ..))
theorem f103_ok (e : Evn) : FnOk Tryd.prog 103 [.agg e.enc] H fun r G => r = .bool (decide (isEv e)) ∧ G = H := by
  refine FnOk.drop (R := fun r => r = .bool (decide (isEv e))) ?_ (by rintro v rfl ρ; rw [AV.ren])
  refine FnOk.of_WW Tryd.func103 rfl C103ok R103ok E0 good_E0 ?_
  simp only [go_sem, C103, Evn.enc]
  refine CL.one (f114_ok e.key e.val e.ver e.del) ?_
  simp only [go_sem]
  exact ⟨fun g => ⟨bool_t g, _, rfl⟩, fun g => ⟨bool_f g, _, rfl⟩⟩
theorem f56_ok (e : Evn) : FnOk Tryd.prog 56 [.agg e.enc] H fun r G => r = .bool (decide (isEv e)) ∧ G = H := by
  refine FnOk.drop (R := fun r => r = .bool (decide (isEv e))) ?_ (by rintro v rfl ρ; rw [AV.ren])
  refine FnOk.of_WW Tryd.func56 rfl C56ok R56ok E0 good_E0 ?_
  simp only [go_sem, C56, Evn.enc]
  refine CL.one (f79_ok ⟨e.key, e.val, e.ver, e.del, 0⟩) ?_
  simp only [go_sem]
  have hz : cellIs ⟨e.key, e.val, e.ver, e.del, 0⟩ ↔ isEv e := ⟨fun h => h.1, fun h => ⟨h, Int.le_refl _, by have := h.2.2.2.1; show (0 : Int) ≤ e.ver; omega⟩⟩
  exact ⟨fun g => ⟨bool_t (hz.1 g), _, rfl⟩, fun g => ⟨bool_f fun h => g (hz.2 h), _, rfl⟩⟩
end Go.Proofs
/- history: whether a cell's events are all from its floor up to its version: walked. -/

set_option linter.all false
set_option linter.all false
set_option maxRecDepth 100000
namespace Go.Proofs
open Go Go.Ev
variable {H : Heap}

/-- events of a key, version by version -/
def runE (k : List Nat) : List Evn → Int × Evn → Option (Int × Evn)
  | [], s => some s
  | e :: l, s => if e.key = k then (if e.ver = s.1 + 1 then runE k l (e.ver, e) else none) else runE k l s
def lastOf (c : Cell) : Evn := ⟨[], 0, c.value, c.del⟩
/-- a cell's events -/
def ofH (l : List Evn) (c : Cell) : Prop := ∃ s, runE c.key l (c.floor, lastOf c) = some s ∧ s.1 = c.ver ∧ s.2.val = c.value ∧ s.2.del = c.del
noncomputable instance (l : List Evn) (c : Cell) : Decidable (ofH l c) := Classical.propDecidable _
theorem drop_at {l : List Evn} {i : Nat} {e : Evn} (h : l[i]? = some e) : l.drop i = e :: l.drop (i + 1) := by
  obtain ⟨hl, rfl⟩ := List.getElem?_eq_some_iff.1 h
  exact List.drop_eq_getElem_cons hl
theorem f105_ok {v : AV} {l : List Evn} (hA : Arr H 4 v (l.map Evn.enc)) (hl : l.length < 9223372036854775807) (c : Cell) (hf : 0 ≤ c.floor ∧ c.floor ≤ 1000000000000) (he : ∀ e ∈ l, 1 ≤ e.ver ∧ e.ver ≤ 1000000000000) :
    FnOk Tryd.prog 105 [v, .agg c.enc] H fun r G => r = .bool (decide (ofH l c)) ∧ G = H := by
  refine FnOk.assume fun hok => ?_
  refine FnOk.drop (R := fun r => r = .bool (decide (ofH l c))) ?_ (by rintro v rfl ρ; rw [AV.ren])
  refine FnOk.of_WW Tryd.func105 rfl C105ok R105ok E0 good_E0 ?_
  have hlen := fun G => hA.len G; simp only [List.length_map] at hlen; have hren := hA.ren
  simp only [go_sem, C105, Cell.enc, hlen]
  refine LL.st good_E0 (fun s : Nat × Int × Evn => l.length - s.1) (fun s => s.1 ≤ l.length ∧ (0 ≤ s.2.1 ∧ s.2.1 ≤ 1000000000000) ∧ runE c.key l (c.floor, lastOf c) = runE c.key (l.drop s.1) s.2)
    (fun s => [((.o (.o .z)), .ptr (H.key 0) 0), ((.o (.i .z)), .int .i64 s.2.1), ((.i (.i .z)), .ptr (H.key 1) 0), ((.i (.o (.o (.o .z)))), v), ((.o (.i (.o (.o .z)))), .int .i64 l.length), ((.i (.i (.o (.o .z)))), .int .i64 s.1)])
    (fun s => [.row true 5 [[.str c.key, .str c.value, .int .i64 c.ver, .bool c.del, .int .i64 c.floor]], .row true 4 [[.str s.2.2.key, .int .i64 s.2.2.ver, .str s.2.2.val, .bool s.2.2.del]]]) ?_ (0, c.floor, lastOf c) (σ := [0, 1]) (Wk.of rfl (by decide) (by simp only [go_sem, hren]) (by simp only [go_sem, lastOf])) ⟨Nat.zero_le _, hf, rfl⟩
  rintro ⟨i, at_, last⟩ ⟨hi, hat, hrun⟩
  simp only at hi hat hrun
  by_cases hlt : i < l.length
  · obtain ⟨kk, r, ex', cap', wr, rows, hv, hrho, hgo, hrow⟩ := hA.at hok (j := i) (by rw [List.length_map]; exact hlt); simp only [List.length_map, List.getElem_map] at hv hrow; cases hv; have hget : l[i]? = some l[i] := List.getElem?_eq_getElem hlt; generalize l[i] = e at hrow hget; have hw := wrap_succ (n := i) (by omega); have hci : (i : Int) < (l.length : Int) := (by omega); have hsi : i + 1 ≤ l.length := (by omega)
    have hev := he e (List.mem_of_getElem? hget)
    rw [drop_at hget, runE] at hrun
    have hw2 : IntKind.i64.wrap (at_ + 1) = at_ + 1 := wrap_i64 (by omega) (by omega)
    simp only [go_sem, C105L0, hlen, hci, hsi, hgo, hrow, hw, hw2, Evn.enc]
    have hno : runE c.key l (c.floor, lastOf c) = none → AV.bool false = .bool (decide (ofH l c)) := fun h => bool_f fun ⟨q, hq, _⟩ => by rw [h] at hq; cases hq
    refine ⟨fun g => ?_, fun g => ⟨fun g2 => ?_, fun g2 => ?_⟩⟩
    · rw [if_neg g] at hrun
      exact ⟨(i + 1, at_, last), by show l.length - (i + 1) < l.length - i; omega, ⟨by show i + 1 ≤ l.length; omega, hat, hrun⟩, _, [0, 1], rfl, Wk.of rfl (by decide) (by simp only [go_sem, hrho, hw]) (by simp only [go_sem])⟩
    · rw [if_pos (Classical.not_not.1 g), if_neg g2] at hrun
      exact ⟨hno hrun, _, rfl⟩
    · rw [if_pos (Classical.not_not.1 g), if_pos (Classical.not_not.1 g2)] at hrun
      exact ⟨(i + 1, e.ver, e), by show l.length - (i + 1) < l.length - i; omega, ⟨by show i + 1 ≤ l.length; omega, ⟨by show 0 ≤ e.ver; omega, by show e.ver ≤ _; omega⟩, hrun⟩, _, [0, 1], rfl, Wk.of rfl (by decide) (by simp only [go_sem, hrho, hw]) (by simp only [go_sem])⟩
  · have hci : ¬ (i : Int) < (l.length : Int) := by omega
    rw [List.drop_eq_nil_of_le (by omega), runE] at hrun
    simp only [go_sem, C105L0, hci]
    have hof : ofH l c ↔ at_ = c.ver ∧ last.val = c.value ∧ last.del = c.del := by
      unfold ofH
      rw [hrun]
      exact ⟨fun ⟨q, h, h1⟩ => by cases h; exact h1, fun h => ⟨_, rfl, h⟩⟩
    refine ⟨fun g1 => ⟨fun g2 => ⟨fun g3 => ⟨bool_t (hof.2 ⟨g1, g2, g3⟩), _, rfl⟩, fun g3 => ⟨bool_f fun h => g3 (hof.1 h).2.2, _, rfl⟩⟩, fun g2 => ⟨bool_f fun h => g2 (hof.1 h).2.1, _, rfl⟩⟩, fun g1 => ⟨bool_f fun h => g1 (hof.1 h).1, _, rfl⟩⟩
end Go.Proofs
/- history, shards: whether they are any: walked. -/

set_option linter.all false
set_option linter.all false
set_option maxRecDepth 100000
namespace Go.Proofs
open Go Go.Ev
variable {H : Heap}

attribute [go_sem] mkfR
theorem f104_ok {k : K} {wr : Bool} {v : AV} {l : List Evn} (hk : H.get k = some (.row wr 1 [[v]])) (hA : Arr H 4 v (l.map Evn.enc)) (hl : l.length < 9223372036854775807) (c : Cell) (hf : 0 ≤ c.floor ∧ c.floor ≤ 1000000000000) (he : ∀ e ∈ l, 1 ≤ e.ver ∧ e.ver ≤ 1000000000000) :
    FnOk Tryd.prog 104 [.agg c.enc, .ptr k 0] H fun r G => r = .bool (decide (¬ ofH l c)) ∧ G = H := by
  refine FnOk.assume fun hok => ?_
  refine FnOk.drop (R := fun r => r = .bool (decide (¬ ofH l c))) ?_ (by rintro v rfl ρ; rw [AV.ren])
  refine FnOk.of_WW Tryd.func104 rfl C104ok R104ok E0 good_E0 ?_
  have hgo := Heap.get_ext_old hok hk
  simp only [go_sem, C104, Cell.enc, hgo]
  refine CL.bool (f105_ok (hA.ext _) hl c hf he) (fun g => ?_) (fun g => ?_)
  · simp only [go_sem]
    exact ⟨bool_f fun h => h g, _, rfl⟩
  · simp only [go_sem]
    exact ⟨bool_t g, _, rfl⟩
theorem f100_ok {v : AV} {l : List Cell} (hA : Arr H 5 v (l.map Cell.enc)) (hl : l.length ≤ 9223372036854775807) {g : FuncId} {caps : List AV} (hcall : ∀ args H, callC Tryd.prog g args H = .call g args)
    (hcaps : ∀ top σ, AV.ren (rho H top σ) (.fn (.func g) [] caps) = .fn (.func g) [] caps) {p : Cell → Prop} [DecidablePred p] (hg : ∀ c ∈ l, ∀ L, FnOk Tryd.prog g (.agg c.enc :: caps) (H.ext L) fun r G => r = .bool (decide (p c)) ∧ G = H.ext L) :
    FnOk Tryd.prog 100 [v, .fn (.func g) [] caps] H fun r G => (∃ n : Int, r = .int .i64 n ∧ (0 ≤ n ↔ ∃ c ∈ l, p c)) ∧ G = H := by
  refine FnOk.assume fun hok => ?_
  refine FnOk.drop (R := fun r => ∃ n : Int, r = .int .i64 n ∧ (0 ≤ n ↔ ∃ c ∈ l, p c)) ?_ (by rintro v ⟨n, rfl, _⟩ ρ; rw [AV.ren])
  refine FnOk.of_WW Tryd.func100 rfl C100ok R100ok E0 good_E0 ?_
  have hlen := fun G => hA.len G; simp only [List.length_map] at hlen; have hren := hA.ren
  simp only [go_sem, C100, hlen]
  refine LL.st good_E0 (fun i : Nat => l.length - i) (fun i => i ≤ l.length ∧ ∀ j d, j < i → l[j]? = some d → ¬ p d)
    (fun i => [(.z, v), ((.o .z), .fn (.func g) [] caps), ((.i (.i .z)), v), ((.o (.o (.o .z))), .int .i64 l.length), ((.i (.o (.o .z))), .int .i64 i)]) (fun i => []) ?_ 0 (σ := []) (Wk.of rfl (by decide) (by simp only [go_sem, hren, ↓hcaps]) (by simp only [go_sem])) ⟨Nat.zero_le _, fun j d h => absurd h (Nat.not_lt_zero _)⟩
  rintro i ⟨hi, hno⟩
  by_cases hlt : i < l.length
  · obtain ⟨kk, r, ex', cap', wr, rows, hv, hrho, hgo, hrow⟩ := hA.at hok (j := i) (by rw [List.length_map]; exact hlt); simp only [List.length_map, List.getElem_map] at hv hrow; cases hv; have hget : l[i]? = some l[i] := List.getElem?_eq_getElem hlt; generalize l[i] = c at hrow hget; have hw := wrap_succ (n := i) (by omega); have hci : (i : Int) < (l.length : Int) := (by omega); have hsi : i + 1 ≤ l.length := (by omega)
    have hgc := hg c (List.mem_of_getElem? hget)
    simp only [Cell.enc] at hgc
    simp only [go_sem, C100L0, hci, hsi, hgo, hrow, hw, Cell.enc, hcall]
    refine CL.bool (hgc _) (fun g => ?_) (fun g => ?_)
    · simp only [go_sem]
      exact ⟨⟨_, rfl, fun _ => ⟨c, List.mem_of_getElem? hget, g⟩, fun _ => by omega⟩, _, rfl⟩
    · simp only [go_sem, hw]
      refine ⟨i + 1, by show l.length - (i + 1) < l.length - i; omega, ⟨by omega, fun j d hj hd => ?_⟩, _, [], rfl, Wk.of rfl (by decide) (by simp only [go_sem, hren, hrho, ↓hcaps, hw]) (by simp only [go_sem])⟩
      rcases Nat.lt_or_ge j i with h | h
      · exact hno j d h hd
      · obtain rfl : j = i := by omega
        rw [hget] at hd; cases hd; exact g
  · have hci : ¬ (i : Int) < (l.length : Int) := by omega
    simp only [go_sem, C100L0, hci]
    refine ⟨⟨_, rfl, fun h => absurd h (by decide), ?_⟩, _, rfl⟩
    rintro ⟨d, hd, hb⟩
    obtain ⟨j, hj⟩ := List.mem_iff_getElem?.1 hd
    exact absurd hb (hno j d (by have := (List.getElem?_eq_some_iff.1 hj).1; omega) hj)
noncomputable instance (l : List Cell) (p : Cell → Prop) : Decidable (∃ c ∈ l, p c) := Classical.propDecidable _
theorem f87_ok {v : AV} {l : List Cell} (hA : Arr H 5 v (l.map Cell.enc)) (hl : l.length ≤ 9223372036854775807) {g : FuncId} {caps : List AV} (hcall : ∀ args H, callC Tryd.prog g args H = .call g args)
    (hcaps : ∀ top σ, AV.ren (rho H top σ) (.fn (.func g) [] caps) = .fn (.func g) [] caps) {p : Cell → Prop} [DecidablePred p] (hg : ∀ c ∈ l, ∀ L, FnOk Tryd.prog g (.agg c.enc :: caps) (H.ext L) fun r G => r = .bool (decide (p c)) ∧ G = H.ext L) :
    FnOk Tryd.prog 87 [v, .fn (.func g) [] caps] H fun r G => r = .bool (decide (∃ c ∈ l, p c)) ∧ G = H := by
  refine FnOk.drop (R := fun r => r = .bool (decide (∃ c ∈ l, p c))) ?_ (by rintro v rfl ρ; rw [AV.ren])
  refine FnOk.of_WW Tryd.func87 rfl C87ok R87ok E0 good_E0 ?_
  simp only [go_sem, C87]
  have h := f100_ok hA hl hcall hcaps hg
  rw [← Heap.ext_nil H] at h
  refine CL.of h ?_
  rintro _ _ ⟨⟨n, rfl, hn⟩, rfl⟩
  simp only [go_sem]
  exact ⟨fun h => ⟨bool_t (hn.1 h), [], rfl⟩, fun h => ⟨bool_f fun e => h (hn.2 e), [], rfl⟩⟩
/-- events of cells -/
def isHist (l : List Evn) (cells : List Cell) : Prop := isIdx cells ∧ (∀ e ∈ l, (getL cells e.key).2 = true ∧ isEv e) ∧ ∀ c ∈ cells, ofH l c
noncomputable instance (l : List Evn) (cells : List Cell) : Decidable (isHist l cells) := Classical.propDecidable _
theorem isIdx.cell {cells : List Cell} (h : isIdx cells) {c : Cell} (hc : c ∈ cells) : cellIs c := by
  obtain ⟨j, hj⟩ := List.mem_iff_getElem?.1 hc
  have := h j (List.getElem?_eq_some_iff.1 hj).1
  obtain ⟨c', h1, h2, _⟩ := this
  rw [hj] at h1; cases h1; exact h2
end Go.Proofs
/- history, shards: whether they are any: walked. -/

set_option linter.all false
set_option linter.all false
set_option maxRecDepth 100000
namespace Go.Proofs
open Go Go.Ev
variable {H : Heap}

theorem arr_agg {esz : Nat} {v : AV} {xs : List (List AV)} (h : Arr H esz v xs) {β : Type} (f : β) (c : List AV → β) : asAggC v f c = f := by
  rcases h.forms with ⟨rfl, _⟩ | ⟨k, off, ex, cap, rfl, _⟩ <;> rfl
theorem arr_one {esz : Nat} {v : AV} {xs : List (List AV)} (h : Arr H esz v xs) : AV.one v = true := by
  rcases h.forms with ⟨rfl, _⟩ | ⟨k, off, ex, cap, rfl, _⟩ <;> rfl
theorem isEv.ver {e : Evn} (h : isEv e) : 1 ≤ e.ver ∧ e.ver ≤ 1000000000000 := ⟨h.2.2.2.1, h.2.2.2.2⟩
theorem cellIs.floor {c : Cell} (h : cellIs c) : 0 ≤ c.floor ∧ c.floor ≤ 1000000000000 := ⟨h.2.1, by have := h.1.2.2.2.2; have := h.2.2; omega⟩
theorem cap_ren {H : Heap} {b : Blk} {g : FuncId} (L : List Blk) (top : Nat) (σ : List Nat) : AV.ren (rho ((H.ext [b]).ext L) top σ) (.fn (.func g) [] [.ptr (H.key 0) 0]) = .fn (.func g) [] [.ptr (H.key 0) 0] := by
  have : rho ((H.ext [b]).ext L) top σ (H.key 0) = H.key 0 := rho_old (by rw [Heap.nx_ext, Heap.toNat_key, Heap.toNat_key, Heap.nx_ext, Heap.toNat_key]; simp; omega)
  simp only [AV.ren, AV.rens, this]
theorem get_first {H : Heap} {b : Blk} (L M : List Blk) : ((H.ext (b :: L)).ext M).get (H.key 0) = some b := by
  rw [Heap.ext_append, Heap.get_ext_key _ _ _ (by simp)]; rfl
theorem f88_ok {v u : AV} {l : List Evn} {cs : List Cell} (hA : Arr H 4 v (l.map Evn.enc)) (hB : Arr H 5 u (cs.map Cell.enc)) (hl : l.length < 4294967296) (hc : cs.length < 4294967296) :
    FnOk Tryd.prog 88 [v, u] H fun r G => r = .bool (decide (isHist l cs)) ∧ G = H := by
  refine FnOk.assume fun hok => ?_
  refine FnOk.drop (R := fun r => r = .bool (decide (isHist l cs))) ?_ (by rintro v rfl ρ; rw [AV.ren])
  refine FnOk.of_WW Tryd.func88 rfl C88ok R88ok E0 good_E0 ?_
  have hlen := fun G => hA.len G; simp only [List.length_map] at hlen; have hren := hA.ren
  have hren2 := hB.ren
  have hag := fun {β : Type} => arr_agg hA (β := β)
  have hon := arr_one hA
  simp only [go_sem, C88, hag, hon]
  refine CL.bool (f101_ok (hB.ext _) hc) (fun g1 => ?_) (fun g1 => ?_)
  rotate_left
  · simp only [go_sem]
    exact ⟨bool_f fun h => g1 h.1, _, rfl⟩
  simp only [go_sem, hlen]
  refine LL.st good_E0 (fun i : Nat => l.length - i) (fun i => i ≤ l.length ∧ ∀ j d, j < i → l[j]? = some d → (getL cs d.key).2 = true ∧ isEv d)
    (fun i => [((.o .z), u), ((.i .z), .ptr (H.key 0) 0), ((.i (.o (.i .z))), v), ((.o (.i (.i .z))), .int .i64 l.length), ((.i (.i (.i .z))), .int .i64 i)]) (fun i => [.row true 1 [[v]]]) ?_ 0 (σ := [0]) (Wk.of rfl (by decide) (by simp only [go_sem, hren, hren2]) (by simp only [go_sem, hren])) ⟨Nat.zero_le _, fun j d h => absurd h (Nat.not_lt_zero _)⟩
  rintro i ⟨hi, hno⟩
  by_cases hlt : i < l.length
  · have hren' := hren
    obtain ⟨kk, r, ex', cap', wr, rows, hv, hrho, hgo, hrow⟩ := hA.at hok (j := i) (by rw [List.length_map]; exact hlt); simp only [List.length_map, List.getElem_map] at hv hrow; cases hv; have hget : l[i]? = some l[i] := List.getElem?_eq_getElem hlt; generalize l[i] = e at hrow hget; have hw := wrap_succ (n := i) (by omega); have hci : (i : Int) < (l.length : Int) := (by omega); have hsi : i + 1 ≤ l.length := (by omega)
    have hbad : ¬ ((getL cs e.key).2 = true ∧ isEv e) → AV.bool false = .bool (decide (isHist l cs)) := fun h => bool_f fun g => h (g.2.1 e (List.mem_of_getElem? hget))
    simp only [go_sem, C88L0, hci, hsi, hgo, hrow, hw, Evn.enc]
    refine CL.of (f102_ok (hB.ext _) hc e.key) ?_
    rintro _ _ ⟨rfl, rfl⟩
    generalize hq : getL cs e.key = q at *
    obtain ⟨q, b⟩ := q
    cases b
    · simp only [go_sem, Cell.enc]
      exact ⟨hbad fun h => (by cases h.1), _, rfl⟩
    · simp only [go_sem, Cell.enc]
      refine CL.bool (f103_ok e) (fun g => ?_) (fun g => ?_)
      · simp only [go_sem]
        refine ⟨i + 1, by show l.length - (i + 1) < l.length - i; omega, ⟨by omega, fun j d hj hd => ?_⟩, _, [0], rfl, Wk.of rfl (by decide) (by simp only [go_sem, hren2, hrho, hw]) (by simp only [go_sem, hrho])⟩
        rcases Nat.lt_or_ge j i with h | h
        · exact hno j d h hd
        · obtain rfl : j = i := by omega
          rw [hget] at hd; cases hd; exact ⟨by rw [hq], g⟩
      · simp only [go_sem]
        exact ⟨hbad fun h => g h.2, _, rfl⟩
  · have hci : ¬ (i : Int) < (l.length : Int) := by omega
    have hall : ∀ e ∈ l, (getL cs e.key).2 = true ∧ isEv e := fun e he => by
      obtain ⟨j, hj⟩ := List.mem_iff_getElem?.1 he
      exact hno j e (by have := (List.getElem?_eq_some_iff.1 hj).1; omega) hj
    simp only [go_sem, C88L0, hci]
    refine CL.bool (f87_ok (hB.ext _) (by omega) (fun _ _ => call104 ..) (fun top σ => by have := cap_ren (H := H) (b := .row true 1 [[v]]) (g := 104) [] top σ; rwa [Heap.ext_nil] at this) (p := fun c => ¬ ofH l c) fun c hcm L => f104_ok (get_first [] L) ((hA.ext _).ext _) (by omega) c (g1.cell hcm).floor fun e he => (hall e he).2.ver) (fun g => ?_) (fun g => ?_)
    · simp only [go_sem]
      obtain ⟨c, h1, h2⟩ := g
      exact ⟨bool_f fun h => h2 (h.2.2 c h1), _, rfl⟩
    · simp only [go_sem]
      exact ⟨bool_t ⟨g1, hall, fun c hcm => Classical.byContradiction fun h => g ⟨c, hcm, h⟩⟩, _, rfl⟩
structure Sh where
  id : Int
  ep : Int
  fr : List Nat
  to : List Nat
  frz : Bool
  cells : List Cell
  evs : List Evn
  done : List Dn
  cv : AV
  ev : AV
  dv : AV
def Sh.enc (s : Sh) : List AV := [.int .i64 s.id, .int .i64 s.ep, .str s.fr, .str s.to, .bool s.frz, s.cv, s.ev, s.dv]
structure Sh.ok (H : Heap) (s : Sh) : Prop where
  c : Arr H 5 s.cv (s.cells.map Cell.enc)
  e : Arr H 4 s.ev (s.evs.map Evn.enc)
  d : Arr H 6 s.dv (s.done.map Dn.enc)
  dok : allOk H s.done
  cl : s.cells.length < 4294967296
  el : s.evs.length < 4294967296
  dl : s.done.length < 4294967296
theorem Sh.ok.ext {s : Sh} (h : s.ok H) (L : List Blk) : s.ok (H.ext L) := ⟨h.c.ext L, h.e.ext L, h.d.ext L, h.dok.ext L, h.cl, h.el, h.dl⟩
theorem Sh.ok.ren {s : Sh} (h : s.ok H) (top : Nat) (σ : List Nat) : AV.rens (rho H top σ) s.enc = s.enc := by
  simp only [Sh.enc, AV.rens, AV.ren, h.c.ren top σ, h.e.ren top σ, h.d.ren top σ]
/-- a shard -/
def isSh (s : Sh) : Prop := (1 ≤ s.id ∧ s.id ≤ 1000000000000 ∧ 1 ≤ s.ep ∧ s.ep ≤ 1000000) ∧ isSpan s.fr s.to ∧ (∀ c ∈ s.cells, has s.fr s.to c.key) ∧ (s.evs.length : Int) ≤ 24 ∧ isHist s.evs s.cells ∧ isDone s.done
noncomputable instance (s : Sh) : Decidable (isSh s) := Classical.propDecidable _
theorem f86_ok {k : K} {wr : Bool} {s : Sh} (hk : H.get k = some (.row wr 8 [[.int .i64 s.id, .int .i64 s.ep, .str s.fr, .str s.to, .bool s.frz, s.cv, s.ev, s.dv]])) (c : Cell) :
    FnOk Tryd.prog 86 [.agg c.enc, .ptr k 0] H fun r G => r = .bool (decide (¬ has s.fr s.to c.key)) ∧ G = H := by
  refine FnOk.assume fun hok => ?_
  refine FnOk.drop (R := fun r => r = .bool (decide (¬ has s.fr s.to c.key))) ?_ (by rintro v rfl ρ; rw [AV.ren])
  refine FnOk.of_WW Tryd.func86 rfl C86ok R86ok E0 good_E0 ?_
  have hgo := Heap.get_ext_old hok hk
  simp only [go_sem, C86, Cell.enc, hgo]
  refine CL.bool (f65_ok s.fr s.to c.key) (fun g => ?_) (fun g => ?_)
  · simp only [go_sem]
    exact ⟨bool_f fun h => h g, _, rfl⟩
  · simp only [go_sem]
    exact ⟨bool_t g, _, rfl⟩
theorem f70_ok {s : Sh} (h : s.ok H) : FnOk Tryd.prog 70 [.agg s.enc] H fun r G => r = .bool (decide (isSh s)) ∧ G = H := by
  refine FnOk.assume fun hok => ?_
  refine FnOk.drop (R := fun r => r = .bool (decide (isSh s))) ?_ (by rintro v rfl ρ; rw [AV.ren])
  refine FnOk.of_WW Tryd.func70 rfl C70ok R70ok E0 good_E0 ?_
  have hlen := fun G => h.e.len G
  simp only [List.length_map] at hlen
  simp only [go_sem, C70, Sh.enc]
  have hbad : ¬ isSh s → AV.bool false = .bool (decide (isSh s)) := fun g => bool_f g
  refine ⟨fun g1 => ⟨hbad fun g => absurd g.1.1 (by omega), _, rfl⟩, fun g1 => ⟨fun g2 => ⟨hbad fun g => absurd g.1.2.1 (by omega), _, rfl⟩, fun g2 => ⟨fun g3 => ⟨hbad fun g => absurd g.1.2.2.1 (by omega), _, rfl⟩, fun g3 => ⟨fun g4 => ⟨hbad fun g => absurd g.1.2.2.2 (by omega), _, rfl⟩, fun g4 => ?_⟩⟩⟩⟩
  refine CL.bool (f59_ok s.fr s.to) (fun g5 => ?_) (fun g5 => ?_)
  rotate_left
  · simp only [go_sem]
    exact ⟨hbad fun g => g5 g.2.1, _, rfl⟩
  simp only [go_sem]
  refine CL.bool (f87_ok (l := s.cells) (h.c.ext _) (by have := h.cl; omega) (fun _ _ => call86 ..) (fun top σ => by have := cap_ren (H := H) (b := .row true 8 [[.int .i64 s.id, .int .i64 s.ep, .str s.fr, .str s.to, .bool s.frz, s.cv, s.ev, s.dv]]) (g := 86) [] top σ; rwa [Heap.ext_nil] at this) (p := fun c => ¬ has s.fr s.to c.key) fun c hcm L => f86_ok (get_first [] L) c) (fun g6 => ?_) (fun g6 => ?_)
  · simp only [go_sem]
    obtain ⟨c, h1, h2⟩ := g6
    exact ⟨hbad fun g => h2 (g.2.2.1 c h1), _, rfl⟩
  simp only [go_sem, hlen]
  refine ⟨fun g7 => ⟨hbad fun g => absurd g.2.2.2.1 (by omega), _, rfl⟩, fun g7 => ?_⟩
  refine CL.bool (f88_ok (h.e.ext _) (h.c.ext _) h.el h.cl) (fun g8 => ?_) (fun g8 => ?_)
  rotate_left
  · simp only [go_sem]
    exact ⟨hbad fun g => g8 g.2.2.2.2.1, _, rfl⟩
  simp only [go_sem]
  refine CL.bool (f89_ok (h.d.ext _) (h.dok.ext _) (by have := h.dl; omega)) (fun g9 => ?_) (fun g9 => ?_)
  rotate_left
  · simp only [go_sem]
    exact ⟨hbad fun g => g9 g.2.2.2.2.2, _, rfl⟩
  simp only [go_sem]
  exact ⟨bool_t ⟨⟨by omega, by omega, by omega, by omega⟩, g5, fun c hc => Classical.byContradiction fun g => g6 ⟨c, hc, g⟩, by omega, g8, g9⟩, _, rfl⟩
end Go.Proofs
/- as the law has it: whether events are those of cells, whether it is a shard: walked. -/

set_option linter.all false
set_option linter.all false
set_option maxRecDepth 100000
namespace Go.Proofs
open Go Go.Ev
variable {H : Heap}

/-- the same, as the law has it -/
def runR (c : Cell) : List Evn → Int → Option Int
  | [], v => some v
  | e :: l, v => if e.key = c.key then (if e.ver = v + 1 ∧ (v + 1 = c.ver → e.val = c.value ∧ e.del = c.del) then runR c l (v + 1) else none) else runR c l v
theorem runR_ge {c : Cell} : ∀ {l : List Evn} {v w : Int}, runR c l v = some w → v ≤ w
  | [], v, w, h => by cases h; exact Int.le_refl _
  | e :: l, v, w, h => by
    rw [runR] at h
    split at h
    · split at h
      · have := runR_ge h; omega
      · cases h
    · exact runR_ge h
theorem ofG {c : Cell} : ∀ {l : List Evn} {at_ : Int} {last : Evn}, (∃ s, runE c.key l (at_, last) = some s ∧ s.1 = c.ver ∧ s.2.val = c.value ∧ s.2.del = c.del) ↔ (runR c l at_ = some c.ver ∧ (at_ = c.ver → last.val = c.value ∧ last.del = c.del))
  | [], at_, last => by
    rw [runE, runR]
    constructor
    · rintro ⟨s, h, h1, h2, h3⟩
      cases h
      exact ⟨congrArg some h1, fun _ => ⟨h2, h3⟩⟩
    · rintro ⟨h1, h2⟩
      have h1 : at_ = c.ver := Option.some.inj h1
      exact ⟨_, rfl, h1, (h2 h1).1, (h2 h1).2⟩
  | e :: l, at_, last => by
    rw [runE, runR]
    by_cases hk : e.key = c.key
    · rw [if_pos hk, if_pos hk]
      by_cases hv : e.ver = at_ + 1
      · rw [if_pos hv, ofG (l := l), hv]
        by_cases hq : at_ + 1 = c.ver → e.val = c.value ∧ e.del = c.del
        · rw [if_pos ⟨rfl, hq⟩]
          refine ⟨fun h => ⟨h.1, fun g => ?_⟩, fun h => ⟨h.1, hq⟩⟩
          have := runR_ge h.1; omega
        · rw [if_neg fun h => hq h.2]
          exact ⟨fun h => absurd h.2 hq, fun h => (by cases h.1)⟩
      · rw [if_neg hv, if_neg fun h => hv h.1]
        exact ⟨fun ⟨s, h, _⟩ => (by cases h), fun h => (by cases h.1)⟩
    · rw [if_neg hk, if_neg hk, ofG (l := l)]
theorem ofH_iff {l : List Evn} {c : Cell} : ofH l c ↔ runR c l c.floor = some c.ver := by
  unfold ofH
  rw [ofG]
  exact ⟨fun h => h.1, fun h => ⟨h, fun _ => ⟨rfl, rfl⟩⟩⟩
theorem f26_ok {v u : AV} {l : List Evn} {cs : List Cell} (hA : Arr H 4 v (l.map Evn.enc)) (hB : Arr H 5 u (cs.map Cell.enc)) (hl : l.length < 4294967296) (hc : cs.length < 4294967296) :
    FnOk Tryd.prog 26 [v, u] H fun r G => r = .bool (decide (isHist l cs)) ∧ G = H := by
  refine FnOk.assume fun hok => ?_
  refine FnOk.drop (R := fun r => r = .bool (decide (isHist l cs))) ?_ (by rintro v rfl ρ; rw [AV.ren])
  refine FnOk.of_WW Tryd.func26 rfl C26ok R26ok E0 good_E0 ?_
  have hlen := fun G => hA.len G; simp only [List.length_map] at hlen; have hren := hA.ren
  have hren2 := hB.ren
  have hlen2 := fun G => hB.len G
  simp only [List.length_map] at hlen2
  simp only [go_sem, C26]
  refine CL.bool (f55_ok (hB.ext _) hc) (fun g1 => ?_) (fun g1 => ?_)
  rotate_left
  · simp only [go_sem]
    exact ⟨bool_f fun h => g1 h.1, _, rfl⟩
  simp only [go_sem, hlen]
  refine LL.st good_E0 (fun i : Nat => l.length - i) (fun i => i ≤ l.length ∧ ∀ j d, j < i → l[j]? = some d → (getL cs d.key).2 = true ∧ isEv d)
    (fun i => [(.z, v), ((.o .z), u), ((.o (.i .z)), .int .i64 i)]) (fun i => []) ?_ 0 (σ := []) (Wk.of rfl (by decide) (by simp only [go_sem, hren, hren2]) (by simp only [go_sem, hren])) ⟨Nat.zero_le _, fun j d h => absurd h (Nat.not_lt_zero _)⟩
  rintro i ⟨hi, hno⟩
  by_cases hlt : i < l.length
  · obtain ⟨kk, r, ex', cap', wr, rows, hv, hrho, hgo, hrow⟩ := hA.at hok (j := i) (by rw [List.length_map]; exact hlt); simp only [List.length_map, List.getElem_map] at hv hrow; cases hv; have hget : l[i]? = some l[i] := List.getElem?_eq_getElem hlt; generalize l[i] = e at hrow hget; have hw := wrap_succ (n := i) (by omega); have hci : (i : Int) < (l.length : Int) := (by omega); have hsi : i + 1 ≤ l.length := (by omega)
    have hbad : ¬ ((getL cs e.key).2 = true ∧ isEv e) → AV.bool false = .bool (decide (isHist l cs)) := fun h => bool_f fun g => h (g.2.1 e (List.mem_of_getElem? hget))
    simp only [go_sem, C26L0, hci, hsi, hgo, hrow, hw, hlen, Evn.enc]
    refine CL.of (f28_ok (hB.ext _) hc e.key) ?_
    rintro _ G' ⟨rfl, hG⟩
    rw [hG]
    clear hG
    generalize hq : getL cs e.key = q at *
    obtain ⟨q, b⟩ := q
    cases b
    · simp only [go_sem, Cell.enc]
      exact ⟨hbad fun h => (by cases h.1), _, rfl⟩
    · simp only [go_sem, Cell.enc, hsi, hgo, hrow, Evn.enc]
      refine CL.bool (f56_ok e) (fun g => ?_) (fun g => ?_)
      · simp only [go_sem]
        refine ⟨i + 1, by show l.length - (i + 1) < l.length - i; omega, ⟨by omega, fun j d hj hd => ?_⟩, _, [], rfl, Wk.of rfl (by decide) (by simp only [go_sem, hren2, hrho, hw]) (by simp only [go_sem, hrho])⟩
        rcases Nat.lt_or_ge j i with h | h
        · exact hno j d h hd
        · obtain rfl : j = i := by omega
          rw [hget] at hd; cases hd; exact ⟨by rw [hq], g⟩
      · simp only [go_sem]
        exact ⟨hbad fun h => g h.2, _, rfl⟩
  · have hci : ¬ (i : Int) < (l.length : Int) := by omega
    have hall : ∀ e ∈ l, (getL cs e.key).2 = true ∧ isEv e := fun e he => by
      obtain ⟨j, hj⟩ := List.mem_iff_getElem?.1 he
      exact hno j e (by have := (List.getElem?_eq_some_iff.1 hj).1; omega) hj
    simp only [go_sem, C26L0, hlen, hci]
    clear hlt hci hno hi
    refine LL.st good_E0 (fun i : Nat => cs.length - i) (fun i => i ≤ cs.length ∧ ∀ j d, j < i → cs[j]? = some d → ofH l d)
      (fun i => [(.z, v), ((.o .z), u), ((.i (.o (.o .z))), .int .i64 i)]) (fun i => []) ?_ 0 (σ := []) (Wk.of rfl (by decide) (by simp only [go_sem, hren, hren2]) (by simp only [go_sem, hren])) ⟨Nat.zero_le _, fun j d h => absurd h (Nat.not_lt_zero _)⟩
    rintro m ⟨hm, hno⟩
    by_cases hlt : m < cs.length
    · obtain ⟨kk, r, ex', cap', wr, rows, hv, hrho, hgo, hrow⟩ := hB.at hok (j := m) (by rw [List.length_map]; exact hlt)
      simp only [List.length_map, List.getElem_map] at hv hrow
      cases hv
      have hget : cs[m]? = some cs[m] := List.getElem?_eq_getElem hlt
      have hfl := (g1.cell (List.getElem_mem hlt)).floor
      generalize cs[m] = c at hrow hget hfl
      have hwm := wrap_succ (n := m) (by omega)
      have hci : (m : Int) < (cs.length : Int) := (by omega)
      have hsi : m + 1 ≤ cs.length := (by omega)
      have hbad : ¬ ofH l c → AV.bool false = .bool (decide (isHist l cs)) := fun h => bool_f fun g => h (g.2.2 c (List.mem_of_getElem? hget))
      simp only [go_sem, C26L2, hlen2, hci, hsi, hgo, hrow, Cell.enc]
      refine LL.st good_E0 (fun s : Nat × Int => l.length - s.1) (fun s => s.1 ≤ l.length ∧ (0 ≤ s.2 ∧ s.2 ≤ 1000000000000 + s.1) ∧ runR c l c.floor = runR c (l.drop s.1) s.2)
        (fun s => [(.z, v), ((.o .z), .slice kk (r * 5) cs.length 5 ex' cap'), ((.i (.o (.o .z))), .int .i64 m), ((.o (.i (.o .z))), .ptr (H.key 0) 0), ((.i (.i (.o .z))), .int .i64 s.2), ((.o (.o (.i .z))), .int .i64 s.1)]) (fun s => [.row true 5 [[.str c.key, .str c.value, .int .i64 c.ver, .bool c.del, .int .i64 c.floor]]]) ?_ (0, c.floor) (σ := [0]) (Wk.of rfl (by decide) (by simp only [go_sem, hren, hrho]) (by simp only [go_sem])) ⟨Nat.zero_le _, ⟨hfl.1, by show c.floor ≤ 1000000000000 + ((0 : Nat) : Int); omega⟩, rfl⟩
      rintro ⟨i, v'⟩ ⟨hi, hat, hrun⟩
      simp only at hi hat hrun
      have hren3 := hren
      by_cases hlt : i < l.length
      · obtain ⟨kk2, r2, ex2, cap2, wr2, rows2, hv2, hrho2, hgo2, hrow2⟩ := hA.at hok (j := i) (by rw [List.length_map]; exact hlt)
        simp only [List.length_map, List.getElem_map] at hv2 hrow2
        have hget2 : l[i]? = some l[i] := List.getElem?_eq_getElem hlt
        generalize l[i] = e at hrow2 hget2
        subst hv2
        have hw := wrap_succ (n := i) (by omega)
        have hci2 : (i : Int) < (l.length : Int) := (by omega)
        have hsi2 : i + 1 ≤ l.length := (by omega)
        rw [drop_at hget2, runR] at hrun
        have hw2 : IntKind.i64.wrap (v' + 1) = v' + 1 := wrap_i64 (by omega) (by omega)
        simp only [go_sem, C26L1, hlen, hci2, hsi2, hgo2, hrow2, hw, hw2, Evn.enc]
        have hno' : runR c l c.floor = none → AV.bool false = .bool (decide (isHist l cs)) := fun h => hbad fun g => by rw [ofH_iff, h] at g; cases g
        have hnext : ∀ w, (0 ≤ w ∧ w ≤ 1000000000000 + ((i + 1 : Nat) : Int)) → runR c l c.floor = runR c (l.drop (i + 1)) w → (i + 1 ≤ l.length ∧ (0 ≤ w ∧ w ≤ 1000000000000 + ((i + 1 : Nat) : Int)) ∧ runR c l c.floor = runR c (l.drop (i + 1)) w) := fun w h1 h2 => ⟨by omega, h1, h2⟩
        refine ⟨fun g => ?_, fun g => ⟨fun g2 => ?_, fun g2 => ?_⟩⟩
        · rw [if_neg g] at hrun
          exact ⟨(i + 1, v'), by show l.length - (i + 1) < l.length - i; omega, hnext v' (by omega) hrun, _, [0], rfl, Wk.of rfl (by decide) (by simp only [go_sem, hrho, hrho2, hw]) (by simp only [go_sem])⟩
        · rw [if_pos (Classical.not_not.1 g), if_neg fun h => g2 h.1] at hrun
          exact ⟨hno' hrun, _, rfl⟩
        · rw [if_pos (Classical.not_not.1 g)] at hrun
          have hk := Classical.not_not.1 g2
          refine ⟨fun g3 => ⟨fun g4 => ?_, fun g4 => ⟨fun g5 => ?_, fun g5 => ?_⟩⟩, fun g3 => ?_⟩
          · rw [if_neg fun h => g4 (h.2 g3).1] at hrun
            exact ⟨hno' hrun, _, rfl⟩
          · rw [if_neg fun h => g5 (h.2 g3).2] at hrun
            exact ⟨hno' hrun, _, rfl⟩
          · rw [if_pos ⟨hk, fun _ => ⟨Classical.not_not.1 g4, Classical.not_not.1 g5⟩⟩] at hrun
            exact ⟨(i + 1, v' + 1), by show l.length - (i + 1) < l.length - i; omega, hnext (v' + 1) (by omega) hrun, _, [0], rfl, Wk.of rfl (by decide) (by simp only [go_sem, hrho, hrho2, hw]) (by simp only [go_sem])⟩
          · rw [if_pos ⟨hk, fun h => absurd h g3⟩] at hrun
            exact ⟨(i + 1, v' + 1), by show l.length - (i + 1) < l.length - i; omega, hnext (v' + 1) (by omega) hrun, _, [0], rfl, Wk.of rfl (by decide) (by simp only [go_sem, hrho, hrho2, hw]) (by simp only [go_sem])⟩
      · have hci2 : ¬ (i : Int) < (l.length : Int) := by omega
        rw [List.drop_eq_nil_of_le (by omega), runR] at hrun
        simp only [go_sem, C26L1, hlen, hci2]
        refine ⟨fun g => ⟨hbad fun h => ?_, _, rfl⟩, fun g => ?_⟩
        · rw [ofH_iff, hrun] at h; exact g (Option.some.inj h)
        · have hof : ofH l c := by rw [ofH_iff, hrun, Classical.not_not.1 g]
          refine ⟨m + 1, by show cs.length - (m + 1) < cs.length - m; omega, ⟨by omega, fun j d hj hd => ?_⟩, _, [], rfl, Wk.of rfl (by decide) (by simp only [go_sem, hren, hrho, hwm]) (by simp only [go_sem])⟩
          rcases Nat.lt_or_ge j m with h | h
          · exact hno j d h hd
          · obtain rfl : j = m := by omega
            rw [hget] at hd; cases hd; exact hof
    · have hci : ¬ (m : Int) < (cs.length : Int) := by omega
      simp only [go_sem, C26L2, hlen2, hci]
      exact ⟨bool_t ⟨g1, hall, fun c hcm => by
        obtain ⟨j, hj⟩ := List.mem_iff_getElem?.1 hcm
        exact hno j c (by have := (List.getElem?_eq_some_iff.1 hj).1; omega) hj⟩, _, rfl⟩
end Go.Proofs
