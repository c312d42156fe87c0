/- once: whether they are any, few, the same: walked. -/
import Derived.Test.YtomljpdjfobeoaaGreatDoorZ17
set_option linter.all false
set_option maxRecDepth 100000
namespace Go.Proofs
open Go Go.Ev
variable {H : Heap}

/-- what was done of a session last -/
structure Dn where
  ses : Int
  id : Int
  an : An
theorem off6 (a b c : Nat) : a * 6 + b + c = a * 6 + (b + c) := Nat.add_assoc ..
theorem wrap01 : IntKind.i64.wrap (0 + 1) = 1 := rfl
def Dn.enc (d : Dn) : List AV := [.int .i64 d.ses, .int .i64 d.id, .int .i64 d.an.code, .str d.an.val, .int .i64 d.an.ver, d.an.rv]
def allOk (H : Heap) (l : List Dn) : Prop := ∀ d ∈ l, d.an.ok H
theorem allOk.ext {l : List Dn} (h : allOk H l) (L : List Blk) : allOk (H.ext L) l := fun d hd => (h d hd).ext L
theorem An.ok.ren {a : An} (h : a.ok H) (top : Nat) (σ : List Nat) : AV.ren (rho H top σ) a.rv = a.rv := h.1.ren top σ
theorem Dn.ren1 {d : Dn} (h : d.an.ok H) (top : Nat) (σ : List Nat) : AV.rens (rho H top σ) d.enc = d.enc := by
  simp only [Dn.enc, AV.rens, AV.ren, h.ren]
theorem allOk.rens {l : List Dn} (h : allOk H l) (top : Nat) (σ : List Nat) : (l.map Dn.enc).map (AV.rens (rho H top σ)) = l.map Dn.enc := by
  rw [List.map_map]; exact List.map_congr_left fun d hd => Dn.ren1 (h d hd) top σ
def okD (d : Dn) : Prop := (0 ≤ d.ses ∧ d.ses < 3 ∧ 1 ≤ d.id ∧ d.id ≤ 1000000000000) ∧ isAns d.an
def okDt (l : List Dn) (j : Nat) : Prop := ∃ c, l[j]? = some c ∧ okD c ∧ (0 < j → ∃ d, l[j - 1]? = some d ∧ d.ses < c.ses)
def isDone (l : List Dn) : Prop := ∀ j, j < l.length → okDt l j
noncomputable instance (l : List Dn) : Decidable (isDone l) := Classical.propDecidable _
theorem f65_ok {v : AV} {l : List Dn} (hA : Arr H 6 v (l.map Dn.enc)) (ha : allOk H l) (hl : l.length < 9223372036854775807) :
    FnOk Tryz.prog 65 [v] H fun r G => r = .bool (decide (isDone l)) ∧ G = H := by
  refine FnOk.assume fun hok => ?_
  refine FnOk.drop (R := fun r => r = .bool (decide (isDone l))) ?_ (by rintro v rfl ρ; rw [AV.ren])
  refine FnOk.of_WW Tryz.func65 rfl C65ok R65ok E0 good_E0 ?_
  have hlen := fun G => hA.len G; simp only [List.length_map] at hlen; have hren := hA.ren
  simp only [go_sem, C65, hlen]
  refine LL.st good_E0 (fun i : Nat => l.length - i) (fun i => i ≤ l.length ∧ ∀ j, j < i → okDt l j)
    (fun i => [(.z, v), ((.o (.i .z)), v), ((.i (.i .z)), .int .i64 l.length), ((.o (.o (.o .z))), .int .i64 i)]) (fun i => []) ?_ 0 (σ := []) (Wk.of rfl (by decide) (by simp only [go_sem, hren]) (by simp only [go_sem])) ⟨Nat.zero_le _, fun j h => absurd h (Nat.not_lt_zero _)⟩
  rintro i ⟨hi, hno⟩
  by_cases hlt : i < l.length
  · obtain ⟨kk, r, ex', cap', wr, rows, hv, hrho, hgo, hrow⟩ := hA.at hok (j := i) (by rw [List.length_map]; exact hlt); simp only [List.length_map, List.getElem_map] at hv hrow; cases hv; have hget : l[i]? = some l[i] := List.getElem?_eq_getElem hlt; generalize l[i] = c at hrow hget; have hw := wrap_succ (n := i) (by omega); have hci : (i : Int) < (l.length : Int) := (by omega); have hsi : i + 1 ≤ l.length := (by omega)
    have hco := ha c (List.mem_of_getElem? hget)
    have hbad : ¬ okDt l i → AV.bool false = .bool (decide (isDone l)) := fun h => bool_f fun g => h (g i hlt)
    have hb1 : ¬ okD c → ¬ okDt l i := fun g ⟨c', h1, h2, _⟩ => by rw [hget] at h1; cases h1; exact g h2
    have hend : ∀ L, WW Tryz.prog E0 Tryz.f65.ntmps H [] L (H.ext []) (fun _ _ _ => True) → True := fun _ _ => trivial
    simp only [go_sem, C65L0, hci, hsi, hgo, hrow, hw, Dn.enc]
    refine ⟨fun g1 => ⟨hbad (hb1 fun e => absurd e.1.1 (by omega)), _, rfl⟩, fun g1 => ⟨fun g2 => ⟨hbad (hb1 fun e => absurd e.1.2.1 (by omega)), _, rfl⟩, fun g2 => ?_⟩⟩
    rcases i with _ | i
    · simp only [go_sem, Int.ofNat_zero, Int.lt_irrefl]
      refine ⟨fun g3 => ⟨hbad (hb1 fun e => absurd e.1.2.2.1 (by omega)), _, rfl⟩, fun g3 => ⟨fun g4 => ⟨hbad (hb1 fun e => absurd e.1.2.2.2 (by omega)), _, rfl⟩, fun g4 => ?_⟩⟩
      refine CL.one (f119_ok (a := c.an) (hco.ext _)) ?_
      by_cases hans : isAns c.an
      · have hne : ¬ ansT c.an = [] := fun e => ansT_nil.1 e hans
        simp only [go_sem, hne, hw]
        refine ⟨0 + 1, by show l.length - (0 + 1) < l.length - 0; omega, ⟨by omega, fun j hj => ?_⟩, _, [], rfl, Wk.of rfl (by decide) (by simp only [go_sem, hren, hrho, hw, wrap01]) (by simp only [go_sem])⟩
        obtain rfl : j = 0 := by omega
        exact ⟨c, hget, ⟨⟨by omega, by omega, by omega, by omega⟩, hans⟩, fun h => absurd h (by decide)⟩
      · have hne : ansT c.an = [] := ansT_nil.2 hans
        simp only [go_sem, hne]
        exact ⟨hbad (hb1 fun e => hans e.2), _, rfl⟩
    · have hpos : (0 : Int) < ((i + 1 : Nat) : Int) := by omega
      have hp : IntKind.i64.wrap (((i + 1 : Nat) : Int) - 1) = (i : Int) := by rw [wrap_i64 (by omega) (by omega)]; omega
      have hltj : i < l.length := by omega
      obtain ⟨kk2, r2, ex2, cap2, wr2, rows2, hv2, _, hgo2, hrow2⟩ := hA.at hok (j := i) (by rw [List.length_map]; exact hltj); simp only [List.length_map, List.getElem_map] at hv2 hrow2; have hgetd : l[i]? = some l[i] := List.getElem?_eq_getElem hltj; generalize l[i] = d at hrow2 hgetd; injection hv2 with e1 e2 e3 e4 e5 e6; have e2' : r2 = r := (by omega); subst e1 e2'; have hrr := hgo2 []; rw [hgo []] at hrr; cases hrr
      have hsj : i + 1 ≤ l.length := by omega
      have hi0 : (0 : Int) ≤ (i : Int) := by omega
      simp only [go_sem, hpos, hp, hi0, hsj, hgo, hrow2, Dn.enc]
      refine ⟨fun g5 => ⟨hbad ?_, _, rfl⟩, fun g5 => ?_⟩
      · rintro ⟨c', h1, _, h2⟩
        obtain ⟨d', h3, h4⟩ := h2 (by omega)
        rw [hget] at h1; cases h1
        rw [Nat.add_sub_cancel, hgetd] at h3; cases h3
        omega
      refine ⟨fun g3 => ⟨hbad (hb1 fun e => absurd e.1.2.2.1 (by omega)), _, rfl⟩, fun g3 => ⟨fun g4 => ⟨hbad (hb1 fun e => absurd e.1.2.2.2 (by omega)), _, rfl⟩, fun g4 => ?_⟩⟩
      refine CL.one (f119_ok (a := c.an) (hco.ext _)) ?_
      by_cases hans : isAns c.an
      · have hne : ¬ ansT c.an = [] := fun e => ansT_nil.1 e hans
        simp only [go_sem, hne, hw]
        refine ⟨i + 1 + 1, by show l.length - (i + 1 + 1) < l.length - (i + 1); omega, ⟨by omega, fun j hj => ?_⟩, _, [], rfl, Wk.of rfl (by decide) (by simp only [go_sem, hren, hrho, hw, wrap01]) (by simp only [go_sem])⟩
        rcases Nat.lt_or_ge j (i + 1) with h | h
        · exact hno j h
        · obtain rfl : j = i + 1 := by omega
          exact ⟨c, hget, ⟨⟨by omega, by omega, by omega, by omega⟩, hans⟩, fun _ => ⟨d, by rw [Nat.add_sub_cancel]; exact hgetd, by omega⟩⟩
      · have hne : ansT c.an = [] := ansT_nil.2 hans
        simp only [go_sem, hne]
        exact ⟨hbad (hb1 fun e => hans e.2), _, rfl⟩
  · have hci : ¬ (i : Int) < (l.length : Int) := by omega
    simp only [go_sem, C65L0, hci]
    exact ⟨bool_t fun j hj => hno j (by omega), _, rfl⟩
def fewD (l : List Dn) : Prop := (∀ d ∈ l, (d.an.val.length : Int) ≤ 60 ∧ (d.an.rows.length : Int) ≤ 8) ∧ (l.length : Int) ≤ 10
instance (l : List Dn) : Decidable (fewD l) := inferInstanceAs (Decidable (_ ∧ _))
end Go.Proofs
/- once: the same answers, the same rows of what was done, where a session's is: walked. -/

set_option linter.all false
set_option maxRecDepth 100000
namespace Go.Proofs
open Go Go.Ev
variable {H : Heap}

def sameA (a b : An) : Prop := a.code = b.code ∧ a.val = b.val ∧ a.ver = b.ver ∧ a.rows = b.rows
noncomputable instance (a b : An) : Decidable (sameA a b) := Classical.propDecidable _
theorem f87_ok {a b : An} (ha : a.ok H) (hb : b.ok H) : FnOk Tryz.prog 87 [.agg a.enc, .agg b.enc] H fun r G => r = .bool (decide (sameA a b)) ∧ G = H := by
  refine FnOk.assume fun hok => ?_
  refine FnOk.drop (R := fun r => r = .bool (decide (sameA a b))) ?_ (by rintro v rfl ρ; rw [AV.ren])
  refine FnOk.of_WW Tryz.func87 rfl C87ok R87ok E0 good_E0 ?_
  obtain ⟨code, val, ver, l, v⟩ := a
  obtain ⟨code2, val2, ver2, m, w⟩ := b
  obtain ⟨hA, hl⟩ := ha
  obtain ⟨hB, hm⟩ := hb
  simp only at hA hl hB hm
  have hlen := fun G => hA.len G; simp only [List.length_map] at hlen; have hren := hA.ren
  have hlen2 := fun G => hB.len G
  simp only [List.length_map] at hlen2
  have hren2 := hB.ren
  simp only [go_sem, C87, An.enc, hlen, hlen2]
  refine ⟨fun g => ⟨bool_f fun e => g e.1, _, rfl⟩, fun g1 => ⟨fun g => ⟨bool_f fun e => g e.2.1, _, rfl⟩, fun g2 => ⟨fun g => ⟨bool_f fun e => g e.2.2.1, _, rfl⟩, fun g3 => ⟨fun g => ⟨bool_f fun e => g (by rw [show l = m from e.2.2.2]), _, rfl⟩, fun g4 => ?_⟩⟩⟩⟩
  have g1 := Classical.not_not.1 g1
  have g2 := Classical.not_not.1 g2
  have g3 := Classical.not_not.1 g3
  have hlm : l.length = m.length := by omega
  subst g1 g2 g3
  refine LL.st good_E0 (fun i : Nat => l.length - i) (fun i => i ≤ l.length ∧ ∀ j, j < i → l[j]? = m[j]?)
    (fun i => [((.i .z), .ptr (H.key 0) 0), ((.o (.o .z)), .ptr (H.key 1) 0), ((.o (.i .z)), .int .i64 i)]) (fun i => [.row true 4 [[.int .i64 code, .str val, .int .i64 ver, v]], .row true 4 [[.int .i64 code, .str val, .int .i64 ver, w]]]) ?_ 0 (σ := [0, 1]) (Wk.of rfl (by decide) (by simp only [go_sem, hren, hren2]) (by simp only [go_sem, hren, hren2])) ⟨Nat.zero_le _, fun j h => absurd h (Nat.not_lt_zero _)⟩
  rintro i ⟨hi, hno⟩
  by_cases hlt : i < l.length
  · obtain ⟨kk2, r2, ex2, cap2, wr2, rows2, hv2, hrho2, hgo2, hrow2⟩ := hB.at hok (j := i) (by rw [List.length_map]; omega)
    simp only [List.length_map, List.getElem_map] at hv2 hrow2
    have hget2 : m[i]? = some (m[i]'(by omega)) := List.getElem?_eq_getElem (by omega)
    generalize m[i]'(by omega) = d at hrow2 hget2
    obtain ⟨kk, r, ex', cap', wr, rows, hv, hrho, hgo, hrow⟩ := hA.at hok (j := i) (by rw [List.length_map]; exact hlt); simp only [List.length_map, List.getElem_map] at hv hrow; cases hv; have hget : l[i]? = some l[i] := List.getElem?_eq_getElem hlt; generalize l[i] = c at hrow hget; have hw := wrap_succ (n := i) (by omega); have hci : (i : Int) < (l.length : Int) := (by omega); have hsi : i + 1 ≤ l.length := (by omega)
    subst hv2
    have hsi2 : i + 1 ≤ m.length := by omega
    simp only [go_sem, C87L0, hlen, hlen2, hci, hsi, hsi2, hgo, hgo2, hrow, hrow2, hw, Rw.enc]
    have hbad : ¬ c = d → ∀ v w, AV.bool false = .bool (decide (sameA ⟨code, val, ver, l, v⟩ ⟨code, val, ver, m, w⟩)) := fun h v w => bool_f fun e => h (by rw [show l = m from e.2.2.2, hget2] at hget; exact (Option.some.inj hget).symm)
    refine ⟨fun g1 => ⟨fun g2 => ⟨fun g3 => ?_, fun g => ⟨hbad (fun e => g (by rw [e])) _ _, _, rfl⟩⟩, fun g => ⟨hbad (fun e => g (by rw [e])) _ _, _, rfl⟩⟩, fun g => ⟨hbad (fun e => g (by rw [e])) _ _, _, rfl⟩⟩
    refine ⟨i + 1, by show l.length - (i + 1) < l.length - i; omega, ⟨by omega, fun j hj => ?_⟩, _, [0, 1], rfl, Wk.of rfl (by decide) (by simp only [go_sem, hrho, hrho2]) (by simp only [go_sem, hrho, hrho2])⟩
    rcases Nat.lt_or_ge j i with h | h
    · exact hno j h
    · obtain rfl : j = i := by omega
      rw [hget, hget2, Rw.enc_inj ⟨g1, g2, g3⟩]
  · have hci : ¬ (i : Int) < (l.length : Int) := by omega
    simp only [go_sem, C87L0, hci, hlen]
    refine ⟨bool_t ⟨rfl, rfl, rfl, List.ext_getElem? fun j => ?_⟩, _, rfl⟩
    rcases Nat.lt_or_ge j l.length with h | h
    · exact hno j (by omega)
    · show l[j]? = m[j]?
      rw [List.getElem?_eq_none h, List.getElem?_eq_none (by omega)]
theorem Rw.enc_one {a b : Rw} (h : a.enc = b.enc) : a = b := by
  simp [Rw.enc] at h
  exact Rw.enc_inj h
noncomputable def rwsOf (H : Heap) (v : AV) : Option (List Rw) := open Classical in if h : ∃ l : List Rw, Arr H 3 v (l.map Rw.enc) ∧ l.length ≤ 9223372036854775807 then some (Classical.choose h) else none
theorem rwsOf_eq {v : AV} {l : List Rw} (h : Arr H 3 v (l.map Rw.enc)) (hl : l.length ≤ 9223372036854775807) : rwsOf H v = some l := by
  unfold rwsOf
  have hex : ∃ l : List Rw, Arr H 3 v (l.map Rw.enc) ∧ l.length ≤ 9223372036854775807 := ⟨l, h, hl⟩
  rw [dif_pos hex]
  congr 1
  have := Arr.uniq (Classical.choose_spec hex).1 h (by decide)
  exact List.map_inj_right (fun _ _ => Rw.enc_one) |>.1 this
theorem rwsOf_spec {v : AV} {l : List Rw} (h : rwsOf H v = some l) : Arr H 3 v (l.map Rw.enc) ∧ l.length ≤ 9223372036854775807 := by
  unfold rwsOf at h
  split at h
  · rename_i hex
    cases h
    exact Classical.choose_spec hex
  · cases h
noncomputable def EO2 : FuncId → List AV → Heap → RC
  | 126, [.agg [.int .i64 c, .str s, .int .i64 n, v]], H => match rwsOf H v with | some l => .ok (.bool (decide (isAns ⟨c, s, n, l, v⟩))) H | none => .fail
  | 87, [.agg [.int .i64 c, .str s, .int .i64 n, v], .agg [.int .i64 c2, .str s2, .int .i64 n2, v2]], H => match rwsOf H v with | some l => (match rwsOf H v2 with | some l2 => .ok (.bool (decide (sameA ⟨c, s, n, l, v⟩ ⟨c2, s2, n2, l2, v2⟩))) H | none => .fail) | none => .fail
  | _, _, _ => .fail
theorem good_EO2 : Ev.Good Tryz.prog EO2 := by
  intro f args H r G he φ w args' ha hw
  refine (?_ : FnOk Tryz.prog f args H fun v' G' => v' = r ∧ G' = G).one φ w args' ha hw
  unfold EO2 at he
  split at he
  · split at he
    · rename_i hl
      cases he
      exact f126_ok (a := ⟨_, _, _, _, _⟩) (rwsOf_spec hl)
    · cases he
  · split at he
    · rename_i hl
      split at he
      · rename_i hl2
        cases he
        exact f87_ok (a := ⟨_, _, _, _, _⟩) (b := ⟨_, _, _, _, _⟩) (rwsOf_spec hl) (rwsOf_spec hl2)
      · cases he
    · cases he
  · cases he
theorem e54 {a : An} (h : a.ok H) : EO2 126 [.agg [.int .i64 a.code, .str a.val, .int .i64 a.ver, a.rv]] H = .ok (.bool (decide (isAns a))) H := by
  show (match rwsOf H a.rv with | some l => RC.ok (.bool (decide (isAns ⟨a.code, a.val, a.ver, l, a.rv⟩))) H | none => .fail) = _
  rw [rwsOf_eq h.1 h.2]
theorem e31 {a b : An} (h : a.ok H) (g : b.ok H) : EO2 87 [.agg [.int .i64 a.code, .str a.val, .int .i64 a.ver, a.rv], .agg [.int .i64 b.code, .str b.val, .int .i64 b.ver, b.rv]] H = .ok (.bool (decide (sameA a b))) H := by
  show (match rwsOf H a.rv with | some l => (match rwsOf H b.rv with | some l2 => RC.ok (.bool (decide (sameA ⟨a.code, a.val, a.ver, l, a.rv⟩ ⟨b.code, b.val, b.ver, l2, b.rv⟩))) H | none => .fail) | none => .fail) = _
  rw [rwsOf_eq h.1 h.2, rwsOf_eq g.1 g.2]
def sameDn (c d : Dn) : Prop := c.ses = d.ses ∧ c.id = d.id ∧ sameA c.an d.an
/-- the same rows of what was done -/
def sameD (l m : List Dn) : Prop := l.length = m.length ∧ ∀ (i : Nat) (c d : Dn), l[i]? = some c → m[i]? = some d → sameDn c d
noncomputable instance (l m : List Dn) : Decidable (sameD l m) := Classical.propDecidable _
theorem f46_ok {v w : AV} {l m : List Dn} (hA : Arr H 6 v (l.map Dn.enc)) (hB : Arr H 6 w (m.map Dn.enc)) (ha : allOk H l) (hb : allOk H m) (hl : l.length < 9223372036854775807) :
    FnOk Tryz.prog 46 [v, w] H fun r G => r = .bool (decide (sameD l m)) ∧ G = H := by
  refine FnOk.assume fun hok => ?_
  refine FnOk.drop (R := fun r => r = .bool (decide (sameD l m))) ?_ (by rintro v rfl ρ; rw [AV.ren])
  refine FnOk.of_WW Tryz.func46 rfl C46ok R46ok EO2 good_EO2 ?_
  have hlen := fun G => hA.len G; simp only [List.length_map] at hlen; have hren := hA.ren
  have hlen2 := fun G => hB.len G
  simp only [List.length_map] at hlen2
  have hren2 := hB.ren
  simp only [go_sem, C46, hlen, hlen2]
  refine ⟨fun h => ⟨bool_f fun e => h (by rw [e.1]), _, rfl⟩, fun h => ?_⟩
  have hlm : l.length = m.length := by have := Classical.not_not.1 h; omega
  refine LL.st good_EO2 (fun i : Nat => l.length - i) (fun i => i ≤ l.length ∧ ∀ (j : Nat) (c d : Dn), j < i → l[j]? = some c → m[j]? = some d → sameDn c d)
    (fun i => [(.z, v), ((.o .z), w), ((.o (.i .z)), .int .i64 i)]) (fun i => []) ?_ 0 (σ := []) (Wk.of rfl (by decide) (by simp only [go_sem, hren, hren2]) (by simp only [go_sem])) ⟨Nat.zero_le _, fun j c d h => absurd h (Nat.not_lt_zero _)⟩
  rintro i ⟨hi, hno⟩
  by_cases hlt : i < l.length
  · obtain ⟨kk2, r2, ex2, cap2, wr2, rows2, hv2, hrho2, hgo2, hrow2⟩ := hB.at hok (j := i) (by rw [List.length_map]; omega)
    simp only [List.length_map, List.getElem_map] at hv2 hrow2
    have hget2 : m[i]? = some (m[i]'(by omega)) := List.getElem?_eq_getElem (by omega)
    generalize m[i]'(by omega) = d at hrow2 hget2
    obtain ⟨kk, r, ex', cap', wr, rows, hv, hrho, hgo, hrow⟩ := hA.at hok (j := i) (by rw [List.length_map]; exact hlt); simp only [List.length_map, List.getElem_map] at hv hrow; cases hv; have hget : l[i]? = some l[i] := List.getElem?_eq_getElem hlt; generalize l[i] = c at hrow hget; have hw := wrap_succ (n := i) (by omega); have hci : (i : Int) < (l.length : Int) := (by omega); have hsi : i + 1 ≤ l.length := (by omega)
    subst hv2
    have hsi2 : i + 1 ≤ m.length := by omega
    have hco := ha c (List.mem_of_getElem? hget)
    have hdo := hb d (List.mem_of_getElem? hget2)
    have he := fun L => e31 (hco.ext L) (hdo.ext L)
    simp only [go_sem, off6, C46L0, hlen, hlen2, hci, hsi, hsi2, hgo, hgo2, hrow, hrow2, hw, Dn.enc, he]
    have hbad : ¬ sameDn c d → AV.bool false = .bool (decide (sameD l m)) := fun h => bool_f fun e => h (e.2 i c d hget hget2)
    refine ⟨fun g => ⟨hbad fun e => g e.1, _, rfl⟩, fun g1 => ⟨fun g => ⟨hbad fun e => g e.2.1, _, rfl⟩, fun g2 => ⟨fun g3 => ?_, fun g => ⟨hbad fun e => g e.2.2, _, rfl⟩⟩⟩⟩
    refine ⟨i + 1, by show l.length - (i + 1) < l.length - i; omega, ⟨by omega, fun j c' d' hj hc hd => ?_⟩, _, [], rfl, Wk.of rfl (by decide) (by simp only [go_sem, hrho, hrho2]) (by simp only [go_sem])⟩
    rcases Nat.lt_or_ge j i with h | h
    · exact hno j c' d' h hc hd
    · obtain rfl : j = i := by omega
      rw [hget] at hc; rw [hget2] at hd; cases hc; cases hd
      exact ⟨Classical.not_not.1 g1, Classical.not_not.1 g2, g3⟩
  · have hci : ¬ (i : Int) < (l.length : Int) := by omega
    simp only [go_sem, C46L0, hci, hlen]
    refine ⟨bool_t ⟨hlm, fun j c d hc hd => hno j c d (by have := (List.getElem?_eq_some_iff.1 hc).1; omega) hc hd⟩, _, rfl⟩
theorem f77_ok {v : AV} {l : List Dn} (hA : Arr H 6 v (l.map Dn.enc)) (ha : allOk H l) (hl : l.length < 9223372036854775807) :
    FnOk Tryz.prog 77 [v] H fun r G => r = .bool (decide (isDone l)) ∧ G = H := by
  refine FnOk.assume fun hok => ?_
  refine FnOk.drop (R := fun r => r = .bool (decide (isDone l))) ?_ (by rintro v rfl ρ; rw [AV.ren])
  refine FnOk.of_WW Tryz.func77 rfl C77ok R77ok EO2 good_EO2 ?_
  have hlen := fun G => hA.len G; simp only [List.length_map] at hlen; have hren := hA.ren
  simp only [go_sem, C77, hlen]
  refine LL.st good_EO2 (fun i : Nat => l.length - i) (fun i => i ≤ l.length ∧ ∀ j, j < i → okDt l j)
    (fun i => [(.z, v), ((.o (.o .z)), .int .i64 i)]) (fun i => []) ?_ 0 (σ := []) (Wk.of rfl (by decide) (by simp only [go_sem, hren]) (by simp only [go_sem])) ⟨Nat.zero_le _, fun j h => absurd h (Nat.not_lt_zero _)⟩
  rintro i ⟨hi, hno⟩
  by_cases hlt : i < l.length
  · obtain ⟨kk, r, ex', cap', wr, rows, hv, hrho, hgo, hrow⟩ := hA.at hok (j := i) (by rw [List.length_map]; exact hlt); simp only [List.length_map, List.getElem_map] at hv hrow; cases hv; have hget : l[i]? = some l[i] := List.getElem?_eq_getElem hlt; generalize l[i] = c at hrow hget; have hw := wrap_succ (n := i) (by omega); have hci : (i : Int) < (l.length : Int) := (by omega); have hsi : i + 1 ≤ l.length := (by omega)
    have hco := ha c (List.mem_of_getElem? hget)
    have he := fun L => e54 (hco.ext L)
    have hbad : ¬ okDt l i → AV.bool false = .bool (decide (isDone l)) := fun h => bool_f fun g => h (g i hlt)
    have hb1 : ¬ okD c → ¬ okDt l i := fun g ⟨c', h1, h2, _⟩ => by rw [hget] at h1; cases h1; exact g h2
    rcases i with _ | i
    · have hrow0 : rows[r]? = some c.enc := hrow
      have hci0 : (0 : Int) < (l.length : Int) := hci
      have hsi0 : 1 ≤ l.length := hsi
      simp only [go_sem, off6, C77L0, hci0, hsi0, hgo, hrow0, hlen, Dn.enc, he, Int.ofNat_zero, Int.lt_irrefl]
      refine ⟨fun g => ⟨hbad (hb1 fun e => absurd e.1.1 (by omega)), _, rfl⟩, fun g1 => ⟨fun g => ⟨hbad (hb1 fun e => absurd e.1.2.1 (by omega)), _, rfl⟩, fun g2 => ⟨fun g => ⟨hbad (hb1 fun e => absurd e.1.2.2.1 (by omega)), _, rfl⟩, fun g3 => ⟨fun g => ⟨hbad (hb1 fun e => absurd e.1.2.2.2 (by omega)), _, rfl⟩, fun g4 => ⟨fun g5 => ?_, fun g => ⟨hbad (hb1 fun e => g e.2), _, rfl⟩⟩⟩⟩⟩⟩
      refine ⟨0 + 1, by show l.length - (0 + 1) < l.length - 0; omega, ⟨by omega, fun j hj => ?_⟩, _, [], rfl, Wk.of rfl (by decide) (by simp only [go_sem, hren, hrho, hw, wrap01]) (by simp only [go_sem])⟩
      obtain rfl : j = 0 := by omega
      exact ⟨c, hget, ⟨⟨by omega, by omega, by omega, by omega⟩, g5⟩, fun h => absurd h (by decide)⟩
    · have hpos : (0 : Int) < ((i + 1 : Nat) : Int) := by omega
      have hp : IntKind.i64.wrap (((i + 1 : Nat) : Int) - 1) = (i : Int) := by rw [wrap_i64 (by omega) (by omega)]; omega
      have hltj : i < l.length := by omega
      obtain ⟨kk2, r2, ex2, cap2, wr2, rows2, hv2, _, hgo2, hrow2⟩ := hA.at hok (j := i) (by rw [List.length_map]; exact hltj); simp only [List.length_map, List.getElem_map] at hv2 hrow2; have hgetd : l[i]? = some l[i] := List.getElem?_eq_getElem hltj; generalize l[i] = d at hrow2 hgetd; injection hv2 with e1 e2 e3 e4 e5 e6; have e2' : r2 = r := (by omega); subst e1 e2'; have hrr := hgo2 []; rw [hgo []] at hrr; cases hrr
      have hsj : i + 1 ≤ l.length := by omega
      have hi0 : (0 : Int) ≤ (i : Int) := by omega
      simp only [go_sem, off6, C77L0, hci, hsi, hgo, hrow, hrow2, hw, hlen, Dn.enc, he, hpos, hp, hi0, hsj]
      refine ⟨fun g => ⟨hbad (hb1 fun e => absurd e.1.1 (by omega)), _, rfl⟩, fun g1 => ⟨fun g => ⟨hbad (hb1 fun e => absurd e.1.2.1 (by omega)), _, rfl⟩, fun g2 => ⟨fun g => ⟨hbad (hb1 fun e => absurd e.1.2.2.1 (by omega)), _, rfl⟩, fun g3 => ⟨fun g => ⟨hbad (hb1 fun e => absurd e.1.2.2.2 (by omega)), _, rfl⟩, fun g4 => ⟨fun g5 => ⟨fun g6 => ⟨hbad ?_, _, rfl⟩, fun g6 => ?_⟩, fun g => ⟨hbad (hb1 fun e => g e.2), _, rfl⟩⟩⟩⟩⟩⟩
      · rintro ⟨c', h1, _, h2⟩
        obtain ⟨d', h3, h4⟩ := h2 (by omega)
        rw [hget] at h1; cases h1
        rw [Nat.add_sub_cancel, hgetd] at h3; cases h3
        omega
      · refine ⟨i + 1 + 1, by show l.length - (i + 1 + 1) < l.length - (i + 1); omega, ⟨by omega, fun j hj => ?_⟩, _, [], rfl, Wk.of rfl (by decide) (by simp only [go_sem, hren, hrho, hw, wrap01]) (by simp only [go_sem])⟩
        rcases Nat.lt_or_ge j (i + 1) with h | h
        · exact hno j h
        · obtain rfl : j = i + 1 := by omega
          exact ⟨c, hget, ⟨⟨by omega, by omega, by omega, by omega⟩, g5⟩, fun _ => ⟨d, by rw [Nat.add_sub_cancel]; exact hgetd, by omega⟩⟩
  · have hci : ¬ (i : Int) < (l.length : Int) := by omega
    simp only [go_sem, C77L0, hci, hlen]
    exact ⟨bool_t fun j hj => hno j (by omega), _, rfl⟩
def findD : List Dn → Int → Option Dn
  | [], _ => none
  | d :: l, s => if d.ses = s then some d else findD l s
theorem findD_first : ∀ {l : List Dn} {i : Nat} {c : Dn} {s : Int}, l[i]? = some c → c.ses = s → (∀ j d, j < i → l[j]? = some d → ¬ d.ses = s) → findD l s = some c
  | [], i, c, s, h, _, _ => by simp at h
  | d :: l, 0, c, s, h, hs, _ => by cases h; rw [findD, if_pos hs]
  | d :: l, i + 1, c, s, h, hs, hn => by rw [findD, if_neg (hn 0 d (by omega) rfl), findD_first (i := i) (by simpa using h) hs fun j e hj he => hn (j + 1) e (by omega) (by simpa using he)]
theorem findD_none : ∀ {l : List Dn} {s : Int}, (∀ d ∈ l, ¬ d.ses = s) → findD l s = none
  | [], _, _ => rfl
  | d :: l, s, h => by rw [findD, if_neg (h d (by simp)), findD_none fun c hc => h c (by simp [hc])]
theorem findD_mem : ∀ {l : List Dn} {s : Int} {d : Dn}, findD l s = some d → d ∈ l ∧ d.ses = s
  | [], _, _, h => by cases h
  | c :: l, s, d, h => by
    unfold findD at h
    split at h
    · cases h; rename_i hk; exact ⟨by simp, hk⟩
    · obtain ⟨h1, h2⟩ := findD_mem h; exact ⟨by simp [h1], h2⟩
def zeroA : An := ⟨0, [], 0, [], .nils⟩
def zeroD : Dn := ⟨0, 0, zeroA⟩
theorem zeroA_ok : zeroA.ok H := ⟨.inl ⟨rfl, rfl⟩, by decide⟩
def foundD (o : Option Dn) : Dn := o.getD zeroD
theorem f84_ok {v : AV} {l : List Dn} (hA : Arr H 6 v (l.map Dn.enc)) (ha : allOk H l) (hl : l.length < 9223372036854775807) (s : Int) :
    FnOk Tryz.prog 84 [v, .int .i64 s] H fun r G => r = .tup [.agg (foundD (findD l s)).enc, .bool (findD l s).isSome] ∧ G = H := by
  refine FnOk.assume fun hok => ?_
  refine FnOk.dropOld (R := fun r => r = .tup [.agg (foundD (findD l s)).enc, .bool (findD l s).isSome]) ?_ ?_
  · refine FnOk.of_WW Tryz.func84 rfl C84ok R84ok E0 good_E0 ?_
    have hlen := fun G => hA.len G; simp only [List.length_map] at hlen; have hren := hA.ren
    simp only [go_sem, C84, hlen]
    refine LL.st good_E0 (fun i : Nat => l.length - i) (fun i => i ≤ l.length ∧ ∀ j d, j < i → l[j]? = some d → ¬ d.ses = s)
      (fun i => [(.z, v), ((.o .z), .int .i64 s), ((.i (.o .z)), .ptr (H.key 0) 0), ((.i (.i .z)), .int .i64 i)]) (fun i => [.row true 6 [[.int .i64 0, .int .i64 0, .int .i64 0, .str [], .int .i64 0, .nils]]]) ?_ 0 (σ := [0]) (Wk.of rfl (by decide) (by simp only [go_sem, hren]) (by simp only [go_sem])) ⟨Nat.zero_le _, fun j d h => absurd h (Nat.not_lt_zero _)⟩
    rintro i ⟨hi, hno⟩
    by_cases hlt : i < l.length
    · obtain ⟨kk, r, ex', cap', wr, rows, hv, hrho, hgo, hrow⟩ := hA.at hok (j := i) (by rw [List.length_map]; exact hlt); simp only [List.length_map, List.getElem_map] at hv hrow; cases hv; have hget : l[i]? = some l[i] := List.getElem?_eq_getElem hlt; generalize l[i] = c at hrow hget; have hw := wrap_succ (n := i) (by omega); have hci : (i : Int) < (l.length : Int) := (by omega); have hsi : i + 1 ≤ l.length := (by omega)
      simp only [go_sem, C84L0, hci, hsi, hgo, hrow, hw, hlen, Dn.enc]
      refine ⟨fun g => ?_, fun g => ?_⟩
      · rw [findD_first hget g hno]
        exact ⟨rfl, _, rfl⟩
      · refine ⟨i + 1, by show l.length - (i + 1) < l.length - i; omega, ⟨by omega, fun j d hj hd => ?_⟩, _, [0], rfl, Wk.of rfl (by decide) (by simp only [go_sem, hren, hrho, hw, wrap01]) (by simp only [go_sem])⟩
        rcases Nat.lt_or_ge j i with h | h
        · exact hno j d h hd
        · obtain rfl : j = i := by omega
          rw [hget] at hd; cases hd; exact g
    · have hci : ¬ (i : Int) < (l.length : Int) := by omega
      have hnone : findD l s = none := findD_none fun d hd => by
        obtain ⟨j, hj⟩ := List.mem_iff_getElem?.1 hd
        exact hno j d (by have := (List.getElem?_eq_some_iff.1 hj).1; omega) hj
      simp only [go_sem, C84L0, hci, hlen, hnone]
      exact ⟨rfl, _, rfl⟩
  · rintro _ rfl top σ
    have : (foundD (findD l s)).an.ok H := by
      cases h : findD l s with
      | none => exact zeroA_ok
      | some d => exact ha d (findD_mem h).1
    simp only [AV.ren, AV.rens, Dn.ren1 this]
end Go.Proofs
/- once: what was done, the plain law. -/

set_option linter.all false
set_option maxRecDepth 100000
namespace Go.Proofs
open Go Go.Ev
def risesD (l : List Dn) : Prop := ∀ (p q : Nat) (c d : Dn), p < q → l[p]? = some c → l[q]? = some d → c.ses < d.ses
def hasAtD (l : List Dn) (k : Int) (i : Nat) : Prop := ∃ c, l[i]? = some c ∧ c.ses = k
def lowAtD (l : List Dn) (k : Int) (i : Nat) : Prop := i ≤ l.length ∧ (∀ q c, q < i → l[q]? = some c → c.ses < k) ∧ ∀ q c, i ≤ q → l[q]? = some c → ¬ c.ses < k
abbrev upD (l : List Dn) : Prop := l.Pairwise fun c d => c.ses < d.ses
theorem upD_cons {c : Dn} {l : List Dn} : upD (c :: l) ↔ (∀ d ∈ l, c.ses < d.ses) ∧ upD l := List.pairwise_cons
theorem isDone_cons {c : Dn} {l : List Dn} : isDone (c :: l) ↔ okD c ∧ (∀ d, l[0]? = some d → c.ses < d.ses) ∧ isDone l := by
  constructor
  · intro h
    obtain ⟨c', h0, h1, _⟩ := h 0 (by simp)
    cases h0
    refine ⟨h1, fun d hd => ?_, fun j hj => ?_⟩
    · obtain ⟨e, g0, _, g2⟩ := h 1 (by have := (List.getElem?_eq_some_iff.1 hd).1; simp; omega)
      obtain ⟨c', g3, g4⟩ := g2 (by decide)
      rw [List.getElem?_cons_succ, hd] at g0; cases g0
      cases g3; exact g4
    · obtain ⟨e, g0, g1, g2⟩ := h (j + 1) (by simp; omega)
      rw [List.getElem?_cons_succ] at g0
      refine ⟨e, g0, g1, fun h0 => ?_⟩
      obtain ⟨c', g3, g4⟩ := g2 (by omega)
      rw [show j + 1 - 1 = (j - 1) + 1 by omega, List.getElem?_cons_succ] at g3
      exact ⟨c', g3, g4⟩
  · rintro ⟨h1, h2, h3⟩ j hj
    cases j with
    | zero => exact ⟨c, rfl, h1, fun h => absurd h (by decide)⟩
    | succ j =>
      obtain ⟨e, g0, g1, g2⟩ := h3 j (by simp at hj; omega)
      refine ⟨e, by rw [List.getElem?_cons_succ]; exact g0, g1, fun _ => ?_⟩
      cases j with
      | zero => exact ⟨c, rfl, h2 e g0⟩
      | succ j => obtain ⟨d, g3, g4⟩ := g2 (by omega); exact ⟨d, by simpa using g3, g4⟩
theorem done_iff : ∀ {l : List Dn}, isDone l ↔ (∀ c ∈ l, okD c) ∧ upD l
  | [] => ⟨fun _ => ⟨by simp, .nil⟩, fun _ j hj => by simp at hj⟩
  | c :: l => by
    rw [isDone_cons, done_iff (l := l), upD_cons]
    constructor
    · rintro ⟨h1, h2, h3, h4⟩
      refine ⟨by simpa using ⟨h1, h3⟩, fun d hd => ?_, h4⟩
      cases l with
      | nil => simp at hd
      | cons e l =>
        have he := h2 e rfl
        rcases List.mem_cons.1 hd with rfl | hd
        · exact he
        · exact Int.lt_trans he ((upD_cons.1 h4).1 d hd)
    · rintro ⟨h1, h2, h4⟩
      exact ⟨h1 c (by simp), fun d hd => h2 d (List.mem_of_getElem? hd), fun d hd => h1 d (by simp [hd]), h4⟩
theorem upD_rises {l : List Dn} (h : upD l) : risesD l := by
  intro p q c d hpq hc hd
  obtain ⟨hp, rfl⟩ := List.getElem?_eq_some_iff.1 hc
  obtain ⟨hq, rfl⟩ := List.getElem?_eq_some_iff.1 hd
  exact List.pairwise_iff_getElem.1 h p q hp hq hpq
theorem isDone.upDD {l : List Dn} (h : isDone l) : upD l := (done_iff.1 h).2
/-- one put in its place, f where its ses is there -/
noncomputable def putGD (f : Dn → Dn → Dn) : List Dn → Dn → List Dn
  | [], x => [x]
  | d :: l, x => if d.ses < x.ses then d :: putGD f l x else if d.ses = x.ses then f d x :: l else x :: d :: l
theorem lowAtD_tail {d : Dn} {l : List Dn} {k : Int} {i : Nat} (h : lowAtD (d :: l) k (i + 1)) : d.ses < k ∧ lowAtD l k i :=
  ⟨h.2.1 0 d (by omega) rfl, by have := h.1; simp at this; omega, fun q c hq hc => h.2.1 (q + 1) c (by omega) (by simpa using hc), fun q c hq hc => h.2.2 (q + 1) c (by omega) (by simpa using hc)⟩
theorem putGD_has {f : Dn → Dn → Dn} {x : Dn} : ∀ {l : List Dn} {i : Nat} {d : Dn}, lowAtD l x.ses i → l[i]? = some d → d.ses = x.ses → putGD f l x = l.set i (f d x)
  | [], i, d, _, h, _ => by simp at h
  | e :: l, 0, d, h, hd, hk => by
    cases hd
    rw [putGD, if_neg (by rw [hk]; exact Int.lt_irrefl _), if_pos hk]; rfl
  | e :: l, i + 1, d, h, hd, hk => by
    obtain ⟨h1, h2⟩ := lowAtD_tail h
    rw [putGD, if_pos h1, putGD_has h2 (by simpa using hd) hk]; rfl
theorem putGD_not {f : Dn → Dn → Dn} {x : Dn} : ∀ {l : List Dn} {i : Nat}, lowAtD l x.ses i → ¬ hasAtD l x.ses i → putGD f l x = l.take i ++ x :: l.drop i
  | [], i, h, _ => by
    obtain rfl : i = 0 := by have := h.1; simp at this; exact this
    rfl
  | e :: l, 0, h, hk => by
    have h1 : ¬ e.ses < x.ses := h.2.2 0 e (Nat.le_refl _) rfl
    rw [putGD, if_neg h1, if_neg (fun g => hk ⟨e, rfl, g⟩)]; rfl
  | e :: l, i + 1, h, hk => by
    obtain ⟨h1, h2⟩ := lowAtD_tail h
    rw [putGD, if_pos h1, putGD_not h2 (fun ⟨c, hc, g⟩ => hk ⟨c, by simpa using hc, g⟩)]; rfl
theorem mem_putGD {f : Dn → Dn → Dn} {x c : Dn} : ∀ {l : List Dn}, c ∈ putGD f l x → c = x ∨ c ∈ l ∨ ∃ d ∈ l, d.ses = x.ses ∧ c = f d x
  | [], h => by simp [putGD] at h; exact .inl h
  | d :: l, h => by
    unfold putGD at h
    split at h
    · rcases List.mem_cons.1 h with rfl | h
      · exact .inr (.inl (by simp))
      · rcases mem_putGD h with h | h | ⟨e, h1, h2⟩
        · exact .inl h
        · exact .inr (.inl (by simp [h]))
        · exact .inr (.inr ⟨e, by simp [h1], h2⟩)
    · split at h
      · rename_i hk
        rcases List.mem_cons.1 h with rfl | h
        · exact .inr (.inr ⟨d, by simp, hk, rfl⟩)
        · exact .inr (.inl (by simp [h]))
      · rcases List.mem_cons.1 h with rfl | h
        · exact .inl rfl
        · exact .inr (.inl h)
theorem putGD_up {f : Dn → Dn → Dn} (hf : ∀ d x, d.ses = x.ses → (f d x).ses = x.ses) {x : Dn} : ∀ {l : List Dn}, upD l → upD (putGD f l x)
  | [], _ => List.pairwise_singleton _ _
  | d :: l, h => by
    obtain ⟨h1, h2⟩ := upD_cons.1 h
    unfold putGD
    split
    · rename_i hd
      refine upD_cons.2 ⟨fun c hc => ?_, putGD_up hf h2⟩
      rcases mem_putGD hc with rfl | hc | ⟨e, he, hk, rfl⟩
      · exact hd
      · exact h1 c hc
      · rw [hf e x hk, ← hk]; exact h1 e he
    · rename_i hd
      split
      · rename_i hk
        exact upD_cons.2 ⟨fun c hc => by rw [hf d x hk, ← hk]; exact h1 c hc, h2⟩
      · rename_i hk
        have hx : x.ses < d.ses := by
          rcases Int.lt_trichotomy d.ses x.ses with e | e | e
          · exact absurd e hd
          · exact absurd e hk
          · exact e
        refine upD_cons.2 ⟨fun c hc => ?_, h⟩
        rcases List.mem_cons.1 hc with rfl | hc
        · exact hx
        · exact Int.lt_trans hx (h1 c hc)
theorem putGD_len {f : Dn → Dn → Dn} {x : Dn} : ∀ {l : List Dn}, (putGD f l x).length ≤ l.length + 1
  | [] => by simp [putGD]
  | d :: l => by
    unfold putGD
    split
    · have := putGD_len (f := f) (x := x) (l := l)
      simp only [List.length_cons]; omega
    · split <;> simp
theorem putGD_pos {f : Dn → Dn → Dn} {x : Dn} {l : List Dn} : 0 < (putGD f l x).length := by
  cases l with
  | nil => simp [putGD]
  | cons d l => unfold putGD; split <;> (try split) <;> simp
theorem findD_key : ∀ {l : List Dn} {k : Int} {c : Dn}, findD l k = some c → c.ses = k ∧ c ∈ l
  | [], _, _, h => by cases h
  | d :: l, k, c, h => by
    unfold findD at h
    split at h
    · cases h; rename_i hk; exact ⟨hk, by simp⟩
    · obtain ⟨h1, h2⟩ := findD_key h; exact ⟨h1, by simp [h2]⟩
theorem findD_at : ∀ {l : List Dn} {c : Dn}, upD l → c ∈ l → findD l c.ses = some c
  | d :: l, c, h, hc => by
    obtain ⟨h1, h2⟩ := upD_cons.1 h
    rcases List.mem_cons.1 hc with rfl | hc
    · rw [findD, if_pos rfl]
    · rw [findD, if_neg (fun e => by have := h1 c hc; rw [e] at this; exact Int.lt_irrefl _ this), findD_at h2 hc]
theorem findD_put {f : Dn → Dn → Dn} (hf : ∀ d x, d.ses = x.ses → (f d x).ses = x.ses) {x : Dn} : ∀ {l : List Dn} (_ : upD l) (k : Int), findD (putGD f l x) k = if x.ses = k then some (match findD l k with | none => x | some d => f d x) else findD l k
  | [], _, k => by simp only [putGD, findD]
  | d :: l, h, k => by
    obtain ⟨h1, h2⟩ := upD_cons.1 h
    unfold putGD
    split
    · rename_i hd
      rw [findD, findD_put hf h2 k, findD]
      by_cases hk : d.ses = k
      · rw [if_pos hk, if_pos hk, if_neg (fun e => by rw [hk, e] at hd; exact Int.lt_irrefl _ hd)]
      · rw [if_neg hk, if_neg hk]
    · rename_i hd
      split
      · rename_i hk
        simp only [findD, hf d x hk]
        by_cases e : x.ses = k
        · simp only [if_pos e, if_pos (hk.trans e)]
        · simp only [if_neg e, if_neg (fun g => e (hk.symm.trans g))]
      · rename_i hk
        have hx : x.ses < d.ses := by
          rcases Int.lt_trichotomy d.ses x.ses with e | e | e
          · exact absurd e hd
          · exact absurd e hk
          · exact e
        by_cases e : x.ses = k
        · subst e
          rw [findD, if_pos rfl, if_pos rfl, findD_none]
          intro c hc g
          rcases List.mem_cons.1 hc with rfl | hc
          · rw [g] at hx; exact Int.lt_irrefl _ hx
          · have := Int.lt_trans hx (h1 c hc); rw [g] at this; exact Int.lt_irrefl _ this
        · rw [findD, if_neg e, if_neg e]
theorem upD_ext : ∀ {l m : List Dn}, upD l → upD m → (∀ k, findD l k = findD m k) → l = m
  | [], [], _, _, _ => rfl
  | [], d :: m, _, _, h => by have := h d.ses; rw [findD, findD, if_pos rfl] at this; cases this
  | c :: l, [], _, _, h => by have := h c.ses; rw [findD, findD, if_pos rfl] at this; cases this
  | c :: l, d :: m, hl, hm, h => by
    obtain ⟨h1, h2⟩ := upD_cons.1 hl
    obtain ⟨g1, g2⟩ := upD_cons.1 hm
    have hcd : c.ses = d.ses := by
      rcases Int.lt_trichotomy c.ses d.ses with e | e | e
      · have := h c.ses
        rw [findD, if_pos rfl] at this
        obtain ⟨hk, hmem⟩ := findD_key this.symm
        rcases List.mem_cons.1 hmem with rfl | hmem
        · exact absurd e (Int.lt_irrefl _)
        · exact absurd (Int.lt_trans e (g1 c hmem)) (Int.lt_irrefl _)
      · exact e
      · have := h d.ses
        rw [findD.eq_2 d.ses d m, if_pos rfl] at this
        obtain ⟨hk, hmem⟩ := findD_key this
        rcases List.mem_cons.1 hmem with rfl | hmem
        · exact absurd e (Int.lt_irrefl _)
        · exact absurd (Int.lt_trans e (h1 d hmem)) (Int.lt_irrefl _)
    have hce : c = d := by
      have := h c.ses
      rw [findD, if_pos rfl, findD, if_pos hcd.symm] at this
      exact Option.some.inj this
    subst hce
    congr 1
    refine upD_ext h2 g2 fun k => ?_
    by_cases e : c.ses = k
    · rw [findD_none (fun x hx g => by have := h1 x hx; rw [e, g] at this; exact Int.lt_irrefl _ this), findD_none (fun x hx g => by have := g1 x hx; rw [e, g] at this; exact Int.lt_irrefl _ this)]
    · have := h k
      rwa [findD, if_neg e, findD, if_neg e] at this
end Go.Proofs
/- once: one more in its session's place, both joined: walked. -/

set_option linter.all false
set_option maxRecDepth 100000
namespace Go.Proofs
open Go Go.Ev
variable {H : Heap}

theorem clo57 : CloFn Tryz.prog 74 6 72 [.int .i64 0, .int .i64 0, .int .i64 0, .str [], .int .i64 0, .nils] := ⟨⟨Tryz.f74, Tryz.func74, by kernel_rfl, by kernel_rfl⟩, rfl, by decide⟩
theorem ins58 : InsFn Tryz.prog 121 6 72 [.int .i64 0, .int .i64 0, .int .i64 0, .str [], .int .i64 0, .nils] := ⟨⟨Tryz.f121, 146, 147, Tryz.func121, by kernel_rfl, by kernel_rfl, by kernel_rfl, by kernel_rfl⟩, rfl, by decide⟩
noncomputable def lateD (x d : Dn) : Dn := if x.id ≤ d.id then d else x
noncomputable def withD (l : List Dn) (d : Dn) : List Dn := putGD lateD l d
theorem lateD_ses (x d : Dn) (h : x.ses = d.ses) : (lateD x d).ses = d.ses := by unfold lateD; split <;> simp_all
theorem mem_withD {l : List Dn} {d c : Dn} (h : c ∈ withD l d) : c = d ∨ c ∈ l := by
  rcases mem_putGD h with h | h | ⟨x, h1, h2, rfl⟩
  · exact .inl h
  · exact .inr h
  · unfold lateD
    split
    · exact .inl rfl
    · exact .inr h1
theorem withD_ok {l : List Dn} {d : Dn} (h : allOk H l) (hd : d.an.ok H) : allOk H (withD l d) := fun c hc => by
  rcases mem_withD hc with rfl | hc
  · exact hd
  · exact h c hc
theorem withD_len {l : List Dn} {d : Dn} : (withD l d).length ≤ l.length + 1 := putGD_len
theorem withD_pos {l : List Dn} {d : Dn} : 0 < (withD l d).length := putGD_pos
theorem f68_ok {v : AV} {l : List Dn} {d : Dn} (hA : Arr H 6 v (l.map Dn.enc)) (ha : allOk H l) (hd : d.an.ok H) (hup : upD l) (hl : l.length < 1000000) :
    FnOk Tryz.prog 68 [v, .agg d.enc] H fun r G => r = outV H.nx 6 (withD l d).length ∧ G = H.ext [outB 6 ((withD l d).map Dn.enc)] := by
  refine FnOk.assume fun hok => ?_
  refine FnOk.dropO' (List.length_map ..) (withD_ok ha hd).rens ?_
  refine FnOk.of_WW Tryz.func68 rfl C68ok R68ok E0 good_E0 ?_
  have hrens := ha.rens
  have hdren := hd.ren
  simp only [go_sem, C68, Dn.enc]
  refine CL.of (clone_z' clo57 (hA.ext _) (by rw [List.length_map]; omega) (ha.ext _).rens) ?_
  rintro _ _ ⟨z, rfl, rfl⟩
  simp only [go_sem, List.length_map]
  have hris := upD_rises hup
  refine LL.st good_E0 (fun i : Nat => l.length - i) (fun i => i ≤ l.length ∧ ∀ q c, q < i → l[q]? = some c → c.ses < d.ses)
    (fun i => [((.o (.o .z)), .ptr (H.key 0) 0), ((.o (.i .z)), zV z (H.key 1) 6 l.length), ((.i (.i .z)), .int .i64 i)]) (fun i => [.row true 6 [[.int .i64 d.ses, .int .i64 d.id, .int .i64 d.an.code, .str d.an.val, .int .i64 d.an.ver, d.an.rv]], zB z 6 (l.map Dn.enc)]) ?_ 0 (σ := [0, 1]) (Wk.of rfl (by decide) (by simp only [go_sem, zV_ren]) (by simp only [go_sem, ↓outB_ren', ↓zB_ren, hrens, hdren, implies_true])) ⟨Nat.zero_le _, fun q c h => absurd h (Nat.not_lt_zero _)⟩
  rintro i ⟨hi, hlo⟩
  by_cases hlt : i < l.length
  · have hget : l[i]? = some l[i] := List.getElem?_eq_getElem hlt
    generalize l[i] = c at hget
    have hpos : 0 < l.length := by omega
    have hzB := zB_pos (z := z) (esz := 6) (xs := l.map Dn.enc) (by rw [List.length_map]; exact hpos)
    have hw := wrap_succ (n := i) (by omega)
    have hci : (i : Int) < (l.length : Int) := by omega
    have hne : ¬ (i : Int) = (l.length : Int) := by omega
    have hsi : i + 1 ≤ l.length := by omega
    simp only [go_sem, C68L0, zV_pos hpos, hzB, hci, hsi, hne, hget, List.getElem?_map, Option.map_some, Dn.enc]
    refine ⟨fun g => ?_, fun g => ?_⟩
    · have hz : AV.slice (H.key 1) 0 l.length 6 false l.length = zV z (H.key 1) 6 l.length := by rw [zV_pos hpos]
      rw [hz, ← hzB]
      refine ⟨i + 1, by show l.length - (i + 1) < l.length - i; omega, ⟨by omega, fun q x hq hx => ?_⟩, _, [0, 1], rfl, Wk.of rfl (by decide) (by simp only [go_sem, zV_ren, hw]) (by simp only [go_sem, ↓outB_ren', ↓zB_ren, hrens, hdren, implies_true])⟩
      rcases Nat.lt_or_ge q i with h | h
      · exact hlo q x h hx
      · obtain rfl : q = i := by omega
        rw [hget] at hx; cases hx; exact g
    · have hlow : lowAtD l d.ses i := ⟨hi, hlo, fun q x hq hx => by
        rcases Nat.lt_or_ge i q with h | h
        · have := hris i q c x h hget hx; omega
        · obtain rfl : q = i := by omega
          rw [hget] at hx; cases hx; exact g⟩
      refine ⟨fun g2 => ?_, fun g2 => ?_⟩
      · have hput : withD l d = l.take i ++ d :: l.drop i := putGD_not hlow (fun ⟨x, h1, h2⟩ => by rw [hget] at h1; cases h1; exact g2 h2)
        have hz : AV.slice (H.key 1) 0 l.length 6 false l.length = zV z (H.key 1) 6 l.length := by rw [zV_pos hpos]
        rw [hz, ← hzB]
        refine CL.of (insert_z ins58 (i := 1) (j := 2) (xs := l.map Dn.enc) (x := [.int .i64 d.ses, .int .i64 d.id, .int .i64 d.an.code, .str d.an.val, .int .i64 d.an.ver, d.an.rv]) (by decide) rfl rfl (List.length_map ..) hlow.1 (by omega) (by omega)) ?_
        rintro _ _ ⟨b, rfl, rfl⟩
        simp only [go_sem]
        rw [hput]
        refine ⟨_, 3, ?_, rfl, fun _ => ?_⟩
        · simp only [List.length_append, List.length_cons, List.length_take, List.length_drop]
          rw [show min i l.length + (l.length - i + 1) = l.length + 1 by omega]; rfl
        · simp only [List.map_append, List.map_cons, List.map_take, List.map_drop]; rfl
      · have hse : c.ses = d.ses := Classical.not_not.1 g2
        have hput : withD l d = l.set i (lateD c d) := putGD_has hlow hget hse
        rw [hput]
        refine ⟨fun g3 => ?_, fun g3 => ?_⟩
        · have hl3 : lateD c d = d := if_pos g3
          rw [hl3]
          exact ⟨_, 1, by rw [List.length_set, outV_pos hpos], rfl, fun _ => by rw [outB_pos (by rw [List.length_map, List.length_set]; exact hpos), List.map_set]; rfl⟩
        · have hl3 : lateD c d = c := if_neg g3
          have hs : l.set i c = l := by
            refine List.ext_getElem? fun q => ?_
            rw [List.getElem?_set]
            split
            · rename_i hq; subst hq; rw [hget]
            · rfl
          rw [hl3, hs]
          exact ⟨_, 1, by rw [outV_pos hpos], rfl, fun _ => by rw [outB_pos (by rw [List.length_map]; exact hpos)]; rfl⟩
  · have hil : i = l.length := by omega
    subst hil
    have hci : ¬ (l.length : Int) < (l.length : Int) := by omega
    have hlow : lowAtD l d.ses l.length := ⟨hi, hlo, fun q x hq hx => by have := (List.getElem?_eq_some_iff.1 hx).1; omega⟩
    have hput : withD l d = l.take l.length ++ d :: l.drop l.length := putGD_not hlow (fun ⟨x, h1, h2⟩ => by have := (List.getElem?_eq_some_iff.1 h1).1; omega)
    simp only [go_sem, C68L0, hci]
    refine CL.of (insert_z ins58 (i := 1) (j := 2) (xs := l.map Dn.enc) (x := [.int .i64 d.ses, .int .i64 d.id, .int .i64 d.an.code, .str d.an.val, .int .i64 d.an.ver, d.an.rv]) (by decide) rfl rfl (List.length_map ..) hlow.1 (by omega) (by omega)) ?_
    rintro _ _ ⟨b, rfl, rfl⟩
    simp only [go_sem]
    rw [hput]
    refine ⟨_, 3, ?_, rfl, fun _ => ?_⟩
    · simp only [List.length_append, List.length_cons, List.length_take, List.length_drop]
      rw [show min l.length l.length + (l.length - l.length + 1) = l.length + 1 by omega]; rfl
    · simp only [List.map_append, List.map_cons, List.map_take, List.map_drop]; rfl
end Go.Proofs
/- once: both joined: walked. -/

set_option linter.all false
set_option maxRecDepth 100000
namespace Go.Proofs
open Go Go.Ev
variable {H : Heap}

noncomputable def joinP (a b : List Dn) : List Dn := a.foldl withD b
theorem joinP_succ {a b : List Dn} {i : Nat} {c : Dn} (h : a[i]? = some c) : joinP (a.take (i + 1)) b = withD (joinP (a.take i) b) c := by
  obtain ⟨hl, rfl⟩ := List.getElem?_eq_some_iff.1 h
  unfold joinP
  rw [List.take_succ_eq_append_getElem hl, List.foldl_append]; rfl
theorem joinP_ok : ∀ {a b : List Dn}, allOk H a → allOk H b → allOk H (joinP a b)
  | [], b, _, h => h
  | x :: a, b, ha, hb => joinP_ok (a := a) (fun d hd => ha d (by simp [hd])) (withD_ok hb (ha x (by simp)))
theorem withD_up {l : List Dn} {d : Dn} (h : upD l) : upD (withD l d) := putGD_up lateD_ses h
theorem joinP_up : ∀ {a b : List Dn}, upD b → upD (joinP a b)
  | [], _, h => h
  | x :: a, b, h => joinP_up (a := a) (withD_up h)
theorem joinP_len : ∀ {a b : List Dn}, (joinP a b).length ≤ a.length + b.length
  | [], b => by simp [joinP]
  | x :: a, b => by
    have h1 := joinP_len (a := a) (b := withD b x)
    have h2 := withD_len (l := b) (d := x)
    have h3 : joinP (x :: a) b = joinP a (withD b x) := rfl
    rw [h3, List.length_cons]
    omega
end Go.Proofs
/- once: what was done in one of two is done in both joined: the plain law and the walk. -/

set_option linter.all false
set_option linter.all false
set_option maxRecDepth 100000
namespace Go.Proofs
open Go Go.Ev
variable {H : Heap}

noncomputable def laterO : Option Dn → Option Dn → Option Dn
  | none, y => y
  | some x, none => some x
  | some x, some y => some (lateD y x)
theorem find_with {l : List Dn} {x : Dn} (h : upD l) (s : Int) : findD (withD l x) s = if x.ses = s then laterO (some x) (findD l s) else findD l s := by
  rw [withD, findD_put lateD_ses h]
  cases findD l s <;> rfl
theorem find_join (s : Int) : ∀ {a b : List Dn}, upD a → upD b → findD (joinP a b) s = laterO (findD a s) (findD b s)
  | [], b, _, _ => rfl
  | x :: a, b, ha, hb => by
    obtain ⟨h1, h2⟩ := upD_cons.1 ha
    show findD (joinP a (withD b x)) s = _
    rw [find_join s h2 (withD_up hb), find_with hb, findD]
    by_cases e : x.ses = s
    · rw [if_pos e, if_pos e, findD_none (l := a) (fun d hd g => by have := h1 d hd; omega)]
      rfl
    · rw [if_neg e, if_neg e]
theorem sameD_self (l : List Dn) : sameD l l := ⟨rfl, fun i c d h1 h2 => by rw [h1] at h2; cases h2; exact ⟨rfl, rfl, rfl, rfl, rfl, rfl⟩⟩
theorem isDone.rows {l : List Dn} (h : isDone l) : ∀ d ∈ l, (d.an.rows.length : Int) ≤ 16 := fun d hd => ((done_iff.1 h).1 d hd).2.2.1
end Go.Proofs
