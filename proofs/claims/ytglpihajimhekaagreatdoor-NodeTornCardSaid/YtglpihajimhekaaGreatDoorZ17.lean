/- part. -/
import Derived.Test.YtglpihajimhekaaGreatDoorZ16
set_option linter.all false
set_option maxRecDepth 100000
namespace Go.Proofs
open Go Go.Ev
variable {H : Heap}
def textT (s : List Nat) : List Nat := numT s.length ++ s
theorem f124_ok {s : List Nat} (hs : s.length < 4611686018427387904) : FnOk Tryz.prog 124 [.str s] H fun r G => r = .str (textT s) ∧ G = H := by
 refine FnOk.drop (R := fun r => r = .str (textT s)) ?_ (by rintro v rfl ρ; rw [AV.ren])
 refine FnOk.of_WW Tryz.func124 rfl C124ok R124ok E0 good_E0 ?_
 have h := numT_small (n := s.length) (by omega)
 have hle : (numT s.length).length + s.length ≤ 9223372036854775807 := by omega
 simp only [go_sem, C124]
 refine CL.one (f122_ok (by omega)) ?_
 simp only [go_sem, hle]
 exact ⟨rfl, _, rfl⟩
structure Rw where
 k : List Nat
 v : List Nat
 ver : Int
def Rw.enc (r : Rw) : List AV := [.str r.k, .str r.v, .int .i64 r.ver]
theorem Rw.rens (ρ : K → K) (c : Rw) : AV.rens ρ c.enc = c.enc := by simp only [Rw.enc, AV.rens, AV.ren]
theorem Rw.map_rens (ρ : K → K) (l : List Rw) : (l.map Rw.enc).map (AV.rens ρ) = l.map Rw.enc := by
 rw [List.map_map]; exact List.map_congr_left fun c _ => Rw.rens ρ c
theorem Rw.enc_inj {c d : Rw} (h : c.k = d.k ∧ c.v = d.v ∧ c.ver = d.ver) : c = d := by cases c; cases d; simp_all
def badR (r : Rw) : Prop := (255 : Int) < (r.k.length : Int) ∨ (255 : Int) < (r.v.length : Int) ∨ r.ver < 0 ∨ (281474976710656 : Int) ≤ r.ver
instance (r : Rw) : Decidable (badR r) := inferInstanceAs (Decidable (_ ∨ _))
theorem f232_ok (c : Rw) : FnOk Tryz.prog 232 [.agg c.enc] H fun r G => r = .bool (decide (badR c)) ∧ G = H := by
 refine FnOk.drop (R := fun r => r = .bool (decide (badR c))) ?_ (by rintro v rfl ρ; rw [AV.ren])
 refine FnOk.of_WW Tryz.func232 rfl C232ok R232ok E0 good_E0 ?_
 simp only [go_sem, C232, Rw.enc]
 refine ⟨fun h => ⟨bool_t (.inl h), _, rfl⟩, fun h1 => ⟨fun h => ⟨bool_t (.inr (.inl h)), _, rfl⟩, fun h2 => ⟨fun h => ⟨bool_t (.inr (.inr (.inl h))), _, rfl⟩, fun h3 => ⟨fun h => ⟨bool_t (.inr (.inr (.inr h))), _, rfl⟩, fun h4 => ⟨bool_f ?_, _, rfl⟩⟩⟩⟩⟩
 rintro (h | h | h | h)
 ·exact h1 h
 ·exact h2 h
 ·exact h3 h
 ·exact h4 h
def anyBad (l : List Rw) : Prop := ∃ r ∈ l, badR r
noncomputable instance (l : List Rw) : Decidable (anyBad l) := Classical.propDecidable _
theorem f275_ok {v : AV} {l : List Rw} (hA : Arr H 3 v (l.map Rw.enc)) (hl : l.length ≤ 9223372036854775807) :
  FnOk Tryz.prog 275 [v, .fn (.func 232) [] []] H fun r G => (∃ n : Int, r = .int .i64 n ∧ (0 ≤ n ↔ anyBad l)) ∧ G = H := by
 refine FnOk.assume fun hok => ?_
 refine FnOk.drop (R := fun r => ∃ n : Int, r = .int .i64 n ∧ (0 ≤ n ↔ anyBad l)) ?_ (by rintro v ⟨n, rfl, _⟩ ρ; rw [AV.ren])
 refine FnOk.of_WW Tryz.func275 rfl C275ok R275ok E0 good_E0 ?_
 have hlen := fun G => hA.len G; simp only [List.length_map] at hlen; have hren := hA.ren
 simp only [go_sem, C275, hlen]
 refine LL.st good_E0 (fun i : Nat => l.length - i) (fun i => i ≤ l.length ∧ ∀ j d, j < i → l[j]? = some d → ¬ badR d)
  (fun i => [(.z, v), ((.o .z), .fn (.func 232) [] []), ((.i (.i .z)), v), ((.o (.o (.o .z))), .int .i64 l.length), ((.i (.o (.o .z))), .int .i64 i)]) (fun i => []) ?_ 0 (σ := []) (Wk.of rfl (by decide) (by simp only [go_sem, hren]) (by simp only [go_sem])) ⟨Nat.zero_le _, fun j d h => absurd h (Nat.not_lt_zero _)⟩
 rintro i ⟨hi, hno⟩
 by_cases hlt : i < l.length
 ·obtain ⟨kk, r, ex', cap', wr, rows, hv, hrho, hgo, hrow⟩ := hA.at hok (j := i) (by rw [List.length_map]; exact hlt); simp only [List.length_map, List.getElem_map] at hv hrow; cases hv; have hget : l[i]? = some l[i] := List.getElem?_eq_getElem hlt; generalize l[i] = c at hrow hget; have hw := wrap_succ (n := i) (by omega); have hci : (i : Int) < (l.length : Int) := (by omega); have hsi : i + 1 ≤ l.length := (by omega)
  simp only [go_sem, hci, hsi, hgo, hrow, hw, Rw.enc]
  refine CL.bool (f232_ok c) (fun g => ?_) (fun g => ?_)
  ·simp only [go_sem]
   exact ⟨⟨_, rfl, fun _ => ⟨c, List.mem_of_getElem? hget, g⟩, fun _ => by omega⟩, _, rfl⟩
  ·simp only [go_sem, hw]
   refine ⟨i + 1, by show l.length - (i + 1) < l.length - i; omega, ⟨by omega, fun j d hj hd => ?_⟩, _, [], rfl, Wk.of rfl (by decide) (by simp only [go_sem, hren, hrho, hw]) (by simp only [go_sem])⟩
   rcases Nat.lt_or_ge j i with h | h
   ·exact hno j d h hd
   ·obtain rfl : j = i := by omega
    rw [hget] at hd; cases hd; exact g
 ·have hci : ¬ (i : Int) < (l.length : Int) := by omega
  simp only [go_sem, hci]
  refine ⟨⟨_, rfl, fun h => absurd h (by decide), ?_⟩, _, rfl⟩
  rintro ⟨d, hd, hb⟩
  obtain ⟨j, hj⟩ := List.mem_iff_getElem?.1 hd
  exact absurd hb (hno j d (by have := (List.getElem?_eq_some_iff.1 hj).1; omega) hj)
theorem f233_ok {v : AV} {l : List Rw} (hA : Arr H 3 v (l.map Rw.enc)) (hl : l.length ≤ 9223372036854775807) :
  FnOk Tryz.prog 233 [v, .fn (.func 232) [] []] H fun r G => r = .bool (decide (anyBad l)) ∧ G = H := by
 refine FnOk.drop (R := fun r => r = .bool (decide (anyBad l))) ?_ (by rintro v rfl ρ; rw [AV.ren])
 refine FnOk.of_WW Tryz.func233 rfl C233ok R233ok E0 good_E0 ?_
 simp only [go_sem, C233]
 refine CL.of (f275_ok (hA.ext []) hl) ?_
 rintro _ _ ⟨⟨n, rfl, hn⟩, rfl⟩
 simp only [go_sem]
 exact ⟨fun h => ⟨bool_t (hn.1 h), [], rfl⟩, fun h => ⟨bool_f fun e => h (hn.2 e), [], rfl⟩⟩
structure An where
 code : Int
 val : List Nat
 ver : Int
 rows : List Rw
 rv : AV
def An.enc (a : An) : List AV := [.int .i64 a.code, .str a.val, .int .i64 a.ver, a.rv]
def An.ok (H : Heap) (a : An) : Prop := Arr H 3 a.rv (a.rows.map Rw.enc) ∧ a.rows.length ≤ 9223372036854775807
theorem An.ok.ext {a : An} (h : a.ok H) (L : List Blk) : a.ok (H.ext L) := ⟨h.1.ext L, h.2⟩
def isAns (a : An) : Prop := (0 ≤ a.code ∧ a.code < 281474976710656 ∧ 0 ≤ a.ver ∧ a.ver < 281474976710656 ∧ (a.val.length : Int) ≤ 255) ∧ (a.rows.length : Int) ≤ 16 ∧ ¬ anyBad a.rows
noncomputable instance (a : An) : Decidable (isAns a) := Classical.propDecidable _
theorem f189_ok {a : An} (h : a.ok H) : FnOk Tryz.prog 189 [.agg a.enc] H fun r G => r = .bool (decide (isAns a)) ∧ G = H := by
 refine FnOk.drop (R := fun r => r = .bool (decide (isAns a))) ?_ (by rintro v rfl ρ; rw [AV.ren])
 refine FnOk.of_WW Tryz.func189 rfl C189ok R189ok E0 good_E0 ?_
 have hlen := fun G => h.1.len G
 simp only [List.length_map] at hlen
 simp only [go_sem, C189, An.enc, hlen]
 refine ⟨fun g => ⟨bool_f fun e => absurd e.1.1 (by omega), _, rfl⟩, fun g1 => ⟨fun g => ⟨bool_f fun e => absurd e.1.2.1 (by omega), _, rfl⟩, fun g2 => ⟨fun g => ⟨bool_f fun e => absurd e.1.2.2.1 (by omega), _, rfl⟩, fun g3 => ⟨fun g => ⟨bool_f fun e => absurd e.1.2.2.2.1 (by omega), _, rfl⟩, fun g4 => ⟨fun g => ⟨bool_f fun e => absurd e.1.2.2.2.2 (by omega), _, rfl⟩, fun g5 => ⟨fun g => ⟨bool_f fun e => absurd e.2.1 (by omega), _, rfl⟩, fun g6 => ?_⟩⟩⟩⟩⟩⟩
 refine CL.bool (f233_ok (h.1.ext _) h.2) (fun g7 => ?_) (fun g7 => ?_)
 ·simp only [go_sem]
  exact ⟨bool_f fun e => e.2.2 g7, _, rfl⟩
 ·simp only [go_sem]
  exact ⟨bool_t ⟨⟨by omega, by omega, by omega, by omega, by omega⟩, by omega, g7⟩, _, rfl⟩
end Go.Proofs
namespace Go.Proofs
open Go Go.Ev
variable {H : Heap}
noncomputable def EO1 : FuncId → List AV → Heap → RC
 | 122, [.int .i64 n], H => if 0 ≤ n ∧ n < 9223372036854775808 then .ok (.str (numT n.toNat)) H else .fail
 | 124, [.str s], H => if s.length < 4611686018427387904 then .ok (.str (textT s)) H else .fail
 | _, _, _ => .fail
theorem good_EO1 : Ev.Good Tryz.prog EO1 := by
 intro f args H r G he φ w args' ha hw
 refine (?_ : FnOk Tryz.prog f args H fun v' G' => v' = r ∧ G' = G).one φ w args' ha hw
 unfold EO1 at he
 split at he
 ·rename_i n
  split at he
  ·rename_i hn
   cases he
   have := f122_ok (H := H) (n := n.toNat) (by omega)
   rwa [Int.toNat_of_nonneg hn.1] at this
  ·cases he
 ·split at he
  ·rename_i hs
   cases he
   exact f124_ok hs
  ·cases he
 ·cases he
theorem e69 {n : Int} (h0 : 0 ≤ n) (h1 : n < 9223372036854775808) (H : Heap) : EO1 122 [.int .i64 n] H = .ok (.str (numT n.toNat)) H := if_pos ⟨h0, h1⟩
theorem e70 {s : List Nat} (h : s.length < 4611686018427387904) (H : Heap) : EO1 124 [.str s] H = .ok (.str (textT s)) H := if_pos h
def rowT (r : Rw) : List Nat := (textT r.k ++ textT r.v) ++ numT r.ver.toNat
def headT (a : An) : List Nat := ((numT a.code.toNat ++ textT a.val) ++ numT a.ver.toNat) ++ numT a.rows.length
def ansP (a : An) (i : Nat) : List Nat := (a.rows.take i).foldl (fun s r => s ++ rowT r) (headT a)
noncomputable def ansT (a : An) : List Nat := open Classical in if isAns a then ansP a a.rows.length else []
theorem ansP_succ {a : An} {i : Nat} {c : Rw} (h : a.rows[i]? = some c) : ansP a (i + 1) = ansP a i ++ rowT c := by
 obtain ⟨hl, rfl⟩ := List.getElem?_eq_some_iff.1 h
 unfold ansP
 rw [List.take_succ_eq_append_getElem hl, List.foldl_append]; rfl
theorem textT_len {s : List Nat} (h : (s.length : Int) ≤ 255) : (textT s).length ≤ 266 := by
 unfold textT
 rw [List.length_append]
 have := numT_small (n := s.length) (by omega)
 omega
theorem foldl_len (l : List Rw) : ∀ s : List Nat, s.length ≤ (l.foldl (fun s r => s ++ rowT r) s).length := by
 induction l with
 | nil => intro s; exact Nat.le_refl _
 | cons r l ih =>
  intro s
  refine Nat.le_trans ?_ (ih _)
  rw [List.length_append]; omega
theorem ansT_nil {a : An} : ansT a = [] ↔ ¬ isAns a := by
 unfold ansT
 by_cases h : isAns a
 ·rw [if_pos h]
  refine ⟨fun e => ?_, fun g => absurd h g⟩
  have h1 := foldl_len (a.rows.take a.rows.length) (headT a)
  have h2 : (headT a).length = 0 := by
   have := congrArg List.length e
   unfold ansP at this
   rw [this] at h1
   simpa using h1
  unfold headT at h2
  have := numT_pos a.rows.length
  simp only [List.length_append] at h2
  omega
 ·rw [if_neg h]; exact ⟨fun _ => h, fun _ => rfl⟩
theorem f134_ok {a : An} (h : a.ok H) : FnOk Tryz.prog 134 [.agg a.enc] H fun r G => r = .str (ansT a) ∧ G = H := by
 refine FnOk.assume fun hok => ?_
 refine FnOk.drop (R := fun r => r = .str (ansT a)) ?_ (by rintro v rfl ρ; rw [AV.ren])
 refine FnOk.of_WW Tryz.func134 rfl C134ok R134ok EO1 good_EO1 ?_
 have hans : isAns a → ansT a = ansP a a.rows.length := fun g => by unfold ansT; rw [if_pos g]
 have hnot : ¬ isAns a → ansT a = [] := ansT_nil.2
 have hsucc := @ansP_succ a
 have h0 : ansP a 0 = headT a := rfl
 have hbox := h
 obtain ⟨hA, hl⟩ := h
 have hlen := fun G => hA.len G
 simp only [List.length_map] at hlen
 have hren := hA.ren
 simp only [go_sem, C134, An.enc]
 refine CL.bool (f189_ok (a := a) (hbox.ext _)) (fun g => ?_) (fun g => ?_)
 ·have hnb : ∀ r ∈ a.rows, ¬ badR r := fun r hr hb => g.2.2 ⟨r, hr, hb⟩
  have hr16 := g.2.1
  obtain ⟨c1, c2, c3, c4, c5⟩ := g.1
  have x1 := fun G => e69 c1 (by omega) G
  have x2 := fun G => e70 (s := a.val) (by omega) G
  have x3 := fun G => e69 c3 (by omega) G
  have x4 := fun G => e69 (n := (a.rows.length : Int)) (by omega) (by omega) G
  rw [Int.toNat_natCast] at x4
  have n1 := numT_small (n := a.code.toNat) (by omega)
  have n2 := textT_len c5
  have n3 := numT_small (n := a.ver.toNat) (by omega)
  have n4 := numT_small (n := a.rows.length) (by omega)
  have m1 : (numT a.code.toNat).length + (textT a.val).length ≤ 9223372036854775807 := by omega
  have m2 : (numT a.code.toNat).length + (textT a.val).length + (numT a.ver.toNat).length ≤ 9223372036854775807 := by omega
  have m3 : (numT a.code.toNat).length + (textT a.val).length + (numT a.ver.toNat).length + (numT a.rows.length).length ≤ 9223372036854775807 := by omega
  have mh : (headT a).length ≤ 1000 := by unfold headT; rw [List.length_append, List.length_append, List.length_append]; omega
  have hhead : numT a.code.toNat ++ textT a.val ++ numT a.ver.toNat ++ numT a.rows.length = headT a := rfl
  simp only [go_sem, hlen, x1, x2, x3, x4, m1, m2, m3, hhead]
  have hfin := hans g
  obtain ⟨code, val, ver, l, v⟩ := a
  simp only at hA hl hlen hren hnb hr16 hfin hsucc
  refine LL.st good_EO1 (fun i : Nat => l.length - i) (fun i => i ≤ l.length ∧ (ansP ⟨code, val, ver, l, v⟩ i).length ≤ 1000 + 1000 * i)
   (fun i => [((.o (.o .z)), .str (ansP ⟨code, val, ver, l, v⟩ i)), ((.i (.i (.o (.i .z)))), v), ((.o (.o (.i (.i .z)))), .int .i64 l.length), ((.i (.o (.i (.i .z)))), .int .i64 i)]) (fun i => []) ?_ 0 (σ := []) (Wk.of rfl (by decide) (by simp only [go_sem, hren, h0]) (by simp only [go_sem])) ⟨Nat.zero_le _, by rw [h0]; omega⟩
  rintro i ⟨hi, hpl⟩
  by_cases hlt : i < l.length
  ·generalize hP : ansP ⟨code, val, ver, l, v⟩ = P at *
   obtain ⟨kk, r, ex', cap', wr, rows, hv, hrho, hgo, hrow⟩ := hA.at hok (j := i) (by rw [List.length_map]; exact hlt); simp only [List.length_map, List.getElem_map] at hv hrow; cases hv; have hget : l[i]? = some l[i] := List.getElem?_eq_getElem hlt; generalize l[i] = c at hrow hget; have hw := wrap_succ (n := i) (by omega); have hci : (i : Int) < (l.length : Int) := (by omega); have hsi : i + 1 ≤ l.length := (by omega)
   have hb := hnb c (List.mem_of_getElem? hget)
   have hs := hsucc hget
   have b1 : (c.k.length : Int) ≤ 255 := Int.not_lt.1 fun e => hb (.inl e)
   have b2 : (c.v.length : Int) ≤ 255 := Int.not_lt.1 fun e => hb (.inr (.inl e))
   have b3 : 0 ≤ c.ver := Int.not_lt.1 fun e => hb (.inr (.inr (.inl e)))
   have b4 : c.ver < 281474976710656 := Int.not_le.1 fun e => hb (.inr (.inr (.inr e)))
   have y1 := fun G => e70 (s := c.k) (by omega) G
   have y2 := fun G => e70 (s := c.v) (by omega) G
   have y3 := fun G => e69 b3 (by omega) G
   have n1 := textT_len b1
   have n2 := textT_len b2
   have n3 := numT_small (n := c.ver.toNat) (by omega)
   have q1 : (textT c.k).length + (textT c.v).length ≤ 9223372036854775807 := by omega
   have q2 : (textT c.k).length + (textT c.v).length + (numT c.ver.toNat).length ≤ 9223372036854775807 := by omega
   have q3 : (P i).length + ((textT c.k).length + (textT c.v).length + (numT c.ver.toNat).length) ≤ 9223372036854775807 := by omega
   have hrow2 : textT c.k ++ textT c.v ++ numT c.ver.toNat = rowT c := rfl
   have hrl : (rowT c).length = (textT c.k).length + (textT c.v).length + (numT c.ver.toNat).length := by unfold rowT; rw [List.length_append, List.length_append]
   simp only [go_sem, hci, hsi, hgo, hrow, hw, Rw.enc, y1, y2, y3, q1, q2, q3, hrow2]
   refine ⟨by omega, i + 1, by show l.length - (i + 1) < l.length - i; omega, ⟨by omega, ?_⟩, _, [], rfl, Wk.of rfl (by decide) (by simp only [go_sem, hrho, hw, hs]) (by simp only [go_sem])⟩
   rw [hs, List.length_append]
   omega
  ·have hci : ¬ (i : Int) < (l.length : Int) := by omega
   simp only [go_sem, hci]
   rw [hfin, show i = l.length by omega]
   exact ⟨rfl, _, rfl⟩
 ·simp only [go_sem]
  rw [hnot g]
  exact ⟨rfl, _, rfl⟩
end Go.Proofs
namespace Go.Proofs
open Go Go.Ev
variable {H : Heap}
structure Dn where
 ses : Int
 id : Int
 an : An
theorem off6 (a b c : Nat) : a * 6 + b + c = a * 6 + (b + c) := Nat.add_assoc ..
theorem wrap01 : IntKind.i64.wrap (0 + 1) = 1 := rfl
def Dn.enc (d : Dn) : List AV := [.int .i64 d.ses, .int .i64 d.id, .int .i64 d.an.code, .str d.an.val, .int .i64 d.an.ver, d.an.rv]
def allOk (H : Heap) (l : List Dn) : Prop := ∀ d ∈ l, d.an.ok H
theorem allOk.ext {l : List Dn} (h : allOk H l) (L : List Blk) : allOk (H.ext L) l := fun d hd => (h d hd).ext L
theorem An.ok.ren {a : An} (h : a.ok H) (top : Nat) (σ : List Nat) : AV.ren (rho H top σ) a.rv = a.rv := h.1.ren top σ
theorem Dn.ren1 {d : Dn} (h : d.an.ok H) (top : Nat) (σ : List Nat) : AV.rens (rho H top σ) d.enc = d.enc := by
 simp only [Dn.enc, AV.rens, AV.ren, h.ren]
theorem allOk.rens {l : List Dn} (h : allOk H l) (top : Nat) (σ : List Nat) : (l.map Dn.enc).map (AV.rens (rho H top σ)) = l.map Dn.enc := by
 rw [List.map_map]; exact List.map_congr_left fun d hd => Dn.ren1 (h d hd) top σ
def okD (d : Dn) : Prop := (0 ≤ d.ses ∧ d.ses < 3 ∧ 1 ≤ d.id ∧ d.id ≤ 1000000000000) ∧ isAns d.an
def okDt (l : List Dn) (j : Nat) : Prop := ∃ c, l[j]? = some c ∧ okD c ∧ (0 < j → ∃ d, l[j - 1]? = some d ∧ d.ses < c.ses)
def isDone (l : List Dn) : Prop := ∀ j, j < l.length → okDt l j
noncomputable instance (l : List Dn) : Decidable (isDone l) := Classical.propDecidable _
theorem f61_ok {v : AV} {l : List Dn} (hA : Arr H 6 v (l.map Dn.enc)) (ha : allOk H l) (hl : l.length < 9223372036854775807) :
  FnOk Tryz.prog 61 [v] H fun r G => r = .bool (decide (isDone l)) ∧ G = H := by
 refine FnOk.assume fun hok => ?_
 refine FnOk.drop (R := fun r => r = .bool (decide (isDone l))) ?_ (by rintro v rfl ρ; rw [AV.ren])
 refine FnOk.of_WW Tryz.func61 rfl C61ok R61ok E0 good_E0 ?_
 have hlen := fun G => hA.len G; simp only [List.length_map] at hlen; have hren := hA.ren
 simp only [go_sem, C61, hlen]
 refine LL.st good_E0 (fun i : Nat => l.length - i) (fun i => i ≤ l.length ∧ ∀ j, j < i → okDt l j)
  (fun i => [(.z, v), ((.o (.i .z)), v), ((.i (.i .z)), .int .i64 l.length), ((.o (.o (.o .z))), .int .i64 i)]) (fun i => []) ?_ 0 (σ := []) (Wk.of rfl (by decide) (by simp only [go_sem, hren]) (by simp only [go_sem])) ⟨Nat.zero_le _, fun j h => absurd h (Nat.not_lt_zero _)⟩
 rintro i ⟨hi, hno⟩
 by_cases hlt : i < l.length
 ·obtain ⟨kk, r, ex', cap', wr, rows, hv, hrho, hgo, hrow⟩ := hA.at hok (j := i) (by rw [List.length_map]; exact hlt); simp only [List.length_map, List.getElem_map] at hv hrow; cases hv; have hget : l[i]? = some l[i] := List.getElem?_eq_getElem hlt; generalize l[i] = c at hrow hget; have hw := wrap_succ (n := i) (by omega); have hci : (i : Int) < (l.length : Int) := (by omega); have hsi : i + 1 ≤ l.length := (by omega)
  have hco := ha c (List.mem_of_getElem? hget)
  have hbad : ¬ okDt l i → AV.bool false = .bool (decide (isDone l)) := fun h => bool_f fun g => h (g i hlt)
  have hb1 : ¬ okD c → ¬ okDt l i := fun g ⟨c', h1, h2, _⟩ => by rw [hget] at h1; cases h1; exact g h2
  have hend : ∀ L, WW Tryz.prog E0 Tryz.f61.ntmps H [] L (H.ext []) (fun _ _ _ => True) → True := fun _ _ => trivial
  simp only [go_sem, hci, hsi, hgo, hrow, hw, Dn.enc]
  refine ⟨fun g1 => ⟨hbad (hb1 fun e => absurd e.1.1 (by omega)), _, rfl⟩, fun g1 => ⟨fun g2 => ⟨hbad (hb1 fun e => absurd e.1.2.1 (by omega)), _, rfl⟩, fun g2 => ?_⟩⟩
  rcases i with _ | i
  ·simp only [go_sem, Int.ofNat_zero, Int.lt_irrefl]
   refine ⟨fun g3 => ⟨hbad (hb1 fun e => absurd e.1.2.2.1 (by omega)), _, rfl⟩, fun g3 => ⟨fun g4 => ⟨hbad (hb1 fun e => absurd e.1.2.2.2 (by omega)), _, rfl⟩, fun g4 => ?_⟩⟩
   refine CL.one (f134_ok (a := c.an) (hco.ext _)) ?_
   by_cases hans : isAns c.an
   ·have hne : ¬ ansT c.an = [] := fun e => ansT_nil.1 e hans
    simp only [go_sem, hne, hw]
    refine ⟨0 + 1, by show l.length - (0 + 1) < l.length - 0; omega, ⟨by omega, fun j hj => ?_⟩, _, [], rfl, Wk.of rfl (by decide) (by simp only [go_sem, hren, hrho, hw, wrap01]) (by simp only [go_sem])⟩
    obtain rfl : j = 0 := by omega
    exact ⟨c, hget, ⟨⟨by omega, by omega, by omega, by omega⟩, hans⟩, fun h => absurd h (by decide)⟩
   ·have hne : ansT c.an = [] := ansT_nil.2 hans
    simp only [go_sem, hne]
    exact ⟨hbad (hb1 fun e => hans e.2), _, rfl⟩
  ·have hpos : (0 : Int) < ((i + 1 : Nat) : Int) := by omega
   have hp : IntKind.i64.wrap (((i + 1 : Nat) : Int) - 1) = (i : Int) := by rw [wrap_i64 (by omega) (by omega)]; omega
   have hltj : i < l.length := by omega
   obtain ⟨kk2, r2, ex2, cap2, wr2, rows2, hv2, _, hgo2, hrow2⟩ := hA.at hok (j := i) (by rw [List.length_map]; exact hltj); simp only [List.length_map, List.getElem_map] at hv2 hrow2; have hgetd : l[i]? = some l[i] := List.getElem?_eq_getElem hltj; generalize l[i] = d at hrow2 hgetd; injection hv2 with e1 e2 e3 e4 e5 e6; have e2' : r2 = r := (by omega); subst e1 e2'; have hrr := hgo2 []; rw [hgo []] at hrr; cases hrr
   have hsj : i + 1 ≤ l.length := by omega
   have hi0 : (0 : Int) ≤ (i : Int) := by omega
   simp only [go_sem, hpos, hp, hi0, hsj, hgo, hrow2, Dn.enc]
   refine ⟨fun g5 => ⟨hbad ?_, _, rfl⟩, fun g5 => ?_⟩
   ·rintro ⟨c', h1, _, h2⟩
    obtain ⟨d', h3, h4⟩ := h2 (by omega)
    rw [hget] at h1; cases h1
    rw [Nat.add_sub_cancel, hgetd] at h3; cases h3
    omega
   refine ⟨fun g3 => ⟨hbad (hb1 fun e => absurd e.1.2.2.1 (by omega)), _, rfl⟩, fun g3 => ⟨fun g4 => ⟨hbad (hb1 fun e => absurd e.1.2.2.2 (by omega)), _, rfl⟩, fun g4 => ?_⟩⟩
   refine CL.one (f134_ok (a := c.an) (hco.ext _)) ?_
   by_cases hans : isAns c.an
   ·have hne : ¬ ansT c.an = [] := fun e => ansT_nil.1 e hans
    simp only [go_sem, hne, hw]
    refine ⟨i + 1 + 1, by show l.length - (i + 1 + 1) < l.length - (i + 1); omega, ⟨by omega, fun j hj => ?_⟩, _, [], rfl, Wk.of rfl (by decide) (by simp only [go_sem, hren, hrho, hw, wrap01]) (by simp only [go_sem])⟩
    rcases Nat.lt_or_ge j (i + 1) with h | h
    ·exact hno j h
    ·obtain rfl : j = i + 1 := by omega
     exact ⟨c, hget, ⟨⟨by omega, by omega, by omega, by omega⟩, hans⟩, fun _ => ⟨d, by rw [Nat.add_sub_cancel]; exact hgetd, by omega⟩⟩
   ·have hne : ansT c.an = [] := ansT_nil.2 hans
    simp only [go_sem, hne]
    exact ⟨hbad (hb1 fun e => hans e.2), _, rfl⟩
 ·have hci : ¬ (i : Int) < (l.length : Int) := by omega
  simp only [go_sem, hci]
  exact ⟨bool_t fun j hj => hno j (by omega), _, rfl⟩
def fewD (l : List Dn) : Prop := (∀ d ∈ l, (d.an.val.length : Int) ≤ 60 ∧ (d.an.rows.length : Int) ≤ 8) ∧ (l.length : Int) ≤ 10
instance (l : List Dn) : Decidable (fewD l) := inferInstanceAs (Decidable (_ ∧ _))
end Go.Proofs
namespace Go.Proofs
open Go Go.Ev
variable {H : Heap}
def sameA (a b : An) : Prop := a.code = b.code ∧ a.val = b.val ∧ a.ver = b.ver ∧ a.rows = b.rows
noncomputable instance (a b : An) : Decidable (sameA a b) := Classical.propDecidable _
theorem Rw.enc_one {a b : Rw} (h : a.enc = b.enc) : a = b := by
 simp [Rw.enc] at h
 exact Rw.enc_inj h
noncomputable def rwsOf (H : Heap) (v : AV) : Option (List Rw) := open Classical in if h : ∃ l : List Rw, Arr H 3 v (l.map Rw.enc) ∧ l.length ≤ 9223372036854775807 then some (Classical.choose h) else none
theorem rwsOf_eq {v : AV} {l : List Rw} (h : Arr H 3 v (l.map Rw.enc)) (hl : l.length ≤ 9223372036854775807) : rwsOf H v = some l := by
 unfold rwsOf
 have hex : ∃ l : List Rw, Arr H 3 v (l.map Rw.enc) ∧ l.length ≤ 9223372036854775807 := ⟨l, h, hl⟩
 rw [dif_pos hex]
 congr 1
 have := Arr.uniq (Classical.choose_spec hex).1 h (by decide)
 exact List.map_inj_right (fun _ _ => Rw.enc_one) |>.1 this
theorem rwsOf_spec {v : AV} {l : List Rw} (h : rwsOf H v = some l) : Arr H 3 v (l.map Rw.enc) ∧ l.length ≤ 9223372036854775807 := by
 unfold rwsOf at h
 split at h
 ·rename_i hex
  cases h
  exact Classical.choose_spec hex
 ·cases h
def sameDn (c d : Dn) : Prop := c.ses = d.ses ∧ c.id = d.id ∧ sameA c.an d.an
def sameD (l m : List Dn) : Prop := l.length = m.length ∧ ∀ (i : Nat) (c d : Dn), l[i]? = some c → m[i]? = some d → sameDn c d
noncomputable instance (l m : List Dn) : Decidable (sameD l m) := Classical.propDecidable _
def findD : List Dn → Int → Option Dn
 | [], _ => none
 | d :: l, s => if d.ses = s then some d else findD l s
theorem findD_first : ∀ {l : List Dn} {i : Nat} {c : Dn} {s : Int}, l[i]? = some c → c.ses = s → (∀ j d, j < i → l[j]? = some d → ¬ d.ses = s) → findD l s = some c
 | [], i, c, s, h, _, _ => by simp at h
 | d :: l, 0, c, s, h, hs, _ => by cases h; rw [findD, if_pos hs]
 | d :: l, i + 1, c, s, h, hs, hn => by rw [findD, if_neg (hn 0 d (by omega) rfl), findD_first (i := i) (by simpa using h) hs fun j e hj he => hn (j + 1) e (by omega) (by simpa using he)]
theorem findD_none : ∀ {l : List Dn} {s : Int}, (∀ d ∈ l, ¬ d.ses = s) → findD l s = none
 | [], _, _ => rfl
 | d :: l, s, h => by rw [findD, if_neg (h d (by simp)), findD_none fun c hc => h c (by simp [hc])]
theorem findD_mem : ∀ {l : List Dn} {s : Int} {d : Dn}, findD l s = some d → d ∈ l ∧ d.ses = s
 | [], _, _, h => by cases h
 | c :: l, s, d, h => by
  unfold findD at h
  split at h
  ·cases h; rename_i hk; exact ⟨by simp, hk⟩
  ·obtain ⟨h1, h2⟩ := findD_mem h; exact ⟨by simp [h1], h2⟩
def zeroA : An := ⟨0, [], 0, [], .nils⟩
def zeroD : Dn := ⟨0, 0, zeroA⟩
theorem zeroA_ok : zeroA.ok H := ⟨.inl ⟨rfl, rfl⟩, by decide⟩
def foundD (o : Option Dn) : Dn := o.getD zeroD
end Go.Proofs
namespace Go.Proofs
open Go Go.Ev
def risesD (l : List Dn) : Prop := ∀ (p q : Nat) (c d : Dn), p < q → l[p]? = some c → l[q]? = some d → c.ses < d.ses
def hasAtD (l : List Dn) (k : Int) (i : Nat) : Prop := ∃ c, l[i]? = some c ∧ c.ses = k
def lowAtD (l : List Dn) (k : Int) (i : Nat) : Prop := i ≤ l.length ∧ (∀ q c, q < i → l[q]? = some c → c.ses < k) ∧ ∀ q c, i ≤ q → l[q]? = some c → ¬ c.ses < k
abbrev upD (l : List Dn) : Prop := l.Pairwise fun c d => c.ses < d.ses
theorem upD_cons {c : Dn} {l : List Dn} : upD (c :: l) ↔ (∀ d ∈ l, c.ses < d.ses) ∧ upD l := List.pairwise_cons
theorem isDone_cons {c : Dn} {l : List Dn} : isDone (c :: l) ↔ okD c ∧ (∀ d, l[0]? = some d → c.ses < d.ses) ∧ isDone l := by
 constructor
 ·intro h
  obtain ⟨c', h0, h1, _⟩ := h 0 (by simp)
  cases h0
  refine ⟨h1, fun d hd => ?_, fun j hj => ?_⟩
  ·obtain ⟨e, g0, _, g2⟩ := h 1 (by have := (List.getElem?_eq_some_iff.1 hd).1; simp; omega)
   obtain ⟨c', g3, g4⟩ := g2 (by decide)
   rw [List.getElem?_cons_succ, hd] at g0; cases g0
   cases g3; exact g4
  ·obtain ⟨e, g0, g1, g2⟩ := h (j + 1) (by simp; omega)
   rw [List.getElem?_cons_succ] at g0
   refine ⟨e, g0, g1, fun h0 => ?_⟩
   obtain ⟨c', g3, g4⟩ := g2 (by omega)
   rw [show j + 1 - 1 = (j - 1) + 1 by omega, List.getElem?_cons_succ] at g3
   exact ⟨c', g3, g4⟩
 ·rintro ⟨h1, h2, h3⟩ j hj
  cases j with
  | zero => exact ⟨c, rfl, h1, fun h => absurd h (by decide)⟩
  | succ j =>
   obtain ⟨e, g0, g1, g2⟩ := h3 j (by simp at hj; omega)
   refine ⟨e, by rw [List.getElem?_cons_succ]; exact g0, g1, fun _ => ?_⟩
   cases j with
   | zero => exact ⟨c, rfl, h2 e g0⟩
   | succ j => obtain ⟨d, g3, g4⟩ := g2 (by omega); exact ⟨d, by simpa using g3, g4⟩
theorem done_iff : ∀ {l : List Dn}, isDone l ↔ (∀ c ∈ l, okD c) ∧ upD l
 | [] => ⟨fun _ => ⟨by simp, .nil⟩, fun _ j hj => by simp at hj⟩
 | c :: l => by
  rw [isDone_cons, done_iff (l := l), upD_cons]
  constructor
  ·rintro ⟨h1, h2, h3, h4⟩
   refine ⟨by simpa using ⟨h1, h3⟩, fun d hd => ?_, h4⟩
   cases l with
   | nil => simp at hd
   | cons e l =>
    have he := h2 e rfl
    rcases List.mem_cons.1 hd with rfl | hd
    ·exact he
    ·exact Int.lt_trans he ((upD_cons.1 h4).1 d hd)
  ·rintro ⟨h1, h2, h4⟩
   exact ⟨h1 c (by simp), fun d hd => h2 d (List.mem_of_getElem? hd), fun d hd => h1 d (by simp [hd]), h4⟩
theorem upD_rises {l : List Dn} (h : upD l) : risesD l := by
 intro p q c d hpq hc hd
 obtain ⟨hp, rfl⟩ := List.getElem?_eq_some_iff.1 hc
 obtain ⟨hq, rfl⟩ := List.getElem?_eq_some_iff.1 hd
 exact List.pairwise_iff_getElem.1 h p q hp hq hpq
noncomputable def putGD (f : Dn → Dn → Dn) : List Dn → Dn → List Dn
 | [], x => [x]
 | d :: l, x => if d.ses < x.ses then d :: putGD f l x else if d.ses = x.ses then f d x :: l else x :: d :: l
theorem lowAtD_tail {d : Dn} {l : List Dn} {k : Int} {i : Nat} (h : lowAtD (d :: l) k (i + 1)) : d.ses < k ∧ lowAtD l k i :=
 ⟨h.2.1 0 d (by omega) rfl, by have := h.1; simp at this; omega, fun q c hq hc => h.2.1 (q + 1) c (by omega) (by simpa using hc), fun q c hq hc => h.2.2 (q + 1) c (by omega) (by simpa using hc)⟩
theorem putGD_has {f : Dn → Dn → Dn} {x : Dn} : ∀ {l : List Dn} {i : Nat} {d : Dn}, lowAtD l x.ses i → l[i]? = some d → d.ses = x.ses → putGD f l x = l.set i (f d x)
 | [], i, d, _, h, _ => by simp at h
 | e :: l, 0, d, h, hd, hk => by
  cases hd
  rw [putGD, if_neg (by rw [hk]; exact Int.lt_irrefl _), if_pos hk]; rfl
 | e :: l, i + 1, d, h, hd, hk => by
  obtain ⟨h1, h2⟩ := lowAtD_tail h
  rw [putGD, if_pos h1, putGD_has h2 (by simpa using hd) hk]; rfl
theorem putGD_not {f : Dn → Dn → Dn} {x : Dn} : ∀ {l : List Dn} {i : Nat}, lowAtD l x.ses i → ¬ hasAtD l x.ses i → putGD f l x = l.take i ++ x :: l.drop i
 | [], i, h, _ => by
  obtain rfl : i = 0 := by have := h.1; simp at this; exact this
  rfl
 | e :: l, 0, h, hk => by
  have h1 : ¬ e.ses < x.ses := h.2.2 0 e (Nat.le_refl _) rfl
  rw [putGD, if_neg h1, if_neg (fun g => hk ⟨e, rfl, g⟩)]; rfl
 | e :: l, i + 1, h, hk => by
  obtain ⟨h1, h2⟩ := lowAtD_tail h
  rw [putGD, if_pos h1, putGD_not h2 (fun ⟨c, hc, g⟩ => hk ⟨c, by simpa using hc, g⟩)]; rfl
theorem mem_putGD {f : Dn → Dn → Dn} {x c : Dn} : ∀ {l : List Dn}, c ∈ putGD f l x → c = x ∨ c ∈ l ∨ ∃ d ∈ l, d.ses = x.ses ∧ c = f d x
 | [], h => by simp [putGD] at h; exact .inl h
 | d :: l, h => by
  unfold putGD at h
  split at h
  ·rcases List.mem_cons.1 h with rfl | h
   ·exact .inr (.inl (by simp))
   ·rcases mem_putGD h with h | h | ⟨e, h1, h2⟩
    ·exact .inl h
    ·exact .inr (.inl (by simp [h]))
    ·exact .inr (.inr ⟨e, by simp [h1], h2⟩)
  ·split at h
   ·rename_i hk
    rcases List.mem_cons.1 h with rfl | h
    ·exact .inr (.inr ⟨d, by simp, hk, rfl⟩)
    ·exact .inr (.inl (by simp [h]))
   ·rcases List.mem_cons.1 h with rfl | h
    ·exact .inl rfl
    ·exact .inr (.inl h)
theorem putGD_up {f : Dn → Dn → Dn} (hf : ∀ d x, d.ses = x.ses → (f d x).ses = x.ses) {x : Dn} : ∀ {l : List Dn}, upD l → upD (putGD f l x)
 | [], _ => List.pairwise_singleton _ _
 | d :: l, h => by
  obtain ⟨h1, h2⟩ := upD_cons.1 h
  unfold putGD
  split
  ·rename_i hd
   refine upD_cons.2 ⟨fun c hc => ?_, putGD_up hf h2⟩
   rcases mem_putGD hc with rfl | hc | ⟨e, he, hk, rfl⟩
   ·exact hd
   ·exact h1 c hc
   ·rw [hf e x hk, ← hk]; exact h1 e he
  ·rename_i hd
   split
   ·rename_i hk
    exact upD_cons.2 ⟨fun c hc => by rw [hf d x hk, ← hk]; exact h1 c hc, h2⟩
   ·rename_i hk
    have hx : x.ses < d.ses := by
     rcases Int.lt_trichotomy d.ses x.ses with e | e | e
     ·exact absurd e hd
     ·exact absurd e hk
     ·exact e
    refine upD_cons.2 ⟨fun c hc => ?_, h⟩
    rcases List.mem_cons.1 hc with rfl | hc
    ·exact hx
    ·exact Int.lt_trans hx (h1 c hc)
theorem putGD_len {f : Dn → Dn → Dn} {x : Dn} : ∀ {l : List Dn}, (putGD f l x).length ≤ l.length + 1
 | [] => by simp [putGD]
 | d :: l => by
  unfold putGD
  split
  ·have := putGD_len (f := f) (x := x) (l := l)
   simp only [List.length_cons]; omega
  ·split <;> simp
theorem findD_at : ∀ {l : List Dn} {c : Dn}, upD l → c ∈ l → findD l c.ses = some c
 | d :: l, c, h, hc => by
  obtain ⟨h1, h2⟩ := upD_cons.1 h
  rcases List.mem_cons.1 hc with rfl | hc
  ·rw [findD, if_pos rfl]
  ·rw [findD, if_neg (fun e => by have := h1 c hc; rw [e] at this; exact Int.lt_irrefl _ this), findD_at h2 hc]
end Go.Proofs
namespace Go.Proofs
open Go Go.Ev
variable {H : Heap}
theorem clo57 : CloFn Tryz.prog 116 6 72 [.int .i64 0, .int .i64 0, .int .i64 0, .str [], .int .i64 0, .nils] := ⟨⟨Tryz.f116, Tryz.func116, by kernel_rfl, by kernel_rfl⟩, rfl, by decide⟩
theorem ins58 : InsFn Tryz.prog 201 6 72 [.int .i64 0, .int .i64 0, .int .i64 0, .str [], .int .i64 0, .nils] := ⟨⟨Tryz.f201, 241, 242, Tryz.func201, by kernel_rfl, by kernel_rfl, by kernel_rfl, by kernel_rfl⟩, rfl, by decide⟩
noncomputable def lateD (x d : Dn) : Dn := if x.id ≤ d.id then d else x
noncomputable def withD (l : List Dn) (d : Dn) : List Dn := putGD lateD l d
theorem lateD_ses (x d : Dn) (h : x.ses = d.ses) : (lateD x d).ses = d.ses := by unfold lateD; split <;> simp_all
theorem mem_withD {l : List Dn} {d c : Dn} (h : c ∈ withD l d) : c = d ∨ c ∈ l := by
 rcases mem_putGD h with h | h | ⟨x, h1, h2, rfl⟩
 ·exact .inl h
 ·exact .inr h
 ·unfold lateD
  split
  ·exact .inl rfl
  ·exact .inr h1
theorem withD_ok {l : List Dn} {d : Dn} (h : allOk H l) (hd : d.an.ok H) : allOk H (withD l d) := fun c hc => by
 rcases mem_withD hc with rfl | hc
 ·exact hd
 ·exact h c hc
theorem withD_len {l : List Dn} {d : Dn} : (withD l d).length ≤ l.length + 1 := putGD_len
theorem f149_ok {v : AV} {l : List Dn} {d : Dn} (hA : Arr H 6 v (l.map Dn.enc)) (ha : allOk H l) (hd : d.an.ok H) (hup : upD l) (hl : l.length < 1000000) :
  FnOk Tryz.prog 149 [v, .agg d.enc] H fun r G => r = outV H.nx 6 (withD l d).length ∧ G = H.ext [outB 6 ((withD l d).map Dn.enc)] := by
 refine FnOk.assume fun hok => ?_
 refine FnOk.dropO' (List.length_map ..) (withD_ok ha hd).rens ?_
 refine FnOk.of_WW Tryz.func149 rfl C149ok R149ok E0 good_E0 ?_
 have hrens := ha.rens
 have hdren := hd.ren
 simp only [go_sem, C149, Dn.enc]
 refine CL.of (clone_z' clo57 (hA.ext _) (by rw [List.length_map]; omega) (ha.ext _).rens) ?_
 rintro _ _ ⟨z, rfl, rfl⟩
 simp only [go_sem, List.length_map]
 have hris := upD_rises hup
 refine LL.st good_E0 (fun i : Nat => l.length - i) (fun i => i ≤ l.length ∧ ∀ q c, q < i → l[q]? = some c → c.ses < d.ses)
  (fun i => [((.o (.o .z)), .ptr (H.key 0) 0), ((.o (.i .z)), zV z (H.key 1) 6 l.length), ((.i (.i .z)), .int .i64 i)]) (fun i => [.row true 6 [[.int .i64 d.ses, .int .i64 d.id, .int .i64 d.an.code, .str d.an.val, .int .i64 d.an.ver, d.an.rv]], zB z 6 (l.map Dn.enc)]) ?_ 0 (σ := [0, 1]) (Wk.of rfl (by decide) (by simp only [go_sem, zV_ren]) (by simp only [go_sem, ↓outB_ren', ↓zB_ren, hrens, hdren, implies_true])) ⟨Nat.zero_le _, fun q c h => absurd h (Nat.not_lt_zero _)⟩
 rintro i ⟨hi, hlo⟩
 by_cases hlt : i < l.length
 ·have hget : l[i]? = some l[i] := List.getElem?_eq_getElem hlt
  generalize l[i] = c at hget
  have hpos : 0 < l.length := by omega
  have hzB := zB_pos (z := z) (esz := 6) (xs := l.map Dn.enc) (by rw [List.length_map]; exact hpos)
  have hw := wrap_succ (n := i) (by omega)
  have hci : (i : Int) < (l.length : Int) := by omega
  have hne : ¬ (i : Int) = (l.length : Int) := by omega
  have hsi : i + 1 ≤ l.length := by omega
  simp only [go_sem, zV_pos hpos, hzB, hci, hsi, hne, hget, List.getElem?_map, Option.map_some, Dn.enc]
  refine ⟨fun g => ?_, fun g => ?_⟩
  ·have hz : AV.slice (H.key 1) 0 l.length 6 false l.length = zV z (H.key 1) 6 l.length := by rw [zV_pos hpos]
   rw [hz, ← hzB]
   refine ⟨i + 1, by show l.length - (i + 1) < l.length - i; omega, ⟨by omega, fun q x hq hx => ?_⟩, _, [0, 1], rfl, Wk.of rfl (by decide) (by simp only [go_sem, zV_ren, hw]) (by simp only [go_sem, ↓outB_ren', ↓zB_ren, hrens, hdren, implies_true])⟩
   rcases Nat.lt_or_ge q i with h | h
   ·exact hlo q x h hx
   ·obtain rfl : q = i := by omega
    rw [hget] at hx; cases hx; exact g
  ·have hlow : lowAtD l d.ses i := ⟨hi, hlo, fun q x hq hx => by
    rcases Nat.lt_or_ge i q with h | h
    ·have := hris i q c x h hget hx; omega
    ·obtain rfl : q = i := by omega
     rw [hget] at hx; cases hx; exact g⟩
   refine ⟨fun g2 => ?_, fun g2 => ?_⟩
   ·have hput : withD l d = l.take i ++ d :: l.drop i := putGD_not hlow (fun ⟨x, h1, h2⟩ => by rw [hget] at h1; cases h1; exact g2 h2)
    have hz : AV.slice (H.key 1) 0 l.length 6 false l.length = zV z (H.key 1) 6 l.length := by rw [zV_pos hpos]
    rw [hz, ← hzB]
    refine CL.of (insert_z ins58 (i := 1) (j := 2) (xs := l.map Dn.enc) (x := [.int .i64 d.ses, .int .i64 d.id, .int .i64 d.an.code, .str d.an.val, .int .i64 d.an.ver, d.an.rv]) (by decide) rfl rfl (List.length_map ..) hlow.1 (by omega) (by omega)) ?_
    rintro _ _ ⟨b, rfl, rfl⟩
    simp only [go_sem]
    rw [hput]
    refine ⟨_, 3, ?_, rfl, fun _ => ?_⟩
    ·simp only [List.length_append, List.length_cons, List.length_take, List.length_drop]
     rw [show min i l.length + (l.length - i + 1) = l.length + 1 by omega]; rfl
    ·simp only [List.map_append, List.map_cons, List.map_take, List.map_drop]; rfl
   ·have hse : c.ses = d.ses := Classical.not_not.1 g2
    have hput : withD l d = l.set i (lateD c d) := putGD_has hlow hget hse
    rw [hput]
    refine ⟨fun g3 => ?_, fun g3 => ?_⟩
    ·have hl3 : lateD c d = d := if_pos g3
     rw [hl3]
     exact ⟨_, 1, by rw [List.length_set, outV_pos hpos], rfl, fun _ => by rw [outB_pos (by rw [List.length_map, List.length_set]; exact hpos), List.map_set]; rfl⟩
    ·have hl3 : lateD c d = c := if_neg g3
     have hs : l.set i c = l := by
      refine List.ext_getElem? fun q => ?_
      rw [List.getElem?_set]
      split
      ·rename_i hq; subst hq; rw [hget]
      ·rfl
     rw [hl3, hs]
     exact ⟨_, 1, by rw [outV_pos hpos], rfl, fun _ => by rw [outB_pos (by rw [List.length_map]; exact hpos)]; rfl⟩
 ·have hil : i = l.length := by omega
  subst hil
  have hci : ¬ (l.length : Int) < (l.length : Int) := by omega
  have hlow : lowAtD l d.ses l.length := ⟨hi, hlo, fun q x hq hx => by have := (List.getElem?_eq_some_iff.1 hx).1; omega⟩
  have hput : withD l d = l.take l.length ++ d :: l.drop l.length := putGD_not hlow (fun ⟨x, h1, h2⟩ => by have := (List.getElem?_eq_some_iff.1 h1).1; omega)
  simp only [go_sem, hci]
  refine CL.of (insert_z ins58 (i := 1) (j := 2) (xs := l.map Dn.enc) (x := [.int .i64 d.ses, .int .i64 d.id, .int .i64 d.an.code, .str d.an.val, .int .i64 d.an.ver, d.an.rv]) (by decide) rfl rfl (List.length_map ..) hlow.1 (by omega) (by omega)) ?_
  rintro _ _ ⟨b, rfl, rfl⟩
  simp only [go_sem]
  rw [hput]
  refine ⟨_, 3, ?_, rfl, fun _ => ?_⟩
  ·simp only [List.length_append, List.length_cons, List.length_take, List.length_drop]
   rw [show min l.length l.length + (l.length - l.length + 1) = l.length + 1 by omega]; rfl
  ·simp only [List.map_append, List.map_cons, List.map_take, List.map_drop]; rfl
end Go.Proofs
namespace Go.Proofs
open Go Go.Ev
variable {H : Heap}
theorem withD_up {l : List Dn} {d : Dn} (h : upD l) : upD (withD l d) := putGD_up lateD_ses h
end Go.Proofs
namespace Go.Proofs
open Go Go.Ev
variable {H : Heap}
theorem agg_z0 {β : Type} (z : Bool) (k : K) (e n : Nat) (f : β) (c : List AV → β) : asAggC (zV z k e n) f c = f := by
 cases n with
 | zero => cases z <;> rfl
 | succ n => rfl
theorem one_z0 (z : Bool) (k : K) (e n : Nat) : AV.one (zV z k e n) = true := by
 cases n with
 | zero => cases z <;> rfl
 | succ n => rfl
theorem clo55 : CloFn Tryz.prog 117 3 40 [.str [], .str [], .int .i64 0] := ⟨⟨Tryz.f117, Tryz.func117, by kernel_rfl, by kernel_rfl⟩, rfl, by decide⟩
def stands (l : List Dn) (s id : Int) : An × Int := match findD l s with
 | none => (zeroA, 0)
 | some d => if d.id < id then (zeroA, 0) else if id = d.id then (d.an, 1) else (zeroA, 2)
def ansV (z : Bool) (k : K) (p : An × Int) : AV := .tup [.agg [.int .i64 p.1.code, .str p.1.val, .int .i64 p.1.ver, zV z k 3 p.1.rows.length], .int .i64 p.2]
theorem ansV_ren (ρ : K → K) (z : Bool) (k : K) (p : An × Int) : AV.ren ρ (ansV z k p) = ansV z (ρ k) p := by simp only [ansV, AV.ren, AV.rens, zV_ren]
theorem FnOk.dropA {f : FuncId} {args : List AV} {p : An × Int}
  (h : FnOk Tryz.prog f args H fun v G => ∃ z l i, v = ansV z (H.key i) p ∧ G = H.ext l ∧ ((zB z 3 (p.1.rows.map Rw.enc)).live → l[i]? = some (zB z 3 (p.1.rows.map Rw.enc)))) :
  FnOk Tryz.prog f args H fun v G => ∃ z, v = ansV z H.nx p ∧ G = H.ext [zB z 3 (p.1.rows.map Rw.enc)] := by
 refine h.wk ?_
 rintro v G ⟨z, l, i, rfl, rfl, hl⟩
 refine ⟨l, [zB z 3 (p.1.rows.map Rw.enc)], [i], ansV z H.nx p, rfl, ?_, rfl, by simp, ?_, z, rfl, rfl⟩
 ·rw [ansV_ren, ← Heap.key_zero, rho_key rfl]
 ·intro q hq
  simp only [List.zip_cons_cons, List.zip_nil_left, List.mem_singleton] at hq
  subst hq
  intro hlive
  show l[i]? = some (Blk.ren _ (zB z 3 (p.1.rows.map Rw.enc)))
  rw [zB_ren _ (Rw.map_rens _ _), hl hlive]
theorem stands_none {l : List Dn} {s id : Int} (h : findD l s = none) : stands l s id = (zeroA, 0) := by rw [stands, h]
theorem stands_some {l : List Dn} {s id : Int} {d : Dn} (h : findD l s = some d) : stands l s id = if d.id < id then (zeroA, 0) else if id = d.id then (d.an, 1) else (zeroA, 2) := by rw [stands, h]
theorem f147_ok {v : AV} {l : List Dn} (hA : Arr H 6 v (l.map Dn.enc)) (ha : allOk H l) (hl : l.length < 9223372036854775807) (hup : upD l) (hr : ∀ d ∈ l, (d.an.rows.length : Int) ≤ 16) (s id : Int) :
  FnOk Tryz.prog 147 [v, .int .i64 s, .int .i64 id] H fun r G => ∃ z, r = ansV z H.nx (stands l s id) ∧ G = H.ext [zB z 3 ((stands l s id).1.rows.map Rw.enc)] := by
 refine FnOk.assume fun hok => ?_
 refine FnOk.dropA ?_
 refine FnOk.of_WW Tryz.func147 rfl C147ok R147ok E0 good_E0 ?_
 have hlen := fun G => hA.len G; simp only [List.length_map] at hlen; have hren := hA.ren
 simp only [go_sem, C147, hlen]
 refine LL.st good_E0 (fun i : Nat => l.length - i) (fun i => i ≤ l.length ∧ ∀ j d, j < i → l[j]? = some d → ¬ (d.ses = s ∧ id ≤ d.id))
  (fun i => [((.o .z), .int .i64 s), ((.i .z), .int .i64 id), ((.i (.i .z)), .ptr (H.key 0) 0), ((.i (.i (.o .z))), v), ((.o (.o (.i .z))), .int .i64 l.length), ((.i (.o (.i .z))), .int .i64 i)])
  (fun i => [.row true 4 [[.int .i64 0, .str [], .int .i64 0, .nils]]]) ?_ 0 (σ := [0]) (Wk.of rfl (by decide) (by simp only [go_sem, hren]) (by simp only [go_sem])) ⟨Nat.zero_le _, fun j d h => absurd h (Nat.not_lt_zero _)⟩
 rintro i ⟨hi, hno⟩
 by_cases hlt : i < l.length
 ·obtain ⟨kk, r, ex', cap', wr, rows, hv, hrho, hgo, hrow⟩ := hA.at hok (j := i) (by rw [List.length_map]; exact hlt); simp only [List.length_map, List.getElem_map] at hv hrow; cases hv; have hget : l[i]? = some l[i] := List.getElem?_eq_getElem hlt; generalize l[i] = c at hrow hget; have hw := wrap_succ (n := i) (by omega); have hci : (i : Int) < (l.length : Int) := (by omega); have hsi : i + 1 ≤ l.length := (by omega)
  have hco := ha c (List.mem_of_getElem? hget)
  simp only [go_sem, hci, hsi, hgo, hrow, hw, Dn.enc]
  have hfind : c.ses = s → findD l s = some c := fun h => by subst h; exact findD_at hup (List.mem_of_getElem? hget)
  have hnext : ¬ (c.ses = s ∧ id ≤ c.id) → ∀ j d, j < i + 1 → l[j]? = some d → ¬ (d.ses = s ∧ id ≤ d.id) := fun hc j d hj hd => by
   rcases Nat.lt_or_ge j i with h | h
   ·exact hno j d h hd
   ·obtain rfl : j = i := by omega
    rw [hget] at hd; cases hd; exact hc
  refine ⟨fun g => ?_, fun g => ⟨fun g2 => ?_, fun g2 => ⟨fun g3 => ?_, fun g3 => ?_⟩⟩⟩
  ·exact ⟨i + 1, by show l.length - (i + 1) < l.length - i; omega, ⟨by omega, hnext fun h => g h.1⟩, _, [0], rfl, Wk.of rfl (by decide) (by simp only [go_sem, hren, hrho, hw]) (by simp only [go_sem])⟩
  ·exact ⟨i + 1, by show l.length - (i + 1) < l.length - i; omega, ⟨by omega, hnext fun h => by omega⟩, _, [0], rfl, Wk.of rfl (by decide) (by simp only [go_sem, hren, hrho, hw]) (by simp only [go_sem])⟩
  ·have hst : stands l s id = (c.an, 1) := by rw [stands_some (hfind (Classical.not_not.1 g)), if_neg g2, if_pos g3]
   have hrr := hr c (List.mem_of_getElem? hget)
   refine CL.of (clone_z' clo55 (hco.1.ext _) (by rw [List.length_map]; omega) (fun _ _ => Rw.map_rens _ _)) ?_
   rintro _ _ ⟨z, rfl, rfl⟩
   simp only [go_sem, agg_z0, one_z0]
   exact ⟨z, _, 2, by rw [hst]; rfl, rfl, fun _ => by rw [hst]; rfl⟩
  ·have hst : stands l s id = (zeroA, 2) := by rw [stands_some (hfind (Classical.not_not.1 g)), if_neg g2, if_neg g3]
   rw [hst]
   exact ⟨true, _, 0, rfl, rfl, fun h => h.elim⟩
 ·have hci : ¬ (i : Int) < (l.length : Int) := by omega
  simp only [go_sem, hci]
  have hst : stands l s id = (zeroA, 0) := by
   cases hf : findD l s with
   | none => rw [stands_none hf]
   | some d =>
    obtain ⟨h1, h2⟩ := findD_mem hf
    obtain ⟨j, hj⟩ := List.mem_iff_getElem?.1 h1
    have := hno j d (by have := (List.getElem?_eq_some_iff.1 hj).1; omega) hj
    rw [stands_some hf, if_pos (by omega)]
  rw [hst]
  exact ⟨true, _, 0, rfl, rfl, fun h => h.elim⟩
end Go.Proofs
namespace Go.Proofs
open Go Go.Ev
variable {H : Heap}
def bare (d : Dn) : Dn := ⟨d.ses, 0, zeroA⟩
theorem sameD_self (l : List Dn) : sameD l l := ⟨rfl, fun i c d h1 h2 => by rw [h1] at h2; cases h2; exact ⟨rfl, rfl, rfl, rfl, rfl, rfl⟩⟩
end Go.Proofs
