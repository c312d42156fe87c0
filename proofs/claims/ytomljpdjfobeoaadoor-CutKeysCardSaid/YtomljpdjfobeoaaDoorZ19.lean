/- slices.Concat of two, walked. -/
import Derived.Test.YtomljpdjfobeoaaDoorZ18
set_option linter.all false
set_option linter.all false
set_option maxRecDepth 100000
namespace Go.Proofs
open Go Go.Ev
variable {H : Heap}

theorem appQ_fit {L : List Blk} {i m n esz bytes : Nat} {rows : List (List AV)} {v : AV} {ys : List (List AV)} (hpos : 0 < esz) (hok : (H.ext L).ok) (hi : L[i]? = some (.row true esz rows)) (hn : rows.length = n) (hm : m + ys.length ≤ n) (hv : Arr (H.ext L) esz v ys) :
    appQ esz bytes (some (.slice (H.key i) 0 m esz false n)) (some v) (H.ext L) = .val (.slice (H.key i) 0 (m + ys.length) esz false n) (H.ext (L.set i (.row true esz (rows.take m ++ ys ++ rows.drop (m + ys.length))))) := by
  have hil := (List.getElem?_eq_some_iff.1 hi).1
  have h0 : ys.length = 0 → R1.val (.slice (H.key i) 0 m esz false n) (H.ext L) = .val (.slice (H.key i) 0 (m + ys.length) esz false n) (H.ext (L.set i (.row true esz (rows.take m ++ ys ++ rows.drop (m + ys.length))))) := fun h => by
    obtain rfl := List.length_eq_zero_iff.1 h
    have : L.set i (.row true esz rows) = L := by
      refine List.ext_getElem? fun q => ?_
      rw [List.getElem?_set]
      split
      · rename_i hq; subst hq; first | exact hi.symm | (rw [if_pos hil]; exact hi.symm)
      · rfl
    rw [List.length_nil, Nat.add_zero, List.append_nil, List.take_append_drop, this]
  rcases hv with ⟨rfl, rfl⟩ | ⟨k, off, ex, cap, rfl, hk, h⟩
  · exact (show appQ esz bytes (some (.slice (H.key i) 0 m esz false n)) (some .nils) (H.ext L) = R1.val (.slice (H.key i) 0 m esz false n) (H.ext L) from rfl).trans (h0 rfl)
  · rcases Nat.eq_zero_or_pos ys.length with hz | hz
    · refine Eq.trans ?_ (h0 hz)
      show appR esz bytes (.c (.slice (H.key i) 0 m esz false n)) (.c (.slice k off ys.length esz ex cap)) .lf (H.ext L) = _
      rw [hz]; rfl
    · obtain ⟨r, wr, rows', rfl, hg, hrow⟩ := h (by intro e; rw [e] at hz; simp at hz)
      have e1 : r * esz % esz = 0 := Nat.mul_mod_left r esz
      have e2 : r * esz / esz = r := Nat.mul_div_cancel r hpos
      have hlen := congrArg List.length hrow
      rw [List.length_take, List.length_drop] at hlen
      have e3 : ys.length ≤ (rows'.drop r).length := by rw [List.length_drop]; omega
      have e4 : ¬ ys.length = 0 := by omega
      have e5 : m ≤ rows.length := by omega
      have e6 : m + ys.length ≤ rows.length := by omega
      have hgi : (H.ext L).get (H.key i) = some (.row true esz rows) := by rw [Heap.get_ext_key _ _ _ hil, hi]
      subst hn
      show appR esz bytes (.c (.slice (H.key i) 0 m esz false rows.length)) (.c (.slice k (r * esz) ys.length esz ex cap)) .lf (H.ext L) = _
      simp only [go_sem, hg, hgi, e1, e2, e3, e4, e5, e6, hrow, Nat.zero_mod, Nat.zero_div, Nat.zero_add, hm]
      rw [Heap.setC_ext _ _ _ _ _ hil]
theorem f76_ok {n : Nat} (hn : n < 100000) : FnOk Tryd.prog 76 [.nils, .int .i64 (n : Int)] H fun r G => r = (if n = 0 then .nils else .slice H.nx 0 0 4 false n) ∧ G = H.ext [if n = 0 then .dead else .row true 4 (List.replicate n [.str [], .int .i64 0, .str [], .bool false])] := by
  by_cases h0 : n = 0
  · subst h0
    refine FnOk.wk (Q := fun r G => r = .nils ∧ ∃ l, G = H.ext l) ?_ ?_
    · refine FnOk.of_WW Tryd.func76 rfl C76ok R76ok E0 good_E0 ?_
      have hz : ¬ (0 : Int) < IntKind.i64.wrap (0 - IntKind.i64.wrap (0 - 0)) := by decide
      simp only [go_sem, C76, hz]
      exact ⟨_, rfl⟩
    · rintro v G ⟨rfl, l, rfl⟩
      exact ⟨l, [.dead], [0], .nils, rfl, (by rw [AV.ren]), rfl, by decide, by simp [Blk.live], rfl, rfl⟩
  · rw [if_neg h0, if_neg h0]
    refine FnOk.of_WW Tryd.func76 rfl C76ok R76ok E0 good_E0 ?_
    have h1 : ¬ (n : Int) < 0 := by omega
    have h2 : (0 : Int) < (n : Int) := by omega
    have hw : IntKind.i64.wrap ((n : Int) - IntKind.i64.wrap (0 - 0)) = (n : Int) := by
      rw [show IntKind.i64.wrap (0 - 0) = 0 from rfl, wrap_i64 (by omega) (by omega)]; omega
    have hrec : ∀ (f g : Nat → R1), Int.rec (motive := fun _ => R1) f g ((n : Nat) : Int) = f n := fun _ _ => rfl
    have hb : (2 * n + 192) * 48 ≤ 281474976710656 := by omega
    simp only [go_sem, C76, h0, h1, h2, hw, hrec, hb]
    exact ⟨⟨by omega, Nat.le_refl n⟩, by rw [Heap.key_zero, Nat.sub_zero]⟩
theorem f77_ok {n : Nat} (hn : n < 100000) : FnOk Tryd.prog 77 [.nils, .int .i64 (n : Int)] H fun r G => r = (if n = 0 then .nils else .slice H.nx 0 0 5 false n) ∧ G = H.ext [if n = 0 then .dead else .row true 5 (List.replicate n [.str [], .str [], .int .i64 0, .bool false, .int .i64 0])] := by
  by_cases h0 : n = 0
  · subst h0
    refine FnOk.wk (Q := fun r G => r = .nils ∧ ∃ l, G = H.ext l) ?_ ?_
    · refine FnOk.of_WW Tryd.func77 rfl C77ok R77ok E0 good_E0 ?_
      have hz : ¬ (0 : Int) < IntKind.i64.wrap (0 - IntKind.i64.wrap (0 - 0)) := by decide
      simp only [go_sem, C77, hz]
      exact ⟨_, rfl⟩
    · rintro v G ⟨rfl, l, rfl⟩
      exact ⟨l, [.dead], [0], .nils, rfl, (by rw [AV.ren]), rfl, by decide, by simp [Blk.live], rfl, rfl⟩
  · rw [if_neg h0, if_neg h0]
    refine FnOk.of_WW Tryd.func77 rfl C77ok R77ok E0 good_E0 ?_
    have h1 : ¬ (n : Int) < 0 := by omega
    have h2 : (0 : Int) < (n : Int) := by omega
    have hw : IntKind.i64.wrap ((n : Int) - IntKind.i64.wrap (0 - 0)) = (n : Int) := by
      rw [show IntKind.i64.wrap (0 - 0) = 0 from rfl, wrap_i64 (by omega) (by omega)]; omega
    have hrec : ∀ (f g : Nat → R1), Int.rec (motive := fun _ => R1) f g ((n : Nat) : Int) = f n := fun _ _ => rfl
    have hb : (2 * n + 192) * 56 ≤ 281474976710656 := by omega
    simp only [go_sem, C77, h0, h1, h2, hw, hrec, hb]
    exact ⟨⟨by omega, Nat.le_refl n⟩, by rw [Heap.key_zero, Nat.sub_zero]⟩
theorem appQ_none {esz bytes : Nat} {v : AV} {G : Heap} (hv : Arr G esz v []) : appQ esz bytes (some .nils) (some v) G = .val .nils G := by
  rcases hv with ⟨rfl, _⟩ | ⟨k, off, ex, cap, rfl, _, _⟩
  · rfl
  · rfl
theorem read_two (u v : AV) (f : R1) (c : List AV → R1) : readC f 1 [[u], [v]] 1 1 c = c [v] := (readC_at0 f 1 [[u], [v]] 1 1 c (by decide) (by decide)).trans rfl
theorem f51_ok {k : K} {wr ex : Bool} {cap : Nat} {u v : AV} {xs ys : List Evn} (hk : H.get k = some (.row wr 1 [[u], [v]])) (hkk : k.toNat < H.nx.toNat) (hA : Arr H 4 u (xs.map Evn.enc)) (hB : Arr H 4 v (ys.map Evn.enc)) (hx : xs.length < 10000) (hy : ys.length < 10000) :
    FnOk Tryd.prog 51 [.slice k 0 2 1 ex cap] H fun r G => r = outV H.nx 4 (xs ++ ys).length ∧ G = H.ext [outB 4 ((xs ++ ys).map Evn.enc)] := by
  obtain ⟨zs, hz⟩ : ∃ zs, zs = xs ++ ys := ⟨_, rfl⟩
  rw [← hz]
  have hzl : zs.length = xs.length + ys.length := by rw [hz, List.length_append]
  refine FnOk.assume fun hok => ?_
  refine FnOk.dropO (List.length_map ..) (Evn.map_rens · _) ?_
  refine FnOk.of_WW Tryd.func51 rfl C51ok R51ok E0 good_E0 ?_
  have hgo := Heap.get_ext_old hok hk
  have hl1 := fun G => hA.len G
  have hl2 := fun G => hB.len G
  simp only [List.length_map] at hl1 hl2
  have hrk : ∀ top σ, rho H top σ k = k := fun top σ => rho_old hkk
  simp only [go_sem, C51]
  refine LL.st good_E0 (fun s : Nat × Nat => 2 - s.1) (fun s => s = (0, 0) ∨ s = (1, xs.length) ∨ s = (2, xs.length + ys.length))
    (fun s => [(.z, .slice k 0 2 1 ex cap), ((.o (.o .z)), .int .i64 s.2), ((.o (.i (.o .z))), .slice k 0 2 1 ex cap), ((.i (.i (.o .z))), .int .i64 2), ((.o (.o (.i .z))), .int .i64 s.1)]) (fun s => []) ?_ (0, 0) (σ := []) (Wk.of rfl (by decide) (by simp only [go_sem, hrk]; first | done | exact ⟨rfl, rfl⟩) (by simp only [go_sem])) (.inl rfl)
  have hw0 : IntKind.i64.wrap (0 + (xs.length : Int)) = (xs.length : Int) := by rw [wrap_i64 (by omega) (by omega)]; omega
  have hw1 : IntKind.i64.wrap ((xs.length : Int) + (ys.length : Int)) = ((xs.length + ys.length : Nat) : Int) := by rw [wrap_i64 (by omega) (by omega)]; omega
  have hn0 : ¬ (xs.length : Int) < 0 := by omega
  have hn1 : ¬ ((xs.length + ys.length : Nat) : Int) < 0 := by omega
  have hs1 : IntKind.i64.wrap (0 + 1) = 1 := rfl
  have hs2 : IntKind.i64.wrap (1 + 1) = 2 := rfl
  rintro s (rfl | rfl | rfl)
  · simp only [go_sem, C51L0, hgo, hl1, hw0, hn0]
    exact ⟨(1, xs.length), by show 2 - 1 < 2 - 0; omega, .inr (.inl rfl), _, [], rfl, Wk.of rfl (by decide) (by simp only [go_sem, hrk, hs1]; first | done | rfl) (by simp only [go_sem])⟩
  · simp only [go_sem, C51L0, hgo, hl2, hw1, hn1, read_two]
    exact ⟨(2, xs.length + ys.length), by show 2 - 2 < 2 - 1; omega, .inr (.inr rfl), _, [], rfl, Wk.of rfl (by decide) (by simp only [go_sem, hrk, hs2]; first | done | rfl) (by simp only [go_sem])⟩
  · simp only [go_sem, C51L0]
    refine CL.of (f76_ok (n := xs.length + ys.length) (by omega)) ?_
    rintro _ G' ⟨rfl, hG⟩
    rw [hG]
    clear hG
    by_cases h0 : xs.length + ys.length = 0
    · have hx0 : xs = [] := List.length_eq_zero_iff.1 (by omega)
      have hy0 : ys = [] := List.length_eq_zero_iff.1 (by omega)
      subst hx0 hy0
      obtain rfl : zs = [] := hz
      simp only [go_sem]
      refine LL.st good_E0 (fun i : Nat => 2 - i) (fun i => i = 0 ∨ i = 1 ∨ i = 2)
        (fun i => [((.i (.i .z)), .nils), ((.o (.i (.o (.i .z)))), .slice k 0 2 1 ex cap), ((.i (.i (.o (.i .z)))), .int .i64 2), ((.o (.o (.i (.i .z)))), .int .i64 i)]) (fun i => []) ?_ 0 (σ := []) (Wk.of rfl (by decide) (by simp only [go_sem, hrk]; first | done | rfl) (by simp only [go_sem])) (.inl rfl)
      rintro i (rfl | rfl | rfl)
      · simp only [go_sem, ↓appR_hide, C51L1, hgo]
        rw [appQ_none (hA.ext _)]
        simp only [go_sem]
        exact ⟨1, by decide, .inr (.inl rfl), _, [], rfl, Wk.of rfl (by decide) (by simp only [go_sem, hrk, hs1]; first | done | rfl) (by simp only [go_sem])⟩
      · simp only [go_sem, ↓appR_hide, C51L1, hgo, read_two]
        rw [appQ_none (hB.ext _)]
        simp only [go_sem]
        exact ⟨2, by decide, .inr (.inr rfl), _, [], rfl, Wk.of rfl (by decide) (by simp only [go_sem, hrk, hs2]; first | done | rfl) (by simp only [go_sem])⟩
      · simp only [go_sem, C51L1]
        first | exact ⟨_, 0, rfl, rfl, fun h => h.elim⟩ | exact ⟨_, rfl⟩ | exact ⟨_, 0, rfl⟩
    · rw [if_neg h0, if_neg h0]
      simp only [go_sem]
      refine LL.st good_E0 (fun i : Nat => 2 - i) (fun i => i = 0 ∨ i = 1 ∨ i = 2)
        (fun i => [((.i (.i .z)), .slice (H.key 0) 0 (match i with | 0 => 0 | 1 => xs.length | _ => xs.length + ys.length) 4 false (xs.length + ys.length)), ((.o (.i (.o (.i .z)))), .slice k 0 2 1 ex cap), ((.i (.i (.o (.i .z)))), .int .i64 2), ((.o (.o (.i (.i .z)))), .int .i64 i)])
        (fun i => [.row true 4 (match i with | 0 => List.replicate (xs.length + ys.length) [AV.str [], AV.int .i64 0, AV.str [], AV.bool false] | 1 => xs.map Evn.enc ++ List.replicate ys.length [AV.str [], AV.int .i64 0, AV.str [], AV.bool false] | _ => xs.map Evn.enc ++ ys.map Evn.enc)]) ?_ 0 (σ := [0]) (Wk.of rfl (by decide) (by simp only [go_sem, hrk]; first | done | rfl) (by simp only [go_sem, List.map_replicate])) (.inl rfl)
      rintro i (rfl | rfl | rfl)
      · simp only [go_sem, ↓appR_hide, C51L1, hgo]
        rw [appQ_fit (by decide) (Heap.ok_ext hok _) rfl (by rw [List.length_replicate]) (by rw [List.length_map]; omega) (hA.ext _)]
        rw [show (List.replicate (xs.length + ys.length) [AV.str [], AV.int .i64 0, AV.str [], AV.bool false]).take 0 ++ xs.map Evn.enc ++ (List.replicate (xs.length + ys.length) [AV.str [], AV.int .i64 0, AV.str [], AV.bool false]).drop (0 + (xs.map Evn.enc).length) = xs.map Evn.enc ++ List.replicate ys.length [AV.str [], AV.int .i64 0, AV.str [], AV.bool false] by
          rw [List.take_zero, List.nil_append, List.length_map, Nat.zero_add, List.drop_replicate, Nat.add_sub_cancel_left], show 0 + (xs.map Evn.enc).length = xs.length by rw [List.length_map, Nat.zero_add]]
        simp only [go_sem]
        exact ⟨1, by decide, .inr (.inl rfl), _, [0], rfl, Wk.of rfl (by decide) (by simp only [go_sem, hrk, hs1]; first | done | exact ⟨rfl, rfl⟩ | rfl) (by simp only [go_sem, Evn.map_rens, List.map_replicate])⟩
      · simp only [go_sem, ↓appR_hide, C51L1, hgo, read_two]
        rw [appQ_fit (by decide) (Heap.ok_ext hok _) rfl (by rw [List.length_append, List.length_map, List.length_replicate]) (by rw [List.length_map]; omega) (hB.ext _)]
        rw [show (xs.map Evn.enc ++ List.replicate ys.length [AV.str [], AV.int .i64 0, AV.str [], AV.bool false]).take xs.length ++ ys.map Evn.enc ++ (xs.map Evn.enc ++ List.replicate ys.length [AV.str [], AV.int .i64 0, AV.str [], AV.bool false]).drop (xs.length + (ys.map Evn.enc).length) = xs.map Evn.enc ++ ys.map Evn.enc by
          rw [List.take_left' (List.length_map ..), List.drop_eq_nil_of_le (by rw [List.length_append, List.length_map, List.length_replicate, List.length_map]; exact Nat.le_refl _), List.append_nil], show xs.length + (ys.map Evn.enc).length = xs.length + ys.length by rw [List.length_map]]
        simp only [go_sem]
        exact ⟨2, by decide, .inr (.inr rfl), _, [0], rfl, Wk.of rfl (by decide) (by simp only [go_sem, hrk, hs2]; first | done | exact ⟨rfl, rfl⟩ | rfl) (by simp only [go_sem, Evn.map_rens, List.map_replicate])⟩
      · simp only [go_sem, C51L1]
        have hpos : 0 < zs.length := by omega
        refine ⟨_, 0, ?_, rfl, fun _ => ?_⟩
        · rw [outV_pos hpos, hzl]
        · rw [outB_pos (by rw [List.length_map]; exact hpos), hz, List.map_append]; rfl
theorem f52_ok {k : K} {wr ex : Bool} {cap : Nat} {u v : AV} {xs ys : List Cell} (hk : H.get k = some (.row wr 1 [[u], [v]])) (hkk : k.toNat < H.nx.toNat) (hA : Arr H 5 u (xs.map Cell.enc)) (hB : Arr H 5 v (ys.map Cell.enc)) (hx : xs.length < 10000) (hy : ys.length < 10000) :
    FnOk Tryd.prog 52 [.slice k 0 2 1 ex cap] H fun r G => r = outV H.nx 5 (xs ++ ys).length ∧ G = H.ext [outB 5 ((xs ++ ys).map Cell.enc)] := by
  obtain ⟨zs, hz⟩ : ∃ zs, zs = xs ++ ys := ⟨_, rfl⟩
  rw [← hz]
  have hzl : zs.length = xs.length + ys.length := by rw [hz, List.length_append]
  refine FnOk.assume fun hok => ?_
  refine FnOk.dropO (List.length_map ..) (Cell.map_rens · _) ?_
  refine FnOk.of_WW Tryd.func52 rfl C52ok R52ok E0 good_E0 ?_
  have hgo := Heap.get_ext_old hok hk
  have hl1 := fun G => hA.len G
  have hl2 := fun G => hB.len G
  simp only [List.length_map] at hl1 hl2
  have hrk : ∀ top σ, rho H top σ k = k := fun top σ => rho_old hkk
  simp only [go_sem, C52]
  refine LL.st good_E0 (fun s : Nat × Nat => 2 - s.1) (fun s => s = (0, 0) ∨ s = (1, xs.length) ∨ s = (2, xs.length + ys.length))
    (fun s => [(.z, .slice k 0 2 1 ex cap), ((.o (.o .z)), .int .i64 s.2), ((.o (.i (.o .z))), .slice k 0 2 1 ex cap), ((.i (.i (.o .z))), .int .i64 2), ((.o (.o (.i .z))), .int .i64 s.1)]) (fun s => []) ?_ (0, 0) (σ := []) (Wk.of rfl (by decide) (by simp only [go_sem, hrk]; first | done | exact ⟨rfl, rfl⟩) (by simp only [go_sem])) (.inl rfl)
  have hw0 : IntKind.i64.wrap (0 + (xs.length : Int)) = (xs.length : Int) := by rw [wrap_i64 (by omega) (by omega)]; omega
  have hw1 : IntKind.i64.wrap ((xs.length : Int) + (ys.length : Int)) = ((xs.length + ys.length : Nat) : Int) := by rw [wrap_i64 (by omega) (by omega)]; omega
  have hn0 : ¬ (xs.length : Int) < 0 := by omega
  have hn1 : ¬ ((xs.length + ys.length : Nat) : Int) < 0 := by omega
  have hs1 : IntKind.i64.wrap (0 + 1) = 1 := rfl
  have hs2 : IntKind.i64.wrap (1 + 1) = 2 := rfl
  rintro s (rfl | rfl | rfl)
  · simp only [go_sem, C52L0, hgo, hl1, hw0, hn0]
    exact ⟨(1, xs.length), by show 2 - 1 < 2 - 0; omega, .inr (.inl rfl), _, [], rfl, Wk.of rfl (by decide) (by simp only [go_sem, hrk, hs1]; first | done | rfl) (by simp only [go_sem])⟩
  · simp only [go_sem, C52L0, hgo, hl2, hw1, hn1, read_two]
    exact ⟨(2, xs.length + ys.length), by show 2 - 2 < 2 - 1; omega, .inr (.inr rfl), _, [], rfl, Wk.of rfl (by decide) (by simp only [go_sem, hrk, hs2]; first | done | rfl) (by simp only [go_sem])⟩
  · simp only [go_sem, C52L0]
    refine CL.of (f77_ok (n := xs.length + ys.length) (by omega)) ?_
    rintro _ G' ⟨rfl, hG⟩
    rw [hG]
    clear hG
    by_cases h0 : xs.length + ys.length = 0
    · have hx0 : xs = [] := List.length_eq_zero_iff.1 (by omega)
      have hy0 : ys = [] := List.length_eq_zero_iff.1 (by omega)
      subst hx0 hy0
      obtain rfl : zs = [] := hz
      simp only [go_sem]
      refine LL.st good_E0 (fun i : Nat => 2 - i) (fun i => i = 0 ∨ i = 1 ∨ i = 2)
        (fun i => [((.i (.i .z)), .nils), ((.o (.i (.o (.i .z)))), .slice k 0 2 1 ex cap), ((.i (.i (.o (.i .z)))), .int .i64 2), ((.o (.o (.i (.i .z)))), .int .i64 i)]) (fun i => []) ?_ 0 (σ := []) (Wk.of rfl (by decide) (by simp only [go_sem, hrk]; first | done | rfl) (by simp only [go_sem])) (.inl rfl)
      rintro i (rfl | rfl | rfl)
      · simp only [go_sem, ↓appR_hide, C52L1, hgo]
        rw [appQ_none (hA.ext _)]
        simp only [go_sem]
        exact ⟨1, by decide, .inr (.inl rfl), _, [], rfl, Wk.of rfl (by decide) (by simp only [go_sem, hrk, hs1]; first | done | rfl) (by simp only [go_sem])⟩
      · simp only [go_sem, ↓appR_hide, C52L1, hgo, read_two]
        rw [appQ_none (hB.ext _)]
        simp only [go_sem]
        exact ⟨2, by decide, .inr (.inr rfl), _, [], rfl, Wk.of rfl (by decide) (by simp only [go_sem, hrk, hs2]; first | done | rfl) (by simp only [go_sem])⟩
      · simp only [go_sem, C52L1]
        first | exact ⟨_, 0, rfl, rfl, fun h => h.elim⟩ | exact ⟨_, rfl⟩ | exact ⟨_, 0, rfl⟩
    · rw [if_neg h0, if_neg h0]
      simp only [go_sem]
      refine LL.st good_E0 (fun i : Nat => 2 - i) (fun i => i = 0 ∨ i = 1 ∨ i = 2)
        (fun i => [((.i (.i .z)), .slice (H.key 0) 0 (match i with | 0 => 0 | 1 => xs.length | _ => xs.length + ys.length) 5 false (xs.length + ys.length)), ((.o (.i (.o (.i .z)))), .slice k 0 2 1 ex cap), ((.i (.i (.o (.i .z)))), .int .i64 2), ((.o (.o (.i (.i .z)))), .int .i64 i)])
        (fun i => [.row true 5 (match i with | 0 => List.replicate (xs.length + ys.length) [AV.str [], AV.str [], AV.int .i64 0, AV.bool false, AV.int .i64 0] | 1 => xs.map Cell.enc ++ List.replicate ys.length [AV.str [], AV.str [], AV.int .i64 0, AV.bool false, AV.int .i64 0] | _ => xs.map Cell.enc ++ ys.map Cell.enc)]) ?_ 0 (σ := [0]) (Wk.of rfl (by decide) (by simp only [go_sem, hrk]; first | done | rfl) (by simp only [go_sem, List.map_replicate])) (.inl rfl)
      rintro i (rfl | rfl | rfl)
      · simp only [go_sem, ↓appR_hide, C52L1, hgo]
        rw [appQ_fit (by decide) (Heap.ok_ext hok _) rfl (by rw [List.length_replicate]) (by rw [List.length_map]; omega) (hA.ext _)]
        rw [show (List.replicate (xs.length + ys.length) [AV.str [], AV.str [], AV.int .i64 0, AV.bool false, AV.int .i64 0]).take 0 ++ xs.map Cell.enc ++ (List.replicate (xs.length + ys.length) [AV.str [], AV.str [], AV.int .i64 0, AV.bool false, AV.int .i64 0]).drop (0 + (xs.map Cell.enc).length) = xs.map Cell.enc ++ List.replicate ys.length [AV.str [], AV.str [], AV.int .i64 0, AV.bool false, AV.int .i64 0] by
          rw [List.take_zero, List.nil_append, List.length_map, Nat.zero_add, List.drop_replicate, Nat.add_sub_cancel_left], show 0 + (xs.map Cell.enc).length = xs.length by rw [List.length_map, Nat.zero_add]]
        simp only [go_sem]
        exact ⟨1, by decide, .inr (.inl rfl), _, [0], rfl, Wk.of rfl (by decide) (by simp only [go_sem, hrk, hs1]; first | done | exact ⟨rfl, rfl⟩ | rfl) (by simp only [go_sem, Cell.map_rens, List.map_replicate])⟩
      · simp only [go_sem, ↓appR_hide, C52L1, hgo, read_two]
        rw [appQ_fit (by decide) (Heap.ok_ext hok _) rfl (by rw [List.length_append, List.length_map, List.length_replicate]) (by rw [List.length_map]; omega) (hB.ext _)]
        rw [show (xs.map Cell.enc ++ List.replicate ys.length [AV.str [], AV.str [], AV.int .i64 0, AV.bool false, AV.int .i64 0]).take xs.length ++ ys.map Cell.enc ++ (xs.map Cell.enc ++ List.replicate ys.length [AV.str [], AV.str [], AV.int .i64 0, AV.bool false, AV.int .i64 0]).drop (xs.length + (ys.map Cell.enc).length) = xs.map Cell.enc ++ ys.map Cell.enc by
          rw [List.take_left' (List.length_map ..), List.drop_eq_nil_of_le (by rw [List.length_append, List.length_map, List.length_replicate, List.length_map]; exact Nat.le_refl _), List.append_nil], show xs.length + (ys.map Cell.enc).length = xs.length + ys.length by rw [List.length_map]]
        simp only [go_sem]
        exact ⟨2, by decide, .inr (.inr rfl), _, [0], rfl, Wk.of rfl (by decide) (by simp only [go_sem, hrk, hs2]; first | done | exact ⟨rfl, rfl⟩ | rfl) (by simp only [go_sem, Cell.map_rens, List.map_replicate])⟩
      · simp only [go_sem, C52L1]
        have hpos : 0 < zs.length := by omega
        refine ⟨_, 0, ?_, rfl, fun _ => ?_⟩
        · rw [outV_pos hpos, hzl]
        · rw [outB_pos (by rw [List.length_map]; exact hpos), hz, List.map_append]; rfl
end Go.Proofs
/- a shard as the law has it; few; cut: what fits: walked. -/

set_option linter.all false
set_option linter.all false
set_option maxRecDepth 100000
namespace Go.Proofs
open Go Go.Ev
variable {H : Heap}

theorem errV_ren (a : Option Int) (ρ : K → K) : AV.ren ρ (errV a) = errV a := by cases a <;> simp only [errV, AV.ren]
theorem f20_ok {s : Sh} (h : s.ok H) : FnOk Tryd.prog 20 [.agg s.enc] H fun r G => r = .bool (decide (isSh s)) ∧ G = H := by
  refine FnOk.assume fun hok => ?_
  refine FnOk.drop (R := fun r => r = .bool (decide (isSh s))) ?_ (by rintro v rfl ρ; rw [AV.ren])
  refine FnOk.of_WW Tryd.func20 rfl C20ok R20ok (pureE F46) good_F46 ?_
  have hlen := fun G => h.e.len G
  simp only [List.length_map] at hlen
  have clen := fun G => h.c.len G
  simp only [List.length_map] at clen
  have hcl := h.cl
  simp only [go_sem, C20, Sh.enc]
  have hbad : ¬ isSh s → AV.bool false = .bool (decide (isSh s)) := fun g => bool_f g
  refine ⟨fun g1 => ⟨hbad fun g => absurd g.1.1 (by omega), _, rfl⟩, fun g1 => ⟨fun g2 => ⟨hbad fun g => absurd g.1.2.1 (by omega), _, rfl⟩, fun g2 => ⟨fun g3 => ⟨hbad fun g => absurd g.1.2.2.1 (by omega), _, rfl⟩, fun g3 => ⟨fun g4 => ⟨hbad fun g => absurd g.1.2.2.2 (by omega), _, rfl⟩, fun g4 => ?_⟩⟩⟩⟩
  refine CL.bool (f40_ok s.fr s.to) (fun g5 => ?_) (fun g5 => ?_)
  rotate_left
  · simp only [go_sem]
    exact ⟨hbad fun g => g5 g.2.1, _, rfl⟩
  simp only [go_sem, hlen]
  refine ⟨fun g7 => ⟨hbad fun g => absurd g.2.2.2.1 (by omega), _, rfl⟩, fun g7 => ?_⟩
  refine CL.bool (f26_ok (h.e.ext _) (h.c.ext _) h.el h.cl) (fun g8 => ?_) (fun g8 => ?_)
  rotate_left
  · simp only [go_sem]
    exact ⟨hbad fun g => g8 g.2.2.2.2.1, _, rfl⟩
  simp only [go_sem]
  refine CL.bool (f41_ok (h.d.ext _) (h.dok.ext _) (by have := h.dl; omega)) (fun g9 => ?_) (fun g9 => ?_)
  rotate_left
  · simp only [go_sem]
    exact ⟨hbad fun g => g9 g.2.2.2.2.2, _, rfl⟩
  simp only [go_sem]
  have cren := h.c.ren
  have eren := h.e.ren
  have dren := h.d.ren
  refine LL.st good_F46 (fun i : Nat => s.cells.length - i) (fun i => i ≤ s.cells.length ∧ ∀ j d, j < i → s.cells[j]? = some d → has s.fr s.to d.key)
    (fun i => [((.o .z), .ptr (H.key 0) 0), ((.o (.o .z)), .int .i64 i)]) (fun i => [.row true 8 [[.int .i64 s.id, .int .i64 s.ep, .str s.fr, .str s.to, .bool s.frz, s.cv, s.ev, s.dv]]]) ?_ 0 (σ := [0]) (Wk.of rfl (by decide) (by simp only [go_sem, cren, eren, dren]) (by simp only [go_sem, cren, eren, dren])) ⟨Nat.zero_le _, fun j d h => absurd h (Nat.not_lt_zero _)⟩
  rintro i ⟨hi, hno⟩
  by_cases hlt : i < s.cells.length
  · obtain ⟨kk, r, ex', cap', wr, rows, hv, hrho, hgo, hrow⟩ := h.c.at hok (j := i) (by rw [List.length_map]; exact hlt)
    simp only [List.length_map, List.getElem_map] at hv hrow
    have hget : s.cells[i]? = some s.cells[i] := List.getElem?_eq_getElem hlt
    generalize s.cells[i] = e at hrow hget
    have hw := wrap_succ (n := i) (by omega)
    have hci : (i : Int) < (s.cells.length : Int) := (by omega)
    have hsi : i + 1 ≤ s.cells.length := (by omega)
    simp only [go_sem, C20L0, hv, hci, hsi, hgo, hrow, hw, Cell.enc, e46]
    refine ⟨fun g => ⟨i + 1, by show s.cells.length - (i + 1) < s.cells.length - i; omega, ⟨by omega, fun j d hj hd => ?_⟩, _, [0], rfl, Wk.of rfl (by decide) (by simp only [go_sem, hv, hrho, eren, dren]) (by simp only [go_sem, hv, hrho, eren, dren])⟩, fun g => ⟨hbad fun h => g (h.2.2.1 _ (List.mem_of_getElem? hget)), _, rfl⟩⟩
    by_cases hji : j < i
    · exact hno j d hji hd
    · have : j = i := by omega
      subst this
      rw [hget] at hd
      cases hd
      exact g
  · have hci : ¬ (i : Int) < (s.cells.length : Int) := (by omega)
    simp only [go_sem, C20L0, hci, clen]
    refine ⟨bool_t ⟨⟨by omega, by omega, by omega, by omega⟩, g5, fun c hc => ?_, by omega, g8, g9⟩, _, rfl⟩
    obtain ⟨j, hj, he⟩ := List.getElem_of_mem hc
    exact hno j c (by omega) (by rw [← he]; exact List.getElem?_eq_getElem hj)
theorem f19_ok {s : Sh} (h : s.ok H) : FnOk Tryd.prog 19 [.agg s.enc] H fun r G => r = .bool (decide (s.cells.length ≤ 30 ∧ s.evs.length ≤ 40 ∧ s.done.length ≤ 6)) ∧ G = H := by
  refine FnOk.drop (R := fun r => r = .bool (decide (s.cells.length ≤ 30 ∧ s.evs.length ≤ 40 ∧ s.done.length ≤ 6))) ?_ (by rintro v rfl ρ; rw [AV.ren])
  refine FnOk.of_WW Tryd.func19 rfl C19ok R19ok E0 good_E0 ?_
  have elen := fun G => h.e.len G
  simp only [List.length_map] at elen
  have clen := fun G => h.c.len G
  simp only [List.length_map] at clen
  have dlen := fun G => h.d.len G
  simp only [List.length_map] at dlen
  simp only [go_sem, C19, Sh.enc, elen, clen, dlen]
  refine ⟨fun g1 => ⟨fun g2 => ⟨fun g3 => ⟨bool_t ⟨by omega, by omega, by omega⟩, _, rfl⟩, fun g3 => ⟨bool_f fun g => absurd g.2.2 (by omega), _, rfl⟩⟩, fun g2 => ⟨bool_f fun g => absurd g.2.1 (by omega), _, rfl⟩⟩, fun g1 => ⟨bool_f fun g => absurd g.1 (by omega), _, rfl⟩⟩
theorem f42_ok {s : Sh} (h : s.ok H) : FnOk Tryd.prog 42 [.agg s.enc] H fun r G => r = errV (if isSh s ∧ ¬ s.frz = true then none else some 10) ∧ G = H := by
  refine FnOk.drop (R := fun r => r = errV (if isSh s ∧ ¬ s.frz = true then none else some 10)) ?_ (by rintro v rfl ρ; rw [errV_ren])
  refine FnOk.of_WW Tryd.func42 rfl C42ok R42ok E0 good_E0 ?_
  simp only [go_sem, C42, Sh.enc]
  refine CL.bool (f70_ok (h.ext _)) (fun g => ?_) (fun g => ?_)
  · simp only [go_sem]
    exact ⟨fun e => ⟨by rw [if_neg fun h => h.2 e]; rfl, _, rfl⟩, fun e => ⟨by rw [if_pos ⟨g, by rw [e]; decide⟩]; rfl, _, rfl⟩⟩
  · simp only [go_sem]
    exact ⟨by rw [if_neg fun h => g h.1]; rfl, _, rfl⟩
end Go.Proofs
/- cut: what is in a part; clones: walked. -/

set_option linter.all false
set_option linter.all false
set_option maxRecDepth 100000
namespace Go.Proofs
open Go Go.Ev
variable {H : Heap}

/-- blocks that are let go, the others renamed -/
theorem FnOk.dropW {f : FuncId} {args : List AV} {V : AV} {bs : List Blk} (h : FnOk Tryd.prog f args H fun v G => ∃ l σ, v = V.ren (rho H l.length σ) ∧ G = H.ext l ∧ bs.length = σ.length ∧ σ.Nodup ∧ WkB l (rho H l.length σ) bs σ) :
    FnOk Tryd.prog f args H fun v G => v = V ∧ G = H.ext bs := by
  refine h.wk ?_
  rintro v G ⟨l, σ, hv, hG, h1, h2, h3⟩
  exact ⟨l, bs, σ, V, hG, hv, h1, h2, h3.all, rfl, rfl⟩
def nilB (v : AV) : Bool := match v with | .nils => true | _ => false
theorem FnOk.dropZd {z : Bool} {f : FuncId} {args : List AV} {esz n : Nat} {xs : List (List AV)} (hn : xs.length = n) (hx : ∀ top σ, xs.map (AV.rens (rho H top σ)) = xs)
    (h : FnOk Tryd.prog f args H fun v G => ∃ l i, v = zV z (H.key i) esz n ∧ G = H.ext l ∧ ((zB z esz xs).live → l[i]? = some (zB z esz xs))) :
    FnOk Tryd.prog f args H fun v G => v = zV z H.nx esz n ∧ G = H.ext [zB z esz xs] := by
  subst hn
  refine h.wk ?_
  rintro v G ⟨l, i, rfl, rfl, hl⟩
  refine ⟨l, [zB z esz xs], [i], zV z H.nx esz xs.length, rfl, ?_, rfl, by simp, ?_, rfl, rfl⟩
  · rw [zV_ren, ← Heap.key_zero, rho_key rfl]
  · intro p hp
    simp only [List.zip_cons_cons, List.zip_nil_left, List.mem_singleton] at hp
    subst hp
    intro hlive
    show l[i]? = some (Blk.ren _ (zB z esz xs))
    rw [zB_ren _ (hx _ _), hl hlive]
theorem clone_zd {f : FuncId} {esz bytes : Nat} {zero : List AV} (hf : CloFn Tryd.prog f esz bytes zero) {v : AV} {xs : List (List AV)} (hA : Arr H esz v xs) (hb : (2 * xs.length + 192) * bytes ≤ 281474976710656) (hx : ∀ top σ, xs.map (AV.rens (rho H top σ)) = xs) :
    FnOk Tryd.prog f [v] H fun r G => r = zV (nilB v) H.nx esz xs.length ∧ G = H.ext [zB (nilB v) esz xs] := by
  refine FnOk.dropZd rfl hx ?_
  rcases hA with ⟨rfl, rfl⟩ | ⟨k, off, ex, cap, rfl, hk, h⟩
  · refine (clone_nil hf).mono ?_
    rintro v G ⟨rfl, rfl⟩
    exact ⟨[], 0, rfl, (Heap.ext_nil _).symm, fun h => h.elim⟩
  · rcases Nat.eq_zero_or_pos xs.length with h0 | h0
    · obtain rfl := List.length_eq_zero_iff.1 h0
      refine (clone_zero hf).mono ?_
      rintro v G ⟨rfl, rfl⟩
      exact ⟨_, 0, rfl, rfl, fun _ => rfl⟩
    · obtain ⟨r, wr, rows, rfl, hg, hrow⟩ := h (by intro e; rw [e] at h0; simp at h0)
      have hn : r + xs.length ≤ rows.length := by
        have := congrArg List.length hrow
        rw [List.length_take, List.length_drop] at this
        omega
      have key := clone_arr hf hg hn h0 hb (ex := ex) (cap := cap)
      rw [hrow] at key
      refine key.mono ?_
      rintro v G ⟨rfl, rfl⟩
      exact ⟨_, 1, (zV_pos h0).symm, rfl, fun _ => by rw [zB_pos h0]; rfl⟩
theorem zV_nil_o (k j : K) (esz n : Nat) : zV (nilB (outV k esz n)) j esz n = outV j esz n := by cases n <;> rfl
theorem zB_nil_o (k : K) (esz : Nat) (xs : List (List AV)) : zB (nilB (outV k esz xs.length)) esz xs = outB esz xs := by cases xs <;> rfl
/-- what is nil where it is empty is cloned so -/
theorem clone_o {f : FuncId} {esz bytes : Nat} {zero : List AV} (hf : CloFn Tryd.prog f esz bytes zero) {k : K} {xs : List (List AV)} {n : Nat} (hn : xs.length = n) (hA : Arr H esz (outV k esz n) xs) (hb : (2 * n + 192) * bytes ≤ 281474976710656) (hx : ∀ top σ, xs.map (AV.rens (rho H top σ)) = xs) :
    FnOk Tryd.prog f [outV k esz n] H fun r G => r = outV H.nx esz n ∧ G = H.ext [outB esz xs] := by
  subst hn
  have := clone_zd hf hA hb hx
  rw [zV_nil_o, zB_nil_o] at this
  exact this
theorem clo74 : CloFn Tryd.prog 74 5 56 [.str [], .str [], .int .i64 0, .bool false, .int .i64 0] := ⟨⟨Tryd.f74, Tryd.func74, by kernel_rfl, by kernel_rfl⟩, rfl, by decide⟩
theorem clo75 : CloFn Tryd.prog 75 4 48 [.str [], .int .i64 0, .str [], .bool false] := ⟨⟨Tryd.f75, Tryd.func75, by kernel_rfl, by kernel_rfl⟩, rfl, by decide⟩
theorem f71_at {v : AV} {l : List Cell} (hA : Arr H 5 v (l.map Cell.enc)) (hl : l.length < 4294967296) (f t : List Nat) :
    FnOk Tryd.prog 71 [v, .agg [.str f, .str t]] H fun r G => r = outV H.nx 5 (withinL f t l).length ∧ G = H.ext [outB 5 ((withinL f t l).map Cell.enc)] := by
  refine FnOk.dropO (List.length_map ..) (Cell.map_rens · _) ?_
  refine (f71_ok hA hl f t).mono ?_
  rintro v G ⟨rfl, rfl⟩
  refine ⟨_, 0, by rw [Heap.key_zero], rfl, ?_⟩
  cases withinL f t l with
  | nil => intro h; exact h.elim
  | cons x xs => intro _; rfl
@[go_sem] theorem agg_o {β : Type} (k : K) (e n : Nat) (f : β) (c : List AV → β) : asAggC (outV k e n) f c = f := by cases n <;> rfl
@[go_sem] theorem one_o (k : K) (e n : Nat) : AV.one (outV k e n) = true := by cases n <;> rfl
@[go_sem] theorem agg_z {β : Type} (z : Bool) (k : K) (e n : Nat) (f : β) (c : List AV → β) : asAggC (zV z k e n) f c = f := by cases n <;> cases z <;> rfl
@[go_sem] theorem one_z (z : Bool) (k : K) (e n : Nat) : AV.one (zV z k e n) = true := by cases n <;> cases z <;> rfl
@[go_sem] theorem rho_key4 (top i0 i1 i2 i3 j : Nat) (σ : List Nat) : rho H top (i0 :: i1 :: i2 :: i3 :: j :: σ) (H.key 4) = H.key j := rho_key rfl
@[go_sem] theorem rho_key5 (top i0 i1 i2 i3 i4 j : Nat) (σ : List Nat) : rho H top (i0 :: i1 :: i2 :: i3 :: i4 :: j :: σ) (H.key 5) = H.key j := rho_key rfl
@[go_sem] theorem rho_key6 (top i0 i1 i2 i3 i4 i5 j : Nat) (σ : List Nat) : rho H top (i0 :: i1 :: i2 :: i3 :: i4 :: i5 :: j :: σ) (H.key 6) = H.key j := rho_key rfl
@[go_sem] theorem rho_key7 (top i0 i1 i2 i3 i4 i5 i6 j : Nat) (σ : List Nat) : rho H top (i0 :: i1 :: i2 :: i3 :: i4 :: i5 :: i6 :: j :: σ) (H.key 7) = H.key j := rho_key rfl
@[go_sem] theorem rho_key8 (top i0 i1 i2 i3 i4 i5 i6 i7 j : Nat) (σ : List Nat) : rho H top (i0 :: i1 :: i2 :: i3 :: i4 :: i5 :: i6 :: i7 :: j :: σ) (H.key 8) = H.key j := rho_key rfl
@[go_sem] theorem rho_key9 (top i0 i1 i2 i3 i4 i5 i6 i7 i8 j : Nat) (σ : List Nat) : rho H top (i0 :: i1 :: i2 :: i3 :: i4 :: i5 :: i6 :: i7 :: i8 :: j :: σ) (H.key 9) = H.key j := rho_key rfl
@[go_sem] theorem rho_key10 (top i0 i1 i2 i3 i4 i5 i6 i7 i8 i9 j : Nat) (σ : List Nat) : rho H top (i0 :: i1 :: i2 :: i3 :: i4 :: i5 :: i6 :: i7 :: i8 :: i9 :: j :: σ) (H.key 10) = H.key j := rho_key rfl
@[go_sem] theorem rho_key11 (top i0 i1 i2 i3 i4 i5 i6 i7 i8 i9 i10 j : Nat) (σ : List Nat) : rho H top (i0 :: i1 :: i2 :: i3 :: i4 :: i5 :: i6 :: i7 :: i8 :: i9 :: i10 :: j :: σ) (H.key 11) = H.key j := rho_key rfl
@[go_sem] theorem rho_key12 (top i0 i1 i2 i3 i4 i5 i6 i7 i8 i9 i10 i11 j : Nat) (σ : List Nat) : rho H top (i0 :: i1 :: i2 :: i3 :: i4 :: i5 :: i6 :: i7 :: i8 :: i9 :: i10 :: i11 :: j :: σ) (H.key 12) = H.key j := rho_key rfl
@[go_sem] theorem rho_key13 (top i0 i1 i2 i3 i4 i5 i6 i7 i8 i9 i10 i11 i12 j : Nat) (σ : List Nat) : rho H top (i0 :: i1 :: i2 :: i3 :: i4 :: i5 :: i6 :: i7 :: i8 :: i9 :: i10 :: i11 :: i12 :: j :: σ) (H.key 13) = H.key j := rho_key rfl
/-- the events within a span -/
noncomputable def evW (f t : List Nat) (l : List Evn) : List Evn := l.filter fun e => decide (has f t e.key)
theorem evW_yes {f t : List Nat} {l : List Evn} {i : Nat} {c : Evn} (h : l[i]? = some c) (h2 : has f t c.key) : evW f t (l.take (i + 1)) = evW f t (l.take i) ++ [c] := by
  rw [take_next h]; simp [evW, h2]
theorem evW_no {f t : List Nat} {l : List Evn} {i : Nat} {c : Evn} (h : l[i]? = some c) (h2 : ¬ has f t c.key) : evW f t (l.take (i + 1)) = evW f t (l.take i) := by
  rw [take_next h]; simp [evW, h2]
theorem evW_len (f t : List Nat) (l : List Evn) (i : Nat) : (evW f t (l.take i)).length ≤ i := Nat.le_trans (List.length_filter_le _ _) (by simp; omega)
/-- a part of a shard -/
noncomputable def partS (s : Sh) (id : Int) (f t : List Nat) (k0 k1 k2 : K) : Sh := ⟨id, 1, f, t, false, withinL f t s.cells, evW f t s.evs, s.done, outV k0 5 (withinL f t s.cells).length, outV k1 4 (evW f t s.evs).length, zV (nilB s.dv) k2 6 s.done.length⟩
noncomputable def partB (s : Sh) (f t : List Nat) : List Blk := [outB 5 ((withinL f t s.cells).map Cell.enc), outB 4 ((evW f t s.evs).map Evn.enc), zB (nilB s.dv) 6 (s.done.map Dn.enc)]
theorem f45_ok {s : Sh} (h : s.ok H) (hdl : s.done.length < 100000) (hel : s.evs.length < 100000) (id : Int) (f t : List Nat) :
    FnOk Tryd.prog 45 [.agg s.enc, .int .i64 id, .agg [.str f, .str t]] H fun r G => r = .agg (partS s id f t (H.key 0) (H.key 1) (H.key 2)).enc ∧ G = H.ext (partB s f t) := by
  refine FnOk.assume fun hok => ?_
  refine FnOk.dropW ?_
  refine FnOk.of_WW Tryd.func45 rfl C45ok R45ok E0 good_E0 ?_
  have hA := h.e
  have hlen := fun G => hA.len G
  simp only [List.length_map] at hlen
  have cren := h.c.ren
  have eren := h.e.ren
  have dren := h.d.ren
  have drens := h.dok.rens
  simp only [go_sem, C45, Sh.enc]
  refine CL.of (f49_ok id 1 f t) ?_
  rintro _ G' ⟨rfl, hG⟩
  rw [hG]
  clear hG
  simp only [go_sem]
  refine CL.of (f71_at (h.c.ext _) h.cl f t) ?_
  rintro _ _ ⟨rfl, rfl⟩
  simp only [go_sem, hlen]
  refine LL.st good_E0 (fun i : Nat => s.evs.length - i) (fun i => i ≤ s.evs.length)
    (fun i => [((.o (.o .z)), .ptr (H.key 0) 0), ((.o (.i .z)), .ptr (H.key 1) 0), ((.i (.i .z)), .ptr (H.key 2) 0), ((.o (.o (.o .z))), .ptr (H.key 3) 0), ((.o (.o (.i (.o .z)))), s.ev), ((.i (.o (.i (.o .z)))), .int .i64 s.evs.length), ((.o (.i (.i (.o .z)))), .int .i64 i)])
    (fun i => [.row true 8 [[.int .i64 s.id, .int .i64 s.ep, .str s.fr, .str s.to, .bool s.frz, s.cv, s.ev, s.dv]], .row true 2 [[.str f, .str t]], .row true 8 [[.int .i64 0, .int .i64 0, .str [], .str [], .bool false, .nils, .nils, .nils]],
      .row true 8 [[.int .i64 id, .int .i64 1, .str f, .str t, .bool false, outV (H.key 4) 5 (withinL f t s.cells).length, outV (H.key 5) 4 (evW f t (s.evs.take i)).length, .nils]], outB 5 ((withinL f t s.cells).map Cell.enc), outB 4 ((evW f t (s.evs.take i)).map Evn.enc)]) ?_ 0 (σ := [0, 1, 2, 3, 4, 5]) (Wk.of rfl (by decide) (by simp only [go_sem, cren, eren, dren]) (by simp only [go_sem, cren, eren, dren, outV_ren', evW, List.filter_nil, ↓outB_ren', Cell.map_rens, implies_true])) (Nat.zero_le _)
  rintro i hi
  by_cases hlt : i < s.evs.length
  · obtain ⟨kk, r, ex', cap', wr, rows, hv, hrho, hgo, hrow⟩ := hA.at hok (j := i) (by rw [List.length_map]; exact hlt)
    simp only [List.length_map, List.getElem_map] at hv hrow
    have hget : s.evs[i]? = some s.evs[i] := List.getElem?_eq_getElem hlt
    generalize s.evs[i] = e at hrow hget
    have hw := wrap_succ (n := i) (by omega)
    have hci : (i : Int) < (s.evs.length : Int) := (by omega)
    have hsi : i + 1 ≤ s.evs.length := (by omega)
    simp only [go_sem, C45L0, hv, hci, hsi, hgo, hrow, hw, Evn.enc]
    refine CL.bool (f65_ok f t e.key) (fun g => ?_) (fun g => ?_)
    · have hnew := evW_yes hget g
      have hln := evW_len f t s.evs i
      simp only [go_sem, ↓appR_hide]
      refine RW_app _ [.str e.key, .int .i64 e.ver, .str e.val, .bool e.del] rfl (List.length_map ..) rfl (okBig_le (by omega) (by decide)) ?_
      simp only [go_sem, hw]
      rw [show outB 4 ((evW f t (s.evs.take i)).map Evn.enc ++ [[.str e.key, .int .i64 e.ver, .str e.val, .bool e.del]]) = outB 4 ((evW f t (s.evs.take i) ++ [e]).map Evn.enc) by rw [List.map_append]; rfl]
      refine ⟨i + 1, by show s.evs.length - (i + 1) < s.evs.length - i; omega, ?_, _, [0, 1, 2, 3, 4, 8], rfl, Wk.of rfl (by decide) (by simp only [go_sem, cren, hrho, dren]) (by simp only [go_sem, cren, hrho, dren, outV_ren', hnew, ↓outB_ren', Cell.map_rens, Evn.map_rens, Evn.rens, implies_true])⟩
      exact hsi
    · have hnew := evW_no hget g
      simp only [go_sem, hw]
      refine ⟨i + 1, by show s.evs.length - (i + 1) < s.evs.length - i; omega, ?_, _, [0, 1, 2, 3, 4, 5], rfl, Wk.of rfl (by decide) (by simp only [go_sem, cren, hrho, dren]) (by simp only [go_sem, cren, hrho, dren, outV_ren', hnew, ↓outB_ren', Cell.map_rens, Evn.map_rens, Evn.rens, implies_true])⟩
      exact hsi
  · have hci : ¬ (i : Int) < (s.evs.length : Int) := (by omega)
    have htk : s.evs.take i = s.evs := List.take_of_length_le (by omega)
    rw [htk]
    simp only [go_sem, C45L0, hci]
    refine CL.of (clone_zd clo57 (h.d.ext _) (by rw [List.length_map]; omega) (h.dok.ext _).rens) ?_
    rintro _ _ ⟨rfl, rfl⟩
    simp only [go_sem]
    exact ⟨_, [4, 5, 6], by simp only [partS, outV_ren', zV_ren, go_sem], rfl, rfl, by decide, by simp only [partB, go_sem, ↓outB_ren', ↓zB_ren, drens, Cell.map_rens, Evn.map_rens, implies_true]⟩
end Go.Proofs
/- history.Keep: walked. -/

set_option linter.all false
set_option linter.all false
set_option maxRecDepth 100000
namespace Go.Proofs
open Go Go.Ev
variable {H : Heap}

/-- a cell whose floor an event lifts -/
def flo (e : Evn) (c : Cell) : Cell := if c.key = e.key then { c with floor := max c.floor e.ver } else c
def keepC (l : List Evn) (cs : List Cell) : List Cell := l.foldl (fun cs e => cs.map (flo e)) cs
theorem keepC_len (l : List Evn) : ∀ cs : List Cell, (keepC l cs).length = cs.length := by
  induction l with
  | nil => intro cs; rfl
  | cons e l ih => intro cs; show (keepC l (cs.map (flo e))).length = _; rw [ih, List.length_map]
theorem keepC_succ {l : List Evn} {i : Nat} {e : Evn} (h : l[i]? = some e) (cs : List Cell) : keepC (l.take (i + 1)) cs = (keepC (l.take i) cs).map (flo e) := by
  rw [take_next h, keepC, List.foldl_append]; rfl
def keepJ (e : Evn) (cs : List Cell) (j : Nat) : List Cell := (cs.take j).map (flo e) ++ cs.drop j
theorem keepJ_len (e : Evn) (cs : List Cell) {j : Nat} (hj : j ≤ cs.length) : (keepJ e cs j).length = cs.length := by
  unfold keepJ; rw [List.length_append, List.length_map, List.length_take, List.length_drop]; omega
theorem keepJ_at {e : Evn} {cs : List Cell} {j : Nat} {c : Cell} (h : cs[j]? = some c) : (keepJ e cs j)[j]? = some c := by
  have hj := (List.getElem?_eq_some_iff.1 h).1
  unfold keepJ
  rw [List.getElem?_append_right (by rw [List.length_map, List.length_take]; omega), List.length_map, List.length_take, List.getElem?_drop, show j + (j - min j cs.length) = j by omega, h]
theorem keepJ_next {e : Evn} {cs : List Cell} {j : Nat} {c : Cell} (h : cs[j]? = some c) : keepJ e cs (j + 1) = (keepJ e cs j).set j (flo e c) := by
  have hj := (List.getElem?_eq_some_iff.1 h).1
  unfold keepJ
  have hl : ((cs.take j).map (flo e)).length = j := by rw [List.length_map, List.length_take]; omega
  rw [List.set_append, if_neg (by omega), hl, Nat.sub_self, take_next h, List.map_append, List.append_assoc]
  congr 1
  have : cs.drop j = c :: cs.drop (j + 1) := by
    obtain ⟨hj, rfl⟩ := List.getElem?_eq_some_iff.1 h
    exact (List.drop_eq_getElem_cons hj)
  rw [this]; rfl
theorem clone_n {f : FuncId} {esz bytes : Nat} {zero : List AV} (hf : CloFn Tryd.prog f esz bytes zero) {v : AV} {xs : List (List AV)} {n : Nat} (hn : xs.length = n) (h0 : n = 0 → v = .nils) (hA : Arr H esz v xs) (hb : (2 * n + 192) * bytes ≤ 281474976710656) (hx : ∀ top σ, xs.map (AV.rens (rho H top σ)) = xs) :
    FnOk Tryd.prog f [v] H fun r G => r = outV H.nx esz n ∧ G = H.ext [outB esz xs] := by
  subst hn
  have := clone_zd hf hA hb hx
  cases xs with
  | nil => rw [h0 rfl] at this ⊢; exact this
  | cons x xs => exact this
theorem flo_no {e : Evn} {c : Cell} (h : ¬ c.key = e.key) : flo e c = c := if_neg h
theorem flo_yes {e : Evn} {c : Cell} (h : c.key = e.key) : (flo e c).enc = [.str c.key, .str c.value, .int .i64 c.ver, .bool c.del, .int .i64 (max c.floor e.ver)] := by rw [flo, if_pos h]; rfl
theorem set_self {α : Type} {l : List α} {j : Nat} {x : α} (h : l[j]? = some x) : l.set j x = l := by
  obtain ⟨hj, rfl⟩ := List.getElem?_eq_some_iff.1 h
  exact List.set_getElem_self hj
theorem f50_ok {k : K} {v u : AV} {xs : List Evn} {cs : List Cell} (hv : v = outV k 4 xs.length) {k' : K} (hu : u = outV k' 5 cs.length) (hA : Arr H 4 v (xs.map Evn.enc)) (hB : Arr H 5 u (cs.map Cell.enc)) (hx : xs.length < 100000) (hc : cs.length < 100000) :
    FnOk Tryd.prog 50 [v, u, .int .i64 24] H fun r G => r = .tup [outV (H.key 1) 4 (xs.drop (xs.length - 24)).length, outV (H.key 0) 5 cs.length] ∧ G = H.ext [outB 5 ((keepC (xs.take (xs.length - 24)) cs).map Cell.enc), outB 4 ((xs.drop (xs.length - 24)).map Evn.enc)] := by
  refine FnOk.assume fun hok => ?_
  refine FnOk.dropW ?_
  subst hu
  refine FnOk.of_WW Tryd.func50 rfl C50ok R50ok E0 good_E0 ?_
  have hlen := fun G => hA.len G
  simp only [List.length_map] at hlen
  have hren := hA.ren
  have m1 : max (24 : Int) 0 = 24 := rfl
  have m2 : IntKind.i64.wrap ((xs.length : Int) - 24) = (xs.length : Int) - 24 := wrap_i64 (by omega) (by omega)
  have m3 : max ((xs.length : Int) - 24) 0 = ((xs.length - 24 : Nat) : Int) := by omega
  obtain ⟨g, hg⟩ : ∃ g, g = xs.length - 24 := ⟨_, rfl⟩
  have hgl : g ≤ xs.length := by omega
  rw [← hg] at m3
  rw [← hg]
  obtain ⟨w1, w2, hs1, hs2, hA1, hn2, hA2⟩ : ∃ w1 w2, (∀ G, (asSliceC v R1.fail (if g = 0 then R1.val AV.nils G else R1.fail) fun k off len es ex cap =>
      if es = 4 ∧ 0 ≤ g ∧ g ≤ cap ∧ cap ≤ cap then
        bif' (ex && decide (cap - 0 = 0)) (R1.val (AV.slice k off (g - 0) es ex (cap - 0)) G) (R1.val (AV.slice k (off + 0 * es) (g - 0) es ex (cap - 0)) G)
      else R1.fail) = R1.val w1 G) ∧ (∀ G, (asSliceC v R1.fail (if g = 0 then R1.val AV.nils G else R1.fail) fun k off len es ex cap =>
      if es = 4 ∧ g ≤ len ∧ len ≤ cap ∧ cap ≤ cap then
        bif' (ex && decide (cap - g = 0)) (R1.val (AV.slice k off (len - g) es ex (cap - g)) G) (R1.val (AV.slice k (off + g * es) (len - g) es ex (cap - g)) G)
      else R1.fail) = R1.val w2 G) ∧ Arr H 4 w1 ((xs.take g).map Evn.enc) ∧ ((xs.drop g).length = 0 → w2 = .nils) ∧ Arr H 4 w2 ((xs.drop g).map Evn.enc) := by
    rcases Nat.eq_zero_or_pos xs.length with h0 | h0
    · obtain rfl := List.length_eq_zero_iff.1 h0
      have hg0 : g = 0 := by simpa using hg
      subst hv hg0
      refine ⟨.nils, .nils, fun G => rfl, fun G => rfl, .inl ⟨rfl, rfl⟩, fun _ => rfl, .inl ⟨rfl, rfl⟩⟩
    · have hvs : v = .slice k 0 xs.length 4 false xs.length := by rw [hv, outV_pos h0]
      have hgx : g < xs.length := by omega
      have hh := hA
      rw [hvs] at hh
      rcases hh with ⟨e, _⟩ | ⟨k1, off, ex, cap, e, hk, h⟩
      · cases e
      · obtain ⟨r, wr, rows, hr, hgk, hrow⟩ := h (by intro e; rw [List.map_eq_nil_iff] at e; rw [e] at h0; exact absurd h0 (by simp))
        rw [List.length_map] at e
        cases e
        obtain rfl : r = 0 := by omega
        simp only [List.drop_zero, List.length_map] at hrow
        refine ⟨.slice k 0 g 4 false xs.length, .slice k (g * 4) (xs.length - g) 4 false (xs.length - g), fun G => ?_, fun G => ?_, ?_, fun h => by rw [List.length_drop] at h; omega, ?_⟩
        · rw [hvs]
          show (if 4 = 4 ∧ 0 ≤ g ∧ g ≤ xs.length ∧ xs.length ≤ xs.length then R1.val (AV.slice k (0 + 0 * 4) (g - 0) 4 false (xs.length - 0)) G else R1.fail) = _
          rw [if_pos ⟨rfl, by omega, by omega, by omega⟩]; rfl
        · rw [hvs]
          show (if 4 = 4 ∧ g ≤ xs.length ∧ xs.length ≤ xs.length ∧ xs.length ≤ xs.length then R1.val (AV.slice k (0 + g * 4) (xs.length - g) 4 false (xs.length - g)) G else R1.fail) = _
          rw [if_pos ⟨rfl, by omega, by omega, by omega⟩, Nat.zero_add]
        · refine .inr ⟨k, 0, false, xs.length, by rw [List.length_map, List.length_take, Nat.min_eq_left hgl], hk, fun _ => ⟨0, wr, rows, by omega, hgk, ?_⟩⟩
          rw [List.drop_zero, List.map_take, ← hrow, List.length_take, List.take_take]
          congr 1
          rw [List.length_take]
          have := congrArg List.length hrow
          rw [List.length_take, List.length_map] at this
          omega
        · refine .inr ⟨k, g * 4, false, xs.length - g, by rw [List.length_map, List.length_drop], hk, fun _ => ⟨g, wr, rows, rfl, hgk, ?_⟩⟩
          rw [List.map_drop, ← hrow, List.length_drop, List.length_take, List.drop_take]
          congr 1
          have := congrArg List.length hrow
          rw [List.length_take, List.length_map] at this
          omega
  have hlen1 := fun G => hA1.len G
  simp only [List.length_map, List.length_take, Nat.min_eq_left hgl] at hlen1
  have hren1 := hA1.ren
  simp only [go_sem, C50, hlen, m1, m2, m3]
  refine CL.of (clone_o clo74 (List.length_map ..) (hB.ext _) (by omega) (fun _ _ => Cell.map_rens _ _)) ?_
  rintro _ _ ⟨rfl, rfl⟩
  simp only [go_sem, hlen, m1, m2, m3, hs1, hlen1]
  refine LL.st good_E0 (fun i : Nat => g - i) (fun i => i ≤ g)
    (fun i => [(.z, v), ((.i (.o (.o .z))), .int .i64 g), ((.o (.i (.o .z))), outV (H.key 0) 5 cs.length), ((.o (.o (.o (.i .z)))), w1), ((.i (.o (.o (.i .z)))), .int .i64 g), ((.o (.i (.o (.i .z)))), .int .i64 i)])
    (fun i => [outB 5 ((keepC (xs.take i) cs).map Cell.enc)]) ?_ 0 (σ := [0]) (Wk.of rfl (by decide) (by simp only [go_sem, hren, hren1, outV_ren']) (by simp only [go_sem, keepC, List.foldl_nil, ↓outB_ren', Cell.map_rens, implies_true])) (Nat.zero_le _)
  rintro i hi
  by_cases hlt : i < g
  · obtain ⟨kk, r, ex', cap', wr, rows, hv1, hrho, hgo, hrow⟩ := hA1.at hok (j := i) (by rw [List.length_map, List.length_take]; omega)
    simp only [List.length_map, List.getElem_map, List.length_take, Nat.min_eq_left hgl, List.getElem_take] at hv1 hrow
    have hget : xs[i]? = some (xs[i]'(by omega)) := List.getElem?_eq_getElem (by omega)
    generalize (xs[i]'(by omega)) = e at hrow hget
    have hw := wrap_succ (n := i) (by omega)
    have hci : (i : Int) < (g : Int) := (by omega)
    have hsi : i + 1 ≤ g := (by omega)
    have hcl := keepC_len (xs.take i) cs
    have hnew := keepC_succ hget cs
    generalize keepC (xs.take i) cs = X at hcl hnew
    simp only [go_sem, C50L1, hv1, hci, hsi, hgo, hrow, hw, Evn.enc]
    refine LL.st good_E0 (fun j : Nat => cs.length - j) (fun j => j ≤ cs.length)
      (fun j => [(.z, v), ((.i (.o (.o .z))), .int .i64 g), ((.o (.i (.o .z))), outV (H.key 0) 5 cs.length), ((.o (.o (.i .z))), .ptr (H.key 1) 0), ((.o (.o (.o (.i .z)))), .slice kk (r * 4) g 4 ex' cap'), ((.i (.o (.o (.i .z)))), .int .i64 g), ((.o (.i (.o (.i .z)))), .int .i64 i), ((.i (.i (.i (.i .z)))), .int .i64 cs.length), ((.o (.o (.o (.o (.o .z))))), .int .i64 j)])
      (fun j => [outB 5 ((keepJ e X j).map Cell.enc), .row true 4 [[.str e.key, .int .i64 e.ver, .str e.val, .bool e.del]]]) ?_ 0 (σ := [0, 1]) (Wk.of rfl (by decide) (by simp only [go_sem, hren, hrho, outV_ren']) (by simp only [go_sem, keepJ, ↓outB_ren', Cell.map_rens, implies_true])) (Nat.zero_le _)
    rintro j hj
    by_cases hjt : j < cs.length
    · have hXj : X[j]? = some (X[j]'(by omega)) := List.getElem?_eq_getElem (by omega)
      generalize (X[j]'(by omega)) = c at hXj
      have hKj := keepJ_at (e := e) hXj
      have hKn := keepJ_next (e := e) hXj
      have hKl := keepJ_len e X (j := j) (by omega)
      generalize keepJ e X j = Y at hKj hKn hKl
      have hoB : outB 5 (Y.map Cell.enc) = .row true 5 (Y.map Cell.enc) := outB_pos (by rw [List.length_map]; omega)
      have hoV : outV (H.key 0) 5 cs.length = .slice (H.key 0) 0 cs.length 5 false cs.length := outV_pos (by omega)
      have hrow2 : (Y.map Cell.enc)[j]? = some c.enc := by rw [List.getElem?_map, hKj]; rfl
      have hjw := wrap_succ (n := j) (by omega)
      have hjc : (j : Int) < (cs.length : Int) := (by omega)
      have hjs : j + 1 ≤ cs.length := (by omega)
      simp only [go_sem, C50L0, hjc, hjs, hoV, hoB, hrow2, hjw, Cell.enc]
      have hn1 : outB 5 ((keepJ e X (j + 1)).map Cell.enc) = .row true 5 ((Y.map Cell.enc).set j (flo e c).enc) := by
        rw [hKn, outB_pos (by rw [List.length_map, List.length_set]; omega), List.map_set]
      have hrn : ∀ top σ, List.map (AV.rens (rho H top σ)) ((Y.map Cell.enc).set j (flo e c).enc) = (Y.map Cell.enc).set j (flo e c).enc := fun top σ => by rw [← List.map_set]; exact Cell.map_rens _ _
      refine ⟨fun g1 => ⟨j + 1, by show cs.length - (j + 1) < cs.length - j; omega, hjs, _, [0, 1], rfl, Wk.of rfl (by decide) (by simp only [go_sem, hren, hrho]) ?_⟩, fun g1 => ⟨j + 1, by show cs.length - (j + 1) < cs.length - j; omega, hjs, _, [0, 1], rfl, Wk.of rfl (by decide) (by simp only [go_sem, hren, hrho]) ?_⟩⟩
      · dsimp only
        rw [hn1, ← flo_yes g1]
        refine ⟨fun _ => ?_, fun _ => rfl, trivial⟩
        show some _ = some (Blk.row true 5 (List.map (AV.rens _) _))
        rw [hrn]
      · rw [flo_no g1, set_self hrow2] at hn1 hrn
        dsimp only
        rw [hn1]
        refine ⟨fun _ => ?_, fun _ => rfl, trivial⟩
        show some _ = some (Blk.row true 5 (List.map (AV.rens _) _))
        rw [hrn]
    · have hjc : ¬ (j : Int) < (cs.length : Int) := (by omega)
      simp only [go_sem, C50L0, hjc, hw]
      have hk2 : keepJ e X j = X.map (flo e) := by
        unfold keepJ
        rw [List.take_of_length_le (by omega), List.drop_eq_nil_of_le (by omega), List.append_nil]
      rw [hk2, ← hnew]
      refine ⟨i + 1, by show g - (i + 1) < g - i; omega, ?_, _, [0], rfl, Wk.of rfl (by decide) (by simp only [go_sem, hren, hrho, outV_ren']) (by simp only [go_sem, ↓outB_ren', Cell.map_rens, implies_true])⟩
      exact hsi
  · have hci : ¬ (i : Int) < (g : Int) := (by omega)
    simp only [go_sem, C50L1, hci, hs2]
    obtain rfl : i = g := by omega
    refine CL.of (clone_n clo75 (List.length_map ..) hn2 (hA2.ext _) (by rw [List.length_drop]; omega) (fun _ _ => Evn.map_rens _ _)) ?_
    rintro _ _ ⟨rfl, rfl⟩
    simp only [go_sem]
    exact ⟨_, [0, 1], by simp only [outV_ren', go_sem], rfl, rfl, by decide, by simp only [go_sem, ↓outB_ren', Cell.map_rens, Evn.map_rens, implies_true]⟩
end Go.Proofs
/- cut: what its functions answer, as an oracle; Split: walked. -/

set_option linter.all false
set_option linter.all false
set_option maxRecDepth 100000
namespace Go.Proofs
open Go Go.Ev
variable {H : Heap}

section
variable {α : Type}
/-- the one that is so -/
noncomputable def theO (p : α → Prop) : Option α := open Classical in if h : ∃ x, p x then some (Classical.choose h) else none
theorem theO_eq {p : α → Prop} {x : α} (h : p x) (hu : ∀ y, p y → y = x) : theO p = some x := by
  unfold theO
  have hex : ∃ x, p x := ⟨x, h⟩
  rw [dif_pos hex]
  exact congrArg some (hu _ (Classical.choose_spec hex))
theorem theO_spec {p : α → Prop} {x : α} (h : theO p = some x) : p x := by
  unfold theO at h
  split at h
  · rename_i hex
    cases h
    exact Classical.choose_spec hex
  · cases h
noncomputable def ot (p : α → Prop) (c : α → RC) : RC := match theO p with | some x => c x | none => .fail
theorem ot_eq {p : α → Prop} {x : α} (h : p x) (hu : ∀ y, p y → y = x) (c : α → RC) : ot p c = c x := by
  unfold ot; rw [theO_eq h hu]
theorem ot_ok {p : α → Prop} {c : α → RC} {r : AV} {G : Heap} (h : ot p c = .ok r G) : ∃ x, p x ∧ c x = .ok r G := by
  unfold ot at h
  split at h
  · rename_i x hx
    exact ⟨x, theO_spec hx, h⟩
  · cases h
end
theorem Cell.enc_one {a b : Cell} (h : a.enc = b.enc) : a = b := by
  cases a; cases b; simp [Cell.enc] at h; simp [h]
theorem Evn.enc_one {a b : Evn} (h : a.enc = b.enc) : a = b := by
  cases a; cases b; simp [Evn.enc] at h; simp [h]
theorem cells_uniq {v : AV} {xs ys : List Cell} (h : Arr H 5 v (xs.map Cell.enc)) (h2 : Arr H 5 v (ys.map Cell.enc)) : xs = ys :=
  List.map_inj_right (fun _ _ => Cell.enc_one) |>.1 (Arr.uniq h h2 (by decide))
theorem evs_uniq {v : AV} {xs ys : List Evn} (h : Arr H 4 v (xs.map Evn.enc)) (h2 : Arr H 4 v (ys.map Evn.enc)) : xs = ys :=
  List.map_inj_right (fun _ _ => Evn.enc_one) |>.1 (Arr.uniq h h2 (by decide))
theorem dns_inj : ∀ {l m : List Dn}, l.map Dn.enc = m.map Dn.enc → allOk H l → allOk H m → l = m
  | [], [], _, _, _ => rfl
  | [], _ :: _, h, _, _ => by cases h
  | _ :: _, [], h, _, _ => by cases h
  | x :: l, y :: m, h, ha, hb => by
    rw [List.map_cons, List.map_cons] at h
    injection h with h1 h2
    have h3 := dns_inj h2 (fun d hd => ha d (by simp [hd])) (fun d hd => hb d (by simp [hd]))
    have hx := ha x (by simp)
    have hy := hb y (by simp)
    obtain ⟨xs, xi, xc, xv, xn, xr, xw⟩ := x
    obtain ⟨ys, yi, yc, yv, yn, yr, yw⟩ := y
    simp only [Dn.enc, List.cons.injEq, AV.int.injEq, AV.str.injEq, true_and, and_true] at h1
    obtain ⟨rfl, rfl, rfl, rfl, rfl, rfl⟩ := h1
    have : xr = yr := List.map_inj_right (fun _ _ => Rw.enc_one) |>.1 (Arr.uniq hx.1 hy.1 (by decide))
    rw [this, h3]
theorem Sh.uniq {s t : Sh} (h : s.enc = t.enc) (hs : s.ok H) (ht : t.ok H) : s = t := by
  obtain ⟨id, ep, fr, to, fz, cs, es, ds, cv, ev, dv⟩ := s
  obtain ⟨id', ep', fr', to', fz', cs', es', ds', cv', ev', dv'⟩ := t
  simp only [Sh.enc, List.cons.injEq, AV.int.injEq, AV.str.injEq, AV.bool.injEq, true_and, and_true] at h
  obtain ⟨rfl, rfl, rfl, rfl, rfl, rfl, rfl, rfl⟩ := h
  obtain rfl := cells_uniq hs.c ht.c
  obtain rfl := evs_uniq hs.e ht.e
  obtain rfl := dns_inj (Arr.uniq hs.d ht.d (by decide)) hs.dok ht.dok
  rfl
/-- what is asked of cut's functions -/
def A42 (H : Heap) (args : List AV) (s : Sh) : Prop := args = [.agg s.enc] ∧ s.ok H
def A45 (H : Heap) (args : List AV) (q : Sh × Int × List Nat × List Nat) : Prop := args = [.agg q.1.enc, .int .i64 q.2.1, .agg [.str q.2.2.1, .str q.2.2.2]] ∧ q.1.ok H ∧ q.1.done.length < 100000 ∧ q.1.evs.length < 100000
def A47 (args : List AV) (q : Option Int × Option Int) : Prop := args = [errV q.1, errV q.2]
def A51 (H : Heap) (args : List AV) (q : List Evn × List Evn) : Prop := ∃ k wr ex cap u v, args = [.slice k 0 2 1 ex cap] ∧ H.get k = some (.row wr 1 [[u], [v]]) ∧ k.toNat < H.nx.toNat ∧ Arr H 4 u (q.1.map Evn.enc) ∧ Arr H 4 v (q.2.map Evn.enc) ∧ q.1.length < 10000 ∧ q.2.length < 10000
def A52 (H : Heap) (args : List AV) (q : List Cell × List Cell) : Prop := ∃ k wr ex cap u v, args = [.slice k 0 2 1 ex cap] ∧ H.get k = some (.row wr 1 [[u], [v]]) ∧ k.toNat < H.nx.toNat ∧ Arr H 5 u (q.1.map Cell.enc) ∧ Arr H 5 v (q.2.map Cell.enc) ∧ q.1.length < 10000 ∧ q.2.length < 10000
def A50 (H : Heap) (args : List AV) (q : List Evn × List Cell) : Prop := ∃ k k', args = [outV k 4 q.1.length, outV k' 5 q.2.length, .int .i64 24] ∧ Arr H 4 (outV k 4 q.1.length) (q.1.map Evn.enc) ∧ Arr H 5 (outV k' 5 q.2.length) (q.2.map Cell.enc) ∧ q.1.length < 100000 ∧ q.2.length < 100000
noncomputable def fitsE (s : Sh) : Option Int := if isSh s ∧ ¬ s.frz = true then none else some 10
noncomputable def EP (f : FuncId) (args : List AV) (H : Heap) : RC :=
  match f with
  | 42 => ot (A42 H args) fun s => .ok (errV (fitsE s)) H
  | 45 => ot (A45 H args) fun q => .ok (.agg (partS q.1 q.2.1 q.2.2.1 q.2.2.2 (H.key 0) (H.key 1) (H.key 2)).enc) (H.ext (partB q.1 q.2.2.1 q.2.2.2))
  | 47 => ot (A47 args) fun q => .ok (errV (q.1.or q.2)) H
  | 51 => ot (A51 H args) fun q => .ok (outV H.nx 4 (q.1 ++ q.2).length) (H.ext [outB 4 ((q.1 ++ q.2).map Evn.enc)])
  | 52 => ot (A52 H args) fun q => .ok (outV H.nx 5 (q.1 ++ q.2).length) (H.ext [outB 5 ((q.1 ++ q.2).map Cell.enc)])
  | 50 => ot (A50 H args) fun q => .ok (.tup [outV (H.key 1) 4 (q.1.drop (q.1.length - 24)).length, outV (H.key 0) 5 q.2.length]) (H.ext [outB 5 ((keepC (q.1.take (q.1.length - 24)) q.2).map Cell.enc), outB 4 ((q.1.drop (q.1.length - 24)).map Evn.enc)])
  | _ => .fail
theorem good_EP : Ev.Good Tryd.prog EP := by
  intro f args H r G he φ w args' ha hw
  refine (?_ : FnOk Tryd.prog f args H fun v' G' => v' = r ∧ G' = G).one φ w args' ha hw
  unfold EP at he
  split at he
  · obtain ⟨s, ⟨rfl, h1⟩, hz⟩ := ot_ok he
    clear he
    cases hz
    exact f42_ok h1
  · obtain ⟨q, ⟨rfl, h1, h2, h3⟩, hz⟩ := ot_ok he
    clear he
    cases hz
    exact f45_ok h1 h2 h3 _ _ _
  · obtain ⟨q, rfl, hz⟩ := ot_ok he
    clear he
    cases hz
    exact f47_ok _ _
  · obtain ⟨q, ⟨k, wr, ex, cap, u, v, rfl, h1, h2, h3, h4, h5, h6⟩, hz⟩ := ot_ok he
    clear he
    cases hz
    exact f51_ok h1 h2 h3 h4 h5 h6
  · obtain ⟨q, ⟨k, wr, ex, cap, u, v, rfl, h1, h2, h3, h4, h5, h6⟩, hz⟩ := ot_ok he
    clear he
    cases hz
    exact f52_ok h1 h2 h3 h4 h5 h6
  · obtain ⟨q, ⟨k, k', rfl, h1, h2, h3, h4⟩, hz⟩ := ot_ok he
    clear he
    cases hz
    exact f50_ok rfl rfl h1 h2 h3 h4
  · cases he
theorem e42 {s : Sh} (h : s.ok H) (L : List Blk) : EP 42 [.agg [.int .i64 s.id, .int .i64 s.ep, .str s.fr, .str s.to, .bool s.frz, s.cv, s.ev, s.dv]] (H.ext L) = .ok (errV (fitsE s)) (H.ext L) := by
  show ot (A42 (H.ext L) [.agg s.enc]) (fun s => .ok (errV (fitsE s)) (H.ext L)) = _
  refine ot_eq (p := A42 (H.ext L) [.agg s.enc]) (x := s) ⟨rfl, h.ext L⟩ ?_ _
  rintro t ⟨h1, h2⟩
  injection h1 with h1 _
  injection h1 with h1
  exact (Sh.uniq h1 (h.ext L) h2).symm
theorem e45 {s : Sh} (h : s.ok H) (hd : s.done.length < 100000) (he : s.evs.length < 100000) (id : Int) (f t : List Nat) (L : List Blk) : EP 45 [.agg [.int .i64 s.id, .int .i64 s.ep, .str s.fr, .str s.to, .bool s.frz, s.cv, s.ev, s.dv], .int .i64 id, .agg [.str f, .str t]] (H.ext L) =
    .ok (.agg [.int .i64 id, .int .i64 1, .str f, .str t, .bool false, outV (H.key L.length) 5 (withinL f t s.cells).length, outV (H.key (L.length + 1)) 4 (evW f t s.evs).length, zV (nilB s.dv) (H.key (L.length + 2)) 6 s.done.length]) (H.ext (L ++ partB s f t)) := by
  show ot (A45 (H.ext L) [.agg s.enc, .int .i64 id, .agg [.str f, .str t]]) (fun q => .ok (.agg (partS q.1 q.2.1 q.2.2.1 q.2.2.2 ((H.ext L).key 0) ((H.ext L).key 1) ((H.ext L).key 2)).enc) ((H.ext L).ext (partB q.1 q.2.2.1 q.2.2.2))) = _
  rw [ot_eq (p := A45 (H.ext L) [.agg s.enc, .int .i64 id, .agg [.str f, .str t]]) (x := (s, id, f, t)) ⟨rfl, h.ext L, hd, he⟩, Heap.ext_append, Heap.key_ext, Heap.key_ext, Heap.key_ext]
  · rfl
  · rintro ⟨t', id', f', t2⟩ ⟨h1, h2, _, _⟩
    injection h1 with h1 h3
    injection h3 with h3 h4
    injection h4 with h4 _
    injection h1 with h1
    injection h3 with _ h3
    injection h4 with h4
    injection h4 with h4 h5
    injection h5 with h5 _
    injection h4 with h4
    injection h5 with h5
    rw [Sh.uniq h1 (h.ext L) h2, h3, h4, h5]
theorem errV_inj {a b : Option Int} (h : errV a = errV b) : a = b := by
  cases a <;> cases b <;> simp [errV] at h ⊢ <;> exact h
theorem e47 (a b : Option Int) (H : Heap) : EP 47 [errV a, errV b] H = .ok (errV (a.or b)) H := by
  show ot (A47 [errV a, errV b]) (fun q => .ok (errV (q.1.or q.2)) H) = _
  rw [ot_eq (p := A47 [errV a, errV b]) (x := (a, b)) rfl]
  rintro ⟨a', b'⟩ h
  injection h with h h2
  injection h2 with h2 _
  rw [errV_inj h, errV_inj h2]
theorem outV_inj {k k' : K} {e n m : Nat} (h : outV k e n = outV k' e m) : n = m := by
  cases n <;> cases m <;> simp [outV] at h ⊢
  exact h.2
theorem e51 {xs ys : List Evn} {u v : AV} (hA : Arr H 4 u (xs.map Evn.enc)) (hB : Arr H 4 v (ys.map Evn.enc)) (hx : xs.length < 10000) (hy : ys.length < 10000) (ex : Bool) (cap : Nat) (L : List Blk) (i : Nat) (hi : L[i]? = some (.row true 1 [[u], [v]])) :
    EP 51 [.slice (H.key i) 0 2 1 ex cap] (H.ext L) = .ok (outV (H.key L.length) 4 (xs ++ ys).length) (H.ext (L ++ [outB 4 ((xs ++ ys).map Evn.enc)])) := by
  show ot (A51 (H.ext L) [.slice (H.key i) 0 2 1 ex cap]) (fun q => .ok (outV (H.ext L).nx 4 (q.1 ++ q.2).length) ((H.ext L).ext [outB 4 ((q.1 ++ q.2).map Evn.enc)])) = _
  have hil := (List.getElem?_eq_some_iff.1 hi).1
  have hg : (H.ext L).get (H.key i) = some (.row true 1 [[u], [v]]) := by rw [Heap.get_ext_key _ _ _ hil, hi]
  rw [ot_eq (p := A51 (H.ext L) [.slice (H.key i) 0 2 1 ex cap]) (x := (xs, ys)) ⟨_, _, _, _, _, _, rfl, hg, (by rw [Heap.nx_ext, Heap.toNat_key, Heap.toNat_key]; omega), hA.ext L, hB.ext L, hx, hy⟩, Heap.nx_ext, Heap.ext_append]
  rintro ⟨xs', ys'⟩ ⟨k, wr, ex', cap', u', v', h1, h2, _, h3, h4, _, _⟩
  injection h1 with h1 _
  injection h1 with h1
  subst h1
  rw [hg] at h2
  cases h2
  rw [evs_uniq (hA.ext L) h3, evs_uniq (hB.ext L) h4]
theorem e52 {xs ys : List Cell} {u v : AV} (hA : Arr H 5 u (xs.map Cell.enc)) (hB : Arr H 5 v (ys.map Cell.enc)) (hx : xs.length < 10000) (hy : ys.length < 10000) (ex : Bool) (cap : Nat) (L : List Blk) (i : Nat) (hi : L[i]? = some (.row true 1 [[u], [v]])) :
    EP 52 [.slice (H.key i) 0 2 1 ex cap] (H.ext L) = .ok (outV (H.key L.length) 5 (xs ++ ys).length) (H.ext (L ++ [outB 5 ((xs ++ ys).map Cell.enc)])) := by
  show ot (A52 (H.ext L) [.slice (H.key i) 0 2 1 ex cap]) (fun q => .ok (outV (H.ext L).nx 5 (q.1 ++ q.2).length) ((H.ext L).ext [outB 5 ((q.1 ++ q.2).map Cell.enc)])) = _
  have hil := (List.getElem?_eq_some_iff.1 hi).1
  have hg : (H.ext L).get (H.key i) = some (.row true 1 [[u], [v]]) := by rw [Heap.get_ext_key _ _ _ hil, hi]
  rw [ot_eq (p := A52 (H.ext L) [.slice (H.key i) 0 2 1 ex cap]) (x := (xs, ys)) ⟨_, _, _, _, _, _, rfl, hg, (by rw [Heap.nx_ext, Heap.toNat_key, Heap.toNat_key]; omega), hA.ext L, hB.ext L, hx, hy⟩, Heap.nx_ext, Heap.ext_append]
  rintro ⟨xs', ys'⟩ ⟨k, wr, ex', cap', u', v', h1, h2, _, h3, h4, _, _⟩
  injection h1 with h1 _
  injection h1 with h1
  subst h1
  rw [hg] at h2
  cases h2
  rw [cells_uniq (hA.ext L) h3, cells_uniq (hB.ext L) h4]
theorem e50 {xs : List Evn} {cs : List Cell} (hx : xs.length < 100000) (hc : cs.length < 100000) (L : List Blk) (i j : Nat) (hi : L[i]? = some (outB 4 (xs.map Evn.enc))) (hj : L[j]? = some (outB 5 (cs.map Cell.enc))) :
    EP 50 [outV (H.key i) 4 xs.length, outV (H.key j) 5 cs.length, .int .i64 24] (H.ext L) = .ok (.tup [outV (H.key (L.length + 1)) 4 (xs.drop (xs.length - 24)).length, outV (H.key L.length) 5 cs.length]) (H.ext (L ++ [outB 5 ((keepC (xs.take (xs.length - 24)) cs).map Cell.enc), outB 4 ((xs.drop (xs.length - 24)).map Evn.enc)])) := by
  show ot (A50 (H.ext L) [outV (H.key i) 4 xs.length, outV (H.key j) 5 cs.length, .int .i64 24]) (fun q => .ok (.tup [outV ((H.ext L).key 1) 4 (q.1.drop (q.1.length - 24)).length, outV ((H.ext L).key 0) 5 q.2.length]) ((H.ext L).ext [outB 5 ((keepC (q.1.take (q.1.length - 24)) q.2).map Cell.enc), outB 4 ((q.1.drop (q.1.length - 24)).map Evn.enc)])) = _
  have h1 : Arr (H.ext L) 4 (outV (H.key i) 4 xs.length) (xs.map Evn.enc) := arr_outV hi (List.length_map ..)
  have h2 : Arr (H.ext L) 5 (outV (H.key j) 5 cs.length) (cs.map Cell.enc) := arr_outV hj (List.length_map ..)
  rw [ot_eq (p := A50 (H.ext L) [outV (H.key i) 4 xs.length, outV (H.key j) 5 cs.length, .int .i64 24]) (x := (xs, cs)) ⟨_, _, rfl, h1, h2, hx, hc⟩, Heap.key_ext, Heap.key_ext, Heap.ext_append]
  · rfl
  rintro ⟨xs', ys'⟩ ⟨k, k', h3, h4, h5, _, _⟩
  injection h3 with h3 h6
  injection h6 with h6 _
  rw [← h3] at h4
  rw [← h6] at h5
  rw [evs_uniq h1 h4, cells_uniq h2 h5]
end Go.Proofs
/- cut.Split: walked. -/

set_option linter.all false
set_option linter.all false
set_option maxRecDepth 100000
namespace Go.Proofs
open Go Go.Ev
variable {H : Heap}

def zeroS : AV := .agg [.int .i64 0, .int .i64 0, .str [], .str [], .bool false, .nils, .nils, .nils]
def okSplit (s : Sh) (l r : Int) : Prop := (isSh s ∧ ¬ s.frz = true) ∧ isID l ∧ isID r ∧ ¬ l = r
def inSplit (s : Sh) (k : List Nat) : Prop := has s.fr s.to k ∧ ltS s.fr k
noncomputable def splitV (H : Heap) (s : Sh) (k : List Nat) (l r : Int) : AV := open Classical in
  if okSplit s l r then (if inSplit s k then .tup [.agg (partS s l s.fr k (H.key 0) (H.key 1) (H.key 2)).enc, .agg (partS s r k s.to (H.key 3) (H.key 4) (H.key 5)).enc, .nili] else .tup [zeroS, zeroS, .iface 71 (.int .i64 22)]) else .tup [zeroS, zeroS, .iface 71 (.int .i64 10)]
noncomputable def splitB (s : Sh) (k : List Nat) (l r : Int) : List Blk := open Classical in
  if okSplit s l r ∧ inSplit s k then partB s s.fr k ++ partB s k s.to else []
theorem f21_ok {s : Sh} (h : s.ok H) (hd : s.done.length < 100000) (he : s.evs.length < 100000) (k : List Nat) (l r : Int) :
    FnOk Tryd.prog 21 [.agg s.enc, .str k, .int .i64 l, .int .i64 r] H fun v G => v = splitV H s k l r ∧ G = H.ext (splitB s k l r) := by
  refine FnOk.assume fun hok => ?_
  refine FnOk.dropW ?_
  refine FnOk.of_WW Tryd.func21 rfl C21ok R21ok EP good_EP ?_
  have cren := h.c.ren
  have eren := h.e.ren
  have dren := h.d.ren
  have drens := h.dok.rens
  have hbad : ¬ okSplit s l r → ∀ L, ∃ l_1 σ, AV.tup [zeroS, zeroS, .iface 71 (.int .i64 10)] = AV.ren (rho H l_1.length σ) (splitV H s k l r) ∧ H.ext L = H.ext l_1 ∧ (splitB s k l r).length = σ.length ∧ σ.Nodup ∧ WkB l_1 (rho H l_1.length σ) (splitB s k l r) σ := fun g L => by
    unfold splitV splitB
    rw [if_neg g, if_neg fun h => g h.1]
    exact ⟨L, [], by simp only [zeroS, AV.ren, AV.rens], rfl, rfl, by decide, by simp only [go_sem]⟩
  simp only [zeroS] at hbad
  simp only [go_sem, C21, Sh.enc]
  refine CL.of (f42_ok (h.ext _)) ?_
  rintro _ G' ⟨rfl, hG⟩
  rw [hG]
  clear hG
  simp only [go_sem]
  refine CL.bool (f32_ok _ 10) (fun g => ?_) (fun g => ?_)
  · simp only [go_sem]
    exact hbad (fun h => by rw [if_pos h.1] at g; cases g) _
  have hok1 : isSh s ∧ ¬ s.frz = true := Classical.byContradiction fun h => g (if_neg h)
  rw [if_pos hok1]
  simp only [go_sem, errV]
  refine CL.bool (f43_ok l) (fun g1 => ?_) (fun g1 => ?_)
  rotate_left
  · simp only [go_sem]
    exact hbad (fun h => g1 h.2.1) _
  simp only [go_sem]
  refine CL.bool (f43_ok r) (fun g2 => ?_) (fun g2 => ?_)
  rotate_left
  · simp only [go_sem]
    exact hbad (fun h => g2 h.2.2.1) _
  simp only [go_sem]
  refine ⟨fun g3 => hbad (fun h => h.2.2.2 g3) _, fun g3 => ?_⟩
  have hoks : okSplit s l r := ⟨hok1, g1, g2, g3⟩
  refine CL.of (f44_ok s.fr s.to k) ?_
  rintro _ G' ⟨rfl, hG⟩
  rw [hG]
  clear hG
  by_cases hin : has s.fr s.to k ∧ ltS s.fr k
  · rw [if_pos hin]
    have e1 := e45 h hd he l s.fr k
    have e2 := e45 h hd he r k s.to
    simp only [partB] at e1 e2
    simp only [go_sem, e1, e2]
    unfold splitV splitB
    rw [if_pos hoks, if_pos (show inSplit s k from hin), if_pos ⟨hoks, hin⟩]
    exact ⟨_, [5, 6, 7, 8, 9, 10], by simp only [partS, Sh.enc, outV_ren', zV_ren, go_sem], rfl, rfl, by decide, by simp only [partB, go_sem, ↓outB_ren', ↓zB_ren, drens, Cell.map_rens, Evn.map_rens, implies_true]⟩
  · rw [if_neg hin]
    simp only [go_sem]
    unfold splitV splitB
    rw [if_pos hoks, if_neg (show ¬ inSplit s k from hin), if_neg fun h => hin h.2]
    exact ⟨_, [], by simp only [zeroS, AV.ren, AV.rens], rfl, rfl, by decide, by simp only [go_sem]⟩
/-- what two shards are joined -/
def okJoin (s t : Sh) (id : Int) : Prop := (isSh s ∧ ¬ s.frz = true) ∧ (isSh t ∧ ¬ t.frz = true) ∧ isID id
def meets (s t : Sh) : Prop := isSpan s.fr s.to ∧ isSpan t.fr t.to ∧ ¬ s.to = [] ∧ s.to = t.fr
def joinEvs (s t : Sh) : List Evn := (s.evs ++ t.evs).drop ((s.evs ++ t.evs).length - 24)
def joinCells (s t : Sh) : List Cell := keepC ((s.evs ++ t.evs).take ((s.evs ++ t.evs).length - 24)) (s.cells ++ t.cells)
noncomputable def joinS (z : Bool) (s t : Sh) (id : Int) (k0 k1 k2 : K) : Sh := ⟨id, 1, s.fr, t.to, false, joinCells s t, joinEvs s t, joinP s.done t.done, outV k0 5 (s.cells ++ t.cells).length, outV k1 4 (joinEvs s t).length, zV z k2 6 (joinP s.done t.done).length⟩
noncomputable def joinV (H : Heap) (z : Bool) (s t : Sh) (id : Int) : AV := open Classical in
  if okJoin s t id then (if meets s t then .tup [.agg (joinS z s t id (H.key 0) (H.key 1) (H.key 2)).enc, .nili] else .tup [zeroS, .iface 71 (.int .i64 22)]) else .tup [zeroS, .iface 71 (.int .i64 10)]
noncomputable def joinB (z : Bool) (s t : Sh) (id : Int) : List Blk := open Classical in
  if okJoin s t id ∧ meets s t then [outB 5 ((joinCells s t).map Cell.enc), outB 4 ((joinEvs s t).map Evn.enc), zB z 6 ((joinP s.done t.done).map Dn.enc)] else []
end Go.Proofs
/- cut.Join: walked. -/

set_option linter.all false
set_option linter.all false
set_option maxRecDepth 100000
namespace Go.Proofs
open Go Go.Ev
variable {H : Heap}

theorem f53_at {u v : AV} {l b : List Dn} (hA : Arr H 6 v (l.map Dn.enc)) (hB : Arr H 6 u (b.map Dn.enc)) (ha : allOk H l) (hb : allOk H b) (hup : upD b) (hl : l.length < 100000) (hbl : b.length < 100000) :
    FnOk Tryd.prog 53 [v, u] H fun r G => r = zV (nilB u) H.nx 6 (joinP l b).length ∧ G = H.ext [zB (nilB u) 6 ((joinP l b).map Dn.enc)] := by
  refine FnOk.assume fun hok => ?_
  refine FnOk.dropZd (List.length_map ..) (joinP_ok ha hb).rens ?_
  refine FnOk.of_WW Tryd.func53 rfl C53ok R53ok E0 good_E0 ?_
  have hlen := fun G => hA.len G; simp only [List.length_map] at hlen; have hren := hA.ren
  simp only [go_sem, C53]
  refine CL.of (clone_zd clo57 (hB.ext _) (by rw [List.length_map]; omega) (hb.ext _).rens) ?_
  rintro _ _ ⟨rfl, rfl⟩
  generalize nilB u = z
  simp only [go_sem, List.length_map, hlen]
  have hokP : ∀ i, allOk H (joinP (l.take i) b) := fun i => joinP_ok (fun d hd => ha d (List.mem_of_mem_take hd)) hb
  refine LL.st good_E0 (fun i : Nat => l.length - i) (fun i => i ≤ l.length)
    (fun i => [((.o (.i .z)), zV z (H.key 0) 6 (joinP (l.take i) b).length), ((.i (.i (.o .z))), v), ((.o (.o (.i .z))), .int .i64 l.length), ((.i (.o (.i .z))), .int .i64 i)])
    (fun i => [zB z 6 ((joinP (l.take i) b).map Dn.enc)]) ?_ 0 (σ := [0]) (Wk.of rfl (by decide) (by simp only [go_sem, hren, zV_ren, joinP, List.foldl_nil]) (by simp only [go_sem, joinP, List.foldl_nil, ↓zB_ren, hb.rens, implies_true])) (Nat.zero_le _)
  rintro i hi
  by_cases hlt : i < l.length
  · obtain ⟨kk, r, ex', cap', wr, rows, hv, hrho, hgo, hrow⟩ := hA.at hok (j := i) (by rw [List.length_map]; exact hlt); simp only [List.length_map, List.getElem_map] at hv hrow; cases hv; have hget : l[i]? = some l[i] := List.getElem?_eq_getElem hlt; generalize l[i] = c at hrow hget; have hw := wrap_succ (n := i) (by omega); have hci : (i : Int) < (l.length : Int) := (by omega); have hsi : i + 1 ≤ l.length := (by omega)
    have hco := ha c (List.mem_of_getElem? hget)
    have hupP : upD (joinP (l.take i) b) := joinP_up hup
    have hnew := joinP_succ (b := b) hget
    have hln := joinP_len (a := l.take i) (b := b)
    rw [List.length_take] at hln
    have hoi := hokP i
    have hoi2 := (hokP (i + 1)).rens
    generalize joinP (l.take i) b = acc at hupP hnew hln hoi ⊢
    rw [hnew] at hoi2
    simp only [go_sem, C53L0, hci, hsi, hgo, hrow, hw, Dn.enc]
    refine CL.of (f78_ok (l := acc) (d := c) (arr_zV rfl (List.length_map ..)) (hoi.ext _) (hco.ext _) hupP (by omega)) ?_
    rintro _ _ ⟨rfl, rfl⟩
    simp only [go_sem, hw]
    have hwp := withD_pos (l := acc) (d := c)
    have hz : outV (H.key 2) 6 (withD acc c).length = zV z (H.key 2) 6 (withD acc c).length := by rw [outV_pos hwp, zV_pos hwp]
    have hz2 : outB 6 ((withD acc c).map Dn.enc) = zB z 6 ((withD acc c).map Dn.enc) := by rw [outB_pos (by rw [List.length_map]; exact hwp), zB_pos (by rw [List.length_map]; exact hwp)]
    rw [hz, hz2]
    refine ⟨i + 1, by show l.length - (i + 1) < l.length - i; omega, ?_, _, [2], rfl, Wk.of rfl (by decide) (by simp only [go_sem, zV_ren, hrho, hnew, hw]) (by simp only [go_sem, ↓zB_ren, hoi2, implies_true, hnew])⟩
    show i + 1 ≤ l.length
    omega
  · have hci : ¬ (i : Int) < (l.length : Int) := by omega
    simp only [go_sem, C53L0, hci]
    rw [List.take_of_length_le (by omega)]
    exact ⟨_, 0, rfl, rfl, fun _ => rfl⟩
theorem f23_ok {s t : Sh} (h : s.ok H) (h2 : t.ok H) (hsd : s.done.length < 100000) (htd : t.done.length < 100000) (hsc : s.cells.length < 10000) (htc : t.cells.length < 10000) (hse : s.evs.length < 10000) (hte : t.evs.length < 10000) (id : Int) :
    FnOk Tryd.prog 23 [.agg s.enc, .agg t.enc, .int .i64 id] H fun v G => v = joinV H (nilB t.dv) s t id ∧ G = H.ext (joinB (nilB t.dv) s t id) := by
  refine FnOk.assume fun hok => ?_
  refine FnOk.dropW ?_
  refine FnOk.of_WW Tryd.func23 rfl C23ok R23ok EP good_EP ?_
  have e1 := e42 h
  have e2 := e42 h2
  have hbad : ¬ okJoin s t id → ∀ L, ∃ l_1 σ, AV.tup [zeroS, .iface 71 (.int .i64 10)] = AV.ren (rho H l_1.length σ) (joinV H (nilB t.dv) s t id) ∧ H.ext L = H.ext l_1 ∧ (joinB (nilB t.dv) s t id).length = σ.length ∧ σ.Nodup ∧ WkB l_1 (rho H l_1.length σ) (joinB (nilB t.dv) s t id) σ := fun g L => by
    unfold joinV joinB
    rw [if_neg g, if_neg fun h => g h.1]
    exact ⟨L, [], by simp only [zeroS, AV.ren, AV.rens], rfl, rfl, by decide, by simp only [go_sem]⟩
  simp only [zeroS] at hbad
  simp only [go_sem, C23, Sh.enc, e1, e2, e47]
  by_cases g1 : isSh s ∧ ¬ s.frz = true
  rotate_left
  · have q1 : fitsE s = some 10 := if_neg g1
    simp only [go_sem, q1, Option.or, errV]
    exact hbad (fun h => g1 h.1) _
  by_cases g2 : isSh t ∧ ¬ t.frz = true
  rotate_left
  · have q1 : fitsE s = none := if_pos g1
    have q2 : fitsE t = some 10 := if_neg g2
    simp only [go_sem, q1, q2, Option.or, errV]
    exact hbad (fun h => g2 h.2.1) _
  have q1 : fitsE s = none := if_pos g1
  have q2 : fitsE t = none := if_pos g2
  simp only [go_sem, q1, q2, Option.or, errV]
  refine CL.bool (f43_ok id) (fun g3 => ?_) (fun g3 => ?_)
  rotate_left
  · simp only [go_sem]
    exact hbad (fun h => g3 h.2.2) _
  have hoks : okJoin s t id := ⟨g1, g2, g3⟩
  simp only [go_sem]
  refine CL.bool (f48_ok s.fr s.to t.fr t.to) (fun g4 => ?_) (fun g4 => ?_)
  rotate_left
  · simp only [go_sem]
    unfold joinV joinB
    rw [if_pos hoks, if_neg (show ¬ meets s t from g4), if_neg fun h => g4 h.2]
    exact ⟨_, [], by simp only [zeroS, AV.ren, AV.rens], rfl, rfl, by decide, by simp only [go_sem]⟩
  simp only [go_sem]
  refine CL.of (f49_ok id 1 s.fr t.to) ?_
  rintro _ G' ⟨rfl, hG⟩
  rw [hG]
  clear hG
  have i51 := e51 h.e h2.e hse hte
  have i52 := e52 h.c h2.c hsc htc
  obtain ⟨xs, hxs⟩ : ∃ xs, xs = s.evs ++ t.evs := ⟨_, rfl⟩
  obtain ⟨cs, hcs⟩ : ∃ cs, cs = s.cells ++ t.cells := ⟨_, rfl⟩
  rw [← hxs] at i51
  rw [← hcs] at i52
  have i50 := e50 (H := H) (xs := xs) (cs := cs) (by rw [hxs, List.length_append]; omega) (by rw [hcs, List.length_append]; omega)
  simp only [go_sem, i51, i52, i50, arr_one h.c, arr_one h2.c, arr_one h.e, arr_one h2.e, arr_agg h.c, arr_agg h2.c, arr_agg h.e, arr_agg h2.e]
  have hrd := (joinP_ok h.dok h2.dok).rens
  refine CL.of (f53_at (h.d.ext _) (h2.d.ext _) (h.dok.ext _) (h2.dok.ext _) g2.1.2.2.2.2.2.upDD hsd htd) ?_
  rintro _ _ ⟨rfl, rfl⟩
  simp only [go_sem]
  unfold joinV joinB
  rw [if_pos hoks, if_pos (show meets s t from g4), if_pos ⟨hoks, g4⟩]
  unfold joinS joinEvs joinCells
  rw [← hxs, ← hcs]
  exact ⟨_, [8, 9, 10], by simp only [Sh.enc, outV_ren', zV_ren, go_sem], rfl, rfl, by decide, by simp only [go_sem, ↓outB_ren', ↓zB_ren, hrd, Cell.map_rens, Evn.map_rens, implies_true]⟩
end Go.Proofs
/- cut: the plain law of parts. -/

set_option linter.all false
set_option linter.all false
set_option maxRecDepth 100000
namespace Go.Proofs
open Go Go.Ev
variable {H : Heap}

noncomputable def laterO : Option Dn → Option Dn → Option Dn
  | none, y => y
  | some x, none => some x
  | some x, some y => some (lateD y x)
theorem find_with {l : List Dn} {x : Dn} (h : upD l) (s : Int) : findD (withD l x) s = if x.ses = s then laterO (some x) (findD l s) else findD l s := by
  rw [withD, findD_put lateD_ses h]
  cases findD l s <;> rfl
theorem join_self : ∀ {m a : List Dn}, upD a → (∀ d ∈ m, d ∈ a) → joinP m a = a
  | [], a, _, _ => rfl
  | x :: m, a, h, hm => by
    have hx : withD a x = a := by
      refine upD_ext (withD_up h) h fun k => ?_
      rw [find_with h]
      by_cases e : x.ses = k
      · subst e
        rw [if_pos rfl, findD_at h (hm x (by simp))]
        show some (lateD x x) = _
        rw [lateD, if_pos (Int.le_refl _)]
      · rw [if_neg e]
    show joinP m (withD a x) = a
    rw [hx]
    exact join_self h fun d hd => hm d (by simp [hd])
theorem isIdx_pair {l : List Cell} (h : isIdx l) : List.Pairwise (fun x y => ltS x.key y.key) l := by
  have key : ∀ (n i : Nat) (c d : Cell), l[i]? = some c → l[i + n + 1]? = some d → ltS c.key d.key := by
    intro n
    induction n with
    | zero =>
      intro i c d hc hd
      obtain ⟨d', h1, _, h2⟩ := h (i + 1) (List.getElem?_eq_some_iff.1 hd).1
      rw [show i + 0 + 1 = i + 1 from rfl, h1] at hd; cases hd
      obtain ⟨c', h3, h4⟩ := h2 (by omega)
      rw [Nat.add_sub_cancel, hc] at h3; cases h3
      exact h4
    | succ n ih =>
      intro i c d hc hd
      have hi := (List.getElem?_eq_some_iff.1 hd).1
      obtain ⟨e, he⟩ : ∃ e, l[i + 1]? = some e := ⟨_, List.getElem?_eq_getElem (by omega)⟩
      obtain ⟨e', h1, _, h2⟩ := h (i + 1) (by omega)
      rw [he] at h1; cases h1
      obtain ⟨c', h3, h4⟩ := h2 (by omega)
      rw [Nat.add_sub_cancel, hc] at h3; cases h3
      exact ltS_trans h4 (ih (i + 1) e d he (by rw [← hd]; congr 1; omega))
  rw [List.pairwise_iff_getElem]
  intro i j hi hj hij
  exact key (j - i - 1) i _ _ (List.getElem?_eq_getElem hi) (by rw [show i + (j - i - 1) + 1 = j by omega]; exact List.getElem?_eq_getElem hj)
abbrev Ord (l : List Cell) : Prop := List.Pairwise (fun x y : Cell => ltS x.key y.key) l
theorem isIdx_all {l : List Cell} (h : isIdx l) : ∀ c ∈ l, cellIs c := fun c hc => h.cell hc
theorem isIdx_of {l : List Cell} (h : ∀ c ∈ l, cellIs c) (ho : Ord l) : isIdx l := by
  intro j hj
  refine ⟨l[j], List.getElem?_eq_getElem hj, h _ (List.getElem_mem hj), fun h0 => ⟨l[j - 1], List.getElem?_eq_getElem (by omega), ?_⟩⟩
  exact (List.pairwise_iff_getElem.1 ho) (j - 1) j (by omega) hj (by omega)
theorem isIdx_filter {l : List Cell} (h : isIdx l) (p : Cell → Bool) : isIdx (l.filter p) :=
  isIdx_of (fun c hc => isIdx_all h c (List.mem_filter.1 hc).1) ((isIdx_pair h).filter p)
theorem getL_true {k : List Nat} : ∀ {l : List Cell}, (getL l k).2 = true ↔ ∃ c ∈ l, c.key = k
  | [] => by simp [getL]
  | c :: l => by
    rw [getL]
    by_cases h : c.key = k
    · rw [if_pos h]; exact ⟨fun _ => ⟨c, by simp, h⟩, fun _ => rfl⟩
    · rw [if_neg h, getL_true]
      constructor
      · rintro ⟨d, h1, h2⟩; exact ⟨d, by simp [h1], h2⟩
      · rintro ⟨d, h1, h2⟩
        rcases List.mem_cons.1 h1 with rfl | h1
        · exact absurd h2 h
        · exact ⟨d, h1, h2⟩
theorem runR_filter {c : Cell} {p : Evn → Bool} : ∀ {l : List Evn} {v : Int}, (∀ e ∈ l, e.key = c.key → p e = true) → runR c (l.filter p) v = runR c l v
  | [], v, _ => rfl
  | e :: l, v, h => by
    have h' : ∀ e ∈ l, e.key = c.key → p e = true := fun e he => h e (by simp [he])
    by_cases hk : e.key = c.key
    · rw [List.filter_cons_of_pos (h e (by simp) hk), runR, runR, if_pos hk, if_pos hk]
      split
      · exact runR_filter h'
      · rfl
    · rw [runR, if_neg hk]
      by_cases hp : p e = true
      · rw [List.filter_cons_of_pos hp, runR, if_neg hk, runR_filter h']
      · rw [List.filter_cons_of_neg hp, runR_filter h']
theorem runR_none {c : Cell} : ∀ {l : List Evn} {v : Int}, (∀ e ∈ l, ¬ e.key = c.key) → runR c l v = some v
  | [], v, _ => rfl
  | e :: l, v, h => by
    rw [runR, if_neg (h e (by simp)), runR_none fun e he => h e (by simp [he])]
theorem runR_append {c : Cell} : ∀ {a b : List Evn} {v : Int}, runR c (a ++ b) v = (runR c a v).bind fun w => runR c b w
  | [], b, v => rfl
  | e :: a, b, v => by
    rw [List.cons_append, runR, runR]
    split
    · split
      · exact runR_append
      · rfl
    · exact runR_append
theorem split_sorted {k : List Nat} : ∀ {l : List Cell}, Ord l → l.filter (fun c => decide (ltS c.key k)) ++ l.filter (fun c => decide (¬ ltS c.key k)) = l
  | [], _ => rfl
  | c :: l, h => by
    obtain ⟨h1, h2⟩ := List.pairwise_cons.1 h
    by_cases hc : ltS c.key k
    · rw [List.filter_cons_of_pos (by simpa using hc), List.filter_cons_of_neg (by simpa using hc), List.cons_append, split_sorted h2]
    · have hall : ∀ d ∈ l, ¬ ltS d.key k := fun d hd g => hc (ltS_trans (h1 d hd) g)
      rw [List.filter_cons_of_neg (by simpa using hc), List.filter_cons_of_pos (by simpa using hc), List.filter_eq_nil_iff.2 (fun d hd => by simpa using hall d hd), List.nil_append, List.filter_eq_self.2 (fun d hd => by simpa using hall d hd)]
theorem filter_len {α : Type} {p : α → Bool} : ∀ {l : List α}, (l.filter p).length + (l.filter fun x => !p x).length = l.length
  | [] => rfl
  | x :: l => by
    have := filter_len (p := p) (l := l)
    by_cases h : p x = true
    · rw [List.filter_cons_of_pos h, List.filter_cons_of_neg (by simp [h]), List.length_cons, List.length_cons]; omega
    · rw [List.filter_cons_of_neg h, List.filter_cons_of_pos (by simp [h]), List.length_cons, List.length_cons]; omega
section
variable {s : Sh} {k : List Nat}
theorem inSplit.key (h : inSplit s k) : isKey k := h.1.2.1
theorem inSplit.lo (h : inSplit s k) : isSpan s.fr k := ⟨h.1.1.1, h.key.2, .inr h.2⟩
theorem inSplit.hi (h : inSplit s k) : isSpan k s.to := ⟨h.key.2, h.1.1.2.1, h.1.2.2.2⟩
theorem has_lo (h : inSplit s k) {key : List Nat} : has s.fr k key ↔ has s.fr s.to key ∧ ltS key k := by
  constructor
  · rintro ⟨_, h2, h3, h4⟩
    have h4 : ltS key k := h4.resolve_left h.key.1
    exact ⟨⟨h.1.1, h2, h3, h.1.2.2.2.imp id fun g => ltS_trans h4 g⟩, h4⟩
  · rintro ⟨⟨_, h2, h3, _⟩, h4⟩
    exact ⟨h.lo, h2, h3, .inr h4⟩
theorem has_hi (h : inSplit s k) {key : List Nat} : has k s.to key ↔ has s.fr s.to key ∧ ¬ ltS key k := by
  constructor
  · rintro ⟨_, h2, h3, h4⟩
    exact ⟨⟨h.1.1, h2, fun g => h3 (ltS_trans g h.2), h4⟩, h3⟩
  · rintro ⟨⟨_, h2, _, h4⟩, h3⟩
    exact ⟨h.hi, h2, h3, h4⟩
theorem ev_has (hs : isSh s) {e : Evn} (he : e ∈ s.evs) : has s.fr s.to e.key := by
  obtain ⟨c, h1, h2⟩ := getL_true.1 (hs.2.2.2.2.1.2.1 e he).1
  rw [← h2]
  exact hs.2.2.1 c h1
theorem cells_lo (hs : isSh s) (h : inSplit s k) : withinL s.fr k s.cells = s.cells.filter (fun c => decide (ltS c.key k)) :=
  List.filter_congr fun c hc => by
    have := hs.2.2.1 c hc
    exact decide_eq_decide.2 ((has_lo h).trans ⟨fun g => g.2, fun g => ⟨this, g⟩⟩)
theorem cells_hi (hs : isSh s) (h : inSplit s k) : withinL k s.to s.cells = s.cells.filter (fun c => decide (¬ ltS c.key k)) :=
  List.filter_congr fun c hc => by
    have := hs.2.2.1 c hc
    exact decide_eq_decide.2 ((has_hi h).trans ⟨fun g => g.2, fun g => ⟨this, g⟩⟩)
theorem cells_all (hs : isSh s) (h : inSplit s k) : withinL s.fr k s.cells ++ withinL k s.to s.cells = s.cells := by
  rw [cells_lo hs h, cells_hi hs h, split_sorted (isIdx_pair hs.2.2.2.2.1.1)]
theorem evs_lo (hs : isSh s) (h : inSplit s k) : evW s.fr k s.evs = s.evs.filter (fun c => decide (ltS c.key k)) :=
  List.filter_congr fun c hc => by
    have := ev_has hs hc
    exact decide_eq_decide.2 ((has_lo h).trans ⟨fun g => g.2, fun g => ⟨this, g⟩⟩)
theorem evs_hi (hs : isSh s) (h : inSplit s k) : evW k s.to s.evs = s.evs.filter (fun c => !decide (ltS c.key k)) :=
  List.filter_congr fun c hc => by
    have := ev_has hs hc
    rw [← decide_not]
    exact decide_eq_decide.2 ((has_hi h).trans ⟨fun g => g.2, fun g => ⟨this, g⟩⟩)
theorem evs_len (hs : isSh s) (h : inSplit s k) : (evW s.fr k s.evs).length + (evW k s.to s.evs).length = s.evs.length := by
  rw [evs_lo hs h, evs_hi hs h]; exact filter_len
/-- what has happened is that of the cells within -/
theorem hist_part (hs : isSh s) (f t : List Nat) : isHist (evW f t s.evs) (withinL f t s.cells) := by
  have hh := hs.2.2.2.2.1
  refine ⟨isIdx_filter hh.1 _, fun e he => ?_, fun c hc => ?_⟩
  · obtain ⟨h1, h2⟩ := List.mem_filter.1 he
    obtain ⟨c, h3, h4⟩ := getL_true.1 (hh.2.1 e h1).1
    exact ⟨getL_true.2 ⟨c, List.mem_filter.2 ⟨h3, by rw [h4]; exact h2⟩, h4⟩, (hh.2.1 e h1).2⟩
  · obtain ⟨h1, h2⟩ := List.mem_filter.1 hc
    have := ofH_iff.1 (hh.2.2 c h1)
    rw [ofH_iff, evW, runR_filter (fun e _ g => by rw [g]; exact h2)]
    exact this
theorem part_sh (hs : isSh s) {f t : List Nat} (hsp : isSpan f t) {id : Int} (hid : isID id) (k0 k1 k2 : K) : isSh (partS s id f t k0 k1 k2) := by
  refine ⟨⟨hid.1, hid.2, by show (1 : Int) ≤ 1; decide, by show (1 : Int) ≤ 1000000; decide⟩, hsp, fun c hc => ?_, ?_, hist_part hs f t, hs.2.2.2.2.2⟩
  · exact of_decide_eq_true (List.mem_filter.1 hc).2
  · show ((evW f t s.evs).length : Int) ≤ 24
    have h1 := hs.2.2.2.1
    have h2 : (evW f t s.evs).length ≤ s.evs.length := List.length_filter_le ..
    omega
theorem hist_join (hs : isSh s) (h : inSplit s k) : isHist (evW s.fr k s.evs ++ evW k s.to s.evs) s.cells := by
  have hh := hs.2.2.2.2.1
  refine ⟨hh.1, fun e he => ?_, fun c hc => ?_⟩
  · rcases List.mem_append.1 he with he | he
    · exact hh.2.1 e (List.mem_filter.1 he).1
    · exact hh.2.1 e (List.mem_filter.1 he).1
  · have := ofH_iff.1 (hh.2.2 c hc)
    rw [ofH_iff, runR_append, evs_lo hs h, evs_hi hs h]
    by_cases hk : ltS c.key k
    · rw [runR_filter (fun e _ g => by rw [g]; exact decide_eq_true hk), this]
      show runR c _ c.ver = some c.ver
      refine runR_none fun e he g => ?_
      have h2 := (List.mem_filter.1 he).2
      rw [g, decide_eq_true hk] at h2
      cases h2
    · rw [runR_none (fun e he g => ?_)]
      · show runR c _ c.floor = some c.ver
        rw [runR_filter (fun e _ g => by rw [g, decide_eq_false hk]; rfl), this]
      · have h2 := (List.mem_filter.1 he).2
        rw [g, decide_eq_false hk] at h2
        cases h2
section
variable {l r id : Int} {k0 k1 k2 k3 k4 k5 : K}
theorem parts_meet (hs : isSh s) (h : inSplit s k) : meets (partS s l s.fr k k0 k1 k2) (partS s r k s.to k3 k4 k5) := ⟨h.lo, h.hi, h.key.1, rfl⟩
theorem parts_join (hs : isSh s) (h : inSplit s k) (hl : isID l) (hr : isID r) (hid : isID id) : okJoin (partS s l s.fr k k0 k1 k2) (partS s r k s.to k3 k4 k5) id :=
  ⟨⟨part_sh hs h.lo hl _ _ _, (by show ¬ (false : Bool) = true; decide)⟩, ⟨part_sh hs h.hi hr _ _ _, (by show ¬ (false : Bool) = true; decide)⟩, hid⟩
theorem joinEvs_parts (hs : isSh s) (h : inSplit s k) : joinEvs (partS s l s.fr k k0 k1 k2) (partS s r k s.to k3 k4 k5) = evW s.fr k s.evs ++ evW k s.to s.evs := by
  have h1 := hs.2.2.2.1
  have h2 := evs_len hs h
  show (evW s.fr k s.evs ++ evW k s.to s.evs).drop ((evW s.fr k s.evs ++ evW k s.to s.evs).length - 24) = _
  rw [List.length_append, h2, show s.evs.length - 24 = 0 by omega, List.drop_zero]
theorem joinCells_parts (hs : isSh s) (h : inSplit s k) : joinCells (partS s l s.fr k k0 k1 k2) (partS s r k s.to k3 k4 k5) = s.cells := by
  have h1 := hs.2.2.2.1
  have h2 := evs_len hs h
  show keepC ((evW s.fr k s.evs ++ evW k s.to s.evs).take ((evW s.fr k s.evs ++ evW k s.to s.evs).length - 24)) (withinL s.fr k s.cells ++ withinL k s.to s.cells) = _
  rw [List.length_append, h2, show s.evs.length - 24 = 0 by omega, List.take_zero, cells_all hs h]; rfl
theorem joinP_parts (hs : isSh s) : joinP s.done s.done = s.done := join_self hs.2.2.2.2.2.upDD fun _ h => h
theorem joined_sh (hs : isSh s) (h : inSplit s k) (hid : isID id) (z : Bool) (j0 j1 j2 : K) : isSh (joinS z (partS s l s.fr k k0 k1 k2) (partS s r k s.to k3 k4 k5) id j0 j1 j2) := by
  refine ⟨⟨hid.1, hid.2, by show (1 : Int) ≤ 1; decide, by show (1 : Int) ≤ 1000000; decide⟩, hs.2.1, ?_, ?_, ?_, ?_⟩
  · intro c hc
    have hc : c ∈ joinCells (partS s l s.fr k k0 k1 k2) (partS s r k s.to k3 k4 k5) := hc
    rw [joinCells_parts hs h] at hc
    exact hs.2.2.1 c hc
  · show ((joinEvs (partS s l s.fr k k0 k1 k2) (partS s r k s.to k3 k4 k5)).length : Int) ≤ 24
    rw [joinEvs_parts hs h, List.length_append, evs_len hs h]
    exact hs.2.2.2.1
  · show isHist (joinEvs (partS s l s.fr k k0 k1 k2) (partS s r k s.to k3 k4 k5)) (joinCells (partS s l s.fr k k0 k1 k2) (partS s r k s.to k3 k4 k5))
    rw [joinEvs_parts hs h, joinCells_parts hs h]
    exact hist_join hs h
  · show isDone (joinP s.done s.done)
    rw [joinP_parts hs]
    exact hs.2.2.2.2.2
end
end
end Go.Proofs
