/- What is given to the laws of cuts: opened; the package variable that is told. -/
import Derived.Test.YtomljpdjfobeoaaGreatDoorZ21
import Derived.Test.YtomljpdjfobeoaaGreatDoorProg
import Derived.Test.YtomljpdjfobeoaaGreatDoorRows
import Derived.Test.YtomljpdjfobeoaaGreatDoorTie
import Derived.ChangeSame
import Derived.ChangeVars
import Derived.RowKit
import Derived.LaidLaws
import Derived.LaidHandle
import Derived.SevenTiedAt
set_option linter.all false
set_option maxRecDepth 100000
namespace Go.Ev
open Go.ChangeShapes Go.WideShapes Go.RowKit
variable {P : Program} {HH : Type} {enc : TypeId × Value → HH} {W : World}
theorem bool_of {r : Reach} {b0 : Nat} {t : TypeId} {v : Value} (ht : P.underlying t = some .bool) (h : Value.okWide P W r b0 t v) : ∃ b, v = .bool b := by
  simp only [Value.okWide, ht, Cell.okWide] at h
  cases v <;> simp_all [Cell.ok]
theorem open_cell {r : Reach} {base b0 : Nat} {sp : Nat → Bool} {held : Bool} {t : TypeId} {v : Value} {d : DataW HH} {p : List MemPlace} {k : PK} (hk : k.ty P t) (hval : Value.okWide P W r b0 t v) (h : DataW.Trod enc P W base sp held t v d p) : ∃ av, (∀ φ, VRel P φ av v) ∧ KOf k av := by
  obtain ⟨fuel, hf⟩ := h
  obtain ⟨u, av, hcs, hv, ho, hko⟩ := open_prim hk hf
  have hv1 : v.cells.toList = [v] := by
    cases k with
    | str => obtain ⟨s, rfl⟩ := okWide_string hk hval; rfl
    | int k => obtain ⟨n, rfl⟩ := okWide_int hk hval; rfl
    | bool =>
      obtain ⟨b, rfl⟩ := bool_of hk hval
      rfl
  rw [hv1] at hcs
  cases hcs
  exact ⟨av, hv, hko⟩
theorem Opens.imp {e : TypeId} {n : Nat} {RR SS : Heap → List AV → Prop} (h : Opens P enc W e n RR) (hm : ∀ (H : Heap) (row : List AV) (l : List Blk), SS H row → SS (H.ext l) row) (hi : ∀ H row, RR H row → SS H row) : Opens P enc W e n SS := by
  refine ⟨h.cells, hm, fun fuel cs x hx h0 φ H hw hro => ?_⟩
  obtain ⟨φ', l, row, h1, h2, h3, h4, h5, h6, h7⟩ := h.run fuel cs x hx h0 φ H hw hro
  exact ⟨φ', l, row, h1, h2, h3, h4, h5, h6, hi _ _ h7⟩
theorem KOf.int_of {k : IntKind} {v : AV} (h : KOf (.int k) v) : ∃ n, v = .int k n := by cases h; exact ⟨_, rfl⟩
theorem KOf.str_of {v : AV} (h : KOf .str v) : ∃ l, v = .str l := by cases h; exact ⟨_, rfl⟩
theorem KOf.bool_of {v : AV} (h : KOf .bool v) : ∃ b, v = .bool b := by cases h; exact ⟨_, rfl⟩
end Go.Ev
namespace Go.Proofs
open Go Go.Ev Go.ChangeShapes Go.WideShapes Go.RowKit
variable {HH : Type} {enc : TypeId × Value → HH} {W : World}
theorem opens_rw : Opens Tryz.prog enc W 66 3 fun _ row => ∃ r : Rw, row = r.enc := by
  refine (Opens.struct (P := Tryz.prog) (enc := enc) (W := W) (m := 3) Tryz.underlying66 (by kernel_rfl) (by exact OpF.cons _ _ _ 1 2 _ _ (by rfl) (by exact Opens.prim _ _ _ (k := .str) Tryz.underlying9 (by kernel_rfl)) (by exact OpF.cons _ _ _ 1 1 _ _ (by rfl) (by exact Opens.prim _ _ _ (k := .str) Tryz.underlying9 (by kernel_rfl)) (by exact OpF.cons _ _ _ 1 0 _ _ (by rfl) (by exact Opens.prim _ _ _ (k := .int .i64) Tryz.underlying3 (by kernel_rfl)) (by exact OpF.nil _))))).imp (fun H row L h => h) ?_
  rintro H _ ⟨_, _, rfl, ⟨_, rfl, h1⟩, _, _, rfl, ⟨_, rfl, h2⟩, _, _, rfl, ⟨_, rfl, h3⟩, rfl⟩
  obtain ⟨a, rfl⟩ := h1.str_of
  obtain ⟨b, rfl⟩ := h2.str_of
  obtain ⟨c, rfl⟩ := h3.int_of
  exact ⟨⟨a, b, c⟩, rfl⟩
theorem rows_of {α : Type} {f : α → List AV} : ∀ {xs : List (List AV)}, (∀ r ∈ xs, ∃ q : α, r = f q) → ∃ l : List α, xs = l.map f
  | [], _ => ⟨[], rfl⟩
  | x :: xs, h => by
    obtain ⟨q, rfl⟩ := h x (by simp)
    obtain ⟨l, rfl⟩ := rows_of (xs := xs) fun r hr => h r (by simp [hr])
    exact ⟨q :: l, rfl⟩
theorem opens_rws : Opens Tryz.prog enc W 45 1 fun H row => ∃ (v : AV) (l : List Rw), row = [v] ∧ Arr H 3 v (l.map Rw.enc) ∧ l.length ≤ 9223372036854775807 := by
  refine (Opens.slice (P := Tryz.prog) (enc := enc) (W := W) (n := 3) Tryz.underlying45 (by kernel_rfl) (by decide) opens_rw).imp (fun H row L ⟨v, l, h1, h2, h3⟩ => ⟨v, l, h1, h2.ext L, h3⟩) ?_
  rintro H _ ⟨av, xs, rfl, h1, h2, h3⟩
  obtain ⟨l, rfl⟩ := rows_of h2
  exact ⟨av, l, rfl, h1, by rwa [List.length_map] at h3⟩
theorem opens_an : Opens Tryz.prog enc W 47 4 fun H row => ∃ a : An, row = a.enc ∧ a.ok H := by
  refine (Opens.struct (P := Tryz.prog) (enc := enc) (W := W) (m := 4) Tryz.underlying47 (by kernel_rfl) (by exact OpF.cons _ _ _ 1 3 _ _ (by rfl) (by exact Opens.prim _ _ _ (k := .int .i64) Tryz.underlying3 (by kernel_rfl)) (by exact OpF.cons _ _ _ 1 2 _ _ (by rfl) (by exact Opens.prim _ _ _ (k := .str) Tryz.underlying9 (by kernel_rfl)) (by exact OpF.cons _ _ _ 1 1 _ _ (by rfl) (by exact Opens.prim _ _ _ (k := .int .i64) Tryz.underlying3 (by kernel_rfl)) (by exact OpF.cons _ _ _ 1 0 _ _ (by rfl) (by exact opens_rws) (by exact OpF.nil _)))))).imp (fun H row L ⟨a, h1, h2⟩ => ⟨a, h1, h2.ext L⟩) ?_
  rintro H _ ⟨_, _, rfl, ⟨_, rfl, h1⟩, _, _, rfl, ⟨_, rfl, h2⟩, _, _, rfl, ⟨_, rfl, h3⟩, _, _, rfl, ⟨v, l, rfl, h4, h5⟩, rfl⟩
  obtain ⟨a, rfl⟩ := h1.int_of
  obtain ⟨b, rfl⟩ := h2.str_of
  obtain ⟨c, rfl⟩ := h3.int_of
  exact ⟨⟨a, b, c, l, v⟩, rfl, h4, h5⟩
theorem opens_dn : Opens Tryz.prog enc W 104 6 fun H row => ∃ d : Dn, row = d.enc ∧ d.an.ok H := by
  refine (Opens.struct (P := Tryz.prog) (enc := enc) (W := W) (m := 6) Tryz.underlying104 (by kernel_rfl) (by exact OpF.cons _ _ _ 1 5 _ _ (by rfl) (by exact Opens.prim _ _ _ (k := .int .i64) Tryz.underlying3 (by kernel_rfl)) (by exact OpF.cons _ _ _ 1 4 _ _ (by rfl) (by exact Opens.prim _ _ _ (k := .int .i64) Tryz.underlying3 (by kernel_rfl)) (by exact OpF.cons _ _ _ 4 0 _ _ (by rfl) (by exact opens_an) (by exact OpF.nil _))))).imp (fun H row L ⟨a, h1, h2⟩ => ⟨a, h1, h2.ext L⟩) ?_
  rintro H _ ⟨_, _, rfl, ⟨_, rfl, h1⟩, _, _, rfl, ⟨_, rfl, h2⟩, _, _, rfl, ⟨a, rfl, h3⟩, rfl⟩
  obtain ⟨x, rfl⟩ := h1.int_of
  obtain ⟨y, rfl⟩ := h2.int_of
  exact ⟨⟨x, y, a⟩, rfl, h3⟩
theorem rows_dn {H : Heap} : ∀ {xs : List (List AV)}, (∀ r ∈ xs, ∃ d : Dn, r = d.enc ∧ d.an.ok H) → ∃ l : List Dn, xs = l.map Dn.enc ∧ allOk H l
  | [], _ => ⟨[], rfl, fun d h => by cases h⟩
  | x :: xs, h => by
    obtain ⟨q, rfl, hq⟩ := h x (by simp)
    obtain ⟨l, rfl, hl⟩ := rows_dn (xs := xs) fun r hr => h r (by simp [hr])
    exact ⟨q :: l, rfl, fun d hd => by 
      rcases List.mem_cons.1 hd with rfl | hd
      · exact hq
      · exact hl d hd⟩
theorem opens_dns : Opens Tryz.prog enc W 26 1 fun H row => ∃ (v : AV) (l : List Dn), row = [v] ∧ Arr H 6 v (l.map Dn.enc) ∧ allOk H l := by
  refine (Opens.slice (P := Tryz.prog) (enc := enc) (W := W) (n := 6) Tryz.underlying26 (by kernel_rfl) (by decide) opens_dn).imp (fun H row L ⟨v, l, h1, h2, h3⟩ => ⟨v, l, h1, h2.ext L, h3.ext L⟩) ?_
  rintro H _ ⟨av, xs, rfl, h1, h2, h3⟩
  obtain ⟨l, rfl, hl⟩ := rows_dn h2
  exact ⟨av, l, rfl, h1, hl⟩
theorem opens_evn : Opens Tryz.prog enc W 77 4 fun _ row => ∃ e : Evn, row = e.enc := by
  refine (Opens.struct (P := Tryz.prog) (enc := enc) (W := W) (m := 4) Tryz.underlying77 (by kernel_rfl) (by exact OpF.cons _ _ _ 1 3 _ _ (by rfl) (by exact Opens.prim _ _ _ (k := .str) Tryz.underlying9 (by kernel_rfl)) (by exact OpF.cons _ _ _ 1 2 _ _ (by rfl) (by exact Opens.prim _ _ _ (k := .int .i64) Tryz.underlying3 (by kernel_rfl)) (by exact OpF.cons _ _ _ 1 1 _ _ (by rfl) (by exact Opens.prim _ _ _ (k := .str) Tryz.underlying9 (by kernel_rfl)) (by exact OpF.cons _ _ _ 1 0 _ _ (by rfl) (by exact Opens.prim _ _ _ (k := .bool) Tryz.underlying4 (by kernel_rfl)) (by exact OpF.nil _)))))).imp (fun H row L h => h) ?_
  rintro H _ ⟨_, _, rfl, ⟨_, rfl, h1⟩, _, _, rfl, ⟨_, rfl, h2⟩, _, _, rfl, ⟨_, rfl, h3⟩, _, _, rfl, ⟨_, rfl, h4⟩, rfl⟩
  obtain ⟨a, rfl⟩ := h1.str_of
  obtain ⟨b, rfl⟩ := h2.int_of
  obtain ⟨c, rfl⟩ := h3.str_of
  obtain ⟨d, rfl⟩ := h4.bool_of
  exact ⟨⟨a, b, c, d⟩, rfl⟩
theorem opens_evs : Opens Tryz.prog enc W 25 1 fun H row => ∃ (v : AV) (l : List Evn), row = [v] ∧ Arr H 4 v (l.map Evn.enc) := by
  refine (Opens.slice (P := Tryz.prog) (enc := enc) (W := W) (n := 4) Tryz.underlying25 (by kernel_rfl) (by decide) opens_evn).imp (fun H row L ⟨v, l, h1, h2⟩ => ⟨v, l, h1, h2.ext L⟩) ?_
  rintro H _ ⟨av, xs, rfl, h1, h2, h3⟩
  obtain ⟨l, rfl⟩ := rows_of h2
  exact ⟨av, l, rfl, h1⟩
theorem opens_cell : Opens Tryz.prog enc W 75 5 fun _ row => ∃ c : Cell, row = c.enc := by
  refine (Opens.struct (P := Tryz.prog) (enc := enc) (W := W) (m := 5) Tryz.underlying75 (by kernel_rfl) (by exact OpF.cons _ _ _ 1 4 _ _ (by rfl) (by exact Opens.prim _ _ _ (k := .str) Tryz.underlying9 (by kernel_rfl)) (by exact OpF.cons _ _ _ 1 3 _ _ (by rfl) (by exact Opens.prim _ _ _ (k := .str) Tryz.underlying9 (by kernel_rfl)) (by exact OpF.cons _ _ _ 1 2 _ _ (by rfl) (by exact Opens.prim _ _ _ (k := .int .i64) Tryz.underlying3 (by kernel_rfl)) (by exact OpF.cons _ _ _ 1 1 _ _ (by rfl) (by exact Opens.prim _ _ _ (k := .bool) Tryz.underlying4 (by kernel_rfl)) (by exact OpF.cons _ _ _ 1 0 _ _ (by rfl) (by exact Opens.prim _ _ _ (k := .int .i64) Tryz.underlying3 (by kernel_rfl)) (by exact OpF.nil _))))))).imp (fun H row L h => h) ?_
  rintro H _ ⟨_, _, rfl, ⟨_, rfl, h1⟩, _, _, rfl, ⟨_, rfl, h2⟩, _, _, rfl, ⟨_, rfl, h3⟩, _, _, rfl, ⟨_, rfl, h4⟩, _, _, rfl, ⟨_, rfl, h5⟩, rfl⟩
  obtain ⟨a, rfl⟩ := h1.str_of
  obtain ⟨b, rfl⟩ := h2.str_of
  obtain ⟨c, rfl⟩ := h3.int_of
  obtain ⟨d, rfl⟩ := h4.bool_of
  obtain ⟨e, rfl⟩ := h5.int_of
  exact ⟨⟨a, b, c, d, e⟩, rfl⟩
theorem opens_cells : Opens Tryz.prog enc W 24 1 fun H row => ∃ (v : AV) (l : List Cell), row = [v] ∧ Arr H 5 v (l.map Cell.enc) := by
  refine (Opens.slice (P := Tryz.prog) (enc := enc) (W := W) (n := 5) Tryz.underlying24 (by kernel_rfl) (by decide) opens_cell).imp (fun H row L ⟨v, l, h1, h2⟩ => ⟨v, l, h1, h2.ext L⟩) ?_
  rintro H _ ⟨av, xs, rfl, h1, h2, h3⟩
  obtain ⟨l, rfl⟩ := rows_of h2
  exact ⟨av, l, rfl, h1⟩
theorem opens_span : Opens Tryz.prog enc W 23 2 fun _ row => ∃ a b : List Nat, row = [.str a, .str b] := by
  refine (Opens.struct (P := Tryz.prog) (enc := enc) (W := W) (m := 2) Tryz.underlying23 (by kernel_rfl) (by exact OpF.cons _ _ _ 1 1 _ _ (by rfl) (by exact Opens.prim _ _ _ (k := .str) Tryz.underlying9 (by kernel_rfl)) (by exact OpF.cons _ _ _ 1 0 _ _ (by rfl) (by exact Opens.prim _ _ _ (k := .str) Tryz.underlying9 (by kernel_rfl)) (by exact OpF.nil _)))).imp (fun H row L h => h) ?_
  rintro H _ ⟨_, _, rfl, ⟨_, rfl, h1⟩, _, _, rfl, ⟨_, rfl, h2⟩, rfl⟩
  obtain ⟨a, rfl⟩ := h1.str_of
  obtain ⟨b, rfl⟩ := h2.str_of
  exact ⟨a, b, rfl⟩
/-- a shard -/
theorem opens_sh : Opens Tryz.prog enc W 28 8 fun H row => ∃ s : Sh, row = s.enc ∧ s.okw H := by
  refine (Opens.struct (P := Tryz.prog) (enc := enc) (W := W) (m := 8) Tryz.underlying28 (by kernel_rfl) (by exact OpF.cons _ _ _ 1 7 _ _ (by rfl) (by exact Opens.prim _ _ _ (k := .int .i64) Tryz.underlying3 (by kernel_rfl)) (by exact OpF.cons _ _ _ 1 6 _ _ (by rfl) (by exact Opens.prim _ _ _ (k := .int .i64) Tryz.underlying3 (by kernel_rfl)) (by exact OpF.cons _ _ _ 2 4 _ _ (by rfl) (by exact opens_span) (by exact OpF.cons _ _ _ 1 3 _ _ (by rfl) (by exact Opens.prim _ _ _ (k := .bool) Tryz.underlying4 (by kernel_rfl)) (by exact OpF.cons _ _ _ 1 2 _ _ (by rfl) (by exact opens_cells) (by exact OpF.cons _ _ _ 1 1 _ _ (by rfl) (by exact opens_evs) (by exact OpF.cons _ _ _ 1 0 _ _ (by rfl) (by exact opens_dns) (by exact OpF.nil _))))))))).imp (fun H row L ⟨s, h1, h2⟩ => ⟨s, h1, h2.ext L⟩) ?_
  rintro H _ ⟨_, _, rfl, ⟨_, rfl, h1⟩, _, _, rfl, ⟨_, rfl, h2⟩, _, _, rfl, ⟨f, t, rfl⟩, _, _, rfl, ⟨_, rfl, h4⟩, _, _, rfl, ⟨cv, cs, rfl, hc⟩, _, _, rfl, ⟨ev, es, rfl, he⟩, _, _, rfl, ⟨dv, ds, rfl, hd, hk⟩, rfl⟩
  obtain ⟨a, rfl⟩ := h1.int_of
  obtain ⟨b, rfl⟩ := h2.int_of
  obtain ⟨c, rfl⟩ := h4.bool_of
  exact ⟨⟨a, b, f, t, c, cs, es, ds, cv, ev, dv⟩, rfl, hc, he, hd, hk⟩
end Go.Proofs
