/- The told package variable: what a law's condition gives; a world that meets it. -/
import Derived.Test.YtomljpdjfobeoaaGreatDoorZ22
import Derived.JoinedOf
set_option linter.all false
set_option maxRecDepth 100000
namespace Go.Proofs.YtomljpdjfobeoaaGreatDoor
open Go Go.Ev Go.ChangeShapes Go.WideShapes Go.ChangeAt Go.RowKit
theorem Tryz.own : ownKnob Tryz.prog.godebug = none := by kernel_rfl
theorem Tryz.laidOut : laidOutB Tryz.prog = true := by kernel_rfl
theorem Tryz.et : Tryz.prog.globalNamed "errors.errorType" = some 0 := by kernel_rfl
theorem Tryz.rt : (Tryz.prog.cutTypes.find? (·.1 == "internal/reflectlite.rtype")).map (·.2) = some 169 := by kernel_rfl
theorem Tryz.size : Tryz.prog.types.size = 240 := by kernel_rfl
theorem Tryz.oneRow : ((List.range 240).filter fun t => Tryz.prog.rowNamed t [101, 114, 114, 111, 114]) = [32] := by kernel_rfl
/-- what is told -/
def laid0 : List (String × DataW Unit) := [("errors.errorType", Rows.laid_errors_errorType)]
/-- the variable's one cell -/
theorem handle_of_laid {W : World} (h : laidMetH Tryz.prog laid0 W) : W.cell? ⟨0, 0, none⟩ = some (.iface 169 (.agg #[.pointer (some ⟨1, 32, none⟩)])) := by
  have h' : laidMet Tryz.prog [] W ∧ handlesMet Tryz.prog laid0 W := h
  obtain ⟨name, u, ty, e1, e2, e3, e4, e5⟩ := h'.2 _ (List.mem_singleton.2 rfl)
  have en : name = [101, 114, 114, 111, 114] := (Option.some.inj e1).symm
  subst en
  obtain rfl := Option.some.inj (Tryz.rt.symm.trans e2)
  have hm : ty ∈ (List.range 240).filter fun t => Tryz.prog.rowNamed t [101, 114, 114, 111, 114] := List.mem_filter.2 ⟨List.mem_range.2 (by rw [← Tryz.size]; exact e3), e4⟩
  rw [Tryz.oneRow] at hm
  obtain rfl := List.mem_singleton.1 hm
  have hh : typeHandle Tryz.prog 32 = .pointer (some ⟨1, 32, none⟩) := by kernel_rfl
  rw [hh] at e5
  simpa using World.var?_cell Tryz.et e5 0
theorem rom_of_laid {W : World} (h : laidMetH Tryz.prog laid0 W) : ∀ g v, (g, v) ∈ romOf → W.cell? ⟨g, 0, none⟩ = some v := by
  intro g v hm
  have hm : (g, v) ∈ [(0, Value.iface 169 (.agg #[.pointer (some ⟨1, 32, none⟩)]))] := hm
  cases List.mem_singleton.1 hm
  exact handle_of_laid h
/-- a world that meets it -/
noncomputable def laidWorld (os : Os) : World :=
  let w0 := World.holding Tryz.prog os ⟨#[], #[], []⟩
  { w0 with heap := w0.heap.modify 0 fun
      | .cells _ t frozen => .cells #[.iface 169 (.agg #[.pointer (some ⟨1, 32, none⟩)])] t frozen
      | o => o }
theorem laidWorld_met (os : Os) (args : Array Value) : laidMetH Tryz.prog laid0 ((laidWorld os).forCall (fun _ _ => 0) ⟨#[], args, []⟩).memory :=
  laidMetH_of_parts (laidMet_nil _ _) (by kernel_rfl)
end Go.Proofs.YtomljpdjfobeoaaGreatDoor
/- Numbers that are given, opened. -/

set_option linter.all false
set_option maxRecDepth 100000
namespace Go.Ev
open Go.ChangeShapes Go.WideShapes Go.RowKit
variable {P : Program} {W : World}
/-- a byte that is given -/
theorem open_u8 {r : Reach} {b0 : Nat} {t : TypeId} {v : Value} (ht : P.underlying t = some (.int .u8)) (h : Value.okWide P W r b0 t v) : ∃ n : Nat, n ≤ 255 ∧ v = .int .u8 n := by
  obtain ⟨m, rfl⟩ := okWide_int ht h
  simp only [Value.okWide, ht, Cell.okWide, Cell.ok] at h
  have h1 : (0 : Int) ≤ m := h.2.1
  have h2 : m ≤ (255 : Int) := h.2.2
  obtain ⟨n, rfl⟩ := Int.eq_ofNat_of_zero_le h1
  exact ⟨n, by omega, rfl⟩
end Go.Ev
/- once: one more in its session's place as the law has it: walked. -/

set_option linter.all false
set_option linter.all false
set_option maxRecDepth 100000
namespace Go.Proofs
open Go Go.Ev
variable {H : Heap}

def newD (_ d : Dn) : Dn := d
theorem putGD_lo {f : Dn → Dn → Dn} {d : Dn} {q : List Dn} : ∀ {p : List Dn}, (∀ x ∈ p, x.ses < d.ses) → putGD f (p ++ q) d = p ++ putGD f q d
  | [], _ => rfl
  | x :: p, h => by
    rw [List.cons_append, putGD, if_pos (h x (by simp)), putGD_lo (p := p) fun y hy => h y (by simp [hy])]; rfl
theorem putGD_hi {f : Dn → Dn → Dn} {d c : Dn} : ∀ {p : List Dn}, (∃ x ∈ p, d.ses ≤ x.ses) → putGD f (p ++ [c]) d = putGD f p d ++ [c]
  | [], h => by obtain ⟨x, h, _⟩ := h; cases h
  | x :: p, h => by
    rw [List.cons_append, putGD, putGD]
    by_cases h1 : x.ses < d.ses
    · rw [if_pos h1, if_pos h1, putGD_hi (p := p) ?_]; · rfl
      obtain ⟨y, hy, h2⟩ := h
      rcases List.mem_cons.1 hy with rfl | hy
      · omega
      · exact ⟨y, hy, h2⟩
    · rw [if_neg h1, if_neg h1]
      by_cases h2 : x.ses = d.ses
      · rw [if_pos h2, if_pos h2]; rfl
      · rw [if_neg h2, if_neg h2]; rfl
theorem putGD_same {f g : Dn → Dn → Dn} {d : Dn} : ∀ {l : List Dn}, (∀ x ∈ l, x.ses = d.ses → f x d = g x d) → putGD f l d = putGD g l d
  | [], _ => rfl
  | x :: l, h => by
    rw [putGD, putGD, putGD_same (l := l) fun y hy => h y (by simp [hy])]
    by_cases h2 : x.ses = d.ses
    · rw [h x (by simp) h2]
    · rw [if_neg h2, if_neg h2]
def anyGe (l : List Dn) (d : Dn) : Bool := l.any fun c => decide (d.ses ≤ c.ses)
theorem anyGe_t {l : List Dn} {d : Dn} : anyGe l d = true ↔ ∃ x ∈ l, d.ses ≤ x.ses := by
  unfold anyGe
  rw [List.any_eq_true]
  exact ⟨fun ⟨x, h1, h2⟩ => ⟨x, h1, of_decide_eq_true h2⟩, fun ⟨x, h1, h2⟩ => ⟨x, h1, decide_eq_true h2⟩⟩
theorem anyGe_f {l : List Dn} {d : Dn} : anyGe l d = false ↔ ∀ x ∈ l, x.ses < d.ses := by
  rw [← Bool.not_eq_true, anyGe_t]
  exact ⟨fun h x hx => Classical.byContradiction fun g => h ⟨x, hx, by omega⟩, fun h ⟨x, hx, g⟩ => by have := h x hx; omega⟩
/-- what is gathered of the first ones -/
noncomputable def accR (l : List Dn) (d : Dn) : List Dn := if anyGe l d then putGD newD l d else l
theorem accR_ok {l : List Dn} {d : Dn} (h : allOk H l) (hd : d.an.ok H) : allOk H (accR l d) := fun c hc => by
  unfold accR at hc
  split at hc
  · rcases mem_putGD hc with rfl | hc | ⟨x, _, _, rfl⟩
    · exact hd
    · exact h c hc
    · exact hd
  · exact h c hc
theorem accR_len {l : List Dn} {d : Dn} : (accR l d).length ≤ l.length + 1 := by
  unfold accR
  split
  · exact putGD_len
  · omega
theorem any_snoc (l : List Dn) (c d : Dn) : anyGe (l ++ [c]) d = (anyGe l d || decide (d.ses ≤ c.ses)) := by
  unfold anyGe; rw [List.any_append, List.any_cons, List.any_nil, Bool.or_false]
theorem accR_lo {l : List Dn} {c d : Dn} (h : anyGe l d = false) (hc : ¬ d.ses ≤ c.ses) : anyGe (l ++ [c]) d = false ∧ accR (l ++ [c]) d = accR l d ++ [c] := by
  have h1 : anyGe (l ++ [c]) d = false := by rw [any_snoc, h, decide_eq_false hc]; rfl
  refine ⟨h1, ?_⟩
  unfold accR
  rw [h1, h]; rfl
theorem accR_now {l : List Dn} {c d : Dn} (h : anyGe l d = false) (hc : d.ses ≤ c.ses) : anyGe (l ++ [c]) d = true ∧ (¬ c.ses = d.ses → accR (l ++ [c]) d = accR l d ++ [d] ++ [c]) ∧ (c.ses = d.ses → accR (l ++ [c]) d = accR l d ++ [d]) := by
  have h1 : anyGe (l ++ [c]) d = true := by rw [any_snoc, h, decide_eq_true hc]; rfl
  refine ⟨h1, fun hn => ?_, fun hn => ?_⟩
  · unfold accR
    rw [h1, h, if_pos rfl, if_neg (by decide), putGD_lo (anyGe_f.1 h), putGD, if_neg (by omega), if_neg hn, List.append_assoc]; rfl
  · unfold accR
    rw [h1, h, if_pos rfl, if_neg (by decide), putGD_lo (anyGe_f.1 h), putGD, if_neg (by omega), if_pos hn]; rfl
theorem accR_hi {l : List Dn} {c d : Dn} (h : anyGe l d = true) : anyGe (l ++ [c]) d = true ∧ accR (l ++ [c]) d = accR l d ++ [c] := by
  have h1 : anyGe (l ++ [c]) d = true := by rw [any_snoc, h]; rfl
  refine ⟨h1, ?_⟩
  unfold accR
  rw [h1, h, if_pos rfl, if_pos rfl, putGD_hi (anyGe_t.1 h)]
def keepsD (l : List Dn) (d : Dn) : Prop := ∃ x, findD l d.ses = some x ∧ d.id < x.id
theorem withD_new {l : List Dn} {d : Dn} (h : upD l) (hk : ¬ keepsD l d) : withD l d = putGD newD l d := by
  refine putGD_same fun x hx hs => ?_
  have := findD_at h hx
  rw [hs] at this
  have hle : x.id ≤ d.id := Classical.byContradiction fun g => hk ⟨x, this, by omega⟩
  rw [lateD, if_pos hle]; rfl
theorem withD_end {l : List Dn} {d : Dn} (h : upD l) (hk : ¬ keepsD l d) : (anyGe l d = true → withD l d = accR l d) ∧ (anyGe l d = false → withD l d = accR l d ++ [d]) := by
  rw [withD_new h hk]
  refine ⟨fun g => ?_, fun g => ?_⟩
  · unfold accR; rw [g, if_pos rfl]
  · have := putGD_lo (f := newD) (q := []) (anyGe_f.1 g)
    rw [List.append_nil] at this
    unfold accR; rw [g, if_neg (by decide), this]; rfl
theorem take_snoc {l : List Dn} {i : Nat} {c : Dn} (h : l[i]? = some c) : l.take (i + 1) = l.take i ++ [c] := by
  obtain ⟨hl, rfl⟩ := List.getElem?_eq_some_iff.1 h
  rw [List.take_succ_eq_append_getElem hl]
theorem rise_take {l : List Dn} {i : Nat} {c d : Dn} (hup : upD l) (h : l[i]? = some c) (hg : anyGe (l.take i) d = true) : ¬ c.ses = d.ses := by
  obtain ⟨x, hx, hle⟩ := anyGe_t.1 hg
  obtain ⟨q, hq⟩ := List.mem_iff_getElem?.1 hx
  rw [List.getElem?_take] at hq
  split at hq
  · rename_i hlt
    have := upD_rises hup q i x c hlt hq h
    omega
  · cases hq
theorem f51_with {v : AV} {l : List Dn} {d : Dn} (hA : Arr H 6 v (l.map Dn.enc)) (ha : allOk H l) (hd : d.an.ok H) (hup : upD l) (hl : l.length < 100000) (hk : ¬ keepsD l d) :
    FnOk Tryz.prog 51 [v, .agg d.enc] H fun r G => r = outV H.nx 6 (withD l d).length ∧ G = H.ext [outB 6 ((withD l d).map Dn.enc)] := by
  refine FnOk.assume fun hok => ?_
  refine FnOk.dropO' (List.length_map ..) (withD_ok ha hd).rens ?_
  refine FnOk.of_WW Tryz.func51 rfl C51ok R51ok E0 good_E0 ?_
  have hlen := fun G => hA.len G; simp only [List.length_map] at hlen; have hren := hA.ren
  have hdren := hd.ren
  have hap : ∀ i, allOk H (l.take i) := fun i c hc => ha c (List.mem_of_mem_take hc)
  have hend := withD_end hup hk
  have hacc0 : accR [] d = [] := rfl
  have hany0 : anyGe [] d = false := rfl
  simp only [go_sem, C51, Dn.enc]
  refine CL.of (f84_ok (hA.ext _) (ha.ext _) (by omega) d.ses) ?_
  rintro _ _ ⟨rfl, rfl⟩
  have hgt : (findD l d.ses).isSome = true → ¬ d.id < (foundD (findD l d.ses)).id := fun h g => by
    obtain ⟨x, hx⟩ := Option.isSome_iff_exists.1 h
    rw [hx] at g
    exact hk ⟨x, hx, g⟩
  generalize foundD (findD l d.ses) = x at *
  have hgt2 : ∀ b, (findD l d.ses).isSome = b → (b = true → ¬ d.id < x.id) := fun b h g => hgt (h.trans g)
  generalize (findD l d.ses).isSome = b at *
  cases b
  rotate_left
  · have hgt' := hgt rfl
    simp only [go_sem, Dn.enc, hgt']
    refine LL.st good_E0 (fun i : Nat => l.length - i) (fun i => i ≤ l.length)
      (fun i => [(.z, v), ((.o (.o .z)), .ptr (H.key 0) 0), ((.o (.o (.o .z))), outV (H.key 1) 6 (accR (l.take i) d).length), ((.i (.o (.o .z))), .bool (anyGe (l.take i) d)), ((.o (.i (.o .z))), .int .i64 i)])
      (fun i => [.row true 6 [[.int .i64 d.ses, .int .i64 d.id, .int .i64 d.an.code, .str d.an.val, .int .i64 d.an.ver, d.an.rv]], outB 6 ((accR (l.take i) d).map Dn.enc)]) ?_ 0 (σ := [0, 1]) (Wk.of rfl (by decide) (by simp only [go_sem, hren, outV_ren', hacc0, hany0]) (by simp only [go_sem, hacc0, hdren, ↓outB_ren', implies_true])) (Nat.zero_le _)
    rintro i hi
    have hoi := accR_ok (hap i) hd
    have hln := accR_len (l := l.take i) (d := d)
    rw [List.length_take] at hln
    by_cases hlt : i < l.length
    · obtain ⟨kk, r, ex', cap', wr, rows, hv, hrho, hgo, hrow⟩ := hA.at hok (j := i) (by rw [List.length_map]; exact hlt); simp only [List.length_map, List.getElem_map] at hv hrow; cases hv; have hget : l[i]? = some l[i] := List.getElem?_eq_getElem hlt; generalize l[i] = c at hrow hget; have hw := wrap_succ (n := i) (by omega); have hci : (i : Int) < (l.length : Int) := (by omega); have hsi : i + 1 ≤ l.length := (by omega)
      have hco := ha c (List.mem_of_getElem? hget)
      have htk := take_snoc hget
      have hoi2 := (accR_ok (hap (i + 1)) hd).rens
      rw [htk] at hoi2
      have hrise := rise_take (d := d) hup hget
      cases hany : anyGe (l.take i) d
      · by_cases hge : d.ses ≤ c.ses
        · obtain ⟨n1, n2, n3⟩ := accR_now hany hge
          by_cases hne : c.ses = d.ses
          · have hnew := n3 hne
            rw [hnew] at hoi2
            have hneT := eq_true hne
            simp only [go_sem, ↓appR_hide, C51L0, hlen, hci, hsi, hgo, hrow, hw, hge, hany, hneT, Dn.enc]
            refine RW_app _ [.int .i64 d.ses, .int .i64 d.id, .int .i64 d.an.code, .str d.an.val, .int .i64 d.an.ver, d.an.rv] rfl (List.length_map ..) rfl (okBig_le (by omega) (by decide)) ?_
            simp only [go_sem, ↓appR_hide, hlen, hci, hsi, hgo, hrow, hw, hneT, Dn.enc]
            rw [show outB 6 ((accR (l.take i) d).map Dn.enc ++ [[.int .i64 d.ses, .int .i64 d.id, .int .i64 d.an.code, .str d.an.val, .int .i64 d.an.ver, d.an.rv]]) = outB 6 ((accR (l.take i) d ++ [d]).map Dn.enc) by rw [List.map_append]; rfl]
            exact ⟨i + 1, by show l.length - (i + 1) < l.length - i; omega, by show i + 1 ≤ l.length; omega, _, [0, 3], rfl, Wk.of rfl (by decide) (by simp only [go_sem, outV_ren', hrho, htk, hnew, n1, hany]) (by simp only [go_sem, ↓outB_ren', htk, hnew, hdren, hoi.rens, Dn.ren1 hd, Dn.ren1 hco, implies_true])⟩
          · have hnew := n2 hne
            rw [hnew] at hoi2
            simp only [go_sem, ↓appR_hide, C51L0, hlen, hci, hsi, hgo, hrow, hw, hge, hany, hne, Dn.enc]
            refine RW_app _ [.int .i64 d.ses, .int .i64 d.id, .int .i64 d.an.code, .str d.an.val, .int .i64 d.an.ver, d.an.rv] rfl (List.length_map ..) rfl (okBig_le (by omega) (by decide)) ?_
            simp only [go_sem, ↓appR_hide, hlen, hci, hsi, hgo, hrow, hw, hne, Dn.enc]
            refine RW_app (n := (accR (l.take i) d).length + 1) ((accR (l.take i) d).map Dn.enc ++ [[.int .i64 d.ses, .int .i64 d.id, .int .i64 d.an.code, .str d.an.val, .int .i64 d.an.ver, d.an.rv]]) [.int .i64 c.ses, .int .i64 c.id, .int .i64 c.an.code, .str c.an.val, .int .i64 c.an.ver, c.an.rv] rfl (by rw [List.length_append, List.length_map]; rfl) rfl (okBig_le (by omega) (by decide)) ?_
            simp only [go_sem, ↓appR_hide, hlen, hci, hsi, hgo, hrow, hw, hne, Dn.enc]
            rw [show outB 6 ((accR (l.take i) d).map Dn.enc ++ [[.int .i64 d.ses, .int .i64 d.id, .int .i64 d.an.code, .str d.an.val, .int .i64 d.an.ver, d.an.rv]] ++ [[.int .i64 c.ses, .int .i64 c.id, .int .i64 c.an.code, .str c.an.val, .int .i64 c.an.ver, c.an.rv]]) = outB 6 ((accR (l.take i) d ++ [d] ++ [c]).map Dn.enc) by rw [List.map_append, List.map_append]; rfl]
            exact ⟨i + 1, by show l.length - (i + 1) < l.length - i; omega, by show i + 1 ≤ l.length; omega, _, [0, 5], rfl, Wk.of rfl (by decide) (by simp only [go_sem, outV_ren', hrho, htk, hnew, n1, hany]) (by simp only [go_sem, ↓outB_ren', htk, hnew, hdren, hoi.rens, Dn.ren1 hd, Dn.ren1 hco, implies_true])⟩
        · obtain ⟨n1, hnew⟩ := accR_lo hany hge
          rw [hnew] at hoi2
          have hne : ¬ c.ses = d.ses := by omega
          simp only [go_sem, ↓appR_hide, C51L0, hlen, hci, hsi, hgo, hrow, hw, hge, hany, hne, Dn.enc]
          refine RW_app _ [.int .i64 c.ses, .int .i64 c.id, .int .i64 c.an.code, .str c.an.val, .int .i64 c.an.ver, c.an.rv] rfl (List.length_map ..) rfl (okBig_le (by omega) (by decide)) ?_
          simp only [go_sem, ↓appR_hide, hlen, hci, hsi, hgo, hrow, hw, hne, Dn.enc]
          rw [show outB 6 ((accR (l.take i) d).map Dn.enc ++ [[.int .i64 c.ses, .int .i64 c.id, .int .i64 c.an.code, .str c.an.val, .int .i64 c.an.ver, c.an.rv]]) = outB 6 ((accR (l.take i) d ++ [c]).map Dn.enc) by rw [List.map_append]; rfl]
          exact ⟨i + 1, by show l.length - (i + 1) < l.length - i; omega, by show i + 1 ≤ l.length; omega, _, [0, 3], rfl, Wk.of rfl (by decide) (by simp only [go_sem, outV_ren', hrho, htk, hnew, n1, hany]) (by simp only [go_sem, ↓outB_ren', htk, hnew, hdren, hoi.rens, Dn.ren1 hd, Dn.ren1 hco, implies_true])⟩
      · obtain ⟨n1, hnew⟩ := accR_hi (c := c) hany
        rw [hnew] at hoi2
        have hne := hrise hany
        simp only [go_sem, ↓appR_hide, C51L0, hlen, hci, hsi, hgo, hrow, hw, hany, hne, Dn.enc]
        refine RW_app _ [.int .i64 c.ses, .int .i64 c.id, .int .i64 c.an.code, .str c.an.val, .int .i64 c.an.ver, c.an.rv] rfl (List.length_map ..) rfl (okBig_le (by omega) (by decide)) ?_
        simp only [go_sem, ↓appR_hide, hlen, hci, hsi, hgo, hrow, hw, hne, Dn.enc]
        rw [show outB 6 ((accR (l.take i) d).map Dn.enc ++ [[.int .i64 c.ses, .int .i64 c.id, .int .i64 c.an.code, .str c.an.val, .int .i64 c.an.ver, c.an.rv]]) = outB 6 ((accR (l.take i) d ++ [c]).map Dn.enc) by rw [List.map_append]; rfl]
        exact ⟨i + 1, by show l.length - (i + 1) < l.length - i; omega, by show i + 1 ≤ l.length; omega, _, [0, 3], rfl, Wk.of rfl (by decide) (by simp only [go_sem, outV_ren', hrho, htk, hnew, n1, hany]) (by simp only [go_sem, ↓outB_ren', htk, hnew, hdren, hoi.rens, Dn.ren1 hd, Dn.ren1 hco, implies_true])⟩
    · have hci : ¬ (i : Int) < (l.length : Int) := by omega
      have htk : l.take i = l := List.take_of_length_le (by omega)
      rw [htk] at hoi hln ⊢
      cases hany : anyGe l d
      · have hnew := hend.2 hany
        simp only [go_sem, ↓appR_hide, C51L0, hlen, hci, hany, Dn.enc]
        refine RW_app _ [.int .i64 d.ses, .int .i64 d.id, .int .i64 d.an.code, .str d.an.val, .int .i64 d.an.ver, d.an.rv] rfl (List.length_map ..) rfl (okBig_le (by omega) (by decide)) ?_
        simp only [go_sem, ↓appR_hide, Dn.enc]
        rw [hnew]
        exact ⟨_, 3, by rw [List.length_append]; rfl, rfl, fun _ => by rw [List.map_append]; rfl⟩
      · have hnew := hend.1 hany
        simp only [go_sem, ↓appR_hide, C51L0, hlen, hci, hany, Dn.enc]
        rw [hnew]
        exact ⟨_, 1, rfl, rfl, fun _ => rfl⟩
  · simp only [go_sem, Dn.enc]
    refine LL.st good_E0 (fun i : Nat => l.length - i) (fun i => i ≤ l.length)
      (fun i => [(.z, v), ((.o (.o .z)), .ptr (H.key 0) 0), ((.o (.o (.o .z))), outV (H.key 1) 6 (accR (l.take i) d).length), ((.i (.o (.o .z))), .bool (anyGe (l.take i) d)), ((.o (.i (.o .z))), .int .i64 i)])
      (fun i => [.row true 6 [[.int .i64 d.ses, .int .i64 d.id, .int .i64 d.an.code, .str d.an.val, .int .i64 d.an.ver, d.an.rv]], outB 6 ((accR (l.take i) d).map Dn.enc)]) ?_ 0 (σ := [0, 1]) (Wk.of rfl (by decide) (by simp only [go_sem, hren, outV_ren', hacc0, hany0]) (by simp only [go_sem, hacc0, hdren, ↓outB_ren', implies_true])) (Nat.zero_le _)
    rintro i hi
    have hoi := accR_ok (hap i) hd
    have hln := accR_len (l := l.take i) (d := d)
    rw [List.length_take] at hln
    by_cases hlt : i < l.length
    · obtain ⟨kk, r, ex', cap', wr, rows, hv, hrho, hgo, hrow⟩ := hA.at hok (j := i) (by rw [List.length_map]; exact hlt); simp only [List.length_map, List.getElem_map] at hv hrow; cases hv; have hget : l[i]? = some l[i] := List.getElem?_eq_getElem hlt; generalize l[i] = c at hrow hget; have hw := wrap_succ (n := i) (by omega); have hci : (i : Int) < (l.length : Int) := (by omega); have hsi : i + 1 ≤ l.length := (by omega)
      have hco := ha c (List.mem_of_getElem? hget)
      have htk := take_snoc hget
      have hoi2 := (accR_ok (hap (i + 1)) hd).rens
      rw [htk] at hoi2
      have hrise := rise_take (d := d) hup hget
      cases hany : anyGe (l.take i) d
      · by_cases hge : d.ses ≤ c.ses
        · obtain ⟨n1, n2, n3⟩ := accR_now hany hge
          by_cases hne : c.ses = d.ses
          · have hnew := n3 hne
            rw [hnew] at hoi2
            have hneT := eq_true hne
            simp only [go_sem, ↓appR_hide, C51L0, hlen, hci, hsi, hgo, hrow, hw, hge, hany, hneT, Dn.enc]
            refine RW_app _ [.int .i64 d.ses, .int .i64 d.id, .int .i64 d.an.code, .str d.an.val, .int .i64 d.an.ver, d.an.rv] rfl (List.length_map ..) rfl (okBig_le (by omega) (by decide)) ?_
            simp only [go_sem, ↓appR_hide, hlen, hci, hsi, hgo, hrow, hw, hneT, Dn.enc]
            rw [show outB 6 ((accR (l.take i) d).map Dn.enc ++ [[.int .i64 d.ses, .int .i64 d.id, .int .i64 d.an.code, .str d.an.val, .int .i64 d.an.ver, d.an.rv]]) = outB 6 ((accR (l.take i) d ++ [d]).map Dn.enc) by rw [List.map_append]; rfl]
            exact ⟨i + 1, by show l.length - (i + 1) < l.length - i; omega, by show i + 1 ≤ l.length; omega, _, [0, 3], rfl, Wk.of rfl (by decide) (by simp only [go_sem, outV_ren', hrho, htk, hnew, n1, hany]) (by simp only [go_sem, ↓outB_ren', htk, hnew, hdren, hoi.rens, Dn.ren1 hd, Dn.ren1 hco, implies_true])⟩
          · have hnew := n2 hne
            rw [hnew] at hoi2
            simp only [go_sem, ↓appR_hide, C51L0, hlen, hci, hsi, hgo, hrow, hw, hge, hany, hne, Dn.enc]
            refine RW_app _ [.int .i64 d.ses, .int .i64 d.id, .int .i64 d.an.code, .str d.an.val, .int .i64 d.an.ver, d.an.rv] rfl (List.length_map ..) rfl (okBig_le (by omega) (by decide)) ?_
            simp only [go_sem, ↓appR_hide, hlen, hci, hsi, hgo, hrow, hw, hne, Dn.enc]
            refine RW_app (n := (accR (l.take i) d).length + 1) ((accR (l.take i) d).map Dn.enc ++ [[.int .i64 d.ses, .int .i64 d.id, .int .i64 d.an.code, .str d.an.val, .int .i64 d.an.ver, d.an.rv]]) [.int .i64 c.ses, .int .i64 c.id, .int .i64 c.an.code, .str c.an.val, .int .i64 c.an.ver, c.an.rv] rfl (by rw [List.length_append, List.length_map]; rfl) rfl (okBig_le (by omega) (by decide)) ?_
            simp only [go_sem, ↓appR_hide, hlen, hci, hsi, hgo, hrow, hw, hne, Dn.enc]
            rw [show outB 6 ((accR (l.take i) d).map Dn.enc ++ [[.int .i64 d.ses, .int .i64 d.id, .int .i64 d.an.code, .str d.an.val, .int .i64 d.an.ver, d.an.rv]] ++ [[.int .i64 c.ses, .int .i64 c.id, .int .i64 c.an.code, .str c.an.val, .int .i64 c.an.ver, c.an.rv]]) = outB 6 ((accR (l.take i) d ++ [d] ++ [c]).map Dn.enc) by rw [List.map_append, List.map_append]; rfl]
            exact ⟨i + 1, by show l.length - (i + 1) < l.length - i; omega, by show i + 1 ≤ l.length; omega, _, [0, 5], rfl, Wk.of rfl (by decide) (by simp only [go_sem, outV_ren', hrho, htk, hnew, n1, hany]) (by simp only [go_sem, ↓outB_ren', htk, hnew, hdren, hoi.rens, Dn.ren1 hd, Dn.ren1 hco, implies_true])⟩
        · obtain ⟨n1, hnew⟩ := accR_lo hany hge
          rw [hnew] at hoi2
          have hne : ¬ c.ses = d.ses := by omega
          simp only [go_sem, ↓appR_hide, C51L0, hlen, hci, hsi, hgo, hrow, hw, hge, hany, hne, Dn.enc]
          refine RW_app _ [.int .i64 c.ses, .int .i64 c.id, .int .i64 c.an.code, .str c.an.val, .int .i64 c.an.ver, c.an.rv] rfl (List.length_map ..) rfl (okBig_le (by omega) (by decide)) ?_
          simp only [go_sem, ↓appR_hide, hlen, hci, hsi, hgo, hrow, hw, hne, Dn.enc]
          rw [show outB 6 ((accR (l.take i) d).map Dn.enc ++ [[.int .i64 c.ses, .int .i64 c.id, .int .i64 c.an.code, .str c.an.val, .int .i64 c.an.ver, c.an.rv]]) = outB 6 ((accR (l.take i) d ++ [c]).map Dn.enc) by rw [List.map_append]; rfl]
          exact ⟨i + 1, by show l.length - (i + 1) < l.length - i; omega, by show i + 1 ≤ l.length; omega, _, [0, 3], rfl, Wk.of rfl (by decide) (by simp only [go_sem, outV_ren', hrho, htk, hnew, n1, hany]) (by simp only [go_sem, ↓outB_ren', htk, hnew, hdren, hoi.rens, Dn.ren1 hd, Dn.ren1 hco, implies_true])⟩
      · obtain ⟨n1, hnew⟩ := accR_hi (c := c) hany
        rw [hnew] at hoi2
        have hne := hrise hany
        simp only [go_sem, ↓appR_hide, C51L0, hlen, hci, hsi, hgo, hrow, hw, hany, hne, Dn.enc]
        refine RW_app _ [.int .i64 c.ses, .int .i64 c.id, .int .i64 c.an.code, .str c.an.val, .int .i64 c.an.ver, c.an.rv] rfl (List.length_map ..) rfl (okBig_le (by omega) (by decide)) ?_
        simp only [go_sem, ↓appR_hide, hlen, hci, hsi, hgo, hrow, hw, hne, Dn.enc]
        rw [show outB 6 ((accR (l.take i) d).map Dn.enc ++ [[.int .i64 c.ses, .int .i64 c.id, .int .i64 c.an.code, .str c.an.val, .int .i64 c.an.ver, c.an.rv]]) = outB 6 ((accR (l.take i) d ++ [c]).map Dn.enc) by rw [List.map_append]; rfl]
        exact ⟨i + 1, by show l.length - (i + 1) < l.length - i; omega, by show i + 1 ≤ l.length; omega, _, [0, 3], rfl, Wk.of rfl (by decide) (by simp only [go_sem, outV_ren', hrho, htk, hnew, n1, hany]) (by simp only [go_sem, ↓outB_ren', htk, hnew, hdren, hoi.rens, Dn.ren1 hd, Dn.ren1 hco, implies_true])⟩
    · have hci : ¬ (i : Int) < (l.length : Int) := by omega
      have htk : l.take i = l := List.take_of_length_le (by omega)
      rw [htk] at hoi hln ⊢
      cases hany : anyGe l d
      · have hnew := hend.2 hany
        simp only [go_sem, ↓appR_hide, C51L0, hlen, hci, hany, Dn.enc]
        refine RW_app _ [.int .i64 d.ses, .int .i64 d.id, .int .i64 d.an.code, .str d.an.val, .int .i64 d.an.ver, d.an.rv] rfl (List.length_map ..) rfl (okBig_le (by omega) (by decide)) ?_
        simp only [go_sem, ↓appR_hide, Dn.enc]
        rw [hnew]
        exact ⟨_, 3, by rw [List.length_append]; rfl, rfl, fun _ => by rw [List.map_append]; rfl⟩
      · have hnew := hend.1 hany
        simp only [go_sem, ↓appR_hide, C51L0, hlen, hci, hany, Dn.enc]
        rw [hnew]
        exact ⟨_, 1, rfl, rfl, fun _ => rfl⟩
end Go.Proofs
/- once: as the law has it, how a request stands, both joined: walked. -/

set_option linter.all false
set_option linter.all false
set_option maxRecDepth 100000
namespace Go.Proofs
open Go Go.Ev
variable {H : Heap}

theorem stands_an {H : Heap} {l : List Dn} (ha : allOk H l) (s id : Int) : (stands l s id).1.ok H := by
  unfold stands
  cases h : findD l s with
  | none => exact zeroA_ok
  | some d =>
    dsimp only
    split
    · exact zeroA_ok
    · split
      · exact ha d (findD_mem h).1
      · exact zeroA_ok
theorem f48_ok {v : AV} {l : List Dn} (hA : Arr H 6 v (l.map Dn.enc)) (ha : allOk H l) (hl : l.length < 100000) (s id : Int) :
    FnOk Tryz.prog 48 [v, .int .i64 s, .int .i64 id] H fun r G => r = .tup [.agg (stands l s id).1.enc, .int .i64 (stands l s id).2] ∧ G = H := by
  refine FnOk.assume fun hok => ?_
  refine FnOk.dropOld (R := fun r => r = .tup [.agg (stands l s id).1.enc, .int .i64 (stands l s id).2]) ?_ ?_
  · refine FnOk.of_WW Tryz.func48 rfl C48ok R48ok E0 good_E0 ?_
    simp only [go_sem, C48]
    refine CL.of (f84_ok (hA.ext _) (ha.ext _) (by omega) s) ?_
    rintro _ _ ⟨rfl, rfl⟩
    cases hf : findD l s with
    | none =>
      rw [stands_none hf]
      simp only [go_sem, Option.isSome_none, foundD, zeroD, zeroA, Option.getD_none, Dn.enc, An.enc]
      first | exact ⟨rfl, _, rfl⟩ | exact ⟨_, rfl⟩
    | some d =>
      rw [stands_some hf]
      simp only [go_sem, Option.isSome_some, foundD, zeroA, Option.getD_some, Dn.enc]
      refine ⟨fun g => ?_, fun g => ⟨fun g2 => ?_, fun g2 => ?_⟩⟩
      · rw [if_pos g]; exact ⟨rfl, _, rfl⟩
      · rw [if_neg g, if_pos g2]; exact ⟨rfl, _, rfl⟩
      · rw [if_neg g, if_neg g2]; exact ⟨rfl, _, rfl⟩
  · rintro _ rfl top σ
    have := (stands_an ha s id).ren top σ
    simp only [An.enc, AV.ren, AV.rens, this]
def freshD (a : List Dn) (c : Dn) : Prop := ∀ x, findD a c.ses = some x → x.id < c.id
noncomputable instance (a : List Dn) (c : Dn) : Decidable (freshD a c) := Classical.propDecidable _
noncomputable def joinR (a b : List Dn) : List Dn := b.foldl (fun acc c => if freshD a c then withD acc c else acc) a
noncomputable def anyFresh (a b : List Dn) : Bool := b.any fun c => decide (freshD a c)
theorem joinR_snoc (a p : List Dn) (c : Dn) : joinR a (p ++ [c]) = if freshD a c then withD (joinR a p) c else joinR a p := by
  unfold joinR; rw [List.foldl_append]; rfl
theorem fresh_snoc (a p : List Dn) (c : Dn) : anyFresh a (p ++ [c]) = (anyFresh a p || decide (freshD a c)) := by
  unfold anyFresh; rw [List.any_append, List.any_cons, List.any_nil, Bool.or_false]
theorem foldR_up {a : List Dn} : ∀ {b x : List Dn}, upD x → upD (b.foldl (fun acc c => if freshD a c then withD acc c else acc) x)
  | [], _, h => h
  | c :: b, x, h => by
    rw [List.foldl_cons]
    refine foldR_up (b := b) ?_
    split
    · exact withD_up h
    · exact h
theorem joinR_up {a b : List Dn} (h : upD a) : upD (joinR a b) := foldR_up h
theorem foldR_ok {a : List Dn} : ∀ {b x : List Dn}, allOk H b → allOk H x → allOk H (b.foldl (fun acc c => if freshD a c then withD acc c else acc) x)
  | [], _, _, h => h
  | c :: b, x, hb, h => by
    rw [List.foldl_cons]
    refine foldR_ok (b := b) (fun d hd => hb d (by simp [hd])) ?_
    split
    · exact withD_ok h (hb c (by simp))
    · exact h
theorem joinR_ok {a b : List Dn} (ha : allOk H a) (hb : allOk H b) : allOk H (joinR a b) := foldR_ok hb ha
theorem foldR_len {a : List Dn} : ∀ {b x : List Dn}, (b.foldl (fun acc c => if freshD a c then withD acc c else acc) x).length ≤ x.length + b.length
  | [], x => by simp
  | c :: b, x => by
    rw [List.foldl_cons]
    have h1 := foldR_len (a := a) (b := b) (x := if freshD a c then withD x c else x)
    have h2 : (if freshD a c then withD x c else x).length ≤ x.length + 1 := by
      split
      · exact withD_len
      · omega
    rw [List.length_cons]; omega
theorem joinR_len {a b : List Dn} : (joinR a b).length ≤ a.length + b.length := foldR_len
/-- a session's entry, of both joined -/
theorem find_foldR {a : List Dn} (s : Int) : ∀ {b x : List Dn}, upD b → upD x → (∀ c ∈ b, findD x c.ses = findD a c.ses) →
    findD (b.foldl (fun acc c => if freshD a c then withD acc c else acc) x) s = match findD b s with | none => findD x s | some c => laterO (findD x s) (some c)
  | [], x, _, _, _ => rfl
  | c :: b, x, hb, hx, he => by
    obtain ⟨h1, h2⟩ := upD_cons.1 hb
    have hc := he c (by simp)
    have hnew : ∀ d ∈ b, findD (if freshD a c then withD x c else x) d.ses = findD a d.ses := fun d hd => by
      split
      · rw [find_with hx, if_neg (by have := h1 d hd; omega)]; exact he d (by simp [hd])
      · exact he d (by simp [hd])
    have hup : upD (if freshD a c then withD x c else x) := by
      split
      · exact withD_up hx
      · exact hx
    rw [List.foldl_cons, find_foldR s h2 hup hnew, findD]
    by_cases e : c.ses = s
    · subst e
      rw [if_pos rfl, findD_none (l := b) (fun d hd g => by have := h1 d hd; omega)]
      dsimp only
      by_cases hf : freshD a c
      · rw [if_pos hf, find_with hx, if_pos rfl, hc]
        cases h : findD a c.ses with
        | none => rfl
        | some y =>
          have := hf y h
          show some (lateD y c) = some (lateD c y)
          rw [lateD, lateD, if_pos (by omega), if_neg (by omega)]
      · rw [if_neg hf, hc]
        cases h : findD a c.ses with
        | none => exact absurd (fun y hy => by rw [h] at hy; cases hy) hf
        | some y =>
          have : ¬ y.id < c.id := fun g => hf fun z hz => by rw [h] at hz; cases hz; exact g
          show some y = some (lateD c y)
          rw [lateD, if_pos (by omega)]
    · rw [if_neg e]
      have hk : findD (if freshD a c then withD x c else x) s = findD x s := by
        split
        · rw [find_with hx, if_neg e]
        · rfl
      rw [hk]
theorem joinR_other {a p : List Dn} (hp : upD p) (ha : upD a) {s : Int} (h : ∀ x ∈ p, ¬ x.ses = s) : findD (joinR a p) s = findD a s := by
  have := find_foldR (a := a) s hp ha (fun _ _ => rfl)
  rw [findD_none h] at this
  exact this
def selV (c : Bool) (u : AV) (k : K) (n : Nat) : AV := match c with | true => outV k 6 n | false => u
def selB (c : Bool) (xs : List (List AV)) : Blk := match c with | true => outB 6 xs | false => .dead
theorem selV_ren {ρ : K → K} {u : AV} (hu : u.ren ρ = u) (c : Bool) (k : K) (n : Nat) : AV.ren ρ (selV c u k n) = selV c u (ρ k) n := by
  cases c
  · exact hu
  · exact outV_ren' ..
theorem selB_ren {ρ : K → K} {xs : List (List AV)} (h : xs.map (AV.rens ρ) = xs) (c : Bool) : Blk.ren ρ (selB c xs) = selB c xs := by
  cases c
  · rfl
  · exact outB_ren' _ h
theorem selArr {c : Bool} {u : AV} {L : List Blk} {i n : Nat} {xs : List (List AV)} (h : L[i]? = some (selB c xs)) (hn : xs.length = n) (hu : c = false → Arr H 6 u xs) : Arr (H.ext L) 6 (selV c u (H.key i) n) xs := by
  cases c
  · exact (hu rfl).ext _
  · exact arr_outV h hn
theorem FnOk.dropS {f : FuncId} {args : List AV} {c : Bool} {u : AV} {n : Nat} {xs : List (List AV)} (hu : ∀ top σ, u.ren (rho H top σ) = u) (hx : ∀ top σ, xs.map (AV.rens (rho H top σ)) = xs)
    (h : FnOk Tryz.prog f args H fun v G => ∃ l i, v = selV c u (H.key i) n ∧ G = H.ext l ∧ ((selB c xs).live → l[i]? = some (selB c xs))) :
    FnOk Tryz.prog f args H fun v G => v = selV c u H.nx n ∧ G = H.ext [selB c xs] := by
  refine h.wk ?_
  rintro v G ⟨l, i, rfl, rfl, hl⟩
  refine ⟨l, [selB c xs], [i], selV c u H.nx n, rfl, ?_, rfl, by simp, ?_, rfl, rfl⟩
  · rw [selV_ren (hu _ _), ← Heap.key_zero, rho_key rfl]
  · intro q hq
    simp only [List.zip_cons_cons, List.zip_nil_left, List.mem_singleton] at hq
    subst hq
    intro hlive
    show l[i]? = some (Blk.ren _ (selB c xs))
    rw [selB_ren (hx _ _), hl hlive]
theorem joinR_none {a b : List Dn} : anyFresh a b = false → joinR a b = a := by
  intro h
  have key : ∀ (b x : List Dn), anyFresh a b = false → b.foldl (fun acc c => if freshD a c then withD acc c else acc) x = x := by
    intro b
    induction b with
    | nil => intro x _; rfl
    | cons c b ih =>
      intro x h
      unfold anyFresh at h
      rw [List.any_cons, Bool.or_eq_false_iff] at h
      rw [List.foldl_cons, if_neg (of_decide_eq_false h.1)]
      exact ih x h.2
  exact key b a h
theorem f42_ok {u v : AV} {a l : List Dn} (hB : Arr H 6 u (a.map Dn.enc)) (hA : Arr H 6 v (l.map Dn.enc)) (ha : allOk H a) (hb : allOk H l) (hua : upD a) (hub : upD l) (hal : a.length < 10000) (hl : l.length < 10000) :
    FnOk Tryz.prog 42 [u, v] H fun r G => r = selV (anyFresh a l) u H.nx (joinR a l).length ∧ G = H.ext [selB (anyFresh a l) ((joinR a l).map Dn.enc)] := by
  refine FnOk.assume fun hok => ?_
  have hren2 := hB.ren
  refine FnOk.dropS hren2 (joinR_ok ha hb).rens ?_
  refine FnOk.of_WW Tryz.func42 rfl C42ok R42ok E0 good_E0 ?_
  have hlen := fun G => hA.len G; simp only [List.length_map] at hlen; have hren := hA.ren
  have hokJ : ∀ i, allOk H (joinR a (l.take i)) := fun i => joinR_ok ha fun d hd => hb d (List.mem_of_mem_take hd)
  simp only [go_sem, C42]
  have h0 : joinR a [] = a := rfl
  have h00 : anyFresh a [] = false := rfl
  refine LL.st good_E0 (fun i : Nat => l.length - i) (fun i => i ≤ l.length)
    (fun i => [(.z, u), ((.o .z), v), ((.o (.i .z)), selV (anyFresh a (l.take i)) u (H.key 0) (joinR a (l.take i)).length), ((.i (.i .z)), .int .i64 i)])
    (fun i => [selB (anyFresh a (l.take i)) ((joinR a (l.take i)).map Dn.enc)]) ?_ 0 (σ := [0]) (Wk.of rfl (by decide) (by simp only [go_sem, hren, hren2, h0, h00, selV]) (by simp only [go_sem, h0, h00, selB])) (Nat.zero_le _)
  rintro i hi
  by_cases hlt : i < l.length
  · obtain ⟨kk, r, ex', cap', wr, rows, hv, hrho, hgo, hrow⟩ := hA.at hok (j := i) (by rw [List.length_map]; exact hlt); simp only [List.length_map, List.getElem_map] at hv hrow; cases hv; have hget : l[i]? = some l[i] := List.getElem?_eq_getElem hlt; generalize l[i] = c at hrow hget; have hw := wrap_succ (n := i) (by omega); have hci : (i : Int) < (l.length : Int) := (by omega); have hsi : i + 1 ≤ l.length := (by omega)
    have hco := hb c (List.mem_of_getElem? hget)
    have htk := take_snoc hget
    have hsn := joinR_snoc a (l.take i) c
    have hfn := fresh_snoc a (l.take i) c
    have hlen2 := joinR_len (a := a) (b := l.take i)
    rw [List.length_take] at hlen2
    have hoi := hokJ i
    have hoi2 := (hokJ (i + 1)).rens
    have hupJ : upD (joinR a (l.take i)) := joinR_up hua
    have hother : findD (joinR a (l.take i)) c.ses = findD a c.ses := joinR_other (List.Pairwise.sublist (List.take_sublist _ _) hub) hua fun x hx => by
      obtain ⟨q, hq⟩ := List.mem_iff_getElem?.1 hx
      rw [List.getElem?_take] at hq
      split at hq
      · rename_i hlt
        have := upD_rises hub q i x c hlt hq hget
        omega
      · cases hq
    have hnone := joinR_none (a := a) (b := l.take i)
    rw [htk] at hoi2
    simp only [go_sem, C42L0, hlen, hci, hsi, hgo, hrow, hw, Dn.enc]
    refine CL.of (f84_ok (hB.ext _) (ha.ext _) (by omega) c.ses) ?_
    rintro _ _ ⟨rfl, rfl⟩
    have hfresh : freshD a c → ¬ keepsD (joinR a (l.take i)) c := fun hf ⟨x, h1, h2⟩ => by
      rw [hother] at h1
      have := hf x h1; omega
    have harr : ∀ (L : List Blk), L[0]? = some (selB (anyFresh a (l.take i)) ((joinR a (l.take i)).map Dn.enc)) → Arr (H.ext L) 6 (selV (anyFresh a (l.take i)) u (H.key 0) (joinR a (l.take i)).length) ((joinR a (l.take i)).map Dn.enc) := fun L h =>
      selArr h (List.length_map ..) fun h => by rw [hnone h]; exact hB
    have hz1 : ∀ (k : K) (n : Nat), selV true u k n = outV k 6 n := fun _ _ => rfl
    have hz2 : ∀ xs : List (List AV), selB true xs = outB 6 xs := fun _ => rfl
    cases hf : findD a c.ses with
    | none =>
      have hfr : freshD a c := fun x hx => by rw [hf] at hx; cases hx
      rw [if_pos hfr] at hsn
      rw [decide_eq_true hfr, Bool.or_true] at hfn
      rw [hsn] at hoi2
      simp only [go_sem, Option.isSome_none, foundD, zeroD, zeroA, Option.getD_none, Dn.enc, hlen, hsi, hgo, hrow]
      refine CL.of (f51_with (l := joinR a (l.take i)) (d := c) (harr _ rfl) (hoi.ext _) (hco.ext _) hupJ (by omega) (hfresh hfr)) ?_
      rintro _ _ ⟨rfl, rfl⟩
      simp only [go_sem, hw]
      refine ⟨i + 1, by show l.length - (i + 1) < l.length - i; omega, by show i + 1 ≤ l.length; omega, _, [2], rfl, Wk.of rfl (by decide) (by simp only [go_sem, outV_ren', hrho, hren2, htk, hsn, hfn, hz1]) (by simp only [go_sem, ↓outB_ren', htk, hsn, hfn, hz2, hoi2, implies_true])⟩
    | some x =>
      simp only [go_sem, Option.isSome_some, foundD, Option.getD_some, Dn.enc, hlen, hsi, hgo, hrow]
      refine ⟨fun g => ?_, fun g => ?_⟩
      · have hfr : freshD a c := fun y hy => by rw [hf] at hy; cases hy; exact g
        rw [if_pos hfr] at hsn
        rw [decide_eq_true hfr, Bool.or_true] at hfn
        rw [hsn] at hoi2
        refine CL.of (f51_with (l := joinR a (l.take i)) (d := c) (harr _ rfl) (hoi.ext _) (hco.ext _) hupJ (by omega) (hfresh hfr)) ?_
        rintro _ _ ⟨rfl, rfl⟩
        simp only [go_sem, hw]
        refine ⟨i + 1, by show l.length - (i + 1) < l.length - i; omega, by show i + 1 ≤ l.length; omega, _, [2], rfl, Wk.of rfl (by decide) (by simp only [go_sem, outV_ren', hrho, hren2, htk, hsn, hfn, hz1]) (by simp only [go_sem, ↓outB_ren', htk, hsn, hfn, hz2, hoi2, implies_true])⟩
      · have hfr : ¬ freshD a c := fun h => g (h x hf)
        rw [if_neg hfr] at hsn
        rw [decide_eq_false hfr, Bool.or_false] at hfn
        refine ⟨i + 1, by show l.length - (i + 1) < l.length - i; omega, by show i + 1 ≤ l.length; omega, _, [0], rfl, Wk.of rfl (by decide) (by simp only [go_sem, ↓selV_ren, hrho, hren2, htk, hsn, hfn, hw]) (by simp only [go_sem, ↓selB_ren, htk, hsn, hfn, hoi.rens, implies_true])⟩
  · have hci : ¬ (i : Int) < (l.length : Int) := by omega
    simp only [go_sem, C42L0, hlen, hci]
    rw [List.take_of_length_le (by omega)]
    exact ⟨_, 0, rfl, rfl, fun _ => rfl⟩
end Go.Proofs
/- the document's shards: small things: walked. -/


set_option linter.all false
set_option linter.all false
set_option maxRecDepth 100000
namespace Go.Proofs
open Go Go.Ev
variable {H : Heap}

/-- two shards that say the same -/
def sameSh (a b : Sh) : Prop := a.id = b.id ∧ a.ep = b.ep ∧ a.fr = b.fr ∧ a.to = b.to ∧ a.frz = b.frz ∧ a.cells = b.cells ∧ a.evs = b.evs ∧ a.done = b.done
end Go.Proofs
/- the document's Split: walked. -/

set_option linter.all false
set_option linter.all false
set_option maxRecDepth 100000
namespace Go.Proofs
open Go Go.Ev
variable {H : Heap}

/-- what both parts of a cut say -/
noncomputable def saidPart (s : Sh) (id : Int) (f t : List Nat) : Sh := ⟨id, 1, f, t, false, withinL f t s.cells, evW f t s.evs, s.done, .nils, .nils, .nils⟩
end Go.Proofs
/- the document's Keep: the plain law, the walk. -/

set_option linter.all false
set_option linter.all false
set_option maxRecDepth 100000
namespace Go.Proofs
open Go Go.Ev
variable {H : Heap}

theorem runR_le {c e : Evn} {d : Cell} : ∀ {l : List Evn} {v w : Int}, runR d l v = some w → e ∈ l → e.key = d.key → e.ver ≤ w
  | [], _, _, _, h, _ => absurd h List.not_mem_nil
  | x :: l, v, w, h, he, hk => by
    rw [runR] at h
    rcases List.mem_cons.1 he with rfl | he
    · rw [if_pos hk] at h
      split at h
      · rename_i h2; have := runR_ge h; omega
      · cases h
    · split at h
      · split at h
        · exact runR_le (c := c) h he hk
        · cases h
      · exact runR_le (c := c) h he hk
theorem hist_ver {l : List Evn} {cs : List Cell} (h : isHist l cs) {e : Evn} {c : Cell} (he : e ∈ l) (hc : c ∈ cs) (hk : c.key = e.key) : e.ver ≤ c.ver := runR_le (c := e) (ofH_iff.1 (h.2.2 c hc)) he hk.symm
theorem flo_key (e : Evn) (c : Cell) : (flo e c).key = c.key := by unfold flo; split <;> rfl
theorem flo_ver (e : Evn) (c : Cell) : (flo e c).ver = c.ver := by unfold flo; split <;> rfl
theorem flo_is {e : Evn} {c : Cell} (h : cellIs c) (hv : c.key = e.key → e.ver ≤ c.ver) : cellIs (flo e c) := by
  unfold flo
  split
  · rename_i hk
    have := hv hk
    exact ⟨h.1, by show (0 : Int) ≤ max c.floor e.ver; have := h.2.1; omega, by show max c.floor e.ver ≤ c.ver; have := h.2.2; omega⟩
  · exact h
theorem getL_mem {k : List Nat} {c : Cell} : ∀ {l : List Cell}, getL l k = (c, true) → c ∈ l ∧ c.key = k
  | [], h => by cases h
  | d :: l, h => by
    unfold getL at h
    split at h
    · rename_i hk; cases h; exact ⟨by simp, hk⟩
    · exact ⟨by simp [(getL_mem h).1], (getL_mem h).2⟩
theorem withL_flo {e : Evn} {c : Cell} : ∀ {l : List Cell}, Ord l → getL l e.key = (c, true) → withL l (flo e c) = l.map (flo e)
  | [], _, h => by cases h
  | d :: l, ho, h => by
    obtain ⟨h1, h2⟩ := List.pairwise_cons.1 ho
    unfold getL at h
    split at h
    · rename_i hk
      cases h
      have hid : l.map (flo e) = l := by
        conv => rhs; rw [← List.map_id l]
        refine List.map_congr_left fun x hx => flo_no fun hk2 => ?_
        have := h1 x hx
        rw [hk, hk2] at this
        exact ltS_irrefl _ this
      unfold withL
      rw [flo_key, if_neg (ltS_irrefl _), if_pos rfl, List.map_cons, hid]
    · rename_i hk
      obtain ⟨hm, hck⟩ := getL_mem h
      unfold withL
      rw [flo_key, if_pos (h1 c hm), List.map_cons, flo_no hk, withL_flo h2 h]
/-- what goes on while the events are let go: the cells stay an index, of the same keys and versions -/
structure Kept (cs0 cs : List Cell) : Prop where
  idx : isIdx cs
  src : ∀ c ∈ cs, ∃ c0 ∈ cs0, c.key = c0.key ∧ c.ver = c0.ver
  len : cs.length = cs0.length
  has : ∀ k, (getL cs0 k).2 = true → (getL cs k).2 = true
theorem Kept.refl {cs : List Cell} (h : isIdx cs) : Kept cs cs := ⟨h, fun c hc => ⟨c, hc, rfl, rfl⟩, rfl, fun _ h => h⟩
theorem Kept.step {l : List Evn} {cs0 cs : List Cell} (hI : isHist l cs0) (h : Kept cs0 cs) {e : Evn} (he : e ∈ l) : Kept cs0 (cs.map (flo e)) ∧ ∃ c, getL cs e.key = (c, true) ∧ cellIs (flo e c) ∧ refW cs (flo e c) = cs.map (flo e) := by
  have hv : ∀ c ∈ cs, cellIs (flo e c) := fun c hc => flo_is (isIdx_all h.idx c hc) fun hk => by
    obtain ⟨c0, hc0, h1, h2⟩ := h.src c hc
    rw [h2]
    exact hist_ver hI he hc0 (h1.symm.trans hk)
  have hx : isIdx (cs.map (flo e)) := isIdx_of (fun c hc => by
    obtain ⟨d, hd, rfl⟩ := List.mem_map.1 hc
    exact hv d hd) (List.pairwise_map.2 ((isIdx_pair h.idx).imp fun {a b} hab => by rw [flo_key, flo_key]; exact hab))
  refine ⟨⟨hx, fun c hc => ?_, by rw [List.length_map]; exact h.len, fun k hk => ?_⟩, ?_⟩
  · obtain ⟨d, hd, rfl⟩ := List.mem_map.1 hc
    obtain ⟨c0, h1, h2, h3⟩ := h.src d hd
    exact ⟨c0, h1, by rw [flo_key]; exact h2, by rw [flo_ver]; exact h3⟩
  · obtain ⟨c, hc, hck⟩ := getL_true.1 (h.has k hk)
    exact getL_true.2 ⟨flo e c, List.mem_map.2 ⟨c, hc, rfl⟩, by rw [flo_key]; exact hck⟩
  · have h2 := h.has e.key (hI.2.1 e he).1
    obtain ⟨c, hc⟩ : ∃ c, getL cs e.key = (c, true) := ⟨(getL cs e.key).1, by rw [← h2]⟩
    exact ⟨c, hc, hv c (getL_mem hc).1, by rw [refW_eq h.idx, withL_flo (isIdx_pair h.idx) hc]⟩
theorem Kept.take {l : List Evn} {cs : List Cell} (hI : isHist l cs) : ∀ i, Kept cs (keepC (l.take i) cs)
  | 0 => Kept.refl hI.1
  | i + 1 => by
    by_cases hi : i < l.length
    · rw [keepC_succ (List.getElem?_eq_getElem hi)]
      exact ((Kept.take hI i).step hI (List.getElem_mem hi)).1
    · rw [List.take_of_length_le (by omega)]
      have := Kept.take hI i
      rwa [List.take_of_length_le (by omega)] at this
def seV (c : Bool) (u : AV) (k : K) (e n : Nat) : AV := match c with | true => outV k e n | false => u
def seB (c : Bool) (e : Nat) (xs : List (List AV)) : Blk := match c with | true => outB e xs | false => .dead
theorem seV_ren {ρ : K → K} {u : AV} (hu : u.ren ρ = u) (c : Bool) (k : K) (e n : Nat) : AV.ren ρ (seV c u k e n) = seV c u (ρ k) e n := by
  cases c
  · exact hu
  · exact outV_ren' ..
theorem seB_ren {ρ : K → K} {e : Nat} {xs : List (List AV)} (h : xs.map (AV.rens ρ) = xs) (c : Bool) : Blk.ren ρ (seB c e xs) = seB c e xs := by
  cases c
  · rfl
  · exact outB_ren' _ h
theorem seArr {c : Bool} {u : AV} {L : List Blk} {i n e : Nat} {xs : List (List AV)} (h : L[i]? = some (seB c e xs)) (hn : xs.length = n) (hu : c = false → Arr H e u xs) : Arr (H.ext L) e (seV c u (H.key i) e n) xs := by
  cases c
  · exact (hu rfl).ext _
  · exact arr_outV h hn
theorem f86_at {v : AV} {l : List Cell} (hA : Arr H 5 v (l.map Cell.enc)) (hl : l.length < 4294967295) {c : Cell} (hc : cellIs c) :
    FnOk Tryz.prog 86 [v, .agg c.enc] H fun r G => r = outV H.nx 5 (refW l c).length ∧ G = H.ext [outB 5 ((refW l c).map Cell.enc)] := by
  refine FnOk.dropO (List.length_map ..) (Cell.map_rens · _) ?_
  refine (f86_yes hA hl hc).mono ?_
  rintro v G ⟨rfl, rfl⟩
  refine ⟨_, 0, by rw [Heap.key_zero], rfl, ?_⟩
  cases refW l c with
  | nil => intro h; exact h.elim
  | cons x xs => intro _; rfl
theorem appR_hide2 (esz bytes : Nat) (a : AV) (b : K) (T : Tr AV) (H : Heap) : appR esz bytes (.c a) (.t b) T H = appQ esz bytes (some a) (T.get b) H := by
  unfold appR appQ
  simp only [withX_t, withX_c]
  cases T.get b <;> rfl
/-- a copy of what a slice has -/
theorem appQ_nil {G : Heap} {e bytes : Nat} {w : AV} {ys : List (List AV)} (hpos : 0 < e) (hw : Arr G e w ys) (hy : ys ≠ []) (hb : okBig ys.length bytes = true) :
    appQ e bytes (some .nils) (some w) G = .val (outV (G.key 0) e ys.length) (G.ext [outB e ys]) := by
  have hl : 0 < ys.length := List.length_pos_iff.2 hy
  rcases hw with ⟨rfl, rfl⟩ | ⟨k, off, ex, cap, rfl, hk, h⟩
  · exact absurd rfl hy
  · obtain ⟨r, wr, rows', rfl, hg, hrow⟩ := h hy
    have e1 : r * e % e = 0 := Nat.mul_mod_left r e
    have e2 : r * e / e = r := Nat.mul_div_cancel r hpos
    have hlen := congrArg List.length hrow
    rw [List.length_take, List.length_drop] at hlen
    have e3 : ys.length ≤ (rows'.drop r).length := by rw [List.length_drop]; omega
    have e4 : ¬ ys.length = 0 := by omega
    have hb1 : (2 * ys.length + 192) * bytes ≤ 281474976710656 := by unfold okBig at hb; rwa [Nat.ble_eq] at hb
    show appR e bytes (.c .nils) (.c (.slice k (r * e) ys.length e ex cap)) .lf G = _
    simp only [go_sem, hg, e1, e2, e3, e4, hrow]
    rw [if_pos hb1, outV_pos hl, outB_pos hl]
    have hG := Heap.addC_ext G [] (.row true e ys) (fun k G => R1.val (AV.slice k 0 ys.length e false ys.length) G)
    rw [Heap.ext_nil] at hG
    exact hG
theorem Arr.drop_at {G : Heap} {k : K} {n e cap cap' i : Nat} {ex ex' : Bool} {xs : List (List AV)} (hpos : 0 < e) (h : Arr G e (.slice k 0 n e ex cap) xs) : Arr G e (.slice k (i * e) (n - i) e ex' cap') (xs.drop i) := by
  rcases h with ⟨h, _⟩ | ⟨k', off, ex2, cap2, h, hk, h2⟩
  · cases h
  · cases h
    refine .inr ⟨k, i * e, ex', cap', by rw [List.length_drop], hk, fun hx => ?_⟩
    have hxs : xs ≠ [] := by rintro rfl; simp at hx
    obtain ⟨r, wr, rows, h3, h4, h5⟩ := h2 hxs
    have hr : r = 0 := by
      rcases Nat.eq_zero_or_pos r with hr | hr
      · exact hr
      · have := Nat.mul_pos hr hpos; omega
    subst hr
    rw [List.drop_zero] at h5
    refine ⟨i, wr, rows, rfl, h4, ?_⟩
    have h6 := congrArg (List.drop i) h5
    rw [List.drop_take] at h6
    rw [List.length_drop]
    exact h6
theorem f43_ok {kx : K} {v u : AV} {l : List Evn} {cs : List Cell} (hA : Arr H 4 v (l.map Evn.enc)) (hB : Arr H 5 u (cs.map Cell.enc)) (hl : l.length < 100000) (hc : cs.length < 100000) (hI : isHist l cs) (hvx : v = outV kx 4 l.length) :
    FnOk Tryz.prog 43 [v, u, .int .i64 24] H fun r G => r = .tup [outV (H.key 1) 4 (l.drop (l.length - 24)).length, seV (decide (0 < l.length - 24)) u (H.key 0) 5 cs.length] ∧ G = H.ext [seB (decide (0 < l.length - 24)) 5 ((keepC (l.take (l.length - 24)) cs).map Cell.enc), outB 4 ((l.drop (l.length - 24)).map Evn.enc)] := by
  refine FnOk.assume fun hok => ?_
  refine FnOk.dropW ?_
  refine FnOk.of_WW Tryz.func43 rfl C43ok R43ok E0 good_E0 ?_
  have hlen := fun G => hA.len G; simp only [List.length_map] at hlen; have hren := hA.ren
  have uren := hB.ren
  obtain ⟨kk, hkk⟩ : ∃ kk, kk = l.length - 24 := ⟨_, rfl⟩
  have e1 : max (0 : Int) 24 = 24 := by decide
  have e2 : max 0 (IntKind.i64.wrap ((l.length : Int) - 24)) = (kk : Int) := by rw [wrap_i64 (by omega) (by omega)]; omega
  rw [← hkk]
  simp only [go_sem, C43, hlen, e1, e2]
  refine LL.st good_E0 (fun i : Nat => kk - i) (fun i => i ≤ kk)
    (fun i => [(.z, v), ((.o .z), seV (decide (0 < i)) u (H.key 0) 5 cs.length), ((.i (.o (.o .z))), .int .i64 kk), ((.o (.i (.o .z))), .int .i64 i)])
    (fun i => [seB (decide (0 < i)) 5 ((keepC (l.take i) cs).map Cell.enc)]) ?_ 0 (σ := [0]) (Wk.of rfl (by decide) (by simp only [go_sem, hren, uren, seV]) (by simp only [go_sem, seB])) (Nat.zero_le _)
  rintro i hi
  have hK := Kept.take hI i
  have hBi : ∀ L, Arr (H.ext (seB (decide (0 < i)) 5 ((keepC (l.take i) cs).map Cell.enc) :: L)) 5 (seV (decide (0 < i)) u (H.key 0) 5 cs.length) ((keepC (l.take i) cs).map Cell.enc) := fun L => seArr (i := 0) rfl (by rw [List.length_map]; exact hK.len) fun h0 => by
    obtain rfl : i = 0 := by simpa using h0
    exact hB
  by_cases hlt : i < kk
  · obtain ⟨ke, r, ex', cap', wr, rows, hv, hrho, hgo, hrow⟩ := hA.at hok (j := i) (by rw [List.length_map]; omega); simp only [List.length_map, List.getElem_map] at hv hrow; cases hv; have hget : l[i]? = some (l[i]'(by omega)) := List.getElem?_eq_getElem (by omega); generalize l[i]'(by omega) = e at hrow hget; have hw := wrap_succ (n := i) (by omega); have hci : (i : Int) < (kk : Int) := (by omega); have hsi : i + 1 ≤ l.length := (by omega)
    obtain ⟨_, c, h1, h2, h3⟩ := hK.step hI (List.mem_of_getElem? hget)
    have hnew := keepC_succ hget cs
    have hck := (getL_mem h1).2
    simp only [go_sem, C43L0, hci, hsi, hgo, hrow, hw, Evn.enc]
    refine CL.of (f85_ok (hBi []) (by rw [hK.len]; omega) e.key) ?_
    rintro _ _ ⟨rfl, rfl⟩
    rw [h1]
    simp only [go_sem, Cell.enc, Evn.enc, hsi, hgo, hrow, hw]
    rw [← flo_yes hck]
    refine CL.of (f86_at (hBi [_]) (by rw [hK.len]; omega) h2) ?_
    rintro _ _ ⟨rfl, rfl⟩
    rw [h3, ← hnew]
    have hle : (keepC (l.take (i + 1)) cs).length = cs.length := keepC_len _ _
    simp only [go_sem, hw, hle]
    refine ⟨i + 1, by show kk - (i + 1) < kk - i; omega, ?_, _, [2], rfl, Wk.of rfl (by decide) (by simp only [go_sem, hrho, uren, outV_ren', seV, Nat.zero_lt_succ]) (by simp only [go_sem, seB, Nat.zero_lt_succ, ↓outB_ren', Cell.map_rens, implies_true])⟩
    show i + 1 ≤ kk
    omega
  · have hci : ¬ (i : Int) < (kk : Int) := by omega
    obtain rfl : i = kk := by omega
    have hdl : (l.drop i).length = l.length - i := List.length_drop ..
    by_cases h0 : l.length = 0
    · have hi0 : i = 0 := by omega
      subst hi0
      obtain rfl : l = [] := List.length_eq_zero_iff.1 h0
      rw [hvx]
      simp only [go_sem, ↓appR_hide2, C43L0, hci, outV]
      rw [appQ_none (.inl ⟨rfl, rfl⟩)]
      simp only [go_sem]
      exact ⟨_, [0, 1], by simp only [seV_ren (uren _ _), go_sem], rfl, rfl, by decide, by simp only [go_sem, seB]⟩
    · have hv : v = .slice kx 0 l.length 4 false l.length := by rw [hvx, outV_pos (by omega)]
      have q1 : i ≤ l.length := by omega
      have hA2 : ∀ L, Arr (H.ext L) 4 (.slice kx (i * 4) (l.length - i) 4 false (l.length - i)) ((l.drop i).map Evn.enc) := fun L => by
        refine Arr.ext ?_ L
        rw [hv] at hA
        rw [List.map_drop]
        exact Arr.drop_at (by decide) hA
      rw [hv]
      simp only [go_sem, ↓appR_hide2, C43L0, hci, q1]
      refine ⟨⟨Nat.le_refl _, Nat.le_refl _⟩, ?_⟩
      rw [appQ_nil (by decide) (hA2 _) (by intro e; have := congrArg List.length e; rw [List.length_map, hdl] at this; simp at this; omega) (okBig_le (by rw [List.length_map, hdl]; omega) (by decide))]
      simp only [go_sem, List.length_map]
      exact ⟨_, [0, 1], by simp only [seV_ren (uren _ _), outV_ren', go_sem, Heap.key_ext], rfl, rfl, by decide, by simp only [go_sem, ↓seB_ren, Cell.map_rens, ↓outB_ren', Evn.map_rens, implies_true]⟩
end Go.Proofs
/- Objects that a call changes: memories that aren't spelt out. -/


set_option linter.all false
set_option maxRecDepth 100000
namespace Go.Ev
variable {P : Program}
section
variable {N : Nat} {H0 H : Heap} {T : Tr AV} {Q : Ex → Tr AV → Heap → Prop}
theorem At2.sub {φ0 : Phi} {w0 u : World} {a : Act} {ts : List (K × AV)} (hts : ∀ p ∈ ts, T.get p.1 = some p.2) (h : At2 P φ0 H0 w0 N T H a u) : At2 P φ0 H0 w0 N (trOf ts) H a u := by
  obtain ⟨hd, ψ, ht, hw, he⟩ := h
  exact ⟨hd, ψ, ⟨ht.size, fun t v hv => ht.get t v (hts _ (get_trOf ts _ v hv))⟩, hw, he⟩
theorem Tri.sub {c : Code} {ts : List (K × AV)} (hts : ∀ p ∈ ts, T.get p.1 = some p.2) (h : Tri P N H0 c (trOf ts) H Q) : Tri P N H0 c T H Q :=
  fun φ0 w0 a u h0 ha => h φ0 w0 a u h0 (ha.sub hts)
theorem TriC.sub {c : CC} {ts : List (K × AV)} (hts : ∀ p ∈ ts, T.get p.1 = some p.2) (h : TriC P N H0 c (trOf ts) H Q) : TriC P N H0 c T H Q := fun code hc => (h code hc).sub hts
end
section
variable {E : FuncId → List AV → Heap → RC} {N : Nat} {H0 : Heap} {k : List It} {Q : Ex → Tr AV → Heap → Prop} {T : Tr AV} {G : Heap}
theorem WW.nil (h : WW P E N H0 k T (G.ext []) Q) : WW P E N H0 k T G Q := by rw [Heap.ext_nil] at h; exact h
end
/-- the slots that are told of -/
@[go_sem] def Slots (T : Tr AV) : List (K × AV) → Prop
  | [] => True
  | p :: ts => T.get p.1 = some p.2 ∧ Slots T ts
theorem Slots.all {T : Tr AV} : ∀ {ts : List (K × AV)}, Slots T ts → ∀ p ∈ ts, T.get p.1 = some p.2
  | [], _, p, h => by cases h
  | q :: ts, h, p, hp => by
    rcases List.mem_cons.1 hp with rfl | hp
    · exact h.1
    · exact Slots.all h.2 p hp
namespace Heap
attribute [go_sem] key_set nx_set'
@[go_sem] theorem get_key_of {B G : Heap} {l : List Blk} {i : Nat} (h : B.nx = G.nx) (hi : i < l.length) : (B.ext l).get (G.key i) = l[i]? := by
  have : G.key i = B.key i := by unfold key; rw [h]
  rw [this, get_ext_key _ _ _ hi]
@[go_sem] theorem setC_key_of {α : Type} {B G : Heap} {l : List Blk} {i : Nat} (h : B.nx = G.nx) (hi : i < l.length) (b : Blk) (c : Heap → α) : (B.ext l).setC (G.key i) b c = c (B.ext (l.set i b)) := by
  have : G.key i = B.key i := by unfold key; rw [h]
  rw [this, setC_ext _ _ _ _ _ hi]
@[go_sem] theorem get_key_set {G : Heap} {s : K} {b : Blk} {l : List Blk} {i : Nat} (hi : i < l.length) : ((G.set s b).ext l).get (G.key i) = l[i]? := get_key_of rfl hi
@[go_sem] theorem setC_key_set {α : Type} {G : Heap} {s : K} {b : Blk} {l : List Blk} {i : Nat} (hi : i < l.length) (d : Blk) (c : Heap → α) : ((G.set s b).ext l).setC (G.key i) d c = c ((G.set s b).ext (l.set i d)) := setC_key_of rfl hi d c
theorem setC_here {α : Type} {G : Heap} (hok : G.ok) {k : K} {x : Blk} (hk : G.get k = some x) (b : Blk) (l : List Blk) (c : Heap → α) : (G.ext l).setC k b c = c ((G.set k b).ext l) := setC_old _ l k b c (hok k x hk)
end Heap
theorem Arr.set {G : Heap} {k : K} {b : Blk} {wr : Bool} {e e' : Nat} {rows : List (List AV)} {v : AV} {xs : List (List AV)} (h : Arr G e v xs) (hk : G.get k = some (.row wr e' rows)) (he : e ≠ e') : Arr (G.set k b) e v xs := by
  rcases h with h | ⟨j, off, ex, cap, rfl, hj, h⟩
  · exact .inl h
  · refine .inr ⟨j, off, ex, cap, rfl, hj, fun hx => ?_⟩
    obtain ⟨r, wr', rows', h1, h2, h3⟩ := h hx
    refine ⟨r, wr', rows', h1, ?_, h3⟩
    rw [Heap.get_set, if_neg fun e => ?_]
    · exact h2
    · subst e; rw [hk] at h2; cases h2; exact he rfl
end Go.Ev
/- two shards that meet: the plain law; what is put together: the steps. -/


set_option linter.all false
set_option linter.all false
set_option maxRecDepth 100000
namespace Go.Proofs
open Go Go.Ev
variable {H : Heap}

section
variable {s t : Sh}
end
theorem okBig_mono {n m b : Nat} (h : okBig m b = true) (hn : n ≤ m) : okBig n b = true := by
  unfold okBig at h ⊢
  rw [Nat.ble_eq] at h ⊢
  exact Nat.le_trans (Nat.mul_le_mul (by omega) (Nat.le_refl _)) h
section
variable {G : Heap} {e bytes : Nat} {v w : AV} {xs ys : List (List AV)}
theorem appQ_same {k : K} (hw : Arr G e w []) (n : Nat) : appQ e bytes (some (outV k e n)) (some w) G = .val (outV k e n) G := by
  cases n with
  | zero => exact appQ_none hw
  | succ n =>
    rcases hw with ⟨rfl, _⟩ | ⟨k2, off, ex, cap, rfl, hk, h⟩
    · rfl
    · rfl
theorem appQ_two {s : K} (hok : G.ok) (hpos : 0 < e) (hx : xs ≠ []) (hs : G.get s = some (.row true e xs)) (hw : Arr G e w ys) (hy : ys ≠ []) (hb : okBig (xs.length + ys.length) bytes = true) :
    appQ e bytes (some (outV s e xs.length)) (some w) G = .val (outV (G.key 0) e (xs.length + ys.length)) ((G.set s .dead).ext [.row true e (xs ++ ys)]) := by
  have hl : 0 < ys.length := List.length_pos_iff.2 hy
  have hlx : 0 < xs.length := List.length_pos_iff.2 hx
  rcases hw with ⟨rfl, rfl⟩ | ⟨k, off, ex, cap, rfl, hk, h⟩
  · exact absurd rfl hy
  · obtain ⟨r, wr, rows', rfl, hg, hrow⟩ := h hy
    have e1 : r * e % e = 0 := Nat.mul_mod_left r e
    have e2 : r * e / e = r := Nat.mul_div_cancel r hpos
    have hlen := congrArg List.length hrow
    rw [List.length_take, List.length_drop] at hlen
    have e3 : ys.length ≤ (rows'.drop r).length := by rw [List.length_drop]; omega
    have e4 : ¬ ys.length = 0 := by omega
    have e5 : ¬ xs.length + ys.length ≤ xs.length := by omega
    have hb1 : (2 * (xs.length + ys.length) + 192) * bytes ≤ 281474976710656 := by unfold okBig at hb; rwa [Nat.ble_eq] at hb
    rw [outV_pos hlx, outV_pos (by omega)]
    show appR e bytes (.c (.slice s 0 xs.length e false xs.length)) (.c (.slice k (r * e) ys.length e ex cap)) .lf G = _
    simp only [go_sem, hg, hs, e1, e2, e3, e4, e5, hrow, Nat.zero_mod, Nat.zero_div, List.take_length]
    rw [if_pos (Nat.le_refl _), if_pos hb1]
    have hG := Heap.setC_here hok hs .dead [] (fun H => H.addC (.row true e (xs ++ ys)) fun k G => R1.val (AV.slice k 0 (xs.length + ys.length) e false (xs.length + ys.length)) G)
    rw [Heap.addC_ext, Heap.ext_nil] at hG
    exact hG
theorem app_open (hok : G.ok) (hpos : 0 < e) (hv : Arr G e v xs) (hw : Arr G e w ys) (hb : okBig (xs.length + ys.length) bytes = true) :
    ∃ v1 G1 v2 G2, appQ e bytes (some .nils) (some v) G = .val v1 (Heap.ext G1 []) ∧ appQ e bytes (some v1) (some w) (Heap.ext G1 []) = .val v2 (Heap.ext G2 []) ∧ Heap.ok G1 ∧ Heap.ok G2 ∧ (∃ L, G1 = G.ext L) ∧ (∃ L, G2 = G.ext L) ∧ ∃ kx, v2 = outV kx e (xs ++ ys).length ∧ Arr G2 e v2 (xs ++ ys) := by
  simp only [Heap.ext_nil]
  by_cases hx : xs = []
  · subst hx
    have h1 := appQ_none (esz := e) (bytes := bytes) hv
    by_cases hy : ys = []
    · subst hy
      exact ⟨.nils, G, .nils, G, h1, appQ_none hw, hok, hok, ⟨[], (Heap.ext_nil G).symm⟩, ⟨[], (Heap.ext_nil G).symm⟩, .z, rfl, .inl ⟨rfl, rfl⟩⟩
    · exact ⟨.nils, G, _, _, h1, appQ_nil hpos hw hy (okBig_mono hb (by omega)), hok, Heap.ok_ext hok _, ⟨[], (Heap.ext_nil G).symm⟩, ⟨_, rfl⟩, G.key 0, rfl, arr_outV (H := G) rfl rfl⟩
  · have h1 := appQ_nil (bytes := bytes) hpos hv hx (okBig_mono hb (by omega))
    have hok1 := Heap.ok_ext hok [outB e xs]
    by_cases hy : ys = []
    · subst hy
      refine ⟨_, _, _, _, h1, appQ_same (hw.ext _) _, hok1, hok1, ⟨_, rfl⟩, ⟨_, rfl⟩, G.key 0, by rw [List.append_nil], ?_⟩
      rw [List.append_nil]
      exact arr_outV (H := G) rfl rfl
    · have hs : (G.ext [outB e xs]).get (G.key 0) = some (.row true e xs) := by
        rw [outB_pos (List.length_pos_iff.2 hx)]; exact get_first [] []
      have h2 := appQ_two hok1 hpos hx hs (hw.ext _) hy hb
      have e3 : ((G.ext [outB e xs]).set (G.key 0) .dead).ext [.row true e (xs ++ ys)] = G.ext [.dead, .row true e (xs ++ ys)] := by
        rw [Heap.set_ext_key _ _ _ _ (Nat.zero_lt_succ _), Heap.ext_append]; rfl
      rw [e3] at h2
      refine ⟨_, _, _, _, h1, h2, hok1, Heap.ok_ext hok _, ⟨_, rfl⟩, ⟨_, rfl⟩, _, by rw [List.length_append], ?_⟩
      rw [Heap.key_ext]
      exact arr_outV (H := G) (i := 1) (by rw [outB_pos (by rw [List.length_append]; have := List.length_pos_iff.2 hx; omega)]; rfl) (List.length_append ..)
end
end Go.Proofs
/- the document's Join: walked. -/

set_option linter.all false
set_option linter.all false
set_option maxRecDepth 100000
namespace Go.Proofs
open Go Go.Ev
variable {H : Heap}

def A42j (H : Heap) (args : List AV) (q : AV × List Dn × List Dn) : Prop := ∃ v, args = [q.1, v] ∧ Arr H 6 q.1 (q.2.1.map Dn.enc) ∧ Arr H 6 v (q.2.2.map Dn.enc) ∧ allOk H q.2.1 ∧ allOk H q.2.2 ∧ upD q.2.1 ∧ upD q.2.2 ∧ q.2.1.length < 10000 ∧ q.2.2.length < 10000
def A43 (H : Heap) (args : List AV) (q : AV × List Evn × List Cell) : Prop := ∃ v kx, args = [v, q.1, .int .i64 24] ∧ v = outV kx 4 q.2.1.length ∧ Arr H 4 v (q.2.1.map Evn.enc) ∧ Arr H 5 q.1 (q.2.2.map Cell.enc) ∧ q.2.1.length < 100000 ∧ q.2.2.length < 100000 ∧ isHist q.2.1 q.2.2
noncomputable def EJ (f : FuncId) (args : List AV) (H : Heap) : RC :=
  match f with
  | 42 => ot (A42j H args) fun q => .ok (selV (anyFresh q.2.1 q.2.2) q.1 H.nx (joinR q.2.1 q.2.2).length) (H.ext [selB (anyFresh q.2.1 q.2.2) ((joinR q.2.1 q.2.2).map Dn.enc)])
  | 43 => ot (A43 H args) fun q => .ok (.tup [outV (H.key 1) 4 (q.2.1.drop (q.2.1.length - 24)).length, seV (decide (0 < q.2.1.length - 24)) q.1 (H.key 0) 5 q.2.2.length]) (H.ext [seB (decide (0 < q.2.1.length - 24)) 5 ((keepC (q.2.1.take (q.2.1.length - 24)) q.2.2).map Cell.enc), outB 4 ((q.2.1.drop (q.2.1.length - 24)).map Evn.enc)])
  | _ => .fail
theorem good_EJ : Ev.Good Tryz.prog EJ := by
  intro f args H r G he φ w args' ha hw
  refine (?_ : FnOk Tryz.prog f args H fun v' G' => v' = r ∧ G' = G).one φ w args' ha hw
  unfold EJ at he
  split at he
  · obtain ⟨q, ⟨v, rfl, h1, h2, h3, h4, h5, h6, h7, h8⟩, hz⟩ := ot_ok he
    clear he
    cases hz
    exact f42_ok h1 h2 h3 h4 h5 h6 h7 h8
  · obtain ⟨q, ⟨v, kx, rfl, h1, h2, h3, h4, h5, h6⟩, hz⟩ := ot_ok he
    clear he
    cases hz
    exact f43_ok h2 h3 h4 h5 h6 h1
  · cases he
theorem e43 {G : Heap} {u : AV} {kx : K} {l : List Evn} {cs : List Cell} (hA : Arr G 4 (outV kx 4 l.length) (l.map Evn.enc)) (hB : Arr G 5 u (cs.map Cell.enc)) (hl : l.length < 100000) (hc : cs.length < 100000) (hI : isHist l cs) (L : List Blk) :
    EJ 43 [outV kx 4 l.length, u, .int .i64 24] (G.ext L) = .ok (.tup [outV (G.key (L.length + 1)) 4 (l.drop (l.length - 24)).length, seV (decide (0 < l.length - 24)) u (G.key L.length) 5 cs.length]) (G.ext (L ++ [seB (decide (0 < l.length - 24)) 5 ((keepC (l.take (l.length - 24)) cs).map Cell.enc), outB 4 ((l.drop (l.length - 24)).map Evn.enc)])) := by
  show ot (A43 (G.ext L) [outV kx 4 l.length, u, .int .i64 24]) (fun q => .ok (.tup [outV ((G.ext L).key 1) 4 (q.2.1.drop (q.2.1.length - 24)).length, seV (decide (0 < q.2.1.length - 24)) q.1 ((G.ext L).key 0) 5 q.2.2.length]) ((G.ext L).ext [seB (decide (0 < q.2.1.length - 24)) 5 ((keepC (q.2.1.take (q.2.1.length - 24)) q.2.2).map Cell.enc), outB 4 ((q.2.1.drop (q.2.1.length - 24)).map Evn.enc)])) = _
  rw [ot_eq (p := A43 (G.ext L) [outV kx 4 l.length, u, .int .i64 24]) (x := (u, l, cs)) ⟨_, kx, rfl, rfl, hA.ext L, hB.ext L, hl, hc, hI⟩, Heap.key_ext, Heap.key_ext, Heap.ext_append]
  · rfl
  rintro ⟨u', l', cs'⟩ ⟨v', kx', h1, h2, h3, h4, _⟩
  injection h1 with h1 h6
  injection h6 with h6 _
  dsimp only at h1 h2 h3 h4 h6
  subst h1 h6
  rw [evs_uniq (hA.ext L) h3, cells_uniq (hB.ext L) h4]
theorem one_se {u : AV} (c : Bool) (k : K) (e n : Nat) (hu : AV.one u = true) : AV.one (seV c u k e n) = true := by
  cases c
  · exact hu
  · exact one_o ..
theorem agg_se {u : AV} (c : Bool) (k : K) (e n : Nat) (hu : ∀ {β : Type} (f : β) (d : List AV → β), asAggC u f d = f) {β : Type} (f : β) (d : List AV → β) : asAggC (seV c u k e n) f d = f := by
  cases c
  · exact hu f d
  · exact agg_o ..
/-- what two shards are, joined -/
noncomputable def saidJoin (s t : Sh) (id : Int) : Sh := ⟨id, 1, s.fr, t.to, false, joinCells s t, joinEvs s t, joinP s.done t.done, .nils, .nils, .nils⟩
end Go.Proofs
/- a history goes on: the plain law. -/

set_option linter.all false
set_option linter.all false
set_option maxRecDepth 100000
namespace Go.Proofs
open Go Go.Ev
variable {H : Heap}

theorem withL_mem {c x : Cell} : ∀ {l : List Cell}, x ∈ withL l c → x = c ∨ x ∈ l
  | [], h => by simpa [withL] using h
  | d :: l, h => by
    unfold withL at h
    split at h
    · rcases List.mem_cons.1 h with h | h
      · exact .inr (by simp [h])
      · rcases withL_mem h with h | h
        · exact .inl h
        · exact .inr (by simp [h])
    · split at h
      · rcases List.mem_cons.1 h with h | h
        · exact .inl h
        · exact .inr (by simp [h])
      · rcases List.mem_cons.1 h with h | h
        · exact .inl h
        · exact .inr h
theorem withL_ord {c : Cell} : ∀ {l : List Cell}, Ord l → Ord (withL l c)
  | [], _ => by simp [withL, Ord]
  | d :: l, h => by
    have h' := List.pairwise_cons.1 h
    unfold withL
    split
    · rename_i h1
      refine List.pairwise_cons.2 ⟨fun x hx => ?_, withL_ord h'.2⟩
      rcases withL_mem hx with rfl | hx
      · exact h1
      · exact h'.1 x hx
    · rename_i h1
      split
      · rename_i h2
        exact List.pairwise_cons.2 ⟨fun x hx => by rw [← h2]; exact h'.1 x hx, h'.2⟩
      · rename_i h2
        have h3 : ltS c.key d.key := by rcases ltS_tri d.key c.key with g | g | g; exact absurd g h1; exact absurd g h2; exact g
        refine List.pairwise_cons.2 ⟨fun x hx => ?_, h⟩
        rcases List.mem_cons.1 hx with rfl | hx
        · exact h3
        · exact ltS_trans h3 (h'.1 x hx)
theorem getL_withL_self {c : Cell} : ∀ {l : List Cell}, getL (withL l c) c.key = (c, true)
  | [] => by simp [withL, getL]
  | d :: l => by
    unfold withL
    split
    · rename_i h1
      have hne : d.key ≠ c.key := fun e => ltS_irrefl _ (e ▸ h1)
      rw [getL, if_neg hne]
      exact getL_withL_self
    · split <;> simp [getL]
theorem getL_withL_other {c : Cell} {k : List Nat} (hk : k ≠ c.key) : ∀ {l : List Cell}, getL (withL l c) k = getL l k
  | [] => by simp [withL, getL, Ne.symm hk]
  | d :: l => by
    unfold withL
    split
    · rw [getL, getL, getL_withL_other hk]
    · split
      · rename_i h2
        rw [getL, getL, if_neg (Ne.symm hk), if_neg (fun e => hk (by rw [← e, h2]))]
      · rw [getL, if_neg (Ne.symm hk)]
theorem getL_miss {k : List Nat} : ∀ {l : List Cell}, (getL l k).2 = false → (getL l k).1 = ⟨k, [], 0, false, 0⟩ ∧ ∀ c ∈ l, ¬ c.key = k
  | [], _ => ⟨rfl, fun c hc => absurd hc List.not_mem_nil⟩
  | d :: l, h => by
    unfold getL at h ⊢
    split at h
    · cases h
    · rename_i hk
      rw [if_neg hk]
      obtain ⟨h1, h2⟩ := getL_miss h
      exact ⟨h1, fun c hc => by
        rcases List.mem_cons.1 hc with rfl | hc
        · exact hk
        · exact h2 c hc⟩
theorem ord_same {l : List Cell} (ho : Ord l) {c d : Cell} (hc : c ∈ l) (hd : d ∈ l) (hk : c.key = d.key) : c = d := by
  obtain ⟨i, hi, rfl⟩ := List.mem_iff_getElem.1 hc
  obtain ⟨j, hj, rfl⟩ := List.mem_iff_getElem.1 hd
  have hp := List.pairwise_iff_getElem.1 ho
  rcases Nat.lt_trichotomy i j with h | h | h
  · have := hp i j hi hj h; rw [hk] at this; exact absurd this (ltS_irrefl _)
  · subst h; rfl
  · have := hp j i hj hi h; rw [hk] at this; exact absurd this (ltS_irrefl _)
/-- the next cell of a key, and what happens -/
def nextC (cs : List Cell) (k v : List Nat) (d : Bool) : Cell := ⟨k, v, (getL cs k).1.ver + 1, d, (getL cs k).1.floor⟩
def nextE (cs : List Cell) (k v : List Nat) (d : Bool) : Evn := ⟨k, (getL cs k).1.ver + 1, v, d⟩
theorem runR_up {c c' : Cell} (hk : c'.key = c.key) (hv : c.ver < c'.ver) : ∀ {l : List Evn} {v w : Int}, runR c l v = some w → w ≤ c.ver → runR c' l v = some w
  | [], _, _, h, _ => h
  | e :: l, v, w, h, hw => by
    rw [runR] at h ⊢
    rw [hk]
    split at h
    · rename_i h1
      rw [if_pos h1]
      split at h
      · rename_i h2
        have := runR_ge h
        rw [if_pos ⟨h2.1, fun g => by omega⟩]
        exact runR_up hk hv h hw
      · cases h
    · rename_i h1
      rw [if_neg h1]
      exact runR_up hk hv h hw
theorem runR_congr {c c' : Cell} (hk : c'.key = c.key) (hv : c'.ver = c.ver) (ha : c'.value = c.value) (hd : c'.del = c.del) : ∀ {l : List Evn} {v : Int}, runR c' l v = runR c l v
  | [], _ => rfl
  | e :: l, v => by rw [runR, runR, hk, hv, ha, hd, runR_congr hk hv ha hd, runR_congr hk hv ha hd]
/-- the cell of a key: there, or new -/
theorem cell_of {l : List Evn} {cs : List Cell} (h : isHist l cs) (k : List Nat) : (getL cs k).1.key = k ∧ 0 ≤ (getL cs k).1.ver ∧ 0 ≤ (getL cs k).1.floor ∧ (getL cs k).1.floor ≤ (getL cs k).1.ver ∧ runR (getL cs k).1 l (getL cs k).1.floor = some (getL cs k).1.ver := by
  cases hf : (getL cs k).2 with
  | true =>
    obtain ⟨c, hc⟩ : ∃ c, getL cs k = (c, true) := ⟨(getL cs k).1, by rw [← hf]⟩
    obtain ⟨h1, h2⟩ := getL_mem hc
    rw [hc]
    have := isIdx_all h.1 c h1
    exact ⟨h2, Int.le_trans this.2.1 this.2.2, this.2.1, this.2.2, ofH_iff.1 (h.2.2 c h1)⟩
  | false =>
    obtain ⟨h1, h2⟩ := getL_miss hf
    rw [h1]
    refine ⟨rfl, Int.le_refl _, Int.le_refl _, Int.le_refl _, runR_none fun e he g => ?_⟩
    obtain ⟨c, hc, hk⟩ := getL_true.1 (h.2.1 e he).1
    exact h2 c hc (hk.trans g)
theorem hist_put {l : List Evn} {cs : List Cell} (h : isHist l cs) {k v : List Nat} {d : Bool} (hk : isKey k) (hv : (v.length : Int) ≤ 12) (hd : d = true → v = []) (hm : (getL cs k).1.ver < 1000000000000) : isHist (l ++ [nextE cs k v d]) (withL cs (nextC cs k v d)) := by
  obtain ⟨c1, c2, c3, c4, c5⟩ := cell_of h k
  have ho := isIdx_pair h.1
  have ho2 := withL_ord (c := nextC cs k v d) ho
  have hself := getL_withL_self (c := nextC cs k v d) (l := cs)
  have hmem := (getL_mem hself).1
  have hmay : mayBe k v ((getL cs k).1.ver + 1) d := ⟨hk, hv, hd, by omega, by omega⟩
  refine ⟨isIdx_of (fun c hc => ?_) ho2, fun e he => ?_, fun c hc => ?_⟩
  · rcases withL_mem hc with rfl | hc
    · exact ⟨hmay, c3, by show (getL cs k).1.floor ≤ (getL cs k).1.ver + 1; omega⟩
    · exact isIdx_all h.1 c hc
  · rcases List.mem_append.1 he with he | he
    · obtain ⟨h1, h2⟩ := h.2.1 e he
      refine ⟨?_, h2⟩
      by_cases hek : e.key = k
      · have : (getL (withL cs (nextC cs k v d)) k) = (nextC cs k v d, true) := hself
        rw [hek, this]
      · rw [getL_withL_other (show e.key ≠ (nextC cs k v d).key from hek)]; exact h1
    · rw [List.mem_singleton.1 he]
      have : (getL (withL cs (nextC cs k v d)) k) = (nextC cs k v d, true) := hself
      exact ⟨by show (getL (withL cs (nextC cs k v d)) k).2 = true; rw [this], hmay⟩
  · rw [ofH_iff, runR_append]
    by_cases hck : c.key = k
    · obtain rfl : c = nextC cs k v d := ord_same ho2 hc hmem hck
      rw [show (nextC cs k v d).floor = (getL cs k).1.floor from rfl, runR_up (c := (getL cs k).1) (c' := nextC cs k v d) c1.symm (by show (getL cs k).1.ver < (getL cs k).1.ver + 1; omega) c5 (Int.le_refl _)]
      show runR (nextC cs k v d) [nextE cs k v d] (getL cs k).1.ver = some ((getL cs k).1.ver + 1)
      rw [runR, if_pos (show (nextE cs k v d).key = (nextC cs k v d).key from rfl), if_pos ⟨rfl, fun _ => ⟨rfl, rfl⟩⟩]
      rfl
    · have hcm : c ∈ cs := by
        rcases withL_mem hc with rfl | hc
        · exact absurd rfl hck
        · exact hc
      rw [ofH_iff.1 (h.2.2 c hcm)]
      show runR c [nextE cs k v d] c.ver = some c.ver
      rw [runR, if_neg fun g => hck g.symm]
      rfl
/-- the first event is let go -/
theorem hist_step {l : List Evn} {e : Evn} {cs : List Cell} (h : isHist (e :: l) cs) : isHist l (cs.map (flo e)) := by
  have hK := ((Kept.refl h.1).step h (e := e) (by simp)).1
  refine ⟨hK.idx, fun x hx => ⟨hK.has _ (h.2.1 x (by simp [hx])).1, (h.2.1 x (by simp [hx])).2⟩, fun c hc => ?_⟩
  obtain ⟨d, hd, rfl⟩ := List.mem_map.1 hc
  have h1 := ofH_iff.1 (h.2.2 d hd)
  rw [ofH_iff]
  rw [runR] at h1
  by_cases hk : e.key = d.key
  · rw [if_pos hk] at h1
    split at h1
    · rename_i h2
      have e1 : flo e d = { d with floor := max d.floor e.ver } := if_pos hk.symm
      rw [e1]
      have e2 : max d.floor e.ver = d.floor + 1 := by have := h2.1; omega
      show runR { d with floor := max d.floor e.ver } l (max d.floor e.ver) = some d.ver
      rw [e2, runR_congr (c := d) (c' := { d with floor := d.floor + 1 }) rfl rfl rfl rfl]
      exact h1
    · cases h1
  · rw [if_neg hk] at h1
    rw [flo_no fun g => hk g.symm]
    exact h1
theorem hist_keep : ∀ (n : Nat) {l : List Evn} {cs : List Cell}, isHist l cs → isHist (l.drop n) (keepC (l.take n) cs)
  | 0, _, _, h => h
  | n + 1, [], _, h => h
  | n + 1, e :: l, _, h => hist_keep n (hist_step h)
end Go.Proofs
