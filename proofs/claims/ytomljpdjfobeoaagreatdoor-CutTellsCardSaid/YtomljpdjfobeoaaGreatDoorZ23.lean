/- The told package variable: what a law's condition gives; a world that meets it. -/
import Derived.Test.YtomljpdjfobeoaaGreatDoorZ22
import Derived.JoinedOf
set_option linter.all false
set_option maxRecDepth 100000
namespace Go.Proofs.YtomljpdjfobeoaaGreatDoor
open Go Go.Ev Go.ChangeShapes Go.WideShapes Go.ChangeAt Go.RowKit
theorem Tryz.own : ownKnob Tryz.prog.godebug = none := by kernel_rfl
theorem Tryz.laidOut : laidOutB Tryz.prog = true := by kernel_rfl
theorem Tryz.et : Tryz.prog.globalNamed "errors.errorType" = some 0 := by kernel_rfl
theorem Tryz.rt : (Tryz.prog.cutTypes.find? (·.1 == "internal/reflectlite.rtype")).map (·.2) = some 169 := by kernel_rfl
theorem Tryz.size : Tryz.prog.types.size = 240 := by kernel_rfl
theorem Tryz.oneRow : ((List.range 240).filter fun t => Tryz.prog.rowNamed t [101, 114, 114, 111, 114]) = [32] := by kernel_rfl
/-- what is told -/
def laid0 : List (String × DataW Unit) := [("errors.errorType", Rows.laid_errors_errorType)]
/-- the variable's one cell -/
theorem handle_of_laid {W : World} (h : laidMetH Tryz.prog laid0 W) : W.cell? ⟨0, 0, none⟩ = some (.iface 169 (.agg #[.pointer (some ⟨1, 32, none⟩)])) := by
  have h' : laidMet Tryz.prog [] W ∧ handlesMet Tryz.prog laid0 W := h
  obtain ⟨name, u, ty, e1, e2, e3, e4, e5⟩ := h'.2 _ (List.mem_singleton.2 rfl)
  have en : name = [101, 114, 114, 111, 114] := (Option.some.inj e1).symm
  subst en
  obtain rfl := Option.some.inj (Tryz.rt.symm.trans e2)
  have hm : ty ∈ (List.range 240).filter fun t => Tryz.prog.rowNamed t [101, 114, 114, 111, 114] := List.mem_filter.2 ⟨List.mem_range.2 (by rw [← Tryz.size]; exact e3), e4⟩
  rw [Tryz.oneRow] at hm
  obtain rfl := List.mem_singleton.1 hm
  have hh : typeHandle Tryz.prog 32 = .pointer (some ⟨1, 32, none⟩) := by kernel_rfl
  rw [hh] at e5
  simpa using World.var?_cell Tryz.et e5 0
theorem rom_of_laid {W : World} (h : laidMetH Tryz.prog laid0 W) : ∀ g v, (g, v) ∈ romOf → W.cell? ⟨g, 0, none⟩ = some v := by
  intro g v hm
  have hm : (g, v) ∈ [(0, Value.iface 169 (.agg #[.pointer (some ⟨1, 32, none⟩)]))] := hm
  cases List.mem_singleton.1 hm
  exact handle_of_laid h
/-- a world that meets it -/
noncomputable def laidWorld (os : Os) : World :=
  let w0 := World.holding Tryz.prog os ⟨#[], #[], []⟩
  { w0 with heap := w0.heap.modify 0 fun
      | .cells _ t frozen => .cells #[.iface 169 (.agg #[.pointer (some ⟨1, 32, none⟩)])] t frozen
      | o => o }
theorem laidWorld_met (os : Os) (args : Array Value) : laidMetH Tryz.prog laid0 ((laidWorld os).forCall (fun _ _ => 0) ⟨#[], args, []⟩).memory :=
  laidMetH_of_parts (laidMet_nil _ _) (by kernel_rfl)
end Go.Proofs.YtomljpdjfobeoaaGreatDoor
/- once: one more in its session's place as the law has it: walked. -/

set_option linter.all false
set_option linter.all false
set_option maxRecDepth 100000
namespace Go.Proofs
open Go Go.Ev
variable {H : Heap}

def newD (_ d : Dn) : Dn := d
theorem putGD_lo {f : Dn → Dn → Dn} {d : Dn} {q : List Dn} : ∀ {p : List Dn}, (∀ x ∈ p, x.ses < d.ses) → putGD f (p ++ q) d = p ++ putGD f q d
  | [], _ => rfl
  | x :: p, h => by
    rw [List.cons_append, putGD, if_pos (h x (by simp)), putGD_lo (p := p) fun y hy => h y (by simp [hy])]; rfl
theorem putGD_hi {f : Dn → Dn → Dn} {d c : Dn} : ∀ {p : List Dn}, (∃ x ∈ p, d.ses ≤ x.ses) → putGD f (p ++ [c]) d = putGD f p d ++ [c]
  | [], h => by obtain ⟨x, h, _⟩ := h; cases h
  | x :: p, h => by
    rw [List.cons_append, putGD, putGD]
    by_cases h1 : x.ses < d.ses
    · rw [if_pos h1, if_pos h1, putGD_hi (p := p) ?_]; · rfl
      obtain ⟨y, hy, h2⟩ := h
      rcases List.mem_cons.1 hy with rfl | hy
      · omega
      · exact ⟨y, hy, h2⟩
    · rw [if_neg h1, if_neg h1]
      by_cases h2 : x.ses = d.ses
      · rw [if_pos h2, if_pos h2]; rfl
      · rw [if_neg h2, if_neg h2]; rfl
theorem putGD_same {f g : Dn → Dn → Dn} {d : Dn} : ∀ {l : List Dn}, (∀ x ∈ l, x.ses = d.ses → f x d = g x d) → putGD f l d = putGD g l d
  | [], _ => rfl
  | x :: l, h => by
    rw [putGD, putGD, putGD_same (l := l) fun y hy => h y (by simp [hy])]
    by_cases h2 : x.ses = d.ses
    · rw [h x (by simp) h2]
    · rw [if_neg h2, if_neg h2]
def anyGe (l : List Dn) (d : Dn) : Bool := l.any fun c => decide (d.ses ≤ c.ses)
theorem anyGe_t {l : List Dn} {d : Dn} : anyGe l d = true ↔ ∃ x ∈ l, d.ses ≤ x.ses := by
  unfold anyGe
  rw [List.any_eq_true]
  exact ⟨fun ⟨x, h1, h2⟩ => ⟨x, h1, of_decide_eq_true h2⟩, fun ⟨x, h1, h2⟩ => ⟨x, h1, decide_eq_true h2⟩⟩
theorem anyGe_f {l : List Dn} {d : Dn} : anyGe l d = false ↔ ∀ x ∈ l, x.ses < d.ses := by
  rw [← Bool.not_eq_true, anyGe_t]
  exact ⟨fun h x hx => Classical.byContradiction fun g => h ⟨x, hx, by omega⟩, fun h ⟨x, hx, g⟩ => by have := h x hx; omega⟩
/-- what is gathered of the first ones -/
noncomputable def accR (l : List Dn) (d : Dn) : List Dn := if anyGe l d then putGD newD l d else l
theorem accR_ok {l : List Dn} {d : Dn} (h : allOk H l) (hd : d.an.ok H) : allOk H (accR l d) := fun c hc => by
  unfold accR at hc
  split at hc
  · rcases mem_putGD hc with rfl | hc | ⟨x, _, _, rfl⟩
    · exact hd
    · exact h c hc
    · exact hd
  · exact h c hc
theorem accR_len {l : List Dn} {d : Dn} : (accR l d).length ≤ l.length + 1 := by
  unfold accR
  split
  · exact putGD_len
  · omega
theorem any_snoc (l : List Dn) (c d : Dn) : anyGe (l ++ [c]) d = (anyGe l d || decide (d.ses ≤ c.ses)) := by
  unfold anyGe; rw [List.any_append, List.any_cons, List.any_nil, Bool.or_false]
theorem accR_lo {l : List Dn} {c d : Dn} (h : anyGe l d = false) (hc : ¬ d.ses ≤ c.ses) : anyGe (l ++ [c]) d = false ∧ accR (l ++ [c]) d = accR l d ++ [c] := by
  have h1 : anyGe (l ++ [c]) d = false := by rw [any_snoc, h, decide_eq_false hc]; rfl
  refine ⟨h1, ?_⟩
  unfold accR
  rw [h1, h]; rfl
theorem accR_now {l : List Dn} {c d : Dn} (h : anyGe l d = false) (hc : d.ses ≤ c.ses) : anyGe (l ++ [c]) d = true ∧ (¬ c.ses = d.ses → accR (l ++ [c]) d = accR l d ++ [d] ++ [c]) ∧ (c.ses = d.ses → accR (l ++ [c]) d = accR l d ++ [d]) := by
  have h1 : anyGe (l ++ [c]) d = true := by rw [any_snoc, h, decide_eq_true hc]; rfl
  refine ⟨h1, fun hn => ?_, fun hn => ?_⟩
  · unfold accR
    rw [h1, h, if_pos rfl, if_neg (by decide), putGD_lo (anyGe_f.1 h), putGD, if_neg (by omega), if_neg hn, List.append_assoc]; rfl
  · unfold accR
    rw [h1, h, if_pos rfl, if_neg (by decide), putGD_lo (anyGe_f.1 h), putGD, if_neg (by omega), if_pos hn]; rfl
theorem accR_hi {l : List Dn} {c d : Dn} (h : anyGe l d = true) : anyGe (l ++ [c]) d = true ∧ accR (l ++ [c]) d = accR l d ++ [c] := by
  have h1 : anyGe (l ++ [c]) d = true := by rw [any_snoc, h]; rfl
  refine ⟨h1, ?_⟩
  unfold accR
  rw [h1, h, if_pos rfl, if_pos rfl, putGD_hi (anyGe_t.1 h)]
def keepsD (l : List Dn) (d : Dn) : Prop := ∃ x, findD l d.ses = some x ∧ d.id < x.id
theorem withD_new {l : List Dn} {d : Dn} (h : upD l) (hk : ¬ keepsD l d) : withD l d = putGD newD l d := by
  refine putGD_same fun x hx hs => ?_
  have := findD_at h hx
  rw [hs] at this
  have hle : x.id ≤ d.id := Classical.byContradiction fun g => hk ⟨x, this, by omega⟩
  rw [lateD, if_pos hle]; rfl
theorem withD_end {l : List Dn} {d : Dn} (h : upD l) (hk : ¬ keepsD l d) : (anyGe l d = true → withD l d = accR l d) ∧ (anyGe l d = false → withD l d = accR l d ++ [d]) := by
  rw [withD_new h hk]
  refine ⟨fun g => ?_, fun g => ?_⟩
  · unfold accR; rw [g, if_pos rfl]
  · have := putGD_lo (f := newD) (q := []) (anyGe_f.1 g)
    rw [List.append_nil] at this
    unfold accR; rw [g, if_neg (by decide), this]; rfl
theorem take_snoc {l : List Dn} {i : Nat} {c : Dn} (h : l[i]? = some c) : l.take (i + 1) = l.take i ++ [c] := by
  obtain ⟨hl, rfl⟩ := List.getElem?_eq_some_iff.1 h
  rw [List.take_succ_eq_append_getElem hl]
theorem rise_take {l : List Dn} {i : Nat} {c d : Dn} (hup : upD l) (h : l[i]? = some c) (hg : anyGe (l.take i) d = true) : ¬ c.ses = d.ses := by
  obtain ⟨x, hx, hle⟩ := anyGe_t.1 hg
  obtain ⟨q, hq⟩ := List.mem_iff_getElem?.1 hx
  rw [List.getElem?_take] at hq
  split at hq
  · rename_i hlt
    have := upD_rises hup q i x c hlt hq h
    omega
  · cases hq
theorem f51_with {v : AV} {l : List Dn} {d : Dn} (hA : Arr H 6 v (l.map Dn.enc)) (ha : allOk H l) (hd : d.an.ok H) (hup : upD l) (hl : l.length < 100000) (hk : ¬ keepsD l d) :
    FnOk Tryz.prog 51 [v, .agg d.enc] H fun r G => r = outV H.nx 6 (withD l d).length ∧ G = H.ext [outB 6 ((withD l d).map Dn.enc)] := by
  refine FnOk.assume fun hok => ?_
  refine FnOk.dropO' (List.length_map ..) (withD_ok ha hd).rens ?_
  refine FnOk.of_WW Tryz.func51 rfl C51ok R51ok E0 good_E0 ?_
  have hlen := fun G => hA.len G; simp only [List.length_map] at hlen; have hren := hA.ren
  have hdren := hd.ren
  have hap : ∀ i, allOk H (l.take i) := fun i c hc => ha c (List.mem_of_mem_take hc)
  have hend := withD_end hup hk
  have hacc0 : accR [] d = [] := rfl
  have hany0 : anyGe [] d = false := rfl
  simp only [go_sem, C51, Dn.enc]
  refine CL.of (f84_ok (hA.ext _) (ha.ext _) (by omega) d.ses) ?_
  rintro _ _ ⟨rfl, rfl⟩
  have hgt : (findD l d.ses).isSome = true → ¬ d.id < (foundD (findD l d.ses)).id := fun h g => by
    obtain ⟨x, hx⟩ := Option.isSome_iff_exists.1 h
    rw [hx] at g
    exact hk ⟨x, hx, g⟩
  generalize foundD (findD l d.ses) = x at *
  have hgt2 : ∀ b, (findD l d.ses).isSome = b → (b = true → ¬ d.id < x.id) := fun b h g => hgt (h.trans g)
  generalize (findD l d.ses).isSome = b at *
  cases b
  rotate_left
  · have hgt' := hgt rfl
    simp only [go_sem, Dn.enc, hgt']
    refine LL.st good_E0 (fun i : Nat => l.length - i) (fun i => i ≤ l.length)
      (fun i => [(.z, v), ((.o (.o .z)), .ptr (H.key 0) 0), ((.o (.o (.o .z))), outV (H.key 1) 6 (accR (l.take i) d).length), ((.i (.o (.o .z))), .bool (anyGe (l.take i) d)), ((.o (.i (.o .z))), .int .i64 i)])
      (fun i => [.row true 6 [[.int .i64 d.ses, .int .i64 d.id, .int .i64 d.an.code, .str d.an.val, .int .i64 d.an.ver, d.an.rv]], outB 6 ((accR (l.take i) d).map Dn.enc)]) ?_ 0 (σ := [0, 1]) (Wk.of rfl (by decide) (by simp only [go_sem, hren, outV_ren', hacc0, hany0]) (by simp only [go_sem, hacc0, hdren, ↓outB_ren', implies_true])) (Nat.zero_le _)
    rintro i hi
    have hoi := accR_ok (hap i) hd
    have hln := accR_len (l := l.take i) (d := d)
    rw [List.length_take] at hln
    by_cases hlt : i < l.length
    · obtain ⟨kk, r, ex', cap', wr, rows, hv, hrho, hgo, hrow⟩ := hA.at hok (j := i) (by rw [List.length_map]; exact hlt); simp only [List.length_map, List.getElem_map] at hv hrow; cases hv; have hget : l[i]? = some l[i] := List.getElem?_eq_getElem hlt; generalize l[i] = c at hrow hget; have hw := wrap_succ (n := i) (by omega); have hci : (i : Int) < (l.length : Int) := (by omega); have hsi : i + 1 ≤ l.length := (by omega)
      have hco := ha c (List.mem_of_getElem? hget)
      have htk := take_snoc hget
      have hoi2 := (accR_ok (hap (i + 1)) hd).rens
      rw [htk] at hoi2
      have hrise := rise_take (d := d) hup hget
      cases hany : anyGe (l.take i) d
      · by_cases hge : d.ses ≤ c.ses
        · obtain ⟨n1, n2, n3⟩ := accR_now hany hge
          by_cases hne : c.ses = d.ses
          · have hnew := n3 hne
            rw [hnew] at hoi2
            have hneT := eq_true hne
            simp only [go_sem, ↓appR_hide, C51L0, hlen, hci, hsi, hgo, hrow, hw, hge, hany, hneT, Dn.enc]
            refine RW_app _ [.int .i64 d.ses, .int .i64 d.id, .int .i64 d.an.code, .str d.an.val, .int .i64 d.an.ver, d.an.rv] rfl (List.length_map ..) rfl (okBig_le (by omega) (by decide)) ?_
            simp only [go_sem, ↓appR_hide, hlen, hci, hsi, hgo, hrow, hw, hneT, Dn.enc]
            rw [show outB 6 ((accR (l.take i) d).map Dn.enc ++ [[.int .i64 d.ses, .int .i64 d.id, .int .i64 d.an.code, .str d.an.val, .int .i64 d.an.ver, d.an.rv]]) = outB 6 ((accR (l.take i) d ++ [d]).map Dn.enc) by rw [List.map_append]; rfl]
            exact ⟨i + 1, by show l.length - (i + 1) < l.length - i; omega, by show i + 1 ≤ l.length; omega, _, [0, 3], rfl, Wk.of rfl (by decide) (by simp only [go_sem, outV_ren', hrho, htk, hnew, n1, hany]) (by simp only [go_sem, ↓outB_ren', htk, hnew, hdren, hoi.rens, Dn.ren1 hd, Dn.ren1 hco, implies_true])⟩
          · have hnew := n2 hne
            rw [hnew] at hoi2
            simp only [go_sem, ↓appR_hide, C51L0, hlen, hci, hsi, hgo, hrow, hw, hge, hany, hne, Dn.enc]
            refine RW_app _ [.int .i64 d.ses, .int .i64 d.id, .int .i64 d.an.code, .str d.an.val, .int .i64 d.an.ver, d.an.rv] rfl (List.length_map ..) rfl (okBig_le (by omega) (by decide)) ?_
            simp only [go_sem, ↓appR_hide, hlen, hci, hsi, hgo, hrow, hw, hne, Dn.enc]
            refine RW_app (n := (accR (l.take i) d).length + 1) ((accR (l.take i) d).map Dn.enc ++ [[.int .i64 d.ses, .int .i64 d.id, .int .i64 d.an.code, .str d.an.val, .int .i64 d.an.ver, d.an.rv]]) [.int .i64 c.ses, .int .i64 c.id, .int .i64 c.an.code, .str c.an.val, .int .i64 c.an.ver, c.an.rv] rfl (by rw [List.length_append, List.length_map]; rfl) rfl (okBig_le (by omega) (by decide)) ?_
            simp only [go_sem, ↓appR_hide, hlen, hci, hsi, hgo, hrow, hw, hne, Dn.enc]
            rw [show outB 6 ((accR (l.take i) d).map Dn.enc ++ [[.int .i64 d.ses, .int .i64 d.id, .int .i64 d.an.code, .str d.an.val, .int .i64 d.an.ver, d.an.rv]] ++ [[.int .i64 c.ses, .int .i64 c.id, .int .i64 c.an.code, .str c.an.val, .int .i64 c.an.ver, c.an.rv]]) = outB 6 ((accR (l.take i) d ++ [d] ++ [c]).map Dn.enc) by rw [List.map_append, List.map_append]; rfl]
            exact ⟨i + 1, by show l.length - (i + 1) < l.length - i; omega, by show i + 1 ≤ l.length; omega, _, [0, 5], rfl, Wk.of rfl (by decide) (by simp only [go_sem, outV_ren', hrho, htk, hnew, n1, hany]) (by simp only [go_sem, ↓outB_ren', htk, hnew, hdren, hoi.rens, Dn.ren1 hd, Dn.ren1 hco, implies_true])⟩
        · obtain ⟨n1, hnew⟩ := accR_lo hany hge
          rw [hnew] at hoi2
          have hne : ¬ c.ses = d.ses := by omega
          simp only [go_sem, ↓appR_hide, C51L0, hlen, hci, hsi, hgo, hrow, hw, hge, hany, hne, Dn.enc]
          refine RW_app _ [.int .i64 c.ses, .int .i64 c.id, .int .i64 c.an.code, .str c.an.val, .int .i64 c.an.ver, c.an.rv] rfl (List.length_map ..) rfl (okBig_le (by omega) (by decide)) ?_
          simp only [go_sem, ↓appR_hide, hlen, hci, hsi, hgo, hrow, hw, hne, Dn.enc]
          rw [show outB 6 ((accR (l.take i) d).map Dn.enc ++ [[.int .i64 c.ses, .int .i64 c.id, .int .i64 c.an.code, .str c.an.val, .int .i64 c.an.ver, c.an.rv]]) = outB 6 ((accR (l.take i) d ++ [c]).map Dn.enc) by rw [List.map_append]; rfl]
          exact ⟨i + 1, by show l.length - (i + 1) < l.length - i; omega, by show i + 1 ≤ l.length; omega, _, [0, 3], rfl, Wk.of rfl (by decide) (by simp only [go_sem, outV_ren', hrho, htk, hnew, n1, hany]) (by simp only [go_sem, ↓outB_ren', htk, hnew, hdren, hoi.rens, Dn.ren1 hd, Dn.ren1 hco, implies_true])⟩
      · obtain ⟨n1, hnew⟩ := accR_hi (c := c) hany
        rw [hnew] at hoi2
        have hne := hrise hany
        simp only [go_sem, ↓appR_hide, C51L0, hlen, hci, hsi, hgo, hrow, hw, hany, hne, Dn.enc]
        refine RW_app _ [.int .i64 c.ses, .int .i64 c.id, .int .i64 c.an.code, .str c.an.val, .int .i64 c.an.ver, c.an.rv] rfl (List.length_map ..) rfl (okBig_le (by omega) (by decide)) ?_
        simp only [go_sem, ↓appR_hide, hlen, hci, hsi, hgo, hrow, hw, hne, Dn.enc]
        rw [show outB 6 ((accR (l.take i) d).map Dn.enc ++ [[.int .i64 c.ses, .int .i64 c.id, .int .i64 c.an.code, .str c.an.val, .int .i64 c.an.ver, c.an.rv]]) = outB 6 ((accR (l.take i) d ++ [c]).map Dn.enc) by rw [List.map_append]; rfl]
        exact ⟨i + 1, by show l.length - (i + 1) < l.length - i; omega, by show i + 1 ≤ l.length; omega, _, [0, 3], rfl, Wk.of rfl (by decide) (by simp only [go_sem, outV_ren', hrho, htk, hnew, n1, hany]) (by simp only [go_sem, ↓outB_ren', htk, hnew, hdren, hoi.rens, Dn.ren1 hd, Dn.ren1 hco, implies_true])⟩
    · have hci : ¬ (i : Int) < (l.length : Int) := by omega
      have htk : l.take i = l := List.take_of_length_le (by omega)
      rw [htk] at hoi hln ⊢
      cases hany : anyGe l d
      · have hnew := hend.2 hany
        simp only [go_sem, ↓appR_hide, C51L0, hlen, hci, hany, Dn.enc]
        refine RW_app _ [.int .i64 d.ses, .int .i64 d.id, .int .i64 d.an.code, .str d.an.val, .int .i64 d.an.ver, d.an.rv] rfl (List.length_map ..) rfl (okBig_le (by omega) (by decide)) ?_
        simp only [go_sem, ↓appR_hide, Dn.enc]
        rw [hnew]
        exact ⟨_, 3, by rw [List.length_append]; rfl, rfl, fun _ => by rw [List.map_append]; rfl⟩
      · have hnew := hend.1 hany
        simp only [go_sem, ↓appR_hide, C51L0, hlen, hci, hany, Dn.enc]
        rw [hnew]
        exact ⟨_, 1, rfl, rfl, fun _ => rfl⟩
  · simp only [go_sem, Dn.enc]
    refine LL.st good_E0 (fun i : Nat => l.length - i) (fun i => i ≤ l.length)
      (fun i => [(.z, v), ((.o (.o .z)), .ptr (H.key 0) 0), ((.o (.o (.o .z))), outV (H.key 1) 6 (accR (l.take i) d).length), ((.i (.o (.o .z))), .bool (anyGe (l.take i) d)), ((.o (.i (.o .z))), .int .i64 i)])
      (fun i => [.row true 6 [[.int .i64 d.ses, .int .i64 d.id, .int .i64 d.an.code, .str d.an.val, .int .i64 d.an.ver, d.an.rv]], outB 6 ((accR (l.take i) d).map Dn.enc)]) ?_ 0 (σ := [0, 1]) (Wk.of rfl (by decide) (by simp only [go_sem, hren, outV_ren', hacc0, hany0]) (by simp only [go_sem, hacc0, hdren, ↓outB_ren', implies_true])) (Nat.zero_le _)
    rintro i hi
    have hoi := accR_ok (hap i) hd
    have hln := accR_len (l := l.take i) (d := d)
    rw [List.length_take] at hln
    by_cases hlt : i < l.length
    · obtain ⟨kk, r, ex', cap', wr, rows, hv, hrho, hgo, hrow⟩ := hA.at hok (j := i) (by rw [List.length_map]; exact hlt); simp only [List.length_map, List.getElem_map] at hv hrow; cases hv; have hget : l[i]? = some l[i] := List.getElem?_eq_getElem hlt; generalize l[i] = c at hrow hget; have hw := wrap_succ (n := i) (by omega); have hci : (i : Int) < (l.length : Int) := (by omega); have hsi : i + 1 ≤ l.length := (by omega)
      have hco := ha c (List.mem_of_getElem? hget)
      have htk := take_snoc hget
      have hoi2 := (accR_ok (hap (i + 1)) hd).rens
      rw [htk] at hoi2
      have hrise := rise_take (d := d) hup hget
      cases hany : anyGe (l.take i) d
      · by_cases hge : d.ses ≤ c.ses
        · obtain ⟨n1, n2, n3⟩ := accR_now hany hge
          by_cases hne : c.ses = d.ses
          · have hnew := n3 hne
            rw [hnew] at hoi2
            have hneT := eq_true hne
            simp only [go_sem, ↓appR_hide, C51L0, hlen, hci, hsi, hgo, hrow, hw, hge, hany, hneT, Dn.enc]
            refine RW_app _ [.int .i64 d.ses, .int .i64 d.id, .int .i64 d.an.code, .str d.an.val, .int .i64 d.an.ver, d.an.rv] rfl (List.length_map ..) rfl (okBig_le (by omega) (by decide)) ?_
            simp only [go_sem, ↓appR_hide, hlen, hci, hsi, hgo, hrow, hw, hneT, Dn.enc]
            rw [show outB 6 ((accR (l.take i) d).map Dn.enc ++ [[.int .i64 d.ses, .int .i64 d.id, .int .i64 d.an.code, .str d.an.val, .int .i64 d.an.ver, d.an.rv]]) = outB 6 ((accR (l.take i) d ++ [d]).map Dn.enc) by rw [List.map_append]; rfl]
            exact ⟨i + 1, by show l.length - (i + 1) < l.length - i; omega, by show i + 1 ≤ l.length; omega, _, [0, 3], rfl, Wk.of rfl (by decide) (by simp only [go_sem, outV_ren', hrho, htk, hnew, n1, hany]) (by simp only [go_sem, ↓outB_ren', htk, hnew, hdren, hoi.rens, Dn.ren1 hd, Dn.ren1 hco, implies_true])⟩
          · have hnew := n2 hne
            rw [hnew] at hoi2
            simp only [go_sem, ↓appR_hide, C51L0, hlen, hci, hsi, hgo, hrow, hw, hge, hany, hne, Dn.enc]
            refine RW_app _ [.int .i64 d.ses, .int .i64 d.id, .int .i64 d.an.code, .str d.an.val, .int .i64 d.an.ver, d.an.rv] rfl (List.length_map ..) rfl (okBig_le (by omega) (by decide)) ?_
            simp only [go_sem, ↓appR_hide, hlen, hci, hsi, hgo, hrow, hw, hne, Dn.enc]
            refine RW_app (n := (accR (l.take i) d).length + 1) ((accR (l.take i) d).map Dn.enc ++ [[.int .i64 d.ses, .int .i64 d.id, .int .i64 d.an.code, .str d.an.val, .int .i64 d.an.ver, d.an.rv]]) [.int .i64 c.ses, .int .i64 c.id, .int .i64 c.an.code, .str c.an.val, .int .i64 c.an.ver, c.an.rv] rfl (by rw [List.length_append, List.length_map]; rfl) rfl (okBig_le (by omega) (by decide)) ?_
            simp only [go_sem, ↓appR_hide, hlen, hci, hsi, hgo, hrow, hw, hne, Dn.enc]
            rw [show outB 6 ((accR (l.take i) d).map Dn.enc ++ [[.int .i64 d.ses, .int .i64 d.id, .int .i64 d.an.code, .str d.an.val, .int .i64 d.an.ver, d.an.rv]] ++ [[.int .i64 c.ses, .int .i64 c.id, .int .i64 c.an.code, .str c.an.val, .int .i64 c.an.ver, c.an.rv]]) = outB 6 ((accR (l.take i) d ++ [d] ++ [c]).map Dn.enc) by rw [List.map_append, List.map_append]; rfl]
            exact ⟨i + 1, by show l.length - (i + 1) < l.length - i; omega, by show i + 1 ≤ l.length; omega, _, [0, 5], rfl, Wk.of rfl (by decide) (by simp only [go_sem, outV_ren', hrho, htk, hnew, n1, hany]) (by simp only [go_sem, ↓outB_ren', htk, hnew, hdren, hoi.rens, Dn.ren1 hd, Dn.ren1 hco, implies_true])⟩
        · obtain ⟨n1, hnew⟩ := accR_lo hany hge
          rw [hnew] at hoi2
          have hne : ¬ c.ses = d.ses := by omega
          simp only [go_sem, ↓appR_hide, C51L0, hlen, hci, hsi, hgo, hrow, hw, hge, hany, hne, Dn.enc]
          refine RW_app _ [.int .i64 c.ses, .int .i64 c.id, .int .i64 c.an.code, .str c.an.val, .int .i64 c.an.ver, c.an.rv] rfl (List.length_map ..) rfl (okBig_le (by omega) (by decide)) ?_
          simp only [go_sem, ↓appR_hide, hlen, hci, hsi, hgo, hrow, hw, hne, Dn.enc]
          rw [show outB 6 ((accR (l.take i) d).map Dn.enc ++ [[.int .i64 c.ses, .int .i64 c.id, .int .i64 c.an.code, .str c.an.val, .int .i64 c.an.ver, c.an.rv]]) = outB 6 ((accR (l.take i) d ++ [c]).map Dn.enc) by rw [List.map_append]; rfl]
          exact ⟨i + 1, by show l.length - (i + 1) < l.length - i; omega, by show i + 1 ≤ l.length; omega, _, [0, 3], rfl, Wk.of rfl (by decide) (by simp only [go_sem, outV_ren', hrho, htk, hnew, n1, hany]) (by simp only [go_sem, ↓outB_ren', htk, hnew, hdren, hoi.rens, Dn.ren1 hd, Dn.ren1 hco, implies_true])⟩
      · obtain ⟨n1, hnew⟩ := accR_hi (c := c) hany
        rw [hnew] at hoi2
        have hne := hrise hany
        simp only [go_sem, ↓appR_hide, C51L0, hlen, hci, hsi, hgo, hrow, hw, hany, hne, Dn.enc]
        refine RW_app _ [.int .i64 c.ses, .int .i64 c.id, .int .i64 c.an.code, .str c.an.val, .int .i64 c.an.ver, c.an.rv] rfl (List.length_map ..) rfl (okBig_le (by omega) (by decide)) ?_
        simp only [go_sem, ↓appR_hide, hlen, hci, hsi, hgo, hrow, hw, hne, Dn.enc]
        rw [show outB 6 ((accR (l.take i) d).map Dn.enc ++ [[.int .i64 c.ses, .int .i64 c.id, .int .i64 c.an.code, .str c.an.val, .int .i64 c.an.ver, c.an.rv]]) = outB 6 ((accR (l.take i) d ++ [c]).map Dn.enc) by rw [List.map_append]; rfl]
        exact ⟨i + 1, by show l.length - (i + 1) < l.length - i; omega, by show i + 1 ≤ l.length; omega, _, [0, 3], rfl, Wk.of rfl (by decide) (by simp only [go_sem, outV_ren', hrho, htk, hnew, n1, hany]) (by simp only [go_sem, ↓outB_ren', htk, hnew, hdren, hoi.rens, Dn.ren1 hd, Dn.ren1 hco, implies_true])⟩
    · have hci : ¬ (i : Int) < (l.length : Int) := by omega
      have htk : l.take i = l := List.take_of_length_le (by omega)
      rw [htk] at hoi hln ⊢
      cases hany : anyGe l d
      · have hnew := hend.2 hany
        simp only [go_sem, ↓appR_hide, C51L0, hlen, hci, hany, Dn.enc]
        refine RW_app _ [.int .i64 d.ses, .int .i64 d.id, .int .i64 d.an.code, .str d.an.val, .int .i64 d.an.ver, d.an.rv] rfl (List.length_map ..) rfl (okBig_le (by omega) (by decide)) ?_
        simp only [go_sem, ↓appR_hide, Dn.enc]
        rw [hnew]
        exact ⟨_, 3, by rw [List.length_append]; rfl, rfl, fun _ => by rw [List.map_append]; rfl⟩
      · have hnew := hend.1 hany
        simp only [go_sem, ↓appR_hide, C51L0, hlen, hci, hany, Dn.enc]
        rw [hnew]
        exact ⟨_, 1, rfl, rfl, fun _ => rfl⟩
end Go.Proofs
/- once: as the law has it, how a request stands, both joined: walked. -/

set_option linter.all false
set_option linter.all false
set_option maxRecDepth 100000
namespace Go.Proofs
open Go Go.Ev
variable {H : Heap}

def freshD (a : List Dn) (c : Dn) : Prop := ∀ x, findD a c.ses = some x → x.id < c.id
noncomputable instance (a : List Dn) (c : Dn) : Decidable (freshD a c) := Classical.propDecidable _
noncomputable def joinR (a b : List Dn) : List Dn := b.foldl (fun acc c => if freshD a c then withD acc c else acc) a
noncomputable def anyFresh (a b : List Dn) : Bool := b.any fun c => decide (freshD a c)
theorem joinR_snoc (a p : List Dn) (c : Dn) : joinR a (p ++ [c]) = if freshD a c then withD (joinR a p) c else joinR a p := by
  unfold joinR; rw [List.foldl_append]; rfl
theorem fresh_snoc (a p : List Dn) (c : Dn) : anyFresh a (p ++ [c]) = (anyFresh a p || decide (freshD a c)) := by
  unfold anyFresh; rw [List.any_append, List.any_cons, List.any_nil, Bool.or_false]
theorem foldR_up {a : List Dn} : ∀ {b x : List Dn}, upD x → upD (b.foldl (fun acc c => if freshD a c then withD acc c else acc) x)
  | [], _, h => h
  | c :: b, x, h => by
    rw [List.foldl_cons]
    refine foldR_up (b := b) ?_
    split
    · exact withD_up h
    · exact h
theorem joinR_up {a b : List Dn} (h : upD a) : upD (joinR a b) := foldR_up h
theorem foldR_ok {a : List Dn} : ∀ {b x : List Dn}, allOk H b → allOk H x → allOk H (b.foldl (fun acc c => if freshD a c then withD acc c else acc) x)
  | [], _, _, h => h
  | c :: b, x, hb, h => by
    rw [List.foldl_cons]
    refine foldR_ok (b := b) (fun d hd => hb d (by simp [hd])) ?_
    split
    · exact withD_ok h (hb c (by simp))
    · exact h
theorem joinR_ok {a b : List Dn} (ha : allOk H a) (hb : allOk H b) : allOk H (joinR a b) := foldR_ok hb ha
theorem foldR_len {a : List Dn} : ∀ {b x : List Dn}, (b.foldl (fun acc c => if freshD a c then withD acc c else acc) x).length ≤ x.length + b.length
  | [], x => by simp
  | c :: b, x => by
    rw [List.foldl_cons]
    have h1 := foldR_len (a := a) (b := b) (x := if freshD a c then withD x c else x)
    have h2 : (if freshD a c then withD x c else x).length ≤ x.length + 1 := by
      split
      · exact withD_len
      · omega
    rw [List.length_cons]; omega
theorem joinR_len {a b : List Dn} : (joinR a b).length ≤ a.length + b.length := foldR_len
/-- a session's entry, of both joined -/
theorem find_foldR {a : List Dn} (s : Int) : ∀ {b x : List Dn}, upD b → upD x → (∀ c ∈ b, findD x c.ses = findD a c.ses) →
    findD (b.foldl (fun acc c => if freshD a c then withD acc c else acc) x) s = match findD b s with | none => findD x s | some c => laterO (findD x s) (some c)
  | [], x, _, _, _ => rfl
  | c :: b, x, hb, hx, he => by
    obtain ⟨h1, h2⟩ := upD_cons.1 hb
    have hc := he c (by simp)
    have hnew : ∀ d ∈ b, findD (if freshD a c then withD x c else x) d.ses = findD a d.ses := fun d hd => by
      split
      · rw [find_with hx, if_neg (by have := h1 d hd; omega)]; exact he d (by simp [hd])
      · exact he d (by simp [hd])
    have hup : upD (if freshD a c then withD x c else x) := by
      split
      · exact withD_up hx
      · exact hx
    rw [List.foldl_cons, find_foldR s h2 hup hnew, findD]
    by_cases e : c.ses = s
    · subst e
      rw [if_pos rfl, findD_none (l := b) (fun d hd g => by have := h1 d hd; omega)]
      dsimp only
      by_cases hf : freshD a c
      · rw [if_pos hf, find_with hx, if_pos rfl, hc]
        cases h : findD a c.ses with
        | none => rfl
        | some y =>
          have := hf y h
          show some (lateD y c) = some (lateD c y)
          rw [lateD, lateD, if_pos (by omega), if_neg (by omega)]
      · rw [if_neg hf, hc]
        cases h : findD a c.ses with
        | none => exact absurd (fun y hy => by rw [h] at hy; cases hy) hf
        | some y =>
          have : ¬ y.id < c.id := fun g => hf fun z hz => by rw [h] at hz; cases hz; exact g
          show some y = some (lateD c y)
          rw [lateD, if_pos (by omega)]
    · rw [if_neg e]
      have hk : findD (if freshD a c then withD x c else x) s = findD x s := by
        split
        · rw [find_with hx, if_neg e]
        · rfl
      rw [hk]
theorem joinR_eq {a b : List Dn} (ha : upD a) (hb : upD b) : joinR a b = joinP a b := by
  refine upD_ext (joinR_up ha) (joinP_up hb) fun s => ?_
  rw [find_join s ha hb]
  have := find_foldR (a := a) s hb ha (fun _ _ => rfl)
  unfold joinR
  rw [this]
  cases findD b s <;> cases findD a s <;> rfl
theorem joinR_other {a p : List Dn} (hp : upD p) (ha : upD a) {s : Int} (h : ∀ x ∈ p, ¬ x.ses = s) : findD (joinR a p) s = findD a s := by
  have := find_foldR (a := a) s hp ha (fun _ _ => rfl)
  rw [findD_none h] at this
  exact this
def selV (c : Bool) (u : AV) (k : K) (n : Nat) : AV := match c with | true => outV k 6 n | false => u
def selB (c : Bool) (xs : List (List AV)) : Blk := match c with | true => outB 6 xs | false => .dead
theorem selV_ren {ρ : K → K} {u : AV} (hu : u.ren ρ = u) (c : Bool) (k : K) (n : Nat) : AV.ren ρ (selV c u k n) = selV c u (ρ k) n := by
  cases c
  · exact hu
  · exact outV_ren' ..
theorem selB_ren {ρ : K → K} {xs : List (List AV)} (h : xs.map (AV.rens ρ) = xs) (c : Bool) : Blk.ren ρ (selB c xs) = selB c xs := by
  cases c
  · rfl
  · exact outB_ren' _ h
theorem selArr {c : Bool} {u : AV} {L : List Blk} {i n : Nat} {xs : List (List AV)} (h : L[i]? = some (selB c xs)) (hn : xs.length = n) (hu : c = false → Arr H 6 u xs) : Arr (H.ext L) 6 (selV c u (H.key i) n) xs := by
  cases c
  · exact (hu rfl).ext _
  · exact arr_outV h hn
theorem FnOk.dropS {f : FuncId} {args : List AV} {c : Bool} {u : AV} {n : Nat} {xs : List (List AV)} (hu : ∀ top σ, u.ren (rho H top σ) = u) (hx : ∀ top σ, xs.map (AV.rens (rho H top σ)) = xs)
    (h : FnOk Tryz.prog f args H fun v G => ∃ l i, v = selV c u (H.key i) n ∧ G = H.ext l ∧ ((selB c xs).live → l[i]? = some (selB c xs))) :
    FnOk Tryz.prog f args H fun v G => v = selV c u H.nx n ∧ G = H.ext [selB c xs] := by
  refine h.wk ?_
  rintro v G ⟨l, i, rfl, rfl, hl⟩
  refine ⟨l, [selB c xs], [i], selV c u H.nx n, rfl, ?_, rfl, by simp, ?_, rfl, rfl⟩
  · rw [selV_ren (hu _ _), ← Heap.key_zero, rho_key rfl]
  · intro q hq
    simp only [List.zip_cons_cons, List.zip_nil_left, List.mem_singleton] at hq
    subst hq
    intro hlive
    show l[i]? = some (Blk.ren _ (selB c xs))
    rw [selB_ren (hx _ _), hl hlive]
theorem joinR_none {a b : List Dn} : anyFresh a b = false → joinR a b = a := by
  intro h
  have key : ∀ (b x : List Dn), anyFresh a b = false → b.foldl (fun acc c => if freshD a c then withD acc c else acc) x = x := by
    intro b
    induction b with
    | nil => intro x _; rfl
    | cons c b ih =>
      intro x h
      unfold anyFresh at h
      rw [List.any_cons, Bool.or_eq_false_iff] at h
      rw [List.foldl_cons, if_neg (of_decide_eq_false h.1)]
      exact ih x h.2
  exact key b a h
theorem f42_ok {u v : AV} {a l : List Dn} (hB : Arr H 6 u (a.map Dn.enc)) (hA : Arr H 6 v (l.map Dn.enc)) (ha : allOk H a) (hb : allOk H l) (hua : upD a) (hub : upD l) (hal : a.length < 10000) (hl : l.length < 10000) :
    FnOk Tryz.prog 42 [u, v] H fun r G => r = selV (anyFresh a l) u H.nx (joinR a l).length ∧ G = H.ext [selB (anyFresh a l) ((joinR a l).map Dn.enc)] := by
  refine FnOk.assume fun hok => ?_
  have hren2 := hB.ren
  refine FnOk.dropS hren2 (joinR_ok ha hb).rens ?_
  refine FnOk.of_WW Tryz.func42 rfl C42ok R42ok E0 good_E0 ?_
  have hlen := fun G => hA.len G; simp only [List.length_map] at hlen; have hren := hA.ren
  have hokJ : ∀ i, allOk H (joinR a (l.take i)) := fun i => joinR_ok ha fun d hd => hb d (List.mem_of_mem_take hd)
  simp only [go_sem, C42]
  have h0 : joinR a [] = a := rfl
  have h00 : anyFresh a [] = false := rfl
  refine LL.st good_E0 (fun i : Nat => l.length - i) (fun i => i ≤ l.length)
    (fun i => [(.z, u), ((.o .z), v), ((.o (.i .z)), selV (anyFresh a (l.take i)) u (H.key 0) (joinR a (l.take i)).length), ((.i (.i .z)), .int .i64 i)])
    (fun i => [selB (anyFresh a (l.take i)) ((joinR a (l.take i)).map Dn.enc)]) ?_ 0 (σ := [0]) (Wk.of rfl (by decide) (by simp only [go_sem, hren, hren2, h0, h00, selV]) (by simp only [go_sem, h0, h00, selB])) (Nat.zero_le _)
  rintro i hi
  by_cases hlt : i < l.length
  · obtain ⟨kk, r, ex', cap', wr, rows, hv, hrho, hgo, hrow⟩ := hA.at hok (j := i) (by rw [List.length_map]; exact hlt); simp only [List.length_map, List.getElem_map] at hv hrow; cases hv; have hget : l[i]? = some l[i] := List.getElem?_eq_getElem hlt; generalize l[i] = c at hrow hget; have hw := wrap_succ (n := i) (by omega); have hci : (i : Int) < (l.length : Int) := (by omega); have hsi : i + 1 ≤ l.length := (by omega)
    have hco := hb c (List.mem_of_getElem? hget)
    have htk := take_snoc hget
    have hsn := joinR_snoc a (l.take i) c
    have hfn := fresh_snoc a (l.take i) c
    have hlen2 := joinR_len (a := a) (b := l.take i)
    rw [List.length_take] at hlen2
    have hoi := hokJ i
    have hoi2 := (hokJ (i + 1)).rens
    have hupJ : upD (joinR a (l.take i)) := joinR_up hua
    have hother : findD (joinR a (l.take i)) c.ses = findD a c.ses := joinR_other (List.Pairwise.sublist (List.take_sublist _ _) hub) hua fun x hx => by
      obtain ⟨q, hq⟩ := List.mem_iff_getElem?.1 hx
      rw [List.getElem?_take] at hq
      split at hq
      · rename_i hlt
        have := upD_rises hub q i x c hlt hq hget
        omega
      · cases hq
    have hnone := joinR_none (a := a) (b := l.take i)
    rw [htk] at hoi2
    simp only [go_sem, C42L0, hlen, hci, hsi, hgo, hrow, hw, Dn.enc]
    refine CL.of (f84_ok (hB.ext _) (ha.ext _) (by omega) c.ses) ?_
    rintro _ _ ⟨rfl, rfl⟩
    have hfresh : freshD a c → ¬ keepsD (joinR a (l.take i)) c := fun hf ⟨x, h1, h2⟩ => by
      rw [hother] at h1
      have := hf x h1; omega
    have harr : ∀ (L : List Blk), L[0]? = some (selB (anyFresh a (l.take i)) ((joinR a (l.take i)).map Dn.enc)) → Arr (H.ext L) 6 (selV (anyFresh a (l.take i)) u (H.key 0) (joinR a (l.take i)).length) ((joinR a (l.take i)).map Dn.enc) := fun L h =>
      selArr h (List.length_map ..) fun h => by rw [hnone h]; exact hB
    have hz1 : ∀ (k : K) (n : Nat), selV true u k n = outV k 6 n := fun _ _ => rfl
    have hz2 : ∀ xs : List (List AV), selB true xs = outB 6 xs := fun _ => rfl
    cases hf : findD a c.ses with
    | none =>
      have hfr : freshD a c := fun x hx => by rw [hf] at hx; cases hx
      rw [if_pos hfr] at hsn
      rw [decide_eq_true hfr, Bool.or_true] at hfn
      rw [hsn] at hoi2
      simp only [go_sem, Option.isSome_none, foundD, zeroD, zeroA, Option.getD_none, Dn.enc, hlen, hsi, hgo, hrow]
      refine CL.of (f51_with (l := joinR a (l.take i)) (d := c) (harr _ rfl) (hoi.ext _) (hco.ext _) hupJ (by omega) (hfresh hfr)) ?_
      rintro _ _ ⟨rfl, rfl⟩
      simp only [go_sem, hw]
      refine ⟨i + 1, by show l.length - (i + 1) < l.length - i; omega, by show i + 1 ≤ l.length; omega, _, [2], rfl, Wk.of rfl (by decide) (by simp only [go_sem, outV_ren', hrho, hren2, htk, hsn, hfn, hz1]) (by simp only [go_sem, ↓outB_ren', htk, hsn, hfn, hz2, hoi2, implies_true])⟩
    | some x =>
      simp only [go_sem, Option.isSome_some, foundD, Option.getD_some, Dn.enc, hlen, hsi, hgo, hrow]
      refine ⟨fun g => ?_, fun g => ?_⟩
      · have hfr : freshD a c := fun y hy => by rw [hf] at hy; cases hy; exact g
        rw [if_pos hfr] at hsn
        rw [decide_eq_true hfr, Bool.or_true] at hfn
        rw [hsn] at hoi2
        refine CL.of (f51_with (l := joinR a (l.take i)) (d := c) (harr _ rfl) (hoi.ext _) (hco.ext _) hupJ (by omega) (hfresh hfr)) ?_
        rintro _ _ ⟨rfl, rfl⟩
        simp only [go_sem, hw]
        refine ⟨i + 1, by show l.length - (i + 1) < l.length - i; omega, by show i + 1 ≤ l.length; omega, _, [2], rfl, Wk.of rfl (by decide) (by simp only [go_sem, outV_ren', hrho, hren2, htk, hsn, hfn, hz1]) (by simp only [go_sem, ↓outB_ren', htk, hsn, hfn, hz2, hoi2, implies_true])⟩
      · have hfr : ¬ freshD a c := fun h => g (h x hf)
        rw [if_neg hfr] at hsn
        rw [decide_eq_false hfr, Bool.or_false] at hfn
        refine ⟨i + 1, by show l.length - (i + 1) < l.length - i; omega, by show i + 1 ≤ l.length; omega, _, [0], rfl, Wk.of rfl (by decide) (by simp only [go_sem, ↓selV_ren, hrho, hren2, htk, hsn, hfn, hw]) (by simp only [go_sem, ↓selB_ren, htk, hsn, hfn, hoi.rens, implies_true])⟩
  · have hci : ¬ (i : Int) < (l.length : Int) := by omega
    simp only [go_sem, C42L0, hlen, hci]
    rw [List.take_of_length_le (by omega)]
    exact ⟨_, 0, rfl, rfl, fun _ => rfl⟩
end Go.Proofs
/- the document's shards: small things: walked. -/


set_option linter.all false
set_option linter.all false
set_option maxRecDepth 100000
namespace Go.Proofs
open Go Go.Ev
variable {H : Heap}

theorem f33_ok (f t k : List Nat) : FnOk Tryz.prog 33 [.agg [.str f, .str t], .str k] H fun r G => r = (if has f t k ∧ ltS f k then .tup [.agg [.str f, .str k], .agg [.str k, .str t], .bool true] else .tup [.agg [.str [], .str []], .agg [.str [], .str []], .bool false]) ∧ G = H := by
  refine FnOk.drop (R := fun r => r = (if has f t k ∧ ltS f k then .tup [.agg [.str f, .str k], .agg [.str k, .str t], .bool true] else .tup [.agg [.str [], .str []], .agg [.str [], .str []], .bool false])) ?_ (by rintro v rfl ρ; split <;> simp only [AV.ren, AV.rens])
  refine FnOk.of_WW Tryz.func33 rfl C33ok R33ok E0 good_E0 ?_
  simp only [go_sem, C33]
  refine CL.bool (f78_ok f t k) (fun g1 => ?_) (fun g1 => ?_)
  · simp only [go_sem]
    refine ⟨fun g2 => ?_, fun g2 => ?_⟩
    · rw [if_neg fun h => ?_]
      · exact ⟨rfl, _, rfl⟩
      · rcases g2 with g2 | g2
        · exact ltS_irrefl _ (ltS_trans g2 h.2)
        · rw [g2] at h; exact ltS_irrefl _ h.2
    · have hlt : ltS f k := by
        rcases ltS_tri f k with h | h | h
        · exact h
        · exact absurd (.inr h.symm) g2
        · exact absurd (.inl h) g2
      rw [if_pos ⟨g1, hlt⟩]
      exact ⟨rfl, _, rfl⟩
  · simp only [go_sem]
    rw [if_neg fun h => g1 h.1]
    exact ⟨rfl, _, rfl⟩
theorem f41_ok (f t f' t' : List Nat) : FnOk Tryz.prog 41 [.agg [.str f, .str t], .agg [.str f', .str t']] H fun r G => r = .bool (decide (isSpan f t ∧ isSpan f' t' ∧ ¬ t = [] ∧ t = f')) ∧ G = H := by
  refine FnOk.drop (R := fun r => r = .bool (decide (isSpan f t ∧ isSpan f' t' ∧ ¬ t = [] ∧ t = f'))) ?_ (by rintro v rfl ρ; rw [AV.ren])
  refine FnOk.of_WW Tryz.func41 rfl C41ok R41ok E0 good_E0 ?_
  simp only [go_sem, C41]
  refine CL.bool (f75_ok f t) (fun g1 => ?_) (fun g1 => ?_)
  · simp only [go_sem]
    refine CL.bool (f75_ok f' t') (fun g2 => ?_) (fun g2 => ?_)
    · simp only [go_sem]
      refine ⟨fun g3 => ⟨fun g4 => ⟨bool_t ⟨g1, g2, g3, g4⟩, _, rfl⟩, fun g4 => ⟨bool_f fun h => g4 h.2.2.2, _, rfl⟩⟩, fun g3 => ⟨bool_f fun h => g3 h.2.2.1, _, rfl⟩⟩
    · simp only [go_sem]
      exact ⟨bool_f fun h => g2 h.2.1, _, rfl⟩
  · simp only [go_sem]
    exact ⟨bool_f fun h => g1 h.1, _, rfl⟩
theorem f45_ok {v w : AV} {l m : List Evn} (hA : Arr H 4 v (l.map Evn.enc)) (hB : Arr H 4 w (m.map Evn.enc)) (hl : l.length < 9223372036854775807) :
    FnOk Tryz.prog 45 [v, w] H fun r G => r = .bool (decide (l = m)) ∧ G = H := by
  refine FnOk.assume fun hok => ?_
  refine FnOk.drop (R := fun r => r = .bool (decide (l = m))) ?_ (by rintro v rfl ρ; rw [AV.ren])
  refine FnOk.of_WW Tryz.func45 rfl C45ok R45ok E0 good_E0 ?_
  have hlen := fun G => hA.len G; simp only [List.length_map] at hlen; have hren := hA.ren
  have hlen2 := fun G => hB.len G
  simp only [List.length_map] at hlen2
  have hren2 := hB.ren
  simp only [go_sem, C45, hlen, hlen2]
  refine ⟨fun h => ⟨bool_f fun e : l = m => h (by rw [e]), _, rfl⟩, fun h => ?_⟩
  have hlm : l.length = m.length := by have := Classical.not_not.1 h; omega
  refine LL.st good_E0 (fun i : Nat => l.length - i) (fun i => i ≤ l.length ∧ ∀ j, j < i → l[j]? = m[j]?)
    (fun i => [(.z, v), ((.o .z), w), ((.o (.i .z)), .int .i64 i)]) (fun i => []) ?_ 0 (σ := []) (Wk.of rfl (by decide) (by simp only [go_sem, hren, hren2]) (by simp only [go_sem])) ⟨Nat.zero_le _, fun j h => absurd h (Nat.not_lt_zero _)⟩
  rintro i ⟨hi, hno⟩
  by_cases hlt : i < l.length
  · obtain ⟨kk2, r2, ex2, cap2, wr2, rows2, hv2, hrho2, hgo2, hrow2⟩ := hB.at hok (j := i) (by rw [List.length_map]; omega)
    simp only [List.length_map, List.getElem_map] at hv2 hrow2
    have hget2 : m[i]? = some (m[i]'(by omega)) := List.getElem?_eq_getElem (by omega)
    generalize m[i]'(by omega) = d at hrow2 hget2
    obtain ⟨kk, r, ex', cap', wr, rows, hv, hrho, hgo, hrow⟩ := hA.at hok (j := i) (by rw [List.length_map]; exact hlt); simp only [List.length_map, List.getElem_map] at hv hrow; cases hv; have hget : l[i]? = some l[i] := List.getElem?_eq_getElem hlt; generalize l[i] = c at hrow hget; have hw := wrap_succ (n := i) (by omega); have hci : (i : Int) < (l.length : Int) := (by omega); have hsi : i + 1 ≤ l.length := (by omega)
    subst hv2
    have hsi2 : i + 1 ≤ m.length := by omega
    have hbad : ¬ c = d → AV.bool false = .bool (decide (l = m)) := fun h => bool_f fun e => h (by rw [e, hget2] at hget; exact (Option.some.inj hget).symm)
    by_cases hcd : c = d
    · subst hcd
      obtain ⟨ck, cn, cv, cd⟩ := c
      cases cd
      all_goals
        simp only [go_sem, C45L0, hlen, hlen2, hci, hsi, hsi2, hgo, hgo2, hrow, hrow2, hw, Evn.enc]
        refine ⟨i + 1, by show l.length - (i + 1) < l.length - i; omega, ⟨by omega, fun j hj => ?_⟩, _, [], rfl, Wk.of rfl (by decide) (by simp only [go_sem, hrho, hrho2]) (by simp only [go_sem])⟩
        rcases Nat.lt_or_ge j i with h | h
        · exact hno j h
        · obtain rfl : j = i := by omega
          rw [hget, hget2]
    · have hb := hbad hcd
      obtain ⟨ck, cn, cv, cd⟩ := c
      obtain ⟨dk, dn, dv, dd⟩ := d
      cases cd <;> cases dd
      all_goals
        simp only [go_sem, C45L0, hlen, hlen2, hci, hsi, hsi2, hgo, hgo2, hrow, hrow2, hw, Evn.enc]
        repeat' (first | apply And.intro | intro _)
      all_goals first | exact hb | exact ⟨_, rfl⟩ | (exfalso; apply hcd; simp_all)
  · have hci : ¬ (i : Int) < (l.length : Int) := by omega
    simp only [go_sem, C45L0, hci, hlen]
    refine ⟨bool_t (List.ext_getElem? fun j => ?_), _, rfl⟩
    rcases Nat.lt_or_ge j l.length with h | h
    · exact hno j (by omega)
    · rw [List.getElem?_eq_none h, List.getElem?_eq_none (by omega)]
/-- two shards that say the same -/
def sameSh (a b : Sh) : Prop := a.id = b.id ∧ a.ep = b.ep ∧ a.fr = b.fr ∧ a.to = b.to ∧ a.frz = b.frz ∧ a.cells = b.cells ∧ a.evs = b.evs ∧ a.done = b.done
theorem f15_same {a b : Sh} (ha : a.ok H) (hb : b.ok H) (h : sameSh a b) : FnOk Tryz.prog 15 [.agg a.enc, .agg b.enc] H fun r G => r = .bool true ∧ G = H := by
  refine FnOk.drop (R := fun r => r = .bool true) ?_ (by rintro v rfl ρ; rw [AV.ren])
  refine FnOk.of_WW Tryz.func15 rfl C15ok R15ok E0 good_E0 ?_
  obtain ⟨id, ep, fr, to, frz, cs, es, ds, cv, ev, dv⟩ := a
  obtain ⟨id', ep', fr', to', frz', cs', es', ds', cv', ev', dv'⟩ := b
  obtain ⟨h1, h2, h3, h4, h5, h6, h7, h8⟩ := h
  dsimp only at h1 h2 h3 h4 h5 h6 h7 h8
  subst h1 h2 h3 h4 h5 h6 h7 h8
  have q1 := ha.cl
  have q2 := ha.el
  have q3 := ha.dl
  dsimp only at q1 q2 q3
  cases frz
  all_goals
    simp only [go_sem, C15, Sh.enc]
    refine CL.bool (f44_ok (ha.c.ext _) (hb.c.ext _) q1 q1) (fun _ => ?_) (fun g => absurd rfl g)
    simp only [go_sem]
    refine CL.bool (f45_ok (ha.e.ext _) (hb.e.ext _) (by dsimp only; omega)) (fun _ => ?_) (fun g => absurd rfl g)
    simp only [go_sem]
    refine CL.bool (f46_ok (ha.d.ext _) (hb.d.ext _) (ha.dok.ext _) (hb.dok.ext _) (by dsimp only; omega)) (fun _ => ?_) (fun g => absurd (sameD_self _) g)
    simp only [go_sem]
    exact ⟨_, rfl⟩
end Go.Proofs
/- the document's parts of a shard: walked. -/

set_option linter.all false
set_option linter.all false
set_option maxRecDepth 100000
namespace Go.Proofs
open Go Go.Ev
variable {H : Heap}

def A79 (H : Heap) (args : List AV) (q : List Cell × List Nat × List Nat) : Prop := ∃ v, args = [v, .agg [.str q.2.1, .str q.2.2]] ∧ Arr H 5 v (q.1.map Cell.enc) ∧ q.1.length < 4294967296
noncomputable def EW7 (f : FuncId) (args : List AV) (H : Heap) : RC :=
  match f with
  | 79 => ot (A79 H args) fun q => .ok (outV H.nx 5 (withinL q.2.1 q.2.2 q.1).length) (H.ext [outB 5 ((withinL q.2.1 q.2.2 q.1).map Cell.enc)])
  | 78 => match args with | [.agg [.str f, .str t], .str k] => .ok (.bool (decide (has f t k))) H | _ => .fail
  | _ => .fail
theorem f79_at {v : AV} {l : List Cell} (hA : Arr H 5 v (l.map Cell.enc)) (hl : l.length < 4294967296) (f t : List Nat) :
    FnOk Tryz.prog 79 [v, .agg [.str f, .str t]] H fun r G => r = outV H.nx 5 (withinL f t l).length ∧ G = H.ext [outB 5 ((withinL f t l).map Cell.enc)] := by
  refine FnOk.dropO (List.length_map ..) (Cell.map_rens · _) ?_
  refine (f79_ok hA hl f t).mono ?_
  rintro v G ⟨rfl, rfl⟩
  refine ⟨_, 0, by rw [Heap.key_zero], rfl, ?_⟩
  cases withinL f t l with
  | nil => intro h; exact h.elim
  | cons x xs => intro _; rfl
theorem good_EW7 : Ev.Good Tryz.prog EW7 := by
  intro f args H r G he φ w args' ha hw
  refine (?_ : FnOk Tryz.prog f args H fun v' G' => v' = r ∧ G' = G).one φ w args' ha hw
  unfold EW7 at he
  split at he
  · obtain ⟨q, ⟨v, rfl, h1, h2⟩, hz⟩ := ot_ok he
    clear he
    cases hz
    exact f79_at h1 h2 _ _
  · split at he
    · cases he; exact f78_ok _ _ _
    · cases he
  · cases he
theorem e79 {v : AV} {l : List Cell} (hA : Arr H 5 v (l.map Cell.enc)) (hl : l.length < 4294967296) (f t : List Nat) (L : List Blk) : EW7 79 [v, .agg [.str f, .str t]] (H.ext L) = .ok (outV (H.key L.length) 5 (withinL f t l).length) (H.ext (L ++ [outB 5 ((withinL f t l).map Cell.enc)])) := by
  show ot (A79 (H.ext L) [v, .agg [.str f, .str t]]) (fun q => .ok (outV (H.ext L).nx 5 (withinL q.2.1 q.2.2 q.1).length) ((H.ext L).ext [outB 5 ((withinL q.2.1 q.2.2 q.1).map Cell.enc)])) = _
  rw [ot_eq (p := A79 (H.ext L) [v, .agg [.str f, .str t]]) (x := (l, f, t)) ⟨v, rfl, hA.ext L, hl⟩, Heap.nx_ext, Heap.ext_append]
  rintro ⟨l', f', t'⟩ ⟨v', h1, h2, _⟩
  injection h1 with h1 h3
  injection h3 with h3 _
  injection h3 with h3
  injection h3 with h3 h4
  injection h4 with h4 _
  injection h3 with h3
  injection h4 with h4
  subst h1 h3 h4
  rw [cells_uniq (hA.ext L) h2]
theorem e78 (f t k : List Nat) (H : Heap) : EW7 78 [.agg [.str f, .str t], .str k] H = .ok (.bool (decide (has f t k))) H := rfl
/-- a part of a shard, as the document has it: what was done is the same row -/
noncomputable def partR (s : Sh) (id : Int) (f t : List Nat) (k0 k1 : K) : Sh := ⟨id, 1, f, t, false, withinL f t s.cells, evW f t s.evs, s.done, outV k0 5 (withinL f t s.cells).length, outV k1 4 (evW f t s.evs).length, s.dv⟩
noncomputable def partRB (s : Sh) (f t : List Nat) : List Blk := [outB 5 ((withinL f t s.cells).map Cell.enc), outB 4 ((evW f t s.evs).map Evn.enc)]
theorem appQ_out {L : List Blk} {i j n esz bytes : Nat} {xs : List (List AV)} {y : List AV} {wr ex : Bool} {cap : Nat} (hi : L[i]? = some (outB esz xs)) (hn : xs.length = n) (hj : L[j]? = some (.row wr esz [y])) (hb : okBig (n + 1) bytes = true) :
    appQ esz bytes (some (outV (H.key i) esz n)) (some (.slice (H.key j) 0 1 esz ex cap)) (H.ext L) = .val (outV (H.key L.length) esz (n + 1)) (H.ext (L.set i .dead ++ [outB esz (xs ++ [y])])) := by
  show appR esz bytes (.c _) (.c _) .lf (H.ext L) = _
  exact appR_out rfl rfl hi hn hj hb
theorem f34_ok {s : Sh} (h : s.ok H) (hel : s.evs.length < 100000) (id : Int) (f t : List Nat) :
    FnOk Tryz.prog 34 [.agg s.enc, .agg [.str f, .str t], .int .i64 id] H fun r G => r = .agg (partR s id f t (H.key 0) (H.key 1)).enc ∧ G = H.ext (partRB s f t) := by
  refine FnOk.assume fun hok => ?_
  refine FnOk.dropW ?_
  refine FnOk.of_WW Tryz.func34 rfl C34ok R34ok EW7 good_EW7 ?_
  have hA := h.e
  have hlen := fun G => hA.len G
  simp only [List.length_map] at hlen
  have cren := h.c.ren
  have eren := h.e.ren
  have dren := h.d.ren
  have i79 := e79 h.c h.cl
  simp only [go_sem, C34, Sh.enc, i79, hlen, arr_one h.d, arr_agg h.d]
  refine LL.st good_EW7 (fun i : Nat => s.evs.length - i) (fun i => i ≤ s.evs.length)
    (fun i => [((.o (.o .z)), .ptr (H.key 0) 0), ((.i (.o .z)), .ptr (H.key 1) 0), ((.i (.i .z)), .ptr (H.key 2) 0), ((.o (.o (.o .z))), .ptr (H.key 3) 0), ((.i (.o (.o .z))), .int .i64 i)])
    (fun i => [.row true 8 [[.int .i64 s.id, .int .i64 s.ep, .str s.fr, .str s.to, .bool s.frz, s.cv, s.ev, s.dv]], .row true 2 [[.str f, .str t]], .row true 8 [[.int .i64 0, .int .i64 0, .str [], .str [], .bool false, .nils, .nils, .nils]],
      .row true 8 [[.int .i64 id, .int .i64 1, .str f, .str t, .bool false, outV (H.key 4) 5 (withinL f t s.cells).length, outV (H.key 5) 4 (evW f t (s.evs.take i)).length, s.dv]], outB 5 ((withinL f t s.cells).map Cell.enc), outB 4 ((evW f t (s.evs.take i)).map Evn.enc)]) ?_ 0 (σ := [0, 1, 2, 3, 4, 5]) (Wk.of rfl (by decide) (by simp only [go_sem, cren, eren, dren]) (by simp only [go_sem, cren, eren, dren, outV_ren', evW, List.filter_nil, ↓outB_ren', Cell.map_rens, implies_true])) (Nat.zero_le _)
  rintro i hi
  by_cases hlt : i < s.evs.length
  · obtain ⟨kk, r, ex', cap', wr, rows, hv, hrho, hgo, hrow⟩ := hA.at hok (j := i) (by rw [List.length_map]; exact hlt)
    simp only [List.length_map, List.getElem_map] at hv hrow
    have hget : s.evs[i]? = some s.evs[i] := List.getElem?_eq_getElem hlt
    generalize s.evs[i] = e at hrow hget
    have hw := wrap_succ (n := i) (by omega)
    have hci : (i : Int) < (s.evs.length : Int) := (by omega)
    have hsi : i + 1 ≤ s.evs.length := (by omega)
    simp only [go_sem, ↓appR_hide, C34L0, hv, hci, hsi, hgo, hrow, hw, Evn.enc, e78]
    refine ⟨fun g => ?_, fun g => ?_⟩
    · have hnew := evW_yes hget g
      have hln := evW_len f t s.evs i
      rw [appQ_out (i := 5) (j := 6) rfl (List.length_map ..) rfl (okBig_le (by omega) (by decide))]
      simp only [go_sem, hw]
      rw [show outB 4 ((evW f t (s.evs.take i)).map Evn.enc ++ [[.str e.key, .int .i64 e.ver, .str e.val, .bool e.del]]) = outB 4 ((evW f t (s.evs.take i) ++ [e]).map Evn.enc) by rw [List.map_append]; rfl]
      refine ⟨i + 1, by show s.evs.length - (i + 1) < s.evs.length - i; omega, ?_, _, [0, 1, 2, 3, 4, 7], rfl, Wk.of rfl (by decide) (by simp only [go_sem, cren, hrho, dren]) (by simp only [go_sem, cren, hrho, dren, outV_ren', hnew, ↓outB_ren', Cell.map_rens, Evn.map_rens, Evn.rens, implies_true])⟩
      exact hsi
    · have hnew := evW_no hget g
      refine ⟨i + 1, by show s.evs.length - (i + 1) < s.evs.length - i; omega, ?_, _, [0, 1, 2, 3, 4, 5], rfl, Wk.of rfl (by decide) (by simp only [go_sem, cren, hrho, dren]) (by simp only [go_sem, cren, hrho, dren, outV_ren', hnew, ↓outB_ren', Cell.map_rens, Evn.map_rens, Evn.rens, implies_true])⟩
      exact hsi
  · have hci : ¬ (i : Int) < (s.evs.length : Int) := (by omega)
    have htk : s.evs.take i = s.evs := List.take_of_length_le (by omega)
    rw [htk]
    simp only [go_sem, C34L0, hci, hlen]
    exact ⟨_, [4, 5], by simp only [partR, Sh.enc, outV_ren', dren, go_sem], rfl, rfl, by decide, by simp only [partRB, go_sem, ↓outB_ren', ↓zB_ren, Cell.map_rens, Evn.map_rens, implies_true]⟩
end Go.Proofs
/- the document's Split: walked. -/

set_option linter.all false
set_option linter.all false
set_option maxRecDepth 100000
namespace Go.Proofs
open Go Go.Ev
variable {H : Heap}

def A34 (H : Heap) (args : List AV) (q : Sh × Int × List Nat × List Nat) : Prop := args = [.agg q.1.enc, .agg [.str q.2.2.1, .str q.2.2.2], .int .i64 q.2.1] ∧ q.1.ok H ∧ q.1.evs.length < 100000
noncomputable def ER (f : FuncId) (args : List AV) (H : Heap) : RC :=
  match f with
  | 34 => ot (A34 H args) fun q => .ok (.agg (partR q.1 q.2.1 q.2.2.1 q.2.2.2 (H.key 0) (H.key 1)).enc) (H.ext (partRB q.1 q.2.2.1 q.2.2.2))
  | _ => .fail
theorem good_ER : Ev.Good Tryz.prog ER := by
  intro f args H r G he φ w args' ha hw
  refine (?_ : FnOk Tryz.prog f args H fun v' G' => v' = r ∧ G' = G).one φ w args' ha hw
  unfold ER at he
  split at he
  · obtain ⟨q, ⟨rfl, h1, h2⟩, hz⟩ := ot_ok he
    clear he
    cases hz
    exact f34_ok h1 h2 _ _ _
  · cases he
theorem e34 {s : Sh} (h : s.ok H) (he : s.evs.length < 100000) (id : Int) (f t : List Nat) (L : List Blk) : ER 34 [.agg [.int .i64 s.id, .int .i64 s.ep, .str s.fr, .str s.to, .bool s.frz, s.cv, s.ev, s.dv], .agg [.str f, .str t], .int .i64 id] (H.ext L) =
    .ok (.agg [.int .i64 id, .int .i64 1, .str f, .str t, .bool false, outV (H.key L.length) 5 (withinL f t s.cells).length, outV (H.key (L.length + 1)) 4 (evW f t s.evs).length, s.dv]) (H.ext (L ++ partRB s f t)) := by
  show ot (A34 (H.ext L) [.agg s.enc, .agg [.str f, .str t], .int .i64 id]) (fun q => .ok (.agg (partR q.1 q.2.1 q.2.2.1 q.2.2.2 ((H.ext L).key 0) ((H.ext L).key 1)).enc) ((H.ext L).ext (partRB q.1 q.2.2.1 q.2.2.2))) = _
  rw [ot_eq (p := A34 (H.ext L) [.agg s.enc, .agg [.str f, .str t], .int .i64 id]) (x := (s, id, f, t)) ⟨rfl, h.ext L, he⟩, Heap.ext_append, Heap.key_ext, Heap.key_ext]
  · rfl
  · rintro ⟨t', id', f', t2⟩ ⟨h1, h2, _⟩
    injection h1 with h1 h3
    injection h3 with h3 h4
    injection h4 with h4 _
    injection h1 with h1
    injection h4 with _ h4
    injection h3 with h3
    injection h3 with h3 h5
    injection h5 with h5 _
    injection h3 with h3
    injection h5 with h5
    rw [Sh.uniq h1 (h.ext L) h2, h3, h4, h5]
theorem partR_ok {s : Sh} (h : s.ok H) {L : List Blk} {i j : Nat} {f t : List Nat} (id : Int) (hi : L[i]? = some (outB 5 ((withinL f t s.cells).map Cell.enc))) (hj : L[j]? = some (outB 4 ((evW f t s.evs).map Evn.enc))) : (partR s id f t (H.key i) (H.key j)).ok (H.ext L) :=
  ⟨arr_outV hi (List.length_map ..), arr_outV hj (List.length_map ..), h.d.ext L, h.dok.ext L, Nat.lt_of_le_of_lt (List.length_filter_le _ _) h.cl, Nat.lt_of_le_of_lt (List.length_filter_le _ _) h.el, h.dl⟩
/-- no shard -/
def zSh : Sh := ⟨0, 0, [], [], false, [], [], [], .nils, .nils, .nils⟩
theorem zSh_ok (H : Heap) : zSh.ok H := ⟨.inl ⟨rfl, rfl⟩, .inl ⟨rfl, rfl⟩, .inl ⟨rfl, rfl⟩, fun d hd => absurd hd List.not_mem_nil, by decide, by decide, by decide⟩
/-- what both parts of a cut say -/
noncomputable def saidPart (s : Sh) (id : Int) (f t : List Nat) : Sh := ⟨id, 1, f, t, false, withinL f t s.cells, evW f t s.evs, s.done, .nils, .nils, .nils⟩
def splitSaid (s : Sh) (k : List Nat) (l r : Int) (a b : Sh) (c : Int) : Prop :=
  (okSplit s l r → inSplit s k → c = 0 ∧ sameSh a (saidPart s l s.fr k) ∧ sameSh b (saidPart s r k s.to)) ∧ (okSplit s l r → ¬ inSplit s k → c = 22 ∧ a = zSh ∧ b = zSh) ∧ (¬ okSplit s l r → c = 10 ∧ a = zSh ∧ b = zSh)
theorem f12_ok {s : Sh} (h : s.ok H) (he : s.evs.length < 100000) (k : List Nat) (l r : Int) :
    FnOk Tryz.prog 12 [.agg s.enc, .str k, .int .i64 l, .int .i64 r] H fun v G => ∃ a b c L, v = .tup [.agg (Sh.enc a), .agg (Sh.enc b), .int .i64 c] ∧ G = H.ext L ∧ Sh.ok G a ∧ Sh.ok G b ∧ splitSaid s k l r a b c := by
  refine FnOk.of_WW Tryz.func12 rfl C12ok R12ok ER good_ER ?_
  have hbad : ¬ okSplit s l r → ∀ L, ∃ a b c L', AV.tup [zeroS, zeroS, .int .i64 10] = .tup [.agg (Sh.enc a), .agg (Sh.enc b), .int .i64 c] ∧ H.ext L = H.ext L' ∧ Sh.ok (H.ext L) a ∧ Sh.ok (H.ext L) b ∧ splitSaid s k l r a b c := fun g L =>
    ⟨zSh, zSh, 10, L, rfl, rfl, zSh_ok _, zSh_ok _, fun h => absurd h g, fun h => absurd h g, fun _ => ⟨rfl, rfl, rfl⟩⟩
  simp only [zeroS] at hbad
  simp only [go_sem, C12, Sh.enc]
  refine CL.bool (f32_ok (h.ext _)) (fun g1 => ?_) (fun g1 => ?_)
  rotate_left
  · simp only [go_sem]
    exact hbad (fun h => g1 h.1.1) _
  by_cases g2 : s.frz = true
  · have z1 := eq_true g2
    have z2 := eq_false (show ¬ s.frz = false by rw [g2]; decide)
    simp only [go_sem, z1, z2]
    exact hbad (fun h => h.1.2 g2) _
  have z1 := eq_false g2
  have z2 := eq_true (show s.frz = false by simpa using g2)
  simp only [go_sem, z1, z2]
  refine ⟨fun q => hbad (fun h => by have := h.2.1.1; omega) _, fun q3 => ⟨fun q => hbad (fun h => by have := h.2.2.1.1; omega) _, fun q4 => ⟨fun q => hbad (fun h => by have := h.2.1.2; omega) _, fun q5 => ⟨fun q => hbad (fun h => by have := h.2.2.1.2; omega) _, fun q6 => ⟨fun q => hbad (fun h => h.2.2.2 q) _, fun q7 => ?_⟩⟩⟩⟩⟩
  have hok : okSplit s l r := ⟨⟨g1, g2⟩, ⟨by omega, by omega⟩, ⟨by omega, by omega⟩, q7⟩
  refine CL.of (f33_ok s.fr s.to k) ?_
  rintro _ _ ⟨rfl, rfl⟩
  by_cases g3 : has s.fr s.to k ∧ ltS s.fr k
  rotate_left
  · rw [if_neg g3]
    simp only [go_sem]
    exact ⟨zSh, zSh, 22, _, rfl, rfl, zSh_ok _, zSh_ok _, fun _ h => absurd h g3, fun _ _ => ⟨rfl, rfl, rfl⟩, fun h => absurd hok h⟩
  rw [if_pos g3]
  have i34 := e34 h he
  simp only [go_sem, i34, partRB]
  refine ⟨partR s l s.fr k (H.key 5) (H.key 6), partR s r k s.to (H.key 7) (H.key 8), 0, _, rfl, rfl, partR_ok h l rfl rfl, partR_ok h r rfl rfl, fun _ _ => ⟨rfl, ?_, ?_⟩, fun _ h => absurd g3 h, fun h => absurd hok h⟩
  · exact ⟨rfl, rfl, rfl, rfl, rfl, rfl, rfl, rfl⟩
  · exact ⟨rfl, rfl, rfl, rfl, rfl, rfl, rfl, rfl⟩
end Go.Proofs
/- the document's Keep: the plain law, the walk. -/

set_option linter.all false
set_option linter.all false
set_option maxRecDepth 100000
namespace Go.Proofs
open Go Go.Ev
variable {H : Heap}

theorem runR_le {c e : Evn} {d : Cell} : ∀ {l : List Evn} {v w : Int}, runR d l v = some w → e ∈ l → e.key = d.key → e.ver ≤ w
  | [], _, _, _, h, _ => absurd h List.not_mem_nil
  | x :: l, v, w, h, he, hk => by
    rw [runR] at h
    rcases List.mem_cons.1 he with rfl | he
    · rw [if_pos hk] at h
      split at h
      · rename_i h2; have := runR_ge h; omega
      · cases h
    · split at h
      · split at h
        · exact runR_le (c := c) h he hk
        · cases h
      · exact runR_le (c := c) h he hk
theorem hist_ver {l : List Evn} {cs : List Cell} (h : isHist l cs) {e : Evn} {c : Cell} (he : e ∈ l) (hc : c ∈ cs) (hk : c.key = e.key) : e.ver ≤ c.ver := runR_le (c := e) (ofH_iff.1 (h.2.2 c hc)) he hk.symm
theorem flo_key (e : Evn) (c : Cell) : (flo e c).key = c.key := by unfold flo; split <;> rfl
theorem flo_ver (e : Evn) (c : Cell) : (flo e c).ver = c.ver := by unfold flo; split <;> rfl
theorem flo_is {e : Evn} {c : Cell} (h : cellIs c) (hv : c.key = e.key → e.ver ≤ c.ver) : cellIs (flo e c) := by
  unfold flo
  split
  · rename_i hk
    have := hv hk
    exact ⟨h.1, by show (0 : Int) ≤ max c.floor e.ver; have := h.2.1; omega, by show max c.floor e.ver ≤ c.ver; have := h.2.2; omega⟩
  · exact h
theorem getL_mem {k : List Nat} {c : Cell} : ∀ {l : List Cell}, getL l k = (c, true) → c ∈ l ∧ c.key = k
  | [], h => by cases h
  | d :: l, h => by
    unfold getL at h
    split at h
    · rename_i hk; cases h; exact ⟨by simp, hk⟩
    · exact ⟨by simp [(getL_mem h).1], (getL_mem h).2⟩
theorem withL_flo {e : Evn} {c : Cell} : ∀ {l : List Cell}, Ord l → getL l e.key = (c, true) → withL l (flo e c) = l.map (flo e)
  | [], _, h => by cases h
  | d :: l, ho, h => by
    obtain ⟨h1, h2⟩ := List.pairwise_cons.1 ho
    unfold getL at h
    split at h
    · rename_i hk
      cases h
      have hid : l.map (flo e) = l := by
        conv => rhs; rw [← List.map_id l]
        refine List.map_congr_left fun x hx => flo_no fun hk2 => ?_
        have := h1 x hx
        rw [hk, hk2] at this
        exact ltS_irrefl _ this
      unfold withL
      rw [flo_key, if_neg (ltS_irrefl _), if_pos rfl, List.map_cons, hid]
    · rename_i hk
      obtain ⟨hm, hck⟩ := getL_mem h
      unfold withL
      rw [flo_key, if_pos (h1 c hm), List.map_cons, flo_no hk, withL_flo h2 h]
/-- what goes on while the events are let go: the cells stay an index, of the same keys and versions -/
structure Kept (cs0 cs : List Cell) : Prop where
  idx : isIdx cs
  src : ∀ c ∈ cs, ∃ c0 ∈ cs0, c.key = c0.key ∧ c.ver = c0.ver
  len : cs.length = cs0.length
  has : ∀ k, (getL cs0 k).2 = true → (getL cs k).2 = true
theorem Kept.refl {cs : List Cell} (h : isIdx cs) : Kept cs cs := ⟨h, fun c hc => ⟨c, hc, rfl, rfl⟩, rfl, fun _ h => h⟩
theorem Kept.step {l : List Evn} {cs0 cs : List Cell} (hI : isHist l cs0) (h : Kept cs0 cs) {e : Evn} (he : e ∈ l) : Kept cs0 (cs.map (flo e)) ∧ ∃ c, getL cs e.key = (c, true) ∧ cellIs (flo e c) ∧ refW cs (flo e c) = cs.map (flo e) := by
  have hv : ∀ c ∈ cs, cellIs (flo e c) := fun c hc => flo_is (isIdx_all h.idx c hc) fun hk => by
    obtain ⟨c0, hc0, h1, h2⟩ := h.src c hc
    rw [h2]
    exact hist_ver hI he hc0 (h1.symm.trans hk)
  have hx : isIdx (cs.map (flo e)) := isIdx_of (fun c hc => by
    obtain ⟨d, hd, rfl⟩ := List.mem_map.1 hc
    exact hv d hd) (List.pairwise_map.2 ((isIdx_pair h.idx).imp fun {a b} hab => by rw [flo_key, flo_key]; exact hab))
  refine ⟨⟨hx, fun c hc => ?_, by rw [List.length_map]; exact h.len, fun k hk => ?_⟩, ?_⟩
  · obtain ⟨d, hd, rfl⟩ := List.mem_map.1 hc
    obtain ⟨c0, h1, h2, h3⟩ := h.src d hd
    exact ⟨c0, h1, by rw [flo_key]; exact h2, by rw [flo_ver]; exact h3⟩
  · obtain ⟨c, hc, hck⟩ := getL_true.1 (h.has k hk)
    exact getL_true.2 ⟨flo e c, List.mem_map.2 ⟨c, hc, rfl⟩, by rw [flo_key]; exact hck⟩
  · have h2 := h.has e.key (hI.2.1 e he).1
    obtain ⟨c, hc⟩ : ∃ c, getL cs e.key = (c, true) := ⟨(getL cs e.key).1, by rw [← h2]⟩
    exact ⟨c, hc, hv c (getL_mem hc).1, by rw [refW_eq h.idx, withL_flo (isIdx_pair h.idx) hc]⟩
theorem Kept.take {l : List Evn} {cs : List Cell} (hI : isHist l cs) : ∀ i, Kept cs (keepC (l.take i) cs)
  | 0 => Kept.refl hI.1
  | i + 1 => by
    by_cases hi : i < l.length
    · rw [keepC_succ (List.getElem?_eq_getElem hi)]
      exact ((Kept.take hI i).step hI (List.getElem_mem hi)).1
    · rw [List.take_of_length_le (by omega)]
      have := Kept.take hI i
      rwa [List.take_of_length_le (by omega)] at this
def seV (c : Bool) (u : AV) (k : K) (e n : Nat) : AV := match c with | true => outV k e n | false => u
def seB (c : Bool) (e : Nat) (xs : List (List AV)) : Blk := match c with | true => outB e xs | false => .dead
theorem seV_ren {ρ : K → K} {u : AV} (hu : u.ren ρ = u) (c : Bool) (k : K) (e n : Nat) : AV.ren ρ (seV c u k e n) = seV c u (ρ k) e n := by
  cases c
  · exact hu
  · exact outV_ren' ..
theorem seB_ren {ρ : K → K} {e : Nat} {xs : List (List AV)} (h : xs.map (AV.rens ρ) = xs) (c : Bool) : Blk.ren ρ (seB c e xs) = seB c e xs := by
  cases c
  · rfl
  · exact outB_ren' _ h
theorem seArr {c : Bool} {u : AV} {L : List Blk} {i n e : Nat} {xs : List (List AV)} (h : L[i]? = some (seB c e xs)) (hn : xs.length = n) (hu : c = false → Arr H e u xs) : Arr (H.ext L) e (seV c u (H.key i) e n) xs := by
  cases c
  · exact (hu rfl).ext _
  · exact arr_outV h hn
theorem f86_at {v : AV} {l : List Cell} (hA : Arr H 5 v (l.map Cell.enc)) (hl : l.length < 4294967295) {c : Cell} (hc : cellIs c) :
    FnOk Tryz.prog 86 [v, .agg c.enc] H fun r G => r = outV H.nx 5 (refW l c).length ∧ G = H.ext [outB 5 ((refW l c).map Cell.enc)] := by
  refine FnOk.dropO (List.length_map ..) (Cell.map_rens · _) ?_
  refine (f86_yes hA hl hc).mono ?_
  rintro v G ⟨rfl, rfl⟩
  refine ⟨_, 0, by rw [Heap.key_zero], rfl, ?_⟩
  cases refW l c with
  | nil => intro h; exact h.elim
  | cons x xs => intro _; rfl
theorem appR_hide2 (esz bytes : Nat) (a : AV) (b : K) (T : Tr AV) (H : Heap) : appR esz bytes (.c a) (.t b) T H = appQ esz bytes (some a) (T.get b) H := by
  unfold appR appQ
  simp only [withX_t, withX_c]
  cases T.get b <;> rfl
/-- a copy of what a slice has -/
theorem appQ_nil {G : Heap} {e bytes : Nat} {w : AV} {ys : List (List AV)} (hpos : 0 < e) (hw : Arr G e w ys) (hy : ys ≠ []) (hb : okBig ys.length bytes = true) :
    appQ e bytes (some .nils) (some w) G = .val (outV (G.key 0) e ys.length) (G.ext [outB e ys]) := by
  have hl : 0 < ys.length := List.length_pos_iff.2 hy
  rcases hw with ⟨rfl, rfl⟩ | ⟨k, off, ex, cap, rfl, hk, h⟩
  · exact absurd rfl hy
  · obtain ⟨r, wr, rows', rfl, hg, hrow⟩ := h hy
    have e1 : r * e % e = 0 := Nat.mul_mod_left r e
    have e2 : r * e / e = r := Nat.mul_div_cancel r hpos
    have hlen := congrArg List.length hrow
    rw [List.length_take, List.length_drop] at hlen
    have e3 : ys.length ≤ (rows'.drop r).length := by rw [List.length_drop]; omega
    have e4 : ¬ ys.length = 0 := by omega
    have hb1 : (2 * ys.length + 192) * bytes ≤ 281474976710656 := by unfold okBig at hb; rwa [Nat.ble_eq] at hb
    show appR e bytes (.c .nils) (.c (.slice k (r * e) ys.length e ex cap)) .lf G = _
    simp only [go_sem, hg, e1, e2, e3, e4, hrow]
    rw [if_pos hb1, outV_pos hl, outB_pos hl]
    have hG := Heap.addC_ext G [] (.row true e ys) (fun k G => R1.val (AV.slice k 0 ys.length e false ys.length) G)
    rw [Heap.ext_nil] at hG
    exact hG
theorem Arr.drop_at {G : Heap} {k : K} {n e cap cap' i : Nat} {ex ex' : Bool} {xs : List (List AV)} (hpos : 0 < e) (h : Arr G e (.slice k 0 n e ex cap) xs) : Arr G e (.slice k (i * e) (n - i) e ex' cap') (xs.drop i) := by
  rcases h with ⟨h, _⟩ | ⟨k', off, ex2, cap2, h, hk, h2⟩
  · cases h
  · cases h
    refine .inr ⟨k, i * e, ex', cap', by rw [List.length_drop], hk, fun hx => ?_⟩
    have hxs : xs ≠ [] := by rintro rfl; simp at hx
    obtain ⟨r, wr, rows, h3, h4, h5⟩ := h2 hxs
    have hr : r = 0 := by
      rcases Nat.eq_zero_or_pos r with hr | hr
      · exact hr
      · have := Nat.mul_pos hr hpos; omega
    subst hr
    rw [List.drop_zero] at h5
    refine ⟨i, wr, rows, rfl, h4, ?_⟩
    have h6 := congrArg (List.drop i) h5
    rw [List.drop_take] at h6
    rw [List.length_drop]
    exact h6
theorem f43_ok {kx : K} {v u : AV} {l : List Evn} {cs : List Cell} (hA : Arr H 4 v (l.map Evn.enc)) (hB : Arr H 5 u (cs.map Cell.enc)) (hl : l.length < 100000) (hc : cs.length < 100000) (hI : isHist l cs) (hvx : v = outV kx 4 l.length) :
    FnOk Tryz.prog 43 [v, u, .int .i64 24] H fun r G => r = .tup [outV (H.key 1) 4 (l.drop (l.length - 24)).length, seV (decide (0 < l.length - 24)) u (H.key 0) 5 cs.length] ∧ G = H.ext [seB (decide (0 < l.length - 24)) 5 ((keepC (l.take (l.length - 24)) cs).map Cell.enc), outB 4 ((l.drop (l.length - 24)).map Evn.enc)] := by
  refine FnOk.assume fun hok => ?_
  refine FnOk.dropW ?_
  refine FnOk.of_WW Tryz.func43 rfl C43ok R43ok E0 good_E0 ?_
  have hlen := fun G => hA.len G; simp only [List.length_map] at hlen; have hren := hA.ren
  have uren := hB.ren
  obtain ⟨kk, hkk⟩ : ∃ kk, kk = l.length - 24 := ⟨_, rfl⟩
  have e1 : max (0 : Int) 24 = 24 := by decide
  have e2 : max 0 (IntKind.i64.wrap ((l.length : Int) - 24)) = (kk : Int) := by rw [wrap_i64 (by omega) (by omega)]; omega
  rw [← hkk]
  simp only [go_sem, C43, hlen, e1, e2]
  refine LL.st good_E0 (fun i : Nat => kk - i) (fun i => i ≤ kk)
    (fun i => [(.z, v), ((.o .z), seV (decide (0 < i)) u (H.key 0) 5 cs.length), ((.i (.o (.o .z))), .int .i64 kk), ((.o (.i (.o .z))), .int .i64 i)])
    (fun i => [seB (decide (0 < i)) 5 ((keepC (l.take i) cs).map Cell.enc)]) ?_ 0 (σ := [0]) (Wk.of rfl (by decide) (by simp only [go_sem, hren, uren, seV]) (by simp only [go_sem, seB])) (Nat.zero_le _)
  rintro i hi
  have hK := Kept.take hI i
  have hBi : ∀ L, Arr (H.ext (seB (decide (0 < i)) 5 ((keepC (l.take i) cs).map Cell.enc) :: L)) 5 (seV (decide (0 < i)) u (H.key 0) 5 cs.length) ((keepC (l.take i) cs).map Cell.enc) := fun L => seArr (i := 0) rfl (by rw [List.length_map]; exact hK.len) fun h0 => by
    obtain rfl : i = 0 := by simpa using h0
    exact hB
  by_cases hlt : i < kk
  · obtain ⟨ke, r, ex', cap', wr, rows, hv, hrho, hgo, hrow⟩ := hA.at hok (j := i) (by rw [List.length_map]; omega); simp only [List.length_map, List.getElem_map] at hv hrow; cases hv; have hget : l[i]? = some (l[i]'(by omega)) := List.getElem?_eq_getElem (by omega); generalize l[i]'(by omega) = e at hrow hget; have hw := wrap_succ (n := i) (by omega); have hci : (i : Int) < (kk : Int) := (by omega); have hsi : i + 1 ≤ l.length := (by omega)
    obtain ⟨_, c, h1, h2, h3⟩ := hK.step hI (List.mem_of_getElem? hget)
    have hnew := keepC_succ hget cs
    have hck := (getL_mem h1).2
    simp only [go_sem, C43L0, hci, hsi, hgo, hrow, hw, Evn.enc]
    refine CL.of (f85_ok (hBi []) (by rw [hK.len]; omega) e.key) ?_
    rintro _ _ ⟨rfl, rfl⟩
    rw [h1]
    simp only [go_sem, Cell.enc, Evn.enc, hsi, hgo, hrow, hw]
    rw [← flo_yes hck]
    refine CL.of (f86_at (hBi [_]) (by rw [hK.len]; omega) h2) ?_
    rintro _ _ ⟨rfl, rfl⟩
    rw [h3, ← hnew]
    have hle : (keepC (l.take (i + 1)) cs).length = cs.length := keepC_len _ _
    simp only [go_sem, hw, hle]
    refine ⟨i + 1, by show kk - (i + 1) < kk - i; omega, ?_, _, [2], rfl, Wk.of rfl (by decide) (by simp only [go_sem, hrho, uren, outV_ren', seV, Nat.zero_lt_succ]) (by simp only [go_sem, seB, Nat.zero_lt_succ, ↓outB_ren', Cell.map_rens, implies_true])⟩
    show i + 1 ≤ kk
    omega
  · have hci : ¬ (i : Int) < (kk : Int) := by omega
    obtain rfl : i = kk := by omega
    have hdl : (l.drop i).length = l.length - i := List.length_drop ..
    by_cases h0 : l.length = 0
    · have hi0 : i = 0 := by omega
      subst hi0
      obtain rfl : l = [] := List.length_eq_zero_iff.1 h0
      rw [hvx]
      simp only [go_sem, ↓appR_hide2, C43L0, hci, outV]
      rw [appQ_none (.inl ⟨rfl, rfl⟩)]
      simp only [go_sem]
      exact ⟨_, [0, 1], by simp only [seV_ren (uren _ _), go_sem], rfl, rfl, by decide, by simp only [go_sem, seB]⟩
    · have hv : v = .slice kx 0 l.length 4 false l.length := by rw [hvx, outV_pos (by omega)]
      have q1 : i ≤ l.length := by omega
      have hA2 : ∀ L, Arr (H.ext L) 4 (.slice kx (i * 4) (l.length - i) 4 false (l.length - i)) ((l.drop i).map Evn.enc) := fun L => by
        refine Arr.ext ?_ L
        rw [hv] at hA
        rw [List.map_drop]
        exact Arr.drop_at (by decide) hA
      rw [hv]
      simp only [go_sem, ↓appR_hide2, C43L0, hci, q1]
      refine ⟨⟨Nat.le_refl _, Nat.le_refl _⟩, ?_⟩
      rw [appQ_nil (by decide) (hA2 _) (by intro e; have := congrArg List.length e; rw [List.length_map, hdl] at this; simp at this; omega) (okBig_le (by rw [List.length_map, hdl]; omega) (by decide))]
      simp only [go_sem, List.length_map]
      exact ⟨_, [0, 1], by simp only [seV_ren (uren _ _), outV_ren', go_sem, Heap.key_ext], rfl, rfl, by decide, by simp only [go_sem, ↓seB_ren, Cell.map_rens, ↓outB_ren', Evn.map_rens, implies_true]⟩
end Go.Proofs
/- Objects that a call changes: memories that aren't spelt out. -/


set_option linter.all false
set_option maxRecDepth 100000
namespace Go.Ev
variable {P : Program}
section
variable {N : Nat} {H0 H : Heap} {T : Tr AV} {Q : Ex → Tr AV → Heap → Prop}
theorem At2.sub {φ0 : Phi} {w0 u : World} {a : Act} {ts : List (K × AV)} (hts : ∀ p ∈ ts, T.get p.1 = some p.2) (h : At2 P φ0 H0 w0 N T H a u) : At2 P φ0 H0 w0 N (trOf ts) H a u := by
  obtain ⟨hd, ψ, ht, hw, he⟩ := h
  exact ⟨hd, ψ, ⟨ht.size, fun t v hv => ht.get t v (hts _ (get_trOf ts _ v hv))⟩, hw, he⟩
theorem Tri.sub {c : Code} {ts : List (K × AV)} (hts : ∀ p ∈ ts, T.get p.1 = some p.2) (h : Tri P N H0 c (trOf ts) H Q) : Tri P N H0 c T H Q :=
  fun φ0 w0 a u h0 ha => h φ0 w0 a u h0 (ha.sub hts)
theorem TriC.sub {c : CC} {ts : List (K × AV)} (hts : ∀ p ∈ ts, T.get p.1 = some p.2) (h : TriC P N H0 c (trOf ts) H Q) : TriC P N H0 c T H Q := fun code hc => (h code hc).sub hts
end
section
variable {E : FuncId → List AV → Heap → RC} {N : Nat} {H0 : Heap} {k : List It} {Q : Ex → Tr AV → Heap → Prop} {T : Tr AV} {G : Heap}
theorem WW.nil (h : WW P E N H0 k T (G.ext []) Q) : WW P E N H0 k T G Q := by rw [Heap.ext_nil] at h; exact h
end
/-- the slots that are told of -/
@[go_sem] def Slots (T : Tr AV) : List (K × AV) → Prop
  | [] => True
  | p :: ts => T.get p.1 = some p.2 ∧ Slots T ts
theorem Slots.all {T : Tr AV} : ∀ {ts : List (K × AV)}, Slots T ts → ∀ p ∈ ts, T.get p.1 = some p.2
  | [], _, p, h => by cases h
  | q :: ts, h, p, hp => by
    rcases List.mem_cons.1 hp with rfl | hp
    · exact h.1
    · exact Slots.all h.2 p hp
namespace Heap
attribute [go_sem] key_set nx_set'
@[go_sem] theorem get_key_of {B G : Heap} {l : List Blk} {i : Nat} (h : B.nx = G.nx) (hi : i < l.length) : (B.ext l).get (G.key i) = l[i]? := by
  have : G.key i = B.key i := by unfold key; rw [h]
  rw [this, get_ext_key _ _ _ hi]
@[go_sem] theorem setC_key_of {α : Type} {B G : Heap} {l : List Blk} {i : Nat} (h : B.nx = G.nx) (hi : i < l.length) (b : Blk) (c : Heap → α) : (B.ext l).setC (G.key i) b c = c (B.ext (l.set i b)) := by
  have : G.key i = B.key i := by unfold key; rw [h]
  rw [this, setC_ext _ _ _ _ _ hi]
@[go_sem] theorem get_key_set {G : Heap} {s : K} {b : Blk} {l : List Blk} {i : Nat} (hi : i < l.length) : ((G.set s b).ext l).get (G.key i) = l[i]? := get_key_of rfl hi
@[go_sem] theorem setC_key_set {α : Type} {G : Heap} {s : K} {b : Blk} {l : List Blk} {i : Nat} (hi : i < l.length) (d : Blk) (c : Heap → α) : ((G.set s b).ext l).setC (G.key i) d c = c ((G.set s b).ext (l.set i d)) := setC_key_of rfl hi d c
theorem ok_set {G : Heap} (h : G.ok) {k : K} {b c : Blk} (hk : G.get k = some c) : (G.set k b).ok := by
  intro j d hj
  rw [get_set] at hj
  split at hj
  · rename_i e; subst e; exact h k c hk
  · exact h j d hj
/-- a block that is set in a memory: what is got then -/
theorem get_set_here {G : Heap} (hok : G.ok) {k : K} {c : Blk} (hk : G.get k = some c) (b : Blk) (l : List Blk) : ((G.set k b).ext l).get k = some b := by
  rw [get_ext_lt (G.set k b) l k (show k.toNat < (G.set k b).nx.toNat from hok k c hk), get_set, if_pos rfl]
theorem get_set_there {G : Heap} (hok : G.ok) {k j : K} {d : Blk} (hj : G.get j = some d) (hne : k ≠ j) (b : Blk) (l : List Blk) : ((G.set k b).ext l).get j = some d := by
  rw [get_ext_lt (G.set k b) l j (show j.toNat < (G.set k b).nx.toNat from hok j d hj), get_set, if_neg hne, hj]
theorem setC_set_here {α : Type} {G : Heap} (hok : G.ok) {k : K} {x : Blk} (hk : G.get k = some x) (b d : Blk) (l : List Blk) (c : Heap → α) : ((G.set k b).ext l).setC k d c = c ((G.set k d).ext l) := by
  rw [setC_old (G.set k b) l k d c (show k.toNat < (G.set k b).nx.toNat from hok k x hk), set_set]
theorem setC_here {α : Type} {G : Heap} (hok : G.ok) {k : K} {x : Blk} (hk : G.get k = some x) (b : Blk) (l : List Blk) (c : Heap → α) : (G.ext l).setC k b c = c ((G.set k b).ext l) := setC_old _ l k b c (hok k x hk)
end Heap
theorem Arr.set {G : Heap} {k : K} {b : Blk} {wr : Bool} {e e' : Nat} {rows : List (List AV)} {v : AV} {xs : List (List AV)} (h : Arr G e v xs) (hk : G.get k = some (.row wr e' rows)) (he : e ≠ e') : Arr (G.set k b) e v xs := by
  rcases h with h | ⟨j, off, ex, cap, rfl, hj, h⟩
  · exact .inl h
  · refine .inr ⟨j, off, ex, cap, rfl, hj, fun hx => ?_⟩
    obtain ⟨r, wr', rows', h1, h2, h3⟩ := h hx
    refine ⟨r, wr', rows', h1, ?_, h3⟩
    rw [Heap.get_set, if_neg fun e => ?_]
    · exact h2
    · subst e; rw [hk] at h2; cases h2; exact he rfl
end Go.Ev
/- two shards that meet: the plain law; what is put together: the steps. -/


set_option linter.all false
set_option linter.all false
set_option maxRecDepth 100000
namespace Go.Proofs
open Go Go.Ev
variable {H : Heap}

section
variable {s t : Sh}
theorem lo_hi (hm : meets s t) {a b : List Nat} (ha : has s.fr s.to a) (hb : has t.fr t.to b) : ltS a b := by
  have h1 : ltS a s.to := ha.2.2.2.resolve_left hm.2.2.1
  rw [hm.2.2.2] at h1
  rcases ltS_tri t.fr b with h | h | h
  · exact ltS_trans h1 h
  · rw [← h]; exact h1
  · exact absurd h hb.2.2.1
theorem hist_two (hs : isSh s) (ht : isSh t) (hm : meets s t) : isHist (s.evs ++ t.evs) (s.cells ++ t.cells) := by
  have h1 := hs.2.2.2.2.1
  have h2 := ht.2.2.2.2.1
  refine ⟨isIdx_of (fun c hc => ?_) (List.pairwise_append.2 ⟨isIdx_pair h1.1, isIdx_pair h2.1, fun a ha b hb => lo_hi hm (hs.2.2.1 a ha) (ht.2.2.1 b hb)⟩), fun e he => ?_, fun c hc => ?_⟩
  · rcases List.mem_append.1 hc with hc | hc
    · exact isIdx_all h1.1 c hc
    · exact isIdx_all h2.1 c hc
  · rcases List.mem_append.1 he with he | he
    · obtain ⟨c, hc, hk⟩ := getL_true.1 (h1.2.1 e he).1
      exact ⟨getL_true.2 ⟨c, List.mem_append.2 (.inl hc), hk⟩, (h1.2.1 e he).2⟩
    · obtain ⟨c, hc, hk⟩ := getL_true.1 (h2.2.1 e he).1
      exact ⟨getL_true.2 ⟨c, List.mem_append.2 (.inr hc), hk⟩, (h2.2.1 e he).2⟩
  · rw [ofH_iff, runR_append]
    rcases List.mem_append.1 hc with hc | hc
    · rw [ofH_iff.1 (h1.2.2 c hc)]
      exact runR_none fun e he g => by
        have := lo_hi hm (hs.2.2.1 c hc) (ev_has ht he)
        rw [g] at this
        exact ltS_irrefl _ this
    · rw [runR_none fun e he g => by
        have := lo_hi hm (ev_has hs he) (ht.2.2.1 c hc)
        rw [g] at this
        exact ltS_irrefl _ this]
      exact ofH_iff.1 (h2.2.2 c hc)
end
theorem set_own {B G : Heap} {j : K} {c b : Blk} (hok : G.ok) (hj : G.get j = some c) (hB : ∃ L, G = B.ext L) (hl : B.nx.toNat ≤ j.toNat) : ∃ L, G.set j b = B.ext L := by
  obtain ⟨L, rfl⟩ := hB
  have h1 := hok j c hj
  rw [Heap.nx_ext, Heap.toNat_key] at h1
  have e : j = B.key (j.toNat - B.nx.toNat) := K.toNat_inj (by rw [Heap.toNat_key]; omega)
  rw [e, Heap.set_ext_key _ _ _ _ (by omega)]
  exact ⟨_, rfl⟩
theorem okBig_mono {n m b : Nat} (h : okBig m b = true) (hn : n ≤ m) : okBig n b = true := by
  unfold okBig at h ⊢
  rw [Nat.ble_eq] at h ⊢
  exact Nat.le_trans (Nat.mul_le_mul (by omega) (Nat.le_refl _)) h
section
variable {G : Heap} {e bytes : Nat} {v w : AV} {xs ys : List (List AV)}
theorem appQ_same {k : K} (hw : Arr G e w []) (n : Nat) : appQ e bytes (some (outV k e n)) (some w) G = .val (outV k e n) G := by
  cases n with
  | zero => exact appQ_none hw
  | succ n =>
    rcases hw with ⟨rfl, _⟩ | ⟨k2, off, ex, cap, rfl, hk, h⟩
    · rfl
    · rfl
theorem appQ_two {s : K} (hok : G.ok) (hpos : 0 < e) (hx : xs ≠ []) (hs : G.get s = some (.row true e xs)) (hw : Arr G e w ys) (hy : ys ≠ []) (hb : okBig (xs.length + ys.length) bytes = true) :
    appQ e bytes (some (outV s e xs.length)) (some w) G = .val (outV (G.key 0) e (xs.length + ys.length)) ((G.set s .dead).ext [.row true e (xs ++ ys)]) := by
  have hl : 0 < ys.length := List.length_pos_iff.2 hy
  have hlx : 0 < xs.length := List.length_pos_iff.2 hx
  rcases hw with ⟨rfl, rfl⟩ | ⟨k, off, ex, cap, rfl, hk, h⟩
  · exact absurd rfl hy
  · obtain ⟨r, wr, rows', rfl, hg, hrow⟩ := h hy
    have e1 : r * e % e = 0 := Nat.mul_mod_left r e
    have e2 : r * e / e = r := Nat.mul_div_cancel r hpos
    have hlen := congrArg List.length hrow
    rw [List.length_take, List.length_drop] at hlen
    have e3 : ys.length ≤ (rows'.drop r).length := by rw [List.length_drop]; omega
    have e4 : ¬ ys.length = 0 := by omega
    have e5 : ¬ xs.length + ys.length ≤ xs.length := by omega
    have hb1 : (2 * (xs.length + ys.length) + 192) * bytes ≤ 281474976710656 := by unfold okBig at hb; rwa [Nat.ble_eq] at hb
    rw [outV_pos hlx, outV_pos (by omega)]
    show appR e bytes (.c (.slice s 0 xs.length e false xs.length)) (.c (.slice k (r * e) ys.length e ex cap)) .lf G = _
    simp only [go_sem, hg, hs, e1, e2, e3, e4, e5, hrow, Nat.zero_mod, Nat.zero_div, List.take_length]
    rw [if_pos (Nat.le_refl _), if_pos hb1]
    have hG := Heap.setC_here hok hs .dead [] (fun H => H.addC (.row true e (xs ++ ys)) fun k G => R1.val (AV.slice k 0 (xs.length + ys.length) e false (xs.length + ys.length)) G)
    rw [Heap.addC_ext, Heap.ext_nil] at hG
    exact hG
theorem app_open (hok : G.ok) (hpos : 0 < e) (hv : Arr G e v xs) (hw : Arr G e w ys) (hb : okBig (xs.length + ys.length) bytes = true) :
    ∃ v1 G1 v2 G2, appQ e bytes (some .nils) (some v) G = .val v1 (Heap.ext G1 []) ∧ appQ e bytes (some v1) (some w) (Heap.ext G1 []) = .val v2 (Heap.ext G2 []) ∧ Heap.ok G1 ∧ Heap.ok G2 ∧ (∃ L, G1 = G.ext L) ∧ (∃ L, G2 = G.ext L) ∧ ∃ kx, v2 = outV kx e (xs ++ ys).length ∧ Arr G2 e v2 (xs ++ ys) := by
  simp only [Heap.ext_nil]
  by_cases hx : xs = []
  · subst hx
    have h1 := appQ_none (esz := e) (bytes := bytes) hv
    by_cases hy : ys = []
    · subst hy
      exact ⟨.nils, G, .nils, G, h1, appQ_none hw, hok, hok, ⟨[], (Heap.ext_nil G).symm⟩, ⟨[], (Heap.ext_nil G).symm⟩, .z, rfl, .inl ⟨rfl, rfl⟩⟩
    · exact ⟨.nils, G, _, _, h1, appQ_nil hpos hw hy (okBig_mono hb (by omega)), hok, Heap.ok_ext hok _, ⟨[], (Heap.ext_nil G).symm⟩, ⟨_, rfl⟩, G.key 0, rfl, arr_outV (H := G) rfl rfl⟩
  · have h1 := appQ_nil (bytes := bytes) hpos hv hx (okBig_mono hb (by omega))
    have hok1 := Heap.ok_ext hok [outB e xs]
    by_cases hy : ys = []
    · subst hy
      refine ⟨_, _, _, _, h1, appQ_same (hw.ext _) _, hok1, hok1, ⟨_, rfl⟩, ⟨_, rfl⟩, G.key 0, by rw [List.append_nil], ?_⟩
      rw [List.append_nil]
      exact arr_outV (H := G) rfl rfl
    · have hs : (G.ext [outB e xs]).get (G.key 0) = some (.row true e xs) := by
        rw [outB_pos (List.length_pos_iff.2 hx)]; exact get_first [] []
      have h2 := appQ_two hok1 hpos hx hs (hw.ext _) hy hb
      have e3 : ((G.ext [outB e xs]).set (G.key 0) .dead).ext [.row true e (xs ++ ys)] = G.ext [.dead, .row true e (xs ++ ys)] := by
        rw [Heap.set_ext_key _ _ _ _ (Nat.zero_lt_succ _), Heap.ext_append]; rfl
      rw [e3] at h2
      refine ⟨_, _, _, _, h1, h2, hok1, Heap.ok_ext hok _, ⟨_, rfl⟩, ⟨_, rfl⟩, _, by rw [List.length_append], ?_⟩
      rw [Heap.key_ext]
      exact arr_outV (H := G) (i := 1) (by rw [outB_pos (by rw [List.length_append]; have := List.length_pos_iff.2 hx; omega)]; rfl) (List.length_append ..)
end
end Go.Proofs
