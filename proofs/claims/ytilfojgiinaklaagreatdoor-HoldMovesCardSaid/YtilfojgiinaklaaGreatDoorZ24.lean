/- an answer without rows taken of bytes: walked. -/
import Derived.Test.YtilfojgiinaklaaGreatDoorZ23
set_option linter.all false
set_option linter.all false
set_option maxRecDepth 100000
namespace Go.Proofs
open Go Go.Ev
variable {H : Heap}

theorem ansT_app {code : Int} {val : List Nat} {ver : Int} (h : isAns (bareA code val ver)) (l : List Nat) : ansT (bareA code val ver) ++ l = numT code.toNat ++ (textT val ++ (numT ver.toNat ++ (numT 0 ++ l))) := by
  rw [ansT_bare h]
  simp only [List.append_assoc]
theorem f201_ok {code : Int} {val : List Nat} {ver : Int} (h : isAns (bareA code val ver)) {l : List Nat} (hl : l.length < 800000) :
    FnOk Tryz.prog 201 [.str (ansT (bareA code val ver) ++ l)] H fun r G => r = .tup [.agg [.int .i64 code, .str val, .int .i64 ver, .nils], .str l, .nili] ∧ G = H := by
  refine FnOk.assume fun hok => ?_
  refine FnOk.drop (R := fun r => r = .tup [.agg [.int .i64 code, .str val, .int .i64 ver, .nils], .str l, .nili]) ?_ (by rintro v rfl ρ; simp only [AV.ren, AV.rens])
  refine FnOk.of_WW Tryz.func201 rfl C201ok R201ok E0 good_E0 ?_
  rw [ansT_app h]
  obtain ⟨⟨b1, b2, b3, b4, b5⟩, -, -⟩ := h
  simp only [bareA] at b1 b2 b3 b4 b5
  have n2 := txt266 (s := val) (by omega)
  have n3 := num11 (n := ver) (by omega) (by omega)
  have n4 : (numT 0).length ≤ 11 := numT_small (by decide)
  have t1 : (code.toNat : Int) = code := Int.toNat_of_nonneg b1
  have t3 : (ver.toNat : Int) = ver := Int.toNat_of_nonneg b3
  simp only [go_sem, C201]
  refine CL.of (f122_ok (n := code.toNat) (by omega) (l := textT val ++ (numT ver.toNat ++ (numT 0 ++ l))) (by simp only [List.length_append]; omega) (get_lit rfl)) ?_
  rintro _ G' ⟨rfl, hG⟩; rw [Heap.set_ext_key _ _ _ _ (by simp only [List.length_cons, List.length_nil]; decide)] at hG; rw [hG]; clear hG
  simp only [go_sem, t1]
  refine CL.of (f123_ok (s := val) (by omega) (l := numT ver.toNat ++ (numT 0 ++ l)) (by simp only [List.length_append]; omega) (get_lit rfl)) ?_
  rintro _ G' ⟨rfl, hG⟩; rw [Heap.set_ext_key _ _ _ _ (by simp only [List.length_cons, List.length_nil]; decide)] at hG; rw [hG]; clear hG
  simp only [go_sem]
  refine CL.of (f122_ok (n := ver.toNat) (by omega) (l := numT 0 ++ l) (by simp only [List.length_append]; omega) (get_lit rfl)) ?_
  rintro _ G' ⟨rfl, hG⟩; rw [Heap.set_ext_key _ _ _ _ (by simp only [List.length_cons, List.length_nil]; decide)] at hG; rw [hG]; clear hG
  simp only [go_sem, t3]
  refine CL.of (f124_zero (l := l) (by omega) (get_lit rfl)) ?_
  rintro _ G' ⟨rfl, hG⟩; rw [Heap.set_ext_key _ _ _ _ (by simp only [List.length_cons, List.length_nil]; decide)] at hG; rw [hG]; clear hG
  simp only [go_sem]
  refine LL.st good_E0 (fun _ : Nat => 0) (fun _ => True) (fun _ => [((.i .z), .ptr (H.key 0) 0), ((.o (.i .z)), .ptr (H.key 1) 0), ((.i (.i .z)), .ptr (H.key 2) 0), ((.i (.i (.o (.o .z)))), .int .i64 0), ((.o (.o (.i (.o .z)))), .int .i64 0)])
    (fun _ => [.row true 4 [[.int .i64 0, .str [], .int .i64 0, .nils]], .row true 2 [[.str l, .nili]], .row true 4 [[.int .i64 code, .str val, .int .i64 ver, .nils]]]) ?_ 0 (σ := [0, 1, 2]) (Wk.of rfl (by decide) (by simp only [go_sem]; first | done | rfl | trace_state) (by simp only [go_sem]; first | done | rfl | trace_state)) trivial
  rintro _ _
  simp only [go_sem]
  exact ⟨_, rfl⟩
theorem tk_ren (l : List Nat) (ρ : K → K) : Blk.ren ρ (.row true 2 [[.str l, .nili]]) = .row true 2 [[.str l, .nili]] := by
  simp only [Blk.ren, List.map_cons, List.map_nil, AV.rens, AV.ren]
theorem f165_ok {k : K} {code : Int} {val : List Nat} {ver : Int} (h : isAns (bareA code val ver)) {l : List Nat} (hl : l.length < 800000) (hk : H.get k = some (.row true 2 [[.str (ansT (bareA code val ver) ++ l), .nili]])) :
    FnOk Tryz.prog 165 [.ptr k 0] H fun r G => r = .agg [.int .i64 code, .str val, .int .i64 ver, .nils] ∧ G = H.set k (.row true 2 [[.str l, .nili]]) := by
  refine FnOk.assume fun hok => ?_
  refine FnOk.dropK (R := fun r => r = .agg [.int .i64 code, .str val, .int .i64 ver, .nils]) hk (tk_ren l) ?_ (by rintro v rfl ρ; simp only [AV.ren, AV.rens])
  refine FnOk.of_WW Tryz.func165 rfl C165ok R165ok E0 good_E0 ?_
  have g := fun L => Heap.get_ext_old hok hk L
  simp only [go_sem, C165, g]
  refine CL.of (f201_ok h hl) ?_
  rintro _ G' ⟨rfl, hG⟩; rw [hG]; clear hG
  simp only [go_sem]
  refine CL.of (f200_ok (Heap.get_ext_old hok hk _) l) ?_
  rintro _ G' ⟨rfl, hG⟩
  rw [Heap.set_ext_old _ _ _ _ (hok k _ hk)] at hG
  rw [hG]
  clear hG
  simp only [go_sem]
  exact ⟨_, rfl⟩
end Go.Proofs
/- what bytes begin with is told in one way; pieces taken, as told beforehand. -/

set_option linter.all false
set_option linter.all false
set_option maxRecDepth 100000
namespace Go.Proofs
open Go Go.Ev
variable {H : Heap}

theorem numT_pre : ∀ (n m : Nat) (l r : List Nat), numT n ++ l = numT m ++ r → n = m ∧ l = r := by
  intro n
  induction n using Nat.strongRecOn with
  | _ n ih =>
    intro m l r h
    by_cases hn : n < 64
    · by_cases hm : m < 64
      · rw [numT_lo hn, numT_lo hm] at h
        have := List.cons.inj h
        exact ⟨this.1, this.2⟩
      · rw [numT_lo hn, numT_hi hm] at h
        have := (List.cons.inj h).1
        omega
    · by_cases hm : m < 64
      · rw [numT_hi hn, numT_lo hm] at h
        have := (List.cons.inj h).1
        omega
      · rw [numT_hi hn, numT_hi hm] at h
        obtain ⟨h1, h2⟩ := List.cons.inj h
        obtain ⟨h3, h4⟩ := ih (n / 64) (by omega) (m / 64) l r h2
        exact ⟨by omega, h4⟩
theorem textT_pre {a b l r : List Nat} (h : textT a ++ l = textT b ++ r) : a = b ∧ l = r := by
  rw [textT_app, textT_app] at h
  obtain ⟨h1, h2⟩ := numT_pre _ _ _ _ h
  exact List.append_inj h2 h1
theorem ansT_pre {c c' : Int} {v v' : List Nat} {n n' : Int} {l r : List Nat} (h : isAns (bareA c v n)) (h' : isAns (bareA c' v' n')) (e : ansT (bareA c v n) ++ l = ansT (bareA c' v' n') ++ r) : c = c' ∧ v = v' ∧ n = n' ∧ l = r := by
  rw [ansT_app h, ansT_app h'] at e
  obtain ⟨e1, e⟩ := numT_pre _ _ _ _ e
  obtain ⟨e2, e⟩ := textT_pre e
  obtain ⟨e3, e⟩ := numT_pre _ _ _ _ e
  obtain ⟨-, e⟩ := numT_pre _ _ _ _ e
  obtain ⟨⟨b1, b2, b3, b4, b5⟩, -, -⟩ := h
  obtain ⟨⟨d1, d2, d3, d4, d5⟩, -, -⟩ := h'
  simp only [bareA] at b1 b3 d1 d3
  exact ⟨by omega, e2, by omega, e⟩
def okN (s : List Nat) (p : Nat × List Nat) : Prop := s = numT p.1 ++ p.2 ∧ p.1 < 281474976710656 ∧ p.2.length < 1000000
def okT (s : List Nat) (p : List Nat × List Nat) : Prop := s = textT p.1 ++ p.2 ∧ (p.1.length : Int) ≤ 255 ∧ p.2.length < 900000
def okA (s : List Nat) (p : (Int × List Nat × Int) × List Nat) : Prop := s = ansT (bareA p.1.1 p.1.2.1 p.1.2.2) ++ p.2 ∧ isAns (bareA p.1.1 p.1.2.1 p.1.2.2) ∧ p.2.length < 800000
def okB (s : List Nat) (p : Bool × List Nat) : Prop := s = p.1.toNat :: p.2 ∧ p.2.length < 1000000
open Classical in
noncomputable def dec {α : Type} (ok : α → Prop) (c : α → RC) : RC := if h : ∃ p, ok p then c h.choose else .fail
theorem dec_eq {α : Type} {ok : α → Prop} {p : α} (h : ok p) (hu : ∀ q, ok q → q = p) (c : α → RC) : dec ok c = c p := by
  have hx : ∃ p, ok p := ⟨p, h⟩
  unfold dec
  rw [dif_pos hx, hu _ hx.choose_spec]
theorem dec_ok {α : Type} {ok : α → Prop} {c : α → RC} {v : AV} {G : Heap} (h : dec ok c = .ok v G) : ∃ p, ok p ∧ c p = .ok v G := by
  unfold dec at h
  split at h
  · rename_i hx
    exact ⟨_, hx.choose_spec, h⟩
  · cases h
/-- pieces of bytes -/
noncomputable def ETk (f : FuncId) (args : List AV) (H : Heap) : RC :=
  match args with
  | [.ptr k 0] => match H.get k with
    | some (.row true 2 [[.str s, .nili]]) => match f with
      | 161 => dec (okN s) fun p => .ok (.int .i64 (p.1 : Int)) (H.set k (.row true 2 [[.str p.2, .nili]]))
      | 162 => dec (okT s) fun p => .ok (.str p.1) (H.set k (.row true 2 [[.str p.2, .nili]]))
      | 163 => dec (okB s) fun p => .ok (.bool p.1) (H.set k (.row true 2 [[.str p.2, .nili]]))
      | 165 => dec (okA s) fun p => .ok (.agg [.int .i64 p.1.1, .str p.1.2.1, .int .i64 p.1.2.2, .nils]) (H.set k (.row true 2 [[.str p.2, .nili]]))
      | _ => .fail
    | _ => .fail
  | _ => .fail
theorem good_ETk : Ev.Good Tryz.prog ETk := by
  intro f args H r G he φ w args' ha hw
  refine (?_ : FnOk Tryz.prog f args H fun v' G' => v' = r ∧ G' = G).one φ w args' ha hw
  unfold ETk at he
  split at he
  · split at he
    · rename_i hk
      split at he
      · obtain ⟨p, ⟨rfl, h1, h2⟩, he2⟩ := dec_ok he
        cases he2; exact f161_ok h1 h2 hk
      · obtain ⟨p, ⟨rfl, h1, h2⟩, he2⟩ := dec_ok he
        cases he2; exact f162_ok h1 h2 hk
      · obtain ⟨p, ⟨rfl, h1⟩, he2⟩ := dec_ok he
        cases he2; exact f163_ok _ h1 hk
      · obtain ⟨p, ⟨rfl, h1, h2⟩, he2⟩ := dec_ok he
        cases he2; exact f165_ok h1 h2 hk
      · cases he
    · cases he
  · cases he
section
variable {k : K} {l : List Nat}
theorem et161 {n : Nat} (hn : n < 281474976710656) (hl : l.length < 1000000) (hk : H.get k = some (.row true 2 [[.str (numT n ++ l), .nili]])) : ETk 161 [.ptr k 0] H = .ok (.int .i64 (n : Int)) (H.set k (.row true 2 [[.str l, .nili]])) := by
  have e := dec_eq (ok := okN (numT n ++ l)) (p := (n, l)) ⟨rfl, hn, hl⟩ (fun q hq => by
    obtain ⟨h1, h2⟩ := numT_pre _ _ _ _ hq.1
    exact Prod.ext h1.symm h2.symm) fun p => .ok (.int .i64 (p.1 : Int)) (H.set k (.row true 2 [[.str p.2, .nili]]))
  rw [← e]
  unfold ETk
  simp only [hk]
theorem et162 {s : List Nat} (hs : (s.length : Int) ≤ 255) (hl : l.length < 900000) (hk : H.get k = some (.row true 2 [[.str (textT s ++ l), .nili]])) : ETk 162 [.ptr k 0] H = .ok (.str s) (H.set k (.row true 2 [[.str l, .nili]])) := by
  have e := dec_eq (ok := okT (textT s ++ l)) (p := (s, l)) ⟨rfl, hs, hl⟩ (fun q hq => by
    obtain ⟨h1, h2⟩ := textT_pre hq.1
    exact Prod.ext h1.symm h2.symm) fun p => .ok (.str p.1) (H.set k (.row true 2 [[.str p.2, .nili]]))
  rw [← e]
  unfold ETk
  simp only [hk]
theorem et163 {b : Bool} (hl : l.length < 1000000) (hk : H.get k = some (.row true 2 [[.str (b.toNat :: l), .nili]])) : ETk 163 [.ptr k 0] H = .ok (.bool b) (H.set k (.row true 2 [[.str l, .nili]])) := by
  have e := dec_eq (ok := okB (b.toNat :: l)) (p := (b, l)) ⟨rfl, hl⟩ (fun q hq => by
    obtain ⟨h1, h2⟩ := List.cons.inj hq.1
    exact Prod.ext (by revert h1; cases b <;> cases q.1 <;> simp) h2.symm) fun p => .ok (.bool p.1) (H.set k (.row true 2 [[.str p.2, .nili]]))
  rw [← e]
  unfold ETk
  simp only [hk]
theorem et165 {code : Int} {val : List Nat} {ver : Int} (h : isAns (bareA code val ver)) (hl : l.length < 800000) (hk : H.get k = some (.row true 2 [[.str (ansT (bareA code val ver) ++ l), .nili]])) : ETk 165 [.ptr k 0] H = .ok (.agg [.int .i64 code, .str val, .int .i64 ver, .nils]) (H.set k (.row true 2 [[.str l, .nili]])) := by
  have e := dec_eq (ok := okA (ansT (bareA code val ver) ++ l)) (p := ((code, val, ver), l)) ⟨rfl, h, hl⟩ (fun q hq => by
    obtain ⟨h1, h2, h3, h4⟩ := ansT_pre h hq.2.1 hq.1
    obtain ⟨⟨a, b, c⟩, d⟩ := q
    simp only at h1 h2 h3 h4
    subst h1 h2 h3 h4
    rfl) fun p => .ok (.agg [.int .i64 p.1.1, .str p.1.2.1, .int .i64 p.1.2.2, .nils]) (H.set k (.row true 2 [[.str p.2, .nili]]))
  rw [← e]
  unfold ETk
  simp only [hk]
end
end Go.Proofs
/- a shard taken of its bytes: walked. -/

set_option linter.all false
set_option linter.all false
set_option maxRecDepth 100000
namespace Go.Proofs
open Go Go.Ev
variable {H : Heap}

section
variable {k : K} {l : List Nat} {c : Blk}
theorem setK (hok : H.ok) (hk : H.get k = some c) (b d : Blk) (L : List Blk) : ((H.set k b).ext L).set k d = (H.set k d).ext L := by
  rw [Heap.set_ext_old L (H.set k b) k d (by exact hok k _ hk), Heap.set_set]
theorem et161K (hok : H.ok) (hk : H.get k = some c) {n : Nat} (hn : n < 281474976710656) (hl : l.length < 1000000) (L : List Blk) : ETk 161 [.ptr k 0] ((H.set k (.row true 2 [[.str (numT n ++ l), .nili]])).ext L) = .ok (.int .i64 (n : Int)) ((H.set k (.row true 2 [[.str l, .nili]])).ext L) := by
  rw [et161 hn hl (Heap.get_set_here hok hk _ _), setK hok hk]
theorem et162K (hok : H.ok) (hk : H.get k = some c) {s : List Nat} (hs : (s.length : Int) ≤ 255) (hl : l.length < 900000) (L : List Blk) : ETk 162 [.ptr k 0] ((H.set k (.row true 2 [[.str (textT s ++ l), .nili]])).ext L) = .ok (.str s) ((H.set k (.row true 2 [[.str l, .nili]])).ext L) := by
  rw [et162 hs hl (Heap.get_set_here hok hk _ _), setK hok hk]
theorem et163K (hok : H.ok) (hk : H.get k = some c) (b : Bool) (hl : l.length < 1000000) (L : List Blk) : ETk 163 [.ptr k 0] ((H.set k (.row true 2 [[.str (b.toNat :: l), .nili]])).ext L) = .ok (.bool b) ((H.set k (.row true 2 [[.str l, .nili]])).ext L) := by
  rw [et163 hl (Heap.get_set_here hok hk _ _), setK hok hk]
theorem et165K (hok : H.ok) (hk : H.get k = some c) {code : Int} {val : List Nat} {ver : Int} (h : isAns (bareA code val ver)) (hl : l.length < 800000) (L : List Blk) : ETk 165 [.ptr k 0] ((H.set k (.row true 2 [[.str (ansT (bareA code val ver) ++ l), .nili]])).ext L) = .ok (.agg [.int .i64 code, .str val, .int .i64 ver, .nils]) ((H.set k (.row true 2 [[.str l, .nili]])).ext L) := by
  rw [et165 h hl (Heap.get_set_here hok hk _ _), setK hok hk]
end
/-- what is left of a list's bytes -/
def flT {α : Type} (f : α → List Nat) (l : List α) : List Nat := (l.map f).flatten
theorem flT_drop {α : Type} (f : α → List Nat) {l : List α} {i : Nat} {c : α} (h : l[i]? = some c) : flT f (l.drop i) = f c ++ flT f (l.drop (i + 1)) := by
  obtain ⟨h1, h2⟩ := List.getElem?_eq_some_iff.1 h
  rw [List.drop_eq_getElem_cons h1, h2]
  rfl
theorem flT_all {α : Type} (f : α → List Nat) (l : List α) : allT f l l.length = flT f l := by
  unfold allT flT
  rw [List.take_length]
theorem flT_end {α : Type} (f : α → List Nat) (l : List α) : flT f (l.drop l.length) = [] := by
  rw [List.drop_length]
  rfl
theorem cellT_app (c : Cell) (l : List Nat) : cellT c ++ l = textT c.key ++ (textT c.value ++ (numT c.ver.toNat ++ (c.del.toNat :: (numT c.floor.toNat ++ l)))) := by
  unfold cellT
  simp only [List.append_assoc, List.cons_append, List.nil_append]
theorem evT_app (c : Evn) (l : List Nat) : evT c ++ l = textT c.key ++ (numT c.ver.toNat ++ (textT c.val ++ (c.del.toNat :: l))) := by
  unfold evT
  simp only [List.append_assoc, List.cons_append, List.nil_append]
theorem dnT_app (d : Dn) (l : List Nat) : dnT d ++ l = numT d.ses.toNat ++ (numT d.id.toNat ++ (ansT d.an ++ l)) := by
  unfold dnT
  simp only [List.append_assoc]
noncomputable def r2 (s : Sh) : List Nat := numT s.done.length ++ flT dnT s.done
noncomputable def r1 (s : Sh) : List Nat := numT s.evs.length ++ (flT evT s.evs ++ r2 s)
theorem imgT_app (s : Sh) : imgT s = numT s.id.toNat ++ (numT s.ep.toNat ++ (textT s.fr ++ (textT s.to ++ (s.frz.toNat :: (numT s.cells.length ++ (flT cellT s.cells ++ r1 s)))))) := by
  unfold imgT topT r1 r2
  rw [flT_all, flT_all, flT_all]
  simp only [List.append_assoc, List.cons_append, List.nil_append]
theorem flT_le {α : Type} (f : α → List Nat) (i : Nat) (l : List α) : (flT f (l.drop i)).length ≤ (flT f l).length := by
  have : flT f l = flT f (l.take i) ++ flT f (l.drop i) := by
    unfold flT
    rw [← List.flatten_append, ← List.map_append, List.take_append_drop]
  rw [this, List.length_append]
  omega
theorem flT_count {α : Type} (f : α → List Nat) (hf : ∀ c, 0 < (f c).length) (l : List α) : l.length ≤ (flT f l).length := by
  induction l with
  | nil => exact Nat.zero_le _
  | cons c l ih =>
    have := hf c
    show l.length + 1 ≤ (f c ++ flT f l).length
    rw [List.length_append]
    omega
theorem cellT_pos (c : Cell) : 0 < (cellT c).length := by
  unfold cellT
  simp only [List.length_append, List.length_cons, List.length_nil]
  omega
theorem evT_pos (c : Evn) : 0 < (evT c).length := by
  unfold evT
  simp only [List.length_append, List.length_cons, List.length_nil]
  omega
theorem dnT_pos (c : Dn) : 0 < (dnT c).length := by
  unfold dnT
  have := numT_pos c.ses.toNat
  simp only [List.length_append]
  omega
end Go.Proofs
/- image.taker.shard: walked. -/

set_option linter.all false
set_option linter.all false
set_option maxRecDepth 100000
namespace Go.Proofs
open Go Go.Ev
variable {H : Heap}

theorem f127_ok {k : K} {s : Sh} (hs : isSh s) (hsm : smallS s) (hL : (imgT s).length < 200001) (hk : H.get k = some (.row true 2 [[.str (imgT s), .nili]])) :
    FnOk Tryz.prog 127 [.ptr k 0] H fun r G => (∃ cv ev dv, r = .agg [.int .i64 s.id, .int .i64 s.ep, .str s.fr, .str s.to, .bool s.frz, cv, ev, dv] ∧ (⟨s.id, s.ep, s.fr, s.to, s.frz, s.cells, s.evs, s.done, cv, ev, dv⟩ : Sh).ok G) ∧ ∃ L, G = (H.set k (.row true 2 [[.str [], .nili]])).ext L := by
  refine FnOk.assume fun hok => ?_
  refine FnOk.of_WW Tryz.func127 rfl C127ok R127ok ETk good_ETk ?_
  have hlt := hok k _ hk
  have g0 := fun L => Heap.get_ext_old hok hk L
  have hrk := fun top σ => rho_old (H := H) (top := top) (σ := σ) hlt
  have gK := fun b L => Heap.get_set_here hok hk b L
  have sK := fun b d L => setK hok hk b d L
  have e161 := fun {n l} hn hl L => et161K hok hk (n := n) (l := l) hn hl L
  have e162 := fun {s l} hn hl L => et162K hok hk (s := s) (l := l) hn hl L
  have e163 := fun b {l} hl L => et163K hok hk (l := l) b hl L
  have e165 := fun {c v n l} hn hl L => et165K hok hk (code := c) (val := v) (ver := n) (l := l) hn hl L
  obtain ⟨⟨a1, a2, a3, a4⟩, ⟨b1, b2, _⟩, _, _, hh, hdn⟩ := id hs
  have t1 : (s.id.toNat : Int) = s.id := Int.toNat_of_nonneg (by omega)
  have t2 : (s.ep.toNat : Int) = s.ep := Int.toNat_of_nonneg (by omega)
  have hI := imgT_app s
  rw [hI] at hL
  simp only [List.length_append, List.length_cons] at hL
  have hcc := flT_count cellT cellT_pos s.cells
  have hec := flT_count evT evT_pos s.evs
  have hdc := flT_count dnT dnT_pos s.done
  have hr1 : (r1 s).length = (numT s.evs.length).length + ((flT evT s.evs).length + (r2 s).length) := by unfold r1; rw [List.length_append, List.length_append]
  have hr2 : (r2 s).length = (numT s.done.length).length + (flT dnT s.done).length := by unfold r2; rw [List.length_append]
  rw [hI] at hk
  simp only [go_sem, C127]
  refine CL.of (f161_ok (n := s.id.toNat) (by omega) (l := _) (by simp only [List.length_append, List.length_cons]; omega) (Heap.get_ext_old hok hk _)) ?_
  rintro _ G' ⟨rfl, hG⟩
  rw [Heap.set_ext_old _ _ _ _ hlt] at hG
  rw [hG]
  clear hG
  simp only [go_sem, t1]
  refine CL.of (f161_ok (n := s.ep.toNat) (by omega) (l := _) (by simp only [List.length_append, List.length_cons]; omega) (gK _ _)) ?_
  rintro _ G' ⟨rfl, hG⟩
  rw [sK] at hG
  rw [hG]
  clear hG
  simp only [go_sem, t2]
  refine CL.of (f162_ok (s := s.fr) (by omega) (l := _) (by simp only [List.length_append, List.length_cons]; omega) (gK _ _)) ?_
  rintro _ G' ⟨rfl, hG⟩
  rw [sK] at hG
  rw [hG]
  clear hG
  simp only [go_sem]
  refine CL.of (f162_ok (s := s.to) (by omega) (l := _) (by simp only [List.length_append, List.length_cons]; omega) (gK _ _)) ?_
  rintro _ G' ⟨rfl, hG⟩
  rw [sK] at hG
  rw [hG]
  clear hG
  simp only [go_sem]
  refine CL.of (f163_ok s.frz (l := _) (by simp only [List.length_append, List.length_cons]; omega) (gK _ _)) ?_
  rintro _ G' ⟨rfl, hG⟩
  rw [sK] at hG
  rw [hG]
  clear hG
  simp only [go_sem]
  refine CL.of (f164_ok (n := s.cells.length) (by omega) (l := _) (by simp only [List.length_append, List.length_cons]; omega) (by simp only [List.length_append]; omega) (gK _ _)) ?_
  rintro _ G' ⟨rfl, hG⟩
  rw [sK] at hG
  rw [hG]
  clear hG
  simp only [go_sem]
  refine LL.stK good_ETk hk (fun i : Nat => s.cells.length - i) (fun i => i ≤ s.cells.length) (fun i => [(.z, .ptr k 0), ((.i .z), .ptr (H.key 0) 0), ((.o (.o .z)), .ptr (H.key 1) 0), ((.o (.i (.o (.o .z)))), .int .i64 s.cells.length), ((.i (.i (.o (.o .z)))), .int .i64 i)])
    (fun i => .row true 2 [[.str (flT cellT (s.cells.drop i) ++ r1 s), .nili]]) (fun i ρ => tk_ren _ ρ)
    (fun i => [.row true 8 [[.int .i64 0, .int .i64 0, .str [], .str [], .bool false, .nils, .nils, .nils]], .row true 8 [[.int .i64 s.id, .int .i64 s.ep, .str s.fr, .str s.to, .bool s.frz, outV (H.key 2) 5 i, .nils, .nils]], outB 5 ((s.cells.take i).map Cell.enc)]) ?_ 0 (σ := [0, 1, 2]) (Wk.of rfl (by decide) (by simp only [go_sem, hrk]; first | done | rfl | trace_state) (by simp only [go_sem, outB_nil]; first | done | rfl | trace_state)) (Nat.zero_le _)
  rintro i hi
  have hfl := flT_le cellT (i + 1) s.cells
  by_cases hlt2 : i < s.cells.length
  · have hget : s.cells[i]? = some s.cells[i] := List.getElem?_eq_getElem hlt2
    have hci : (i : Int) < (s.cells.length : Int) := by omega
    have hw := wrap_succ (n := i) (by omega)
    have htk : (s.cells.take (i + 1)).map Cell.enc = (s.cells.take i).map Cell.enc ++ [s.cells[i].enc] := by rw [List.take_add_one, hget, List.map_append]; rfl
    obtain ⟨⟨⟨_, c1⟩, c2, _, c3, c4⟩, c5, c6⟩ := hh.1.cell (List.mem_of_getElem? hget)
    generalize s.cells[i] = c at hget htk c1 c2 c3 c4 c5 c6
    have hnx : flT cellT (s.cells.drop i) ++ r1 s = textT c.key ++ (textT c.value ++ (numT c.ver.toNat ++ (c.del.toNat :: (numT c.floor.toNat ++ (flT cellT (s.cells.drop (i + 1)) ++ r1 s))))) := by rw [flT_drop cellT hget, List.append_assoc, cellT_app]
    have hRl : (flT cellT (s.cells.drop (i + 1)) ++ r1 s).length < 200001 := by rw [List.length_append]; omega
    obtain ⟨R, hR⟩ : ∃ R, R = flT cellT (s.cells.drop (i + 1)) ++ r1 s := ⟨_, rfl⟩
    rw [← hR] at hnx hRl
    have k2 := txt266 (s := c.value) (by omega)
    have k3 := num11 (n := c.ver) (by omega) (by omega)
    have k4 := num11 (n := c.floor) (by omega) (by omega)
    have y1 := e162 (s := c.key) (l := textT c.value ++ (numT c.ver.toNat ++ (c.del.toNat :: (numT c.floor.toNat ++ R)))) (by omega) (by simp only [List.length_append, List.length_cons]; omega)
    have y2 := e162 (s := c.value) (l := numT c.ver.toNat ++ (c.del.toNat :: (numT c.floor.toNat ++ R))) (by omega) (by simp only [List.length_append, List.length_cons]; omega)
    have y3 := e161 (n := c.ver.toNat) (l := c.del.toNat :: (numT c.floor.toNat ++ R)) (by omega) (by simp only [List.length_append, List.length_cons]; omega)
    have y4 := e163 c.del (l := numT c.floor.toNat ++ R) (by simp only [List.length_append]; omega)
    have y5 := e161 (n := c.floor.toNat) (l := R) (by omega) (by omega)
    have u1 : (c.ver.toNat : Int) = c.ver := Int.toNat_of_nonneg (by omega)
    have u2 : (c.floor.toNat : Int) = c.floor := Int.toNat_of_nonneg (by omega)
    have A := appQ_out (H := H.set k (.row true 2 [[.str R, .nili]])) (bytes := 56) (esz := 5) (i := 2) (j := 3) (n := i) (xs := (s.cells.take i).map Cell.enc) (y := [.str c.key, .str c.value, .int .i64 c.ver, .bool c.del, .int .i64 c.floor]) (wr := true) (ex := true) (cap := 1)
      (L := [.row true 8 [[.int .i64 0, .int .i64 0, .str [], .str [], .bool false, .nils, .nils, .nils]], .row true 8 [[.int .i64 s.id, .int .i64 s.ep, .str s.fr, .str s.to, .bool s.frz, outV (H.key 2) 5 i, .nils, .nils]], outB 5 ((s.cells.take i).map Cell.enc), .row true 5 [[.str c.key, .str c.value, .int .i64 c.ver, .bool c.del, .int .i64 c.floor]]]) rfl (by rw [List.length_map, List.length_take]; omega) rfl (okBig_le (by omega) (by decide))
    simp only [Heap.key_set] at A
    have htk2 : (s.cells.take (i + 1)).map Cell.enc = (s.cells.take i).map Cell.enc ++ [[.str c.key, .str c.value, .int .i64 c.ver, .bool c.del, .int .i64 c.floor]] := htk
    have hob : ∀ ρ, Blk.ren ρ (outB 5 ((s.cells.take i).map Cell.enc ++ [[.str c.key, .str c.value, .int .i64 c.ver, .bool c.del, .int .i64 c.floor]])) = outB 5 ((s.cells.take i).map Cell.enc ++ [[.str c.key, .str c.value, .int .i64 c.ver, .bool c.del, .int .i64 c.floor]]) := fun ρ => outB_ren' ρ (by rw [← htk2]; exact Cell.map_rens ρ _)
    have hsi : i + 1 ≤ s.cells.length := by omega
    simp only [go_sem, hci, hnx, y1, y2, y3, y4, y5, u1, u2, ↓appR_hide, A, hw, hsi]
    subst hR
    exact ⟨i + 1, by show s.cells.length - (i + 1) < s.cells.length - i; omega, hsi, _, [0, 1, 4], rfl, Wk.of rfl (by decide) (by simp only [go_sem, hrk, hw]; first | done | rfl | trace_state) (by simp only [go_sem, htk2, outV_ren', ↓hob, implies_true]; first | done | rfl | trace_state)⟩
  · have hci : ¬ (i : Int) < (s.cells.length : Int) := by omega
    obtain rfl : i = s.cells.length := by omega
    have he0 : flT cellT (s.cells.drop s.cells.length) ++ r1 s = numT s.evs.length ++ (flT evT s.evs ++ r2 s) := by rw [flT_end]; rfl
    have htk : s.cells.take s.cells.length = s.cells := List.take_length
    simp only [go_sem, hci, he0, htk]
    refine CL.of (f164_ok (n := s.evs.length) (by omega) (l := _) (by simp only [List.length_append, List.length_cons]; omega) (by simp only [List.length_append]; omega) (gK _ _)) ?_
    rintro _ G' ⟨rfl, hG⟩
    rw [sK] at hG
    rw [hG]
    clear hG
    simp only [go_sem]
    have hcb : ∀ ρ, Blk.ren ρ (outB 5 (s.cells.map Cell.enc)) = outB 5 (s.cells.map Cell.enc) := fun ρ => outB_ren' ρ (Cell.map_rens ρ _)
    refine LL.stK good_ETk hk (fun i : Nat => s.evs.length - i) (fun i => i ≤ s.evs.length) (fun i => [(.z, .ptr k 0), ((.i .z), .ptr (H.key 0) 0), ((.o (.o .z)), .ptr (H.key 1) 0), ((.i (.i (.i (.o (.o .z))))), .int .i64 s.evs.length), ((.o (.o (.o (.i (.o .z))))), .int .i64 i)])
      (fun i => .row true 2 [[.str (flT evT (s.evs.drop i) ++ r2 s), .nili]]) (fun i ρ => tk_ren _ ρ)
      (fun i => [.row true 8 [[.int .i64 0, .int .i64 0, .str [], .str [], .bool false, .nils, .nils, .nils]], .row true 8 [[.int .i64 s.id, .int .i64 s.ep, .str s.fr, .str s.to, .bool s.frz, outV (H.key 2) 5 s.cells.length, outV (H.key 3) 4 i, .nils]], outB 5 (s.cells.map Cell.enc), outB 4 ((s.evs.take i).map Evn.enc)]) ?_ 0 (σ := [0, 1, 2, 3]) (Wk.of rfl (by decide) (by simp only [go_sem, hrk]; first | done | rfl | trace_state) (by simp only [go_sem, outB_nil, outV_ren', ↓hcb, implies_true]; first | done | rfl | trace_state)) (Nat.zero_le _)
    rintro i hi
    have hfl := flT_le evT (i + 1) s.evs
    by_cases hlt2 : i < s.evs.length
    · have hget : s.evs[i]? = some s.evs[i] := List.getElem?_eq_getElem hlt2
      have hci : (i : Int) < (s.evs.length : Int) := by omega
      have hw := wrap_succ (n := i) (by omega)
      have htk : (s.evs.take (i + 1)).map Evn.enc = (s.evs.take i).map Evn.enc ++ [s.evs[i].enc] := by rw [List.take_add_one, hget, List.map_append]; rfl
      obtain ⟨⟨_, c1⟩, c2, _, c3, c4⟩ := (hh.2.1 _ (List.mem_of_getElem? hget)).2
      generalize s.evs[i] = c at hget htk c1 c2 c3 c4
      have hnx : flT evT (s.evs.drop i) ++ r2 s = textT c.key ++ (numT c.ver.toNat ++ (textT c.val ++ (c.del.toNat :: (flT evT (s.evs.drop (i + 1)) ++ r2 s)))) := by rw [flT_drop evT hget, List.append_assoc, evT_app]
      have hRl : (flT evT (s.evs.drop (i + 1)) ++ r2 s).length < 200001 := by rw [List.length_append]; omega
      obtain ⟨R, hR⟩ : ∃ R, R = flT evT (s.evs.drop (i + 1)) ++ r2 s := ⟨_, rfl⟩
      rw [← hR] at hnx hRl
      have k2 := txt266 (s := c.val) (by omega)
      have k3 := num11 (n := c.ver) (by omega) (by omega)
      have y1 := e162 (s := c.key) (l := numT c.ver.toNat ++ (textT c.val ++ (c.del.toNat :: R))) (by omega) (by simp only [List.length_append, List.length_cons]; omega)
      have y2 := e161 (n := c.ver.toNat) (l := textT c.val ++ (c.del.toNat :: R)) (by omega) (by simp only [List.length_append, List.length_cons]; omega)
      have y3 := e162 (s := c.val) (l := c.del.toNat :: R) (by omega) (by simp only [List.length_cons]; omega)
      have y4 := e163 c.del (l := R) (by omega)
      have u1 : (c.ver.toNat : Int) = c.ver := Int.toNat_of_nonneg (by omega)
      have A := appQ_out (H := H.set k (.row true 2 [[.str R, .nili]])) (bytes := 48) (esz := 4) (i := 3) (j := 4) (n := i) (xs := (s.evs.take i).map Evn.enc) (y := [.str c.key, .int .i64 c.ver, .str c.val, .bool c.del]) (wr := true) (ex := true) (cap := 1)
        (L := [.row true 8 [[.int .i64 0, .int .i64 0, .str [], .str [], .bool false, .nils, .nils, .nils]], .row true 8 [[.int .i64 s.id, .int .i64 s.ep, .str s.fr, .str s.to, .bool s.frz, outV (H.key 2) 5 s.cells.length, outV (H.key 3) 4 i, .nils]], outB 5 (s.cells.map Cell.enc), outB 4 ((s.evs.take i).map Evn.enc), .row true 4 [[.str c.key, .int .i64 c.ver, .str c.val, .bool c.del]]]) rfl (by rw [List.length_map, List.length_take]; omega) rfl (okBig_le (by omega) (by decide))
      simp only [Heap.key_set] at A
      have htk2 : (s.evs.take (i + 1)).map Evn.enc = (s.evs.take i).map Evn.enc ++ [[.str c.key, .int .i64 c.ver, .str c.val, .bool c.del]] := htk
      have hob : ∀ ρ, Blk.ren ρ (outB 4 ((s.evs.take i).map Evn.enc ++ [[.str c.key, .int .i64 c.ver, .str c.val, .bool c.del]])) = outB 4 ((s.evs.take i).map Evn.enc ++ [[.str c.key, .int .i64 c.ver, .str c.val, .bool c.del]]) := fun ρ => outB_ren' ρ (by rw [← htk2]; exact Evn.map_rens ρ _)
      have hsi : i + 1 ≤ s.evs.length := by omega
      simp only [go_sem, hci, hnx, y1, y2, y3, y4, u1, ↓appR_hide, A, hw, hsi]
      subst hR
      exact ⟨i + 1, by show s.evs.length - (i + 1) < s.evs.length - i; omega, hsi, _, [0, 1, 2, 5], rfl, Wk.of rfl (by decide) (by simp only [go_sem, hrk, hw]; first | done | rfl | trace_state) (by simp only [go_sem, htk2, outV_ren', ↓hob, ↓hcb, implies_true]; first | done | rfl | trace_state)⟩
    · have hci : ¬ (i : Int) < (s.evs.length : Int) := by omega
      obtain rfl : i = s.evs.length := by omega
      have he0 : flT evT (s.evs.drop s.evs.length) ++ r2 s = numT s.done.length ++ flT dnT s.done := by rw [flT_end]; rfl
      have htk : s.evs.take s.evs.length = s.evs := List.take_length
      simp only [go_sem, hci, he0, htk]
      refine CL.of (f164_ok (n := s.done.length) (by omega) (l := _) (by omega) (by omega) (gK _ _)) ?_
      rintro _ G' ⟨rfl, hG⟩
      rw [sK] at hG
      rw [hG]
      clear hG
      simp only [go_sem]
      have hdb : ∀ ρ, Blk.ren ρ (outB 4 (s.evs.map Evn.enc)) = outB 4 (s.evs.map Evn.enc) := fun ρ => outB_ren' ρ (Evn.map_rens ρ _)
      refine LL.stK good_ETk hk (fun i : Nat => s.done.length - i) (fun i => i ≤ s.done.length) (fun i => [(.z, .ptr k 0), ((.i .z), .ptr (H.key 0) 0), ((.o (.o .z)), .ptr (H.key 1) 0), ((.o (.i (.o (.i (.i .z))))), .int .i64 s.done.length), ((.i (.i (.o (.i (.i .z))))), .int .i64 i)])
        (fun i => .row true 2 [[.str (flT dnT (s.done.drop i)), .nili]]) (fun i ρ => tk_ren _ ρ)
        (fun i => [.row true 8 [[.int .i64 0, .int .i64 0, .str [], .str [], .bool false, .nils, .nils, .nils]], .row true 8 [[.int .i64 s.id, .int .i64 s.ep, .str s.fr, .str s.to, .bool s.frz, outV (H.key 2) 5 s.cells.length, outV (H.key 3) 4 s.evs.length, outV (H.key 4) 6 i]], outB 5 (s.cells.map Cell.enc), outB 4 (s.evs.map Evn.enc), outB 6 ((s.done.take i).map Dn.enc)]) ?_ 0 (σ := [0, 1, 2, 3, 4]) (Wk.of rfl (by decide) (by simp only [go_sem, hrk]; first | done | rfl | trace_state) (by simp only [go_sem, outB_nil, outV_ren', ↓hcb, ↓hdb, implies_true]; first | done | rfl | trace_state)) (Nat.zero_le _)
      rintro i hi
      have hfl := flT_le dnT (i + 1) s.done
      by_cases hlt2 : i < s.done.length
      · have hget : s.done[i]? = some s.done[i] := List.getElem?_eq_getElem hlt2
        have hci : (i : Int) < (s.done.length : Int) := by omega
        have hw := wrap_succ (n := i) (by omega)
        have htk : (s.done.take (i + 1)).map Dn.enc = (s.done.take i).map Dn.enc ++ [s.done[i].enc] := by rw [List.take_add_one, hget, List.map_append]; rfl
        have hbd := hsm.b _ (List.mem_of_getElem? hget)
        obtain ⟨⟨c1, c2, c3, c4⟩, hia⟩ := (done_iff.1 hdn).1 _ (List.mem_of_getElem? hget)
        have hdl := dnT_len ((done_iff.1 hdn).1 _ (List.mem_of_getElem? hget)) hbd
        generalize s.done[i] = c at hget htk hbd hia hdl c1 c2 c3 c4
        have hnx0 : flT dnT (s.done.drop i) = numT c.ses.toNat ++ (numT c.id.toNat ++ (ansT c.an ++ flT dnT (s.done.drop (i + 1)))) := by rw [flT_drop dnT hget, dnT_app]
        obtain ⟨ses, id, ⟨code, val, ver, rws, rv⟩⟩ := c
        simp only at hbd c1 c2 c3 c4
        obtain ⟨rfl, rfl⟩ := hbd
        have hia : isAns (bareA code val ver) := hia
        have hnx : flT dnT (s.done.drop i) = numT ses.toNat ++ (numT id.toNat ++ (ansT (bareA code val ver) ++ flT dnT (s.done.drop (i + 1)))) := hnx0
        have hdl : (numT ses.toNat ++ numT id.toNat ++ ansT (bareA code val ver)).length ≤ 400 := hdl
        rw [List.length_append, List.length_append] at hdl
        have hRl : (flT dnT (s.done.drop (i + 1))).length < 200001 := by omega
        obtain ⟨R, hR⟩ : ∃ R, R = flT dnT (s.done.drop (i + 1)) := ⟨_, rfl⟩
        rw [← hR] at hnx hRl
        have y1 := e161 (n := ses.toNat) (l := numT id.toNat ++ (ansT (bareA code val ver) ++ R)) (by omega) (by simp only [List.length_append]; omega)
        have y2 := e161 (n := id.toNat) (l := ansT (bareA code val ver) ++ R) (by omega) (by simp only [List.length_append]; omega)
        have y3 := e165 (l := R) hia (by omega)
        have u1 : (ses.toNat : Int) = ses := Int.toNat_of_nonneg (by omega)
        have u2 : (id.toNat : Int) = id := Int.toNat_of_nonneg (by omega)
        have A := appQ_out (H := H.set k (.row true 2 [[.str R, .nili]])) (bytes := 72) (esz := 6) (i := 4) (j := 5) (n := i) (xs := (s.done.take i).map Dn.enc) (y := [.int .i64 ses, .int .i64 id, .int .i64 code, .str val, .int .i64 ver, .nils]) (wr := true) (ex := true) (cap := 1)
          (L := [.row true 8 [[.int .i64 0, .int .i64 0, .str [], .str [], .bool false, .nils, .nils, .nils]], .row true 8 [[.int .i64 s.id, .int .i64 s.ep, .str s.fr, .str s.to, .bool s.frz, outV (H.key 2) 5 s.cells.length, outV (H.key 3) 4 s.evs.length, outV (H.key 4) 6 i]], outB 5 (s.cells.map Cell.enc), outB 4 (s.evs.map Evn.enc), outB 6 ((s.done.take i).map Dn.enc), .row true 6 [[.int .i64 ses, .int .i64 id, .int .i64 code, .str val, .int .i64 ver, .nils]]]) rfl (by rw [List.length_map, List.length_take]; omega) rfl (okBig_le (by omega) (by decide))
        simp only [Heap.key_set] at A
        have htk2 : (s.done.take (i + 1)).map Dn.enc = (s.done.take i).map Dn.enc ++ [[.int .i64 ses, .int .i64 id, .int .i64 code, .str val, .int .i64 ver, .nils]] := htk
        have hbl : bareL (s.done.take (i + 1)) := fun d hd => hsm.b d (List.mem_of_mem_take hd)
        have hob : ∀ ρ, Blk.ren ρ (outB 6 ((s.done.take i).map Dn.enc ++ [[.int .i64 ses, .int .i64 id, .int .i64 code, .str val, .int .i64 ver, .nils]])) = outB 6 ((s.done.take i).map Dn.enc ++ [[.int .i64 ses, .int .i64 id, .int .i64 code, .str val, .int .i64 ver, .nils]]) := fun ρ => outB_ren' ρ (by rw [← htk2]; exact hbl.rens ρ)
        have hsi : i + 1 ≤ s.done.length := by omega
        simp only [go_sem, hci, hnx, y1, y2, y3, u1, u2, ↓appR_hide, A, hw, hsi]
        subst hR
        exact ⟨i + 1, by show s.done.length - (i + 1) < s.done.length - i; omega, hsi, _, [0, 1, 2, 3, 6], rfl, Wk.of rfl (by decide) (by simp only [go_sem, hrk, hw]; first | done | rfl | trace_state) (by simp only [go_sem, htk2, outV_ren', ↓hob, ↓hcb, ↓hdb, implies_true]; first | done | rfl | trace_state)⟩
      · have hci : ¬ (i : Int) < (s.done.length : Int) := by omega
        obtain rfl : i = s.done.length := by omega
        have he0 : flT dnT (s.done.drop s.done.length) = [] := flT_end _ _
        have htk : s.done.take s.done.length = s.done := List.take_length
        simp only [go_sem, hci, he0, htk]
        exact ⟨⟨_, _, _, rfl, ⟨arr_outV (H := H.set k (.row true 2 [[.str [], .nili]])) (i := 2) rfl (List.length_map ..), arr_outV (H := H.set k (.row true 2 [[.str [], .nili]])) (i := 3) rfl (List.length_map ..), arr_outV (H := H.set k (.row true 2 [[.str [], .nili]])) (i := 4) rfl (List.length_map ..), hsm.b.ok _, by show s.cells.length < 4294967296; omega, by show s.evs.length < 4294967296; omega, by show s.done.length < 4294967296; omega⟩⟩, _, rfl⟩
end Go.Proofs
/- shards in order: how two are compared: walked. -/

set_option linter.all false
set_option linter.all false
set_option maxRecDepth 100000
namespace Go.Proofs
open Go Go.Ev
variable {H : Heap}

/-- two texts compared -/
noncomputable def cmpT (a b : List Nat) : Int := if ltS a b then -1 else if ¬ (ltS a b ∨ a = b) then 1 else 0
def cmpN (a b : Int) : Int := if a < b then -1 else if b < a then 1 else 0
theorem f167_ok (a : List Nat) : FnOk Tryz.prog 167 [.str a] H fun r G => r = .bool false ∧ G = H := by
  refine FnOk.drop (R := fun r => r = .bool false) ?_ (by rintro v rfl ρ; rw [AV.ren])
  refine FnOk.of_WW Tryz.func167 rfl C167ok R167ok E0 good_E0 ?_
  simp only [go_sem, C167]
  exact ⟨_, rfl⟩
theorem f134_ok (a : Int) : FnOk Tryz.prog 134 [.int .i64 a] H fun r G => r = .bool false ∧ G = H := by
  refine FnOk.drop (R := fun r => r = .bool false) ?_ (by rintro v rfl ρ; rw [AV.ren])
  refine FnOk.of_WW Tryz.func134 rfl C134ok R134ok E0 good_E0 ?_
  simp only [go_sem, C134]
  exact ⟨_, rfl⟩
theorem f131_ok (a b : List Nat) : FnOk Tryz.prog 131 [.str a, .str b] H fun r G => r = .int .i64 (cmpT a b) ∧ G = H := by
  refine FnOk.drop (R := fun r => r = .int .i64 (cmpT a b)) ?_ (by rintro v rfl ρ; rw [AV.ren])
  refine FnOk.of_WW Tryz.func131 rfl C131ok R131ok E0 good_E0 ?_
  simp only [go_sem, C131]
  refine CL.of (f167_ok a) ?_
  rintro _ G' ⟨rfl, hG⟩; rw [hG]; clear hG
  simp only [go_sem]
  refine CL.of (f167_ok b) ?_
  rintro _ G' ⟨rfl, hG⟩; rw [hG]; clear hG
  simp only [go_sem]
  unfold cmpT
  refine ⟨fun h => ⟨by rw [if_pos h], _, rfl⟩, fun h => ⟨fun g => ⟨by rw [if_neg h, if_pos g], _, rfl⟩, fun g => ⟨by rw [if_neg h, if_neg g], _, rfl⟩⟩⟩
theorem f84_ok (a b : Int) : FnOk Tryz.prog 84 [.int .i64 a, .int .i64 b] H fun r G => r = .int .i64 (cmpN a b) ∧ G = H := by
  refine FnOk.drop (R := fun r => r = .int .i64 (cmpN a b)) ?_ (by rintro v rfl ρ; rw [AV.ren])
  refine FnOk.of_WW Tryz.func84 rfl C84ok R84ok E0 good_E0 ?_
  simp only [go_sem, C84]
  refine CL.of (f134_ok a) ?_
  rintro _ G' ⟨rfl, hG⟩; rw [hG]; clear hG
  simp only [go_sem]
  refine CL.of (f134_ok b) ?_
  rintro _ G' ⟨rfl, hG⟩; rw [hG]; clear hG
  simp only [go_sem]
  unfold cmpN
  refine ⟨fun h => ⟨by rw [if_pos h], _, rfl⟩, fun h => ⟨fun g => ⟨by rw [if_neg h, if_pos g], _, rfl⟩, fun g => ⟨by rw [if_neg h, if_neg g], _, rfl⟩⟩⟩
theorem readC_1 {β : Type} (f : β) (rows : List (List AV)) (k : Nat) (c : List AV → β) : readC f 1 rows k 1 c = optC rows[k]? f c := by
  have h := readC_at0 f 1 rows k 1 c (by decide) (Nat.le_refl _)
  rw [Nat.mul_one] at h
  exact h
theorem f130_ok {k : K} {wr : Bool} {a b : Int} (hk : H.get k = some (.row wr 1 [[.int .i64 a], [.int .i64 b]])) (ex : Bool) (cap : Nat) : FnOk Tryz.prog 130 [.slice k 0 2 1 ex cap] H fun r G => r = .int .i64 (if ¬ a = 0 then a else b) ∧ G = H := by
  refine FnOk.assume fun hok => ?_
  refine FnOk.drop (R := fun r => r = .int .i64 (if ¬ a = 0 then a else b)) ?_ (by rintro v rfl ρ; rw [AV.ren])
  refine FnOk.of_WW Tryz.func130 rfl C130ok R130ok E0 good_E0 ?_
  have hgo := Heap.get_ext_old hok hk
  have hA : Arr H 1 (.slice k 0 2 1 ex cap) [[.int .i64 a], [.int .i64 b]] := .inr ⟨k, 0, ex, cap, rfl, hok k _ hk, fun _ => ⟨0, wr, _, rfl, hk, rfl⟩⟩
  have hren : ∀ top σ, rho H top σ k = k := fun _ _ => rho_old (hok k _ hk)
  have hw01 : IntKind.i64.wrap (0 + 1) = 1 := rfl
  have hw11 : IntKind.i64.wrap (1 + 1) = 2 := rfl
  simp only [go_sem, C130]
  refine LL.st good_E0 (fun i : Nat => 2 - i) (fun i => i ≤ 2 ∧ (0 < i → a = 0) ∧ (1 < i → b = 0))
    (fun i => [((.o (.o .z)), .int .i64 0), ((.i (.i .z)), .slice k 0 2 1 ex cap), ((.o (.o (.o .z))), .int .i64 2), ((.i (.o (.o .z))), .int .i64 i)]) (fun i => []) ?_ 0 (σ := []) (Wk.of rfl (by decide) (by simp only [go_sem, hren, hw01, hw11]; first | done | rfl | trace_state) (by simp only [go_sem])) ⟨Nat.zero_le _, fun h => absurd h (Nat.lt_irrefl _), fun h => absurd h (Nat.not_lt_zero _)⟩
  rintro i ⟨hi, h1, h2⟩
  have h3 : i = 0 ∨ i = 1 ∨ i = 2 := by omega
  rcases h3 with rfl | rfl | rfl
  · simp only [go_sem, hgo]
    refine ⟨fun h => ⟨by rw [if_pos h], _, rfl⟩, fun h => ?_⟩
    exact ⟨1, by show 2 - 1 < 2 - 0; decide, ⟨by decide, fun _ => Classical.not_not.1 h, fun h => absurd h (Nat.lt_irrefl _)⟩, _, [], rfl, Wk.of rfl (by decide) (by simp only [go_sem, hren, hw01, hw11]; first | done | rfl | trace_state) (by simp only [go_sem])⟩
  · have ha := h1 (by decide)
    simp only [go_sem, hgo, readC_1]
    refine ⟨fun h => ⟨by rw [if_neg (fun g => g ha)], _, rfl⟩, fun h => ?_⟩
    exact ⟨2, by show 2 - 2 < 2 - 1; decide, ⟨by decide, fun _ => ha, fun _ => Classical.not_not.1 h⟩, _, [], rfl, Wk.of rfl (by decide) (by simp only [go_sem, hren, hw01, hw11]; first | done | rfl | trace_state) (by simp only [go_sem])⟩
  · have ha := h1 (by decide)
    have hb := h2 (by decide)
    simp only [go_sem]
    exact ⟨by rw [if_neg (fun g => g ha), hb], _, rfl⟩
noncomputable def EQ (f : FuncId) (args : List AV) (H : Heap) : RC :=
  match f with
  | 131 => match args with | [.str a, .str b] => .ok (.int .i64 (cmpT a b)) H | _ => .fail
  | 84 => match args with | [.int .i64 a, .int .i64 b] => .ok (.int .i64 (cmpN a b)) H | _ => .fail
  | 130 => match args with
    | [.slice k 0 2 1 ex cap] => match H.get k with
      | some (.row wr 1 [[.int .i64 a], [.int .i64 b]]) => .ok (.int .i64 (if ¬ a = 0 then a else b)) H
      | _ => .fail
    | _ => .fail
  | _ => .fail
theorem good_EQ : Ev.Good Tryz.prog EQ := by
  intro f args H r G he φ w args' ha hw
  refine (?_ : FnOk Tryz.prog f args H fun v' G' => v' = r ∧ G' = G).one φ w args' ha hw
  unfold EQ at he
  split at he
  · split at he
    · cases he; exact f131_ok _ _
    · cases he
  · split at he
    · cases he; exact f84_ok _ _
    · cases he
  · split at he
    · split at he
      · rename_i hk
        cases he; exact f130_ok hk _ _
      · cases he
    · cases he
  · cases he
theorem eq88 (a b : List Nat) (H : Heap) : EQ 131 [.str a, .str b] H = .ok (.int .i64 (cmpT a b)) H := rfl
theorem eq49 (a b : Int) (H : Heap) : EQ 84 [.int .i64 a, .int .i64 b] H = .ok (.int .i64 (cmpN a b)) H := rfl
theorem eq87 {k : K} {wr ex : Bool} {cap : Nat} {a b : Int} {H : Heap} (hk : H.get k = some (.row wr 1 [[.int .i64 a], [.int .i64 b]])) : EQ 130 [.slice k 0 2 1 ex cap] H = .ok (.int .i64 (if ¬ a = 0 then a else b)) H := by
  show (match H.get k with | some (.row wr 1 [[.int .i64 a], [.int .i64 b]]) => .ok (.int .i64 (if ¬ a = 0 then a else b)) H | _ => .fail : RC) = _
  rw [hk]
  rfl
/-- two shards compared -/
noncomputable def cmpS (f g : List Nat) (i j : Int) : Int := if ¬ cmpT f g = 0 then cmpT f g else cmpN i j
theorem f129_ok (i e : Int) (f t : List Nat) (z : Bool) (c v d : AV) (i' e' : Int) (f' t' : List Nat) (z' : Bool) (c' v' d' : AV) :
    FnOk Tryz.prog 129 [.agg [.int .i64 i, .int .i64 e, .str f, .str t, .bool z, c, v, d], .agg [.int .i64 i', .int .i64 e', .str f', .str t', .bool z', c', v', d']] H fun r G => r = .int .i64 (cmpS f f' i i') ∧ G = H := by
  refine FnOk.drop (R := fun r => r = .int .i64 (cmpS f f' i i')) ?_ (by rintro v rfl ρ; rw [AV.ren])
  refine FnOk.of_WW Tryz.func129 rfl C129ok R129ok EQ good_EQ ?_
  have i87 := fun b0 b1 => eq87 (H := H.ext [b0, b1, .row true 1 [[.int .i64 (cmpT f f')], [.int .i64 (cmpN i i')]]]) (k := H.key 2) (wr := true) (ex := true) (cap := 2) (get_lit rfl)
  simp only [go_sem, C129, eq88, eq49, i87]
  exact ⟨rfl, _, rfl⟩
noncomputable def EM (f : FuncId) (args : List AV) (H : Heap) : RC :=
  match f with
  | 129 => match args with | [.agg [.int .i64 i, .int .i64 _, .str f, .str _, .bool _, _, _, _], .agg [.int .i64 i', .int .i64 _, .str f', .str _, .bool _, _, _, _]] => .ok (.int .i64 (cmpS f f' i i')) H | _ => .fail
  | _ => .fail
theorem good_EM : Ev.Good Tryz.prog EM := by
  intro f args H r G he φ w args' ha hw
  refine (?_ : FnOk Tryz.prog f args H fun v' G' => v' = r ∧ G' = G).one φ w args' ha hw
  unfold EM at he
  split at he
  · split at he
    · cases he; exact f129_ok _ _ _ _ _ _ _ _ _ _ _ _ _ _ _ _
    · cases he
  · cases he
theorem em86 (i e : Int) (f t : List Nat) (z : Bool) (c v d : AV) (i' e' : Int) (f' t' : List Nat) (z' : Bool) (c' v' d' : AV) (H : Heap) :
    EM 129 [.agg [.int .i64 i, .int .i64 e, .str f, .str t, .bool z, c, v, d], .agg [.int .i64 i', .int .i64 e', .str f', .str t', .bool z', c', v', d']] H = .ok (.int .i64 (cmpS f f' i i')) H := rfl
/-- shards in order: by where they begin, by number -/
def sorted2 : List Sh → Prop
  | [a, b] => ¬ cmpS b.fr a.fr b.id a.id < 0
  | l => l.length ≤ 1
theorem f202_one {v : AV} {n : Nat} (hn : n ≤ 1) (g : AV) : FnOk Tryz.prog 202 [v, .int .i64 0, .int .i64 n, g] H fun r G => r = .tup [] ∧ G = H := by
  refine FnOk.drop (R := fun r => r = .tup []) ?_ (by rintro v rfl ρ; simp only [AV.ren, AV.rens])
  refine FnOk.of_WW Tryz.func202 rfl C202ok R202ok E0 good_E0 ?_
  have hw01 : IntKind.i64.wrap (0 + 1) = 1 := rfl
  have hc : ¬ (1 : Int) < (n : Int) := by omega
  simp only [go_sem, C202, hw01]
  refine LL.st good_E0 (fun _ : Nat => 0) (fun _ => True) (fun _ => [((.i .z), .int .i64 n), ((.i (.o (.o .z))), .int .i64 1)]) (fun _ => []) ?_ 0 (σ := []) (Wk.of rfl (by decide) (by simp only [go_sem]; first | done | rfl | trace_state) (by simp only [go_sem])) trivial
  rintro _ _
  simp only [go_sem, hc]
  exact ⟨_, rfl⟩
theorem f202_two {v : AV} {a b : Sh} (hA : Arr H 8 v [a.enc, b.enc]) (hs : ¬ cmpS b.fr a.fr b.id a.id < 0) : FnOk Tryz.prog 202 [v, .int .i64 0, .int .i64 2, .fn (.func 129) [] []] H fun r G => r = .tup [] ∧ G = H := by
  refine FnOk.assume fun hok => ?_
  refine FnOk.drop (R := fun r => r = .tup []) ?_ (by rintro v rfl ρ; simp only [AV.ren, AV.rens])
  refine FnOk.of_WW Tryz.func202 rfl C202ok R202ok EM good_EM ?_
  have hw01 : IntKind.i64.wrap (0 + 1) = 1 := rfl
  have hw11 : IntKind.i64.wrap (1 + 1) = 2 := rfl
  have hw10 : IntKind.i64.wrap (1 - 1) = 0 := rfl
  have hren := hA.ren
  simp only [go_sem, C202, hw01]
  refine LL.st good_EM (fun i : Nat => 2 - i) (fun i => i = 1 ∨ i = 2) (fun i => [(.z, v), ((.o .z), .int .i64 0), ((.i .z), .int .i64 2), ((.o (.o .z)), .fn (.func 129) [] []), ((.i (.o (.o .z))), .int .i64 i)]) (fun _ => []) ?_ 1 (σ := []) (Wk.of rfl (by decide) (by simp only [go_sem, hren]; first | done | rfl | trace_state) (by simp only [go_sem])) (.inl rfl)
  rintro i (rfl | rfl)
  · simp only [go_sem]
    refine LL.st good_EM (fun _ : Nat => 0) (fun _ => True) (fun _ => [(.z, v), ((.o .z), .int .i64 0), ((.i .z), .int .i64 2), ((.o (.o .z)), .fn (.func 129) [] []), ((.i (.o (.o .z))), .int .i64 1), ((.o (.i (.o .z))), .int .i64 1)]) (fun _ => []) ?_ 0 (σ := []) (Wk.of rfl (by decide) (by simp only [go_sem, hren]; first | done | rfl | trace_state) (by simp only [go_sem])) trivial
    rintro _ _
    obtain ⟨kk, r, ex', cap', wr, rows, hv, hrho, hgo, hrow⟩ := hA.at hok (j := 1) (Nat.lt_succ_self 1)
    obtain ⟨kk', r', ex'', cap'', wr', rows', hv', hrho', hgo', hrow'⟩ := hA.at hok (j := 0) (Nat.zero_lt_succ _)
    rw [hv] at hv'
    injection hv' with e1 e2 e3 e4 e5 e6
    subst e1
    have e7 := Option.some.inj ((hgo []).symm.trans (hgo' []))
    injection e7 with e7 e8 e9
    subst e9
    have e2' : r' = r := by omega
    subst e2'
    simp only [List.getElem_cons_zero, List.getElem_cons_succ, Sh.enc, Nat.add_zero] at hrow hrow'
    have hs' := eq_false hs
    have h88 : r' * 8 + 8 = (r' + 1) * 8 := by omega
    simp only [go_sem, hv, hgo, hw10, h88, hrow, hrow', em86, hs', hw11]
    exact ⟨2, by show 2 - 2 < 2 - 1; decide, .inr rfl, _, [], rfl, Wk.of rfl (by decide) (by simp only [go_sem, hren, hv, hrho]; first | done | rfl | trace_state) (by simp only [go_sem])⟩
  · simp only [go_sem]
    exact ⟨_, rfl⟩
end Go.Proofs
/- shards in order: sorted already; one left out: walked. -/

set_option linter.all false
set_option linter.all false
set_option maxRecDepth 100000
namespace Go.Proofs
open Go Go.Ev
variable {H : Heap}

theorem f202_ok {v : AV} {hs : List Sh} (hA : Arr H 8 v (hs.map Sh.enc)) (hs2 : sorted2 hs) : FnOk Tryz.prog 202 [v, .int .i64 0, .int .i64 hs.length, .fn (.func 129) [] []] H fun r G => r = .tup [] ∧ G = H := by
  match hs, hA, hs2 with
  | [], _, _ => exact f202_one (n := 0) (by decide) _
  | [_], _, _ => exact f202_one (n := 1) (by decide) _
  | [a, b], hA, hs2 => exact f202_two hA hs2
  | _ :: _ :: _ :: _, _, h => exact absurd (show _ + 1 + 1 + 1 ≤ 1 from h) (by omega)
theorem sorted2_len {hs : List Sh} (h : sorted2 hs) : hs.length ≤ 2 := by
  match hs, h with
  | [], _ => exact Nat.zero_le _
  | [_], _ => exact Nat.le_succ 1
  | [_, _], _ => exact Nat.le_refl 2
  | _ :: _ :: _ :: _, h => exact absurd (show _ + 1 + 1 + 1 ≤ 1 from h) (by omega)
theorem f166_ok {v : AV} {hs : List Sh} (hA : Arr H 8 v (hs.map Sh.enc)) (hs2 : sorted2 hs) : FnOk Tryz.prog 166 [v, .int .i64 hs.length, .fn (.func 129) [] []] H fun r G => r = .tup [] ∧ G = H := by
  refine FnOk.drop (R := fun r => r = .tup []) ?_ (by rintro v rfl ρ; simp only [AV.ren, AV.rens])
  refine FnOk.of_WW Tryz.func166 rfl C166ok R166ok E0 good_E0 ?_
  have hren := hA.ren
  have hl := sorted2_len hs2
  have hc : ¬ (20 : Int) ≤ (hs.length : Int) := by omega
  have hc2 : ¬ (20 : Int) < (hs.length : Int) := by omega
  simp only [go_sem, C166]
  refine LL.st good_E0 (fun _ : Nat => 0) (fun _ => True) (fun _ => [(.z, v), ((.o .z), .int .i64 hs.length), ((.i .z), .fn (.func 129) [] []), ((.i (.i .z)), .int .i64 20), ((.o (.o (.o .z))), .int .i64 0), ((.i (.o (.o .z))), .int .i64 20)]) (fun _ => []) ?_ 0 (σ := []) (Wk.of rfl (by decide) (by simp only [go_sem, hren]; first | done | rfl | trace_state) (by simp only [go_sem])) trivial
  rintro _ _
  simp only [go_sem, hc]
  refine CL.of (f202_ok (hA.ext _) hs2) ?_
  rintro _ G' ⟨rfl, hG⟩; rw [hG]; clear hG
  simp only [go_sem]
  refine LL.st good_E0 (fun _ : Nat => 0) (fun _ => True) (fun _ => [((.o .z), .int .i64 hs.length), ((.i (.i .z)), .int .i64 20)]) (fun _ => []) ?_ 0 (σ := []) (Wk.of rfl (by decide) (by simp only [go_sem, hren]; first | done | rfl | trace_state) (by simp only [go_sem])) trivial
  rintro _ _
  simp only [go_sem, hc2]
  exact ⟨_, rfl⟩
theorem f128_ok {v : AV} {hs : List Sh} (hA : Arr H 8 v (hs.map Sh.enc)) (hs2 : sorted2 hs) : FnOk Tryz.prog 128 [v, .fn (.func 129) [] []] H fun r G => r = .tup [] ∧ G = H := by
  refine FnOk.drop (R := fun r => r = .tup []) ?_ (by rintro v rfl ρ; simp only [AV.ren, AV.rens])
  refine FnOk.of_WW Tryz.func128 rfl C128ok R128ok E0 good_E0 ?_
  have hlen := fun G => hA.len G
  simp only [List.length_map] at hlen
  simp only [go_sem, C128, hlen]
  refine CL.of (f166_ok (hA.ext _) hs2) ?_
  rintro _ G' ⟨rfl, hG⟩; rw [hG]; clear hG
  simp only [go_sem]
  exact ⟨_, rfl⟩
theorem f81_ok {G : Heap} {k : K} {lv gv : AV} {hs : List Sh} {gs : List Gn} (h : isHd G k lv gv hs gs) (hs2 : sorted2 hs) : FnOk Tryz.prog 81 [.ptr k 0] G fun r G' => r = .tup [] ∧ G' = G := by
  refine FnOk.drop (R := fun r => r = .tup []) ?_ (by rintro v rfl ρ; simp only [AV.ren, AV.rens])
  refine FnOk.of_WW Tryz.func81 rfl C81ok R81ok E0 good_E0 ?_
  have hk : ∀ L, (G.ext L).get k = _ := fun L => Heap.get_ext_old h.ok h.row L
  simp only [go_sem, C81, hk]
  refine CL.of (f128_ok (h.l.ext _) hs2) ?_
  rintro _ G' ⟨rfl, hG⟩; rw [hG]; clear hG
  simp only [go_sem]
  exact ⟨_, rfl⟩
/-- nothing is left out -/
theorem f139_none {v : AV} {l : List Sh} (hA : Arr H 8 v (l.map Sh.enc)) (hl : l.length ≤ 100000) {g : FuncId} {caps : List AV} (hcall : ∀ args H, callC Tryz.prog g args H = .call g args)
    (hcaps : ∀ top σ, AV.ren (rho H top σ) (.fn (.func g) [] caps) = .fn (.func g) [] caps) {q : Sh → Bool} (hg : ∀ s ∈ l, ∀ L, FnOk Tryz.prog g (.agg s.enc :: caps) (H.ext L) fun r G => r = .bool (q s) ∧ G = H.ext L) (hq : idx q l 0 = -1) :
    FnOk Tryz.prog 139 [v, .fn (.func g) [] caps] H fun r G => r = v ∧ G = H := by
  have hren := hA.ren
  refine FnOk.dropOld (R := fun r => r = v) ?_ (by rintro _ rfl top σ; exact hren top σ)
  refine FnOk.of_WW Tryz.func139 rfl C139ok R139ok E0 good_E0 ?_
  simp only [go_sem, C139]
  have h64 := f98_ok hA hl hcall hcaps hg
  rw [← Heap.ext_nil H] at h64
  refine CL.of h64 ?_
  rintro _ G' ⟨rfl, hG⟩
  rw [hG, hq]
  clear hG
  simp only [go_sem]
  exact ⟨_, rfl⟩
/-- the only one is left out -/
theorem f139_only {G : Heap} {c : K} {s : Sh} (hok : G.ok) (hc : G.get c = some (.row true 8 [s.enc])) {g : FuncId} {caps : List AV} (hcall : ∀ args H, callC Tryz.prog g args H = .call g args)
    (hcaps : ∀ top σ, AV.ren (rho G top σ) (.fn (.func g) [] caps) = .fn (.func g) [] caps) {q : Sh → Bool} (hg : ∀ L, FnOk Tryz.prog g (.agg s.enc :: caps) (G.ext L) fun r G' => r = .bool (q s) ∧ G' = G.ext L) (hq : q s = true) :
    FnOk Tryz.prog 139 [.slice c 0 1 8 false 1, .fn (.func g) [] caps] G fun r G' => r = .slice c 0 0 8 false 1 ∧ G' = G.set c (.row true 8 [zS]) := by
  have hA : Arr G 8 (.slice c 0 1 8 false 1) ([s].map Sh.enc) := .inr ⟨c, 0, false, 1, rfl, hok c _ hc, fun _ => ⟨0, true, _, rfl, hc, rfl⟩⟩
  have hren : ∀ top σ, rho G top σ c = c := fun _ _ => rho_old (hok c _ hc)
  have hgo : ∀ L, (G.ext L).get c = _ := fun L => Heap.get_ext_old hok hc L
  refine FnOk.of_WW Tryz.func139 rfl C139ok R139ok E0 good_E0 ?_
  simp only [go_sem, C139]
  have h64 := f98_ok (q := q) hA (by show 1 ≤ 100000; decide) hcall hcaps (fun s' hs' L => by rw [List.mem_singleton.1 hs']; exact hg L)
  have hx : idx q [s] 0 = 0 := by unfold idx; rw [hq]; rfl
  rw [hx, ← Heap.ext_nil G] at h64
  have hw01 : IntKind.i64.wrap (0 + 1) = 1 := rfl
  refine CL.of h64 ?_
  rintro _ G' ⟨rfl, hG⟩
  rw [hG]
  clear hG
  simp only [go_sem, hw01]
  refine LL.st good_E0 (fun _ : Nat => 0) (fun _ => True) (fun _ => [(.z, .slice c 0 1 8 false 1), ((.o (.i .z)), .int .i64 0), ((.i (.i .z)), .int .i64 1)]) (fun _ => []) ?_ 0 (σ := []) (Wk.of rfl (by decide) (by simp only [go_sem, hren]; first | done | rfl | trace_state) (by simp only [go_sem])) trivial
  rintro _ _
  have hset := fun b (l : List Blk) (α : Type) (c' : Heap → α) => Heap.setC_here hok hc b l c'
  simp only [go_sem, hgo, hset]
  exact Heap.ext_nil _
end Go.Proofs
/- a shard put in the place of its number's: walked. -/

set_option linter.all false
set_option linter.all false
set_option maxRecDepth 100000
namespace Go.Proofs
open Go Go.Ev
variable {H : Heap}

/-- what else there was is there still; nothing else was changed -/
structure Nx (k : K) (G G' : Heap) : Prop where
  keep : ∀ j b, k ≠ j → G.get j = some b → G'.get j = some b
  own : ∀ B : Heap, (∃ L, G = B.ext L) → B.nx.toNat ≤ k.toNat → ∃ L, G' = B.ext L
  le : G.nx.toNat ≤ G'.nx.toNat
theorem Nx.refl (k : K) (G : Heap) : Nx k G G := ⟨fun _ _ _ h => h, fun _ h _ => h, Nat.le_refl _⟩
theorem Nx.trans {k : K} {A B C : Heap} (h : Nx k A B) (g : Nx k B C) : Nx k A C := ⟨fun j b hj hb => g.keep j b hj (h.keep j b hj hb), fun D hD hk => g.own D (h.own D hD hk) hk, Nat.le_trans h.le g.le⟩
theorem ext_own {B G : Heap} (hB : ∃ L, G = B.ext L) (M : List Blk) : ∃ L, G.ext M = B.ext L := by
  obtain ⟨L, rfl⟩ := hB
  exact ⟨_, Heap.ext_append ..⟩
theorem Nx.set {k : K} {G : Heap} (hok : G.ok) {c : Blk} (hk : G.get k = some c) (b : Blk) (L : List Blk) : Nx k G ((G.set k b).ext L) :=
  ⟨fun j d hj hd => Heap.get_set_there hok hd hj b L, fun _ hB hl => ext_own (set_own hok hk hB hl) L, by rw [Heap.nx_ext, Heap.toNat_key]; exact Nat.le_add_right _ _⟩
theorem Nx.ext {k : K} {G : Heap} (hok : G.ok) (L : List Blk) : Nx k G (G.ext L) := ⟨fun j d _ hd => Heap.get_ext_old hok hd L, fun _ hB _ => ext_own hB L, by rw [Heap.nx_ext, Heap.toNat_key]; exact Nat.le_add_right _ _⟩
theorem Nx.arr {k : K} {G G' : Heap} (h : Nx k G G') {wr : Bool} {rows : List (List AV)} (hk : G.get k = some (.row wr 2 rows)) {e : Nat} (he : e ≠ 2) {v : AV} {xs : List (List AV)} (hA : Arr G e v xs) : Arr G' e v xs := by
  rcases hA with g | ⟨c, off, ex, cap, hv, hc, g⟩
  · exact .inl g
  · refine .inr ⟨c, off, ex, cap, hv, Nat.lt_of_lt_of_le hc h.le, fun hx => ?_⟩
    obtain ⟨r, wr', rows', h1, h2, h3⟩ := g hx
    refine ⟨r, wr', rows', h1, h.keep c _ ?_ h2, h3⟩
    rintro rfl
    rw [hk] at h2
    injection h2 with h2
    injection h2 with _ h2 _
    exact he h2.symm
theorem Nx.sh {k : K} {G G' : Heap} (h : Nx k G G') {wr : Bool} {rows : List (List AV)} (hk : G.get k = some (.row wr 2 rows)) {s : Sh} (hs : s.ok G) (hb : smallS s) : s.ok G' :=
  ⟨h.arr hk (by decide) hs.c, h.arr hk (by decide) hs.e, h.arr hk (by decide) hs.d, bareL.ok hb.b _, hs.cl, hs.el, hs.dl⟩
section
variable {G : Heap} {k : K} {lv gv : AV} {hs : List Sh} {gs : List Gn}
theorem gone_set (h : isHd G k lv gv hs gs) (b : Blk) : Arr (G.set k b) 2 gv (gs.map Gn.enc) := by
  rcases h.g with g | ⟨j, off, ex, cap, hv, hj, g⟩
  · exact .inl g
  · refine .inr ⟨j, off, ex, cap, hv, hj, fun hx => ?_⟩
    obtain ⟨r, wr', rows', h1, h2, h3⟩ := g hx
    refine ⟨r, wr', rows', h1, ?_, h3⟩
    rw [Heap.get_set, if_neg fun e => ?_]
    · exact h2
    · subst e
      have h4 := h.row
      rw [h2] at h4
      have h5 := Option.some.inj h4
      injection h5 with _ _ h5
      subst h5
      have hl := h.l
      cases gs with
      | nil => exact hx rfl
      | cons c l =>
        cases r with
        | zero =>
          have h6 := congrArg (fun z => z[0]?) h3
          simp only [List.map_cons, List.length_cons, List.drop_zero, List.take_succ_cons, List.getElem?_cons_zero, Gn.enc] at h6
          have h7 := Option.some.inj h6
          injection h7 with h7 _
          subst h7
          rcases hl with ⟨e, _⟩ | ⟨_, _, _, _, e, _⟩ <;> cases e
        | succ r => simp at h3
theorem ok_set' {s : Sh} (h : isHd G k lv gv hs gs) (hs' : s.ok G) (hb : smallS s) (b : Blk) : s.ok (G.set k b) :=
  ⟨hs'.c.set h.row (by decide), hs'.e.set h.row (by decide), hs'.d.set h.row (by decide), bareL.ok hb.b _, hs'.cl, hs'.el, hs'.dl⟩
theorem isHd.put {hs' : List Sh} (h : isHd G k lv gv hs gs) {L : List Blk} {j : Nat} (hj : L[j]? = some (.row true 8 (hs'.map Sh.enc))) (ho : ∀ s ∈ hs', s.ok G) (hsm : ∀ s ∈ hs', smallS s) (hl : hs'.length ≤ 8) (cap : Nat) (ex : Bool) :
    isHd ((G.set k (.row true 2 [[.slice (G.key j) 0 hs'.length 8 ex cap, gv]])).ext L) k (.slice (G.key j) 0 hs'.length 8 ex cap) gv hs' gs := by
  have hok := Heap.ok_ext (Heap.ok_set h.ok h.row (b := .row true 2 [[.slice (G.key j) 0 hs'.length 8 ex cap, gv]])) L
  have hjl := (List.getElem?_eq_some_iff.1 hj).1
  have hg : ((G.set k (.row true 2 [[.slice (G.key j) 0 hs'.length 8 ex cap, gv]])).ext L).get (G.key j) = some (.row true 8 (hs'.map Sh.enc)) := by rw [Heap.get_key_set hjl, hj]
  refine ⟨hok, Heap.get_set_here h.ok h.row _ L, .inr ⟨G.key j, 0, ex, cap, by rw [List.length_map], hok _ _ hg, fun _ => ⟨0, true, _, rfl, hg, ?_⟩⟩, (gone_set h _).ext L, fun s hs => (ok_set' h (ho s hs) (hsm s hs) _).ext L, hsm, hl, h.few.2⟩
  rw [List.drop_zero, List.take_length]
theorem f141_ok {H : Heap} {c : K} {wr : Bool} {s : Sh} (hk : H.get c = some (.row wr 8 [s.enc])) (o : Sh) : FnOk Tryz.prog 141 [.agg o.enc, .ptr c 0] H fun r G => r = .bool (decide (o.id = s.id)) ∧ G = H := by
  refine FnOk.assume fun hok => ?_
  refine FnOk.drop (R := fun r => r = .bool (decide (o.id = s.id))) ?_ (by rintro v rfl ρ; rw [AV.ren])
  refine FnOk.of_WW Tryz.func141 rfl C141ok R141ok E0 good_E0 ?_
  have hgo := Heap.get_ext_old hok hk
  simp only [Sh.enc] at hgo
  simp only [go_sem, C141, Sh.enc, hgo]
  exact ⟨fun h => ⟨bool_t h, _, rfl⟩, fun h => ⟨bool_f h, _, rfl⟩⟩
theorem clo97 : CloFn Tryz.prog 140 8 128 [.int .i64 0, .int .i64 0, .str [], .str [], .bool false, .nils, .nils, .nils] := ⟨⟨Tryz.f140, Tryz.func140, by kernel_rfl, by kernel_rfl⟩, rfl, by decide⟩
theorem shs_rens {l : List Sh} (h : ∀ s ∈ l, s.ok G) (top : Nat) (σ : List Nat) : (l.map Sh.enc).map (AV.rens (rho G top σ)) = l.map Sh.enc := by
  rw [List.map_map]
  exact List.map_congr_left fun s hs => (h s hs).ren top σ
/-- in the place of the only one -/
theorem f87_same {o s : Sh} (h : isHd G k lv gv [o] gs) (hid : o.id = s.id) (hs : s.ok G) (hsm : smallS s) : FnOk Tryz.prog 87 [.ptr k 0, .agg s.enc] G fun r G' => r = .tup [] ∧ (∃ lv', isHd G' k lv' gv [s] gs) ∧ Nx k G G' := by
  refine FnOk.of_WW Tryz.func87 rfl C87ok R87ok E0 good_E0 ?_
  have hk : ∀ L, (G.ext L).get k = _ := fun L => Heap.get_ext_old h.ok h.row L
  have hset := fun b (l : List Blk) (α : Type) (c' : Heap → α) => Heap.setC_here h.ok h.row b l c'
  have hset2 := fun b d (l : List Blk) (α : Type) (c' : Heap → α) => Heap.setC_set_here h.ok h.row b d l c'
  have hk2 := fun b (l : List Blk) => Heap.get_set_here h.ok h.row b l
  simp only [go_sem, C87, hk, Sh.enc]
  refine CL.of (clone_zd clo97 (h.l.ext _) (by show (2 * 1 + 192) * 128 ≤ 281474976710656; decide) (fun top σ => shs_rens (fun s hs => (h.each s hs).ext _) top σ)) ?_
  rintro _ _ ⟨rfl, rfl⟩
  simp only [go_sem, zV_pos (show 0 < 0 + 1 from Nat.zero_lt_succ 0), zB_pos (show 0 < [o.enc].length from Nat.zero_lt_succ 0)]
  refine CL.of (f139_only (q := fun o => decide (o.id = s.id)) (Heap.ok_ext h.ok _) (get_lit rfl) (fun _ _ => call141 ..) (fun top σ => by exact cap_lit (Nat.zero_lt_succ _) 141 top σ) (fun L => by exact f141_ok (s := s) (get_lit2 rfl) o) (decide_eq_true hid)) ?_
  rintro _ G' ⟨rfl, hG⟩
  rw [hG, Heap.set_ext_key _ _ _ _ (by exact Nat.lt_succ_self 1)]
  clear hG
  simp only [go_sem, hk, hset, hset2, hk2]
  have hput := fun L (hj : L[1]? = some (.row true 8 ([s].map Sh.enc))) => isHd.put (hs' := [s]) h (L := L) (j := 1) hj (fun x hx => by rw [List.mem_singleton.1 hx]; exact hs) (fun x hx => by rw [List.mem_singleton.1 hx]; exact hsm) (by show 1 ≤ 8; decide) 1 false
  refine CL.of (f81_ok (hput _ (by rfl)) (Nat.le_refl 1)) ?_
  rintro _ G' ⟨rfl, hG⟩; rw [hG]; clear hG
  simp only [go_sem]
  exact ⟨⟨_, hput _ rfl⟩, Nx.set h.ok h.row _ _⟩
end
end Go.Proofs
/- errors.As, of numbers: by its contract, as a law of memories. -/

set_option linter.all false
set_option linter.all false
set_option maxRecDepth 100000
namespace Go.Proofs
open Go Go.Ev
variable {H : Heap}

section
variable {P : Program} {φ : Phi} {w : World}
theorem cell_of_row (hw : WRel P φ H w) {k : K} {x : AV} {a : At} (hk : H.get k = some (.row true 1 [[x]])) (hφ : φ k = some a) : ∃ v, w.cell? ⟨a.b, a.o, none⟩ = some v ∧ VRel P φ x v ∧ w.frozen? ⟨a.b, a.o, none⟩ = false := by
  obtain ⟨hp, _, pre, vs, post, e, lo, hi, g1, g2, g3, g4, g5, g6⟩ := hw.blk k _ a hk hφ
  have g5 : VRels P φ [x] vs := g5
  cases g5 with
  | cons _ _ v l h1 h2 =>
    cases h2
    refine ⟨v, ?_, h1, ?_⟩
    · simp only [World.cell?, g1]
      simp [← g2]
    · simp only [World.frozen?, g1]
      have h4 := g4 rfl
      simp at g3 ⊢
      omega
/-- a call that writes a number into a cell -/
theorem FnOk.of_calls_set {f : FuncId} {args : List AV} {k : K} {x y v : AV} {y' : Value} (hk : H.get k = some (.row true 1 [[x]])) (hy : ∀ φ, VRel P φ y y') (hone : y'.oneCell' = true) (hv : ∀ φ, ∃ v', VRel P φ v v')
    (h : ∀ φ w args', VRels P φ args args'.toList → WRel P φ H w → ∃ a, φ k = some a ∧ ∀ old, w.cell? ⟨a.b, a.o, none⟩ = some old → w.frozen? ⟨a.b, a.o, none⟩ = false →
      Calls P f args' w fun e u => (∃ v', e = .returned v' ∧ VRel P φ v v') ∧ ∃ w4, Grows w w4 ∧ u = w4.setCell ⟨a.b, a.o, none⟩ y') :
    FnOk P f args H fun r G => r = v ∧ G = H.set k (.row true 1 [[y]]) := by
  intro φ w args' ha hw
  obtain ⟨a, hφ, hc⟩ := h φ w args' ha hw
  obtain ⟨old, h1, _, h2⟩ := cell_of_row hw hk hφ
  refine (hc old h1 h2).mono ?_
  rintro e u ⟨⟨v', rfl, hv'⟩, w4, hg, rfl⟩
  have hw4 := hw.grows hg.size hg.old
  obtain ⟨old4, h14, _, h24⟩ := cell_of_row hw4 hk hφ
  obtain ⟨u, hst, hwu, hE⟩ := storeCells_sound (off := 0) (vals := [y]) (vals' := [y']) (rows' := [[y]]) hw4 hk hφ (.cons _ _ _ _ (hy φ) .nil) (by intro z hz; rw [List.mem_singleton.1 hz]; exact hone) (put_rows 1 [[x]] [[y]] 0 (by intro z hz; rw [List.mem_singleton.1 hz]; rfl) (by intro z hz; rw [List.mem_singleton.1 hz]; rfl) (Nat.le_refl 1))
  have hst' : (storeCells ⟨a.b, a.o, none⟩ [y']).run P w4 = .ok () (w4.setCell ⟨a.b, a.o, none⟩ y') := by
    simp only [storeCells, Addr.add, Sem.run_bind, Nat.add_zero, if_true]
    rw [run_store P w4 _ _ _ hone, h14]
    simp [h24]
  rw [Nat.add_zero] at hst
  rw [hst] at hst'
  injection hst' with _ hu
  subst hu
  refine ⟨v, _, ⟨rfl, rfl⟩, φ, v', rfl, hv', hwu, ?_⟩
  exact ⟨hE.phi, hE.nx, Nat.le_trans hg.size hE.size, fun b hb hn => by rw [hE.keeps b (Nat.lt_of_lt_of_le hb hg.size) hn, hg.old b hb], hE.hidden, fun b hb ho => hE.own b (Nat.lt_of_lt_of_le hb hg.size) ho, hE.os.trans hg.os, hE.tape.trans hg.tape, hE.output.trans hg.output⟩
end
theorem f42_none (x : AV) : FnOk Tryz.prog 42 [.nili, x] H fun r G => r = .bool false ∧ G = H := by
  refine FnOk.of_calls fun φ w args' ha hw => ?_
  obtain ⟨v, u, rfl, h1, h2⟩ := two_args ha
  have e1 := errV_inv (e := none) h1
  obtain rfl : v = .nilIface := e1
  refine (as_nil u w).mono ?_
  rintro e w' ⟨rfl, rfl⟩
  exact ⟨⟨_, rfl, .bool _⟩, Grows.refl _⟩
theorem f42_some {k : K} {x : AV} (hk : H.get k = some (.row true 1 [[x]])) (n : Int) : FnOk Tryz.prog 42 [.iface 63 (.int .i64 n), .iface 87 (.ptr k 0)] H fun r G => r = .bool true ∧ G = H.set k (.row true 1 [[.int .i64 n]]) := by
  refine FnOk.of_calls_set (y' := .int .i64 n) hk (fun φ => .int _ _) rfl (fun φ => ⟨_, .bool _⟩) fun φ w args' ha hw => ?_
  obtain ⟨v, u, rfl, h1, h2⟩ := two_args ha
  have e1 := errV_inv (e := some n) h1
  obtain rfl : v = .iface 63 (.int .i64 n) := e1
  cases h2 with
  | iface _ _ u' h2 =>
    cases h2 with
    | ptr _ _ a ha2 =>
      refine ⟨a, ha2, fun old ho hf => ?_⟩
      refine (as_hit n ⟨a.b, a.o, none⟩ old w (hw.rom 0 _ (List.mem_singleton.2 rfl)).1 ho hf).mono ?_
      rintro e w' ⟨rfl, rfl⟩
      exact ⟨⟨_, rfl, .bool _⟩, _, (((Grows.alloc _ _).trans (Grows.alloc _ _)).trans (Grows.alloc _ _)).trans (Grows.alloc _ _), rfl⟩
end Go.Proofs
/- a shard of an epoch; what is done to a shard that is there: walked. -/

set_option linter.all false
set_option linter.all false
set_option maxRecDepth 100000
namespace Go.Proofs
open Go Go.Ev
variable {H : Heap}

section
variable {G : Heap} {k : K} {lv gv : AV} {hs : List Sh} {gs : List Gn}
theorem f88_yes (h : isHd G k lv gv hs gs) {n e : Int} {i : Nat} {s : Sh} (hx : idx (fun s => decide (s.id = n)) hs 0 = i) (hi : hs[i]? = some s) (he : s.ep = e) : FnOk Tryz.prog 88 [.ptr k 0, .int .i64 n, .int .i64 e] G fun r G' => r = .tup [.agg (s.cop (G.key 0) (G.key 1) (G.key 2)).enc, .nili] ∧ G' = G.ext (copB s) := by
  refine FnOk.dropW ?_
  refine FnOk.of_WW Tryz.func88 rfl C88ok R88ok E0 good_E0 ?_
  have hsm := h.small s (List.mem_of_getElem? hi)
  have drn := bareL.rens hsm.b
  simp only [go_sem, C88]
  refine CL.of (f15_yes (h.ext _) _ hx hi) ?_
  rintro _ _ ⟨rfl, rfl⟩
  simp only [go_sem, Sh.enc, Sh.cop, copB, Heap.key_ext, he]
  exact ⟨_, [1, 2, 3], by simp only [zV_ren, go_sem], rfl, rfl, by decide, by simp only [go_sem, zV_ren, ↓zB_ren, Cell.map_rens, Evn.map_rens, drn, implies_true]⟩
theorem f88_no (h : isHd G k lv gv hs gs) {n : Int} (e : Int) (hx : idx (fun s => decide (s.id = n)) hs 0 = -1) : FnOk Tryz.prog 88 [.ptr k 0, .int .i64 n, .int .i64 e] G fun r G' => r = .tup [.agg zS, .iface 63 (.int .i64 14)] ∧ G' = G := by
  refine FnOk.drop (R := fun r => r = .tup [.agg zS, .iface 63 (.int .i64 14)]) ?_ (by rintro v rfl ρ; simp only [zS, AV.ren, AV.rens])
  refine FnOk.of_WW Tryz.func88 rfl C88ok R88ok E0 good_E0 ?_
  simp only [go_sem, C88]
  refine CL.of (f15_no (h.ext _) n hx) ?_
  rintro _ G' ⟨rfl, hG⟩; rw [hG]; clear hG
  simp only [go_sem, zS]
  exact ⟨_, rfl⟩
theorem f41_none (h : isHd G k lv gv hs gs) (kind : Int) {n0 n1 : Int} (n2 n3 n4 : Int) (x0 x1 x2 x3 x4 x5 x6 x7 x8 x9 : AV) (hx : idx (fun s => decide (s.id = n0)) hs 0 = -1) : FnOk Tryz.prog 41 [.ptr k 0, .agg [.int .i64 kind, .int .i64 n0, .int .i64 n1, .int .i64 n2, .int .i64 n3, .int .i64 n4, x0, x1, x2, x3, x4, x5, x6, x7, x8, x9]] G fun r G' => r = .iface 63 (.int .i64 14) ∧ G' = G := by
  refine FnOk.drop (R := fun r => r = .iface 63 (.int .i64 14)) ?_ (by rintro v rfl ρ; simp only [AV.ren, AV.rens])
  refine FnOk.of_WW Tryz.func41 rfl C41ok R41ok E0 good_E0 ?_
  simp only [go_sem, C41]
  refine CL.of (f88_no (h.ext _) n1 hx) ?_
  rintro _ G' ⟨rfl, hG⟩; rw [hG]; clear hG
  simp only [go_sem, zS]
  exact ⟨_, rfl⟩
theorem smallS.con {s : Sh} (h : smallS s) (id ep : Int) (fr to : List Nat) (frz : Bool) (cv ev dv : AV) : smallS ⟨id, ep, fr, to, frz, s.cells, s.evs, s.done, cv, ev, dv⟩ := ⟨h.b, h.c, h.e, h.d⟩
theorem Sh.cop_con {H : Heap} {s : Sh} (h : s.ok H) {L : List Blk} {i j m : Nat} (h1 : L[i]? = some (zB (nilB s.cv) 5 (s.cells.map Cell.enc))) (h2 : L[j]? = some (zB (nilB s.ev) 4 (s.evs.map Evn.enc))) (h3 : L[m]? = some (zB (nilB s.dv) 6 (s.done.map Dn.enc))) (id ep : Int) (fr to : List Nat) (frz : Bool) :
    Sh.ok (H.ext L) ⟨id, ep, fr, to, frz, s.cells, s.evs, s.done, zV (nilB s.cv) (H.key i) 5 s.cells.length, zV (nilB s.ev) (H.key j) 4 s.evs.length, zV (nilB s.dv) (H.key m) 6 s.done.length⟩ :=
  ⟨arr_zV h1 (List.length_map ..), arr_zV h2 (List.length_map ..), arr_zV h3 (List.length_map ..), h.dok.ext L, h.cl, h.el, h.dl⟩
theorem idx_one {α : Type} {q : α → Bool} {s : α} (h : q s = true) : idx q [s] 0 = ((0 : Nat) : Int) := by unfold idx; rw [h]; rfl
theorem f41_freeze {s : Sh} (h : isHd G k lv gv [s] gs) {n0 n1 : Int} (n2 n3 n4 : Int) (x0 x1 x2 x3 x4 x5 x6 x7 x8 x9 : AV) (hid : s.id = n0) (he : s.ep = n1) (kind : Int) (hkd : kind = 3) : FnOk Tryz.prog 41 [.ptr k 0, .agg [.int .i64 kind, .int .i64 n0, .int .i64 n1, .int .i64 n2, .int .i64 n3, .int .i64 n4, x0, x1, x2, x3, x4, x5, x6, x7, x8, x9]] G fun r G' => r = .nili ∧ (∃ lv' cv ev dv, isHd G' k lv' gv [⟨s.id, s.ep, s.fr, s.to, true, s.cells, s.evs, s.done, cv, ev, dv⟩] gs) ∧ Nx k G G' := by
  subst hkd
  refine FnOk.of_WW Tryz.func41 rfl C41ok R41ok E0 good_E0 ?_
  have hsm := h.small s (by simp)
  have hok := h.each s (by simp)
  simp only [go_sem, C41]
  refine CL.of (f88_yes (h.ext _) (idx_one (decide_eq_true hid)) rfl he) ?_
  rintro _ _ ⟨rfl, rfl⟩
  simp only [go_sem, Sh.enc, Sh.cop, copB, Heap.key_ext]
  refine CL.of (f87_same (s := ⟨s.id, s.ep, s.fr, s.to, true, s.cells, s.evs, s.done, zV (nilB s.cv) (G.key 1) 5 s.cells.length, zV (nilB s.ev) (G.key 2) 4 s.evs.length, zV (nilB s.dv) (G.key 3) 6 s.done.length⟩) (h.ext _) rfl (by exact Sh.cop_con hok rfl rfl rfl ..) (hsm.con ..)) ?_
  rintro _ G' ⟨rfl, ⟨lv', hhd⟩, hnx⟩
  refine WW.nil ?_
  simp only [go_sem]
  rw [Heap.ext_nil]
  exact ⟨⟨lv', _, _, _, hhd⟩, (Nx.ext h.ok _).trans hnx⟩
end
end Go.Proofs
/- a node's records done: freezes, thaws, refusals: walked. -/

set_option linter.all false
set_option linter.all false
set_option maxRecDepth 100000
namespace Go.Proofs
open Go Go.Ev
variable {H : Heap}

def zA : List AV := [.int .i64 0, .str [], .int .i64 0, .nils]
theorem f85_ok {kd : Int} (hk : ¬ kd = 6) (key : List Nat) (a b c d : AV) : FnOk Tryz.prog 85 [.agg [.int .i64 kd, .str key, a, b, c, d]] H fun r G => r = .str key ∧ G = H := by
  refine FnOk.drop (R := fun r => r = .str key) ?_ (by rintro v rfl ρ; rw [AV.ren])
  refine FnOk.of_WW Tryz.func85 rfl C85ok R85ok E0 good_E0 ?_
  have z1 := eq_false hk
  simp only [go_sem, C85, z1]
  exact ⟨_, rfl⟩
section
variable {G : Heap} {k : K} {lv gv : AV} {hs : List Sh} {gs : List Gn}
theorem isHd.reset (h : isHd G k lv gv hs gs) : isHd (G.set k (.row true 2 [[lv, gv]])) k lv gv hs gs := by
  have h1 := Heap.get_set_here h.ok h.row (.row true 2 [[lv, gv]]) []
  rw [Heap.ext_nil] at h1
  exact ⟨Heap.ok_set h.ok h.row, h1, h.l.set h.row (by decide), gone_set h _, fun s hs => ok_set' h (h.each s hs) (h.small s hs) _, h.small, h.few⟩
theorem evs_cell {j : K} {wr : Bool} {a : Int} {x y z v : AV} {l : List Evn} (h : Arr G 4 v (l.map Evn.enc)) (hj : G.get j = some (.row wr 4 [[.int .i64 a, x, y, z]])) (b : Blk) : Arr (G.set j b) 4 v (l.map Evn.enc) := by
  rcases h with g | ⟨c, off, ex, cap, hv, hc, g⟩
  · exact .inl g
  · refine .inr ⟨c, off, ex, cap, hv, hc, fun hx => ?_⟩
    obtain ⟨r, wr', rows', h1, h2, h3⟩ := g hx
    refine ⟨r, wr', rows', h1, ?_, h3⟩
    rw [Heap.get_set, if_neg fun e => ?_]
    · exact h2
    · subst e
      rw [h2] at hj
      have h5 := Option.some.inj hj
      injection h5 with _ _ h5
      subst h5
      cases l with
      | nil => exact hx rfl
      | cons c l =>
        cases r with
        | zero =>
          have h6 := congrArg (fun z => z[0]?) h3
          simp only [List.map_cons, List.length_cons, List.drop_zero, List.take_succ_cons, List.getElem?_cons_zero, Evn.enc] at h6
          have h7 := Option.some.inj h6
          injection h7 with h7 _
          cases h7
        | succ r => simp at h3
/-- an answer's cell is no part of it -/
theorem isHd.cell (h : isHd G k lv gv hs gs) {j : K} {wr : Bool} {a : Int} {x y z : AV} (hj : G.get j = some (.row wr 4 [[.int .i64 a, x, y, z]])) (b : Blk) : isHd (G.set j b) k lv gv hs gs := by
  refine ⟨Heap.ok_set h.ok hj, ?_, h.l.set hj (by decide), h.g.set hj (by decide), fun s hs => ?_, h.small, h.few⟩
  · rw [Heap.get_set, if_neg fun e => ?_]
    · exact h.row
    · subst e
      have h1 := h.row
      rw [hj] at h1
      cases h1
  · have ho := h.each s hs
    exact ⟨ho.c.set hj (by decide), evs_cell ho.e hj b, ho.d.set hj (by decide), bareL.ok (h.small s hs).b _, ho.cl, ho.el, ho.dl⟩
theorem ne_key {b : Blk} (hok : G.ok) (h : G.get k = some b) (i : Nat) : k ≠ G.key i := by
  rintro rfl
  have := hok _ _ h
  rw [Heap.toNat_key] at this
  omega
theorem Nx.cell {G' : Heap} (h : Nx k G G') (hok : G.ok) (hok' : G'.ok) {i : Nat} {c : Blk} (hc : G'.get (G.key i) = some c) (b : Blk) (L : List Blk) : Nx k G ((G'.set (G.key i) b).ext L) :=
  ⟨fun j d hj hd => Heap.get_set_there hok' (h.keep j d hj hd) (fun e => ne_key hok hd i e.symm) b L,
    fun B hB hl => ext_own (set_own hok' hc (h.own B hB hl) (by obtain ⟨M, rfl⟩ := hB; rw [Heap.toNat_key, Heap.nx_ext, Heap.toNat_key]; omega)) L,
    by rw [Heap.nx_ext, Heap.toNat_key]; exact Nat.le_trans h.le (Nat.le_add_right _ _)⟩
theorem f13_err (h : isHd G k lv gv hs gs) {kind : Int} (hkd : kind = 3 ∨ kind = 4 ∨ kind = 6 ∨ kind = 7) {n0 n1 : Int} (n2 n3 n4 : Int) (x0 x1 x2 x3 x4 x5 x6 x7 x8 x9 : AV) {m : Int} (h21 : ∀ L, FnOk Tryz.prog 41 [.ptr k 0, .agg [.int .i64 kind, .int .i64 n0, .int .i64 n1, .int .i64 n2, .int .i64 n3, .int .i64 n4, x0, x1, x2, x3, x4, x5, x6, x7, x8, x9]] (G.ext L) fun r G' => r = .iface 63 (.int .i64 m) ∧ G' = G.ext L) :
    FnOk Tryz.prog 13 [.ptr k 0, .agg [.int .i64 kind, .int .i64 n0, .int .i64 n1, .int .i64 n2, .int .i64 n3, .int .i64 n4, x0, x1, x2, x3, x4, x5, x6, x7, x8, x9]] G fun r G' => r = .tup [.agg zA, .iface 63 (.int .i64 m)] ∧ isHd G' k lv gv hs gs ∧ Nx k G G' := by
  refine FnOk.of_WW Tryz.func13 rfl C13ok R13ok E0 good_E0 ?_
  have hk : ∀ L, (G.ext L).get k = _ := fun L => Heap.get_ext_old h.ok h.row L
  have hset := fun b (l : List Blk) (α : Type) (c' : Heap → α) => Heap.setC_here h.ok h.row b l c'
  rcases hkd with rfl | rfl | rfl | rfl
  all_goals
    simp only [go_sem, C13, hk]
    refine CL.of (h21 _) ?_
    rintro _ G' ⟨rfl, hG⟩; rw [hG]; clear hG
    simp only [go_sem]
    refine CL.of (f42_some (x := .int .i64 0) (get_lit rfl) m) ?_
    rintro _ G' ⟨rfl, hG⟩
    rw [hG, Heap.set_ext_key _ _ _ _ (by exact Nat.lt_of_sub_eq_succ rfl)]
    clear hG
    simp only [go_sem, hk, hset, zA]
    exact ⟨h.reset.ext _, Nx.set h.ok h.row _ _⟩
/-- what is done without an error -/
theorem f13_fine (h : isHd G k lv gv hs gs) {kind : Int} (hkd : kind = 3 ∨ kind = 4 ∨ kind = 6 ∨ kind = 7) {n0 n1 : Int} (n2 n3 n4 : Int) (x0 x1 x2 x3 x4 x5 x6 x7 x8 x9 : AV) {hs' : List Sh → Prop} {gs' : List Gn}
    (h21 : ∀ L, FnOk Tryz.prog 41 [.ptr k 0, .agg [.int .i64 kind, .int .i64 n0, .int .i64 n1, .int .i64 n2, .int .i64 n3, .int .i64 n4, x0, x1, x2, x3, x4, x5, x6, x7, x8, x9]] (G.ext L) fun r G' => r = .nili ∧ (∃ lv' gv' l, hs' l ∧ isHd G' k lv' gv' l gs') ∧ Nx k (G.ext L) G') :
    FnOk Tryz.prog 13 [.ptr k 0, .agg [.int .i64 kind, .int .i64 n0, .int .i64 n1, .int .i64 n2, .int .i64 n3, .int .i64 n4, x0, x1, x2, x3, x4, x5, x6, x7, x8, x9]] G fun r G' => r = .tup [.agg zA, .nili] ∧ (∃ lv' gv' l, hs' l ∧ isHd G' k lv' gv' l gs') ∧ Nx k G G' := by
  refine FnOk.of_WW Tryz.func13 rfl C13ok R13ok E0 good_E0 ?_
  have hk : ∀ L, (G.ext L).get k = _ := fun L => Heap.get_ext_old h.ok h.row L
  rcases hkd with rfl | rfl | rfl | rfl
  all_goals
    simp only [go_sem, C13, hk]
    refine CL.of (h21 _) ?_
    rintro _ G' ⟨rfl, ⟨lv', gv', l, hl, hhd⟩, hnx⟩
    have e1 := hnx.keep (G.key 1) _ (ne_key h.ok h.row 1) (get_lit rfl)
    have e3 := hnx.keep (G.key 3) _ (ne_key h.ok h.row 3) (get_lit rfl)
    have g1 := fun L => Heap.get_ext_old hhd.ok e1 L
    have g3 := fun L => Heap.get_ext_old hhd.ok e3 L
    have s1 := fun b (l : List Blk) (α : Type) (c' : Heap → α) => Heap.setC_here hhd.ok e1 b l c'
    have k1 := fun b (l : List Blk) => Heap.get_set_here hhd.ok e1 b l
    refine WW.nil ?_
    simp only [go_sem]
    refine CL.of (f42_none _) ?_
    rintro _ G' ⟨rfl, hG⟩; rw [hG]; clear hG
    simp only [go_sem]
    refine CL.of (f43_ok none 10) ?_
    rintro _ G' ⟨rfl, hG⟩; rw [hG]; clear hG
    simp only [go_sem, g1, g3, s1, k1]
    exact ⟨rfl, ⟨lv', gv', l, hl, (hhd.cell e1 _).ext _⟩, ((Nx.ext h.ok _).trans hnx).cell h.ok hhd.ok e1 _ _⟩
end
end Go.Proofs
/- what was given away, in order; the first record: walked. -/

set_option linter.all false
set_option linter.all false
set_option maxRecDepth 100000
namespace Go.Proofs
open Go Go.Ev
variable {H : Heap}

theorem f168_one {v : AV} {n : Nat} (hn : n ≤ 1) (g : AV) : FnOk Tryz.prog 168 [v, .int .i64 0, .int .i64 n, g] H fun r G => r = .tup [] ∧ G = H := by
  refine FnOk.drop (R := fun r => r = .tup []) ?_ (by rintro v rfl ρ; simp only [AV.ren, AV.rens])
  refine FnOk.of_WW Tryz.func168 rfl C168ok R168ok E0 good_E0 ?_
  have hw01 : IntKind.i64.wrap (0 + 1) = 1 := rfl
  have hc : ¬ (1 : Int) < (n : Int) := by omega
  simp only [go_sem, C168, hw01]
  refine LL.st good_E0 (fun _ : Nat => 0) (fun _ => True) (fun _ => [((.i .z), .int .i64 n), ((.i (.o (.o .z))), .int .i64 1)]) (fun _ => []) ?_ 0 (σ := []) (Wk.of rfl (by decide) (by simp only [go_sem]; first | done | rfl | trace_state) (by simp only [go_sem])) trivial
  rintro _ _
  simp only [go_sem, hc]
  exact ⟨_, rfl⟩
theorem f177_ok {n : Nat} (hn : n ≤ 1) : FnOk Tryz.prog 177 [.int .u64 n] H fun r G => r = .int .i64 n ∧ G = H := by
  refine FnOk.drop (R := fun r => r = .int .i64 n) ?_ (by rintro v rfl ρ; rw [AV.ren])
  refine FnOk.of_WW Tryz.func177 rfl C177ok R177ok E0 good_E0 ?_
  have h : n = 0 ∨ n = 1 := by omega
  have hw0 : IntKind.i64.wrap (0 + 0) = 0 := rfl
  have hw1 : IntKind.i64.wrap (0 + 1) = 1 := rfl
  have u0 : IntKind.u8.wrap 0 = ((0 : Nat) : Int) := rfl
  have u1 : IntKind.u8.wrap 1 = ((1 : Nat) : Int) := rfl
  have i0 : IntKind.i64.wrap 0 = 0 := rfl
  have i1 : IntKind.i64.wrap 1 = 1 := rfl
  rcases h with rfl | rfl
  · simp only [go_sem, C177, hw0, hw1, u0, u1, i0, i1, Int.ofNat_zero, Int.natCast_zero, Int.ofNat_one, Int.natCast_one]
    exact ⟨_, rfl⟩
  · simp only [go_sem, C177, hw0, hw1, u0, u1, i0, i1, Int.ofNat_zero, Int.natCast_zero, Int.ofNat_one, Int.natCast_one]
    exact ⟨_, rfl⟩
theorem f133_ok {n : Nat} (hn : n ≤ 1) : FnOk Tryz.prog 133 [.int .u64 n] H fun r G => r = .int .i64 n ∧ G = H := by
  refine FnOk.drop (R := fun r => r = .int .i64 n) ?_ (by rintro v rfl ρ; rw [AV.ren])
  refine FnOk.of_WW Tryz.func133 rfl C133ok R133ok E0 good_E0 ?_
  simp only [go_sem, C133]
  refine CL.of (f177_ok hn) ?_
  rintro _ G' ⟨rfl, hG⟩; rw [hG]; clear hG
  simp only [go_sem]
  exact ⟨_, rfl⟩
theorem f132_ok {v : AV} (hv : ∀ top σ, AV.ren (rho H top σ) v = v) {n : Nat} (hn : n ≤ 1) (f : FuncId) : FnOk Tryz.prog 132 [v, .int .i64 0, .int .i64 n, .int .i64 n, .fn (.func f) [] []] H fun r G => r = .tup [] ∧ G = H := by
  refine FnOk.drop (R := fun r => r = .tup []) ?_ (by rintro v rfl ρ; simp only [AV.ren, AV.rens])
  refine FnOk.of_WW Tryz.func132 rfl C132ok R132ok E0 good_E0 ?_
  have hw : IntKind.i64.wrap ((n : Int) - 0) = n := by rw [Int.sub_zero]; exact wrap_i64 (by omega) (by omega)
  have hc : (n : Int) ≤ 12 := by omega
  simp only [go_sem, C132]
  refine LL.st good_E0 (fun _ : Nat => 0) (fun _ => True) (fun _ => [(.z, v), ((.o .z), .int .i64 0), ((.i .z), .int .i64 n), ((.i (.o .z)), .fn (.func f) [] [])]) (fun _ => []) ?_ 0 (σ := []) (Wk.of rfl (by decide) (by simp only [go_sem, hv]; first | done | rfl | trace_state) (by simp only [go_sem])) trivial
  rintro _ _
  simp only [go_sem, hw, hc]
  refine CL.of (f168_one hn _) ?_
  rintro _ G' ⟨rfl, hG⟩; rw [hG]; clear hG
  simp only [go_sem]
  exact ⟨_, rfl⟩
theorem f82_ok {v : AV} {gs : List Gn} (hA : Arr H 2 v (gs.map Gn.enc)) (hn : gs.length ≤ 1) (f : FuncId) : FnOk Tryz.prog 82 [v, .fn (.func f) [] []] H fun r G => r = .tup [] ∧ G = H := by
  refine FnOk.drop (R := fun r => r = .tup []) ?_ (by rintro v rfl ρ; simp only [AV.ren, AV.rens])
  refine FnOk.of_WW Tryz.func82 rfl C82ok R82ok E0 good_E0 ?_
  have hlen := fun G => hA.len G
  simp only [List.length_map] at hlen
  have hw : IntKind.u64.wrap (gs.length : Int) = gs.length := by
    have h : gs.length = 0 ∨ gs.length = 1 := by omega
    rcases h with h | h <;> rw [h] <;> rfl
  simp only [go_sem, C82, hlen, hw]
  refine CL.of (f133_ok hn) ?_
  rintro _ G' ⟨rfl, hG⟩; rw [hG]; clear hG
  simp only [go_sem]
  refine CL.of (f132_ok (fun top σ => (hA.ext _).ren top σ) hn f) ?_
  rintro _ G' ⟨rfl, hG⟩; rw [hG]; clear hG
  simp only [go_sem]
  exact ⟨_, rfl⟩
/-- a shard with nothing in it -/
def nS (id ep : Int) (fr to : List Nat) (z : Bool) : Sh := ⟨id, ep, fr, to, z, [], [], [], .nils, .nils, .nils⟩
theorem nS_ok (H : Heap) (id ep : Int) (fr to : List Nat) (z : Bool) : (nS id ep fr to z).ok H := ⟨.inl ⟨rfl, rfl⟩, .inl ⟨rfl, rfl⟩, .inl ⟨rfl, rfl⟩, fun d hd => absurd hd List.not_mem_nil, Nat.lt_of_sub_eq_succ rfl, Nat.lt_of_sub_eq_succ rfl, Nat.lt_of_sub_eq_succ rfl⟩
theorem nS_small (id ep : Int) (fr to : List Nat) (z : Bool) : smallS (nS id ep fr to z) := ⟨fun d hd => absurd hd List.not_mem_nil, Nat.lt_of_sub_eq_succ rfl, Nat.lt_of_sub_eq_succ rfl, Nat.lt_of_sub_eq_succ rfl⟩
theorem f52_n (id ep : Int) (fr to : List Nat) (z : Bool) : FnOk Tryz.prog 52 [.agg (nS id ep fr to z).enc] H fun r G => r = .agg (nS id ep fr to z).enc ∧ G = H := by
  refine FnOk.drop (R := fun r => r = .agg (nS id ep fr to z).enc) ?_ (by rintro v rfl ρ; simp only [nS, Sh.enc, AV.ren, AV.rens])
  refine (f52_ok (nS_ok H id ep fr to z) (nS_small ..)).mono ?_
  rintro r G ⟨rfl, rfl⟩
  exact ⟨rfl, _, rfl⟩
noncomputable def ECp (f : FuncId) (args : List AV) (H : Heap) : RC :=
  match f with
  | 52 => match args with | [.agg [.int .i64 id, .int .i64 ep, .str fr, .str to, .bool z, .nils, .nils, .nils]] => .ok (.agg [.int .i64 id, .int .i64 ep, .str fr, .str to, .bool z, .nils, .nils, .nils]) H | _ => .fail
  | _ => .fail
theorem good_ECp : Ev.Good Tryz.prog ECp := by
  intro f args H r G he φ w args' ha hw
  refine (?_ : FnOk Tryz.prog f args H fun v' G' => v' = r ∧ G' = G).one φ w args' ha hw
  unfold ECp at he
  split at he
  · split at he
    · cases he; exact f52_n _ _ _ _ _
    · cases he
  · cases he
theorem ec41 (id ep : Int) (fr to : List Nat) (z : Bool) (H : Heap) : ECp 52 [.agg [.int .i64 id, .int .i64 ep, .str fr, .str to, .bool z, .nils, .nils, .nils]] H = .ok (.agg [.int .i64 id, .int .i64 ep, .str fr, .str to, .bool z, .nils, .nils, .nils]) H := rfl
theorem clo42 : CloFn Tryz.prog 60 2 16 [.int .i64 0, .int .i64 0] := ⟨⟨Tryz.f60, Tryz.func60, by kernel_rfl, by kernel_rfl⟩, rfl, by decide⟩
theorem f80_ok {s : Sh} (h : s.ok H) : FnOk Tryz.prog 80 [.agg s.enc] H fun r G => r = .bool (decide (¬ isSh s)) ∧ G = H := by
  refine FnOk.drop (R := fun r => r = .bool (decide (¬ isSh s))) ?_ (by rintro v rfl ρ; rw [AV.ren])
  refine FnOk.of_WW Tryz.func80 rfl C80ok R80ok E0 good_E0 ?_
  simp only [go_sem, C80, Sh.enc]
  refine CL.bool (f69_ok (h.ext _)) (fun g => ?_) (fun g => ?_)
  · simp only [go_sem]
    exact ⟨bool_f fun h => h g, _, rfl⟩
  · simp only [go_sem]
    exact ⟨bool_t g, _, rfl⟩
theorem f79_one {s : Sh} (h : s.ok H) (hs : isSh s) {v : AV} (hA : Arr H 8 v [s.enc]) : FnOk Tryz.prog 79 [v, .fn (.func 80) [] []] H fun r G => r = .bool false ∧ G = H := by
  refine FnOk.drop (R := fun r => r = .bool false) ?_ (by rintro v rfl ρ; rw [AV.ren])
  refine FnOk.of_WW Tryz.func79 rfl C79ok R79ok E0 good_E0 ?_
  simp only [go_sem, C79]
  have h64 := f98_ok (l := [s]) (caps := []) (q := fun s => decide (¬ isSh s)) hA (by show 1 ≤ 100000; decide) (fun _ _ => call80 ..) (fun _ _ => by simp only [AV.ren, AV.rens]) (fun x hx L => by rw [List.mem_singleton.1 hx]; exact f80_ok (h.ext L))
  have hx : idx (fun s => decide (¬ isSh s)) [s] 0 = -1 := by unfold idx; rw [decide_eq_false (fun g => g hs), if_neg Bool.false_ne_true]; rfl
  rw [hx, ← Heap.ext_nil H] at h64
  refine CL.of h64 ?_
  rintro _ G' ⟨rfl, hG⟩; rw [hG]; clear hG
  simp only [go_sem]
  exact ⟨_, rfl⟩
end Go.Proofs
/- the record of all there is, of one shard: walked. -/

set_option linter.all false
set_option linter.all false
set_option maxRecDepth 100000
namespace Go.Proofs
open Go Go.Ev
variable {H : Heap}

section
variable {G : Heap} {k : K}
theorem f38_base (h : isHd G k .nils .nils [] []) {v : AV} {id ep : Int} {fr to : List Nat} {z : Bool} (hA : Arr G 8 v [(nS id ep fr to z).enc]) (hs : isSh (nS id ep fr to z)) :
    FnOk Tryz.prog 38 [.ptr k 0, .agg [.int .i64 1, .int .i64 0, .int .i64 0, .int .i64 0, .int .i64 0, .int .i64 0, .int .i64 0, .str [], .str [], .str [], .int .i64 0, .nils, .str [], .str [], v, .nils]] G fun r G' => r = .nili ∧ (∃ lv', isHd G' k lv' .nils [nS id ep fr to z] []) ∧ Nx k G G' := by
  refine FnOk.of_WW Tryz.func38 rfl C38ok R38ok ECp good_ECp ?_
  have hk : ∀ L, (G.ext L).get k = _ := fun L => Heap.get_ext_old h.ok h.row L
  have hset := fun b (l : List Blk) (α : Type) (c' : Heap → α) => Heap.setC_here h.ok h.row b l c'
  have hset2 := fun b d (l : List Blk) (α : Type) (c' : Heap → α) => Heap.setC_set_here h.ok h.row b d l c'
  have hk2 := fun b (l : List Blk) => Heap.get_set_here h.ok h.row b l
  have hlen := fun G => hA.len G
  simp only [go_sem, C38]
  refine CL.of (f79_one (nS_ok _ id ep fr to z) hs (hA.ext _)) ?_
  rintro _ G' ⟨rfl, hG⟩; rw [hG]; clear hG
  simp only [go_sem]
  refine CL.of (clone_nil clo42) ?_
  rintro _ G' ⟨rfl, hG⟩; rw [hG]; clear hG
  simp only [go_sem, hk, hset, hset2, hk2, hlen]
  obtain ⟨kk, r, ex', cap', wr, rows, hv, hrho, hgo, hrow⟩ := hA.at h.ok (j := 0) (Nat.zero_lt_succ _)
  have hg0 := hgo []
  rw [Heap.ext_nil] at hg0
  have hne : k ≠ kk := by
    rintro rfl
    have := h.row
    rw [hg0] at this
    cases this
  have hw01 : IntKind.i64.wrap (0 + 1) = 1 := rfl
  have hrow : rows[r]? = some [.int .i64 id, .int .i64 ep, .str fr, .str to, .bool z, .nils, .nils, .nils] := hrow
  have hv : v = .slice kk (r * 8) 1 8 ex' cap' := hv
  refine LL.sth good_ECp (fun i : Nat => 1 - i) (fun i M => (i = 0 ∧ isHd M k .nils .nils [] [] ∧ Nx k G M) ∨ (i = 1 ∧ (∃ lv', isHd M k lv' .nils [nS id ep fr to z] []) ∧ Nx k G M))
    (fun i => [(.z, .ptr k 0), ((.o (.i (.i (.o .z)))), v), ((.i (.i (.i (.o .z)))), .int .i64 1), ((.o (.o (.o (.i .z)))), .int .i64 i)]) ?_ 0 (.inl ⟨rfl, h.reset.ext _, Nx.set h.ok h.row _ _⟩) (Slots.all (by simp only [go_sem]; first | done | rfl | trace_state))
  rintro i M (⟨rfl, hM, hnx⟩ | ⟨rfl, ⟨lv', hM⟩, hnx⟩)
  · have hkM : ∀ L, (M.ext L).get k = _ := fun L => Heap.get_ext_old hM.ok hM.row L
    have hgM : ∀ L, (M.ext L).get kk = _ := fun L => Heap.get_ext_old hM.ok (hnx.keep kk _ hne hg0) L
    have hsetM := fun b (l : List Blk) (α : Type) (c' : Heap → α) => Heap.setC_here hM.ok hM.row b l c'
    simp only [go_sem, hv, hkM, hgM, hrow, ec41, hsetM, hw01]
    refine ⟨1, by show 1 - 1 < 1 - 0; decide, .inr ⟨rfl, ⟨_, isHd.put (hs' := [nS id ep fr to z]) hM (j := 2) rfl (fun x hx => by rw [List.mem_singleton.1 hx]; exact nS_ok ..) (fun x hx => by rw [List.mem_singleton.1 hx]; exact nS_small ..) (by show 1 ≤ 8; decide) 1 false⟩, hnx.trans (Nx.set hM.ok hM.row _ _)⟩, Slots.all (by simp only [go_sem, hv]; first | done | rfl | trace_state)⟩
  · have hkM : ∀ L, (M.ext L).get k = _ := fun L => Heap.get_ext_old hM.ok hM.row L
    simp only [go_sem, hv, hkM]
    refine CL.of (f81_ok (hM.ext _) (Nat.le_refl 1)) ?_
    rintro _ G' ⟨rfl, hG⟩; rw [hG]; clear hG
    simp only [go_sem, hkM]
    refine CL.of (f82_ok (gs := []) (.inl ⟨rfl, rfl⟩) (Nat.zero_le _) 83) ?_
    rintro _ G' ⟨rfl, hG⟩; rw [hG]; clear hG
    simp only [go_sem]
    exact ⟨⟨_, hM.ext _⟩, hnx.trans (Nx.ext hM.ok _)⟩
end
end Go.Proofs
/- a node with one shard; records of a shard's number and epoch: walked. -/

set_option linter.all false
set_option linter.all false
set_option maxRecDepth 100000
namespace Go.Proofs
open Go Go.Ev
variable {H : Heap}

section
variable {G : Heap} {k : K}
theorem f13_base (h : isHd G k .nils .nils [] []) {v : AV} {id ep : Int} {fr to : List Nat} {z : Bool} (hA : Arr G 8 v [(nS id ep fr to z).enc]) (hs : isSh (nS id ep fr to z)) :
    FnOk Tryz.prog 13 [.ptr k 0, .agg [.int .i64 1, .int .i64 0, .int .i64 0, .int .i64 0, .int .i64 0, .int .i64 0, .int .i64 0, .str [], .str [], .str [], .int .i64 0, .nils, .str [], .str [], v, .nils]] G fun r G' => r = .tup [.agg zA, .nili] ∧ (∃ lv', isHd G' k lv' .nils [nS id ep fr to z] []) ∧ Nx k G G' := by
  refine FnOk.of_WW Tryz.func13 rfl C13ok R13ok E0 good_E0 ?_
  have hk : ∀ L, (G.ext L).get k = _ := fun L => Heap.get_ext_old h.ok h.row L
  simp only [go_sem, C13, hk]
  refine CL.of (f38_base (h.ext _) (hA.ext _) hs) ?_
  rintro _ G' ⟨rfl, ⟨lv', hhd⟩, hnx⟩
  have e1 := hnx.keep (G.key 1) _ (ne_key h.ok h.row 1) (get_lit rfl)
  have e3 := hnx.keep (G.key 3) _ (ne_key h.ok h.row 3) (get_lit rfl)
  have g1 := fun L => Heap.get_ext_old hhd.ok e1 L
  have g3 := fun L => Heap.get_ext_old hhd.ok e3 L
  have s1 := fun b (l : List Blk) (α : Type) (c' : Heap → α) => Heap.setC_here hhd.ok e1 b l c'
  have k1 := fun b (l : List Blk) => Heap.get_set_here hhd.ok e1 b l
  refine WW.nil ?_
  simp only [go_sem]
  refine CL.of (f42_none _) ?_
  rintro _ G' ⟨rfl, hG⟩; rw [hG]; clear hG
  simp only [go_sem]
  refine CL.of (f43_ok none 10) ?_
  rintro _ G' ⟨rfl, hG⟩; rw [hG]; clear hG
  simp only [go_sem, g1, g3, s1, k1]
  exact ⟨rfl, ⟨lv', (hhd.cell e1 _).ext _⟩, ((Nx.ext h.ok _).trans hnx).cell h.ok hhd.ok e1 _ _⟩
end
/-- the record of a number and an epoch -/
def rcE (kind a b c d e : Int) : List AV := [.int .i64 kind, .int .i64 a, .int .i64 b, .int .i64 c, .int .i64 d, .int .i64 e, .int .i64 0, .str [], .str [], .str [], .int .i64 0, .nils, .str [], .str [], .nils, .nils]
theorem readC_five {β : Type} (f : β) (a b c d e : AV) (k : List AV → β) : readC f 1 [[a], [b], [c], [d], [e]] 0 5 k = k [a, b, c, d, e] := rfl
theorem f14_ok (kind a b c d e : Int) : FnOk Tryz.prog 14 [.int .i64 kind, .agg [.int .i64 a, .int .i64 b, .int .i64 c, .int .i64 d, .int .i64 e]] H fun r G => r = .agg (rcE kind a b c d e) ∧ G = H := by
  refine FnOk.drop (R := fun r => r = .agg (rcE kind a b c d e)) ?_ (by rintro v rfl ρ; simp only [rcE, AV.ren, AV.rens])
  refine FnOk.of_WW Tryz.func14 rfl C14ok R14ok E0 good_E0 ?_
  simp only [go_sem, C14, rcE, readC_five]
  exact ⟨_, rfl⟩
theorem f12_ok : FnOk Tryz.prog 12 [] H fun r G => r = .ptr (H.key 0) 0 ∧ G = H.ext [.row true 2 [[.nils, .nils]]] := by
  refine FnOk.of_WW Tryz.func12 rfl C12ok R12ok E0 good_E0 ?_
  simp only [go_sem, C12]
theorem shOne (n : Int) (h1 : 1 ≤ n) (h2 : n ≤ 1000000) : isSh (nS 1 n [] [] false) := ⟨⟨by show (1 : Int) ≤ 1; decide, by show (1 : Int) ≤ 1000000000000; decide, h1, h2⟩, k_span, fun c hc => absurd hc List.not_mem_nil, by show (0 : Int) ≤ 24; decide, ⟨fun j h => absurd h (Nat.not_lt_zero _), fun e he => absurd he List.not_mem_nil, fun c hc => absurd hc List.not_mem_nil⟩, fun j h => absurd h (Nat.not_lt_zero _)⟩
theorem newHd (hok : H.ok) (M : List Blk) : isHd (H.ext (.row true 2 [[.nils, .nils]] :: M)) (H.key 0) .nils .nils [] [] :=
  ⟨Heap.ok_ext hok _, get_lit rfl, .inl ⟨rfl, rfl⟩, .inl ⟨rfl, rfl⟩, fun s hs => absurd hs List.not_mem_nil, fun s hs => absurd hs List.not_mem_nil, Nat.zero_le _, Nat.zero_le _⟩
theorem f11_ok : FnOk Tryz.prog 11 [] H fun r G => r = .ptr (H.key 0) 0 ∧ (∃ lv', isHd G (H.key 0) lv' .nils [nS 1 3 [] [] false] []) ∧ ∃ L, G = H.ext L := by
  refine FnOk.assume fun hok => ?_
  refine FnOk.of_WW Tryz.func11 rfl C11ok R11ok E0 good_E0 ?_
  simp only [go_sem, C11]
  refine CL.of f12_ok ?_
  rintro _ G' ⟨rfl, hG⟩
  rw [hG]
  clear hG
  simp only [go_sem, Heap.key_ext]
  have hA : ∀ b0 b1, Arr (H.ext [b0, .row true 8 [(nS 1 3 [] [] false).enc], b1]) 8 (.slice (H.key 1) 0 1 8 true 1) [(nS 1 3 [] [] false).enc] := fun b0 b1 => .inr ⟨H.key 1, 0, true, 1, rfl, Heap.ok_ext hok _ _ _ (get_lit rfl), fun _ => ⟨0, true, _, rfl, get_lit rfl, rfl⟩⟩
  have hA : ∀ b0, Arr (H.ext [b0, .row true 8 [(nS 1 3 [] [] false).enc]]) 8 (.slice (H.key 1) 0 1 8 true 1) [(nS 1 3 [] [] false).enc] := fun b0 => .inr ⟨H.key 1, 0, true, 1, rfl, Heap.ok_ext hok _ _ _ (get_lit rfl), fun _ => ⟨0, true, _, rfl, get_lit rfl, rfl⟩⟩
  refine CL.of (f13_base (newHd hok _) (hA _) (shOne 3 (by decide) (by decide))) ?_
  rintro _ G' ⟨rfl, ⟨lv', hhd⟩, hnx⟩
  refine WW.nil ?_
  simp only [go_sem]
  rw [Heap.ext_nil]
  exact ⟨⟨lv', hhd⟩, hnx.own H ⟨_, rfl⟩ (by rw [Heap.toNat_key]; exact Nat.le_add_right ..)⟩
end Go.Proofs
/- a node of one shard that has nothing in it: what freezes, thaws, drops, requests do. -/

set_option linter.all false
set_option linter.all false
set_option maxRecDepth 100000
namespace Go.Proofs
open Go Go.Ev
variable {H : Heap}

/-- the shard -/
def oS (e : Int) (z : Bool) (cv ev dv : AV) : Sh := ⟨1, e, [], [], z, [], [], [], cv, ev, dv⟩
/-- a node with that shard alone -/
def Hd1 (G : Heap) (k : K) (e : Int) (z : Bool) : Prop := ∃ lv gv cv ev dv, isHd G k lv gv [oS e z cv ev dv] []
theorem Hd1.ok {G : Heap} {k : K} {e : Int} {z : Bool} (h : Hd1 G k e z) : G.ok := by obtain ⟨_, _, _, _, _, h⟩ := h; exact h.ok
theorem Hd1.ext {G : Heap} {k : K} {e : Int} {z : Bool} (h : Hd1 G k e z) (L : List Blk) : Hd1 (G.ext L) k e z := by obtain ⟨a, b, c, d, f, h⟩ := h; exact ⟨a, b, c, d, f, h.ext L⟩
section
variable {G : Heap} {k : K} {e : Int}
end
end Go.Proofs
/- CutTells: walked. -/

set_option linter.all false
set_option linter.all false
set_option maxRecDepth 100000
namespace Go.Proofs
open Go Go.Ev
variable {H : Heap}

theorem sameSh.symm {a b : Sh} (h : sameSh a b) : sameSh b a := ⟨h.1.symm, h.2.1.symm, h.2.2.1.symm, h.2.2.2.1.symm, h.2.2.2.2.1.symm, h.2.2.2.2.2.1.symm, h.2.2.2.2.2.2.1.symm, h.2.2.2.2.2.2.2.symm⟩
theorem sameSh.trans {a b c : Sh} (h : sameSh a b) (g : sameSh b c) : sameSh a c := ⟨h.1.trans g.1, h.2.1.trans g.2.1, h.2.2.1.trans g.2.2.1, h.2.2.2.1.trans g.2.2.2.1, h.2.2.2.2.1.trans g.2.2.2.2.1, h.2.2.2.2.2.1.trans g.2.2.2.2.2.1, h.2.2.2.2.2.2.1.trans g.2.2.2.2.2.2.1, h.2.2.2.2.2.2.2.trans g.2.2.2.2.2.2.2⟩
theorem sameSh.refl (a : Sh) : sameSh a a := ⟨rfl, rfl, rfl, rfl, rfl, rfl, rfl, rfl⟩
end Go.Proofs
