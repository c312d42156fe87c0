/- a shard's bytes: walked. -/
import Derived.Test.YtkhaejbkdgbjcaaGreatDoorZ17
import Derived.Test.YtkhaejbkdgbjcaaGreatDoorProg
import Derived.KernelRfl
set_option linter.all false
set_option linter.all false
set_option maxRecDepth 100000
namespace Go.Proofs
open Go Go.Ev
variable {H : Heap}

def bareA (code : Int) (val : List Nat) (ver : Int) : An := ⟨code, val, ver, [], .nils⟩
theorem bareA_ok (H : Heap) (code : Int) (val : List Nat) (ver : Int) : (bareA code val ver).ok H := ⟨.inl ⟨rfl, rfl⟩, Nat.zero_le _⟩
/-- what is put together -/
noncomputable def EIm (f : FuncId) (args : List AV) (H : Heap) : RC :=
  match f with
  | 112 => match args with | [.int .i64 n] => if 0 ≤ n ∧ n < 9223372036854775808 then .ok (.str (numT n.toNat)) H else .fail | _ => .fail
  | 114 => match args with | [.str s] => if s.length < 4611686018427387904 then .ok (.str (textT s)) H else .fail | _ => .fail
  | 168 => match args with | [.bool b] => .ok (.str [b.toNat]) H | _ => .fail
  | 124 => match args with | [.agg [.int .i64 code, .str val, .int .i64 ver, .nils]] => .ok (.str (ansT (bareA code val ver))) H | _ => .fail
  | _ => .fail
theorem good_EIm : Ev.Good Tryz.prog EIm := by
  intro f args H r G he φ w args' ha hw
  refine (?_ : FnOk Tryz.prog f args H fun v' G' => v' = r ∧ G' = G).one φ w args' ha hw
  unfold EIm at he
  split at he
  · split at he
    · split at he
      · rename_i n hn
        cases he
        have := f112_ok (H := H) (n := n.toNat) (by omega)
        rwa [Int.toNat_of_nonneg hn.1] at this
      · cases he
    · cases he
  · split at he
    · split at he
      · rename_i hs
        cases he; exact f114_ok hs
      · cases he
    · cases he
  · split at he
    · cases he; exact f168_ok _
    · cases he
  · split at he
    · cases he; exact f124_ok (a := bareA _ _ _) (bareA_ok ..)
    · cases he
  · cases he
theorem ei28 {n : Int} (h0 : 0 ≤ n) (h1 : n < 9223372036854775808) (H : Heap) : EIm 112 [.int .i64 n] H = .ok (.str (numT n.toNat)) H := if_pos ⟨h0, h1⟩
theorem ei30 {s : List Nat} (h : s.length < 4611686018427387904) (H : Heap) : EIm 114 [.str s] H = .ok (.str (textT s)) H := if_pos h
theorem ei71 (b : Bool) (H : Heap) : EIm 168 [.bool b] H = .ok (.str [b.toNat]) H := rfl
theorem ei72 (code : Int) (val : List Nat) (ver : Int) (H : Heap) : EIm 124 [.agg [.int .i64 code, .str val, .int .i64 ver, .nils]] H = .ok (.str (ansT (bareA code val ver))) H := rfl
/-- cells, events, what was done, as bytes -/
def cellT (c : Cell) : List Nat := textT c.key ++ textT c.value ++ numT c.ver.toNat ++ [c.del.toNat] ++ numT c.floor.toNat
def evT (e : Evn) : List Nat := textT e.key ++ numT e.ver.toNat ++ textT e.val ++ [e.del.toNat]
noncomputable def dnT (d : Dn) : List Nat := numT d.ses.toNat ++ numT d.id.toNat ++ ansT d.an
def topT (s : Sh) : List Nat := numT s.id.toNat ++ numT s.ep.toNat ++ textT s.fr ++ textT s.to ++ [s.frz.toNat] ++ numT s.cells.length
def allT {α : Type} (f : α → List Nat) (l : List α) (i : Nat) : List Nat := ((l.take i).map f).flatten
theorem allT_succ {α : Type} (f : α → List Nat) {l : List α} {i : Nat} {c : α} (h : l[i]? = some c) : allT f l (i + 1) = allT f l i ++ f c := by
  unfold allT
  rw [List.take_add_one, h, List.map_append, List.flatten_append]
  simp
theorem allT_zero {α : Type} (f : α → List Nat) (l : List α) : allT f l 0 = [] := rfl
theorem allT_len {α : Type} (f : α → List Nat) (b : Nat) : ∀ (i : Nat) (l : List α), (∀ c ∈ l, (f c).length ≤ b) → (allT f l i).length ≤ b * i
  | 0, l, h => Nat.zero_le _
  | i + 1, [], h => Nat.zero_le _
  | i + 1, c :: l, h => by
    have h1 := allT_len f b i l fun d hd => h d (by simp [hd])
    have h2 := h c (by simp)
    have : allT f (c :: l) (i + 1) = f c ++ allT f l i := by unfold allT; simp
    rw [this, List.length_append, Nat.mul_succ]
    omega
noncomputable def imgT (s : Sh) : List Nat :=
  topT s ++ allT cellT s.cells s.cells.length ++ numT s.evs.length ++ allT evT s.evs s.evs.length ++ numT s.done.length ++ allT dnT s.done s.done.length
theorem num11 {n : Int} (h0 : 0 ≤ n) (h1 : n ≤ 1000000000000000) : (numT n.toNat).length ≤ 11 := numT_small (by omega)
theorem txt266 {s : List Nat} (h : (s.length : Int) ≤ 255) : (textT s).length ≤ 266 := textT_len h
theorem cellT_len {c : Cell} (h : cellIs c) : (cellT c).length ≤ 600 := by
  obtain ⟨⟨⟨_, h1⟩, h2, _, h3, h4⟩, h5, h6⟩ := h
  have a := txt266 (s := c.key) (by omega)
  have b := txt266 (s := c.value) (by omega)
  have d := num11 (n := c.ver) (by omega) (by omega)
  have e := num11 (n := c.floor) (by omega) (by omega)
  unfold cellT
  simp only [List.length_append, List.length_cons, List.length_nil]
  omega
theorem evT_len {e : Evn} (h : isEv e) : (evT e).length ≤ 600 := by
  obtain ⟨⟨_, h1⟩, h2, _, h3, h4⟩ := h
  have a := txt266 (s := e.key) (by omega)
  have b := txt266 (s := e.val) (by omega)
  have d := num11 (n := e.ver) (by omega) (by omega)
  unfold evT
  simp only [List.length_append, List.length_cons, List.length_nil]
  omega
theorem ansT_bare {code : Int} {val : List Nat} {ver : Int} (h : isAns (bareA code val ver)) : ansT (bareA code val ver) = numT code.toNat ++ textT val ++ numT ver.toNat ++ numT 0 := by
  unfold ansT
  rw [if_pos h]
  rfl
theorem dnT_len {d : Dn} (h : okD d) (hb : d.an.rv = .nils ∧ d.an.rows = []) : (dnT d).length ≤ 400 := by
  obtain ⟨ses, id, ⟨code, val, ver, rows, rv⟩⟩ := d
  obtain ⟨h1, h2⟩ := hb
  simp only at h1 h2
  subst h1 h2
  obtain ⟨⟨a1, a2, a3, a4⟩, ha⟩ := h
  simp only at a1 a2 a3 a4
  have hx := ansT_bare (code := code) (val := val) (ver := ver) ha
  obtain ⟨⟨b1, b2, b3, b4, b5⟩, -, -⟩ := ha
  simp only at b1 b2 b3 b4 b5
  have a := num11 (n := ses) (by omega) (by omega)
  have b := num11 (n := id) (by omega) (by omega)
  have c := num11 (n := code) (by omega) (by omega)
  have d := txt266 (s := val) (by omega)
  have e := num11 (n := ver) (by omega) (by omega)
  have f : (numT 0).length ≤ 11 := numT_small (by decide)
  have hy : dnT ⟨ses, id, bareA code val ver⟩ = numT ses.toNat ++ numT id.toNat ++ ansT (bareA code val ver) := rfl
  show (dnT ⟨ses, id, bareA code val ver⟩).length ≤ 400
  rw [hy, hx]
  simp only [List.length_append]
  omega
theorem topT_len {s : Sh} (h : isSh s) (hc : s.cells.length < 1000) : (topT s).length ≤ 700 := by
  obtain ⟨⟨a1, a2, a3, a4⟩, ⟨b1, b2, _⟩, _⟩ := h
  have a := num11 (n := s.id) (by omega) (by omega)
  have b := num11 (n := s.ep) (by omega) (by omega)
  have c := txt266 (s := s.fr) (by omega)
  have d := txt266 (s := s.to) (by omega)
  have e : (numT s.cells.length).length ≤ 11 := numT_small (by omega)
  unfold topT
  simp only [List.length_append, List.length_cons, List.length_nil]
  omega
end Go.Proofs
/- image.Bytes: walked. -/

set_option linter.all false
set_option linter.all false
set_option maxRecDepth 100000
namespace Go.Proofs
open Go Go.Ev
variable {H : Heap}

theorem f115_ok {s : Sh} (h : s.ok H) (hs : isSh s) (hsm : smallS s) (hL : (imgT s).length < 1000000) : FnOk Tryz.prog 115 [.agg s.enc] H fun r G => r = .str (wrapT (imgT s)) ∧ G = H := by
  refine FnOk.assume fun hok => ?_
  refine FnOk.drop (R := fun r => r = .str (wrapT (imgT s))) ?_ (by rintro v rfl ρ; rw [AV.ren])
  refine FnOk.of_WW Tryz.func115 rfl C115ok R115ok EIm good_EIm ?_
  have hlc := fun G => h.c.len G
  have hle := fun G => h.e.len G
  have hld := fun G => h.d.len G
  simp only [List.length_map] at hlc hle hld
  have hrc := h.c.ren
  have hre := h.e.ren
  have hrd := h.d.ren
  have hc1 := hsm.c
  have he1 := hsm.e
  have hd1 := hsm.d
  obtain ⟨⟨a1, a2, a3, a4⟩, ⟨b1, b2, _⟩, _, _, hh, hdn⟩ := id hs
  have x1 := fun H => ei28 (n := s.id) (by omega) (by omega) H
  have x2 := fun H => ei28 (n := s.ep) (by omega) (by omega) H
  have x3 := fun H => ei30 (s := s.fr) (by omega) H
  have x4 := fun H => ei30 (s := s.to) (by omega) H
  have x5 := fun H => ei28 (n := (s.cells.length : Int)) (by omega) (by omega) H
  rw [Int.toNat_natCast] at x5
  have n1 := num11 (n := s.id) (by omega) (by omega)
  have n2 := num11 (n := s.ep) (by omega) (by omega)
  have n3 := txt266 (s := s.fr) (by omega)
  have n4 := txt266 (s := s.to) (by omega)
  have n5 : (numT s.cells.length).length ≤ 11 := numT_small (by omega)
  have m1 : (numT s.id.toNat).length + (numT s.ep.toNat).length ≤ 9223372036854775807 := by omega
  have m2 : (numT s.id.toNat).length + (numT s.ep.toNat).length + (textT s.fr).length ≤ 9223372036854775807 := by omega
  have m3 : (numT s.id.toNat).length + (numT s.ep.toNat).length + (textT s.fr).length + (textT s.to).length ≤ 9223372036854775807 := by omega
  have m4 : (numT s.id.toNat).length + (numT s.ep.toNat).length + (textT s.fr).length + (textT s.to).length + 1 ≤ 9223372036854775807 := by omega
  have m5 : (numT s.id.toNat).length + (numT s.ep.toNat).length + (textT s.fr).length + (textT s.to).length + 1 + (numT s.cells.length).length ≤ 9223372036854775807 := by omega
  have htop : numT s.id.toNat ++ numT s.ep.toNat ++ textT s.fr ++ textT s.to ++ [s.frz.toNat] ++ numT s.cells.length = topT s := rfl
  have htl := topT_len hs hc1
  simp only [go_sem, C115, Sh.enc]
  refine CL.bool (f24_ok (s := s) (h.ext _)) (fun g => ?_) (fun g => absurd hs g)
  simp only [go_sem, hlc, x1, x2, x3, x4, x5, ei71, m1, m2, m3, m4, m5]
  have hcell : ∀ c ∈ s.cells, (cellT c).length ≤ 600 := fun c hc => cellT_len (hh.1.cell hc)
  have hevt : ∀ e ∈ s.evs, (evT e).length ≤ 600 := fun e he => evT_len (hh.2.1 e he).2
  have hdnt : ∀ d ∈ s.done, (dnT d).length ≤ 400 := fun d hd => dnT_len ((done_iff.1 hdn).1 d hd) (hsm.b d hd)
  refine LL.st good_EIm (fun i : Nat => s.cells.length - i) (fun i => i ≤ s.cells.length) (fun i => [((.o .z), .ptr (H.key 0) 0), ((.o (.o .z)), .str (topT s ++ allT cellT s.cells i)), ((.i (.o (.o (.i (.o .z))))), s.cv), ((.o (.i (.o (.i (.o .z))))), .int .i64 s.cells.length), ((.i (.i (.o (.i (.o .z))))), .int .i64 i)])
    (fun _ => [.row true 8 [[.int .i64 s.id, .int .i64 s.ep, .str s.fr, .str s.to, .bool s.frz, s.cv, s.ev, s.dv]]]) ?_ 0 (σ := [0]) (Wk.of rfl (by decide) (by simp only [go_sem, htop, allT_zero, hrc]; first | done | rfl | trace_state) (by simp only [go_sem, hrc, hre, hrd]; first | done | rfl | trace_state)) (Nat.zero_le _)
  rintro i hi
  have hpl := allT_len cellT 600 i s.cells hcell
  have hnext := fun c => @allT_succ _ cellT s.cells i c
  have hPl : (topT s ++ allT cellT s.cells i).length ≤ 700 + 600 * i := by rw [List.length_append]; omega
  by_cases hlt : i < s.cells.length
  · obtain ⟨kk, r, ex', cap', wr, rows, hv, hrho, hgo, hrow⟩ := h.c.at hok (j := i) (by rw [List.length_map]; exact hlt)
    simp only [List.length_map, List.getElem_map] at hv hrow
    have hget : s.cells[i]? = some s.cells[i] := List.getElem?_eq_getElem hlt
    have hci : (i : Int) < (s.cells.length : Int) := by omega
    have hw := wrap_succ (n := i) (by omega)
    have hsi : i + 1 ≤ s.cells.length := by omega
    have hcl := hcell _ (List.mem_of_getElem? hget)
    obtain ⟨⟨⟨_, c1⟩, c2, _, c3, c4⟩, c5, c6⟩ := hh.1.cell (List.mem_of_getElem? hget)
    generalize s.cells[i] = c at hrow hget hcl c1 c2 c3 c4 c5 c6
    have hnx : topT s ++ allT cellT s.cells (i + 1) = (topT s ++ allT cellT s.cells i) ++ cellT c := by rw [hnext c hget, List.append_assoc]
    generalize topT s ++ allT cellT s.cells i = P at hnx hPl ⊢
    have y1 := fun H => ei30 (s := c.key) (by omega) H
    have y2 := fun H => ei30 (s := c.value) (by omega) H
    have y3 := fun H => ei28 (n := c.ver) (by omega) (by omega) H
    have y4 := fun H => ei28 (n := c.floor) (by omega) (by omega) H
    have k1 := txt266 (s := c.key) (by omega)
    have k2 := txt266 (s := c.value) (by omega)
    have k3 := num11 (n := c.ver) (by omega) (by omega)
    have k4 := num11 (n := c.floor) (by omega) (by omega)
    have p1 : (textT c.key).length + (textT c.value).length ≤ 9223372036854775807 := by omega
    have p2 : (textT c.key).length + (textT c.value).length + (numT c.ver.toNat).length ≤ 9223372036854775807 := by omega
    have p3 : (textT c.key).length + (textT c.value).length + (numT c.ver.toNat).length + 1 ≤ 9223372036854775807 := by omega
    have p4 : (textT c.key).length + (textT c.value).length + (numT c.ver.toNat).length + 1 + (numT c.floor.toNat).length ≤ 9223372036854775807 := by omega
    have p5 : P.length + ((textT c.key).length + (textT c.value).length + (numT c.ver.toNat).length + 1 + (numT c.floor.toNat).length) ≤ 9223372036854775807 := by omega
    have hcT : textT c.key ++ textT c.value ++ numT c.ver.toNat ++ [c.del.toNat] ++ numT c.floor.toNat = cellT c := rfl
    simp only [go_sem, hci, hsi, hv, hgo, hrow, Cell.enc, hw, y1, y2, y3, y4, ei71, p1, p2, p3, p4, p5]
    exact ⟨i + 1, by show s.cells.length - (i + 1) < s.cells.length - i; omega, (show i + 1 ≤ s.cells.length by omega), _, [0], rfl, Wk.of rfl (by decide) (by simp only [go_sem, hrc, hrho, hv, hw, hnx, hcT]; first | done | rfl | trace_state) (by simp only [go_sem, hrc, hre, hrd, hrho, hv]; first | done | rfl | trace_state)⟩
  · have hci : ¬ (i : Int) < (s.cells.length : Int) := by omega
    obtain rfl : i = s.cells.length := by omega
    obtain ⟨P, hPe⟩ : ∃ P, P = topT s ++ allT cellT s.cells s.cells.length := ⟨_, rfl⟩
    rw [← hPe] at hPl ⊢
    have q1 : (numT s.evs.length).length ≤ 11 := numT_small (by omega)
    have q2 : P.length + (numT s.evs.length).length ≤ 9223372036854775807 := by omega
    simp only [go_sem, hci, hle]
    refine CL.of (f112_ok (n := s.evs.length) (by omega)) ?_
    rintro _ G' ⟨rfl, hG⟩; rw [hG]; clear hG
    simp only [go_sem, q2, hle]
    have hI : imgT s = P ++ numT s.evs.length ++ allT evT s.evs s.evs.length ++ numT s.done.length ++ allT dnT s.done s.done.length := by rw [hPe]; rfl
    have hQl : (P ++ numT s.evs.length).length ≤ 700 + 600 * s.cells.length + 11 := by rw [List.length_append]; omega
    generalize P ++ numT s.evs.length = Q at hI hQl ⊢
    refine LL.st good_EIm (fun i : Nat => s.evs.length - i) (fun i => i ≤ s.evs.length) (fun i => [((.o .z), .ptr (H.key 0) 0), ((.o (.o .z)), .str (Q ++ allT evT s.evs i)), ((.o (.o (.i (.i (.o (.o .z)))))), s.ev), ((.i (.o (.i (.i (.o (.o .z)))))), .int .i64 s.evs.length), ((.o (.i (.i (.i (.o (.o .z)))))), .int .i64 i)])
      (fun _ => [.row true 8 [[.int .i64 s.id, .int .i64 s.ep, .str s.fr, .str s.to, .bool s.frz, s.cv, s.ev, s.dv]]]) ?_ 0 (σ := [0]) (Wk.of rfl (by decide) (by simp only [go_sem, allT_zero, hre]; first | done | rfl | trace_state) (by simp only [go_sem, hrc, hre, hrd]; first | done | rfl | trace_state)) (Nat.zero_le _)
    rintro i hi
    have hpl := allT_len evT 600 i s.evs hevt
    have hnext := fun c => @allT_succ _ evT s.evs i c
    have hPl : (Q ++ allT evT s.evs i).length ≤ 711 + 600 * s.cells.length + 600 * i := by rw [List.length_append]; omega
    by_cases hlt : i < s.evs.length
    · obtain ⟨kk, r, ex', cap', wr, rows, hv, hrho, hgo, hrow⟩ := h.e.at hok (j := i) (by rw [List.length_map]; exact hlt)
      simp only [List.length_map, List.getElem_map] at hv hrow
      have hget : s.evs[i]? = some s.evs[i] := List.getElem?_eq_getElem hlt
      have hci : (i : Int) < (s.evs.length : Int) := by omega
      have hw := wrap_succ (n := i) (by omega)
      have hsi : i + 1 ≤ s.evs.length := by omega
      obtain ⟨⟨_, c1⟩, c2, _, c3, c4⟩ := (hh.2.1 _ (List.mem_of_getElem? hget)).2
      generalize s.evs[i] = c at hrow hget c1 c2 c3 c4
      have hnx : Q ++ allT evT s.evs (i + 1) = (Q ++ allT evT s.evs i) ++ evT c := by rw [hnext c hget, List.append_assoc]
      generalize Q ++ allT evT s.evs i = P at hnx hPl ⊢
      have y1 := fun H => ei30 (s := c.key) (by omega) H
      have y2 := fun H => ei30 (s := c.val) (by omega) H
      have y3 := fun H => ei28 (n := c.ver) (by omega) (by omega) H
      have k1 := txt266 (s := c.key) (by omega)
      have k2 := txt266 (s := c.val) (by omega)
      have k3 := num11 (n := c.ver) (by omega) (by omega)
      have p1 : (textT c.key).length + (numT c.ver.toNat).length ≤ 9223372036854775807 := by omega
      have p2 : (textT c.key).length + (numT c.ver.toNat).length + (textT c.val).length ≤ 9223372036854775807 := by omega
      have p3 : (textT c.key).length + (numT c.ver.toNat).length + (textT c.val).length + 1 ≤ 9223372036854775807 := by omega
      have p5 : P.length + ((textT c.key).length + (numT c.ver.toNat).length + (textT c.val).length + 1) ≤ 9223372036854775807 := by omega
      have hcT : textT c.key ++ numT c.ver.toNat ++ textT c.val ++ [c.del.toNat] = evT c := rfl
      simp only [go_sem, hci, hsi, hv, hgo, hrow, Evn.enc, hw, y1, y2, y3, ei71, p1, p2, p3, p5]
      exact ⟨i + 1, by show s.evs.length - (i + 1) < s.evs.length - i; omega, hsi, _, [0], rfl, Wk.of rfl (by decide) (by simp only [go_sem, hre, hrho, hv, hw, hnx, hcT]; first | done | rfl | trace_state) (by simp only [go_sem, hrc, hre, hrd, hrho, hv]; first | done | rfl | trace_state)⟩
    · have hci : ¬ (i : Int) < (s.evs.length : Int) := by omega
      obtain rfl : i = s.evs.length := by omega
      generalize Q ++ allT evT s.evs s.evs.length = P at hPl hI ⊢
      have he24 : s.evs.length < 1000 := he1
      have q1 : (numT s.done.length).length ≤ 11 := numT_small (by omega)
      have q2 : P.length + (numT s.done.length).length ≤ 9223372036854775807 := by omega
      simp only [go_sem, hci, hld]
      refine CL.of (f112_ok (n := s.done.length) (by omega)) ?_
      rintro _ G' ⟨rfl, hG⟩; rw [hG]; clear hG
      simp only [go_sem, q2, hld]
      have hQl : (P ++ numT s.done.length).length ≤ 722 + 600 * s.cells.length + 600 * s.evs.length := by rw [List.length_append]; omega
      generalize P ++ numT s.done.length = Q at hI hQl ⊢
      refine LL.st good_EIm (fun i : Nat => s.done.length - i) (fun i => i ≤ s.done.length) (fun i => [((.o (.o .z)), .str (Q ++ allT dnT s.done i)), ((.i (.i (.o (.i (.o (.i .z)))))), s.dv), ((.o (.o (.i (.i (.o (.i .z)))))), .int .i64 s.done.length), ((.i (.o (.i (.i (.o (.i .z)))))), .int .i64 i)])
        (fun _ => []) ?_ 0 (σ := []) (Wk.of rfl (by decide) (by simp only [go_sem, allT_zero, hrd]; first | done | rfl | trace_state) (by simp only [go_sem])) (Nat.zero_le _)
      rintro i hi
      have hpl := allT_len dnT 400 i s.done hdnt
      have hnext := fun c => @allT_succ _ dnT s.done i c
      have hPl : (Q ++ allT dnT s.done i).length ≤ 722 + 600 * s.cells.length + 600 * s.evs.length + 400 * i := by rw [List.length_append]; omega
      by_cases hlt : i < s.done.length
      · obtain ⟨kk, r, ex', cap', wr, rows, hv, hrho, hgo, hrow⟩ := h.d.at hok (j := i) (by rw [List.length_map]; exact hlt)
        simp only [List.length_map, List.getElem_map] at hv hrow
        have hget : s.done[i]? = some s.done[i] := List.getElem?_eq_getElem hlt
        have hci : (i : Int) < (s.done.length : Int) := by omega
        have hw := wrap_succ (n := i) (by omega)
        have hsi : i + 1 ≤ s.done.length := by omega
        have hbd := hsm.b _ (List.mem_of_getElem? hget)
        have hdl := hdnt _ (List.mem_of_getElem? hget)
        obtain ⟨⟨c1, c2, c3, c4⟩, -⟩ := (done_iff.1 hdn).1 _ (List.mem_of_getElem? hget)
        generalize s.done[i] = c at hrow hget hbd hdl c1 c2 c3 c4
        have hnx : Q ++ allT dnT s.done (i + 1) = (Q ++ allT dnT s.done i) ++ dnT c := by rw [hnext c hget, List.append_assoc]
        generalize Q ++ allT dnT s.done i = P at hnx hPl ⊢
        obtain ⟨ses, id, ⟨code, val, ver, rws, rv⟩⟩ := c
        simp only at hbd c1 c2 c3 c4
        obtain ⟨rfl, rfl⟩ := hbd
        have hcT : numT ses.toNat ++ numT id.toNat ++ ansT (bareA code val ver) = dnT ⟨ses, id, ⟨code, val, ver, [], .nils⟩⟩ := rfl
        rw [← hcT, List.length_append, List.length_append] at hdl
        have y1 := fun H => ei28 (n := ses) (by omega) (by omega) H
        have y2 := fun H => ei28 (n := id) (by omega) (by omega) H
        have p1 : (numT ses.toNat).length + (numT id.toNat).length ≤ 9223372036854775807 := by omega
        have p2 : (numT ses.toNat).length + (numT id.toNat).length + (ansT (bareA code val ver)).length ≤ 9223372036854775807 := by omega
        have p5 : P.length + ((numT ses.toNat).length + (numT id.toNat).length + (ansT (bareA code val ver)).length) ≤ 9223372036854775807 := by omega
        simp only [go_sem, hci, hsi, hv, hgo, hrow, Dn.enc, off6, hw, y1, y2, ei72, p1, p2, p5]
        exact ⟨i + 1, by show s.done.length - (i + 1) < s.done.length - i; omega, hsi, _, [], rfl, Wk.of rfl (by decide) (by simp only [go_sem, hrd, hrho, hv, hw, hnx, hcT]; first | done | rfl | trace_state) (by simp only [go_sem])⟩
      · have hci : ¬ (i : Int) < (s.done.length : Int) := by omega
        obtain rfl : i = s.done.length := by omega
        rw [← hI]
        simp only [go_sem, hci]
        refine CL.of (f110_ok hL) ?_
        rintro _ G' ⟨rfl, hG⟩; rw [hG]; clear hG
        simp only [go_sem]
        exact ⟨_, rfl⟩
end Go.Proofs
/- a shard as a copy: walked. -/

set_option linter.all false
set_option linter.all false
set_option maxRecDepth 100000
namespace Go.Proofs
open Go Go.Ev
variable {H : Heap}

/-- what is cloned -/
def AC (e : Nat) (H : Heap) (args : List AV) (xs : List (List AV)) : Prop := ∃ v, args = [v] ∧ Arr H e v xs ∧ xs.length < 100000 ∧ ∀ top σ, xs.map (AV.rens (rho H top σ)) = xs
noncomputable def ECl (f : FuncId) (args : List AV) (H : Heap) : RC :=
  match f with
  | 106 => ot (AC 5 H args) fun xs => .ok (zV (nilB (args.headD .nils)) H.nx 5 xs.length) (H.ext [zB (nilB (args.headD .nils)) 5 xs])
  | 107 => ot (AC 4 H args) fun xs => .ok (zV (nilB (args.headD .nils)) H.nx 4 xs.length) (H.ext [zB (nilB (args.headD .nils)) 4 xs])
  | 108 => ot (AC 6 H args) fun xs => .ok (zV (nilB (args.headD .nils)) H.nx 6 xs.length) (H.ext [zB (nilB (args.headD .nils)) 6 xs])
  | 109 => match args with | [.nils] => .ok .nils H | _ => .fail
  | _ => .fail
theorem good_ECl : Ev.Good Tryz.prog ECl := by
  intro f args H r G he φ w args' ha hw
  refine (?_ : FnOk Tryz.prog f args H fun v' G' => v' = r ∧ G' = G).one φ w args' ha hw
  unfold ECl at he
  split at he
  · obtain ⟨xs, ⟨v, rfl, h1, h2, h3⟩, hz⟩ := ot_ok he
    clear he
    cases hz
    exact clone_zd clo50 h1 (by omega) h3
  · obtain ⟨xs, ⟨v, rfl, h1, h2, h3⟩, hz⟩ := ot_ok he
    clear he
    cases hz
    exact clone_zd clo75 h1 (by omega) h3
  · obtain ⟨xs, ⟨v, rfl, h1, h2, h3⟩, hz⟩ := ot_ok he
    clear he
    cases hz
    exact clone_zd clo57 h1 (by omega) h3
  · split at he
    · cases he; exact clone_nil clo55
    · cases he
  · cases he
theorem ac_eq {e : Nat} (he : 0 < e) {H : Heap} {v : AV} {xs : List (List AV)} (hA : Arr H e v xs) (hl : xs.length < 100000) (hx : ∀ top σ, xs.map (AV.rens (rho H top σ)) = xs) (c : List (List AV) → RC) : ot (AC e H [v]) c = c xs :=
  ot_eq (p := AC e H [v]) (x := xs) ⟨v, rfl, hA, hl, hx⟩ (by
    rintro ys ⟨v', h1, h2, _⟩
    injection h1 with h1 _
    subst h1
    exact Arr.uniq h2 hA he) c
theorem ec77 {v : AV} {l : List Cell} (hA : Arr H 5 v (l.map Cell.enc)) (hl : l.length < 100000) (L : List Blk) : ECl 106 [v] (H.ext L) = .ok (zV (nilB v) (H.key L.length) 5 l.length) (H.ext (L ++ [zB (nilB v) 5 (l.map Cell.enc)])) := by
  show ot (AC 5 (H.ext L) [v]) _ = _
  rw [ac_eq (by decide) (hA.ext L) (by rw [List.length_map]; exact hl) (fun _ _ => Cell.map_rens _ _), List.length_map, Heap.nx_ext, Heap.ext_append]
  rfl
theorem ec78 {v : AV} {l : List Evn} (hA : Arr H 4 v (l.map Evn.enc)) (hl : l.length < 100000) (L : List Blk) : ECl 107 [v] (H.ext L) = .ok (zV (nilB v) (H.key L.length) 4 l.length) (H.ext (L ++ [zB (nilB v) 4 (l.map Evn.enc)])) := by
  show ot (AC 4 (H.ext L) [v]) _ = _
  rw [ac_eq (by decide) (hA.ext L) (by rw [List.length_map]; exact hl) (fun _ _ => Evn.map_rens _ _), List.length_map, Heap.nx_ext, Heap.ext_append]
  rfl
theorem bareL.rens {l : List Dn} (h : bareL l) (ρ : K → K) : (l.map Dn.enc).map (AV.rens ρ) = l.map Dn.enc := by
  rw [List.map_map]
  refine List.map_congr_left fun d hd => ?_
  simp only [Function.comp, Dn.enc, AV.rens, AV.ren, (h d hd).1]
theorem bareL.ok {l : List Dn} (h : bareL l) (H : Heap) : allOk H l := fun d hd => ⟨by rw [(h d hd).1, (h d hd).2]; exact .inl ⟨rfl, rfl⟩, by rw [(h d hd).2]; exact Nat.zero_le _⟩
theorem ec79 {v : AV} {l : List Dn} (hA : Arr H 6 v (l.map Dn.enc)) (hb : bareL l) (hl : l.length < 100000) (L : List Blk) : ECl 108 [v] (H.ext L) = .ok (zV (nilB v) (H.key L.length) 6 l.length) (H.ext (L ++ [zB (nilB v) 6 (l.map Dn.enc)])) := by
  show ot (AC 6 (H.ext L) [v]) _ = _
  rw [ac_eq (by decide) (hA.ext L) (by rw [List.length_map]; exact hl) (fun _ _ => hb.rens _), List.length_map, Heap.nx_ext, Heap.ext_append]
  rfl
theorem ec80 (H : Heap) : ECl 109 [.nils] H = .ok .nils H := rfl
/-- a shard whose lists are copies -/
noncomputable def Sh.cop (s : Sh) (k0 k1 k2 : K) : Sh := ⟨s.id, s.ep, s.fr, s.to, s.frz, s.cells, s.evs, s.done, zV (nilB s.cv) k0 5 s.cells.length, zV (nilB s.ev) k1 4 s.evs.length, zV (nilB s.dv) k2 6 s.done.length⟩
noncomputable def copB (s : Sh) : List Blk := [zB (nilB s.cv) 5 (s.cells.map Cell.enc), zB (nilB s.ev) 4 (s.evs.map Evn.enc), zB (nilB s.dv) 6 (s.done.map Dn.enc)]
theorem Sh.cop_ok {s : Sh} (h : s.ok H) {L : List Blk} {i j m : Nat} (h1 : L[i]? = some (zB (nilB s.cv) 5 (s.cells.map Cell.enc))) (h2 : L[j]? = some (zB (nilB s.ev) 4 (s.evs.map Evn.enc))) (h3 : L[m]? = some (zB (nilB s.dv) 6 (s.done.map Dn.enc))) : (s.cop (H.key i) (H.key j) (H.key m)).ok (H.ext L) :=
  ⟨arr_zV h1 (List.length_map ..), arr_zV h2 (List.length_map ..), arr_zV h3 (List.length_map ..), h.dok.ext L, h.cl, h.el, h.dl⟩
theorem set_same {α : Type} {l : List α} {k : Nat} {x : α} (h : l[k]? = some x) : l.set k x = l := by
  apply List.ext_getElem?
  intro j
  by_cases hj : k = j
  · subst hj
    rw [List.getElem?_set_self (List.getElem?_eq_some_iff.1 h).1, h]
  · rw [List.getElem?_set_ne hj]
theorem f50_ok {s : Sh} (h : s.ok H) (hsm : smallS s) :
    FnOk Tryz.prog 50 [.agg s.enc] H fun r G => r = .agg (s.cop (H.key 0) (H.key 1) (H.key 2)).enc ∧ G = H.ext (copB s) := by
  refine FnOk.dropW ?_
  refine FnOk.of_WW Tryz.func50 rfl C50ok R50ok ECl good_ECl ?_
  obtain ⟨hb, hc, he, hd⟩ := hsm
  have i77 := ec77 h.c (by omega)
  have i78 := ec78 h.e (by omega)
  have i79 := ec79 h.d hb (by omega)
  have drn := hb.rens
  simp only [go_sem, C50, Sh.enc, i77, i78, i79]
  refine LL.st good_ECl (fun i : Nat => s.done.length - i) (fun i => i ≤ s.done.length)
    (fun i => [((.o .z), .ptr (H.key 0) 0), ((.i .z), .ptr (H.key 1) 0), ((.i (.i (.o (.o .z)))), .int .i64 s.done.length), ((.o (.o (.i (.o .z)))), .int .i64 i)])
    (fun _ => .row true 8 [(s.cop (H.key 2) (H.key 3) (H.key 4)).enc] :: .row true 8 [[.int .i64 0, .int .i64 0, .str [], .str [], .bool false, .nils, .nils, .nils]] :: copB s) ?_ 0 (σ := [0, 1, 2, 3, 4]) (Wk.of rfl (by decide) (by simp only [go_sem]; first | done | rfl | trace_state) (by simp only [go_sem, copB, Sh.cop, Sh.enc, zV_ren, ↓zB_ren, Cell.map_rens, Evn.map_rens, drn, implies_true]; first | done | trace_state)) (Nat.zero_le _)
  rintro i hi
  by_cases hlt : i < s.done.length
  · have hci : (i : Int) < (s.done.length : Int) := by omega
    have hw := wrap_succ (n := i) (by omega)
    have hget : s.done[i]? = some s.done[i] := List.getElem?_eq_getElem hlt
    generalize s.done[i] = d at hget
    obtain ⟨hn1, hn2⟩ := hb d (List.mem_of_getElem? hget)
    have hrow : (s.done.map Dn.enc)[i]? = some [.int .i64 d.ses, .int .i64 d.id, .int .i64 d.an.code, .str d.an.val, .int .i64 d.an.ver, .nils] := by
      rw [List.getElem?_map, hget, ← hn1]; rfl
    have hset : (s.done.map Dn.enc).set i [.int .i64 d.ses, .int .i64 d.id, .int .i64 d.an.code, .str d.an.val, .int .i64 d.an.ver, .nils] = s.done.map Dn.enc := set_same hrow
    have hv := zV_pos (z := nilB s.dv) (k := H.key 4) (esz := 6) (n := s.done.length) (by omega)
    have hB := zB_pos (z := nilB s.dv) (esz := 6) (xs := s.done.map Dn.enc) (by rw [List.length_map]; omega)
    have hsi : i + 1 ≤ s.done.length := hlt
    simp only [go_sem, copB, Sh.cop, Sh.enc, hci, hw, hv, hB, hrow, hset, hsi, off6, ec80, Nat.zero_add]
    exact ⟨i + 1, by show s.done.length - (i + 1) < s.done.length - i; omega, hlt, _, [0, 1, 2, 3, 4], rfl, Wk.of rfl (by decide) (by simp only [go_sem]; first | done | rfl | trace_state) (by simp only [go_sem, copB, Sh.cop, Sh.enc, hv, hB, zV_ren, ↓zB_ren, Cell.map_rens, Evn.map_rens, drn, implies_true]; first | done | trace_state)⟩
  · have hci : ¬ (i : Int) < (s.done.length : Int) := by omega
    simp only [go_sem, copB, Sh.cop, Sh.enc, hci]
    exact ⟨_, [2, 3, 4], by simp only [zV_ren, go_sem], rfl, rfl, by decide, by simp only [go_sem, copB, zV_ren, ↓zB_ren, Cell.map_rens, Evn.map_rens, drn, implies_true]⟩
end Go.Proofs
/- a node's shards told: by number, by key, by where they begin: walked. -/

set_option linter.all false
set_option linter.all false
set_option maxRecDepth 100000
namespace Go.Proofs
open Go Go.Ev
variable {H : Heap}

theorem get_lit {bl : List Blk} {i : Nat} {x : Blk} (h : bl[i]? = some x) : (H.ext bl).get (H.key i) = some x := by
  rw [Heap.get_ext_key _ _ _ (List.getElem?_eq_some_iff.1 h).1]; exact h
theorem get_lit2 {bl L : List Blk} {i : Nat} {x : Blk} (h : bl[i]? = some x) : ((H.ext bl).ext L).get (H.key i) = some x := by
  rw [Heap.ext_append]
  refine get_lit ?_
  rw [List.getElem?_append_left (List.getElem?_eq_some_iff.1 h).1]
  exact h
theorem cap_lit {bl : List Blk} {i : Nat} (h : i < bl.length) (g : FuncId) (top : Nat) (σ : List Nat) : AV.ren (rho (H.ext bl) top σ) (.fn (.func g) [] [.ptr (H.key i) 0]) = .fn (.func g) [] [.ptr (H.key i) 0] := by
  have : rho (H.ext bl) top σ (H.key i) = H.key i := rho_old (by rw [Heap.nx_ext, Heap.toNat_key, Heap.toNat_key]; omega)
  simp only [AV.ren, AV.rens, this]
/-- no shard -/
def zS : List AV := [.int .i64 0, .int .i64 0, .str [], .str [], .bool false, .nils, .nils, .nils]
section
variable {G : Heap} {k : K} {lv gv : AV} {hs : List Sh} {gs : List Gn}
theorem f41_no (k : K) {i : Int} (hi : i < 0) : FnOk Tryz.prog 41 [.ptr k 0, .int .i64 i] G fun r G' => r = .tup [.agg zS, .bool false] ∧ G' = G := by
  refine FnOk.drop (R := fun r => r = .tup [.agg zS, .bool false]) ?_ (by rintro v rfl ρ; simp only [zS, AV.ren, AV.rens])
  refine FnOk.of_WW Tryz.func41 rfl C41ok R41ok E0 good_E0 ?_
  simp only [go_sem, C41, hi, zS]
  exact ⟨_, rfl⟩
theorem f41_yes (h : isHd G k lv gv hs gs) {i : Nat} {s : Sh} (hi : hs[i]? = some s) : FnOk Tryz.prog 41 [.ptr k 0, .int .i64 i] G fun r G' => r = .tup [.agg (s.cop (G.key 0) (G.key 1) (G.key 2)).enc, .bool true] ∧ G' = G.ext (copB s) := by
  refine FnOk.dropW ?_
  refine FnOk.of_WW Tryz.func41 rfl C41ok R41ok E0 good_E0 ?_
  have hk : ∀ L, (G.ext L).get k = _ := fun L => Heap.get_ext_old h.ok h.row L
  obtain ⟨hlt, hs'⟩ := List.getElem?_eq_some_iff.1 hi
  obtain ⟨kk, r, ex', cap', wr, rows, hv, hrho, hgo, hrow⟩ := h.l.at h.ok (j := i) (by rw [List.length_map]; exact hlt)
  simp only [List.length_map, List.getElem_map, hs'] at hv hrow
  have hm := List.mem_of_getElem? hi
  have hsok := h.each s hm
  have hsm := h.small s hm
  have hci : ¬ (i : Int) < 0 := by omega
  have hsi : i + 1 ≤ hs.length := hlt
  have drn := bareL.rens hsm.b
  simp only [go_sem, C41, hci, hk, hv, hsi, hgo, hrow, Sh.enc]
  refine CL.of (f50_ok (hsok.ext _) hsm) ?_
  rintro _ _ ⟨rfl, rfl⟩
  simp only [go_sem, Sh.enc, Sh.cop, copB, Heap.key_ext]
  exact ⟨_, [1, 2, 3], by simp only [zV_ren, go_sem], rfl, rfl, by decide, by simp only [go_sem, zV_ren, ↓zB_ren, Cell.map_rens, Evn.map_rens, drn, implies_true]⟩
theorem f15_yes (h : isHd G k lv gv hs gs) (n : Int) {i : Nat} {s : Sh} (hx : idx (fun s => decide (s.id = n)) hs 0 = i) (hi : hs[i]? = some s) : FnOk Tryz.prog 15 [.ptr k 0, .int .i64 n] G fun r G' => r = .tup [.agg (s.cop (G.key 0) (G.key 1) (G.key 2)).enc, .bool true] ∧ G' = G.ext (copB s) := by
  refine FnOk.dropW ?_
  refine FnOk.of_WW Tryz.func15 rfl C15ok R15ok E0 good_E0 ?_
  have hsm := h.small s (List.mem_of_getElem? hi)
  have drn := bareL.rens hsm.b
  simp only [go_sem, C15]
  refine CL.of (f42_ok (q := fun s => decide (s.id = n)) (h.ext _) (fun _ _ => call43 ..) (fun top σ => by exact cap_lit (Nat.zero_lt_succ _) 43 top σ) (fun s _ L => by exact f43_ok (get_lit2 rfl) s)) ?_
  rintro _ G' ⟨rfl, hG⟩
  rw [hG, hx]
  clear hG
  simp only [go_sem]
  refine CL.of (f41_yes (h.ext _) hi) ?_
  rintro _ _ ⟨rfl, rfl⟩
  simp only [go_sem, Sh.enc, Sh.cop, copB, Heap.key_ext]
  exact ⟨_, [2, 3, 4], by simp only [zV_ren, go_sem], rfl, rfl, by decide, by simp only [go_sem, zV_ren, ↓zB_ren, Cell.map_rens, Evn.map_rens, drn, implies_true]⟩
theorem f15_no (h : isHd G k lv gv hs gs) (n : Int) (hx : idx (fun s => decide (s.id = n)) hs 0 = -1) : FnOk Tryz.prog 15 [.ptr k 0, .int .i64 n] G fun r G' => r = .tup [.agg zS, .bool false] ∧ G' = G := by
  refine FnOk.drop (R := fun r => r = .tup [.agg zS, .bool false]) ?_ (by rintro v rfl ρ; simp only [zS, AV.ren, AV.rens])
  refine FnOk.of_WW Tryz.func15 rfl C15ok R15ok E0 good_E0 ?_
  simp only [go_sem, C15]
  refine CL.of (f42_ok (q := fun s => decide (s.id = n)) (h.ext _) (fun _ _ => call43 ..) (fun top σ => by exact cap_lit (Nat.zero_lt_succ _) 43 top σ) (fun s _ L => by exact f43_ok (get_lit2 rfl) s)) ?_
  rintro _ G' ⟨rfl, hG⟩
  rw [hG, hx]
  clear hG
  simp only [go_sem]
  refine CL.of (f41_no _ (by decide)) ?_
  rintro _ G' ⟨rfl, hG⟩
  rw [hG]
  clear hG
  simp only [go_sem, zS]
  exact ⟨_, rfl⟩
end
end Go.Proofs
/- what bytes begin with is told in one way; pieces taken, as told beforehand. -/

set_option linter.all false
set_option linter.all false
set_option maxRecDepth 100000
namespace Go.Proofs
open Go Go.Ev
variable {H : Heap}

def okB (s : List Nat) (p : Bool × List Nat) : Prop := s = p.1.toNat :: p.2 ∧ p.2.length < 1000000
section
variable {k : K} {l : List Nat}
end
end Go.Proofs
/- a shard taken of its bytes: walked. -/

set_option linter.all false
set_option linter.all false
set_option maxRecDepth 100000
namespace Go.Proofs
open Go Go.Ev
variable {H : Heap}

section
variable {k : K} {l : List Nat} {c : Blk}
end
/-- what is left of a list's bytes -/
def flT {α : Type} (f : α → List Nat) (l : List α) : List Nat := (l.map f).flatten
/-- behind cells, behind events -/
noncomputable def r3 (s : Sh) : List Nat := []
noncomputable def r2 (s : Sh) : List Nat := numT s.done.length ++ flT dnT s.done
noncomputable def r1 (s : Sh) : List Nat := numT s.evs.length ++ (flT evT s.evs ++ r2 s)
end Go.Proofs
/- errors.As, of numbers: by its contract, as a law of memories. -/

set_option linter.all false
set_option linter.all false
set_option maxRecDepth 100000
namespace Go.Proofs
open Go Go.Ev
variable {H : Heap}

section
variable {P : Program} {φ : Phi} {w : World}
theorem cell_of_row (hw : WRel P φ H w) {k : K} {x : AV} {a : At} (hk : H.get k = some (.row true 1 [[x]])) (hφ : φ k = some a) : ∃ v, w.cell? ⟨a.b, a.o, none⟩ = some v ∧ VRel P φ x v ∧ w.frozen? ⟨a.b, a.o, none⟩ = false := by
  obtain ⟨hp, _, pre, vs, post, e, lo, hi, g1, g2, g3, g4, g5, g6⟩ := hw.blk k _ a hk hφ
  have g5 : VRels P φ [x] vs := g5
  cases g5 with
  | cons _ _ v l h1 h2 =>
    cases h2
    refine ⟨v, ?_, h1, ?_⟩
    · simp only [World.cell?, g1]
      simp [← g2]
    · simp only [World.frozen?, g1]
      have h4 := g4 rfl
      simp at g3 ⊢
      omega
/-- a call that writes a number into a cell -/
theorem FnOk.of_calls_set {f : FuncId} {args : List AV} {k : K} {x y v : AV} {y' : Value} (hk : H.get k = some (.row true 1 [[x]])) (hy : ∀ φ, VRel P φ y y') (hone : y'.oneCell' = true) (hv : ∀ φ, ∃ v', VRel P φ v v')
    (h : ∀ φ w args', VRels P φ args args'.toList → WRel P φ H w → ∃ a, φ k = some a ∧ ∀ old, w.cell? ⟨a.b, a.o, none⟩ = some old → w.frozen? ⟨a.b, a.o, none⟩ = false →
      Calls P f args' w fun e u => (∃ v', e = .returned v' ∧ VRel P φ v v') ∧ ∃ w4, Grows w w4 ∧ u = w4.setCell ⟨a.b, a.o, none⟩ y') :
    FnOk P f args H fun r G => r = v ∧ G = H.set k (.row true 1 [[y]]) := by
  intro φ w args' ha hw
  obtain ⟨a, hφ, hc⟩ := h φ w args' ha hw
  obtain ⟨old, h1, _, h2⟩ := cell_of_row hw hk hφ
  refine (hc old h1 h2).mono ?_
  rintro e u ⟨⟨v', rfl, hv'⟩, w4, hg, rfl⟩
  have hw4 := hw.grows hg.size hg.old
  obtain ⟨old4, h14, _, h24⟩ := cell_of_row hw4 hk hφ
  obtain ⟨u, hst, hwu, hE⟩ := storeCells_sound (off := 0) (vals := [y]) (vals' := [y']) (rows' := [[y]]) hw4 hk hφ (.cons _ _ _ _ (hy φ) .nil) (by intro z hz; rw [List.mem_singleton.1 hz]; exact hone) (put_rows 1 [[x]] [[y]] 0 (by intro z hz; rw [List.mem_singleton.1 hz]; rfl) (by intro z hz; rw [List.mem_singleton.1 hz]; rfl) (Nat.le_refl 1))
  have hst' : (storeCells ⟨a.b, a.o, none⟩ [y']).run P w4 = .ok () (w4.setCell ⟨a.b, a.o, none⟩ y') := by
    simp only [storeCells, Addr.add, Sem.run_bind, Nat.add_zero, if_true]
    rw [run_store P w4 _ _ _ hone, h14]
    simp [h24]
  rw [Nat.add_zero] at hst
  rw [hst] at hst'
  injection hst' with _ hu
  subst hu
  refine ⟨v, _, ⟨rfl, rfl⟩, φ, v', rfl, hv', hwu, ?_⟩
  exact ⟨hE.phi, hE.nx, Nat.le_trans hg.size hE.size, fun b hb hn => by rw [hE.keeps b (Nat.lt_of_lt_of_le hb hg.size) hn, hg.old b hb], hE.hidden, fun b hb ho => hE.own b (Nat.lt_of_lt_of_le hb hg.size) ho, hE.os.trans hg.os, hE.tape.trans hg.tape, hE.output.trans hg.output⟩
end
end Go.Proofs
/- a shard of an epoch; what is done to a shard that is there: walked. -/

set_option linter.all false
set_option linter.all false
set_option maxRecDepth 100000
namespace Go.Proofs
open Go Go.Ev
variable {H : Heap}

section
variable {G : Heap} {k : K} {lv gv : AV} {hs : List Sh} {gs : List Gn}
theorem idx_one {α : Type} {q : α → Bool} {s : α} (h : q s = true) : idx q [s] 0 = ((0 : Nat) : Int) := by unfold idx; rw [h]; rfl
end
end Go.Proofs
/- a node's records done: freezes, thaws, refusals: walked. -/

set_option linter.all false
set_option linter.all false
set_option maxRecDepth 100000
namespace Go.Proofs
open Go Go.Ev
variable {H : Heap}

def zA : List AV := [.int .i64 0, .str [], .int .i64 0, .nils]
section
variable {G : Heap} {k : K} {lv gv : AV} {hs : List Sh} {gs : List Gn}
end
end Go.Proofs
/- The laid-out code of the functions that are walked. -/

set_option linter.all false
set_option maxRecDepth 100000
namespace Go.Proofs
open Go Go.Ev K
noncomputable def C13 := mkC Tryz.prog Tryz.f13 17
theorem C13ok : CCok Tryz.prog Tryz.f13 17 C13 := mkC_ok _
@[go_sem] theorem call13 (a H) : callC Tryz.prog 13 a H = .call 13 a := callC_ok (by kernel_rfl) a H
theorem R13ok : resKs Tryz.prog Tryz.f13.results.toList = some [RK.tmp z.i] := by kernel_rfl
noncomputable def C14 := mkC Tryz.prog Tryz.f14 7
theorem C14ok : CCok Tryz.prog Tryz.f14 7 C14 := mkC_ok _
@[go_sem] theorem call14 (a H) : callC Tryz.prog 14 a H = .call 14 a := callC_ok (by kernel_rfl) a H
theorem R14ok : resKs Tryz.prog Tryz.f14.results.toList = some [RK.tmp z.i] := by kernel_rfl
noncomputable def C20 := mkC Tryz.prog Tryz.f20 8
theorem C20ok : CCok Tryz.prog Tryz.f20 8 C20 := mkC_ok _
@[go_sem] theorem call20 (a H) : callC Tryz.prog 20 a H = .call 20 a := callC_ok (by kernel_rfl) a H
theorem R20ok : resKs Tryz.prog Tryz.f20.results.toList = some [RK.tmp z.i] := by kernel_rfl
noncomputable def C29 := mkC Tryz.prog Tryz.f29 7
theorem C29ok : CCok Tryz.prog Tryz.f29 7 C29 := mkC_ok _
@[go_sem] theorem call29 (a H) : callC Tryz.prog 29 a H = .call 29 a := callC_ok (by kernel_rfl) a H
theorem R29ok : resKs Tryz.prog Tryz.f29.results.toList = some [] := by kernel_rfl
noncomputable def C66 := mkC Tryz.prog Tryz.f66 5
theorem C66ok : CCok Tryz.prog Tryz.f66 5 C66 := mkC_ok _
@[go_sem] theorem call66 (a H) : callC Tryz.prog 66 a H = .call 66 a := callC_ok (by kernel_rfl) a H
theorem R66ok : resKs Tryz.prog Tryz.f66.results.toList = some [] := by kernel_rfl
noncomputable def C84 := mkC Tryz.prog Tryz.f84 33
theorem C84ok : CCok Tryz.prog Tryz.f84 33 C84 := mkC_ok _
@[go_sem] theorem call84 (a H) : callC Tryz.prog 84 a H = .call 84 a := callC_ok (by kernel_rfl) a H
theorem R84ok : resKs Tryz.prog Tryz.f84.results.toList = some [] := by kernel_rfl
noncomputable def C85 := mkC Tryz.prog Tryz.f85 9
theorem C85ok : CCok Tryz.prog Tryz.f85 9 C85 := mkC_ok _
@[go_sem] theorem call85 (a H) : callC Tryz.prog 85 a H = .call 85 a := callC_ok (by kernel_rfl) a H
theorem R85ok : resKs Tryz.prog Tryz.f85.results.toList = some [RK.cell z.i true 24] := by kernel_rfl
@[go_sem] theorem call93 (a H) : callC Tryz.prog 93 a H = .call 93 a := callC_ok (by kernel_rfl) a H
@[go_sem] theorem call28 (a H) : callC Tryz.prog 28 a H = .call 28 a := callC_ok (by kernel_rfl) a H
end Go.Proofs
/- A node's disk, journal: walked. -/



set_option linter.all false
set_option maxRecDepth 100000
namespace Go.Proofs
open Go Go.Ev
variable {H : Heap}
section
variable {k : K} {wr : Bool}
theorem f14_ok {a b c d e f g h : AV} (hk : H.get k = some (.row wr 8 [[a, b, c, d, e, f, g, h]])) : FnOk Tryz.prog 14 [.ptr k 0] H fun r G => r = d ∧ G = H := by
  refine FnOk.assume fun hok => ?_
  have hk' := fun L => Heap.get_ext_old hok hk L
  refine FnOk.of_WW Tryz.func14 rfl C14ok R14ok E0 good_E0 ?_
  simp only [go_sem, C14, hk']
  rfl
theorem f66_ok {b n : AV} (hk : H.get k = some (.row true 2 [[b, n]])) : FnOk Tryz.prog 66 [.ptr k 0] H fun r G => r = .tup [] ∧ G = H.set k (.row true 2 [[b, .int .i64 0]]) := by
  refine FnOk.assume fun hok => ?_
  have hk' := fun L => Heap.get_ext_old hok hk L
  have hset := fun b (l : List Blk) (α : Type) (c' : Heap → α) => Heap.setC_here hok hk b l c'
  refine FnOk.of_WW Tryz.func66 rfl C66ok R66ok E0 good_E0 ?_
  simp only [go_sem, C66, hk', hset]
  rfl
theorem f29_ok {kd : K} {m b n : AV} (hk : H.get k = some (.row wr 2 [[.ptr kd 0, m]])) (hd : H.get kd = some (.row true 2 [[b, n]])) : FnOk Tryz.prog 29 [.ptr k 0] H fun r G => r = .tup [] ∧ G = H.set kd (.row true 2 [[b, .int .i64 0]]) := by
  refine FnOk.assume fun hok => ?_
  have hk' := fun L => Heap.get_ext_old hok hk L
  refine FnOk.of_WW Tryz.func29 rfl C29ok R29ok E0 good_E0 ?_
  simp only [go_sem, C29, hk']
  refine CL.of (f66_ok (Heap.get_ext_old hok hd _)) ?_
  rintro _ G' ⟨rfl, hG⟩; rw [hG]; clear hG
  rw [Heap.ext_nil]
  refine WW.nil ?_
  simp only [go_sem]
  rfl
theorem f20_ok {a b c d f g h : AV} {w : AV} {xs : List (List AV)} (hw : Arr H 24 w xs) (hk : H.get k = some (.row wr 8 [[a, b, c, d, w, f, g, h]])) : FnOk Tryz.prog 20 [.ptr k 0] H fun r G => r = .int .i64 xs.length ∧ G = H := by
  refine FnOk.assume fun hok => ?_
  have hk' := fun L => Heap.get_ext_old hok hk L
  have hl := hw.len
  refine FnOk.of_WW Tryz.func20 rfl C20ok R20ok E0 good_E0 ?_
  simp only [go_sem, C20, hk', hl]
  rfl
end
end Go.Proofs
/- Loops of few rounds, unrolled. -/

set_option linter.all false
namespace Go.Ev
variable {P : Program} {H : Heap} {T : Tr AV} {E : FuncId → List AV → Heap → RC} {N : Nat} {H0 : Heap} {k : List It} {Q : Ex → Tr AV → Heap → Prop}
noncomputable def UN (P : Program) (E : FuncId → List AV → Heap → RC) (N : Nat) (H0 : Heap) (x : CC) (k : List It) (Q : Ex → Tr AV → Heap → Prop) : Nat → Tr AV → Heap → Prop
  | 0, T, H => WW P E N H0 [.code x] T H (behind (fun _ _ => False) (postW P E N H0 k Q))
  | n + 1, T, H => WW P E N H0 [.code x] T H (behind (UN P E N H0 x k Q n) (postW P E N H0 k Q))
@[go_sem] theorem UN_0 (x : CC) : UN P E N H0 x k Q 0 T H = WW P E N H0 [.code x] T H (behind (fun _ _ => False) (postW P E N H0 k Q)) := nrf rfl
@[go_sem] theorem UN_1 (x : CC) : UN P E N H0 x k Q 1 T H = WW P E N H0 [.code x] T H (behind (UN P E N H0 x k Q 0) (postW P E N H0 k Q)) := nrf rfl
@[go_sem] theorem UN_2 (x : CC) : UN P E N H0 x k Q 2 T H = WW P E N H0 [.code x] T H (behind (UN P E N H0 x k Q 1) (postW P E N H0 k Q)) := nrf rfl
@[go_sem] theorem UN_3 (x : CC) : UN P E N H0 x k Q 3 T H = WW P E N H0 [.code x] T H (behind (UN P E N H0 x k Q 2) (postW P E N H0 k Q)) := nrf rfl
@[congr] theorem UN_congr {x : CC} {n : Nat} {U : Tr AV} {G : Heap} (h : T = U) (h2 : H = G) : UN P E N H0 x k Q n T H = UN P E N H0 x k Q n U G := by rw [h, h2]
/-- a call that is known, two calls that are known: for regions that draw their order -/
theorem withE_eq (E : FuncId → List AV → Heap → RC) (f : FuncId) (args : List AV) (H : Heap) (v : AV) (G : Heap) : withE E f args H v G f args H = .ok v G := by
  unfold withE
  rw [if_pos ⟨rfl, rfl, rfl⟩]
theorem withE_ne {E : FuncId → List AV → Heap → RC} {f g : FuncId} (h : g ≠ f) (args a : List AV) (H J : Heap) (v : AV) (G : Heap) : withE E f args H v G g a J = E g a J := by
  unfold withE
  rw [if_neg fun e => h e.1]
theorem one_call {f : FuncId} {a : List AV} {v : AV} {G : Heap} (h : FnOk P f a H fun r J => r = v ∧ J = G) : ∃ E : FuncId → List AV → Heap → RC, Good P E ∧ E f a H = .ok v G := ⟨withE E0 f a H v G, good_withE good_E0 h, withE_eq ..⟩
theorem two_calls {f g : FuncId} (hne : g ≠ f) {a b : List AV} {v u : AV} {H2 G G2 : Heap} (h : FnOk P f a H fun r J => r = v ∧ J = G) (h2 : FnOk P g b H2 fun r J => r = u ∧ J = G2) :
    ∃ E : FuncId → List AV → Heap → RC, Good P E ∧ E f a H = .ok v G ∧ E g b H2 = .ok u G2 := ⟨withE (withE E0 f a H v G) g b H2 u G2, good_withE (good_withE good_E0 h) h2, by rw [withE_ne (Ne.symm hne), withE_eq], withE_eq ..⟩
end Go.Ev
/- A put noted by a node: walked. -/


set_option linter.all false
set_option maxRecDepth 100000
namespace Go.Proofs
open Go Go.Ev
variable {H : Heap}
section
variable {G : Heap} {kn kd kj kh : K}
/-- what there was is there still, but for some blocks -/
structure Kp (ks : List K) (G G' : Heap) : Prop where
  keep : ∀ j b, j ∉ ks → G.get j = some b → G'.get j = some b
  le : G.nx.toNat ≤ G'.nx.toNat
end
end Go.Proofs
/- Answers that wait: walked. -/

set_option linter.all false
set_option maxRecDepth 100000
namespace Go.Proofs
open Go Go.Ev
variable {H : Heap}
section
variable {G G' : Heap} {ks : List K}
end
section
variable {G : Heap} {kn kw : K}
/-- one more put behind a list that was there before -/
theorem appQ_old (hok : G.ok) {n : Nat} {x : List AV} {xs : List (List AV)} (hw : G.get kw = some (.row true 24 (x :: xs))) (hn : xs.length = n) {L : List Blk} {j : Nat} {wr ex : Bool} {cap : Nat} {y : List AV} (hj : L[j]? = some (.row wr 24 [y])) (hN : n < 100000) :
    appQ 24 328 (some (outV kw 24 (n + 1))) (some (.slice (G.key j) 0 1 24 ex cap)) (G.ext L) = .val (.slice ((G.set kw .dead).key L.length) 0 (n + 2) 24 false (n + 2)) ((G.set kw .dead).ext (L ++ [.row true 24 (x :: xs ++ [y])])) := by
  show appR 24 328 (.c _) (.c _) .lf (G.ext L) = _
  subst hn
  have hjl := (List.getElem?_eq_some_iff.1 hj).1
  have hg := Heap.get_ext_old hok hw L
  have hb1 : (2 * ((xs.length + 1) + 1) + 192) * 328 ≤ 281474976710656 := Nat.le_trans (Nat.mul_le_mul_right _ (show _ ≤ 300000 by omega)) (by decide)
  have hs := fun (α : Type) (c : Heap → α) => Heap.setC_here hok hw .dead L c
  unfold appR
  show withX _ (.c (.slice kw 0 (xs.length + 1) 24 false (xs.length + 1))) _ _ = _
  simp only [go_sem, withX, evX, Heap.get_ext_key _ _ _ hjl, hg, hj, List.drop_zero, List.take_succ_cons, List.take_zero, List.length_cons, List.length_nil, Nat.zero_mod, Nat.zero_div, Nat.reduceAdd, Nat.reduceSub, Nat.reduceMul, Nat.reduceDiv, Nat.reduceMod, Nat.reduceEqDiff, Nat.reduceLeDiff, Nat.reduceLT, reduceIte, List.take_length, List.cons_append]
  rw [if_pos (Nat.le_refl _), if_neg (by omega), if_pos hb1, hs, Heap.addC_ext]
  rfl
theorem says_end {D : Heap} {ks : List K} {c : Blk} (hdo : D.ok) (hdk : D.get kn = some c) (hD : Kp ks G D) (hkn : kn ∈ ks) (hks : ∀ j ∈ ks, ∃ b, G.get j = some b) (hGo : G.ok) {L : List Blk} {i : Nat} {r : Blk} (hL : L[i]? = some r) (b : Blk) :
    ((D.set kn b).ext L).get kn = some b ∧ ((D.set kn b).ext L).get (D.key i) = some r ∧ ((D.set kn b).ext L).ok ∧ Kp ks G ((D.set kn b).ext L) ∧ D.key i ∉ ks := by
  have hil := (List.getElem?_eq_some_iff.1 hL).1
  refine ⟨Heap.get_set_here hdo hdk b L, (Heap.get_key_set hil).trans hL, Heap.ok_ext (Heap.ok_set hdo hdk) L, ⟨fun j d hj hd => Heap.get_set_there hdo (hD.keep j d hj hd) (by rintro rfl; exact hj hkn) b L, Nat.le_trans hD.le (by rw [Heap.nx_ext, Heap.toNat_key, Heap.nx_set]; exact Nat.le_add_right _ _)⟩, fun hm => ?_⟩
  obtain ⟨d, hd⟩ := hks _ hm
  have h1 := hGo _ _ hd
  have h2 := hD.le
  rw [Heap.toNat_key] at h1
  omega
end
end Go.Proofs
/- The laid-out code of the functions that are walked. -/

set_option linter.all false
set_option maxRecDepth 100000
namespace Go.Proofs
open Go Go.Ev K
noncomputable def C30 := mkC Tryz.prog Tryz.f30 69
theorem C30ok : CCok Tryz.prog Tryz.f30 69 C30 := mkC_ok _
@[go_sem] theorem call30 (a H) : callC Tryz.prog 30 a H = .call 30 a := callC_ok (by kernel_rfl) a H
theorem R30ok : resKs Tryz.prog Tryz.f30.results.toList = some [RK.tmp z.i] := by kernel_rfl
noncomputable def C67 := mkC Tryz.prog Tryz.f67 9
theorem C67ok : CCok Tryz.prog Tryz.f67 9 C67 := mkC_ok _
@[go_sem] theorem call67 (a H) : callC Tryz.prog 67 a H = .call 67 a := callC_ok (by kernel_rfl) a H
theorem R67ok : resKs Tryz.prog Tryz.f67.results.toList = some [RK.tmp z.i] := by kernel_rfl
@[go_sem] theorem call68 (a H) : callC Tryz.prog 68 a H = .call 68 a := callC_ok (by kernel_rfl) a H
@[go_sem] theorem call69 (a H) : callC Tryz.prog 69 a H = .call 69 a := callC_ok (by kernel_rfl) a H
noncomputable def C70 := mkC Tryz.prog Tryz.f70 9
theorem C70ok : CCok Tryz.prog Tryz.f70 9 C70 := mkC_ok _
@[go_sem] theorem call70 (a H) : callC Tryz.prog 70 a H = .call 70 a := callC_ok (by kernel_rfl) a H
theorem R70ok : resKs Tryz.prog Tryz.f70.results.toList = some [RK.tmp z.o.i] := by kernel_rfl
@[go_sem] theorem call71 (a H) : callC Tryz.prog 71 a H = .call 71 a := callC_ok (by kernel_rfl) a H
noncomputable def C72 := mkC Tryz.prog Tryz.f72 9
theorem C72ok : CCok Tryz.prog Tryz.f72 9 C72 := mkC_ok _
@[go_sem] theorem call72 (a H) : callC Tryz.prog 72 a H = .call 72 a := callC_ok (by kernel_rfl) a H
theorem R72ok : resKs Tryz.prog Tryz.f72.results.toList = some [RK.tmp z.o.i] := by kernel_rfl
noncomputable def C75 := mkC Tryz.prog Tryz.f75 9
theorem C75ok : CCok Tryz.prog Tryz.f75 9 C75 := mkC_ok _
@[go_sem] theorem call75 (a H) : callC Tryz.prog 75 a H = .call 75 a := callC_ok (by kernel_rfl) a H
theorem R75ok : resKs Tryz.prog Tryz.f75.results.toList = some [RK.tmp z.o.i] := by kernel_rfl
noncomputable def C133 := mkC Tryz.prog Tryz.f133 19
theorem C133ok : CCok Tryz.prog Tryz.f133 19 C133 := mkC_ok _
@[go_sem] theorem call133 (a H) : callC Tryz.prog 133 a H = .call 133 a := callC_ok (by kernel_rfl) a H
theorem R133ok : resKs Tryz.prog Tryz.f133.results.toList = some [RK.tmp z.o.i] := by kernel_rfl
noncomputable def C134 := mkC Tryz.prog Tryz.f134 19
theorem C134ok : CCok Tryz.prog Tryz.f134 19 C134 := mkC_ok _
@[go_sem] theorem call134 (a H) : callC Tryz.prog 134 a H = .call 134 a := callC_ok (by kernel_rfl) a H
theorem R134ok : resKs Tryz.prog Tryz.f134.results.toList = some [RK.tmp z.o.i] := by kernel_rfl
noncomputable def C135 := mkC Tryz.prog Tryz.f135 19
theorem C135ok : CCok Tryz.prog Tryz.f135 19 C135 := mkC_ok _
@[go_sem] theorem call135 (a H) : callC Tryz.prog 135 a H = .call 135 a := callC_ok (by kernel_rfl) a H
theorem R135ok : resKs Tryz.prog Tryz.f135.results.toList = some [RK.tmp z.o.i] := by kernel_rfl
noncomputable def C10 := mkC Tryz.prog Tryz.f10 53
theorem C10ok : CCok Tryz.prog Tryz.f10 53 C10 := mkC_ok _
@[go_sem] theorem call10 (a H) : callC Tryz.prog 10 a H = .call 10 a := callC_ok (by kernel_rfl) a H
theorem R10ok : resKs Tryz.prog Tryz.f10.results.toList = some [] := by kernel_rfl
@[go_sem] theorem call19 (a H) : callC Tryz.prog 19 a H = .call 19 a := callC_ok (by kernel_rfl) a H
noncomputable def C35 := mkC Tryz.prog Tryz.f35 62
theorem C35ok : CCok Tryz.prog Tryz.f35 62 C35 := mkC_ok _
@[go_sem] theorem call35 (a H) : callC Tryz.prog 35 a H = .call 35 a := callC_ok (by kernel_rfl) a H
theorem R35ok : resKs Tryz.prog Tryz.f35.results.toList = some [] := by kernel_rfl
noncomputable def C36 := mkC Tryz.prog Tryz.f36 80
theorem C36ok : CCok Tryz.prog Tryz.f36 80 C36 := mkC_ok _
@[go_sem] theorem call36 (a H) : callC Tryz.prog 36 a H = .call 36 a := callC_ok (by kernel_rfl) a H
theorem R36ok : resKs Tryz.prog Tryz.f36.results.toList = some [] := by kernel_rfl
noncomputable def C92 := mkC Tryz.prog Tryz.f92 64
theorem C92ok : CCok Tryz.prog Tryz.f92 64 C92 := mkC_ok _
@[go_sem] theorem call92 (a H) : callC Tryz.prog 92 a H = .call 92 a := callC_ok (by kernel_rfl) a H
theorem R92ok : resKs Tryz.prog Tryz.f92.results.toList = some [RK.tmp z.o.i, RK.tmp z.i.o] := by kernel_rfl
noncomputable def C11 := mkC Tryz.prog Tryz.f11 13
theorem C11ok : CCok Tryz.prog Tryz.f11 13 C11 := mkC_ok _
@[go_sem] theorem call11 (a H) : callC Tryz.prog 11 a H = .call 11 a := callC_ok (by kernel_rfl) a H
theorem R11ok : resKs Tryz.prog Tryz.f11.results.toList = some [RK.cell z.i.i true 24] := by kernel_rfl
noncomputable def C12 := mkC Tryz.prog Tryz.f12 8
theorem C12ok : CCok Tryz.prog Tryz.f12 8 C12 := mkC_ok _
@[go_sem] theorem call12 (a H) : callC Tryz.prog 12 a H = .call 12 a := callC_ok (by kernel_rfl) a H
theorem R12ok : resKs Tryz.prog Tryz.f12.results.toList = some [RK.cell z.o.i true 6] := by kernel_rfl
noncomputable def C17 := mkC Tryz.prog Tryz.f17 8
theorem C17ok : CCok Tryz.prog Tryz.f17 8 C17 := mkC_ok _
@[go_sem] theorem call17 (a H) : callC Tryz.prog 17 a H = .call 17 a := callC_ok (by kernel_rfl) a H
theorem R17ok : resKs Tryz.prog Tryz.f17.results.toList = some [RK.cell z.o.i true 24] := by kernel_rfl
@[go_sem] theorem call16 (a H) : callC Tryz.prog 16 a H = .call 16 a := callC_ok (by kernel_rfl) a H
@[go_sem] theorem call9 (a H) : callC Tryz.prog 9 a H = .call 9 a := callC_ok (by kernel_rfl) a H
end Go.Proofs
/- Answers that wait, asked: walked. -/


set_option linter.all false
set_option maxRecDepth 100000
namespace Go.Proofs
open Go Go.Ev
variable {H : Heap}
/-- the answers that wait -/
def isWt (G : Heap) (wv : AV) (ws : List (List AV)) : Prop := (ws = [] ∧ wv = .nils) ∨ ∃ kw, ws ≠ [] ∧ wv = outV kw 24 ws.length ∧ G.get kw = some (.row true 24 ws)
/-- where they lie -/
def wk : AV → List K
  | .slice k _ _ _ _ _ => [k]
  | _ => []
section
variable {G : Heap} {kn : K}
end
section
variable {G : Heap} {kn kd kj kh : K}
end
end Go.Proofs
/- Laid-out code reckoned whole; a call that has no addresses, in any memory. -/

set_option linter.all false
namespace Go.Ev
variable {P : Program} {φ ψ : Phi} {H : Heap} {w u : World} {T : Tr AV}

noncomputable def evC (E : FuncId → List AV → Heap → RC) (n : Nat) : CC → Tr AV → Heap → Res :=
  Nat.rec (motive := fun _ => CC → Tr AV → Heap → Res) (fun _ _ _ => .fail) (fun _ ih c T H => CC.rec (motive := fun _ => Res)
    (.ok .norm T H) (.ok .ret T H) (fun n => .ok (.exit n) T H)
    (fun l => stepsC eqAV E l T H .fail fun T H => .ok .norm T H) (fun l => stepsC eqAV E l T H .fail fun T H => .ok .norm T H)
    (fun x y _ _ => onNorm (ih x T H) (ih y)) (fun c x y _ _ => onCond (some c) T (ih x T H) (ih y T H))
    (fun id x _ => onBlock (ih x T H) id) (fun x _ => onNorm (ih x T H) (ih (.loop x))) c) n

/-! ### A call that has no addresses -/
def AV.flat : AV → Bool
  | .bool _ | .int _ _ | .str _ | .nilp | .nils | .nilf | .nili | .nilm => true
  | _ => false
theorem flat_rel {v : AV} {x : Value} (hf : v.flat = true) (h : VRel P φ v x) (ψ : Phi) : VRel P ψ v x := by
  cases h <;> first | (cases hf; done) | skip
  · exact .bool _
  · exact .int _ _
  · exact .str _ _ (by assumption)
  · exact .nilp
  · exact .nils
  · exact .nilf
  · exact .nili
  · exact .nilm
theorem flats_rel (ψ : Phi) {l : List AV} {l' : List Value} (hf : l.all AV.flat = true) (h : VRels P φ l l') : VRels P ψ l l' := by
  induction l generalizing l' with
  | nil => cases h; exact .nil
  | cons v l ih =>
    cases h with
    | cons _ _ v' l' h hs =>
      rw [List.all_cons, Bool.and_eq_true] at hf
      exact .cons _ _ _ _ (flat_rel hf.1 h ψ) (ih hf.2 hs)
/-- memory without anything -/
noncomputable def hp0 : Heap := .mk .z .lf
theorem hp0_get (k : K) : hp0.get k = none := Tr.get_lf k
theorem WRel.to0 (hw : WRel P φ H w) : WRel P (fun _ => none) hp0 w := by
  refine ⟨⟨fun k a h => (by cases h), fun k b h => (by rw [hp0_get] at h; cases h), fun k b a h => (by rw [hp0_get] at h; cases h), fun j k c d x y _ h => (by rw [hp0_get] at h; cases h), fun k a h => (by cases h)⟩, fun g v hm => ⟨(hw.rom g v hm).1, ?_⟩⟩
  rintro ⟨k, c, a, hk, _⟩
  rw [hp0_get] at hk; cases hk
theorem FnOk.lift0 {f : FuncId} {args : List AV} {v : AV} (ha : args.all AV.flat = true) (hv : v.flat = true) (h : FnOk P f args hp0 fun r _ => r = v) : FnOk P f args H fun r G => r = v ∧ G = H := by
  intro φ w args' hargs hw
  refine (h (fun _ => none) w args' (flats_rel _ ha hargs) hw.to0).mono ?_
  rintro e u ⟨_, G, rfl, ψ, x, rfl, hx, hwu, hE⟩
  have hno : ∀ b, b < w.heap.size → u.heap[b]? = w.heap[b]? := by
    intro b hb
    refine hE.keeps b hb ?_
    rintro ⟨k, c, a, hk, _⟩
    rw [hp0_get] at hk; cases hk
  exact ⟨_, H, ⟨rfl, rfl⟩, φ, x, rfl, flat_rel hv hx φ, hw.grows hE.size hno, ⟨fun _ _ => rfl, Nat.le_refl _, hE.size, fun b hb _ => hno b hb, fun _ _ _ => rfl, fun _ _ h => h, hE.os, hE.tape, hE.output⟩⟩
end Go.Ev
/- Known answers handed to the evaluator; slices.Insert at a slice of one's own. -/

set_option linter.all false
namespace Go.Ev
variable {P : Program} {φ : Phi} {H : Heap}

noncomputable def X0 : Orc := fun _ _ _ => none
theorem good_X0 : GoodX P X0 := fun _ _ _ _ h => by cases h
/-- one function more is known -/
noncomputable def orX (F : FuncId) (A : List AV → Heap → Option RC) (X : Orc) : Orc := fun f args H => bif' (Nat.beq f F) (A args H) (X f args H)
theorem good_orX {F : FuncId} {A : List AV → Heap → Option RC} {X : Orc} (hA : ∀ args H v G, A args H = some (.ok v G) → FnOk P F args H fun v' G' => v' = v ∧ G' = G) (hX : GoodX P X) : GoodX P (orX F A X) := by
  intro f args H r h v G hr
  unfold orX at h
  cases hb : Nat.beq f F with
  | true =>
    rw [hb, bif_true] at h
    have := Nat.eq_of_beq_eq_true hb; subst this; subst hr
    exact hA args H v G h
  | false => rw [hb, bif_false] at h; exact hX f args H r h v G hr

noncomputable def insOwnA (esz bytes : Nat) (x : List AV) (kv k : K) (m n : Nat) (rows : List (List AV)) (H : Heap) : Option RC :=
  bif' (Nat.beq rows.length n) (bif' (K.beq kv k) none (bif' (Nat.ble m n) (bif' (Nat.ble (n + 1) 4294967295) (bif' (Nat.ble ((2 * (n + 1) + 192) * bytes) 281474976710656)
    (fL (rows.take m ++ x :: rows.drop m) fun rows => H.setC k .dead fun H => H.addC (.row true esz rows) fun k H => fN (n + 1) fun n => some (.ok (.slice k 0 n esz false n) H)) none) none) none)) none
noncomputable def insA (esz bytes : Nat) (args : List AV) (H : Heap) : Option RC :=
  match args with
  | [s, .int .i64 (.ofNat m), .slice kv 0 1 es true 1] => bif' (Nat.beq es esz) (match H.get kv with
    | some (.row true es1 [x]) => bif' (Nat.beq es1 esz) (match s with
      | .nils => bif' (Nat.beq m 0) (bif' (Nat.ble (194 * bytes) 281474976710656) (H.addC (.row true esz [x]) fun k H => some (.ok (.slice k 0 1 esz false 1) H)) none) none
      | .slice k 0 n es2 ex cap => bif' (Nat.beq es2 esz) (match H.get k with
        | some (.row true es3 rows) => bif' (Nat.beq es3 esz) (match n, ex, rows with
          | 0, true, [] => bif' (Nat.beq cap 0) (bif' (Nat.beq m 0) (bif' (Nat.ble (194 * bytes) 281474976710656) (H.addC (.row true esz [x]) fun k H => some (.ok (.slice k 0 1 esz false 1) H)) none) none) none
          | n + 1, false, rows => bif' (Nat.beq cap (n + 1)) (insOwnA esz bytes x kv k m (n + 1) rows H) none
          | _, _, _ => none) none
        | _ => none) none
      | _ => none) none
    | _ => none) none
  | _ => none
theorem insA_sound {F : FuncId} {esz bytes : Nat} {zero : List AV} (hf : InsFn P F esz bytes zero) (args : List AV) (H : Heap) (v : AV) (G : Heap) (h : insA esz bytes args H = some (.ok v G)) : FnOk P F args H fun v' G' => v' = v ∧ G' = G := by
  unfold insA at h
  split at h
  case h_2 => cases h
  rename_i s m kv es
  have b1 : ∀ {α : Type} (a b : Nat) (x : Option α) (y : α), bif' (Nat.beq a b) x none = some y → a = b ∧ x = some y := by
    intro α a b x y e
    cases hb : Nat.beq a b with
    | true => rw [hb] at e; exact ⟨Nat.eq_of_beq_eq_true hb, e⟩
    | false => rw [hb] at e; cases e
  have b2 : ∀ {α : Type} (a b : Nat) (x : Option α) (y : α), bif' (Nat.ble a b) x none = some y → a ≤ b ∧ x = some y := by
    intro α a b x y e
    cases hb : Nat.ble a b with
    | true => rw [hb] at e; exact ⟨Nat.le_of_ble_eq_true hb, e⟩
    | false => rw [hb] at e; cases e
  obtain ⟨rfl, h⟩ := b1 _ _ _ _ h
  split at h
  case h_2 => cases h
  rename_i es1 x hv
  obtain ⟨rfl, h⟩ := b1 _ _ _ _ h
  split at h
  case h_3 => cases h
  · obtain ⟨rfl, h⟩ := b1 _ _ _ _ h
    obtain ⟨hb, h⟩ := b2 _ _ _ _ h
    rw [Heap.addC_eq] at h
    cases h
    exact insert_nil hf hv hb
  · rename_i k n es2 ex cap g1 g2
    clear g1 g2
    obtain ⟨rfl, h⟩ := b1 _ _ _ _ h
    split at h
    case h_2 => cases h
    rename_i es3 rows hg
    obtain ⟨rfl, h⟩ := b1 _ _ _ _ h
    split at h
    case h_3 => cases h
    · obtain ⟨e1, h⟩ := b1 _ _ _ _ h
      obtain ⟨e2, h⟩ := b1 _ _ _ _ h
      obtain ⟨hb, h⟩ := b2 _ _ _ _ h
      rw [Heap.addC_eq] at h
      cases h
      rw [e1, e2]
      exact insert_zero hf hv hg hb
    · rename_i n rows'
      obtain ⟨e1, h⟩ := b1 _ _ _ _ h
      rw [e1]
      unfold insOwnA at h
      obtain ⟨hl, h⟩ := b1 _ _ _ _ h
      cases hk : K.beq kv k with
      | true => rw [hk] at h; cases h
      | false =>
      rw [hk, bif_false] at h
      have hkk : kv ≠ k := fun e => by rw [(K.beq_iff _ _).2 e] at hk; cases hk
      obtain ⟨hm, h⟩ := b2 _ _ _ _ h
      obtain ⟨hn, h⟩ := b2 _ _ _ _ h
      obtain ⟨hb, h⟩ := b2 _ _ _ _ h
      rw [fL_eq, Heap.setC_eq, Heap.addC_eq, fN_eq] at h
      cases h
      have := insert_own hf hkk hv hg (by omega) (by omega) (by omega) (by rw [hl]; exact hb) (i := m)
      rw [hl] at this
      exact this
end Go.Ev
/- Known answers: errors.Is and errors.As at numbers. -/

set_option linter.all false
namespace Go.Ev
variable {P : Program} {φ : Phi} {H : Heap} {w : World}
/-- errors.Is of a number (of type t), or none -/
noncomputable def isA (t : Nat) (args : List AV) (H : Heap) : Option RC :=
  match args with
  | [.nili, .iface t2 (.int .i64 b)] => bif' (Nat.beq t2 t) (some (.ok (.bool false) H)) none
  | [.iface t1 (.int .i64 a), .iface t2 (.int .i64 b)] => bif' (Nat.beq t1 t) (bif' (Nat.beq t2 t) (eqI a b fun z => some (.ok (.bool z) H)) none) none
  | _ => none
/-- errors.As of a number (of type t), or none, at a number's pointer (of type tp), at one of another type (tb) -/
noncomputable def asA (t tp tb : Nat) (args : List AV) (H : Heap) : Option RC :=
  match args with
  | [.nili, _] => some (.ok (.bool false) H)
  | [.iface t1 (.int .i64 a), .iface t2 (.ptr k 0)] => bif' (Nat.beq t1 t) (bif' (Nat.beq t2 tb) (some (.ok (.bool false) H)) (bif' (Nat.beq t2 tp)
    (match H.get k with
      | some (.row true 1 [[x]]) => H.setC k (.row true 1 [[.int .i64 a]]) fun H => some (.ok (.bool true) H)
      | _ => none) none)) none
  | _ => none
theorem cell_of_row (hw : WRel P φ H w) {k : K} {x : AV} {a : At} (hk : H.get k = some (.row true 1 [[x]])) (hφ : φ k = some a) : ∃ v, w.cell? ⟨a.b, a.o, none⟩ = some v ∧ VRel P φ x v ∧ w.frozen? ⟨a.b, a.o, none⟩ = false := by
  obtain ⟨hp, _, pre, vs, post, e, lo, hi, g1, g2, g3, g4, g5, g6⟩ := hw.blk k _ a hk hφ
  have g5 : VRels P φ [x] vs := g5
  cases g5 with
  | cons _ _ v l h1 h2 =>
    cases h2
    refine ⟨v, ?_, h1, ?_⟩
    · simp only [World.cell?, g1]
      simp [← g2]
    · simp only [World.frozen?, g1]
      have h4 := g4 rfl
      simp at g3 ⊢
      omega
/-- a call that writes a number into a cell -/
theorem FnOk.of_calls_set {f : FuncId} {args : List AV} {k : K} {x y v : AV} {y' : Value} (hk : H.get k = some (.row true 1 [[x]])) (hy : ∀ φ, VRel P φ y y') (hone : y'.oneCell' = true) (hv : ∀ φ, ∃ v', VRel P φ v v')
    (h : ∀ φ w args', VRels P φ args args'.toList → WRel P φ H w → ∃ a, φ k = some a ∧ ∀ old, w.cell? ⟨a.b, a.o, none⟩ = some old → w.frozen? ⟨a.b, a.o, none⟩ = false →
      Calls P f args' w fun e u => (∃ v', e = .returned v' ∧ VRel P φ v v') ∧ ∃ w4, Grows w w4 ∧ u = w4.setCell ⟨a.b, a.o, none⟩ y') :
    FnOk P f args H fun r G => r = v ∧ G = H.set k (.row true 1 [[y]]) := by
  intro φ w args' ha hw
  obtain ⟨a, hφ, hc⟩ := h φ w args' ha hw
  obtain ⟨old, h1, _, h2⟩ := cell_of_row hw hk hφ
  refine (hc old h1 h2).mono ?_
  rintro e u ⟨⟨v', rfl, hv'⟩, w4, hg, rfl⟩
  have hw4 := hw.grows hg.size hg.old
  obtain ⟨old4, h14, _, h24⟩ := cell_of_row hw4 hk hφ
  obtain ⟨u, hst, hwu, hE⟩ := storeCells_sound (off := 0) (vals := [y]) (vals' := [y']) (rows' := [[y]]) hw4 hk hφ (.cons _ _ _ _ (hy φ) .nil) (by intro z hz; rw [List.mem_singleton.1 hz]; exact hone) (put_rows 1 [[x]] [[y]] 0 (by intro z hz; rw [List.mem_singleton.1 hz]; rfl) (by intro z hz; rw [List.mem_singleton.1 hz]; rfl) (Nat.le_refl 1))
  have hst' : (storeCells ⟨a.b, a.o, none⟩ [y']).run P w4 = .ok () (w4.setCell ⟨a.b, a.o, none⟩ y') := by
    simp only [storeCells, Addr.add, Sem.run_bind, Nat.add_zero, if_true]
    rw [run_store P w4 _ _ _ hone, h14]
    simp [h24]
  rw [Nat.add_zero] at hst
  rw [hst] at hst'
  injection hst' with _ hu
  subst hu
  refine ⟨v, _, ⟨rfl, rfl⟩, φ, v', rfl, hv', hwu, ?_⟩
  exact ⟨hE.phi, hE.nx, Nat.le_trans hg.size hE.size, fun b hb hn => by rw [hE.keeps b (Nat.lt_of_lt_of_le hb hg.size) hn, hg.old b hb], hE.hidden, fun b hb ho => hE.own b (Nat.lt_of_lt_of_le hb hg.size) ho, hE.os.trans hg.os, hE.tape.trans hg.tape, hE.output.trans hg.output⟩
theorem two_args {φ : Phi} {a b : AV} {args : Array Value} (h : VRels P φ [a, b] args.toList) : ∃ v u, args = #[v, u] ∧ VRel P φ a v ∧ VRel P φ b u := by
  cases hl : args.toList with
  | nil => rw [hl] at h; cases h
  | cons v l =>
    rw [hl] at h
    cases h with
    | cons _ _ _ _ h1 h2 =>
      cases h2 with
      | cons _ _ u _ h3 h4 =>
        cases h4
        exact ⟨v, u, by rw [← Array.toArray_toList (xs := args), hl], h1, h3⟩
/-- the answer is yes -/
noncomputable def okB (r : RC) : Bool := RC.rec (motive := fun _ => Bool) false (fun v _ => asBoolC v false fun b => b) r
theorem okB_eq {r : RC} (h : okB r = true) : ∃ G, r = .ok (.bool true) G := by
  cases r with
  | fail => cases h
  | ok v G =>
    cases v <;> first | (cases h; done) | skip
    rename_i b
    cases b
    · cases h
    · exact ⟨G, rfl⟩
theorem FnOk.of_evB {X : Orc} (hX : GoodX P X) {n : Nat} {f : FuncId} {args : List AV} (h : okB (evFn P X n f args H) = true) : FnOk P f args H fun v _ => v = .bool true := by
  obtain ⟨G, hG⟩ := okB_eq h
  exact (FnOk.of_ev hX hG).mono fun _ _ h => h.1
end Go.Ev
/- errors.As, where the error is a number and another type is asked for: by its contract. -/

set_option linter.all false
namespace Go.Proofs
open Go.RowKit Go.Extern.Stop Go.Stop Go.Extern
theorem Tryz.as_valueOfB (t : Addr) (w : World) : (ReflectliteValue.unpack (.iface 206 (.pointer (some t)))).run Tryz.prog w
    = .ok (.agg #[.pointer (some ⟨2, 206, none⟩), .pointer (some ⟨w.heap.size, 0, none⟩), .int .u64 150]) (w.alloc (.cells #[.pointer (some t)] 206)) := by kernel_rfl
theorem Tryz.as_typeB (a : Addr) (w : World) : (ReflectliteValue.methodAny (ReflectliteValue.valueError "reflectlite.Value.Type" 0) (fun t _ _ _ => ReflectliteType.toType t) #[.agg #[.pointer (some ⟨2, 206, none⟩), .pointer (some a), .int .u64 150]]).run Tryz.prog w
    = .ok (.iface 242 (.agg #[.pointer (some ⟨2, 206, none⟩)])) w := by kernel_rfl
theorem Tryz.as_kindB (w : World) : ((ReflectliteType.abiMethod fun t => (fun a : Nat => Value.int IntKind.u8 (a : Int)) <$> Rtype.kind t) #[.pointer (some ⟨2, 206, none⟩)]).run Tryz.prog w = .ok (.int .u8 22) w := by kernel_rfl
theorem Tryz.as_kindS (w : World) : ((ReflectliteType.abiMethod fun t => (fun a : Nat => Value.int IntKind.u8 (a : Int)) <$> Rtype.kind t) #[.pointer (some ⟨2, 122, none⟩)]).run Tryz.prog w = .ok (.int .u8 25) w := by kernel_rfl
theorem Tryz.as_partsB (a : Addr) (w : World) : (ReflectliteValue.parts (.agg #[.pointer (some ⟨2, 206, none⟩), .pointer (some a), .int .u64 150])).run Tryz.prog w = .ok (some (206, a, 150)) w := by kernel_rfl
theorem Tryz.as_isNilB (a p : Addr) (W : World) (ha : W.cell? a = some (.pointer (some p))) :
    (ReflectliteValue.method (ReflectliteValue.valueError "reflectlite.Value.IsNil" 0) ReflectliteValue.isNil #[.agg #[.pointer (some ⟨2, 206, none⟩), .pointer (some a), .int .u64 150]]).run Tryz.prog W = .ok (.bool false) W := by
  rw [rlm]
  simp only [Sem.run_bind, Tryz.as_partsB, Result.andThen]
  simp [ReflectliteValue.isNil, loadVar, isAgg, underlying, Tryz.underlying206, ha, Result.andThen]
theorem Tryz.as_elemB (w : World) : (ReflectliteType.method ReflectliteType.elem #[.agg #[.pointer (some ⟨2, 206, none⟩)]]).run Tryz.prog w = .ok (.iface 242 (.agg #[.pointer (some ⟨2, 122, none⟩)])) w := by kernel_rfl
theorem Tryz.as_implementsS (w : World) : (ReflectliteType.relation "Implements" ReflectliteType.implements_ #[.agg #[.pointer (some ⟨2, 122, none⟩)], .iface 242 (.agg #[.pointer (some ⟨2, 72, none⟩)])]).run Tryz.prog w = .ok (.bool true) w := by kernel_rfl
theorem Tryz.as_assignableS (w : World) : (ReflectliteType.relation "AssignableTo" ReflectliteType.assignableTo #[.agg #[.pointer (some ⟨2, 118, none⟩)], .iface 242 (.agg #[.pointer (some ⟨2, 122, none⟩)])]).run Tryz.prog w = .ok (.bool false) w := by kernel_rfl
theorem Tryz.noAs (v : Value) (xT : TypeId) (w : World) : (Instr.typeAssert (.iface 118 v) xT 283 true).run Tryz.prog w = .ok (.tuple #[.nilIface, .bool false]) w := run_typeAssert_lacksB Tryz.underlying283 (by kernel_rfl) (by kernel_rfl) v xT w
set_option maxHeartbeats 4000000 in
theorem as_miss (e : Int) (t : Addr) (w : World) (hg : w.cell? ⟨0, 0, none⟩ = some (.iface 242 (.agg #[.pointer (some ⟨2, 72, none⟩)]))) :
    Calls Tryz.prog 105 #[.iface 118 (.int .i64 e), .iface 206 (.pointer (some t))] w fun ev w' => ev = .returned (.bool false) ∧ w' = (((w.alloc (.cells #[.pointer (some t)] 206)).alloc (.cells #[.pointer (some ⟨2, 206, none⟩), .pointer (some ⟨w.heap.size, 0, none⟩), .int .u64 150] 225)).alloc (.cells #[.pointer (some ⟨2, 206, none⟩), .pointer (some ⟨w.heap.size, 0, none⟩), .int .u64 150] 225)) := by
  have h6 := @run_callFunc_extern Tryz.prog 161 _ (fun args => ReflectliteValue.unpack (args.getD 0 (.tuple #[]))) Tryz.func161 (by kernel_rfl) (by kernel_rfl) (by kernel_rfl) (by kernel_rfl)
  have h7 := @run_callFunc_extern Tryz.prog 162 _ (ReflectliteValue.methodAny (ReflectliteValue.valueError "reflectlite.Value.Type" 0) (fun t _ _ _ => ReflectliteType.toType t)) Tryz.func162 (by kernel_rfl) (by kernel_rfl) (by kernel_rfl) (by kernel_rfl)
  have h8 := @run_callFunc_extern Tryz.prog 163 _ (ReflectliteValue.method (ReflectliteValue.valueError "reflectlite.Value.IsNil" 0) ReflectliteValue.isNil) Tryz.func163 (by kernel_rfl) (by kernel_rfl) (by kernel_rfl) (by kernel_rfl)
  have h27 := @run_callFunc_extern Tryz.prog 300 _ (ReflectliteType.abiMethod fun t => do pure (.int .u8 (← Rtype.kind t))) Tryz.func300 (by kernel_rfl) (by kernel_rfl) (by kernel_rfl) (by kernel_rfl)
  have h37 := @run_callFunc_extern Tryz.prog 312 _ (ReflectliteType.method ReflectliteType.elem) Tryz.func312 (by kernel_rfl) (by kernel_rfl) (by kernel_rfl) (by kernel_rfl)
  have h38 := @run_callFunc_extern Tryz.prog 313 _ (ReflectliteType.relation "Implements" ReflectliteType.implements_) Tryz.func313 (by kernel_rfl) (by kernel_rfl) (by kernel_rfl) (by kernel_rfl)
  have h10 := @run_callFunc_extern Tryz.prog 127 _ ReflectliteType.typeOf Tryz.func127 (by kernel_rfl) (by kernel_rfl) (by kernel_rfl) (by kernel_rfl)
  have h35 := @run_callFunc_extern Tryz.prog 310 _ (ReflectliteType.relation "AssignableTo" ReflectliteType.assignableTo) Tryz.func310 (by kernel_rfl) (by kernel_rfl) (by kernel_rfl) (by kernel_rfl)
  have tO := Tryz.as_typeOf25
  have mA := Tryz.as_methodAssignableTo
  have a25 := Tryz.as_assignableS
  have f6 := Tryz.as_valueOfB
  have f7 := Tryz.as_typeB
  have mK := Tryz.as_methodKind
  have mE := Tryz.as_methodElem
  have mI := Tryz.as_methodImplements
  have k27 := Tryz.as_kindB
  have k25 := Tryz.as_kindS
  have e27 := Tryz.as_elemB
  have i25 := Tryz.as_implementsS
  have n1 := Tryz.noAs
  have n2 := Tryz.noUnwrap
  have n3 := Tryz.noUnwraps
  have n8 := Tryz.as_isNilB ⟨w.heap.size, 0, none⟩ t ((w.alloc (.cells #[.pointer (some t)] 206)).alloc (.cells #[.pointer (some ⟨2, 206, none⟩), .pointer (some ⟨w.heap.size, 0, none⟩), .int .u64 150] 225)) (by simp)
  have hlt : 0 < w.heap.size := by
    rcases Nat.eq_zero_or_pos w.heap.size with h0 | h
    · simp [World.cell?, h0] at hg
    · exact h
  have hg2 : ((w.alloc (.cells #[.pointer (some t)] 206)).alloc (.cells #[.pointer (some ⟨2, 206, none⟩), .pointer (some ⟨w.heap.size, 0, none⟩), .int .u64 150] 225)).cell? ⟨0, 0, none⟩ = some (.iface 242 (.agg #[.pointer (some ⟨2, 72, none⟩)])) := by
    rw [World.cell?_alloc_lt _ _ ⟨0, 0, none⟩ (by simp), World.cell?_alloc_lt _ _ ⟨0, 0, none⟩ hlt]; exact hg
  go_enter Tryz.func105, Tryz.ntmps105
  go_wp2
  refine wp_loop_rounds 1 ?_
  rw [rounds_succ]
  go_wp2
  go_ret
  exact ⟨rfl, rfl⟩
end Go.Proofs
/- The functions whose answers are known: slices.Insert, errors.Is, errors.As. -/


set_option linter.all false
set_option maxRecDepth 100000
namespace Go.Proofs
open Go Go.Ev
variable {H : Heap}
theorem ins183 : InsFn Tryz.prog 183 6 72 [.int .i64 0, .int .i64 0, .int .i64 0, .str [], .int .i64 0, .nils] := ⟨⟨Tryz.f183, 220, 221, Tryz.func183, by kernel_rfl, by kernel_rfl, by kernel_rfl, by kernel_rfl⟩, rfl, by decide⟩
theorem ins275 : InsFn Tryz.prog 275 5 56 [.str [], .str [], .int .i64 0, .bool false, .int .i64 0] := ⟨⟨Tryz.f275, 281, 282, Tryz.func275, by kernel_rfl, by kernel_rfl, by kernel_rfl, by kernel_rfl⟩, rfl, by decide⟩
theorem num_inv {φ : Phi} {n : Int} {v : Value} (h : VRel Tryz.prog φ (.iface 118 (.int .i64 n)) v) : v = .iface 118 (.int .i64 n) := by
  cases h with | iface _ _ v' h => cases h; rfl
theorem nil_inv {φ : Phi} {v : Value} (h : VRel Tryz.prog φ .nili v) : v = .nilIface := by cases h; rfl
theorem b1 {α : Type} {a b : Nat} {x : Option α} {y : α} (e : bif' (Nat.beq a b) x none = some y) : a = b ∧ x = some y := by
  cases hb : Nat.beq a b with
  | true => rw [hb] at e; exact ⟨Nat.eq_of_beq_eq_true hb, e⟩
  | false => rw [hb] at e; cases e
theorem is_ok (args : List AV) (H : Heap) (v : AV) (G : Heap) (h : isA 118 args H = some (.ok v G)) : FnOk Tryz.prog 64 args H fun v' G' => v' = v ∧ G' = G := by
  unfold isA at h
  split at h
  case h_3 => cases h
  · obtain ⟨rfl, h⟩ := b1 h
    cases h
    refine FnOk.of_calls fun φ w args' ha hw => ?_
    obtain ⟨x, y, rfl, h1, h2⟩ := two_args ha
    obtain rfl := nil_inv h1
    obtain rfl := num_inv h2
    refine (is_nil _ w).mono ?_
    rintro e w' ⟨rfl, rfl⟩
    exact ⟨⟨_, rfl, .bool _⟩, Grows.refl _⟩
  · obtain ⟨q1, g1⟩ := b1 h
    obtain ⟨q2, g2⟩ := b1 g1
    rw [eqI_eq] at g2
    cases g2
    rw [q1, q2]
    refine FnOk.of_calls fun φ w args' ha hw => ?_
    obtain ⟨x, y, rfl, h1, h2⟩ := two_args ha
    obtain rfl := num_inv h1
    obtain rfl := num_inv h2
    refine (is_num _ _ w).mono ?_
    rintro e w' ⟨rfl, rfl⟩
    refine ⟨⟨_, rfl, ?_⟩, Grows.refl _⟩
    exact .bool _
theorem as_ok (args : List AV) (H : Heap) (v : AV) (G : Heap) (h : asA 118 165 206 args H = some (.ok v G)) : FnOk Tryz.prog 105 args H fun v' G' => v' = v ∧ G' = G := by
  unfold asA at h
  split at h
  case h_3 => cases h
  · cases h
    refine FnOk.of_calls fun φ w args' ha hw => ?_
    obtain ⟨x, y, rfl, h1, h2⟩ := two_args ha
    obtain rfl := nil_inv h1
    refine (as_nil y w).mono ?_
    rintro e w' ⟨rfl, rfl⟩
    exact ⟨⟨_, rfl, .bool _⟩, Grows.refl _⟩
  · rename_i t1 n t2 k
    obtain ⟨q1, h⟩ := b1 h
    rw [q1]
    cases hb : Nat.beq t2 206 with
    | true =>
      rw [hb] at h
      cases h
      obtain rfl := Nat.eq_of_beq_eq_true hb
      refine FnOk.of_calls fun φ w args' ha hw => ?_
      obtain ⟨x, y, rfl, h1, h2⟩ := two_args ha
      obtain rfl := num_inv h1
      cases h2 with
      | iface _ _ u' h2 =>
        cases h2 with
        | ptr _ _ a ha2 =>
          refine (as_miss n ⟨a.b, a.o + 0, none⟩ w (hw.rom 0 _ (List.mem_singleton.2 rfl)).1).mono ?_
          rintro e w' ⟨rfl, rfl⟩
          exact ⟨⟨_, rfl, .bool _⟩, (((Grows.alloc _ _).trans (Grows.alloc _ _)).trans (Grows.alloc _ _))⟩
    | false =>
      rw [hb, bif_false] at h
      obtain ⟨q2, h⟩ := b1 h
      rw [q2]
      split at h
      case h_2 => cases h
      rename_i x hk
      rw [Heap.setC_eq] at h
      cases h
      refine FnOk.of_calls_set (y' := .int .i64 n) hk (fun φ => .int _ _) rfl (fun φ => ⟨_, .bool _⟩) fun φ w args' ha hw => ?_
      obtain ⟨v, u, rfl, h1, h2⟩ := two_args ha
      obtain rfl := num_inv h1
      cases h2 with
      | iface _ _ u' h2 =>
        cases h2 with
        | ptr _ _ a ha2 =>
          refine ⟨a, ha2, fun old ho hf => ?_⟩
          refine (as_hit n ⟨a.b, a.o, none⟩ old w (hw.rom 0 _ (List.mem_singleton.2 rfl)).1 ho hf).mono ?_
          rintro e w' ⟨rfl, rfl⟩
          exact ⟨⟨_, rfl, .bool _⟩, _, (((Grows.alloc _ _).trans (Grows.alloc _ _)).trans (Grows.alloc _ _)).trans (Grows.alloc _ _), rfl⟩
/-- what is known beforehand -/
noncomputable def XK : Orc := orX 183 (insA 6 72) (orX 275 (insA 5 56) (orX 64 (isA 118) (orX 105 (asA 118 165 206) X0)))
theorem good_XK : GoodX Tryz.prog XK := good_orX (insA_sound ins183) (good_orX (insA_sound ins275) (good_orX is_ok (good_orX as_ok good_X0)))
end Go.Proofs
/- The known example: reckoned. -/

set_option linter.all false
set_option maxRecDepth 100000
namespace Go.Proofs
open Go Go.Ev
variable {H : Heap}
theorem known_run : Go.Ev.okB (evFn Tryz.prog XK 100000 8 [] hp0) = true := by kernel_rfl
theorem known_ok : FnOk Tryz.prog 8 [] H fun r G => r = .bool true ∧ G = H := FnOk.lift0 rfl rfl (FnOk.of_evB good_XK known_run)
noncomputable def kA (args : List AV) (H : Heap) : Option RC := match args with
  | [] => some (.ok (.bool true) H)
  | _ => none
theorem kA_ok (args : List AV) (H : Heap) (v : AV) (G : Heap) (h : kA args H = some (.ok v G)) : FnOk Tryz.prog 8 args H fun v' G' => v' = v ∧ G' = G := by
  unfold kA at h
  split at h
  · cases h; exact known_ok
  · cases h
/-- the known example is known, too -/
noncomputable def XL : Orc := orX 8 kA XK
theorem good_XL : GoodX Tryz.prog XL := good_orX kA_ok good_XK
end Go.Proofs
/- What is still to be done, reckoned. -/

set_option linter.all false
namespace Go.Ev
variable {P : Program} {φ ψ : Phi} {H : Heap} {w u : World} {T : Tr AV}

/-- the items that are left, reckoned behind one another -/
noncomputable def evI (E : FuncId → List AV → Heap → RC) (n : Nat) (k : List It) : Ex → Tr AV → Heap → Res :=
  List.rec (motive := fun _ => Ex → Tr AV → Heap → Res) (fun e T H => .ok e T H)
    (fun i _ ih e T H => Ex.rec (motive := fun _ => Res)
      (It.rec (motive := fun _ => Res)
        (fun l => Res.rec (motive := fun _ => Res) .fail (fun e T H => ih e T H) (stepsC eqAV E l T H .fail fun T H => .ok .norm T H))
        (fun l => Res.rec (motive := fun _ => Res) .fail (fun e T H => ih e T H) (stepsC eqAV E l T H .fail fun T H => .ok .norm T H))
        (fun c => Res.rec (motive := fun _ => Res) .fail (fun e T H => ih e T H) (evC E n c T H))
        (fun _ => ih .norm T H) i)
      (fun m => It.rec (motive := fun _ => Res) (fun _ => ih (.exit m) T H) (fun _ => ih (.exit m) T H) (fun _ => ih (.exit m) T H)
        (fun id => bif' (Nat.beq m id) (ih .norm T H) (ih (.exit m) T H)) i)
      (ih .ret T H) e) k
/-- all that is left, reckoned: is the function's answer yes? -/
noncomputable def evB (E : FuncId → List AV → Heap → RC) (n : Nat) (k : List It) (kr : K) (T : Tr AV) (H : Heap) : Bool :=
  Res.rec (motive := fun _ => Bool) false (fun e T _ => Ex.rec (motive := fun _ => Bool)
    (Option.rec (motive := fun _ => Bool) false (fun v => asBoolC v false fun b => b) (T.get kr)) (fun _ => false)
    (Option.rec (motive := fun _ => Bool) false (fun v => asBoolC v false fun b => b) (T.get kr)) e) (evI E n k .norm T H)
/-- the memory that is left -/
noncomputable def resH (r : RC) : Heap := RC.rec (motive := fun _ => Heap) hp0 (fun _ G => G) r
/-- is that what comes of it? -/
noncomputable def isR (r : RC) (v : AV) : Bool := RC.rec (motive := fun _ => Bool) false (fun w _ => eqAV w v) r
theorem FnOk.of_evV {X : Orc} (hX : GoodX P X) {n : Nat} {f : FuncId} {args : List AV} {v : AV} (h : isR (evFn P X n f args H) v = true) : FnOk P f args H fun v' G => v' = v ∧ G = resH (evFn P X n f args H) := by
  cases hr : evFn P X n f args H with
  | fail => rw [hr] at h; cases h
  | ok w G =>
    rw [hr] at h
    have h : eqAV w v = true := h
    rw [← eqAV_eq h]
    exact FnOk.of_ev hX hr
end Go.Ev
/- Calls whose arguments hold no address: reckoned without memory, they are so in any memory. -/

set_option linter.all false
namespace Go.Ev
variable {P : Program} {φ ψ : Phi} {H : Heap} {w u : World}
def AV.flat1 : AV → Bool
  | .agg l => l.all AV.flat
  | v => v.flat
theorem flat1_rel {v : AV} {x : Value} (hf : v.flat1 = true) (h : VRel P φ v x) (ψ : Phi) : VRel P ψ v x := by
  cases v with
  | agg l =>
    cases h with
    | agg _ c h1 h2 => exact .agg _ _ (flats_rel ψ hf h1) h2
  | _ => exact flat_rel (by exact hf) h ψ
theorem flats1_rel (ψ : Phi) {l : List AV} {l' : List Value} (hf : l.all AV.flat1 = true) (h : VRels P φ l l') : VRels P ψ l l' := by
  induction l generalizing l' with
  | nil => cases h; exact .nil
  | cons v l ih =>
    cases h with
    | cons _ _ v' l' h hs =>
      rw [List.all_cons, Bool.and_eq_true] at hf
      exact .cons _ _ _ _ (flat1_rel hf.1 h ψ) (ih hf.2 hs)
def AV.flat2 : AV → Bool
  | .tup l => l.all AV.flat1
  | v => v.flat1
theorem flat2_rel {v : AV} {x : Value} (hf : v.flat2 = true) (h : VRel P φ v x) (ψ : Phi) : VRel P ψ v x := by
  cases v with
  | tup l =>
    cases h with
    | tup _ c h1 => exact .tup _ _ (flats1_rel ψ hf h1)
  | _ => exact flat1_rel (by exact hf) h ψ
theorem FnOk.lift1 {f : FuncId} {args : List AV} {v : AV} (ha : args.all AV.flat1 = true) (hv : v.flat2 = true) (h : FnOk P f args hp0 fun r _ => r = v) : FnOk P f args H fun r G => r = v ∧ G = H := by
  intro φ w args' hargs hw
  refine (h (fun _ => none) w args' (flats1_rel _ ha hargs) hw.to0).mono ?_
  rintro e u ⟨_, G, rfl, ψ, x, rfl, hx, hwu, hE⟩
  have hno : ∀ b, b < w.heap.size → u.heap[b]? = w.heap[b]? := by
    intro b hb
    refine hE.keeps b hb ?_
    rintro ⟨k, c, a, hk, _⟩
    rw [hp0_get] at hk; cases hk
  exact ⟨_, H, ⟨rfl, rfl⟩, φ, x, rfl, flat2_rel hv hx φ, hw.grows hE.size hno, ⟨fun _ _ => rfl, Nat.le_refl _, hE.size, fun b hb _ => hno b hb, fun _ _ _ => rfl, fun _ _ h => h, hE.os, hE.tape, hE.output⟩⟩
/-- what is reckoned without memory -/
theorem FnOk.of_ev1 {X : Orc} (hX : GoodX P X) {n : Nat} {f : FuncId} {args : List AV} {v : AV} (ha : args.all AV.flat1 = true) (hv : v.flat2 = true) (h : isR (evFn P X n f args hp0) v = true) : FnOk P f args H fun r G => r = v ∧ G = H :=
  FnOk.lift1 ha hv ((FnOk.of_evV hX h).mono fun _ _ h => h.1)
end Go.Ev
/- Letters, records of a put: reckoned. -/


set_option linter.all false
set_option maxRecDepth 100000
namespace Go.Proofs
open Go Go.Ev
variable {H : Heap}
noncomputable def EK : FuncId → List AV → Heap → RC := evFn Tryz.prog XL 100000
end Go.Proofs
set_option linter.all false
set_option maxRecDepth 100000
namespace Go.Proofs
open Go Go.Ev
/-! maps whose keys are literal numbers -/
noncomputable def mapB {β : Type} (b : Blk) (f : β) (c : List (AV × AV) → β) : β := Blk.rec (motive := fun _ => β) f (fun _ _ _ => f) c b
@[go_sem] theorem mapB_map {β : Type} (es : List (AV × AV)) (f : β) (c : List (AV × AV) → β) : mapB (.map es) f c = c es := rfl
@[go_sem] theorem mapC_opt {β : Type} (H : Heap) (k : K) (f : β) (c : List (AV × AV) → β) : mapC H k f c = optC (H.get k) f fun b => mapB b f c := rfl
@[go_sem] theorem mpC_nil {β : Type} (lk : LK) (k v : AV) (f : β) (c : List (AV × AV) → β) : mpC lk k v f [] c = c [(k, v)] := rfl
@[go_sem] theorem mpC_int {β : Type} (a b : Int) (v x : AV) (f : β) (es : List (AV × AV)) (c : List (AV × AV) → β) : mpC .int (.int .i64 a) v f ((.int .i64 b, x) :: es) c = if a = b then c ((.int .i64 a, v) :: es) else mpC .int (.int .i64 a) v f es fun r => c ((.int .i64 b, x) :: r) := by
  show bif' (Nat.beq (Ev.kn .i64) (Ev.kn .i64)) (eqI a b fun z => bif' z (c ((.int .i64 a, v) :: es)) (mpC .int (.int .i64 a) v f es fun r => c ((.int .i64 b, x) :: r))) f = _
  rw [show Nat.beq (Ev.kn .i64) (Ev.kn .i64) = true from rfl, bif_true, eqI_eq, bif_dec]
@[go_sem] theorem mfC_nil {β : Type} (lk : LK) (k : AV) (f : β) (c : Option AV → β) : mfC lk k [] f c = c none := rfl
@[go_sem] theorem mfC_int {β : Type} (a b : Int) (x : AV) (f : β) (es : List (AV × AV)) (c : Option AV → β) : mfC .int (.int .i64 a) ((.int .i64 b, x) :: es) f c = if a = b then c (some x) else mfC .int (.int .i64 a) es f c := by
  show bif' (Nat.beq (Ev.kn .i64) (Ev.kn .i64)) (eqI a b fun z => bif' z (c (some x)) (mfC .int (.int .i64 a) es f c)) f = _
  rw [show Nat.beq (Ev.kn .i64) (Ev.kn .i64) = true from rfl, bif_true, eqI_eq, bif_dec]
@[go_sem] theorem mlEnd_some (z v : AV) (H : Heap) : mlEnd false z H (some v) = .val v H := rfl
@[go_sem] theorem mlEnd_none (z : AV) (H : Heap) : mlEnd false z H none = .val z H := rfl
@[go_sem] theorem mlEnd_some2 (z v : AV) (H : Heap) : mlEnd true z H (some v) = .val (.tup [v, .bool true]) H := rfl
@[go_sem] theorem mlEnd_none2 (z : AV) (H : Heap) : mlEnd true z H none = .val (.tup [z, .bool false]) H := rfl
@[go_sem] theorem lk3 : lkOf Tryz.prog 3 = .int := by kernel_rfl
attribute [go_sem] mkmR mupR mlkR mkfR
@[go_sem] theorem fn_neq {β : Type} (fn : Fn) (l m : List AV) (f : β) (c : AV → β) : binV Tryz.prog EK.func none true BinOp.neq (.fn fn l m) .nilf f c = c (.bool true) := rfl
theorem clo40 : CloFn Tryz.prog 40 2 24 [.str [], .int .i64 0] := ⟨⟨Tryz.f40, Tryz.func40, by kernel_rfl, by kernel_rfl⟩, rfl, by decide⟩
section
variable {G : Heap} {kn kd kj kh : K}
theorem isWt.ext {wv : AV} {ws : List (List AV)} (h : isWt G wv ws) (hok : G.ok) (L : List Blk) : isWt (G.ext L) wv ws := by
  rcases h with h | ⟨kw, h1, h2, h3⟩
  · exact .inl h
  · exact .inr ⟨kw, h1, h2, Heap.get_ext_old hok h3 L⟩
end
end Go.Proofs
/- numbers of an answer: walked. -/


set_option linter.all false
set_option maxRecDepth 100000
namespace Go.Proofs
open Go Go.Ev
variable {H : Heap}
@[go_sem] theorem sz3 : ∀ h, (Tryz.prog.types[3]'h).size = 1 := by intro h; kernel_rfl
@[go_sem] theorem sz44 : ∀ h, (Tryz.prog.types[44]'h).size = 24 := by intro h; kernel_rfl
attribute [go_sem] cpyF
/-- a letter of numbers behind the first one -/
def numL (a b c : Int) : List AV := [.int .i64 0, .int .i64 0, .int .i64 0, .int .i64 0, .int .i64 a, .int .i64 b, .int .i64 c, .int .i64 0, .int .i64 0, .str [], .str [], .str [], .int .i64 0, .nils, .int .i64 0, .str [], .int .i64 0, .nils, .str [], .str [], .nils, .nils, .nils, .str []]
theorem f85_two (a b : Int) {k : K} {ex : Bool} {cap : Nat} (hk : H.get k = some (.row true 1 [[.int .i64 a], [.int .i64 b]])) : FnOk Tryz.prog 85 [.slice k 0 2 1 ex cap] H fun r G => r = .agg (numL a b 0) ∧ G = H := by
  refine FnOk.assume fun hok => ?_
  have hk' := fun L => Heap.get_ext_old hok hk L
  refine FnOk.drop (R := fun r => r = .agg (numL a b 0)) ?_ (by rintro v rfl ρ; simp only [numL, AV.ren, AV.rens])
  refine FnOk.of_WW Tryz.func85 rfl C85ok R85ok E0 good_E0 ?_
  simp only [go_sem, C85, hk', List.flatten_cons, List.flatten_nil, List.append_nil, List.length_cons, List.length_nil]
  refine ⟨fun h => absurd h (by decide), fun _ => ?_⟩
  have hm : Nat.min 2 4 = 2 := rfl
  have hr : ∀ {β : Type} (f : β) (x y : AV) (c : List AV → β), readC f 1 [[x], [y]] 0 2 c = c [x, y] := fun _ _ _ _ => rfl
  simp only [go_sem, hm, hr, List.flatten_cons, List.flatten_nil, List.append_nil, List.length_cons, List.length_nil, List.cons_append, List.nil_append]
  exact ⟨rfl, _, rfl⟩
end Go.Proofs
/- The laid-out code of the functions that are walked. -/

set_option linter.all false
set_option maxRecDepth 100000
namespace Go.Proofs
open Go Go.Ev K
end Go.Proofs
/- Poll letters: walked. -/



set_option linter.all false
set_option maxRecDepth 100000
namespace Go.Proofs
open Go Go.Ev
variable {H : Heap}
theorem f69_run0 : isR (EK 69 [.int .i64 0] hp0) (.bool true) = true := by kernel_rfl
theorem f69_ok0 : FnOk Tryz.prog 69 [.int .i64 0] H fun r G => r = .bool true ∧ G = H := FnOk.of_ev1 good_XL rfl rfl f69_run0
end Go.Proofs
/- Numbers of a letter: walked. -/

set_option linter.all false
set_option maxRecDepth 100000
namespace Go.Proofs
open Go Go.Ev
variable {H : Heap}
theorem f67_ok {n : Int} (h0 : 0 ≤ n) (h1 : n ≤ 1000000000000) : FnOk Tryz.prog 67 [.int .i64 n] H fun r G => r = .bool false ∧ G = H := by
  refine FnOk.drop (R := fun r => r = .bool false) ?_ (by rintro v rfl ρ; rw [AV.ren])
  refine FnOk.of_WW Tryz.func67 rfl C67ok R67ok E0 good_E0 ?_
  have z0 : (n < 0) = False := eq_false (by omega)
  have z1 : (1000000000000 < n) = False := eq_false (by omega)
  simp only [go_sem, C67, z0, z1]
  first | exact ⟨_, rfl⟩ | exact ⟨rfl, _, rfl⟩ | trace_state
/-- may be sent -/
def okI (n : Int) : Prop := 0 ≤ n ∧ n ≤ 1000000000000
theorem f133_none {k : K} {wr : Bool} {b0 b1 b2 c0 c1 c2 c3 c4 c5 c6 c7 c8 c9 c10 c11 c12 c13 c14 c15 : AV} {a0 a1 a2 a3 a4 : Int} (hk : H.get k = some (.row wr 24 [[b0, b1, b2, .int .i64 a0, .int .i64 a1, .int .i64 a2, .int .i64 a3, .int .i64 a4, c0, c1, c2, c3, c4, c5, c6, c7, c8, c9, c10, c11, c12, c13, c14, c15]])) (h0 : okI a0) (h1 : okI a1) (h2 : okI a2) (h3 : okI a3) (h4 : okI a4) :
    FnOk Tryz.prog 133 [.slice k 3 5 1 true 5, .fn (.func 67) [] []] H fun r G => r = .int .i64 (-1) ∧ G = H := by
  refine FnOk.assume fun hok => ?_
  refine FnOk.drop (R := fun r => r = .int .i64 (-1)) ?_ (by rintro v rfl ρ; rw [AV.ren])
  refine FnOk.of_WW Tryz.func133 rfl C133ok R133ok E0 good_E0 ?_
  have hk' := fun L => Heap.get_ext_old hok hk L
  simp only [go_sem, C133]
  refine LL.sth good_E0 (fun i : Nat => 5 - i) (fun i M => M = H ∧ i ≤ 5)
    (fun i => [(.z, .slice k 3 5 1 true 5), ((.o .z), .fn (.func 67) [] []), ((.o (.o (.o .z))), .int .i64 5), ((.i (.o (.o .z))), .int .i64 i)]) ?_ 0 ⟨Heap.ext_nil H, Nat.zero_le _⟩ (Slots.all (by simp only [go_sem]; first | done | rfl | trace_state))
  rintro i M ⟨rfl, hi⟩
  rcases (show i = 0 ∨ i = 1 ∨ i = 2 ∨ i = 3 ∨ i = 4 ∨ i = 5 by omega) with rfl | rfl | rfl | rfl | rfl | rfl
  · simp only [go_sem, hk']
    refine CL.of (f67_ok h0.1 h0.2) ?_
    rintro _ G' ⟨rfl, hG⟩; rw [hG]; clear hG
    have hw : IntKind.i64.wrap (((0 : Nat) : Int) + 1) = ((1 : Nat) : Int) := rfl
    simp only [go_sem, hw]
    rw [Heap.ext_nil]
    exact ⟨1, by decide, ⟨rfl, by decide⟩, Slots.all (by simp only [go_sem]; first | done | rfl | trace_state)⟩
  · simp only [go_sem, hk']
    refine CL.of (f67_ok h1.1 h1.2) ?_
    rintro _ G' ⟨rfl, hG⟩; rw [hG]; clear hG
    have hw : IntKind.i64.wrap (((1 : Nat) : Int) + 1) = ((2 : Nat) : Int) := rfl
    simp only [go_sem, hw]
    rw [Heap.ext_nil]
    exact ⟨2, by decide, ⟨rfl, by decide⟩, Slots.all (by simp only [go_sem]; first | done | rfl | trace_state)⟩
  · simp only [go_sem, hk']
    refine CL.of (f67_ok h2.1 h2.2) ?_
    rintro _ G' ⟨rfl, hG⟩; rw [hG]; clear hG
    have hw : IntKind.i64.wrap (((2 : Nat) : Int) + 1) = ((3 : Nat) : Int) := rfl
    simp only [go_sem, hw]
    rw [Heap.ext_nil]
    exact ⟨3, by decide, ⟨rfl, by decide⟩, Slots.all (by simp only [go_sem]; first | done | rfl | trace_state)⟩
  · simp only [go_sem, hk']
    refine CL.of (f67_ok h3.1 h3.2) ?_
    rintro _ G' ⟨rfl, hG⟩; rw [hG]; clear hG
    have hw : IntKind.i64.wrap (((3 : Nat) : Int) + 1) = ((4 : Nat) : Int) := rfl
    simp only [go_sem, hw]
    rw [Heap.ext_nil]
    exact ⟨4, by decide, ⟨rfl, by decide⟩, Slots.all (by simp only [go_sem]; first | done | rfl | trace_state)⟩
  · simp only [go_sem, hk']
    refine CL.of (f67_ok h4.1 h4.2) ?_
    rintro _ G' ⟨rfl, hG⟩; rw [hG]; clear hG
    have hw : IntKind.i64.wrap (((4 : Nat) : Int) + 1) = ((5 : Nat) : Int) := rfl
    simp only [go_sem, hw]
    rw [Heap.ext_nil]
    exact ⟨5, by decide, ⟨rfl, by decide⟩, Slots.all (by simp only [go_sem]; first | done | rfl | trace_state)⟩
  · simp only [go_sem, hk']
    first | exact ⟨_, rfl⟩ | exact ⟨rfl, _, rfl⟩ | trace_state
end Go.Proofs
/- Poll letters: walked. -/

set_option linter.all false
set_option maxRecDepth 100000
namespace Go.Proofs
open Go Go.Ev
variable {H : Heap}
theorem f70_none {k : K} {wr : Bool} {b0 b1 b2 c0 c1 c2 c3 c4 c5 c6 c7 c8 c9 c10 c11 c12 c13 c14 c15 : AV} {a0 a1 a2 a3 a4 : Int} (hk : H.get k = some (.row wr 24 [[b0, b1, b2, .int .i64 a0, .int .i64 a1, .int .i64 a2, .int .i64 a3, .int .i64 a4, c0, c1, c2, c3, c4, c5, c6, c7, c8, c9, c10, c11, c12, c13, c14, c15]])) (h0 : okI a0) (h1 : okI a1) (h2 : okI a2) (h3 : okI a3) (h4 : okI a4) :
    FnOk Tryz.prog 70 [.slice k 3 5 1 true 5, .fn (.func 67) [] []] H fun r G => r = .bool false ∧ G = H := by
  refine FnOk.assume fun hok => ?_
  refine FnOk.drop (R := fun r => r = .bool false) ?_ (by rintro v rfl ρ; rw [AV.ren])
  refine FnOk.of_WW Tryz.func70 rfl C70ok R70ok E0 good_E0 ?_
  simp only [go_sem, C70]
  refine CL.of (f133_none (Heap.get_ext_old hok hk _) h0 h1 h2 h3 h4) ?_
  rintro _ G' ⟨rfl, hG⟩; rw [hG]; clear hG
  have z : ((0 : Int) ≤ -1) = False := eq_false (by decide)
  simp only [go_sem, z]
  first | exact ⟨_, rfl⟩ | exact ⟨rfl, _, rfl⟩ | trace_state
theorem f134_nil (f : AV) : FnOk Tryz.prog 134 [.nils, f] H fun r G => r = .int .i64 (-1) ∧ G = H := by
  refine FnOk.drop (R := fun r => r = .int .i64 (-1)) ?_ (by rintro v rfl ρ; rw [AV.ren])
  refine FnOk.of_WW Tryz.func134 rfl C134ok R134ok E0 good_E0 ?_
  simp only [go_sem, C134]
  refine LL.sth good_E0 (fun i : Nat => 5 - i) (fun i M => M = H ∧ i = 0)
    (fun i => [(.z, .nils), ((.o .z), f), ((.o (.o (.o .z))), .int .i64 0), ((.i (.o (.o .z))), .int .i64 0)]) ?_ 0 ⟨Heap.ext_nil H, rfl⟩ (Slots.all (by simp only [go_sem]; first | done | rfl | trace_state))
  rintro i M ⟨rfl, rfl⟩
  simp only [go_sem]
  first | exact ⟨_, rfl⟩ | exact ⟨rfl, _, rfl⟩ | trace_state
theorem f135_nil (f : AV) : FnOk Tryz.prog 135 [.nils, f] H fun r G => r = .int .i64 (-1) ∧ G = H := by
  refine FnOk.drop (R := fun r => r = .int .i64 (-1)) ?_ (by rintro v rfl ρ; rw [AV.ren])
  refine FnOk.of_WW Tryz.func135 rfl C135ok R135ok E0 good_E0 ?_
  simp only [go_sem, C135]
  refine LL.sth good_E0 (fun i : Nat => 5 - i) (fun i M => M = H ∧ i = 0)
    (fun i => [(.z, .nils), ((.o .z), f), ((.o (.o (.o .z))), .int .i64 0), ((.i (.o (.o .z))), .int .i64 0)]) ?_ 0 ⟨Heap.ext_nil H, rfl⟩ (Slots.all (by simp only [go_sem]; first | done | rfl | trace_state))
  rintro i M ⟨rfl, rfl⟩
  simp only [go_sem]
  first | exact ⟨_, rfl⟩ | exact ⟨rfl, _, rfl⟩ | trace_state
theorem f72_nil (f : AV) : FnOk Tryz.prog 72 [.nils, f] H fun r G => r = .bool false ∧ G = H := by
  refine FnOk.drop (R := fun r => r = .bool false) ?_ (by rintro v rfl ρ; rw [AV.ren])
  refine FnOk.of_WW Tryz.func72 rfl C72ok R72ok E0 good_E0 ?_
  simp only [go_sem, C72]
  refine CL.of (f134_nil f) ?_
  rintro _ G' ⟨rfl, hG⟩; rw [hG]; clear hG
  have z : ((0 : Int) ≤ -1) = False := eq_false (by decide)
  simp only [go_sem, z]
  first | exact ⟨_, rfl⟩ | exact ⟨rfl, _, rfl⟩ | trace_state
theorem f75_nil (f : AV) : FnOk Tryz.prog 75 [.nils, f] H fun r G => r = .bool false ∧ G = H := by
  refine FnOk.drop (R := fun r => r = .bool false) ?_ (by rintro v rfl ρ; rw [AV.ren])
  refine FnOk.of_WW Tryz.func75 rfl C75ok R75ok E0 good_E0 ?_
  simp only [go_sem, C75]
  refine CL.of (f135_nil f) ?_
  rintro _ G' ⟨rfl, hG⟩; rw [hG]; clear hG
  have z : ((0 : Int) ≤ -1) = False := eq_false (by decide)
  simp only [go_sem, z]
  first | exact ⟨_, rfl⟩ | exact ⟨rfl, _, rfl⟩ | trace_state
end Go.Proofs
