/- NodeHands: Take of letters that push, install; node b while pieces are pushed. -/
import Derived.Test.YtkhaejbkdgbjcaaGreatDoorZ19
import Derived.KernelRfl
set_option linter.all false
set_option maxRecDepth 100000
namespace Go.Proofs
open Go Go.Ev
section
variable {M G : Heap} {kn kd kj kh km : K}
theorem f10_push {Q : AV → Heap → Prop} (hok : M.ok) {wv x5 x6 x7 : AV} (hn : M.get kn = some (nRow kd kj kh wv x5 x6 x7)) {a b c : Int} (ha : okI a) (hb : okI b) (hc : okI c) {d : List Nat} (hd : d.length ≤ 255)
    (hf : ∀ L, FnOk Tryz.prog 35 [.ptr kn 0, .agg (mvL 11 a b c d)] (M.ext L) fun r G => r = .tup [] ∧ Q r G) : FnOk Tryz.prog 10 [.ptr kn 0, .agg (mvL 11 a b c d)] M fun r G => r = .tup [] ∧ Q r G := by
  have hn' := fun L => Heap.get_ext_old hok hn L
  simp only [nRow] at hn'
  have e : FnOk Tryz.prog 30 [.agg (mvL 11 a b c d)] (M.ext [.row true 24 [mvL 11 a b c d]]) fun r G' => r = .bool true ∧ G' = M.ext [.row true 24 [mvL 11 a b c d]] := f30_mv (k := 11) (.inl rfl) ha hb hc hd
  obtain ⟨E, hE, he⟩ := one_call e
  simp only [mvL] at he
  refine FnOk.of_WW Tryz.func10 rfl C10ok R10ok E hE ?_
  simp only [go_sem, C10, mvL, hn', he]
  refine CL.of (clone_nil clo40) ?_
  rintro _ G' ⟨rfl, hG⟩; rw [hG]; clear hG
  simp only [go_sem]
  refine CL.of (hf _) ?_
  rintro _ G' ⟨rfl, hp⟩
  simp only [go_sem]
  exact hp
theorem f10_inst {Q : AV → Heap → Prop} (hok : M.ok) {wv x5 x6 x7 : AV} (hn : M.get kn = some (nRow kd kj kh wv x5 x6 x7)) {a b c : Int} (ha : okI a) (hb : okI b) (hc : okI c)
    (hf : ∀ L, FnOk Tryz.prog 36 [.ptr kn 0, .agg (mvL 13 a b c [])] (M.ext L) fun r G => r = .tup [] ∧ Q r G) : FnOk Tryz.prog 10 [.ptr kn 0, .agg (mvL 13 a b c [])] M fun r G => r = .tup [] ∧ Q r G := by
  have hn' := fun L => Heap.get_ext_old hok hn L
  simp only [nRow] at hn'
  have e : FnOk Tryz.prog 30 [.agg (mvL 13 a b c [])] (M.ext [.row true 24 [mvL 13 a b c []]]) fun r G' => r = .bool true ∧ G' = M.ext [.row true 24 [mvL 13 a b c []]] := f30_mv (k := 13) (.inr rfl) ha hb hc (Nat.zero_le _)
  obtain ⟨E, hE, he⟩ := one_call e
  simp only [mvL] at he
  refine FnOk.of_WW Tryz.func10 rfl C10ok R10ok E hE ?_
  simp only [go_sem, C10, mvL, hn', he]
  refine CL.of (clone_nil clo40) ?_
  rintro _ G' ⟨rfl, hG⟩; rw [hG]; clear hG
  simp only [go_sem]
  refine CL.of (hf _) ?_
  rintro _ G' ⟨rfl, hp⟩
  simp only [go_sem]
  exact hp
/-- its disk, journal, hold when it is new -/
def dB : Blk := .row true 2 [[.str [188, 137, 117, 78, 10, 1, 0, 0, 0, 0, 0, 0, 0, 0, 0], .int .i64 0]]
def jB (kd : K) : Blk := .row true 2 [[.ptr kd 0, .int .i64 1]]
def hB : Blk := .row true 2 [[.nils, .nils]]
/-- node b -/
structure BN (M : Heap) (kn kd kj kh : K) : Prop where
  ok : M.ok
  d : M.get kd = some dB
  j : M.get kj = some (jB kd)
  h : M.get kh = some hB
/-- new -/
structure B0 (M : Heap) (kn kd kj kh : K) : Prop extends BN M kn kd kj kh where
  row : ∃ x7, M.get kn = some (nRow kd kj kh .nils (.int .i64 0) (.int .i64 0) x7)
/-- some pieces are there -/
structure BP (M : Heap) (kn kd kj kh : K) (ws : List (List AV)) (es : List (Int × List Nat)) : Prop extends BN M kn kd kj kh where
  row : ∃ wv km, M.get kn = some (nRowP kd kj kh wv km) ∧ isWt M wv ws ∧ M.get km = some (.map (encM es))
/-- blocks that a push leaves alone -/
def okb (ws : List (List AV)) : Blk → Prop
  | .row _ w rows => (w = 8 → ∃ s : Sh, rows = [s.enc]) ∧ (w = 24 → rows ≠ ws)
  | _ => False
def Kb (ws : List (List AV)) (M G : Heap) : Prop := ∀ k b, M.get k = some b → okb ws b → G.get k = some b
theorem kb_of {wv : AV} {ws : List (List AV)} {x5 x6 x7 : AV} {ks : List K} (hn : M.get kn = some (nRow kd kj kh wv x5 x6 x7)) (hw : isWt M wv ws) (hk : ∀ k ∈ ks, k = kn ∨ (∃ es, M.get k = some (.map es)) ∨ k ∈ wk wv) (hK : Kp ks M G) : Kb ws M G := by
  intro k b hb ho
  refine hK.keep k b (fun hm => ?_) hb
  rcases hk k hm with rfl | ⟨es, he⟩ | hm
  · rw [hn] at hb
    cases hb
    obtain ⟨s, e⟩ := ho.1 rfl
    simp [Sh.enc] at e
  · rw [he] at hb
    cases hb
    exact ho
  · rcases hw with ⟨_, rfl⟩ | ⟨kw, a1, rfl, a3⟩
    · cases hm
    · cases ws with
      | nil => cases hm
      | cons w ws =>
        rw [List.mem_singleton.1 hm, a3] at hb
        cases hb
        exact ho.2 rfl rfl
theorem Kb.bn {ws : List (List AV)} (h : Kb ws M G) (hG : G.ok) (hb : BN M kn kd kj kh) : BN G kn kd kj kh :=
  ⟨hG, h _ _ hb.d ⟨fun h => absurd h (by decide), fun h => absurd h (by decide)⟩, h _ _ hb.j ⟨fun h => absurd h (by decide), fun h => absurd h (by decide)⟩, h _ _ hb.h ⟨fun h => absurd h (by decide), fun h => absurd h (by decide)⟩⟩
theorem BN.ext (h : BN M kn kd kj kh) (L : List Blk) : BN (M.ext L) kn kd kj kh := ⟨Heap.ok_ext h.ok L, Heap.get_ext_old h.ok h.d L, Heap.get_ext_old h.ok h.j L, Heap.get_ext_old h.ok h.h L⟩
theorem B0.ext (h : B0 M kn kd kj kh) (L : List Blk) : B0 (M.ext L) kn kd kj kh := ⟨h.toBN.ext L, by
  obtain ⟨x7, h1⟩ := h.row
  exact ⟨x7, Heap.get_ext_old h.ok h1 L⟩⟩
theorem BP.ext {ws : List (List AV)} {es : List (Int × List Nat)} (h : BP M kn kd kj kh ws es) (L : List Blk) : BP (M.ext L) kn kd kj kh ws es := ⟨h.toBN.ext L, by
  obtain ⟨wv, km, h1, h2, h3⟩ := h.row
  exact ⟨wv, km, Heap.get_ext_old h.ok h1 L, h2.ext h.ok L, Heap.get_ext_old h.ok h3 L⟩⟩
theorem okI_lo {j : Int} (h0 : 0 ≤ j) (h1 : j < 1000) : okI j := ⟨by omega, by omega⟩
theorem Kb.of_ext {ws : List (List AV)} {L : List Blk} (hok : M.ok) (h : Kb ws (M.ext L) G) : Kb ws M G := fun k b hb ho => h k b (Heap.get_ext_old hok hb L) ho
theorem push_0 (h : B0 M kn kd kj kh) {j : Int} (h0 : 0 ≤ j) (hj : j < 1000) {d : List Nat} (hd : d.length ≤ 255) :
    FnOk Tryz.prog 10 [.ptr kn 0, .agg (mvL 11 1 2 j d)] M fun r G => r = .tup [] ∧ BP G kn kd kj kh [pushedL j] [(j, d)] ∧ Kb [] M G := by
  obtain ⟨x7, hn⟩ := h.row
  refine f10_push (Q := fun r G => BP G kn kd kj kh [pushedL j] [(j, d)] ∧ Kb [] M G) h.ok hn (okI_lo (by decide) (by decide)) (okI_lo (by decide) (by decide)) (okI_lo h0 hj) hd fun L => ?_
  have hn1 := Heap.get_ext_old h.ok hn L
  have hw : isWt (M.ext L) .nils [] := .inl ⟨rfl, rfl⟩
  refine (f35_reset (ws := []) (d := d) hj (Heap.ok_ext h.ok L) hn1 hw (by decide)).mono ?_
  rintro r G ⟨rfl, ⟨wv', km', g1, g2, g3, g4⟩, g5, g6⟩
  have hK : Kb [] (M.ext L) G := kb_of hn1 hw (fun k hk => by
    rcases List.mem_cons.1 hk with rfl | hk
    · exact .inl rfl
    · cases hk) g6
  exact ⟨rfl, ⟨hK.bn g5 (h.toBN.ext L), wv', km', g1, g2, g3⟩, hK.of_ext h.ok⟩
theorem push_1 {ws : List (List AV)} {es : List (Int × List Nat)} (h : BP M kn kd kj kh ws es) {j : Int} (h0 : 0 ≤ j) (hj : j < 1000) {d : List Nat} (hd : d.length ≤ 255) (hN : ws.length < 100000) :
    FnOk Tryz.prog 10 [.ptr kn 0, .agg (mvL 11 1 2 j d)] M fun r G => r = .tup [] ∧ BP G kn kd kj kh (ws ++ [pushedL j]) (insM es j d) ∧ Kb ws M G := by
  obtain ⟨wv, km, hn, hw, hm⟩ := h.row
  refine f10_push (Q := fun r G => BP G kn kd kj kh (ws ++ [pushedL j]) (insM es j d) ∧ Kb ws M G) h.ok hn (okI_lo (by decide) (by decide)) (okI_lo (by decide) (by decide)) (okI_lo h0 hj) hd fun L => ?_
  have hn1 := Heap.get_ext_old h.ok hn L
  have hm1 := Heap.get_ext_old h.ok hm L
  have hw1 := hw.ext h.ok L
  refine (f35_same (d := d) hj (Heap.ok_ext h.ok L) hn1 hm1 hw1 hN).mono ?_
  rintro r G ⟨rfl, ⟨wv', g1, g2⟩, g3, g5, g6⟩
  have hK : Kb ws (M.ext L) G := kb_of hn1 hw1 (fun k hk => by
    rcases List.mem_cons.1 hk with rfl | hk
    · exact .inl rfl
    · rcases List.mem_cons.1 hk with rfl | hk
      · exact .inr (.inl ⟨_, hm1⟩)
      · exact .inr (.inr hk)) g6
  exact ⟨rfl, ⟨hK.bn g5 (h.toBN.ext L), wv', km, g1, g2, g3⟩, hK.of_ext h.ok⟩
end
end Go.Proofs
/- NodeCuts: a node in a state that is spelt out: walked. -/


set_option linter.all false
set_option maxRecDepth 100000
namespace Go.Proofs
open Go Go.Ev
/-- a node's row: its disk, journal, shards, pieces are the third to the sixth block -/
def nB (w : AV) : Blk := .row true 8 [[.int .i64 0, .ptr K.z.i 0, .ptr K.z.o.o 0, .ptr K.z.o.i 0, w, .int .i64 0, .int .i64 0, .map K.z.i.o]]
/-- the answers that wait: the second block -/
def wN : Nat → AV
  | 0 => .nils
  | n + 1 => .slice K.z.o 0 (n + 1) 24 false (n + 1)
def no24 (b : Blk) : Prop := ∀ wr rows, b ≠ .row wr 24 rows
section
variable {M G : Heap} {kn : K} {tl tl2 : List Blk} {ws : List (List AV)} {κ : List K}
/-- a block of a state is no block of letters -/
theorem fit_no24 {bl : List Blk} (h : Fit M κ bl) (hn : ∀ b ∈ bl, no24 b) {k : K} {wr : Bool} {rows : List (List AV)} (hk : M.get k = some (.row wr 24 rows)) {i : Nat} {c : Blk} (hc : bl[i]? = some c) (hl : c.live) : κ[i]? ≠ some k := by
  intro e
  have := h.blk i c k hc e hl
  rw [hk] at this
  cases c with
  | dead => exact hl
  | row wr2 e2 rows2 =>
    have e3 : Blk.row wr 24 rows = .row wr2 e2 (rows2.map (AV.rens (rk κ .z))) := Option.some.inj this
    injection e3 with e4 e5 e6
    subst e5
    exact hn _ (List.mem_of_getElem? hc) _ _ rfl
  | map es => cases Option.some.inj this
/-- the same names, in a memory behind it -/
def same6 (κ κ' : List K) : Prop := ∀ i, i < 6 → κ'[i]? = κ[i]?
theorem rk_same {κ' : List K} (h : same6 κ κ') {k : K} (hk : k.toNat ≤ 6) : rk κ' .z k = rk κ .z k := by
  have := k.toNat_pos
  unfold rk
  rw [h _ (by omega)]
end
end Go.Proofs
/- NodeCuts: calls that look at the shards alone; Sync. -/

set_option linter.all false
set_option maxRecDepth 100000
namespace Go.Proofs
open Go Go.Ev
section
variable {M G X : Heap} {kn : K} {tl tl2 : List Blk} {ws : List (List AV)} {κ : List K} {bl : List Blk}
/-- the shards alone -/
def hT : List Blk → List Blk
  | _ :: _ :: h :: _ :: r => .dead :: .dead :: .dead :: .dead :: h :: .dead :: r
  | _ => []
theorem fit_mask {m : List Blk} (h : Fit M κ bl) (hl : m.length = bl.length) (hm : ∀ (i : Nat) (b : Blk), m[i]? = some b → b.live → bl[i]? = some b) : Fit M κ m :=
  ⟨h.len.trans hl.symm, h.nodup, h.old, fun b hb k hk => by
    obtain ⟨i, hi⟩ := List.mem_iff_getElem?.1 hb
    rw [hl]
    cases b with
    | dead => cases hk
    | row wr e rows => exact h.closed _ (List.mem_of_getElem? (hm i _ hi trivial)) k hk
    | map es => exact h.closed _ (List.mem_of_getElem? (hm i _ hi trivial)) k hk, fun i b k hb hk hlv => h.blk i b k (hm i b hb hlv) hk hlv⟩
end
end Go.Proofs
/- Functions of bytes whose answers are known: reckoned quickly. -/



set_option linter.all false
set_option maxRecDepth 100000
namespace Go.Proofs
open Go Go.Ev
variable {H : Heap}
/-- a number's bytes, by so many steps -/
noncomputable def numF (k : Nat) : Nat → List Nat := Nat.rec (motive := fun _ => Nat → List Nat) (fun n => [n]) (fun _ ih n => bif' (Nat.blt n 64) [n] ((64 + n % 64) :: ih (n / 64))) k
theorem numF_eq : ∀ (k n : Nat), n < 64 ^ (k + 1) → numF k n = numT n
  | 0, n, h => by rw [numT_lo (by simpa using h)]; rfl
  | k + 1, n, h => by
    show bif' (Nat.blt n 64) [n] ((64 + n % 64) :: numF k (n / 64)) = _
    by_cases hn : n < 64
    · rw [numT_lo hn, show Nat.blt n 64 = true from Nat.ble_eq_true_of_le hn]; rfl
    · rw [numT_hi hn, show Nat.blt n 64 = false by
        cases hb : Nat.blt n 64 with
        | false => rfl
        | true => exact absurd (Nat.le_of_ble_eq_true hb) hn]
      rw [bif_false, numF_eq k (n / 64) (by rw [Nat.pow_succ] at h; exact Nat.div_lt_of_lt_mul (by omega))]
/-- a sum of bytes -/
noncomputable def sumF (s : List Nat) : Nat → Nat := List.rec (motive := fun _ => Nat → Nat) (fun n => n) (fun b _ ih n => fN (Nat.xor n (b % 4294967296) * 16777619 % 4294967296) ih) s
theorem u32_wrap (n : Nat) : IntKind.u32.wrap (n : Int) = ((n % 4294967296 : Nat) : Int) := by
  show ((n : Int) % (2 ^ 32 : Int)) = _
  omega
theorem xorU_nat {n b : Nat} (hn : n < 4294967296) (hb : b < 4294967296) : xorU n b = ((Nat.xor n b : Nat) : Int) := by
  have h1 : BitVec.ofInt 32 (n : Int) = BitVec.ofNat 32 n := BitVec.ofInt_natCast 32 n
  have h2 : BitVec.ofInt 32 (b : Int) = BitVec.ofNat 32 b := BitVec.ofInt_natCast 32 b
  show IntKind.u32.wrap ((BitVec.ofInt 32 (n : Int) ^^^ BitVec.ofInt 32 (b : Int)).toNat : Int) = _
  rw [h1, h2, BitVec.toNat_xor, BitVec.toNat_ofNat, BitVec.toNat_ofNat, Nat.mod_eq_of_lt hn, Nat.mod_eq_of_lt hb, u32_wrap]
  have : n ^^^ b < 2 ^ 32 := Nat.xor_lt_two_pow hn hb
  rw [Nat.mod_eq_of_lt this]
  rfl
theorem stepU_nat {n b : Nat} (hn : n < 4294967296) : stepU n b = ((Nat.xor n (b % 4294967296) * 16777619 % 4294967296 : Nat) : Int) := by
  unfold stepU
  rw [u32_wrap b, xorU_nat hn (Nat.mod_lt _ (by decide)), show ((Nat.xor n (b % 4294967296) : Nat) : Int) * 16777619 = ((Nat.xor n (b % 4294967296) * 16777619 : Nat) : Int) by omega, u32_wrap]
theorem sumF_eq : ∀ (s : List Nat) (n : Nat), n < 4294967296 → ((sumF s n : Nat) : Int) = s.foldl stepU n
  | [], n, h => rfl
  | b :: s, n, h => by
    show ((fN (Nat.xor n (b % 4294967296) * 16777619 % 4294967296) (sumF s) : Nat) : Int) = s.foldl stepU (stepU n b)
    rw [fN_eq, stepU_nat h]
    exact sumF_eq s _ (Nat.mod_lt _ (by decide))
theorem sumF_T (s : List Nat) : ((sumF s 2166136261 : Nat) : Int) = sumT s := sumF_eq s 2166136261 (by decide)
noncomputable def textF (s : List Nat) : List Nat := numF 10 s.length ++ s
theorem textF_eq {s : List Nat} (h : s.length < 1000000) : textF s = textT s := by
  unfold textF textT
  rw [numF_eq 10 _ (Nat.lt_trans h (by decide))]
noncomputable def byF (n : Nat) : List Nat := [n % 256, n / 256 % 256, n / 65536 % 256, n / 16777216 % 256]
theorem byF_eq (n : Nat) : byF n = byT (n : Int) := by
  have e : ∀ m : Nat, byU (m : Int) = m % 256 := fun m => by
    unfold byU
    show ((m : Int) % (2 ^ 8 : Int)).toNat = _
    omega
  have d : ∀ a : Nat, (n : Int).fdiv (a : Int) = ((n / a : Nat) : Int) := fun a => by
    rw [Int.fdiv_eq_ediv_of_nonneg _ (by omega)]; rfl
  unfold byF byT
  have d1 : (n : Int).fdiv 256 = ((n / 256 : Nat) : Int) := d 256
  have d2 : (n : Int).fdiv 65536 = ((n / 65536 : Nat) : Int) := d 65536
  have d3 : (n : Int).fdiv 16777216 = ((n / 16777216 : Nat) : Int) := d 16777216
  rw [e, d1, d2, d3, e, e, e]
noncomputable def wrapF (s : List Nat) : List Nat := fL (textF s) fun t => fN (sumF t 2166136261) fun n => byF n ++ t
theorem wrapF_eq {s : List Nat} (h : s.length < 1000000) : wrapF s = wrapT s := by
  unfold wrapF wrapT
  rw [fL_eq, fN_eq, byF_eq, textF_eq h, sumF_T]
noncomputable def obN (args : List AV) (H : Heap) : Option RC := match args with
  | [.int .i64 (.ofNat n)] => bif' (Nat.blt n 9223372036854775808) (fL (numF 10 n) fun l => some (.ok (.str l) H)) none
  | _ => none
noncomputable def obT (args : List AV) (H : Heap) : Option RC := match args with
  | [.str s] => bif' (Nat.blt s.length 1000000) (fL (textF s) fun l => some (.ok (.str l) H)) none
  | _ => none
noncomputable def obS (args : List AV) (H : Heap) : Option RC := match args with
  | [.str s] => bif' (Nat.blt s.length 1000000) (fN (sumF s 2166136261) fun n => some (.ok (.int .u32 (.ofNat n)) H)) none
  | _ => none
noncomputable def obW (args : List AV) (H : Heap) : Option RC := match args with
  | [.str s] => bif' (Nat.blt s.length 1000000) (fL (wrapF s) fun l => some (.ok (.str l) H)) none
  | _ => none
theorem blt_lt {a b : Nat} (h : Nat.blt a b = true) : a < b := Nat.le_of_ble_eq_true h
theorem b2 {α : Type} {a b : Nat} {x : Option α} {y : α} (e : bif' (Nat.blt a b) x none = some y) : a < b ∧ x = some y := by
  cases hb : Nat.blt a b with
  | true => rw [hb] at e; exact ⟨blt_lt hb, e⟩
  | false => rw [hb] at e; cases e
theorem obN_ok (args : List AV) (H : Heap) (v : AV) (G : Heap) (h : obN args H = some (.ok v G)) : FnOk Tryz.prog 112 args H fun v' G' => v' = v ∧ G' = G := by
  unfold obN at h
  split at h
  · obtain ⟨h1, h⟩ := b2 h
    rw [fL_eq, numF_eq 10 _ (Nat.lt_trans h1 (by decide))] at h
    cases h
    exact f112_ok h1
  · cases h
theorem obT_ok (args : List AV) (H : Heap) (v : AV) (G : Heap) (h : obT args H = some (.ok v G)) : FnOk Tryz.prog 114 args H fun v' G' => v' = v ∧ G' = G := by
  unfold obT at h
  split at h
  · obtain ⟨h1, h⟩ := b2 h
    rw [fL_eq, textF_eq h1] at h
    cases h
    exact f114_ok (by omega)
  · cases h
theorem obS_ok (args : List AV) (H : Heap) (v : AV) (G : Heap) (h : obS args H = some (.ok v G)) : FnOk Tryz.prog 166 args H fun v' G' => v' = v ∧ G' = G := by
  unfold obS at h
  split at h
  · rename_i s
    obtain ⟨h1, h⟩ := b2 h
    rw [fN_eq] at h
    cases h
    have := f166_ok (H := H) (s := s) (by omega)
    rw [← sumF_T] at this
    exact this
  · cases h
theorem obW_ok (args : List AV) (H : Heap) (v : AV) (G : Heap) (h : obW args H = some (.ok v G)) : FnOk Tryz.prog 110 args H fun v' G' => v' = v ∧ G' = G := by
  unfold obW at h
  split at h
  · obtain ⟨h1, h⟩ := b2 h
    rw [fL_eq, wrapF_eq h1] at h
    cases h
    exact f110_ok h1
  · cases h
/-- a number at the front: it, what is behind -/
noncomputable def takeF (k : Nat) : List Nat → Nat → Nat → Option (Nat × List Nat) :=
  Nat.rec (motive := fun _ => List Nat → Nat → Nat → Option (Nat × List Nat)) (fun _ _ _ => none)
    (fun _ ih l p n => List.rec (motive := fun _ => Option (Nat × List Nat)) none (fun b r _ => bif' (Nat.blt b 64) (some (n + b * p, r)) (ih r (p * 64) (n + b % 64 * p))) l) k
noncomputable def obK (args : List AV) (H : Heap) : Option RC := match args with
  | [.str s] => match takeF 8 s 1 0 with
    | some (n, l) => bif' (Nat.blt n 281474976710656) (bif' (Nat.blt l.length 1000000) (bif' (eqAV (.str (numF 10 n ++ l)) (.str s)) (fN n fun n => some (.ok (.tup [.int .i64 (.ofNat n), .str l, .nili]) H)) none) none) none
    | none => none
  | _ => none
theorem obK_ok (args : List AV) (H : Heap) (v : AV) (G : Heap) (h : obK args H = some (.ok v G)) : FnOk Tryz.prog 145 args H fun v' G' => v' = v ∧ G' = G := by
  unfold obK at h
  split at h
  · rename_i s
    split at h
    · rename_i n l _
      obtain ⟨h1, h⟩ := b2 h
      obtain ⟨h2, h⟩ := b2 h
      cases he : eqAV (.str (numF 10 n ++ l)) (.str s) with
      | false => rw [he] at h; cases h
      | true =>
        rw [he, bif_true, fN_eq] at h
        cases h
        have e := eqAV_eq he
        injection e with e
        rw [numF_eq 10 _ (Nat.lt_trans h1 (by decide))] at e
        rw [← e]
        exact f145_num h1 h2
    · cases h
  · cases h
noncomputable def obX (args : List AV) (H : Heap) : Option RC := match args with
  | [.str s, .int .i64 m] => match takeF 8 s 1 0 with
    | some (n, l) => fL (l.take n) fun t => fL (l.drop n) fun r => bif' (Nat.blt (t.length + r.length) 1000000) (fI (m - (t.length : Int)) fun q => Int.rec (motive := fun _ => Option RC) (fun _ => bif' (eqAV (.str (textF t ++ r)) (.str s)) (some (.ok (.tup [.str t, .str r, .nili]) H)) none) (fun _ => none) q) none
    | none => none
  | _ => none
theorem obX_ok (args : List AV) (H : Heap) (v : AV) (G : Heap) (h : obX args H = some (.ok v G)) : FnOk Tryz.prog 148 args H fun v' G' => v' = v ∧ G' = G := by
  unfold obX at h
  split at h
  · rename_i s m
    split at h
    · rename_i n l _
      rw [fL_eq, fL_eq] at h
      obtain ⟨h1, h⟩ := b2 h
      rw [fI_eq] at h
      cases hq : m - ((l.take n).length : Int) with
      | negSucc q => rw [hq] at h; cases h
      | ofNat q =>
        rw [hq] at h
        have h : bif' (eqAV (.str (textF (l.take n) ++ l.drop n)) (.str s)) (some (RC.ok (.tup [.str (l.take n), .str (l.drop n), .nili]) H)) none = some (.ok v G) := h
        cases he : eqAV (.str (textF (l.take n) ++ l.drop n)) (.str s) with
        | false => rw [he] at h; cases h
        | true =>
          rw [he, bif_true] at h
          cases h
          have e := eqAV_eq he
          injection e with e
          rw [textF_eq (by omega)] at e
          rw [← e]
          have hq' : m - ((l.take n).length : Int) = (q : Int) := hq
          exact f148_txt (by omega) h1
    · cases h
  · cases h
noncomputable def obO (args : List AV) (H : Heap) : Option RC := match args with
  | [.str s] => match takeF 8 (s.drop 4) 1 0 with
    | some (_, l) => bif' (Nat.blt l.length 200001) (bif' (eqAV (.str (wrapF l)) (.str s)) (some (.ok (.tup [.str l, .str [], .nili]) H)) none) none
    | none => none
  | _ => none
theorem obO_ok (args : List AV) (H : Heap) (v : AV) (G : Heap) (h : obO args H = some (.ok v G)) : FnOk Tryz.prog 125 args H fun v' G' => v' = v ∧ G' = G := by
  unfold obO at h
  split at h
  · rename_i s
    split at h
    · rename_i n l _
      obtain ⟨h1, h⟩ := b2 h
      cases he : eqAV (.str (wrapF l)) (.str s) with
      | false => rw [he] at h; cases h
      | true =>
        rw [he, bif_true] at h
        cases h
        have e := eqAV_eq he
        injection e with e
        rw [wrapF_eq (by omega)] at e
        rw [← e]
        exact f125_ok h1
    · cases h
  · cases h
/-- what is known of bytes -/
noncomputable def XB : Orc := orX 112 obN (orX 114 obT (orX 166 obS (orX 110 obW (orX 145 obK (orX 148 obX (orX 125 obO XL))))))
theorem good_XB : GoodX Tryz.prog XB := good_orX obN_ok (good_orX obT_ok (good_orX obS_ok (good_orX obW_ok (good_orX obK_ok (good_orX obX_ok (good_orX obO_ok good_XL))))))
end Go.Proofs
/- Shards whose Is is known: reckoned quickly. -/



set_option linter.all false
set_option maxRecDepth 100000
namespace Go.Proofs
open Go Go.Ev
variable {H : Heap}
noncomputable def an2 (a b : Bool) : Bool := bif' a b false
theorem an2_t {a b : Bool} (h : an2 a b = true) : a = true ∧ b = true := by
  cases a
  · cases h
  · exact ⟨rfl, h⟩
noncomputable def leN (a b : Nat) : Bool := Nat.ble a b
theorem leN_t {a b : Nat} (h : leN a b = true) : a ≤ b := Nat.le_of_ble_eq_true h
noncomputable def eqS (a b : List Nat) : Bool := eqAV (.str a) (.str b)
theorem eqS_t {a b : List Nat} (h : eqS a b = true) : a = b := by
  have := eqAV_eq h
  injection this
theorem eqS_f {a b : List Nat} (h : eqS a b = false) : a ≠ b := by
  rintro rfl
  have : ∀ a : List Nat, eqLN a a = true := fun a => by
    induction a with
    | nil => rfl
    | cons x a ih =>
      show and' (Nat.beq x x) (eqLN a a) = true
      rw [ih, Nat.beq_refl]; rfl
  have g : eqLN a a = false := h
  rw [this] at g
  cases g
noncomputable def eqBo (a b : Bool) : Bool := bif' a b (bif' b false true)
theorem eqBo_t {a b : Bool} (h : eqBo a b = true) : a = b := by cases a <;> cases b <;> first | rfl | cases h
noncomputable def natI (i : Int) : Bool := Int.rec (motive := fun _ => Bool) (fun _ => true) (fun _ => false) i
theorem natI_t {i : Int} (h : natI i = true) : ((i.toNat : Nat) : Int) = i := by
  cases i with
  | ofNat n => rfl
  | negSucc n => cases h
noncomputable def keyB (k : List Nat) : Bool := List.rec (motive := fun _ => Bool) false (fun _ _ _ => leN k.length 8) k
theorem keyB_t {k : List Nat} (h : keyB k = true) : isKey k := by
  cases k with
  | nil => cases h
  | cons x l => exact ⟨by simp, by have := leN_t (h : leN _ _ = true); omega⟩
noncomputable def emB (v : List Nat) : Bool := List.rec (motive := fun _ => Bool) true (fun _ _ _ => false) v
theorem emB_t {v : List Nat} (h : emB v = true) : v = [] := by cases v with | nil => rfl | cons _ _ => cases h
noncomputable def mayBB (k v : List Nat) (n : Int) (d : Bool) : Bool := an2 (keyB k) (an2 (leN v.length 12) (an2 (bif' d (emB v) true) (an2 (natI n) (an2 (leN 1 n.toNat) (leN n.toNat 1000000000000)))))
theorem mayBB_t {k v : List Nat} {n : Int} {d : Bool} (h : mayBB k v n d = true) : mayBe k v n d := by
  obtain ⟨h1, h⟩ := an2_t h
  obtain ⟨h2, h⟩ := an2_t h
  obtain ⟨h3, h⟩ := an2_t h
  obtain ⟨h4, h⟩ := an2_t h
  obtain ⟨h5, h6⟩ := an2_t h
  have h4 := natI_t h4
  have h5 := leN_t h5
  have h6 := leN_t h6
  have h2 := leN_t h2
  exact ⟨keyB_t h1, by omega, fun hd => by rw [hd] at h3; exact emB_t h3, by omega, by omega⟩
noncomputable def spanB (f t : List Nat) : Bool := an2 (leN f.length 8) (an2 (leN t.length 8) (List.rec (motive := fun _ => Bool) true (fun _ _ _ => ltL f t) t))
theorem ltOr {f t : List Nat} (h : (List.rec (motive := fun _ => Bool) true (fun _ _ _ => ltL f t) t : Bool) = true) : t = [] ∨ ltS f t := by
  cases t with
  | nil => exact .inl rfl
  | cons x l => exact .inr h
theorem spanB_t {f t : List Nat} (h : spanB f t = true) : isSpan f t := by
  obtain ⟨h1, h⟩ := an2_t h
  obtain ⟨h2, h3⟩ := an2_t h
  have h1 := leN_t h1
  have h2 := leN_t h2
  exact ⟨by omega, by omega, ltOr h3⟩
noncomputable def hasB (f t k : List Nat) : Bool := an2 (keyB k) (an2 (bif' (ltL k f) false true) (List.rec (motive := fun _ => Bool) true (fun _ _ _ => ltL k t) t))
theorem hasB_t {f t k : List Nat} (hs : isSpan f t) (h : hasB f t k = true) : has f t k := by
  obtain ⟨h1, h⟩ := an2_t h
  obtain ⟨h2, h3⟩ := an2_t h
  refine ⟨hs, keyB_t h1, fun h => ?_, ltOr h3⟩
  rw [show ltL k f = true from h] at h2
  cases h2
noncomputable def cellB (c : Cell) : Bool := an2 (mayBB c.key c.value c.ver c.del) (an2 (natI c.floor) (leN c.floor.toNat c.ver.toNat))
theorem cellB_t {c : Cell} (h : cellB c = true) : cellIs c ∧ natI c.floor = true := by
  obtain ⟨h1, h⟩ := an2_t h
  obtain ⟨h2, h3⟩ := an2_t h
  have g := natI_t h2
  have h3 := leN_t h3
  have m := mayBB_t h1
  have := m.2.2.2.1
  exact ⟨⟨m, by omega, by omega⟩, h2⟩
noncomputable def ordB (l : List Cell) : Cell → Bool := List.rec (motive := fun _ => Cell → Bool) (fun _ => true) (fun c _ ih x => an2 (ltL x.key c.key) (ih c)) l
theorem ordB_t : ∀ {l : List Cell} {x : Cell}, ordB l x = true → ∀ j, j < l.length → ∃ c d, l[j]? = some c ∧ (x :: l)[j]? = some d ∧ ltS d.key c.key
  | [], _, _, j, hj => absurd hj (Nat.not_lt_zero _)
  | c :: l, x, h, j, hj => by
    obtain ⟨h1, h2⟩ := an2_t (h : an2 (ltL x.key c.key) (ordB l c) = true)
    cases j with
    | zero => exact ⟨c, x, rfl, rfl, h1⟩
    | succ j => exact ordB_t h2 j (Nat.lt_of_succ_lt_succ hj)
noncomputable def idxB (l : List Cell) : Bool := an2 (allB cellB l) (List.rec (motive := fun _ => Bool) true (fun c l _ => ordB l c) l)
theorem idxB_t {l : List Cell} (h : idxB l = true) : isIdx l := by
  obtain ⟨h1, h2⟩ := an2_t h
  have hc : ∀ c ∈ l, cellIs c := fun c hc => (cellB_t (allB_ok h1 c hc)).1
  intro j hj
  refine ⟨l[j], List.getElem?_eq_getElem hj, hc _ (List.getElem_mem hj), fun h0 => ?_⟩
  cases l with
  | nil => cases hj
  | cons x l =>
    obtain ⟨i, rfl⟩ : ∃ i, j = i + 1 := ⟨j - 1, by omega⟩
    obtain ⟨c, d, e1, e2, e3⟩ := ordB_t (h2 : ordB l x = true) i (Nat.lt_of_succ_lt_succ hj)
    refine ⟨d, e2, ?_⟩
    have : (x :: l)[i + 1] = c := by
      rw [List.getElem_cons_succ]
      exact Option.some.inj ((List.getElem?_eq_getElem (Nat.lt_of_succ_lt_succ hj)).symm.trans e1)
    rw [this]; exact e3
noncomputable def anyB (k : List Nat) (l : List Cell) : Bool := List.rec (motive := fun _ => Bool) false (fun c _ ih => bif' (eqS c.key k) true ih) l
theorem anyB_t {k : List Nat} : ∀ {l : List Cell}, anyB k l = true → (getL l k).2 = true
  | c :: l, h => by
    have h : bif' (eqS c.key k) true (anyB k l) = true := h
    unfold getL
    split
    · rfl
    · rename_i hn
      cases he : eqS c.key k with
      | true => exact absurd (eqS_t he) hn
      | false => rw [he] at h; exact anyB_t h
noncomputable def evB (cs : List Cell) (e : Evn) : Bool := an2 (anyB e.key cs) (mayBB e.key e.val e.ver e.del)
noncomputable def histB (k : List Nat) (fn : Nat) (fv : List Nat) (fd : Bool) (l : List Evn) : Nat → List Nat → Bool → Bool :=
  List.rec (motive := fun _ => Nat → List Nat → Bool → Bool) (fun n v d => an2 (Nat.beq n fn) (an2 (eqS v fv) (eqBo d fd)))
    (fun e _ ih n v d => bif' (eqS e.key k) (bif' (Nat.beq e.ver.toNat (n + 1)) (ih e.ver.toNat e.val e.del) false) (ih n v d)) l
theorem histB_t {k : List Nat} {fn : Nat} {fv : List Nat} {fd : Bool} : ∀ {l : List Evn} {n : Nat} {s : Int × Evn}, (∀ e ∈ l, natI e.ver = true) → histB k fn fv fd l n s.2.val s.2.del = true → s.1 = (n : Int) → ∃ r, runE k l s = some r ∧ r.1 = (fn : Int) ∧ r.2.val = fv ∧ r.2.del = fd
  | [], n, s, _, h, hs => by
    obtain ⟨h1, h⟩ := an2_t (h : an2 _ (an2 _ _) = true)
    obtain ⟨h2, h3⟩ := an2_t h
    exact ⟨s, rfl, by rw [hs, Nat.eq_of_beq_eq_true h1], eqS_t h2, eqBo_t h3⟩
  | e :: l, n, s, hn, h, hs => by
    have h : bif' (eqS e.key k) (bif' (Nat.beq e.ver.toNat (n + 1)) (histB k fn fv fd l e.ver.toNat e.val e.del) false) (histB k fn fv fd l n s.2.val s.2.del) = true := h
    have hv := natI_t (hn e List.mem_cons_self)
    have hn' : ∀ e ∈ l, natI e.ver = true := fun x hx => hn x (List.mem_cons_of_mem _ hx)
    unfold runE
    cases he : eqS e.key k with
    | true =>
      rw [he, bif_true] at h
      rw [if_pos (eqS_t he)]
      cases hb : Nat.beq e.ver.toNat (n + 1) with
      | false => rw [hb] at h; cases h
      | true =>
        rw [hb, bif_true] at h
        have := Nat.eq_of_beq_eq_true hb
        rw [if_pos (by rw [hs]; omega)]
        exact histB_t (s := (e.ver, e)) hn' h hv.symm
    | false =>
      rw [he, bif_false] at h
      rw [if_neg (eqS_f he)]
      exact histB_t hn' h hs
noncomputable def isHistB (l : List Evn) (cs : List Cell) : Bool := an2 (idxB cs) (an2 (allB (evB cs) l) (allB (fun c => histB c.key c.ver.toNat c.value c.del l c.floor.toNat c.value c.del) cs))
theorem isHistB_t {l : List Evn} {cs : List Cell} (h : isHistB l cs = true) : isHist l cs := by
  obtain ⟨h1, h⟩ := an2_t h
  obtain ⟨h2, h3⟩ := an2_t h
  have he := fun e he => an2_t (allB_ok h2 e he)
  have hn : ∀ e ∈ l, natI e.ver = true := fun e h => by
    obtain ⟨_, g⟩ := an2_t (he e h).2
    obtain ⟨_, g⟩ := an2_t g
    obtain ⟨_, g⟩ := an2_t g
    exact (an2_t g).1
  refine ⟨idxB_t h1, fun e h => ⟨anyB_t (he e h).1, mayBB_t (he e h).2⟩, fun c hc => ?_⟩
  obtain ⟨q1, q2⟩ := cellB_t (allB_ok (an2_t h1).1 c hc)
  have q2 := natI_t q2
  obtain ⟨r, r1, r2, r3, r4⟩ := histB_t (s := (c.floor, lastOf c)) hn (allB_ok h3 c hc) q2.symm
  have := q1.1.2.2.2.1
  exact ⟨r, r1, by rw [r2]; omega, r3, r4⟩
noncomputable def dnB (d : Dn) : Bool := an2 (an2 (natI d.ses) (an2 (leN d.ses.toNat 2) (an2 (natI d.id) (an2 (leN 1 d.id.toNat) (leN d.id.toNat 1000000000000)))))
  (an2 (natI d.an.code) (an2 (Nat.blt d.an.code.toNat 281474976710656) (an2 (natI d.an.ver) (an2 (Nat.blt d.an.ver.toNat 281474976710656) (leN d.an.val.length 255)))))
theorem dnB_t {d : Dn} (hr : d.an.rows = []) (h : dnB d = true) : okD d := by
  obtain ⟨h, g⟩ := an2_t h
  obtain ⟨h1, h⟩ := an2_t h
  obtain ⟨h2, h⟩ := an2_t h
  obtain ⟨h3, h⟩ := an2_t h
  obtain ⟨h4, h5⟩ := an2_t h
  obtain ⟨g1, g⟩ := an2_t g
  obtain ⟨g2, g⟩ := an2_t g
  obtain ⟨g3, g⟩ := an2_t g
  obtain ⟨g4, g5⟩ := an2_t g
  have h1 := natI_t h1
  have h2 := leN_t h2
  have h3 := natI_t h3
  have h4 := leN_t h4
  have h5 := leN_t h5
  have g1 := natI_t g1
  have g2 := blt_lt g2
  have g3 := natI_t g3
  have g4 := blt_lt g4
  have g5 := leN_t g5
  refine ⟨⟨by omega, by omega, by omega, by omega⟩, ⟨by omega, by omega, by omega, by omega, by omega⟩, by rw [hr]; decide, ?_⟩
  rw [hr]
  rintro ⟨r, h, _⟩
  cases h
noncomputable def ordD (l : List Dn) : Dn → Bool := List.rec (motive := fun _ => Dn → Bool) (fun _ => true) (fun c _ ih x => an2 (Nat.blt x.ses.toNat c.ses.toNat) (ih c)) l
theorem ordD_t : ∀ {l : List Dn} {x : Dn}, (∀ d ∈ x :: l, natI d.ses = true) → ordD l x = true → ∀ j, j < l.length → ∃ c d, l[j]? = some c ∧ (x :: l)[j]? = some d ∧ d.ses < c.ses
  | [], _, _, _, j, hj => absurd hj (Nat.not_lt_zero _)
  | c :: l, x, hn, h, j, hj => by
    obtain ⟨h1, h2⟩ := an2_t (h : an2 (Nat.blt x.ses.toNat c.ses.toNat) (ordD l c) = true)
    have a1 := natI_t (hn x List.mem_cons_self)
    have a2 := natI_t (hn c (List.mem_cons_of_mem _ List.mem_cons_self))
    have := blt_lt h1
    cases j with
    | zero => exact ⟨c, x, rfl, rfl, by omega⟩
    | succ j => exact ordD_t (fun d hd => hn d (List.mem_cons_of_mem _ hd)) h2 j (Nat.lt_of_succ_lt_succ hj)
noncomputable def isDoneB (l : List Dn) : Bool := an2 (allB dnB l) (List.rec (motive := fun _ => Bool) true (fun c l _ => ordD l c) l)
theorem isDoneB_t {l : List Dn} (hr : ∀ d ∈ l, d.an.rows = []) (h : isDoneB l = true) : isDone l := by
  obtain ⟨h1, h2⟩ := an2_t h
  have hc : ∀ c ∈ l, okD c := fun c hc => dnB_t (hr c hc) (allB_ok h1 c hc)
  have hn : ∀ c ∈ l, natI c.ses = true := fun c hc => (an2_t (an2_t (allB_ok h1 c hc)).1).1
  intro j hj
  refine ⟨l[j], List.getElem?_eq_getElem hj, hc _ (List.getElem_mem hj), fun h0 => ?_⟩
  cases l with
  | nil => cases hj
  | cons x l =>
    obtain ⟨i, rfl⟩ : ∃ i, j = i + 1 := ⟨j - 1, by omega⟩
    obtain ⟨c, d, e1, e2, e3⟩ := ordD_t hn (h2 : ordD l x = true) i (Nat.lt_of_succ_lt_succ hj)
    refine ⟨d, e2, ?_⟩
    have : (x :: l)[i + 1] = c := by
      rw [List.getElem_cons_succ]
      exact Option.some.inj ((List.getElem?_eq_getElem (Nat.lt_of_succ_lt_succ hj)).symm.trans e1)
    rw [this]; exact e3
noncomputable def shB (s : Sh) : Bool := an2 (an2 (natI s.id) (an2 (leN 1 s.id.toNat) (an2 (leN s.id.toNat 1000000000000) (an2 (natI s.ep) (an2 (leN 1 s.ep.toNat) (leN s.ep.toNat 1000000))))))
  (an2 (spanB s.fr s.to) (an2 (allB (fun c => hasB s.fr s.to c.key) s.cells) (an2 (leN s.evs.length 24) (an2 (isHistB s.evs s.cells) (isDoneB s.done)))))
theorem shB_t {s : Sh} (hr : ∀ d ∈ s.done, d.an.rows = []) (h : shB s = true) : isSh s := by
  obtain ⟨h, g⟩ := an2_t h
  obtain ⟨h1, h⟩ := an2_t h
  obtain ⟨h2, h⟩ := an2_t h
  obtain ⟨h3, h⟩ := an2_t h
  obtain ⟨h4, h⟩ := an2_t h
  obtain ⟨h5, h6⟩ := an2_t h
  obtain ⟨g1, g⟩ := an2_t g
  obtain ⟨g2, g⟩ := an2_t g
  obtain ⟨g3, g⟩ := an2_t g
  obtain ⟨g4, g5⟩ := an2_t g
  have h1 := natI_t h1
  have h2 := leN_t h2
  have h3 := leN_t h3
  have h4 := natI_t h4
  have h5 := leN_t h5
  have h6 := leN_t h6
  have g3 := leN_t g3
  have sp := spanB_t g1
  exact ⟨⟨by omega, by omega, by omega, by omega⟩, sp, fun c hc => hasB_t sp (allB_ok g2 c hc), by omega, isHistB_t g4, isDoneB_t hr g5⟩
/-! ### a shard read from a memory -/
noncomputable def rdC (r : List AV) : Option Cell := match r with
  | [.str k, .str v, .int .i64 n, .bool d, .int .i64 f] => some ⟨k, v, n, d, f⟩
  | _ => none
theorem rdC_t {r : List AV} {c : Cell} (h : rdC r = some c) : r = c.enc := by
  unfold rdC at h
  split at h
  · cases h; rfl
  · cases h
noncomputable def rdE (r : List AV) : Option Evn := match r with
  | [.str k, .int .i64 n, .str v, .bool d] => some ⟨k, n, v, d⟩
  | _ => none
theorem rdE_t {r : List AV} {c : Evn} (h : rdE r = some c) : r = c.enc := by
  unfold rdE at h
  split at h
  · cases h; rfl
  · cases h
noncomputable def rdD (r : List AV) : Option Dn := match r with
  | [.int .i64 s, .int .i64 i, .int .i64 c, .str v, .int .i64 n, .nils] => some ⟨s, i, ⟨c, v, n, [], .nils⟩⟩
  | _ => none
theorem rdD_t {r : List AV} {c : Dn} (h : rdD r = some c) : r = c.enc ∧ c.an.rows = [] ∧ c.an.rv = .nils := by
  unfold rdD at h
  split at h
  · cases h; exact ⟨rfl, rfl, rfl⟩
  · cases h
noncomputable def rdL {α : Type} (f : List AV → Option α) (l : List (List AV)) : Option (List α) :=
  List.rec (motive := fun _ => Option (List α)) (some []) (fun r _ ih => Option.rec (motive := fun _ => Option (List α)) none (fun x => Option.rec (motive := fun _ => Option (List α)) none (fun l => some (x :: l)) ih) (f r)) l
theorem rdL_t {α : Type} {f : List AV → Option α} {e : α → List AV} (hf : ∀ r x, f r = some x → r = e x) : ∀ {l : List (List AV)} {m : List α}, rdL f l = some m → l = m.map e ∧ ∀ x ∈ m, ∃ r, f r = some x
  | [], m, h => by cases h; exact ⟨rfl, by simp⟩
  | r :: l, m, h => by
    have h : (Option.rec (motive := fun _ => Option (List α)) none (fun x => Option.rec (motive := fun _ => Option (List α)) none (fun l => some (x :: l)) (rdL f l)) (f r) : Option (List α)) = some m := h
    cases hr : f r with
    | none => rw [hr] at h; cases h
    | some x =>
      rw [hr] at h
      cases hl : rdL f l with
      | none => rw [hl] at h; cases h
      | some m' =>
        rw [hl] at h
        cases h
        obtain ⟨a, b⟩ := rdL_t hf hl
        refine ⟨by rw [List.map_cons, ← hf r x hr, ← a], fun y hy => ?_⟩
        rcases List.mem_cons.1 hy with rfl | hy
        · exact ⟨r, hr⟩
        · exact b y hy
noncomputable def rdS {α : Type} (w : Nat) (f : List AV → Option α) (v : AV) (H : Heap) : Option (List α) := match v with
  | .nils => some []
  | .slice k 0 n e _ _ => bif' (Nat.beq e w) (match H.get k with
    | some (.row _ e2 rows) => bif' (Nat.beq e2 w) (bif' (Nat.ble n rows.length) (rdL f (rows.take n)) none) none
    | _ => none) none
  | _ => none
theorem rdS_t {α : Type} {w : Nat} {f : List AV → Option α} {e : α → List AV} (hf : ∀ r x, f r = some x → r = e x) (hok : H.ok) {v : AV} {m : List α} (h : rdS w f v H = some m) : Arr H w v (m.map e) ∧ ∀ x ∈ m, ∃ r, f r = some x := by
  unfold rdS at h
  split at h
  · cases h; exact ⟨.inl ⟨rfl, rfl⟩, by simp⟩
  · rename_i k n e1 ex cap
    cases h1 : Nat.beq e1 w with
    | false => rw [h1] at h; cases h
    | true =>
      rw [h1, bif_true] at h
      split at h
      · rename_i wr e2 rows hg
        cases h2 : Nat.beq e2 w with
        | false => rw [h2] at h; cases h
        | true =>
          rw [h2, bif_true] at h
          cases h3 : Nat.ble n rows.length with
          | false => rw [h3] at h; cases h
          | true =>
            rw [h3, bif_true] at h
            obtain ⟨a, b⟩ := rdL_t hf h
            have h1 := Nat.eq_of_beq_eq_true h1
            have h2 := Nat.eq_of_beq_eq_true h2
            have h3 := Nat.le_of_ble_eq_true h3
            subst h1; subst h2
            have hl : (m.map e).length = n := by rw [← a, List.length_take]; omega
            refine ⟨.inr ⟨k, 0, ex, cap, by rw [hl], hok _ _ hg, fun _ => ⟨0, wr, rows, by rw [Nat.zero_mul], hg, by rw [hl, List.drop_zero, a]⟩⟩, b⟩
      · cases h
  · cases h
noncomputable def rdSh (args : List AV) (H : Heap) : Option Sh := match args with
  | [.agg [.int .i64 i, .int .i64 e, .str f, .str t, .bool z, cv, ev, dv]] =>
    Option.rec (motive := fun _ => Option Sh) none (fun cs => Option.rec (motive := fun _ => Option Sh) none (fun es => Option.rec (motive := fun _ => Option Sh) none (fun ds => some ⟨i, e, f, t, z, cs, es, ds, cv, ev, dv⟩) (rdS 6 rdD dv H)) (rdS 4 rdE ev H)) (rdS 5 rdC cv H)
  | _ => none
noncomputable def smB (s : Sh) : Bool := an2 (Nat.blt s.cells.length 1000) (an2 (Nat.blt s.evs.length 1000) (Nat.blt s.done.length 1000))
theorem rdSh_t {args : List AV} {s : Sh} (hok : H.ok) (h : rdSh args H = some s) (hs : smB s = true) : args = [.agg s.enc] ∧ s.ok H ∧ ∀ d ∈ s.done, d.an.rows = [] ∧ d.an.rv = .nils := by
  unfold rdSh at h
  split at h
  · rename_i i e f t z cv ev dv
    cases h1 : rdS 5 rdC cv H with
    | none => rw [h1] at h; cases h
    | some cs =>
      rw [h1] at h
      cases h2 : rdS 4 rdE ev H with
      | none => rw [h2] at h; cases h
      | some es =>
        rw [h2] at h
        cases h3 : rdS 6 rdD dv H with
        | none => rw [h3] at h; cases h
        | some ds =>
          rw [h3] at h
          cases h
          obtain ⟨b1, b⟩ := an2_t hs
          obtain ⟨b2, b3⟩ := an2_t b
          have b1 := blt_lt b1
          have b2 := blt_lt b2
          have b3 := blt_lt b3
          simp only at b1 b2 b3
          obtain ⟨a1, _⟩ := rdS_t (e := Cell.enc) (fun _ _ h => rdC_t h) hok h1
          obtain ⟨a2, _⟩ := rdS_t (e := Evn.enc) (fun _ _ h => rdE_t h) hok h2
          obtain ⟨a3, a4⟩ := rdS_t (e := Dn.enc) (fun _ _ h => (rdD_t h).1) hok h3
          have hd : ∀ d ∈ ds, d.an.rows = [] ∧ d.an.rv = .nils := fun d hd => by
            obtain ⟨r, hr⟩ := a4 d hd
            exact (rdD_t hr).2
          refine ⟨rfl, ⟨a1, a2, a3, fun d hdm => ⟨.inl ⟨(hd d hdm).2, by rw [(hd d hdm).1]; rfl⟩, by rw [(hd d hdm).1]; exact Nat.zero_le _⟩, by show cs.length < _; omega, by show es.length < _; omega, by show ds.length < _; omega⟩, hd⟩
  · cases h
/-- a shard's Is -/
noncomputable def o24 (args : List AV) (H : Heap) : Option RC := Option.rec (motive := fun _ => Option RC) none (fun s => bif' (smB s) (bif' (shB s) (some (.ok (.bool true) H)) none) none) (rdSh args H)
theorem o24_ok (args : List AV) (H : Heap) (v : AV) (G : Heap) (h : o24 args H = some (.ok v G)) : FnOk Tryz.prog 24 args H fun v' G' => v' = v ∧ G' = G := by
  refine FnOk.assume fun hok => ?_
  unfold o24 at h
  cases hr : rdSh args H with
  | none => rw [hr] at h; cases h
  | some s =>
    rw [hr] at h
    have h : bif' (smB s) (bif' (shB s) (some (RC.ok (.bool true) H)) none) none = some (.ok v G) := h
    cases h1 : smB s with
    | false => rw [h1] at h; cases h
    | true =>
      rw [h1, bif_true] at h
      cases h2 : shB s with
      | false => rw [h2] at h; cases h
      | true =>
        rw [h2, bif_true] at h
        cases h
        obtain ⟨rfl, q1, q2⟩ := rdSh_t hok hr h1
        have := f24_ok q1
        rwa [decide_eq_true (shB_t (fun d hd => (q2 d hd).1) h2)] at this
/-! ### its bytes -/
noncomputable def catF {α : Type} (f : α → List Nat) (l : List α) : List Nat := List.rec (motive := fun _ => List Nat) [] (fun x _ ih => f x ++ ih) l
theorem catF_eq {α : Type} {f g : α → List Nat} : ∀ {l : List α}, (∀ x ∈ l, f x = g x) → catF f l = allT g l l.length
  | [], _ => rfl
  | x :: l, h => by
    have e : allT g (x :: l) (x :: l).length = g x ++ allT g l l.length := by unfold allT; simp
    rw [e, ← catF_eq fun y hy => h y (List.mem_cons_of_mem _ hy), ← h x List.mem_cons_self]
    rfl
noncomputable def cellF (c : Cell) : List Nat := textF c.key ++ (textF c.value ++ (numF 10 c.ver.toNat ++ (c.del.toNat :: numF 10 c.floor.toNat)))
noncomputable def evF (e : Evn) : List Nat := textF e.key ++ (numF 10 e.ver.toNat ++ (textF e.val ++ [e.del.toNat]))
noncomputable def dnF (d : Dn) : List Nat := numF 10 d.ses.toNat ++ (numF 10 d.id.toNat ++ (numF 10 d.an.code.toNat ++ (textF d.an.val ++ (numF 10 d.an.ver.toNat ++ numF 10 0))))
noncomputable def imgF (s : Sh) : List Nat :=
  numF 10 s.id.toNat ++ (numF 10 s.ep.toNat ++ (textF s.fr ++ (textF s.to ++ (s.frz.toNat :: (numF 10 s.cells.length ++ (catF cellF s.cells ++ (numF 10 s.evs.length ++ (catF evF s.evs ++ (numF 10 s.done.length ++ catF dnF s.done)))))))))
theorem nF {n : Nat} (h : n ≤ 1000000000000000) : numF 10 n = numT n := numF_eq 10 n (Nat.lt_of_le_of_lt h (by decide))
theorem tF {s : List Nat} (h : s.length ≤ 255) : textF s = textT s := textF_eq (by omega)
theorem imgF_eq {s : Sh} (h : isSh s) (hr : ∀ d ∈ s.done, d.an.rows = [] ∧ d.an.rv = .nils) (h1 : s.cells.length < 1000) (h2 : s.evs.length < 1000) (h3 : s.done.length < 1000) : imgF s = imgT s := by
  obtain ⟨⟨a1, a2, a3, a4⟩, ⟨b1, b2, _⟩, c1, c2, ⟨d1, d2, d3⟩, e1⟩ := h
  have hc : ∀ c ∈ s.cells, cellF c = cellT c := fun c hc => by
    obtain ⟨⟨⟨_, g1⟩, g2, _, g3, g4⟩, g5, g6⟩ := d1.cell hc
    unfold cellF cellT
    rw [tF (by omega), tF (by omega), nF (by omega), nF (by omega)]
    simp only [List.append_assoc, List.singleton_append]
  have he : ∀ e ∈ s.evs, evF e = evT e := fun e he => by
    obtain ⟨⟨_, g1⟩, g2, _, g3, g4⟩ := (d2 e he).2
    unfold evF evT
    rw [tF (by omega), tF (by omega), nF (by omega)]
    simp only [List.append_assoc]
  have hd : ∀ d ∈ s.done, dnF d = dnT d := fun d hd => by
    obtain ⟨r1, r2⟩ := hr d hd
    obtain ⟨j, hj⟩ := List.mem_iff_getElem?.1 hd
    obtain ⟨d', q1, q2, _⟩ := e1 j (List.getElem?_eq_some_iff.1 hj).1
    rw [hj] at q1; cases q1
    obtain ⟨ses, id, ⟨code, val, ver, rows, rv⟩⟩ := d
    simp only at r1 r2
    subst r1 r2
    obtain ⟨⟨p1, p2, p3, p4⟩, ha⟩ := q2
    simp only at p1 p2 p3 p4
    have hx := ansT_bare (code := code) (val := val) (ver := ver) ha
    obtain ⟨⟨f1, f2, f3, f4, f5⟩, -, -⟩ := ha
    simp only at f1 f2 f3 f4 f5
    show numF 10 ses.toNat ++ (numF 10 id.toNat ++ (numF 10 code.toNat ++ (textF val ++ (numF 10 ver.toNat ++ numF 10 0)))) = numT ses.toNat ++ numT id.toNat ++ ansT (bareA code val ver)
    rw [hx, nF (by omega), nF (by omega), nF (by omega), tF (by omega), nF (by omega), nF (by omega)]
    simp only [List.append_assoc]
  unfold imgF imgT topT
  rw [catF_eq hc, catF_eq he, catF_eq hd, nF (by omega), nF (by omega), tF (by omega), tF (by omega), nF (by omega), nF (by omega), nF (by omega)]
  simp only [List.append_assoc, List.cons_append, List.nil_append]
noncomputable def o115 (args : List AV) (H : Heap) : Option RC := Option.rec (motive := fun _ => Option RC) none (fun s => bif' (smB s) (bif' (shB s) (fL (imgF s) fun l => bif' (Nat.blt l.length 1000000) (fL (wrapF l) fun l => some (.ok (.str l) H)) none) none) none) (rdSh args H)
theorem o115_ok (args : List AV) (H : Heap) (v : AV) (G : Heap) (h : o115 args H = some (.ok v G)) : FnOk Tryz.prog 115 args H fun v' G' => v' = v ∧ G' = G := by
  refine FnOk.assume fun hok => ?_
  unfold o115 at h
  cases hr : rdSh args H with
  | none => rw [hr] at h; cases h
  | some s =>
    rw [hr] at h
    have h : bif' (smB s) (bif' (shB s) (fL (imgF s) fun l => bif' (Nat.blt l.length 1000000) (fL (wrapF l) fun l => some (RC.ok (.str l) H)) none) none) none = some (.ok v G) := h
    cases h1 : smB s with
    | false => rw [h1] at h; cases h
    | true =>
      rw [h1, bif_true] at h
      cases h2 : shB s with
      | false => rw [h2] at h; cases h
      | true =>
        rw [h2, bif_true, fL_eq] at h
        obtain ⟨h3, h⟩ := b2 h
        rw [fL_eq, wrapF_eq h3] at h
        cases h
        obtain ⟨rfl, q1, q2⟩ := rdSh_t hok hr h1
        obtain ⟨b1, b⟩ := an2_t h1
        obtain ⟨b2, b3⟩ := an2_t b
        have b1 := blt_lt b1
        have b2 := blt_lt b2
        have b3 := blt_lt b3
        have hs := shB_t (fun d hd => (q2 d hd).1) h2
        have e := imgF_eq hs q2 b1 b2 b3
        rw [e] at h3 ⊢
        exact f115_ok q1 hs ⟨fun d hd => ⟨(q2 d hd).2, (q2 d hd).1⟩, b1, b2, b3⟩ h3
noncomputable def XC0 : Orc := orX 24 o24 (orX 115 o115 XB)
theorem good_XC0 : GoodX Tryz.prog XC0 := good_orX o24_ok (good_orX o115_ok good_XB)
end Go.Proofs
/- NodeHands: node b with its pieces, in states that are spelt out; what is held. -/



set_option linter.all false
set_option maxRecDepth 100000
namespace Go.Proofs
open Go Go.Ev
/-- these blocks are as they were -/
def Same (ks : List K) (M G : Heap) : Prop := ∀ k ∈ ks, ∀ b, M.get k = some b → G.get k = some b
/-- blocks of no node -/
def Oth (M : Heap) (ks : List K) : Prop := ∀ k ∈ ks, ∃ wr w rows, M.get k = some (.row wr w rows) ∧ (w = 8 → ∃ s : Sh, rows = [s.enc]) ∧ w ≠ 24 ∧ w ≠ 2
def Away (ks κ : List K) : Prop := ∀ k ∈ ks, k ∉ κ
section
variable {M G X : Heap} {kn kd kj kh km : K} {tl tl2 : List Blk} {ws : List (List AV)} {κ ks : List K}
theorem Same.trans (h : Same ks M G) (h2 : Same ks G X) : Same ks M X := fun k hk b hb => h2 k hk b (h k hk b hb)
theorem Same.ext (hok : M.ok) (L : List Blk) : Same ks M (M.ext L) := fun k _ b hb => Heap.get_ext_old hok hb L
theorem Same.oth (h : Same ks M G) (ho : Oth M ks) : Oth G ks := fun k hk => by
  obtain ⟨wr, w, rows, h1, h2⟩ := ho k hk
  exact ⟨wr, w, rows, h k hk _ h1, h2⟩
/-- a call reckoned in a small memory, others held -/
theorem run_held {Y : Orc} (hY : GoodX Tryz.prog Y) {n : Nat} {f : FuncId} {args : List AV} {bl bl' : List Blk} {sel : List K} {v1 : AV} (hc : chkB bl bl' sel args v1 = true)
    (hr : runL (evFn Tryz.prog Y n f args (hp0.ext bl)) sel bl' = some (v1.ren (rk sel .z), true, wantL sel bl')) (hF : Fit M κ bl) (hM : M.ok) (ho : Oth M ks) (ha : Away ks κ) :
    FnOk Tryz.prog f (AV.rens (rk κ .z) args) M fun v G => ∃ κ', v = v1.ren (rk κ' .z) ∧ Framed M κ bl sel bl' G κ' ∧ Same ks M G ∧ Away ks κ' := by
  refine (FnOk.run hY hc hr hF).mono ?_
  rintro v G ⟨κ', hv, hX⟩
  refine ⟨κ', hv, hX, fun k hk b hb => hX.keep k b hb fun i c _ _ h3 => ha k hk (List.mem_of_getElem? h3), fun k hk hm => ?_⟩
  obtain ⟨wr, w, rows, h1, _⟩ := ho k hk
  have := hM _ _ h1
  rcases hX.src k hm with h | h
  · exact ha k hk h
  · omega
/-- its row -/
def nP (w : AV) : Blk := .row true 8 [[.int .i64 0, .ptr K.z.i 0, .ptr K.z.o.o 0, .ptr K.z.o.i 0, w, .int .i64 1, .int .i64 2, .map K.z.i.o]]
abbrev blQ (n : Nat) (tl : List Blk) : List Blk := nP (wN n) :: .dead :: tl
def StQ (tl : List Blk) (M : Heap) (kn : K) (ws : List (List AV)) (κ : List K) : Prop :=
  Fit M κ (blQ ws.length tl) ∧ κ[0]? = some kn ∧ (ws ≠ [] → ∀ kw, κ[1]? = some kw → M.get kw = some (.row true 24 ws)) ∧ ∀ km, κ[5]? = some km → ∃ es, M.get km = some (.map es)
/-- so it stands, apart from what is held -/
def SQ (tl : List Blk) (M : Heap) (kn : K) (ws : List (List AV)) (ks : List K) : Prop := M.ok ∧ ∃ κ, StQ tl M kn ws κ ∧ Away ks κ
theorem StQ.row (h : StQ tl M kn ws κ) : M.get kn = some (nRowP (rk κ .z K.z.i) (rk κ .z K.z.o.o) (rk κ .z K.z.o.i) ((wN ws.length).ren (rk κ .z)) (rk κ .z K.z.i.o)) := by
  rw [h.1.blk 0 (nP (wN ws.length)) kn rfl h.2.1 trivial]
  rfl
theorem StQ.wt (h : StQ tl M kn ws κ) : isWt M ((wN ws.length).ren (rk κ .z)) ws := by
  cases ws with
  | nil => exact .inl ⟨rfl, rfl⟩
  | cons w ws =>
    have hl : 1 < κ.length := by rw [h.1.len]; show 1 < tl.length + 1 + 1; omega
    have hk : κ[1]? = some κ[1] := List.getElem?_eq_getElem hl
    refine .inr ⟨κ[1], by simp, ?_, h.2.2.1 (by simp) _ hk⟩
    show AV.slice (rk κ .z K.z.o) 0 _ 24 false _ = AV.slice κ[1] 0 _ 24 false _
    rw [rk_some (j := κ[1]) (k := K.z.o) hk]
theorem StQ.ext (h : StQ tl M kn ws κ) (hok : M.ok) (L : List Blk) : StQ tl (M.ext L) kn ws κ := ⟨h.1.ext hok L, h.2.1, fun hne kw hk => Heap.get_ext_old hok (h.2.2.1 hne kw hk) L, fun km hk => by
  obtain ⟨es, he⟩ := h.2.2.2 km hk
  exact ⟨es, Heap.get_ext_old hok he L⟩⟩
theorem SQ.ext (h : SQ tl M kn ws ks) (L : List Blk) : SQ tl (M.ext L) kn ws ks := by
  obtain ⟨hok, κ, h, ha⟩ := h
  exact ⟨Heap.ok_ext hok L, κ, h.ext hok L, ha⟩
/-- what a state's blocks must be -/
structure LayQ (tl : List Blk) : Prop where
  len : 4 ≤ tl.length
  live : ∀ (i : Nat) (b : Blk), tl[i]? = some b → i ≠ 3 → b.live
  no24 : ∀ b ∈ tl, no24 b
  no2 : ∀ b ∈ tl, ∀ k ∈ b.keysA, k.toNat ≠ 2
noncomputable def layQB (tl : List Blk) : Bool := bif' (allB (fun b => bif' (isDead b) false true) (tl.take 3)) (bif' (allB (fun b => bif' (isDead b) false true) (tl.drop 4)) (bif' (Nat.ble 4 tl.length) (allB (fun b => bif' (Blk.rec (motive := fun _ => Bool) true (fun _ e _ => bif' (Nat.beq e 24) false true) (fun _ => true) b) (allB (fun k => bif' (Nat.beq k.toNat 2) false true) b.keysA) false) tl) false) false) false
theorem layQ_of {tl : List Blk} (h : layQB tl = true) : LayQ tl := by
  obtain ⟨g1, h⟩ := bif_split h
  obtain ⟨g2, h⟩ := bif_split h
  obtain ⟨h1, h2⟩ := bif_split h
  have h3 := fun b hb => bif_split (allB_ok h2 b hb)
  have hlv : ∀ b : Blk, bif' (isDead b) false true = true → b.live := fun b h => by cases b with
    | dead => cases h
    | row _ _ _ => trivial
    | map _ => trivial
  refine ⟨Nat.le_of_ble_eq_true h1, fun i b hb hi => ?_, fun b hb => ?_, fun b hb k hk => ?_⟩
  · rcases Nat.lt_or_ge i 3 with h | h
    · exact hlv b (allB_ok g1 b (List.mem_of_getElem? (i := i) (by rw [List.getElem?_take_of_lt h]; exact hb)))
    · exact hlv b (allB_ok g2 b (List.mem_of_getElem? (i := i - 4) (by rw [List.getElem?_drop, show 4 + (i - 4) = i by omega]; exact hb)))
  · have := (h3 b hb).1
    intro wr rows e
    subst e
    cases this
  · have := allB_ok (h3 b hb).2 k hk
    intro e
    rw [e] at this
    cases this
theorem f28_runQ {rec : List AV} {sel : List K} (hM : M.ok) (h : StQ tl M kn ws κ) (hn : ∀ b ∈ blQ ws.length tl, no24 b) (hs : ∀ i, i < 6 → sel[i]? = some (hp0.key i)) (h6 : 4 ≤ tl.length)
    (h5 : tl[3]? = some .dead) (hz : ∀ ρ, AV.rens ρ rec = rec) (ho : Oth M ks) (ha : Away ks κ) (hc : chkB (blQ ws.length tl) (blQ ws.length tl2) sel [.ptr .z 0, .agg rec] (.tup [.agg zA, .nili]) = true)
    (hr : runL (evFn Tryz.prog XC0 100000 28 [.ptr .z 0, .agg rec] (hp0.ext (blQ ws.length tl))) sel (blQ ws.length tl2) = some (.tup [.agg zA, .nili], true, wantL sel (blQ ws.length tl2))) (L : List Blk) :
    FnOk Tryz.prog 28 [.ptr kn 0, .agg rec] (M.ext L) fun r G => r = .tup [.agg zA, .nili] ∧ (∃ κ', StQ tl2 G kn ws κ' ∧ same6 κ κ' ∧ G.ok ∧ Same ks M G ∧ Away ks κ') ∧ ∀ (i : Nat) (b : Blk), L[i]? = some b → G.get (M.key i) = some b := by
  have hF := h.1.ext hM L
  have hren : ∀ ρ : K → K, AV.ren ρ (.tup [.agg zA, .nili]) = .tup [.agg zA, .nili] := fun ρ => by simp only [AV.ren, AV.rens, zA]
  have e1 : rk κ .z .z = kn := rk_some h.2.1
  have e2 : AV.rens (rk κ .z) rec = rec := hz _
  have := run_held good_XC0 (v1 := .tup [.agg zA, .nili]) hc (by rw [hren]; exact hr) hF (Heap.ok_ext hM L) ((Same.ext hM L).oth ho) ha
  have ea : AV.rens (rk κ .z) [.ptr .z 0, .agg rec] = [.ptr kn 0, .agg rec] := by
    simp only [AV.rens, AV.ren, e1, e2]
  rw [ea] at this
  refine this.mono ?_
  rintro v X ⟨κ', hv, hX, hsm2, haw⟩
  rw [hren] at hv
  have hsm : same6 κ κ' := fun i hi => by
    have := hX.stay i _ (hs i hi) (by rw [hp0_key]; show i + 1 ≤ tl.length + 1 + 1; omega)
    rw [this, hp0_key]; rfl
  have hk24 : ∀ k rows, (M.ext L).get k = some (.row true 24 rows) → X.get k = some (.row true 24 rows) := fun k rows hk => hX.keep k _ hk fun i c h1 h2 => fit_no24 hF hn hk h1 h2
  refine ⟨hv, ⟨κ', ⟨hX.fit, by rw [hsm 0 (by decide)]; exact h.2.1, fun hne kw hkw => ?_, fun km hkm => ?_⟩, hsm, hX.ok, (Same.ext hM L).trans hsm2, haw⟩, fun i b hb => ?_⟩
  · rw [hsm 1 (by decide)] at hkw
    exact hk24 kw ws (Heap.get_ext_old hM (h.2.2.1 hne kw hkw) L)
  · rw [hsm 5 (by decide)] at hkm
    obtain ⟨es, he⟩ := h.2.2.2 km hkm
    refine ⟨es, hX.keep km _ (Heap.get_ext_old hM he L) fun i c g1 g2 g3 => ?_⟩
    have := hF.inj g3 hkm
    subst this
    have g1 : tl[3]? = some c := g1
    rw [h5] at g1; cases g1
    exact g2
  · have hi : i < L.length := (List.getElem?_eq_some_iff.1 hb).1
    refine hX.keep _ b (by rw [Heap.get_ext_key _ _ _ hi]; exact hb) fun j c h1 h2 h3 => ?_
    have := h.1.old _ (List.mem_of_getElem? h3)
    rw [Heap.toNat_key] at this
    omega
theorem says_SQ {c : List AV} {wv : AV} (hL : LayQ tl) (h : StQ tl G kn ws κ) (ho : Oth G ks) (ha : Away ks κ) (hd : rk κ .z K.z.i = kd) (hj : rk κ .z K.z.o.o = kj) (hh : rk κ .z K.z.o.i = kh) (hm : rk κ .z K.z.i.o = km) (hwv : wv = (wN ws.length).ren (rk κ .z))
    (h1 : ∃ wv', X.get kn = some (nRowP kd kj kh wv' km) ∧ isWt X wv' (ws ++ [c])) (hX : X.ok) (hK : Kp (kn :: wk wv) G X) : SQ tl X kn (ws ++ [c]) ks ∧ Same ks G X := by
  obtain ⟨wv', r1, r2⟩ := h1
  rcases r2 with ⟨e, _⟩ | ⟨kw, _, rfl, r3⟩
  · simp at e
  have hll : κ.length = tl.length + 1 + 1 := h.1.len
  have hl := hL.len
  have h1lt : 1 < κ.length := by omega
  have hk1 : κ[1]? = some κ[1] := List.getElem?_eq_getElem h1lt
  have hsame : Same ks G X := fun k hk b hb => hK.keep k b (fun hm => by
    rcases List.mem_cons.1 hm with rfl | hm
    · exact ha _ hk (List.mem_of_getElem? h.2.1)
    · subst hwv
      cases ws with
      | nil => cases hm
      | cons w ws =>
        have e : wk ((wN (w :: ws).length).ren (rk κ .z)) = [κ[1]] := by
          show [rk κ .z K.z.o] = _
          rw [rk_some (j := κ[1]) (k := K.z.o) hk1]
        rw [e, List.mem_singleton] at hm
        subst hm
        exact ha _ hk (List.mem_of_getElem? hk1)) hb
  -- the other blocks
  have hot : ∀ (i : Nat) (b : Blk) (k : K), b.live → tl[i]? = some b → κ[i + 2]? = some k → X.get k = some (b.ren (rk κ .z)) := fun i b k hlv hb hk => by
    refine hK.keep _ _ (fun hm => ?_) (h.1.blk (i + 2) b k hb hk hlv)
    rcases List.mem_cons.1 hm with rfl | hm
    · have := h.1.inj hk h.2.1; omega
    · subst hwv
      cases ws with
      | nil => cases hm
      | cons w ws =>
        have e : wk ((wN (w :: ws).length).ren (rk κ .z)) = [κ[1]] := by
          show [rk κ .z K.z.o] = _
          rw [rk_some (j := κ[1]) (k := K.z.o) hk1]
        rw [e, List.mem_singleton] at hm
        subst hm
        have := h.1.inj hk hk1; omega
  have hnot : ∀ (i : Nat) (b : Blk) (k : K), tl[i]? = some b → κ[i + 2]? = some k → b.live → k ≠ kw := fun i b k hb hk hlv e => by
    subst e
    have := hot i b k hlv hb hk
    rw [r3] at this
    have e3 := Option.some.inj this
    cases b with
    | dead => exact hlv
    | row wr2 e2 rows2 =>
      have e3 : Blk.row true 24 (ws ++ [c]) = .row wr2 e2 (rows2.map (AV.rens (rk κ .z))) := e3
      injection e3 with e4 e5 e6
      subst e5
      exact hL.no24 _ (List.mem_of_getElem? hb) _ _ rfl
    | map es => cases e3
  have hmap : ∀ k, κ[5]? = some k → ∃ es, X.get k = some (.map es) := fun k hk => by
    obtain ⟨es, he⟩ := h.2.2.2 k hk
    refine ⟨es, hK.keep k _ (fun hm => ?_) he⟩
    rcases List.mem_cons.1 hm with rfl | hm
    · have := h.1.inj hk h.2.1; omega
    · subst hwv
      cases ws with
      | nil => cases hm
      | cons w ws =>
        have e : wk ((wN (w :: ws).length).ren (rk κ .z)) = [κ[1]] := by
          show [rk κ .z K.z.o] = _
          rw [rk_some (j := κ[1]) (k := K.z.o) hk1]
        rw [e, List.mem_singleton] at hm
        subst hm
        have := h.1.inj hk hk1; omega
  have hne : ∀ (i : Nat) (k : K), i ≠ 1 → κ[i]? = some k → k ≠ kw := fun i k hi hk e => by
    have hil := (List.getElem?_eq_some_iff.1 hk).1
    rcases i with _ | _ | i
    · rw [h.2.1] at hk
      cases hk
      subst e
      rw [r1] at r3
      unfold nRowP nRow at r3
      injection Option.some.inj r3 with _ e _
      cases e
    · exact hi rfl
    · by_cases h3 : i = 3
      · subst h3
        obtain ⟨es, he⟩ := hmap k hk
        rw [e, r3] at he
        cases he
      · have hb : tl[i]? = some (tl[i]'(by omega)) := List.getElem?_eq_getElem _
        exact hnot i _ k hb hk (hL.live i _ hb h3) e
  have hset : ∀ i, (κ.set 1 kw)[i]? = if i = 1 then some kw else κ[i]? := fun i => by
    rw [List.getElem?_set]
    by_cases hi : 1 = i
    · rw [if_pos hi, if_pos hi.symm, if_pos (by omega)]
    · rw [if_neg hi, if_neg fun e => hi e.symm]
  have hn1 : (ws ++ [c]).length = ws.length + 1 := by rw [List.length_append]; rfl
  have hrk : ∀ k : K, k.toNat ≠ 2 → rk (κ.set 1 kw) .z k = rk κ .z k := fun k hk => by
    have := k.toNat_pos
    unfold rk
    rw [hset, if_neg (by omega)]
  have hrk2 : rk (κ.set 1 kw) .z K.z.o = kw := rk_some (by rw [hset]; exact if_pos rfl)
  refine ⟨⟨hX, κ.set 1 kw, ⟨⟨by rw [List.length_set]; exact h.1.len, ?_, fun k hk => ?_, fun b hb k hk => ?_, fun i b k hb hk hl => ?_⟩, by rw [hset, if_neg (by decide)]; exact h.2.1, fun _ kw' hkw => ?_, fun km' hkm => ?_⟩, fun k hk hm => ?_⟩, hsame⟩
  · refine List.pairwise_iff_getElem.2 fun i j hi' hj' hij e0 => ?_
    have hj := hj'
    rw [List.length_set] at hj
    have e0 : (κ.set 1 kw)[i]? = (κ.set 1 kw)[j]? := by rw [List.getElem?_eq_getElem hi', List.getElem?_eq_getElem hj', e0]
    rw [hset, hset] at e0
    have ei : κ[i]? = some (κ[i]'(by omega)) := List.getElem?_eq_getElem _
    have ej : κ[j]? = some (κ[j]'hj) := List.getElem?_eq_getElem _
    split at e0
    · rw [if_neg (by omega), ej] at e0
      exact hne j _ (by omega) ej (Option.some.inj e0).symm
    · split at e0
      · rw [ei] at e0
        exact hne i _ (by omega) ei (Option.some.inj e0)
      · rw [ei] at e0
        have := h.1.inj ei e0.symm
        omega
  · rcases List.mem_or_eq_of_mem_set hk with hk | rfl
    · exact Nat.lt_of_lt_of_le (h.1.old k hk) hK.le
    · exact hX _ _ r3
  · rcases List.mem_cons.1 hb with rfl | hb
    · rw [hn1] at hk
      have hk : k ∈ [K.z.i, K.z.o.o, K.z.o.i, K.z.o, K.z.i.o] := by
        simpa [Blk.keysA, nP, wN, AV.keyss, AV.keys] using hk
      show k.toNat ≤ tl.length + 1 + 1
      simp only [List.mem_cons, List.not_mem_nil, or_false] at hk
      rcases hk with rfl | rfl | rfl | rfl | rfl <;> simp only [K.toNat] <;> omega
    · exact h.1.closed b (List.mem_cons_of_mem _ hb) k hk
  · rcases i with _ | _ | i
    · cases hb
      rw [hset, if_neg (by decide), h.2.1] at hk
      cases hk
      rw [r1, hn1]
      show _ = some (Blk.row true 8 [[.int .i64 0, .ptr (rk (κ.set 1 kw) .z K.z.i) 0, .ptr (rk (κ.set 1 kw) .z K.z.o.o) 0, .ptr (rk (κ.set 1 kw) .z K.z.o.i) 0, .slice (rk (κ.set 1 kw) .z K.z.o) 0 (ws.length + 1) 24 false (ws.length + 1), .int .i64 1, .int .i64 2, .map (rk (κ.set 1 kw) .z K.z.i.o)]])
      rw [hrk2, hrk _ (by decide), hrk _ (by decide), hrk _ (by decide), hrk _ (by decide), hd, hj, hh, hm]
      rfl
    · cases hb; exact hl.elim
    · have hb : tl[i]? = some b := hb
      rw [hset, if_neg (by omega)] at hk
      rw [hot i b k hl hb hk]
      exact congrArg some (Blk.ren_congr fun j hj => (hrk j (hL.no2 b (List.mem_of_getElem? hb) j hj)).symm)
  · rw [hset, if_pos rfl] at hkw
    cases hkw
    exact r3
  · rw [hset, if_neg (by decide)] at hkm
    exact hmap km' hkm
  · rcases List.mem_or_eq_of_mem_set hm with hm | rfl
    · exact ha k hk hm
    · obtain ⟨wr, w, rows, q1, q2, q3, q4⟩ := (hsame.oth ho) k hk
      rw [r3] at q1
      injection Option.some.inj q1 with _ e _
      exact q3 e.symm
end
end Go.Proofs
/- NodeHands: install, Sync, a put at node b, in states. -/

set_option linter.all false
set_option maxRecDepth 100000
namespace Go.Proofs
open Go Go.Ev
/-- node b's blocks when it is new -/
def tB : List Blk := [dB, .row true 2 [[.ptr K.z.i 0, .int .i64 1]], hB, .dead]
section
variable {M G X : Heap} {kn kd kj kh km : K} {tl tl2 : List Blk} {ws : List (List AV)} {κ ks : List K} {es : List (Int × List Nat)}
theorem lay_tB {n : Nat} : ∀ b ∈ blQ n tB, no24 b := by
  intro b hb
  simp only [blQ, tB, List.mem_cons, List.not_mem_nil, or_false] at hb
  rcases hb with rfl | rfl | rfl | rfl | rfl | rfl <;> intro wr rows e <;> first | (cases e; done) | (injection e with _ e _; cases e; done)
theorem fit_BP (h : BP M kn kd kj kh ws es) (hne : ws ≠ []) (ho : Oth M ks) : ∃ κ km, StQ tB M kn ws κ ∧ Away ks κ ∧ rk κ .z K.z.i = kd ∧ rk κ .z K.z.o.o = kj ∧ rk κ .z K.z.o.i = kh ∧ rk κ .z K.z.i.o = km ∧ M.get km = some (.map (encM es)) := by
  obtain ⟨wv, km, hn, hw, hm⟩ := h.row
  rcases hw with ⟨e, _⟩ | ⟨kw, _, rfl, hkw⟩
  · exact absurd e hne
  obtain ⟨n, hn1⟩ : ∃ n, ws.length = n + 1 := ⟨ws.length - 1, by have := List.length_pos_iff.2 hne; omega⟩
  have hd := h.d
  have hj := h.j
  have hh := h.h
  have ne : ∀ {a b : K} {x y : Blk}, M.get a = some x → M.get b = some y → x ≠ y → a ≠ b := fun h1 h2 h3 e => by
    subst e; rw [h1] at h2; exact h3 (Option.some.inj h2)
  have hnd : [kn, kw, kd, kj, kh, km].Nodup := by
    simp only [List.nodup_cons, List.mem_cons, List.not_mem_nil, or_false, not_or, List.nodup_nil, and_true, not_false_eq_true]
    refine ⟨⟨?_, ?_, ?_, ?_, ?_⟩, ⟨?_, ?_, ?_, ?_⟩, ⟨?_, ?_, ?_⟩, ⟨?_, ?_⟩, ?_⟩
    · exact ne hn hkw (by unfold nRowP nRow; intro e; injection e with _ e _; cases e)
    · exact ne hn hd (by unfold nRowP nRow dB; intro e; injection e with _ e _; cases e)
    · exact ne hn hj (by unfold nRowP nRow jB; intro e; injection e with _ e _; cases e)
    · exact ne hn hh (by unfold nRowP nRow hB; intro e; injection e with _ e _; cases e)
    · exact ne hn hm (by unfold nRowP nRow; intro e; cases e)
    · exact ne hkw hd (by unfold dB; intro e; injection e with _ e _; cases e)
    · exact ne hkw hj (by unfold jB; intro e; injection e with _ e _; cases e)
    · exact ne hkw hh (by unfold hB; intro e; injection e with _ e _; cases e)
    · exact ne hkw hm (by intro e; cases e)
    · exact ne hd hj (by unfold dB jB; intro e; simp at e)
    · exact ne hd hh (by unfold dB hB; intro e; simp at e)
    · exact ne hd hm (by unfold dB; intro e; cases e)
    · exact ne hj hh (by unfold jB hB; intro e; simp at e)
    · exact ne hj hm (by unfold jB; intro e; cases e)
    · exact ne hh hm (by unfold hB; intro e; cases e)
  refine ⟨[kn, kw, kd, kj, kh, km], km, ⟨⟨rfl, hnd, ?_, ?_, ?_⟩, rfl, fun _ k hk => by cases hk; exact hkw, fun k hk => by cases hk; exact ⟨_, hm⟩⟩, ?_, rfl, rfl, rfl, rfl, hm⟩
  · intro k hk
    simp only [List.mem_cons, List.not_mem_nil, or_false] at hk
    rcases hk with rfl | rfl | rfl | rfl | rfl | rfl
    · exact h.ok _ _ hn
    · exact h.ok _ _ hkw
    · exact h.ok _ _ hd
    · exact h.ok _ _ hj
    · exact h.ok _ _ hh
    · exact h.ok _ _ hm
  · intro b hb k hk
    rw [hn1] at hb
    simp only [blQ, tB, List.mem_cons, List.not_mem_nil, or_false] at hb
    show k.toNat ≤ 6
    rcases hb with rfl | rfl | rfl | rfl | rfl | rfl
    · have hk : k ∈ [K.z.i, K.z.o.o, K.z.o.i, K.z.o, K.z.i.o] := by
        simpa [Blk.keysA, nP, wN, AV.keyss, AV.keys] using hk
      simp only [List.mem_cons, List.not_mem_nil, or_false] at hk
      rcases hk with rfl | rfl | rfl | rfl | rfl <;> decide
    · cases hk
    · cases hk
    · have hk : k ∈ [K.z.i] := by simpa [Blk.keysA, AV.keyss, AV.keys] using hk
      rw [List.mem_singleton.1 hk]; decide
    · cases hk
    · cases hk
  · intro i b k hb hk hl
    rw [hn1] at hb
    rcases i with _ | _ | _ | _ | _ | _ | i
    · cases hb; cases hk
      rw [hn, hn1]; rfl
    · cases hb; exact hl.elim
    · cases hb; cases hk; exact hd
    · cases hb; cases hk; exact hj
    · cases hb; cases hk; exact hh
    · cases hb; exact hl.elim
    · cases hb
  · intro k hk hm2
    obtain ⟨wr, w, rows, q1, q2, q3, q4⟩ := ho k hk
    simp only [List.mem_cons, List.not_mem_nil, or_false] at hm2
    rcases hm2 with rfl | rfl | rfl | rfl | rfl | rfl
    · rw [hn] at q1; unfold nRowP nRow at q1; cases q1
      obtain ⟨s, e⟩ := q2 rfl
      simp [Sh.enc] at e
    · rw [hkw] at q1; cases q1; exact q3 rfl
    · rw [hd] at q1; unfold dB at q1; cases q1; exact q4 rfl
    · rw [hj] at q1; unfold jB at q1; cases q1; exact q4 rfl
    · rw [hh] at q1; unfold hB at q1; cases q1; exact q4 rfl
    · rw [hm] at q1; cases q1
/-- a record reckoned at b -/
def RunB (d : List Nat) (tl2 : List Blk) (sel : List K) (n : Nat) : Prop :=
  (∀ i, i < 6 → sel[i]? = some (hp0.key i)) ∧ chkB (blQ n tB) (blQ n tl2) sel [.ptr .z 0, .agg (instR d)] (.tup [.agg zA, .nili]) = true ∧
  runL (evFn Tryz.prog XC0 100000 28 [.ptr .z 0, .agg (instR d)] (hp0.ext (blQ n tB))) sel (blQ n tl2) = some (.tup [.agg zA, .nili], true, wantL sel (blQ n tl2))
theorem wN_keys {n : Nat} {k : K} (hk : k ∈ (wN n).keys) : k = K.z.o := by
  cases n with
  | zero => simp [wN, AV.keys] at hk
  | succ n => simpa [wN, AV.keys] using hk
end
end Go.Proofs
/- NodeHands: node a beside node b; copies of shards. -/


set_option linter.all false
set_option maxRecDepth 100000
namespace Go.Proofs
open Go Go.Ev
/-- where a list lies in a state -/
def arrI (bl : List Blk) (w : Nat) (v : AV) (xs : List (List AV)) : Prop := (v = .nils ∧ xs = []) ∨ ∃ k wr, v = .slice k 0 xs.length w false xs.length ∧ xs ≠ [] ∧ bl[k.toNat - 1]? = some (.row wr w xs) ∧ ∀ ρ, xs.map (AV.rens ρ) = xs
/-- one shard is there -/
structure HdIs (bl : List Blk) (s : Sh) : Prop where
  hold : bl[4]? = some (.row true 2 [[.slice K.z.i.i 0 1 8 false 1, .nils]])
  sh : bl[6]? = some (.row true 8 [s.enc])
  c : arrI bl 5 s.cv (s.cells.map Cell.enc)
  e : arrI bl 4 s.ev (s.evs.map Evn.enc)
  d : arrI bl 6 s.dv (s.done.map Dn.enc)
  small : smallS s
def Sh.rn (s : Sh) (ρ : K → K) : Sh := ⟨s.id, s.ep, s.fr, s.to, s.frz, s.cells, s.evs, s.done, s.cv.ren ρ, s.ev.ren ρ, s.dv.ren ρ⟩
section
variable {M G X : Heap} {kn ka kb kd kj kh km : K} {bl bl' : List Blk} {κ ks : List K} {s : Sh}
theorem arr_fit {w : Nat} {v : AV} {xs : List (List AV)} (hF : Fit G κ bl) (hok : G.ok) (h : arrI bl w v xs) : Arr G w (v.ren (rk κ .z)) xs := by
  rcases h with ⟨rfl, rfl⟩ | ⟨k, wr, rfl, hne, hb, hz⟩
  · exact .inl ⟨rfl, rfl⟩
  · have hi := (List.getElem?_eq_some_iff.1 hb).1
    have hk : κ[k.toNat - 1]? = some (κ[k.toNat - 1]'(by rw [hF.len]; exact hi)) := List.getElem?_eq_getElem _
    have hg := hF.blk _ _ _ hb hk trivial
    have hg : G.get (κ[k.toNat - 1]'(by rw [hF.len]; exact hi)) = some (.row wr w xs) := by
      rw [hg]
      show some (Blk.row wr w (xs.map (AV.rens (rk κ .z)))) = _
      rw [hz]
    refine .inr ⟨_, 0, false, xs.length, by rw [AV.ren, rk_some hk], hok _ _ hg, fun _ => ⟨0, wr, xs, by rw [Nat.zero_mul], hg, by rw [List.drop_zero, List.take_length]⟩⟩
theorem isHd_fit (hF : Fit G κ bl) (hok : G.ok) (h : HdIs bl s) : isHd G (rk κ .z K.z.o.i) (.slice (rk κ .z K.z.i.i) 0 1 8 false 1) .nils [s.rn (rk κ .z)] [] := by
  have g : ∀ {i : Nat} {b : Blk} (k : K), k.toNat - 1 = i → bl[i]? = some b → b.live → G.get (rk κ .z k) = some (b.ren (rk κ .z)) := fun {i b} k e hb hl => by
    have hi := (List.getElem?_eq_some_iff.1 hb).1
    have hk : κ[i]? = some (κ[i]'(by rw [hF.len]; exact hi)) := List.getElem?_eq_getElem _
    rw [rk_some (k := k) (by rw [e]; exact hk)]
    exact hF.blk i b _ hb hk hl
  have h1 := g K.z.o.i rfl h.hold trivial
  have h2 := g K.z.i.i rfl h.sh trivial
  have h2 : G.get (rk κ .z K.z.i.i) = some (.row true 8 [(s.rn (rk κ .z)).enc]) := by
    rw [h2]
    show some (Blk.row true 8 [AV.rens (rk κ .z) s.enc]) = _
    simp only [Sh.enc, Sh.rn, AV.rens, AV.ren]
  refine ⟨hok, h1, .inr ⟨_, 0, false, 1, rfl, hok _ _ h2, fun _ => ⟨0, true, _, rfl, h2, rfl⟩⟩, .inl ⟨rfl, rfl⟩, fun t ht => ?_, fun t ht => ?_, Nat.le_of_ble_eq_true rfl, Nat.le_of_ble_eq_true rfl⟩
  · rw [List.mem_singleton.1 ht]
    exact ⟨arr_fit hF hok h.c, arr_fit hF hok h.e, arr_fit hF hok h.d, bareL.ok h.small.b G, by have := h.small.c; show s.cells.length < _; omega, by have := h.small.e; show s.evs.length < _; omega, by have := h.small.d; show s.done.length < _; omega⟩
  · rw [List.mem_singleton.1 ht]
    exact ⟨h.small.b, h.small.c, h.small.e, h.small.d⟩
/-- a list is there while its block is -/
theorem arr_keep {w : Nat} {v : AV} {xs : List (List AV)} (h : Arr M w v xs) (hv : v = .nils ∨ xs ≠ []) (h8 : w ≠ 8) (h24 : w ≠ 24) (h2 : w ≠ 2) :
    ∃ ks, Oth M ks ∧ (∀ k ∈ ks, ∃ o n e x c, v = .slice k o n e x c) ∧ ∀ X : Heap, X.ok → Same ks M X → Arr X w v xs := by
  rcases h with ⟨rfl, rfl⟩ | ⟨k, off, ex, cap, rfl, hk, hx⟩
  · exact ⟨[], by simp [Oth], by simp, fun X _ _ => .inl ⟨rfl, rfl⟩⟩
  · rcases hv with e | hne
    · cases e
    · obtain ⟨r, wr, rows, e1, e2, e3⟩ := hx hne
      refine ⟨[k], fun j hj => ?_, fun j hj => ?_, fun X hX hS => ?_⟩
      · rw [List.mem_singleton.1 hj]; exact ⟨wr, w, rows, e2, fun e => absurd e h8, h24, h2⟩
      · rw [List.mem_singleton.1 hj]; exact ⟨_, _, _, _, _, rfl⟩
      · have g := hS k List.mem_cons_self _ e2
        exact .inr ⟨k, off, ex, cap, rfl, hX _ _ g, fun _ => ⟨r, wr, rows, e1, g, e3⟩⟩
theorem zV_slice {z : Bool} {k : K} {esz n : Nat} (h : n = 0 → z = true) : zV z k esz n = .nils ∨ n ≠ 0 := by
  cases n with
  | zero => rw [h rfl]; exact .inl rfl
  | succ n => exact .inr (by omega)
theorem zV_key {z : Bool} {k j : K} {esz n : Nat} (h : ∃ o m e x c, zV z k esz n = .slice j o m e x c) : j = k := by
  obtain ⟨o, m, e, x, c, h⟩ := h
  cases n with
  | zero => cases z <;> simp [zV] at h; exact h.1.symm
  | succ n => simp [zV] at h; exact h.1.symm
theorem arrI_nil {w : Nat} {v : AV} {xs : List (List AV)} {ρ : K → K} (h : arrI bl w v xs) : xs.length = 0 → nilB (v.ren ρ) = true := by
  rcases h with ⟨rfl, rfl⟩ | ⟨k, wr, rfl, hne, _⟩
  · intro _; rfl
  · intro e; exact absurd (List.length_eq_zero_iff.1 e) hne
/-- Get: a copy, held -/
theorem get_fit (hF : Fit G κ bl) (hok : G.ok) (h : HdIs bl s) (hid : s.id = 1) : FnOk Tryz.prog 15 [.ptr (rk κ .z K.z.o.i) 0, .int .i64 1] G fun r X => ∃ S : Sh, r = .tup [.agg S.enc, .bool true] ∧ sameSh S s ∧ (∃ L, X = G.ext L) ∧ ∃ ks, Oth X ks ∧ (∀ k ∈ ks, G.nx.toNat ≤ k.toNat) ∧ ∀ Y : Heap, Y.ok → Same ks X Y → S.ok Y := by
  have hH := isHd_fit hF hok h
  refine (f15_yes hH 1 (i := 0) (s := s.rn (rk κ .z)) (idx_one (decide_eq_true hid)) rfl).mono ?_
  rintro r X ⟨rfl, rfl⟩
  have hS := hH.each _ List.mem_cons_self
  have hc := Sh.cop_ok (L := copB (s.rn (rk κ .z))) (i := 0) (j := 1) (m := 2) hS rfl rfl rfl
  obtain ⟨k1, a1, b1, c1⟩ := arr_keep hc.c (by
    rcases zV_slice (k := G.key 0) (esz := 5) (arrI_nil (ρ := rk κ .z) h.c) with e | e
    · rw [List.length_map] at e; exact .inl e
    · exact .inr (List.ne_nil_of_length_pos (by show 0 < (s.cells.map Cell.enc).length; omega))) (by decide) (by decide) (by decide)
  obtain ⟨k2, a2, b2, c2⟩ := arr_keep hc.e (by
    rcases zV_slice (k := G.key 1) (esz := 4) (arrI_nil (ρ := rk κ .z) h.e) with e | e
    · rw [List.length_map] at e; exact .inl e
    · exact .inr (List.ne_nil_of_length_pos (by show 0 < (s.evs.map Evn.enc).length; omega))) (by decide) (by decide) (by decide)
  obtain ⟨k3, a3, b3, c3⟩ := arr_keep hc.d (by
    rcases zV_slice (k := G.key 2) (esz := 6) (arrI_nil (ρ := rk κ .z) h.d) with e | e
    · rw [List.length_map] at e; exact .inl e
    · exact .inr (List.ne_nil_of_length_pos (by show 0 < (s.done.map Dn.enc).length; omega))) (by decide) (by decide) (by decide)
  refine ⟨(s.rn (rk κ .z)).cop (G.key 0) (G.key 1) (G.key 2), rfl, ⟨rfl, rfl, rfl, rfl, rfl, rfl, rfl, rfl⟩, ⟨_, rfl⟩, k1 ++ (k2 ++ k3), ?_, ?_, ?_⟩
  · intro k hk
    rcases List.mem_append.1 hk with hk | hk
    · exact a1 k hk
    · rcases List.mem_append.1 hk with hk | hk
      · exact a2 k hk
      · exact a3 k hk
  · intro k hk
    rcases List.mem_append.1 hk with hk | hk
    · rw [zV_key (b1 k hk), Heap.toNat_key]; omega
    · rcases List.mem_append.1 hk with hk | hk
      · rw [zV_key (b2 k hk), Heap.toNat_key]; omega
      · rw [zV_key (b3 k hk), Heap.toNat_key]; omega
  · intro Y hY hYS
    exact ⟨c1 Y hY fun k hk => hYS k (List.mem_append_left _ hk), c2 Y hY fun k hk => hYS k (List.mem_append_right _ (List.mem_append_left _ hk)), c3 Y hY fun k hk => hYS k (List.mem_append_right _ (List.mem_append_right _ hk)), bareL.ok h.small.b Y, hc.cl, hc.el, hc.dl⟩
/-! ### node a -/
theorem run_held0 {Y : Orc} (hY : GoodX Tryz.prog Y) {n : Nat} {f : FuncId} {args : List AV} {sel : List K} {v1 : AV} (hc : chkB bl bl' sel args v1 = true)
    (hr : runL (evFn Tryz.prog Y n f args (hp0.ext bl)) sel bl' = some (v1.ren (rk sel .z), true, wantL sel bl')) (hF : Fit M κ bl) (hl : ∀ k ∈ ks, k.toNat < M.nx.toNat) (ha : Away ks κ) :
    FnOk Tryz.prog f (AV.rens (rk κ .z) args) M fun v G => ∃ κ', v = v1.ren (rk κ' .z) ∧ Framed M κ bl sel bl' G κ' ∧ Same ks M G ∧ Away ks κ' := by
  refine (FnOk.run hY hc hr hF).mono ?_
  rintro v G ⟨κ', hv, hX⟩
  refine ⟨κ', hv, hX, fun k hk b hb => hX.keep k b hb fun i c _ _ h3 => ha k hk (List.mem_of_getElem? h3), fun k hk hm => ?_⟩
  have := hl k hk
  rcases hX.src k hm with h | h
  · exact ha k hk h
  · omega
def AN (bl : List Blk) (M : Heap) (ka : K) (ks : List K) : Prop := M.ok ∧ (∀ k ∈ ks, k.toNat < M.nx.toNat) ∧ ∃ κ, Fit M κ bl ∧ κ[0]? = some ka ∧ Away ks κ
theorem AN.ext (h : AN bl M ka ks) (L : List Blk) : AN bl (M.ext L) ka ks := by
  obtain ⟨hok, hl, κ, hF, h0, ha⟩ := h
  exact ⟨Heap.ok_ext hok L, fun k hk => Nat.lt_of_lt_of_le (hl k hk) (by rw [Heap.nx_ext, Heap.toNat_key]; exact Nat.le_add_right _ _), κ, hF.ext hok L, h0, ha⟩
theorem step_AN {f : FuncId} {a : List AV} {sel : List K} {v1 : AV} (hz : ∀ ρ, AV.rens ρ a = a) (h0 : sel[0]? = some .z) (hl0 : 0 < bl.length) (hc : chkB bl bl' sel (.ptr .z 0 :: a) v1 = true)
    (hr : runL (evFn Tryz.prog XC0 100000 f (.ptr .z 0 :: a) (hp0.ext bl)) sel bl' = some (v1.ren (rk sel .z), true, wantL sel bl')) (h : AN bl M ka ks) :
    FnOk Tryz.prog f (.ptr ka 0 :: a) M fun r G => (∃ ρ : K → K, r = v1.ren ρ) ∧ AN bl' G ka ks ∧ Same ks M G := by
  obtain ⟨hok, hl, κ, hF, h1, ha⟩ := h
  have := run_held0 good_XC0 hc hr hF hl ha
  have e : AV.rens (rk κ .z) (.ptr .z 0 :: a) = .ptr ka 0 :: a := by rw [AV.rens, hz, AV.ren, rk_some (k := .z) h1]
  rw [e] at this
  refine this.mono ?_
  rintro v G ⟨κ', hv, hX, hS, hA⟩
  exact ⟨⟨_, hv⟩, ⟨hX.ok, fun k hk => Nat.lt_of_lt_of_le (hl k hk) hX.nx, κ', hX.fit, (hX.stay 0 _ h0 (by show 1 ≤ _; omega)).trans h1, hA⟩, hS⟩
/-- pieces handed -/
theorem hand_AN {ps : List (List Nat)} {k0 : K} (hc : chkB bl [.row true 1 (ps.map fun p => [.str p])] [k0] [.ptr .z 0, .int .i64 1, .int .i64 1] (.tup [.slice .z 0 ps.length 1 false ps.length, .bool true]) = true)
    (hr : runL (evFn Tryz.prog XC0 100000 16 [.ptr .z 0, .int .i64 1, .int .i64 1] (hp0.ext bl)) [k0] [.row true 1 (ps.map fun p => [.str p])] = some ((AV.tup [.slice .z 0 ps.length 1 false ps.length, .bool true]).ren (rk [k0] .z), true, wantL [k0] [.row true 1 (ps.map fun p => [.str p])])) (h : AN bl M ka ks) :
    FnOk Tryz.prog 16 [.ptr ka 0, .int .i64 1, .int .i64 1] M fun r G => ∃ kp, r = .tup [.slice kp 0 ps.length 1 false ps.length, .bool true] ∧ G.get kp = some (.row true 1 (ps.map fun p => [.str p])) ∧ G.ok ∧ Same ks M G := by
  obtain ⟨hok, hl, κ, hF, h1, ha⟩ := h
  have := run_held0 good_XC0 hc hr hF hl ha
  have e : AV.rens (rk κ .z) [.ptr .z 0, .int .i64 1, .int .i64 1] = [.ptr ka 0, .int .i64 1, .int .i64 1] := by simp only [AV.rens, AV.ren, rk_some (k := .z) h1]
  rw [e] at this
  refine this.mono ?_
  rintro v G ⟨κ', hv, hX, hS, hA⟩
  have hl : κ'.length = 1 := hX.fit.len
  have hk : κ'[0]? = some (κ'[0]'(by omega)) := List.getElem?_eq_getElem _
  refine ⟨κ'[0]'(by omega), ?_, ?_, hX.ok, hS⟩
  · rw [hv]; simp only [AV.ren, AV.rens, rk_some (k := .z) hk]
  · rw [hX.fit.blk 0 _ _ rfl hk trivial]
    show some (Blk.row true 1 ((ps.map fun p => [AV.str p]).map (AV.rens _))) = _
    rw [List.map_map]
    exact congrArg (fun l => some (Blk.row true 1 l)) (List.map_congr_left fun p _ => by simp only [Function.comp, AV.rens, AV.ren])
/-! ### both new -/
def blB : List Blk := [.row true 8 [[.int .i64 0, .ptr K.z.o 0, .ptr K.z.i 0, .ptr K.z.o.o 0, .nils, .int .i64 0, .int .i64 0, .map K.z.o.i]], dB, .row true 2 [[.ptr K.z.o 0, .int .i64 1]], hB, .map []]
def selNB : List K := [K.z.o.o, K.z, K.z.i.o, K.z.o, K.z.i]
theorem rNB : chkB [] blB selNB [.int .i64 0, .nils] (.ptr K.z 0) = true ∧ runL (evFn Tryz.prog XC0 100000 9 [.int .i64 0, .nils] (hp0.ext [])) selNB blB = some ((AV.ptr K.z 0).ren (rk selNB .z), true, wantL selNB blB) := ⟨by kernel_rfl, by kernel_rfl⟩
theorem new_AB (h : AN bl M ka []) : FnOk Tryz.prog 9 [.int .i64 0, .nils] M fun r G => ∃ kb kd kj kh, r = .ptr kb 0 ∧ B0 G kb kd kj kh ∧ AN bl G ka [kb, kd, kj, kh] := by
  obtain ⟨hok, -, κa, hFa, ha0, -⟩ := h
  have hF : Fit M [] [] := ⟨rfl, List.nodup_nil, by simp, by simp, by simp⟩
  have := FnOk.run good_XC0 rNB.1 rNB.2 hF
  refine this.mono ?_
  rintro v G ⟨κ, hv, hX⟩
  have hl : κ.length = 5 := hX.fit.len
  obtain ⟨kb, kd, kj, kh, km, rfl⟩ : ∃ a b c d e, κ = [a, b, c, d, e] := by
    rcases κ with _ | ⟨a, _ | ⟨b, _ | ⟨c, _ | ⟨d, _ | ⟨e, _ | ⟨f, l⟩⟩⟩⟩⟩⟩ <;> first | (simp at hl; done) | exact ⟨_, _, _, _, _, rfl⟩
  have g0 := hX.fit.blk 0 _ _ rfl rfl trivial
  have g1 := hX.fit.blk 1 _ _ rfl rfl trivial
  have g2 := hX.fit.blk 2 _ _ rfl rfl trivial
  have g3 := hX.fit.blk 3 _ _ rfl rfl trivial
  have hkeep : ∀ k b, M.get k = some b → G.get k = some b := fun k b hk => hX.keep k b hk fun i c h1 _ => by cases h1
  refine ⟨kb, kd, kj, kh, by rw [hv]; rfl, ⟨⟨hX.ok, g1, g2, g3⟩, .map km, g0⟩, hX.ok, fun k hk => ?_, κa, hFa.keep hX.nx fun i b k c _ _ _ hc => hkeep k c hc, ha0, fun k hk hm => ?_⟩
  · refine hX.fit.old k ?_
    simp only [List.mem_cons, List.not_mem_nil, or_false] at hk ⊢
    rcases hk with rfl | rfl | rfl | rfl <;> simp
  · have h1 : k ∈ [kb, kd, kj, kh, km] := by
      simp only [List.mem_cons, List.not_mem_nil, or_false] at hk ⊢
      rcases hk with rfl | rfl | rfl | rfl <;> simp
    have := hFa.old k hm
    rcases hX.src k h1 with h | h
    · cases h
    · omega
theorem B0.same {kd kj kh : K} (h : B0 M kb kd kj kh) (hS : Same ks M G) (hG : G.ok) (h1 : kb ∈ ks) (h2 : kd ∈ ks) (h3 : kj ∈ ks) (h4 : kh ∈ ks) : B0 G kb kd kj kh := by
  obtain ⟨x7, hr⟩ := h.row
  exact ⟨⟨hG, hS _ h2 _ h.d, hS _ h3 _ h.j, hS _ h4 _ h.h⟩, x7, hS _ h1 _ hr⟩
/-! ### pieces that are pushed -/
/-- what pushes leave alone -/
def okp : Blk → Prop
  | .row _ w rows => (w = 8 → ∃ s : Sh, rows = [s.enc]) ∧ (w = 24 → ∃ l, rows = [l] ∧ ∀ j, l ≠ pushedL j)
  | _ => False
theorem okp_okb {ws : List (List AV)} (hw : ∀ x ∈ ws, ∃ j, x = pushedL j) {b : Blk} (h : okp b) : okb ws b := by
  cases b with
  | dead => exact h
  | map es => exact h
  | row wr w rows =>
    refine ⟨h.1, fun e he => ?_⟩
    obtain ⟨l, h1, h2⟩ := h.2 e
    obtain ⟨j, hj⟩ := hw l (by rw [← he, h1]; simp)
    exact h2 j hj
theorem findM_one (j : Int) (d : List Nat) : findM [(j, d)] j = some d := by
  have : ∀ q, findM [(j, d)] q = if q = j then some d else none := fun q => findM_ins j q d []
  rw [this, if_pos rfl]
end
end Go.Proofs
/- Runs that are told by one Bool; NodeHands: its states. -/

set_option linter.all false
set_option maxRecDepth 100000
namespace Go.Proofs
open Go Go.Ev
/-! ### all of a memory reckoned first -/
noncomputable def fAV {β : Type} (v : AV) (c : AV → β) : β := match v with
  | .int k n => fI n fun n => c (.int k n)
  | .str l => fLN l fun l => c (.str l)
  | .slice k o n e x p => fN n fun n => fN p fun p => c (.slice k o n e x p)
  | v => c v
theorem fAV_eq {β : Type} (v : AV) (c : AV → β) : fAV v c = c v := by
  cases v <;> simp only [fAV, fI_eq, fLN_eq, fN_eq]
noncomputable def fAVs {β : Type} (l : List AV) : (List AV → β) → β := List.rec (motive := fun _ => (List AV → β) → β) (fun c => c []) (fun v _ ih c => fAV v fun v => ih fun l => c (v :: l)) l
theorem fAVs_eq {β : Type} : ∀ (l : List AV) (c : List AV → β), fAVs l c = c l
  | [], c => rfl
  | v :: l, c => by
    show fAV v (fun v => fAVs l fun l => c (v :: l)) = _
    rw [fAV_eq, fAVs_eq l]
noncomputable def fRows {β : Type} (l : List (List AV)) : (List (List AV) → β) → β := List.rec (motive := fun _ => (List (List AV) → β) → β) (fun c => c []) (fun v _ ih c => fAVs v fun v => ih fun l => c (v :: l)) l
theorem fRows_eq {β : Type} : ∀ (l : List (List AV)) (c : List (List AV) → β), fRows l c = c l
  | [], c => rfl
  | v :: l, c => by
    show fAVs v (fun v => fRows l fun l => c (v :: l)) = _
    rw [fAVs_eq, fRows_eq l]
noncomputable def fBlk {β : Type} (b : Blk) (c : Blk → β) : β := match b with
  | .row w e rows => fRows rows fun r => c (.row w e r)
  | b => c b
theorem fBlk_eq {β : Type} (b : Blk) (c : Blk → β) : fBlk b c = c b := by
  cases b <;> simp only [fBlk, fRows_eq]
noncomputable def fBlks {β : Type} (l : List Blk) : (List Blk → β) → β := List.rec (motive := fun _ => (List Blk → β) → β) (fun c => c []) (fun v _ ih c => fBlk v fun v => ih fun l => c (v :: l)) l
theorem fBlks_eq {β : Type} : ∀ (l : List Blk) (c : List Blk → β), fBlks l c = c l
  | [], c => rfl
  | v :: l, c => by
    show fBlk v (fun v => fBlks l fun l => c (v :: l)) = _
    rw [fBlk_eq, fBlks_eq l]
noncomputable def fK {β : Type} (k : K) : (K → β) → β := K.rec (motive := fun _ => (K → β) → β) (fun c => c .z) (fun _ ih c => ih fun k => c k.o) (fun _ ih c => ih fun k => c k.i) k
theorem fK_eq {β : Type} : ∀ (k : K) (c : K → β), fK k c = c k
  | .z, c => rfl
  | .o k, c => by
    show fK k (fun k => c k.o) = _
    rw [fK_eq k]
  | .i k, c => by
    show fK k (fun k => c k.i) = _
    rw [fK_eq k]
noncomputable def fKs {β : Type} (l : List K) : (List K → β) → β := List.rec (motive := fun _ => (List K → β) → β) (fun c => c []) (fun v _ ih c => fK v fun v => ih fun l => c (v :: l)) l
theorem fKs_eq {β : Type} : ∀ (l : List K) (c : List K → β), fKs l c = c l
  | [], c => rfl
  | v :: l, c => by
    show fK v (fun v => fKs l fun l => c (v :: l)) = _
    rw [fK_eq, fKs_eq l]
/-! ### alike -/
noncomputable def eqRows (a : List (List AV)) : List (List AV) → Bool := List.rec (motive := fun _ => List (List AV) → Bool) (fun b => List.rec (motive := fun _ => Bool) true (fun _ _ _ => false) b) (fun x _ ih b => List.rec (motive := fun _ => Bool) false (fun y r _ => an2 (eqAV (.agg x) (.agg y)) (ih r)) b) a
theorem eqRows_t : ∀ {a b : List (List AV)}, eqRows a b = true → a = b
  | [], [], _ => rfl
  | [], _ :: _, h => by cases h
  | _ :: _, [], h => by cases h
  | x :: a, y :: b, h => by
    obtain ⟨h1, h2⟩ := an2_t (h : an2 (eqAV (.agg x) (.agg y)) (eqRows a b) = true)
    have h1 := eqAV_eq h1
    injection h1 with h1
    rw [h1, eqRows_t h2]
noncomputable def eqOB (a b : Option Blk) : Bool := match a, b with
  | none, none => true
  | some (.row w e r), some (.row w' e' r') => an2 (eqBo w w') (an2 (Nat.beq e e') (eqRows r r'))
  | some (.map []), some (.map []) => true
  | _, _ => false
theorem eqOB_t {a b : Option Blk} (h : eqOB a b = true) : a = b := by
  unfold eqOB at h
  split at h
  · rfl
  · obtain ⟨h1, h⟩ := an2_t h
    obtain ⟨h2, h3⟩ := an2_t h
    rw [eqBo_t h1, Nat.eq_of_beq_eq_true h2, eqRows_t h3]
  · rfl
  · cases h
noncomputable def eqOBs (a : List (Option Blk)) : List (Option Blk) → Bool := List.rec (motive := fun _ => List (Option Blk) → Bool) (fun b => List.rec (motive := fun _ => Bool) true (fun _ _ _ => false) b) (fun x _ ih b => List.rec (motive := fun _ => Bool) false (fun y r _ => an2 (eqOB x y) (ih r)) b) a
theorem eqOBs_t : ∀ {a b : List (Option Blk)}, eqOBs a b = true → a = b
  | [], [], _ => rfl
  | [], _ :: _, h => by cases h
  | _ :: _, [], h => by cases h
  | x :: a, y :: b, h => by
    obtain ⟨h1, h2⟩ := an2_t (h : an2 (eqOB x y) (eqOBs a b) = true)
    rw [eqOB_t h1, eqOBs_t h2]
noncomputable def eqRun (r : Option (AV × Bool × List (Option Blk))) (v : AV) (w : List (Option Blk)) : Bool := match r with
  | some (x, b, l) => an2 (eqAV x v) (an2 b (eqOBs l w))
  | none => false
theorem eqRun_t {r : Option (AV × Bool × List (Option Blk))} {v : AV} {w : List (Option Blk)} (h : eqRun r v w = true) : r = some (v, true, w) := by
  unfold eqRun at h
  split at h
  · obtain ⟨h1, h⟩ := an2_t h
    obtain ⟨h2, h3⟩ := an2_t h
    rw [eqAV_eq h1, h2, eqOBs_t h3]
  · cases h
/-- a run, told by one Bool -/
noncomputable def runB (f : FuncId) (args : List AV) (bl bl' : List Blk) (sel : List K) (v1 : AV) : Bool :=
  fBlks bl fun bl => fBlks bl' fun bl' => fAVs args fun args => fKs sel fun sel => an2 (chkB bl bl' sel args v1) (eqRun (runL (evFn Tryz.prog XC0 100000 f args (hp0.ext bl)) sel bl') (v1.ren (rk sel .z)) (wantL sel bl'))
theorem runB_t {f : FuncId} {args : List AV} {bl bl' : List Blk} {sel : List K} {v1 : AV} (h : runB f args bl bl' sel v1 = true) :
    chkB bl bl' sel args v1 = true ∧ runL (evFn Tryz.prog XC0 100000 f args (hp0.ext bl)) sel bl' = some (v1.ren (rk sel .z), true, wantL sel bl') := by
  unfold runB at h
  rw [fBlks_eq, fBlks_eq, fAVs_eq, fKs_eq] at h
  obtain ⟨h1, h2⟩ := an2_t h
  exact ⟨h1, eqRun_t h2⟩
/-! ### names by numbers -/
noncomputable def kOf (n : Nat) : K := Nat.rec (motive := fun _ => Nat → K) (fun _ => .z) (fun _ ih n => bif' (Nat.ble n 1) .z (bif' (Nat.beq (n % 2) 0) (ih (n / 2)).o (ih (n / 2)).i)) 20 n
noncomputable def kL (l : List Nat) : List K := l.map kOf
/-! ### what is at node a behind c puts -/
def iv (n : Nat) : AV := .int .i64 (n : Int)
def cellsH (c : Nat) : List Cell := (List.range (min c 9)).map fun (k : Nat) => ⟨[97 + k], [118], (((c + 8 - k) / 9 : Nat) : Int), false, (((c - 24 + 8 - k) / 9 : Nat) : Int)⟩
def evsH (c : Nat) : List Evn := (List.range (min c 24)).map fun (j : Nat) => ⟨[97 + (c - min c 24 + j) % 9], (((c - min c 24 + j) / 9 + 1 : Nat) : Int), [118], false⟩
def doneH (c : Nat) : List Dn := (List.range (min c 3)).map fun (s : Nat) => ⟨(s : Int), (((c + 2 - s) / 3 : Nat) : Int), ⟨0, [], (((s + 3 * ((c + 2 - s) / 3 - 1)) / 9 + 1 : Nat) : Int), [], .nils⟩⟩
def lsV (k : K) (w n : Nat) : AV := match n with
  | 0 => .nils
  | n + 1 => .slice k 0 (n + 1) w false (n + 1)
/-- the shard, its lists in the eighth to tenth block -/
def sH (ep : Int) (c : Nat) : Sh := ⟨1, ep, [], [], false, cellsH c, evsH c, doneH c, lsV K.z.o.o.o 5 (min c 9), lsV K.z.o.o.i 4 (min c 24), lsV K.z.o.i.o 6 (min c 3)⟩
/-- its bytes on a disk -/
noncomputable def recA (i : Nat) : List Nat := wrapF [2, i % 3, i / 3 + 1, 0, 0, 0, 2, 1, 97 + i % 9, 0, 1, 118, 0, 0, 0, 0, 0, 0]
noncomputable def diskA (c : Nat) : List Nat := [47, 152, 82, 102, 24, 1, 0, 0, 0, 0, 0, 0, 0, 1, 13, 113, 135, 31, 170, 8, 1, 1, 0, 0, 0, 0, 0, 0, 0] ++ catF recA (List.range c)
/-- what was said to puts -/
def saidH (i : Nat) : List AV := [.int .i64 2, .int .i64 0, iv (200 + i % 3), iv (i / 3 + 1), .int .i64 0, .int .i64 0, .int .i64 0, .int .i64 0, .int .i64 0, .str [], .str [], .str [], .int .i64 0, .nils, .int .i64 0, .str [], iv (i / 9 + 1), .nils, .str [], .str [], .nils, .nils, .nils, .str []]
def wH (c : Nat) : Blk := match c with
  | 0 => .dead
  | n + 1 => .row true 24 ((List.range (n + 1)).map saidH)
def rowH (w : Nat) (n : Nat) (l : List (List AV)) : List Blk := match n with
  | 0 => []
  | _ + 1 => [.row true w l]
/-- the shard's blocks -/
def shbH (ep : Int) (c : Nat) : List Blk := .row true 8 [(sH ep c).enc] :: (rowH 5 c ((cellsH c).map Cell.enc) ++ (rowH 4 c ((evsH c).map Evn.enc) ++ rowH 6 c ((doneH c).map Dn.enc)))
def hold1 : Blk := .row true 2 [[.slice K.z.i.i 0 1 8 false 1, .nils]]
def jrn (n : Nat) : Blk := .row true 2 [[.ptr K.z.i 0, iv n]]
noncomputable def blH (c : Nat) : List Blk := nB (wN c) :: wH c :: .row true 2 [[.str (diskA c), iv (23 * c)]] :: jrn (c + 1) :: hold1 :: .map [] :: shbH 1 c
noncomputable def blY (c : Nat) : List Blk := nB .nils :: .dead :: .row true 2 [[.str (diskA c), .int .i64 0]] :: jrn (c + 1) :: hold1 :: .map [] :: shbH 1 c
/-- the puts -/
def askK (s : Nat) (id : Nat) (key val : List Nat) : List AV := [.int .i64 1, iv (200 + s), .int .i64 0, iv id, .int .i64 0, .int .i64 0, .int .i64 0, .int .i64 0, .int .i64 2, .str key, .str [], .str val, .int .i64 0, .nils, .int .i64 0, .str [], .int .i64 0, .nils, .str [], .str [], .nils, .nils, .nils, .str []]
def askH (i : Nat) : List AV := askK (i % 3) (i / 3 + 1) [97 + i % 9] [118]
/-- the pieces -/
noncomputable def chunk (k : Nat) : List Nat → List (List Nat) := Nat.rec (motive := fun _ => List Nat → List (List Nat)) (fun _ => []) (fun _ ih l => bif' (Nat.ble l.length 64) [l] (l.take 64 :: ih (l.drop 64))) k
noncomputable def pH (c : Nat) : List (List Nat) := chunk 6 (wrapF (imgF { sH 1 c with frz := true }))
/-- node b -/
noncomputable def recB (c : Nat) : List Nat := wrapF ([5, 1, 2, 0, 0, 0, 0] ++ (textF (pH c).flatten ++ [0, 0]))
def hdB : List Nat := [188, 137, 117, 78, 10, 1, 0, 0, 0, 0, 0, 0, 0, 0, 0]
noncomputable def tR (c : Nat) : List Blk := .row true 2 [[.str (hdB ++ recB c), iv (recB c).length]] :: jrn 2 :: hold1 :: .dead :: shbH 2 c
noncomputable def tT (c : Nat) : List Blk := .row true 2 [[.str (hdB ++ recB c), .int .i64 0]] :: jrn 2 :: hold1 :: .dead :: shbH 2 c
end Go.Proofs
/- NodeHands: names; what is to be reckoned. Printed by a program. -/

set_option linter.all false
set_option maxRecDepth 100000
namespace Go.Proofs
open Go Go.Ev
/-- names of what is new -/
def yP : Nat → List Nat
  | 0 => [1, 253, 3, 4, 5, 6, 244, 230, 232, 240]
  | 1 => [1, 310, 3, 4, 5, 6, 301, 285, 287, 297]
  | 2 => [1, 316, 3, 4, 5, 6, 307, 291, 293, 303]
  | 3 => [1, 316, 3, 4, 5, 6, 307, 293, 295, 303]
  | 4 => [1, 319, 3, 4, 5, 6, 310, 296, 298, 306]
  | 5 => [1, 322, 3, 4, 5, 6, 313, 299, 301, 309]
  | 6 => [1, 325, 3, 4, 5, 6, 316, 302, 304, 312]
  | 7 => [1, 328, 3, 4, 5, 6, 319, 305, 307, 315]
  | 8 => [1, 331, 3, 4, 5, 6, 322, 308, 310, 318]
  | 9 => [1, 304, 3, 4, 5, 6, 295, 281, 283, 291]
  | 10 => [1, 307, 3, 4, 5, 6, 298, 284, 286, 294]
  | 11 => [1, 310, 3, 4, 5, 6, 301, 287, 289, 297]
  | 12 => [1, 313, 3, 4, 5, 6, 304, 290, 292, 300]
  | 13 => [1, 316, 3, 4, 5, 6, 307, 293, 295, 303]
  | 14 => [1, 319, 3, 4, 5, 6, 310, 296, 298, 306]
  | 15 => [1, 322, 3, 4, 5, 6, 313, 299, 301, 309]
  | 16 => [1, 325, 3, 4, 5, 6, 316, 302, 304, 312]
  | 17 => [1, 328, 3, 4, 5, 6, 319, 305, 307, 315]
  | 18 => [1, 304, 3, 4, 5, 6, 295, 281, 283, 291]
  | 19 => [1, 307, 3, 4, 5, 6, 298, 284, 286, 294]
  | 20 => [1, 310, 3, 4, 5, 6, 301, 287, 289, 297]
  | 21 => [1, 313, 3, 4, 5, 6, 304, 290, 292, 300]
  | 22 => [1, 316, 3, 4, 5, 6, 307, 293, 295, 303]
  | 23 => [1, 319, 3, 4, 5, 6, 310, 296, 298, 306]
  | 24 => [1, 325, 3, 4, 5, 6, 316, 301, 304, 312]
  | 25 => [1, 328, 3, 4, 5, 6, 319, 304, 307, 315]
  | 26 => [1, 331, 3, 4, 5, 6, 322, 307, 310, 318]
  | 27 => [1, 307, 3, 4, 5, 6, 298, 283, 286, 294]
  | _ => [1, 310, 3, 4, 5, 6, 301, 286, 289, 297]
def yH : Nat → List Nat
  | 0 => [147]
  | 1 => [186]
  | 2 => [186]
  | 3 => [234]
  | 4 => [234]
  | 5 => [234]
  | 6 => [234]
  | 7 => [234]
  | 8 => [286]
  | 9 => [286]
  | 10 => [286]
  | 11 => [286]
  | 12 => [286]
  | 13 => [286]
  | 14 => [286]
  | 15 => [286]
  | 16 => [286]
  | 17 => [342]
  | 18 => [342]
  | 19 => [342]
  | 20 => [342]
  | 21 => [342]
  | 22 => [342]
  | 23 => [342]
  | 24 => [342]
  | 25 => [342]
  | 26 => [342]
  | 27 => [342]
  | 28 => [342]
  | _ => [342]
def yR : Nat → List Nat
  | 0 => [62]
  | 1 => [84, 70, 72, 79]
  | 2 => [106, 83, 87, 101]
  | 3 => [128, 96, 102, 123]
  | 4 => [136, 102, 110, 131]
  | 5 => [144, 108, 118, 139]
  | 6 => [152, 114, 126, 147]
  | 7 => [160, 120, 134, 155]
  | 8 => [168, 126, 142, 163]
  | 9 => [176, 132, 150, 171]
  | 10 => [180, 134, 154, 175]
  | 11 => [184, 136, 158, 179]
  | 12 => [188, 138, 162, 183]
  | 13 => [192, 140, 166, 187]
  | 14 => [196, 142, 170, 191]
  | 15 => [200, 144, 174, 195]
  | 16 => [204, 146, 178, 199]
  | 17 => [208, 148, 182, 203]
  | 18 => [212, 150, 186, 207]
  | 19 => [216, 152, 190, 211]
  | 20 => [220, 154, 194, 215]
  | 21 => [224, 156, 198, 219]
  | 22 => [228, 158, 202, 223]
  | 23 => [232, 160, 206, 227]
  | 24 => [236, 162, 210, 231]
  | 25 => [236, 162, 210, 231]
  | 26 => [236, 162, 210, 231]
  | 27 => [236, 162, 210, 231]
  | 28 => [236, 162, 210, 231]
  | _ => [236, 162, 210, 231]
noncomputable def yA (c : Nat) : List Nat := (List.range (blY c).length).map fun i => i + 1
noncomputable def putR (c : Nat) : Bool := runB 10 [.ptr .z 0, .agg (askH c)] (blH c) (blH (c + 1)) (kL (yP c)) (.tup [])
noncomputable def synR (c : Nat) : Bool := runB 13 [.ptr .z 0] (blH c) (blY c) (kL (yA c)) (lsV K.z.o 24 c)
noncomputable def hanR (c : Nat) : Bool := runB 16 [.ptr .z 0, .int .i64 1, .int .i64 1] (blY c) [.row true 1 ((pH c).map fun p => [.str p])] (kL (yH c)) (.tup [.slice .z 0 (pH c).length 1 false (pH c).length, .bool true])
noncomputable def kB (l : List Nat) : List K := [K.z, K.z.o, K.z.i, K.z.o.o, K.z.o.i, K.z.i.o] ++ kL l
theorem kB_ok (l : List Nat) : ∀ i, i < 6 → (kB l)[i]? = some (hp0.key i)
  | 0, _ => rfl
  | 1, _ => rfl
  | 2, _ => rfl
  | 3, _ => rfl
  | 4, _ => rfl
  | 5, _ => rfl
  | n + 6, h => absurd h (by omega)
/-- a run in which a number stands open: its answer and its first block are told by themselves -/
noncomputable def pickRun (r : Option (AV × Bool × List (Option Blk))) (w : List (Option Blk)) : AV × Option (Option Blk) × Bool := match r with
  | some (x, b, o :: l) => (x, some o, an2 b (eqOBs l w))
  | _ => (.nils, none, false)
def RunD (f : FuncId) (args : List AV) (bl bl' : List Blk) (sel : List K) (v1 : AV) : Prop :=
  (fBlks bl fun b => fBlks bl' fun b' => fAVs args fun a => fKs sel fun s => chkB b b' s a v1) = true ∧
  (fBlks bl fun b => fBlks bl' fun b' => fAVs args fun a => fKs sel fun s => pickRun (runL (evFn Tryz.prog XC0 100000 f a (hp0.ext b)) s b') (wantL s b').tail) = (v1.ren (rk sel .z), (wantL sel bl').head?, true)
theorem RunD.ok {f : FuncId} {args : List AV} {bl bl' : List Blk} {sel : List K} {v1 : AV} (h : RunD f args bl bl' sel v1) :
    chkB bl bl' sel args v1 = true ∧ runL (evFn Tryz.prog XC0 100000 f args (hp0.ext bl)) sel bl' = some (v1.ren (rk sel .z), true, wantL sel bl') := by
  obtain ⟨h1, h2⟩ := h
  rw [fBlks_eq, fBlks_eq, fAVs_eq, fKs_eq] at h1 h2
  refine ⟨h1, ?_⟩
  unfold pickRun at h2
  split at h2
  · rename_i x b o l he
    rw [he]
    simp only [Prod.mk.injEq] at h2
    obtain ⟨rfl, q2, q3⟩ := h2
    obtain ⟨rfl, q4⟩ := an2_t q3
    have q4 := eqOBs_t q4
    cases hw : wantL sel bl' with
    | nil => rw [hw] at q2; cases q2
    | cons y w =>
      rw [hw] at q2 q4
      cases q2
      rw [q4]; rfl
  · simp only [Prod.mk.injEq] at h2
    exact absurd h2.2.2 (by decide)
end Go.Proofs
