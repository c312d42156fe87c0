/- a number taken of bytes: walked. -/
import Derived.Test.YtkhaejbkdgbjcaaGreatDoorZ17
import Derived.Test.YtkhaejbkdgbjcaaGreatDoorProg
import Derived.KernelRfl
set_option linter.all false
set_option linter.all false
set_option maxRecDepth 100000
namespace Go.Proofs
open Go Go.Ev
variable {H : Heap}

theorem and63u {b : Nat} (h : b < 256) : IntKind.u8.wrap ((BitVec.ofInt IntKind.u8.bits (b : Int) &&& BitVec.ofInt IntKind.u8.bits 63).toNat : Int) = ((b % 64 : Nat) : Int) := by
  have h1 : (BitVec.ofInt IntKind.u8.bits (b : Int) &&& BitVec.ofInt IntKind.u8.bits 63).toNat = b % 64 := by
    rw [BitVec.toNat_and, BitVec.toNat_ofInt, BitVec.toNat_ofInt]
    show ((b : Int) % ((2 ^ 8 : Nat) : Int)).toNat &&& ((63 : Int) % ((2 ^ 8 : Nat) : Int)).toNat = _
    rw [show ((b : Int) % ((2 ^ 8 : Nat) : Int)).toNat = b by omega, show ((63 : Int) % ((2 ^ 8 : Nat) : Int)).toNat = 2 ^ 6 - 1 by decide, Nat.and_two_pow_sub_one_eq_mod]
  rw [h1]
  exact wrap_u8 (by omega)
theorem bin_and63u {β : Type} (ek : EK) (pk : Option (List LK)) (lit : Bool) {b : Nat} (h : b < 256) (f : β) (c : AV → β) : binV Tryz.prog ek pk lit .and (.int .u8 (b : Int)) (.int .u8 63) f c = c (.int .u8 ((b % 64 : Nat) : Int)) := by rw [bin_and, and63u h]
theorem pow64_le {i : Nat} (hi : i < 8) : 64 ^ i ≤ 4398046511104 := by
  have : 64 ^ i ≤ 64 ^ 7 := Nat.pow_le_pow_right (by decide) (by omega)
  simpa using this
theorem mul_lt64 {r p : Nat} (hr : r < 64) (hp : p ≤ 4398046511104) : r * p < 281474976710656 := by
  have h1 : r * p ≤ 63 * p := Nat.mul_le_mul_right p (by omega)
  omega
theorem pow64 (i : Nat) : 64 ^ i = 2 ^ (6 * i) := by rw [Nat.pow_mul]
theorem bin_shl64 {β : Type} (ek : EK) (pk : Option (List LK)) (lit : Bool) {r i : Nat} (hr : r < 64) (hi : i < 8) (f : β) (c : AV → β) : binV Tryz.prog ek pk lit .shl (.int .i64 (r : Int)) (.int .i64 ((6 * i : Nat) : Int)) f c = c (.int .i64 ((r * 64 ^ i : Nat) : Int)) := by
  have hb : min (6 * i) IntKind.i64.bits = 6 * i := Nat.min_eq_left (by show 6 * i ≤ 64; omega)
  have h2 : (r : Int) * 2 ^ (6 * i) = ((r * 64 ^ i : Nat) : Int) := by rw [pow64]; push_cast; rfl
  have h3 := mul_lt64 hr (pow64_le hi)
  rw [bin_shl, hb, h2, wrap_i64 (by omega) (by omega)]
theorem bin_or64n {β : Type} (ek : EK) (pk : Option (List LK)) (lit : Bool) {a r i : Nat} (ha : a < 64 ^ i) (hr : r < 64) (hi : i < 8) (f : β) (c : AV → β) : binV Tryz.prog ek pk lit .or (.int .i64 (a : Int)) (.int .i64 ((r * 64 ^ i : Nat) : Int)) f c = c (.int .i64 ((a + r * 64 ^ i : Nat) : Int)) := by
  have h3 := mul_lt64 hr (pow64_le hi)
  have h4 := pow64_le hi
  have h1 : (BitVec.ofInt IntKind.i64.bits (a : Int) ||| BitVec.ofInt IntKind.i64.bits ((r * 64 ^ i : Nat) : Int)).toNat = a + r * 64 ^ i := by
    rw [BitVec.toNat_or, BitVec.toNat_ofInt, BitVec.toNat_ofInt]
    show ((a : Int) % ((2 ^ 64 : Nat) : Int)).toNat ||| (((r * 64 ^ i : Nat) : Int) % ((2 ^ 64 : Nat) : Int)).toNat = _
    generalize hq : r * 64 ^ i = q at h3
    rw [show ((a : Int) % ((2 ^ 64 : Nat) : Int)).toNat = a by omega, show ((q : Int) % ((2 ^ 64 : Nat) : Int)).toNat = q by omega, ← hq, Nat.or_comm, Nat.mul_comm, pow64, ← Nat.two_pow_add_eq_or_of_lt (by rw [← pow64]; exact ha), Nat.add_comm]
  generalize hq : r * 64 ^ i = q at h1 h3
  rw [bin_or, h1, wrap_i64 (by omega) (by omega)]
/-- its first byte -/
def hdN (m : Nat) : Nat := if m < 64 then m else 64 + m % 64
theorem numT_cons (m : Nat) : ∃ t, numT m = hdN m :: t := by
  unfold hdN
  by_cases h : m < 64
  · exact ⟨[], by rw [numT_lo h, if_pos h]⟩
  · exact ⟨numT (m / 64), by rw [numT_hi h, if_neg h]⟩
theorem f145_num {n : Nat} (hn : n < 281474976710656) {l : List Nat} (hl : l.length < 1000000) : FnOk Tryz.prog 145 [.str (numT n ++ l)] H fun r G => r = .tup [.int .i64 n, .str l, .nili] ∧ G = H := by
  refine FnOk.drop (R := fun r => r = .tup [.int .i64 n, .str l, .nili]) ?_ (by rintro v rfl ρ; simp only [AV.ren, AV.rens])
  refine FnOk.of_WW Tryz.func145 rfl C145ok R145ok E0 good_E0 ?_
  obtain ⟨s, hs⟩ : ∃ s, s = numT n ++ l := ⟨_, rfl⟩
  rw [← hs]
  simp only [go_sem, C145]
  refine LL.st good_E0 (fun i : Nat => 8 - i) (fun i => i < 8 ∧ s.drop i = numT (n / 64 ^ i) ++ l ∧ (i = 0 ∨ 0 < n / 64 ^ i)) (fun i => [(.z, .str s), ((.o (.i .z)), .int .i64 (n % 64 ^ i : Nat)), ((.o (.o (.o .z))), .int .i64 i)]) (fun _ => []) ?_ 0 (σ := [])
    (Wk.of rfl (by decide) (by simp only [go_sem, Nat.pow_zero, Nat.mod_one]; first | done | rfl | trace_state) (by simp only [go_sem])) ⟨by decide, by rw [List.drop_zero, Nat.pow_zero, Nat.div_one, hs], .inl rfl⟩
  rintro i ⟨hi, hd, hz⟩
  obtain ⟨m, hm⟩ : ∃ m, m = n / 64 ^ i := ⟨_, rfl⟩
  rw [← hm] at hd hz
  obtain ⟨t, ht⟩ := numT_cons m
  have hb : hdN m ≤ 127 := by unfold hdN; split <;> omega
  have hget : s[i]? = some (hdN m) := by
    have := congrArg (·[0]?) hd
    rw [ht] at this
    simpa using this
  obtain ⟨hlt, -⟩ := List.getElem?_eq_some_iff.1 hget
  have hdr : s.drop (i + 1) = t ++ l := by
    have := congrArg (List.drop 1) hd
    rw [ht, List.drop_drop] at this
    simpa [Nat.add_comm] using this
  have c1 : ¬ (s.length : Int) ≤ (i : Int) := by omega
  have c0 : (i : Int) < 8 := by omega
  have c2 : ¬ (127 : Int) < (hdN m : Int) := by omega
  have hw6 : IntKind.i64.wrap (6 * (i : Int)) = ((6 * i : Nat) : Int) := by rw [wrap_i64 (by omega) (by omega)]; push_cast; rfl
  have hwi : IntKind.i64.wrap ((i : Int) + 1) = ((i + 1 : Nat) : Int) := wrap_succ (by omega)
  have hle : i + 1 ≤ s.length := hlt
  have hdc : ∀ {β : Type} (f : β) (c : List Nat → β), dropC f (i + 1) s c = c (t ++ l) := fun f c => by rw [dropC_eq, if_pos hle, hdr]
  have hr : hdN m % 64 < 64 := Nat.mod_lt _ (by decide)
  have ha : n % 64 ^ i < 64 ^ i := Nat.mod_lt _ (Nat.pow_pos (by decide))
  have A := fun f c => bin_and63u (β := R1) .no none true (b := hdN m) (by omega) f c
  have S := fun f c => bin_shl64 (β := R1) .no none false hr hi f c
  have O := fun f c => bin_or64n (β := R1) .no none false ha hr hi f c
  have hwc : IntKind.i64.wrap ((hdN m % 64 : Nat) : Int) = ((hdN m % 64 : Nat) : Int) := wrap_i64 (by omega) (by omega)
  have h0i : (0 : Int) ≤ ((i + 1 : Nat) : Int) := by omega
  have hmod : hdN m % 64 = m % 64 := by unfold hdN; split <;> omega
  simp only [go_sem, c0, c1, hget, c2, ↓A, ↓S, ↓O, hw6, hwc, hwi, hdc, h0i, Int.toNat_natCast]
  have hret : ((hdN m : Nat) : Int) < 64 → AV.tup [AV.int .i64 ((n % 64 ^ i + hdN m % 64 * 64 ^ i : Nat) : Int), .str (t ++ l), .nili] = .tup [.int .i64 n, .str l, .nili] := fun h => by
    have hm64 : m < 64 := by
      refine Nat.lt_of_not_le fun h6 => ?_
      unfold hdN at h
      rw [if_neg (by omega)] at h
      omega
    have ht0 : t = [] := by
      rw [numT_lo hm64] at ht
      exact (List.cons.inj ht).2.symm
    have e : n % 64 ^ i + hdN m % 64 * 64 ^ i = n := by
      rw [hmod, Nat.mod_eq_of_lt hm64, hm, Nat.mul_comm, Nat.mod_add_div]
    rw [e, ht0]
    rfl
  have hnx : ¬ ((hdN m : Nat) : Int) < 64 → (i + 1 < 8 ∧ s.drop (i + 1) = numT (n / 64 ^ (i + 1)) ++ l ∧ (i + 1 = 0 ∨ 0 < n / 64 ^ (i + 1))) ∧ n % 64 ^ (i + 1) = n % 64 ^ i + hdN m % 64 * 64 ^ i := fun h => by
    have hm64 : ¬ m < 64 := fun h6 => by
      unfold hdN at h
      rw [if_pos h6] at h
      omega
    have hq : n / 64 ^ (i + 1) = m / 64 := by rw [Nat.pow_succ, ← Nat.div_div_eq_div_mul, hm]
    have ht1 : t = numT (m / 64) := by
      rw [numT_hi hm64] at ht
      exact (List.cons.inj ht).2.symm
    have hpos : 0 < m / 64 := by omega
    refine ⟨⟨?_, by rw [hdr, ht1, hq], .inr (by rw [hq]; exact hpos)⟩, by rw [Nat.mod_pow_succ, hmod, hm, Nat.mul_comm]⟩
    refine Nat.lt_of_not_le fun h8 => ?_
    have h7 : 64 ^ 8 ≤ 64 ^ (i + 1) := Nat.pow_le_pow_right (by decide) h8
    have h9 : n < 64 ^ (i + 1) := Nat.lt_of_lt_of_le hn h7
    rw [← hq, Nat.div_eq_of_lt h9] at hpos
    exact absurd hpos (Nat.lt_irrefl _)
  refine ⟨fun h0 => ⟨fun hi0 => ?_, fun _ => ⟨fun hs64 => ⟨hret hs64, _, rfl⟩, fun hs64 => ?_⟩⟩, fun h0 => ⟨fun hs64 => ⟨hret hs64, _, rfl⟩, fun hs64 => ?_⟩⟩
  · rcases hz with rfl | hz
    · exact absurd hi0 (by decide)
    · refine absurd h0 ?_
      unfold hdN
      split <;> omega
  all_goals
    obtain ⟨hg, hnm⟩ := hnx hs64
    exact ⟨i + 1, by show 8 - (i + 1) < 8 - i; omega, hg, _, [], rfl, Wk.of rfl (by decide) (by simp only [go_sem, hnm]; first | done | rfl | trace_state) (by simp only [go_sem])⟩
end Go.Proofs
/- sums of bytes, what is wrapped: walked. -/

set_option linter.all false
set_option linter.all false
set_option maxRecDepth 100000
namespace Go.Proofs
open Go Go.Ev
variable {H : Heap}

def xorU (x y : Int) : Int := IntKind.u32.wrap ((BitVec.ofInt IntKind.u32.bits x ^^^ BitVec.ofInt IntKind.u32.bits y).toNat : Int)
theorem bin_xorU {β : Type} (ek : EK) (pk : Option (List LK)) (lit : Bool) (x y : Int) (f : β) (c : AV → β) : binV Tryz.prog ek pk lit .xor (.int .u32 x) (.int .u32 y) f c = c (.int .u32 (xorU x y)) := by rw [bin_xor]; rfl
def stepU (x : Int) (b : Nat) : Int := IntKind.u32.wrap (xorU x (IntKind.u32.wrap (b : Int)) * 16777619)
/-- a sum of bytes -/
def sumT (s : List Nat) : Int := s.foldl stepU 2166136261
theorem sumT_next {s : List Nat} {i b : Nat} (h : s[i]? = some b) : sumT (s.take (i + 1)) = IntKind.u32.wrap (xorU (sumT (s.take i)) (IntKind.u32.wrap (b : Int)) * 16777619) := by
  unfold sumT
  rw [List.take_add_one, h, List.foldl_append]
  rfl
theorem f166_ok {s : List Nat} (hl : s.length < 4611686018427387904) : FnOk Tryz.prog 166 [.str s] H fun r G => r = .int .u32 (sumT s) ∧ G = H := by
  refine FnOk.drop (R := fun r => r = .int .u32 (sumT s)) ?_ (by rintro v rfl ρ; rw [AV.ren])
  refine FnOk.of_WW Tryz.func166 rfl C166ok R166ok E0 good_E0 ?_
  simp only [go_sem, C166]
  refine LL.st good_E0 (fun i : Nat => s.length - i) (fun i => i ≤ s.length) (fun i => [(.z, .str s), ((.o (.o .z)), .int .u32 (sumT (s.take i))), ((.i (.i .z)), .int .i64 s.length), ((.o (.o (.o .z))), .int .i64 i)]) (fun _ => []) ?_ 0 (σ := []) (Wk.of rfl (by decide) (by simp only [go_sem]; first | done | rfl | trace_state) (by simp only [go_sem]; first | done | rfl | trace_state)) (Nat.zero_le _)
  rintro i hi
  by_cases hlt : i < s.length
  · have hget : s[i]? = some s[i] := List.getElem?_eq_getElem hlt
    generalize s[i] = b at hget
    have hci : (i : Int) < (s.length : Int) := by omega
    have hw := wrap_succ (n := i) (by omega)
    have hnew := sumT_next hget
    have X := fun x y f c => bin_xorU (β := R1) .no none false x y f c
    simp only [go_sem, hci, hget, ↓X, hw]
    exact ⟨i + 1, by show s.length - (i + 1) < s.length - i; omega, (show i + 1 ≤ s.length by omega), _, [], rfl, Wk.of rfl (by decide) (by simp only [go_sem, hnew, hw]; first | done | rfl | trace_state) (by simp only [go_sem])⟩
  · have hci : ¬ (i : Int) < (s.length : Int) := by omega
    simp only [go_sem, hci]
    rw [List.take_of_length_le (by omega)]
    exact ⟨rfl, _, rfl⟩
/-- a sum's bytes, the lowest first -/
def byU (x : Int) : Nat := (IntKind.u8.wrap x).toNat
theorem byU_eq (x : Int) : IntKind.u8.wrap x = (byU x : Int) := by
  unfold byU
  have : 0 ≤ IntKind.u8.wrap x := by show 0 ≤ x % _; exact Int.emod_nonneg _ (by decide)
  omega
theorem byU_le (x : Int) : byU x ≤ 255 := by
  have h := byU_eq x
  have : IntKind.u8.wrap x < 256 := by show x % (2 ^ 8 : Int) < 256; exact Int.emod_lt_of_pos x (by decide)
  omega
def byT (x : Int) : List Nat := [byU x, byU (x.fdiv 256), byU (x.fdiv 65536), byU (x.fdiv 16777216)]
theorem shr0 {β : Type} (ek : EK) (pk : Option (List LK)) (lit : Bool) (a : Int) (k : IntKind) (f : β) (c : AV → β) : binV Tryz.prog ek pk lit .shr (.int .u32 a) (.int k 0) f c = c (.int .u32 a) := by
  have h := bin_shr (P := Tryz.prog) ek pk lit .u32 a f c k 0
  have e : a.fdiv (2 ^ min 0 IntKind.u32.bits) = a := Int.fdiv_one a
  rw [e] at h
  exact h
theorem shr8 {β : Type} (ek : EK) (pk : Option (List LK)) (lit : Bool) (a : Int) (k : IntKind) (f : β) (c : AV → β) : binV Tryz.prog ek pk lit .shr (.int .u32 a) (.int k 8) f c = c (.int .u32 (a.fdiv 256)) := bin_shr (P := Tryz.prog) ek pk lit .u32 a f c k 8
theorem shr16 {β : Type} (ek : EK) (pk : Option (List LK)) (lit : Bool) (a : Int) (k : IntKind) (f : β) (c : AV → β) : binV Tryz.prog ek pk lit .shr (.int .u32 a) (.int k 16) f c = c (.int .u32 (a.fdiv 65536)) := bin_shr (P := Tryz.prog) ek pk lit .u32 a f c k 16
theorem shr24 {β : Type} (ek : EK) (pk : Option (List LK)) (lit : Bool) (a : Int) (k : IntKind) (f : β) (c : AV → β) : binV Tryz.prog ek pk lit .shr (.int .u32 a) (.int k 24) f c = c (.int .u32 (a.fdiv 16777216)) := bin_shr (P := Tryz.prog) ek pk lit .u32 a f c k 24
theorem readC_four {β : Type} (f : β) (a b c d : AV) (k : List AV → β) : readC f 1 [[a], [b], [c], [d]] 0 4 k = k [a, b, c, d] := rfl
theorem byT_all {β : Type} (x : Int) (f : β) (c : List Nat → β) : bytesC [.int .u8 (byU x), .int .u8 (byU (x.fdiv 256)), .int .u8 (byU (x.fdiv 65536)), .int .u8 (byU (x.fdiv 16777216))] f c = c (byT x) := by
  refine bytesC_all (l := byT x) (fun b hb => ?_) f c
  simp only [byT, List.mem_cons, List.not_mem_nil, or_false] at hb
  rcases hb with rfl | rfl | rfl | rfl <;> exact byU_le _
theorem f165_ok (x : Int) : FnOk Tryz.prog 165 [.int .u32 x] H fun r G => r = .str (byT x) ∧ G = H := by
  refine FnOk.drop (R := fun r => r = .str (byT x)) ?_ (by rintro v rfl ρ; rw [AV.ren])
  refine FnOk.of_WW Tryz.func165 rfl C165ok R165ok E0 good_E0 ?_
  simp only [go_sem, C165]
  refine LL.st good_E0 (S := Int × List Nat) (fun s => (4 - s.1).toNat) (fun s => s = (0, [0, 0, 0, 0]) ∨ s = (1, [byU x, 0, 0, 0]) ∨ s = (2, [byU x, byU (x.fdiv 256), 0, 0]) ∨ s = (3, [byU x, byU (x.fdiv 256), byU (x.fdiv 65536), 0]) ∨ s = (4, byT x))
    (fun s => [(.z, .int .u32 x), ((.o (.o .z)), .ptr (H.key 0) 0), ((.o (.i .z)), .int .i64 s.1)]) (fun s => [.row true 1 (s.2.map byteC)]) ?_ (0, [0, 0, 0, 0]) (σ := [0]) (Wk.of rfl (by decide) (by simp only [go_sem]; first | done | rfl | trace_state) (by simp only [go_sem, byteC, byteV, byT]; first | done | rfl | trace_state)) (.inl rfl)
  have w0 : IntKind.i64.wrap (8 * 0) = 0 := rfl
  have w1 : IntKind.i64.wrap (8 * 1) = 8 := rfl
  have w2 : IntKind.i64.wrap (8 * 2) = 16 := rfl
  have w3 : IntKind.i64.wrap (8 * 3) = 24 := rfl
  have b0 := byU_eq x
  have b1 := byU_eq (x.fdiv 256)
  have b2 := byU_eq (x.fdiv 65536)
  have b3 := byU_eq (x.fdiv 16777216)
  have s0 := fun l f c => shr0 (β := R1) .no none l x .i64 f c
  have s1 := fun l f c => shr8 (β := R1) .no none l x .i64 f c
  have s2 := fun l f c => shr16 (β := R1) .no none l x .i64 f c
  have s3 := fun l f c => shr24 (β := R1) .no none l x .i64 f c
  have rd := fun a b c d k => readC_four (β := R1) .fail a b c d k
  have al := fun c => byT_all (β := R1) x .fail c
  rintro _ (rfl | rfl | rfl | rfl | rfl)
  · simp only [go_sem, byteC, byteV, w0, ↓s0, b0]
    exact ⟨(1, [byU x, 0, 0, 0]), by show (4 - 1 : Int).toNat < (4 - 0 : Int).toNat; decide, .inr (.inl rfl), _, [0], rfl, Wk.of rfl (by decide) (by simp only [go_sem]; first | done | rfl | trace_state) (by simp only [go_sem, byteC, byteV, byT]; first | done | rfl | trace_state)⟩
  · simp only [go_sem, byteC, byteV, w1, ↓s1, b1]
    exact ⟨(2, [byU x, byU (x.fdiv 256), 0, 0]), by show (4 - 2 : Int).toNat < (4 - 1 : Int).toNat; decide, .inr (.inr (.inl rfl)), _, [0], rfl, Wk.of rfl (by decide) (by simp only [go_sem]; first | done | rfl | trace_state) (by simp only [go_sem, byteC, byteV, byT]; first | done | rfl | trace_state)⟩
  · simp only [go_sem, byteC, byteV, w2, ↓s2, b2]
    exact ⟨(3, [byU x, byU (x.fdiv 256), byU (x.fdiv 65536), 0]), by show (4 - 3 : Int).toNat < (4 - 2 : Int).toNat; decide, .inr (.inr (.inr (.inl rfl))), _, [0], rfl, Wk.of rfl (by decide) (by simp only [go_sem]; first | done | rfl | trace_state) (by simp only [go_sem, byteC, byteV, byT]; first | done | rfl | trace_state)⟩
  · simp only [go_sem, byteC, byteV, w3, ↓s3, b3]
    exact ⟨(4, byT x), by show (4 - 4 : Int).toNat < (4 - 3 : Int).toNat; decide, .inr (.inr (.inr (.inr rfl))), _, [0], rfl, Wk.of rfl (by decide) (by simp only [go_sem]; first | done | rfl | trace_state) (by simp only [go_sem, byteC, byteV, byT]; first | done | rfl | trace_state)⟩
  · simp only [go_sem, byteC, byteV, byT, rd, al]
    exact ⟨Nat.le_refl 4, _, rfl⟩
def wrapT (s : List Nat) : List Nat := byT (sumT (textT s)) ++ textT s
theorem textT_le {s : List Nat} (h : s.length < 1000000) : (textT s).length < 1000100 := by
  have := numT_small (n := s.length) (by omega)
  show (numT s.length ++ s).length < _
  rw [List.length_append]
  omega
theorem f110_ok {s : List Nat} (hs : s.length < 1000000) : FnOk Tryz.prog 110 [.str s] H fun r G => r = .str (wrapT s) ∧ G = H := by
  refine FnOk.drop (R := fun r => r = .str (wrapT s)) ?_ (by rintro v rfl ρ; rw [AV.ren])
  refine FnOk.of_WW Tryz.func110 rfl C110ok R110ok E0 good_E0 ?_
  have hl := textT_le hs
  have h4 : ∀ x, (byT x).length = 4 := fun x => rfl
  have hle : 4 + (textT s).length ≤ 9223372036854775807 := by omega
  simp only [go_sem, C110]
  refine CL.of (f114_ok (s := s) (by omega)) ?_
  rintro _ G' ⟨rfl, hG⟩; rw [hG]; clear hG
  simp only [go_sem]
  refine CL.of (f166_ok (s := textT s) (by omega)) ?_
  rintro _ G' ⟨rfl, hG⟩; rw [hG]; clear hG
  simp only [go_sem]
  refine CL.of (f165_ok _) ?_
  rintro _ G' ⟨rfl, hG⟩; rw [hG]; clear hG
  simp only [go_sem, h4, hle]
  exact ⟨rfl, _, rfl⟩
theorem f168_ok (b : Bool) : FnOk Tryz.prog 168 [.bool b] H fun r G => r = .str [b.toNat] ∧ G = H := by
  refine FnOk.drop (R := fun r => r = .str [b.toNat]) ?_ (by rintro v rfl ρ; rw [AV.ren])
  refine FnOk.of_WW Tryz.func168 rfl C168ok R168ok E0 good_E0 ?_
  cases b
  · simp only [go_sem, C168]
    exact ⟨rfl, _, rfl⟩
  · simp only [go_sem, C168]
    exact ⟨rfl, _, rfl⟩
end Go.Proofs
/- texts and flags taken of bytes, what is wrapped opened: walked. -/


set_option linter.all false
set_option linter.all false
set_option maxRecDepth 100000
namespace Go.Proofs
open Go Go.Ev
variable {H : Heap}

theorem textT_app (s l : List Nat) : textT s ++ l = numT s.length ++ (s ++ l) := by unfold textT; rw [List.append_assoc]
theorem drop_app {β : Type} (f : β) (s l : List Nat) (c : List Nat → β) : dropC f s.length (s ++ l) c = c l := by
  rw [dropC_eq, if_pos (by rw [List.length_append]; exact Nat.le_add_right _ _), List.drop_left]
theorem take_app {β : Type} (f : β) (s l : List Nat) (c : List Nat → β) : takeC f s.length (s ++ l) c = c s := by
  rw [takeC_eq, if_pos (by rw [List.length_append]; exact Nat.le_add_right _ _), List.take_left]
theorem f148_txt {s l : List Nat} {most : Int} (hm : (s.length : Int) ≤ most) (hl : s.length + l.length < 1000000) : FnOk Tryz.prog 148 [.str (textT s ++ l), .int .i64 most] H fun r G => r = .tup [.str s, .str l, .nili] ∧ G = H := by
  refine FnOk.drop (R := fun r => r = .tup [.str s, .str l, .nili]) ?_ (by rintro v rfl ρ; simp only [AV.ren, AV.rens])
  rw [textT_app]
  refine FnOk.of_WW Tryz.func148 rfl C148ok R148ok E0 good_E0 ?_
  have hla : (s ++ l).length = s.length + l.length := List.length_append
  simp only [go_sem, C148]
  refine CL.of (f145_num (n := s.length) (by omega) (l := s ++ l) (by omega)) ?_
  rintro _ G' ⟨rfl, hG⟩; rw [hG]; clear hG
  simp only [go_sem]
  refine CL.of (f64_ok none 11) ?_
  rintro _ G' ⟨rfl, hG⟩; rw [hG]; clear hG
  have h1 : ¬ most < (s.length : Int) := by omega
  have h2 : ¬ ((s.length + l.length : Nat) : Int) < (s.length : Int) := by omega
  have h3 : s.length ≤ s.length + l.length := Nat.le_add_right _ _
  have h4 : (0 : Int) ≤ (s.length : Int) := by omega
  have d := fun f c => drop_app (β := R1) f s l c
  have t := fun f c => take_app (β := R1) f s l c
  have d0 : ∀ {β : Type} (f : β) (c : List Nat → β), dropC f 0 (s ++ l) c = c (s ++ l) := fun f c => by rw [dropC_eq, if_pos (Nat.zero_le _), List.drop_zero]
  have t0 : List.take s.length (s ++ l) = s := List.take_left
  have z0 : 0 ≤ s.length := Nat.zero_le _
  simp only [go_sem, h1, h2, h3, h4, hla, d, t, Int.toNat_natCast, d0, t0, z0, Nat.sub_zero]
  exact ⟨_, rfl⟩
/-- sums and their bytes -/
noncomputable def EFr (f : FuncId) (args : List AV) (H : Heap) : RC :=
  match f with
  | 166 => match args with | [.str s] => if s.length < 4611686018427387904 then .ok (.int .u32 (sumT s)) H else .fail | _ => .fail
  | 165 => match args with | [.int .u32 x] => .ok (.str (byT x)) H | _ => .fail
  | _ => .fail
theorem good_EFr : Ev.Good Tryz.prog EFr := by
  intro f args H r G he φ w args' ha hw
  refine (?_ : FnOk Tryz.prog f args H fun v' G' => v' = r ∧ G' = G).one φ w args' ha hw
  unfold EFr at he
  split at he
  · split at he
    · split at he
      · rename_i hc
        cases he; exact f166_ok hc
      · cases he
    · cases he
  · split at he
    · cases he; exact f165_ok _
    · cases he
  · cases he
theorem ef120 {s : List Nat} (h : s.length < 4611686018427387904) (H : Heap) : EFr 166 [.str s] H = .ok (.int .u32 (sumT s)) H := if_pos h
theorem ef119 (x : Int) (H : Heap) : EFr 165 [.int .u32 x] H = .ok (.str (byT x)) H := rfl
theorem f125_ok {s : List Nat} (hs : s.length < 200001) : FnOk Tryz.prog 125 [.str (wrapT s)] H fun r G => r = .tup [.str s, .str [], .nili] ∧ G = H := by
  refine FnOk.drop (R := fun r => r = .tup [.str s, .str [], .nili]) ?_ (by rintro v rfl ρ; simp only [AV.ren, AV.rens])
  refine FnOk.of_WW Tryz.func125 rfl C125ok R125ok EFr good_EFr ?_
  have hl := textT_le (s := s) (by omega)
  obtain ⟨t, ht⟩ : ∃ t, t = textT s := ⟨_, rfl⟩
  have hwl : (wrapT s).length = 4 + t.length := by rw [ht]; exact List.length_append
  have c1 : ¬ ((4 + t.length : Nat) : Int) < 4 := by omega
  have hd4 : ∀ {β : Type} (f : β) (c : List Nat → β), dropC f 4 (wrapT s) c = c t := fun f c => by rw [ht]; rfl
  have ht4 : ∀ {β : Type} (f : β) (c : List Nat → β), takeC f 4 (wrapT s) c = c (byT (sumT t)) := fun f c => by rw [ht]; rfl
  have hw4 : List.take 4 (wrapT s) = byT (sumT t) := by rw [ht]; rfl
  have hd0 : ∀ {β : Type} (f : β) (c : List Nat → β), dropC f 0 (wrapT s) c = c (wrapT s) := fun f c => by rw [dropC_eq, if_pos (Nat.zero_le _), List.drop_zero]
  have h4l : 4 ≤ 4 + t.length := Nat.le_add_right _ _
  have hsub : IntKind.i64.wrap (((4 + t.length : Nat) : Int) - 0) = ((4 + t.length : Nat) : Int) := by rw [Int.sub_zero, wrap_i64 (by omega) (by rw [ht]; omega)]
  have h77 := f148_txt (H := H) (s := s) (l := []) (most := 200000) (by omega) (by simp only [List.length_nil]; omega)
  rw [List.append_nil, ← ht] at h77
  have e := fun H => ef120 (s := t) (by rw [ht]; omega) H
  have p0 : (0 : Int) ≤ ((4 + t.length : Nat) : Int) := by omega
  have q4 : 4 + t.length - 4 = t.length := by omega
  simp only [go_sem, C125, hwl, c1, hd4]
  refine CL.of h77 ?_
  rintro _ G' ⟨rfl, hG⟩; rw [hG]; clear hG
  simp only [go_sem, hwl, hd4, ht4, hd0, hw4, hsub, e, ef119, Int.toNat_natCast, p0, q4, h4l, List.take_length, Nat.le_refl]
  exact ⟨[], rfl⟩
end Go.Proofs
/- shards of a node: which is the first that is so: walked. -/




set_option linter.all false
set_option linter.all false
set_option maxRecDepth 100000
namespace Go.Proofs
open Go Go.Ev
variable {H : Heap}

/-- the place of the first that is so; below 0: there is none -/
def idx {α : Type} (q : α → Bool) : List α → Nat → Int
  | [], _ => -1
  | s :: l, i => if q s = true then i else idx q l (i + 1)
theorem idx_next {α : Type} (q : α → Bool) {l : List α} {i : Nat} {s : α} (h : l[i]? = some s) : idx q (l.drop i) i = if q s = true then (i : Int) else idx q (l.drop (i + 1)) (i + 1) := by
  obtain ⟨h1, h2⟩ := List.getElem?_eq_some_iff.1 h
  rw [List.drop_eq_getElem_cons h1, h2]
  rfl
theorem idx_end {α : Type} (q : α → Bool) {l : List α} {i : Nat} (h : l.length ≤ i) : idx q (l.drop i) i = -1 := by
  rw [List.drop_eq_nil_of_le h]
  rfl
theorem f94_ok {v : AV} {l : List Sh} (hA : Arr H 8 v (l.map Sh.enc)) (hl : l.length ≤ 100000) {g : FuncId} {caps : List AV} (hcall : ∀ args H, callC Tryz.prog g args H = .call g args)
    (hcaps : ∀ top σ, AV.ren (rho H top σ) (.fn (.func g) [] caps) = .fn (.func g) [] caps) {q : Sh → Bool} (hg : ∀ s ∈ l, ∀ L, FnOk Tryz.prog g (.agg s.enc :: caps) (H.ext L) fun r G => r = .bool (q s) ∧ G = H.ext L) :
    FnOk Tryz.prog 94 [v, .fn (.func g) [] caps] H fun r G => r = .int .i64 (idx q l 0) ∧ G = H := by
  refine FnOk.assume fun hok => ?_
  refine FnOk.drop (R := fun r => r = .int .i64 (idx q l 0)) ?_ (by rintro v rfl ρ; rw [AV.ren])
  refine FnOk.of_WW Tryz.func94 rfl C94ok R94ok E0 good_E0 ?_
  have hlen := fun G => hA.len G; simp only [List.length_map] at hlen; have hren := hA.ren
  simp only [go_sem, C94, hlen]
  refine LL.st good_E0 (fun i : Nat => l.length - i) (fun i => i ≤ l.length ∧ idx q l 0 = idx q (l.drop i) i)
    (fun i => [(.z, v), ((.o .z), .fn (.func g) [] caps), ((.i (.i .z)), v), ((.o (.o (.o .z))), .int .i64 l.length), ((.i (.o (.o .z))), .int .i64 i)]) (fun i => []) ?_ 0 (σ := []) (Wk.of rfl (by decide) (by simp only [go_sem, hren, ↓hcaps]) (by simp only [go_sem])) ⟨Nat.zero_le _, rfl⟩
  rintro i ⟨hi, hno⟩
  by_cases hlt : i < l.length
  · obtain ⟨kk, r, ex', cap', wr, rows, hv, hrho, hgo, hrow⟩ := hA.at hok (j := i) (by rw [List.length_map]; exact hlt)
    simp only [List.length_map, List.getElem_map] at hv hrow
    have hget : l[i]? = some l[i] := List.getElem?_eq_getElem hlt
    generalize l[i] = c at hrow hget
    have hw := wrap_succ (n := i) (by omega)
    have hci : (i : Int) < (l.length : Int) := (by omega)
    have hsi : i + 1 ≤ l.length := (by omega)
    have hgc := hg c (List.mem_of_getElem? hget)
    have hnx := idx_next q hget
    simp only [Sh.enc] at hgc
    simp only [go_sem, hv, hci, hsi, hgo, hrow, hw, Sh.enc, hcall]
    refine CL.of (hgc _) ?_
    rintro _ G' ⟨rfl, hG⟩
    rw [hG]
    clear hG
    cases hq : q c
    · rw [hq, if_neg Bool.false_ne_true] at hnx
      simp only [go_sem, hw]
      exact ⟨i + 1, by show l.length - (i + 1) < l.length - i; omega, ⟨by omega, hno.trans hnx⟩, _, [], rfl, Wk.of rfl (by decide) (by simp only [go_sem, hren, hrho, hv, ↓hcaps, hw]; first | done | rfl | trace_state) (by simp only [go_sem])⟩
    · rw [hq, if_pos rfl] at hnx
      simp only [go_sem]
      exact ⟨by rw [hno, hnx], _, rfl⟩
  · have hci : ¬ (i : Int) < (l.length : Int) := by omega
    simp only [go_sem, hci]
    exact ⟨by rw [hno, idx_end q (by omega)], _, rfl⟩
structure Gn where
  id : Int
  ep : Int
def Gn.enc (g : Gn) : List AV := [.int .i64 g.id, .int .i64 g.ep]
/-- requests whose answers have no rows -/
def bareL (l : List Dn) : Prop := ∀ d ∈ l, d.an.rv = .nils ∧ d.an.rows = []
/-- a shard that isn't great -/
structure smallS (s : Sh) : Prop where
  b : bareL s.done
  c : s.cells.length < 1000
  e : s.evs.length < 1000
  d : s.done.length < 1000
/-- a node's shards, and what it gave away -/
structure isHd (G : Heap) (k : K) (lv gv : AV) (hs : List Sh) (gs : List Gn) : Prop where
  ok : G.ok
  row : G.get k = some (.row true 2 [[lv, gv]])
  l : Arr G 8 lv (hs.map Sh.enc)
  g : Arr G 2 gv (gs.map Gn.enc)
  each : ∀ s ∈ hs, s.ok G
  small : ∀ s ∈ hs, smallS s
  few : hs.length ≤ 8 ∧ gs.length ≤ 8
theorem isHd.ext {G : Heap} {k : K} {lv gv : AV} {hs : List Sh} {gs : List Gn} (h : isHd G k lv gv hs gs) (L : List Blk) : isHd (G.ext L) k lv gv hs gs :=
  ⟨Heap.ok_ext h.ok L, Heap.get_ext_old h.ok h.row L, h.l.ext L, h.g.ext L, fun s hs => (h.each s hs).ext L, h.small, h.few⟩
section
variable {G : Heap} {k : K} {lv gv : AV} {hs : List Sh} {gs : List Gn}
theorem f42_ok (h : isHd G k lv gv hs gs) {g : FuncId} {caps : List AV} (hcall : ∀ args H, callC Tryz.prog g args H = .call g args)
    (hcaps : ∀ top σ, AV.ren (rho G top σ) (.fn (.func g) [] caps) = .fn (.func g) [] caps) {q : Sh → Bool} (hg : ∀ s ∈ hs, ∀ L, FnOk Tryz.prog g (.agg s.enc :: caps) (G.ext L) fun r G' => r = .bool (q s) ∧ G' = G.ext L) :
    FnOk Tryz.prog 42 [.ptr k 0, .fn (.func g) [] caps] G fun r G' => r = .int .i64 (idx q hs 0) ∧ G' = G := by
  refine FnOk.drop (R := fun r => r = .int .i64 (idx q hs 0)) ?_ (by rintro v rfl ρ; rw [AV.ren])
  refine FnOk.of_WW Tryz.func42 rfl C42ok R42ok E0 good_E0 ?_
  have hk : ∀ L, (G.ext L).get k = _ := fun L => Heap.get_ext_old h.ok h.row L
  simp only [go_sem, C42, hk]
  have h64 := f94_ok h.l (by have := h.few.1; omega) hcall hcaps hg
  rw [← Heap.ext_nil G] at h64
  refine CL.of h64 ?_
  rintro _ G' ⟨rfl, hG⟩
  rw [hG]
  clear hG
  simp only [go_sem]
  exact ⟨_, rfl⟩
/-- a shard of a number -/
theorem f43_ok {H : Heap} {c : K} {wr : Bool} {n : Int} (hk : H.get c = some (.row wr 1 [[.int .i64 n]])) (s : Sh) : FnOk Tryz.prog 43 [.agg s.enc, .ptr c 0] H fun r G => r = .bool (decide (s.id = n)) ∧ G = H := by
  refine FnOk.assume fun hok => ?_
  refine FnOk.drop (R := fun r => r = .bool (decide (s.id = n))) ?_ (by rintro v rfl ρ; rw [AV.ren])
  refine FnOk.of_WW Tryz.func43 rfl C43ok R43ok E0 good_E0 ?_
  have hgo := Heap.get_ext_old hok hk
  simp only [go_sem, C43, Sh.enc, hgo]
  exact ⟨fun h => ⟨bool_t h, _, rfl⟩, fun h => ⟨bool_f h, _, rfl⟩⟩
end
end Go.Proofs
/- a shard's bytes: walked. -/


set_option linter.all false
set_option linter.all false
set_option maxRecDepth 100000
namespace Go.Proofs
open Go Go.Ev
variable {H : Heap}

def bareA (code : Int) (val : List Nat) (ver : Int) : An := ⟨code, val, ver, [], .nils⟩
theorem bareA_ok (H : Heap) (code : Int) (val : List Nat) (ver : Int) : (bareA code val ver).ok H := ⟨.inl ⟨rfl, rfl⟩, Nat.zero_le _⟩
/-- what is put together -/
noncomputable def EIm (f : FuncId) (args : List AV) (H : Heap) : RC :=
  match f with
  | 112 => match args with | [.int .i64 n] => if 0 ≤ n ∧ n < 9223372036854775808 then .ok (.str (numT n.toNat)) H else .fail | _ => .fail
  | 114 => match args with | [.str s] => if s.length < 4611686018427387904 then .ok (.str (textT s)) H else .fail | _ => .fail
  | 168 => match args with | [.bool b] => .ok (.str [b.toNat]) H | _ => .fail
  | 124 => match args with | [.agg [.int .i64 code, .str val, .int .i64 ver, .nils]] => .ok (.str (ansT (bareA code val ver))) H | _ => .fail
  | _ => .fail
theorem good_EIm : Ev.Good Tryz.prog EIm := by
  intro f args H r G he φ w args' ha hw
  refine (?_ : FnOk Tryz.prog f args H fun v' G' => v' = r ∧ G' = G).one φ w args' ha hw
  unfold EIm at he
  split at he
  · split at he
    · split at he
      · rename_i n hn
        cases he
        have := f112_ok (H := H) (n := n.toNat) (by omega)
        rwa [Int.toNat_of_nonneg hn.1] at this
      · cases he
    · cases he
  · split at he
    · split at he
      · rename_i hs
        cases he; exact f114_ok hs
      · cases he
    · cases he
  · split at he
    · cases he; exact f168_ok _
    · cases he
  · split at he
    · cases he; exact f124_ok (a := bareA _ _ _) (bareA_ok ..)
    · cases he
  · cases he
theorem ei28 {n : Int} (h0 : 0 ≤ n) (h1 : n < 9223372036854775808) (H : Heap) : EIm 112 [.int .i64 n] H = .ok (.str (numT n.toNat)) H := if_pos ⟨h0, h1⟩
theorem ei30 {s : List Nat} (h : s.length < 4611686018427387904) (H : Heap) : EIm 114 [.str s] H = .ok (.str (textT s)) H := if_pos h
theorem ei71 (b : Bool) (H : Heap) : EIm 168 [.bool b] H = .ok (.str [b.toNat]) H := rfl
theorem ei72 (code : Int) (val : List Nat) (ver : Int) (H : Heap) : EIm 124 [.agg [.int .i64 code, .str val, .int .i64 ver, .nils]] H = .ok (.str (ansT (bareA code val ver))) H := rfl
/-- cells, events, what was done, as bytes -/
def cellT (c : Cell) : List Nat := textT c.key ++ textT c.value ++ numT c.ver.toNat ++ [c.del.toNat] ++ numT c.floor.toNat
def evT (e : Evn) : List Nat := textT e.key ++ numT e.ver.toNat ++ textT e.val ++ [e.del.toNat]
noncomputable def dnT (d : Dn) : List Nat := numT d.ses.toNat ++ numT d.id.toNat ++ ansT d.an
def topT (s : Sh) : List Nat := numT s.id.toNat ++ numT s.ep.toNat ++ textT s.fr ++ textT s.to ++ [s.frz.toNat] ++ numT s.cells.length
def allT {α : Type} (f : α → List Nat) (l : List α) (i : Nat) : List Nat := ((l.take i).map f).flatten
theorem allT_succ {α : Type} (f : α → List Nat) {l : List α} {i : Nat} {c : α} (h : l[i]? = some c) : allT f l (i + 1) = allT f l i ++ f c := by
  unfold allT
  rw [List.take_add_one, h, List.map_append, List.flatten_append]
  simp
theorem allT_zero {α : Type} (f : α → List Nat) (l : List α) : allT f l 0 = [] := rfl
theorem allT_len {α : Type} (f : α → List Nat) (b : Nat) : ∀ (i : Nat) (l : List α), (∀ c ∈ l, (f c).length ≤ b) → (allT f l i).length ≤ b * i
  | 0, l, h => Nat.zero_le _
  | i + 1, [], h => Nat.zero_le _
  | i + 1, c :: l, h => by
    have h1 := allT_len f b i l fun d hd => h d (by simp [hd])
    have h2 := h c (by simp)
    have : allT f (c :: l) (i + 1) = f c ++ allT f l i := by unfold allT; simp
    rw [this, List.length_append, Nat.mul_succ]
    omega
noncomputable def imgT (s : Sh) : List Nat :=
  topT s ++ allT cellT s.cells s.cells.length ++ numT s.evs.length ++ allT evT s.evs s.evs.length ++ numT s.done.length ++ allT dnT s.done s.done.length
theorem num11 {n : Int} (h0 : 0 ≤ n) (h1 : n ≤ 1000000000000000) : (numT n.toNat).length ≤ 11 := numT_small (by omega)
theorem txt266 {s : List Nat} (h : (s.length : Int) ≤ 255) : (textT s).length ≤ 266 := textT_len h
theorem cellT_len {c : Cell} (h : cellIs c) : (cellT c).length ≤ 600 := by
  obtain ⟨⟨⟨_, h1⟩, h2, _, h3, h4⟩, h5, h6⟩ := h
  have a := txt266 (s := c.key) (by omega)
  have b := txt266 (s := c.value) (by omega)
  have d := num11 (n := c.ver) (by omega) (by omega)
  have e := num11 (n := c.floor) (by omega) (by omega)
  unfold cellT
  simp only [List.length_append, List.length_cons, List.length_nil]
  omega
theorem evT_len {e : Evn} (h : isEv e) : (evT e).length ≤ 600 := by
  obtain ⟨⟨_, h1⟩, h2, _, h3, h4⟩ := h
  have a := txt266 (s := e.key) (by omega)
  have b := txt266 (s := e.val) (by omega)
  have d := num11 (n := e.ver) (by omega) (by omega)
  unfold evT
  simp only [List.length_append, List.length_cons, List.length_nil]
  omega
theorem ansT_bare {code : Int} {val : List Nat} {ver : Int} (h : isAns (bareA code val ver)) : ansT (bareA code val ver) = numT code.toNat ++ textT val ++ numT ver.toNat ++ numT 0 := by
  unfold ansT
  rw [if_pos h]
  rfl
theorem dnT_len {d : Dn} (h : okD d) (hb : d.an.rv = .nils ∧ d.an.rows = []) : (dnT d).length ≤ 400 := by
  obtain ⟨ses, id, ⟨code, val, ver, rows, rv⟩⟩ := d
  obtain ⟨h1, h2⟩ := hb
  simp only at h1 h2
  subst h1 h2
  obtain ⟨⟨a1, a2, a3, a4⟩, ha⟩ := h
  simp only at a1 a2 a3 a4
  have hx := ansT_bare (code := code) (val := val) (ver := ver) ha
  obtain ⟨⟨b1, b2, b3, b4, b5⟩, -, -⟩ := ha
  simp only at b1 b2 b3 b4 b5
  have a := num11 (n := ses) (by omega) (by omega)
  have b := num11 (n := id) (by omega) (by omega)
  have c := num11 (n := code) (by omega) (by omega)
  have d := txt266 (s := val) (by omega)
  have e := num11 (n := ver) (by omega) (by omega)
  have f : (numT 0).length ≤ 11 := numT_small (by decide)
  have hy : dnT ⟨ses, id, bareA code val ver⟩ = numT ses.toNat ++ numT id.toNat ++ ansT (bareA code val ver) := rfl
  show (dnT ⟨ses, id, bareA code val ver⟩).length ≤ 400
  rw [hy, hx]
  simp only [List.length_append]
  omega
theorem topT_len {s : Sh} (h : isSh s) (hc : s.cells.length < 1000) : (topT s).length ≤ 700 := by
  obtain ⟨⟨a1, a2, a3, a4⟩, ⟨b1, b2, _⟩, _⟩ := h
  have a := num11 (n := s.id) (by omega) (by omega)
  have b := num11 (n := s.ep) (by omega) (by omega)
  have c := txt266 (s := s.fr) (by omega)
  have d := txt266 (s := s.to) (by omega)
  have e : (numT s.cells.length).length ≤ 11 := numT_small (by omega)
  unfold topT
  simp only [List.length_append, List.length_cons, List.length_nil]
  omega
end Go.Proofs
/- image.Bytes: walked. -/

set_option linter.all false
set_option linter.all false
set_option maxRecDepth 100000
namespace Go.Proofs
open Go Go.Ev
variable {H : Heap}

theorem f115_ok {s : Sh} (h : s.ok H) (hs : isSh s) (hsm : smallS s) (hL : (imgT s).length < 1000000) : FnOk Tryz.prog 115 [.agg s.enc] H fun r G => r = .str (wrapT (imgT s)) ∧ G = H := by
  refine FnOk.assume fun hok => ?_
  refine FnOk.drop (R := fun r => r = .str (wrapT (imgT s))) ?_ (by rintro v rfl ρ; rw [AV.ren])
  refine FnOk.of_WW Tryz.func115 rfl C115ok R115ok EIm good_EIm ?_
  have hlc := fun G => h.c.len G
  have hle := fun G => h.e.len G
  have hld := fun G => h.d.len G
  simp only [List.length_map] at hlc hle hld
  have hrc := h.c.ren
  have hre := h.e.ren
  have hrd := h.d.ren
  have hc1 := hsm.c
  have he1 := hsm.e
  have hd1 := hsm.d
  obtain ⟨⟨a1, a2, a3, a4⟩, ⟨b1, b2, _⟩, _, _, hh, hdn⟩ := id hs
  have x1 := fun H => ei28 (n := s.id) (by omega) (by omega) H
  have x2 := fun H => ei28 (n := s.ep) (by omega) (by omega) H
  have x3 := fun H => ei30 (s := s.fr) (by omega) H
  have x4 := fun H => ei30 (s := s.to) (by omega) H
  have x5 := fun H => ei28 (n := (s.cells.length : Int)) (by omega) (by omega) H
  rw [Int.toNat_natCast] at x5
  have n1 := num11 (n := s.id) (by omega) (by omega)
  have n2 := num11 (n := s.ep) (by omega) (by omega)
  have n3 := txt266 (s := s.fr) (by omega)
  have n4 := txt266 (s := s.to) (by omega)
  have n5 : (numT s.cells.length).length ≤ 11 := numT_small (by omega)
  have m1 : (numT s.id.toNat).length + (numT s.ep.toNat).length ≤ 9223372036854775807 := by omega
  have m2 : (numT s.id.toNat).length + (numT s.ep.toNat).length + (textT s.fr).length ≤ 9223372036854775807 := by omega
  have m3 : (numT s.id.toNat).length + (numT s.ep.toNat).length + (textT s.fr).length + (textT s.to).length ≤ 9223372036854775807 := by omega
  have m4 : (numT s.id.toNat).length + (numT s.ep.toNat).length + (textT s.fr).length + (textT s.to).length + 1 ≤ 9223372036854775807 := by omega
  have m5 : (numT s.id.toNat).length + (numT s.ep.toNat).length + (textT s.fr).length + (textT s.to).length + 1 + (numT s.cells.length).length ≤ 9223372036854775807 := by omega
  have htop : numT s.id.toNat ++ numT s.ep.toNat ++ textT s.fr ++ textT s.to ++ [s.frz.toNat] ++ numT s.cells.length = topT s := rfl
  have htl := topT_len hs hc1
  simp only [go_sem, C115, Sh.enc]
  refine CL.bool (f24_ok (s := s) (h.ext _)) (fun g => ?_) (fun g => absurd hs g)
  simp only [go_sem, hlc, x1, x2, x3, x4, x5, ei71, m1, m2, m3, m4, m5]
  have hcell : ∀ c ∈ s.cells, (cellT c).length ≤ 600 := fun c hc => cellT_len (hh.1.cell hc)
  have hevt : ∀ e ∈ s.evs, (evT e).length ≤ 600 := fun e he => evT_len (hh.2.1 e he).2
  have hdnt : ∀ d ∈ s.done, (dnT d).length ≤ 400 := fun d hd => dnT_len ((done_iff.1 hdn).1 d hd) (hsm.b d hd)
  refine LL.st good_EIm (fun i : Nat => s.cells.length - i) (fun i => i ≤ s.cells.length) (fun i => [((.o .z), .ptr (H.key 0) 0), ((.o (.o .z)), .str (topT s ++ allT cellT s.cells i)), ((.i (.o (.o (.i (.o .z))))), s.cv), ((.o (.i (.o (.i (.o .z))))), .int .i64 s.cells.length), ((.i (.i (.o (.i (.o .z))))), .int .i64 i)])
    (fun _ => [.row true 8 [[.int .i64 s.id, .int .i64 s.ep, .str s.fr, .str s.to, .bool s.frz, s.cv, s.ev, s.dv]]]) ?_ 0 (σ := [0]) (Wk.of rfl (by decide) (by simp only [go_sem, htop, allT_zero, hrc]; first | done | rfl | trace_state) (by simp only [go_sem, hrc, hre, hrd]; first | done | rfl | trace_state)) (Nat.zero_le _)
  rintro i hi
  have hpl := allT_len cellT 600 i s.cells hcell
  have hnext := fun c => @allT_succ _ cellT s.cells i c
  have hPl : (topT s ++ allT cellT s.cells i).length ≤ 700 + 600 * i := by rw [List.length_append]; omega
  by_cases hlt : i < s.cells.length
  · obtain ⟨kk, r, ex', cap', wr, rows, hv, hrho, hgo, hrow⟩ := h.c.at hok (j := i) (by rw [List.length_map]; exact hlt)
    simp only [List.length_map, List.getElem_map] at hv hrow
    have hget : s.cells[i]? = some s.cells[i] := List.getElem?_eq_getElem hlt
    have hci : (i : Int) < (s.cells.length : Int) := by omega
    have hw := wrap_succ (n := i) (by omega)
    have hsi : i + 1 ≤ s.cells.length := by omega
    have hcl := hcell _ (List.mem_of_getElem? hget)
    obtain ⟨⟨⟨_, c1⟩, c2, _, c3, c4⟩, c5, c6⟩ := hh.1.cell (List.mem_of_getElem? hget)
    generalize s.cells[i] = c at hrow hget hcl c1 c2 c3 c4 c5 c6
    have hnx : topT s ++ allT cellT s.cells (i + 1) = (topT s ++ allT cellT s.cells i) ++ cellT c := by rw [hnext c hget, List.append_assoc]
    generalize topT s ++ allT cellT s.cells i = P at hnx hPl ⊢
    have y1 := fun H => ei30 (s := c.key) (by omega) H
    have y2 := fun H => ei30 (s := c.value) (by omega) H
    have y3 := fun H => ei28 (n := c.ver) (by omega) (by omega) H
    have y4 := fun H => ei28 (n := c.floor) (by omega) (by omega) H
    have k1 := txt266 (s := c.key) (by omega)
    have k2 := txt266 (s := c.value) (by omega)
    have k3 := num11 (n := c.ver) (by omega) (by omega)
    have k4 := num11 (n := c.floor) (by omega) (by omega)
    have p1 : (textT c.key).length + (textT c.value).length ≤ 9223372036854775807 := by omega
    have p2 : (textT c.key).length + (textT c.value).length + (numT c.ver.toNat).length ≤ 9223372036854775807 := by omega
    have p3 : (textT c.key).length + (textT c.value).length + (numT c.ver.toNat).length + 1 ≤ 9223372036854775807 := by omega
    have p4 : (textT c.key).length + (textT c.value).length + (numT c.ver.toNat).length + 1 + (numT c.floor.toNat).length ≤ 9223372036854775807 := by omega
    have p5 : P.length + ((textT c.key).length + (textT c.value).length + (numT c.ver.toNat).length + 1 + (numT c.floor.toNat).length) ≤ 9223372036854775807 := by omega
    have hcT : textT c.key ++ textT c.value ++ numT c.ver.toNat ++ [c.del.toNat] ++ numT c.floor.toNat = cellT c := rfl
    simp only [go_sem, hci, hsi, hv, hgo, hrow, Cell.enc, hw, y1, y2, y3, y4, ei71, p1, p2, p3, p4, p5]
    exact ⟨i + 1, by show s.cells.length - (i + 1) < s.cells.length - i; omega, (show i + 1 ≤ s.cells.length by omega), _, [0], rfl, Wk.of rfl (by decide) (by simp only [go_sem, hrc, hrho, hv, hw, hnx, hcT]; first | done | rfl | trace_state) (by simp only [go_sem, hrc, hre, hrd, hrho, hv]; first | done | rfl | trace_state)⟩
  · have hci : ¬ (i : Int) < (s.cells.length : Int) := by omega
    obtain rfl : i = s.cells.length := by omega
    obtain ⟨P, hPe⟩ : ∃ P, P = topT s ++ allT cellT s.cells s.cells.length := ⟨_, rfl⟩
    rw [← hPe] at hPl ⊢
    have q1 : (numT s.evs.length).length ≤ 11 := numT_small (by omega)
    have q2 : P.length + (numT s.evs.length).length ≤ 9223372036854775807 := by omega
    simp only [go_sem, hci, hle]
    refine CL.of (f112_ok (n := s.evs.length) (by omega)) ?_
    rintro _ G' ⟨rfl, hG⟩; rw [hG]; clear hG
    simp only [go_sem, q2, hle]
    have hI : imgT s = P ++ numT s.evs.length ++ allT evT s.evs s.evs.length ++ numT s.done.length ++ allT dnT s.done s.done.length := by rw [hPe]; rfl
    have hQl : (P ++ numT s.evs.length).length ≤ 700 + 600 * s.cells.length + 11 := by rw [List.length_append]; omega
    generalize P ++ numT s.evs.length = Q at hI hQl ⊢
    refine LL.st good_EIm (fun i : Nat => s.evs.length - i) (fun i => i ≤ s.evs.length) (fun i => [((.o .z), .ptr (H.key 0) 0), ((.o (.o .z)), .str (Q ++ allT evT s.evs i)), ((.o (.o (.i (.i (.o (.o .z)))))), s.ev), ((.i (.o (.i (.i (.o (.o .z)))))), .int .i64 s.evs.length), ((.o (.i (.i (.i (.o (.o .z)))))), .int .i64 i)])
      (fun _ => [.row true 8 [[.int .i64 s.id, .int .i64 s.ep, .str s.fr, .str s.to, .bool s.frz, s.cv, s.ev, s.dv]]]) ?_ 0 (σ := [0]) (Wk.of rfl (by decide) (by simp only [go_sem, allT_zero, hre]; first | done | rfl | trace_state) (by simp only [go_sem, hrc, hre, hrd]; first | done | rfl | trace_state)) (Nat.zero_le _)
    rintro i hi
    have hpl := allT_len evT 600 i s.evs hevt
    have hnext := fun c => @allT_succ _ evT s.evs i c
    have hPl : (Q ++ allT evT s.evs i).length ≤ 711 + 600 * s.cells.length + 600 * i := by rw [List.length_append]; omega
    by_cases hlt : i < s.evs.length
    · obtain ⟨kk, r, ex', cap', wr, rows, hv, hrho, hgo, hrow⟩ := h.e.at hok (j := i) (by rw [List.length_map]; exact hlt)
      simp only [List.length_map, List.getElem_map] at hv hrow
      have hget : s.evs[i]? = some s.evs[i] := List.getElem?_eq_getElem hlt
      have hci : (i : Int) < (s.evs.length : Int) := by omega
      have hw := wrap_succ (n := i) (by omega)
      have hsi : i + 1 ≤ s.evs.length := by omega
      obtain ⟨⟨_, c1⟩, c2, _, c3, c4⟩ := (hh.2.1 _ (List.mem_of_getElem? hget)).2
      generalize s.evs[i] = c at hrow hget c1 c2 c3 c4
      have hnx : Q ++ allT evT s.evs (i + 1) = (Q ++ allT evT s.evs i) ++ evT c := by rw [hnext c hget, List.append_assoc]
      generalize Q ++ allT evT s.evs i = P at hnx hPl ⊢
      have y1 := fun H => ei30 (s := c.key) (by omega) H
      have y2 := fun H => ei30 (s := c.val) (by omega) H
      have y3 := fun H => ei28 (n := c.ver) (by omega) (by omega) H
      have k1 := txt266 (s := c.key) (by omega)
      have k2 := txt266 (s := c.val) (by omega)
      have k3 := num11 (n := c.ver) (by omega) (by omega)
      have p1 : (textT c.key).length + (numT c.ver.toNat).length ≤ 9223372036854775807 := by omega
      have p2 : (textT c.key).length + (numT c.ver.toNat).length + (textT c.val).length ≤ 9223372036854775807 := by omega
      have p3 : (textT c.key).length + (numT c.ver.toNat).length + (textT c.val).length + 1 ≤ 9223372036854775807 := by omega
      have p5 : P.length + ((textT c.key).length + (numT c.ver.toNat).length + (textT c.val).length + 1) ≤ 9223372036854775807 := by omega
      have hcT : textT c.key ++ numT c.ver.toNat ++ textT c.val ++ [c.del.toNat] = evT c := rfl
      simp only [go_sem, hci, hsi, hv, hgo, hrow, Evn.enc, hw, y1, y2, y3, ei71, p1, p2, p3, p5]
      exact ⟨i + 1, by show s.evs.length - (i + 1) < s.evs.length - i; omega, hsi, _, [0], rfl, Wk.of rfl (by decide) (by simp only [go_sem, hre, hrho, hv, hw, hnx, hcT]; first | done | rfl | trace_state) (by simp only [go_sem, hrc, hre, hrd, hrho, hv]; first | done | rfl | trace_state)⟩
    · have hci : ¬ (i : Int) < (s.evs.length : Int) := by omega
      obtain rfl : i = s.evs.length := by omega
      generalize Q ++ allT evT s.evs s.evs.length = P at hPl hI ⊢
      have he24 : s.evs.length < 1000 := he1
      have q1 : (numT s.done.length).length ≤ 11 := numT_small (by omega)
      have q2 : P.length + (numT s.done.length).length ≤ 9223372036854775807 := by omega
      simp only [go_sem, hci, hld]
      refine CL.of (f112_ok (n := s.done.length) (by omega)) ?_
      rintro _ G' ⟨rfl, hG⟩; rw [hG]; clear hG
      simp only [go_sem, q2, hld]
      have hQl : (P ++ numT s.done.length).length ≤ 722 + 600 * s.cells.length + 600 * s.evs.length := by rw [List.length_append]; omega
      generalize P ++ numT s.done.length = Q at hI hQl ⊢
      refine LL.st good_EIm (fun i : Nat => s.done.length - i) (fun i => i ≤ s.done.length) (fun i => [((.o (.o .z)), .str (Q ++ allT dnT s.done i)), ((.i (.i (.o (.i (.o (.i .z)))))), s.dv), ((.o (.o (.i (.i (.o (.i .z)))))), .int .i64 s.done.length), ((.i (.o (.i (.i (.o (.i .z)))))), .int .i64 i)])
        (fun _ => []) ?_ 0 (σ := []) (Wk.of rfl (by decide) (by simp only [go_sem, allT_zero, hrd]; first | done | rfl | trace_state) (by simp only [go_sem])) (Nat.zero_le _)
      rintro i hi
      have hpl := allT_len dnT 400 i s.done hdnt
      have hnext := fun c => @allT_succ _ dnT s.done i c
      have hPl : (Q ++ allT dnT s.done i).length ≤ 722 + 600 * s.cells.length + 600 * s.evs.length + 400 * i := by rw [List.length_append]; omega
      by_cases hlt : i < s.done.length
      · obtain ⟨kk, r, ex', cap', wr, rows, hv, hrho, hgo, hrow⟩ := h.d.at hok (j := i) (by rw [List.length_map]; exact hlt)
        simp only [List.length_map, List.getElem_map] at hv hrow
        have hget : s.done[i]? = some s.done[i] := List.getElem?_eq_getElem hlt
        have hci : (i : Int) < (s.done.length : Int) := by omega
        have hw := wrap_succ (n := i) (by omega)
        have hsi : i + 1 ≤ s.done.length := by omega
        have hbd := hsm.b _ (List.mem_of_getElem? hget)
        have hdl := hdnt _ (List.mem_of_getElem? hget)
        obtain ⟨⟨c1, c2, c3, c4⟩, -⟩ := (done_iff.1 hdn).1 _ (List.mem_of_getElem? hget)
        generalize s.done[i] = c at hrow hget hbd hdl c1 c2 c3 c4
        have hnx : Q ++ allT dnT s.done (i + 1) = (Q ++ allT dnT s.done i) ++ dnT c := by rw [hnext c hget, List.append_assoc]
        generalize Q ++ allT dnT s.done i = P at hnx hPl ⊢
        obtain ⟨ses, id, ⟨code, val, ver, rws, rv⟩⟩ := c
        simp only at hbd c1 c2 c3 c4
        obtain ⟨rfl, rfl⟩ := hbd
        have hcT : numT ses.toNat ++ numT id.toNat ++ ansT (bareA code val ver) = dnT ⟨ses, id, ⟨code, val, ver, [], .nils⟩⟩ := rfl
        rw [← hcT, List.length_append, List.length_append] at hdl
        have y1 := fun H => ei28 (n := ses) (by omega) (by omega) H
        have y2 := fun H => ei28 (n := id) (by omega) (by omega) H
        have p1 : (numT ses.toNat).length + (numT id.toNat).length ≤ 9223372036854775807 := by omega
        have p2 : (numT ses.toNat).length + (numT id.toNat).length + (ansT (bareA code val ver)).length ≤ 9223372036854775807 := by omega
        have p5 : P.length + ((numT ses.toNat).length + (numT id.toNat).length + (ansT (bareA code val ver)).length) ≤ 9223372036854775807 := by omega
        simp only [go_sem, hci, hsi, hv, hgo, hrow, Dn.enc, off6, hw, y1, y2, ei72, p1, p2, p5]
        exact ⟨i + 1, by show s.done.length - (i + 1) < s.done.length - i; omega, hsi, _, [], rfl, Wk.of rfl (by decide) (by simp only [go_sem, hrd, hrho, hv, hw, hnx, hcT]; first | done | rfl | trace_state) (by simp only [go_sem])⟩
      · have hci : ¬ (i : Int) < (s.done.length : Int) := by omega
        obtain rfl : i = s.done.length := by omega
        rw [← hI]
        simp only [go_sem, hci]
        refine CL.of (f110_ok hL) ?_
        rintro _ G' ⟨rfl, hG⟩; rw [hG]; clear hG
        simp only [go_sem]
        exact ⟨_, rfl⟩
end Go.Proofs
/- a shard as a copy: walked. -/

set_option linter.all false
set_option linter.all false
set_option maxRecDepth 100000
namespace Go.Proofs
open Go Go.Ev
variable {H : Heap}

/-- what is cloned -/
def AC (e : Nat) (H : Heap) (args : List AV) (xs : List (List AV)) : Prop := ∃ v, args = [v] ∧ Arr H e v xs ∧ xs.length < 100000 ∧ ∀ top σ, xs.map (AV.rens (rho H top σ)) = xs
noncomputable def ECl (f : FuncId) (args : List AV) (H : Heap) : RC :=
  match f with
  | 106 => ot (AC 5 H args) fun xs => .ok (zV (nilB (args.headD .nils)) H.nx 5 xs.length) (H.ext [zB (nilB (args.headD .nils)) 5 xs])
  | 107 => ot (AC 4 H args) fun xs => .ok (zV (nilB (args.headD .nils)) H.nx 4 xs.length) (H.ext [zB (nilB (args.headD .nils)) 4 xs])
  | 108 => ot (AC 6 H args) fun xs => .ok (zV (nilB (args.headD .nils)) H.nx 6 xs.length) (H.ext [zB (nilB (args.headD .nils)) 6 xs])
  | 109 => match args with | [.nils] => .ok .nils H | _ => .fail
  | _ => .fail
theorem good_ECl : Ev.Good Tryz.prog ECl := by
  intro f args H r G he φ w args' ha hw
  refine (?_ : FnOk Tryz.prog f args H fun v' G' => v' = r ∧ G' = G).one φ w args' ha hw
  unfold ECl at he
  split at he
  · obtain ⟨xs, ⟨v, rfl, h1, h2, h3⟩, hz⟩ := ot_ok he
    clear he
    cases hz
    exact clone_zd clo50 h1 (by omega) h3
  · obtain ⟨xs, ⟨v, rfl, h1, h2, h3⟩, hz⟩ := ot_ok he
    clear he
    cases hz
    exact clone_zd clo75 h1 (by omega) h3
  · obtain ⟨xs, ⟨v, rfl, h1, h2, h3⟩, hz⟩ := ot_ok he
    clear he
    cases hz
    exact clone_zd clo57 h1 (by omega) h3
  · split at he
    · cases he; exact clone_nil clo55
    · cases he
  · cases he
theorem ac_eq {e : Nat} (he : 0 < e) {H : Heap} {v : AV} {xs : List (List AV)} (hA : Arr H e v xs) (hl : xs.length < 100000) (hx : ∀ top σ, xs.map (AV.rens (rho H top σ)) = xs) (c : List (List AV) → RC) : ot (AC e H [v]) c = c xs :=
  ot_eq (p := AC e H [v]) (x := xs) ⟨v, rfl, hA, hl, hx⟩ (by
    rintro ys ⟨v', h1, h2, _⟩
    injection h1 with h1 _
    subst h1
    exact Arr.uniq h2 hA he) c
theorem ec77 {v : AV} {l : List Cell} (hA : Arr H 5 v (l.map Cell.enc)) (hl : l.length < 100000) (L : List Blk) : ECl 106 [v] (H.ext L) = .ok (zV (nilB v) (H.key L.length) 5 l.length) (H.ext (L ++ [zB (nilB v) 5 (l.map Cell.enc)])) := by
  show ot (AC 5 (H.ext L) [v]) _ = _
  rw [ac_eq (by decide) (hA.ext L) (by rw [List.length_map]; exact hl) (fun _ _ => Cell.map_rens _ _), List.length_map, Heap.nx_ext, Heap.ext_append]
  rfl
theorem ec78 {v : AV} {l : List Evn} (hA : Arr H 4 v (l.map Evn.enc)) (hl : l.length < 100000) (L : List Blk) : ECl 107 [v] (H.ext L) = .ok (zV (nilB v) (H.key L.length) 4 l.length) (H.ext (L ++ [zB (nilB v) 4 (l.map Evn.enc)])) := by
  show ot (AC 4 (H.ext L) [v]) _ = _
  rw [ac_eq (by decide) (hA.ext L) (by rw [List.length_map]; exact hl) (fun _ _ => Evn.map_rens _ _), List.length_map, Heap.nx_ext, Heap.ext_append]
  rfl
theorem bareL.rens {l : List Dn} (h : bareL l) (ρ : K → K) : (l.map Dn.enc).map (AV.rens ρ) = l.map Dn.enc := by
  rw [List.map_map]
  refine List.map_congr_left fun d hd => ?_
  simp only [Function.comp, Dn.enc, AV.rens, AV.ren, (h d hd).1]
theorem bareL.ok {l : List Dn} (h : bareL l) (H : Heap) : allOk H l := fun d hd => ⟨by rw [(h d hd).1, (h d hd).2]; exact .inl ⟨rfl, rfl⟩, by rw [(h d hd).2]; exact Nat.zero_le _⟩
theorem ec79 {v : AV} {l : List Dn} (hA : Arr H 6 v (l.map Dn.enc)) (hb : bareL l) (hl : l.length < 100000) (L : List Blk) : ECl 108 [v] (H.ext L) = .ok (zV (nilB v) (H.key L.length) 6 l.length) (H.ext (L ++ [zB (nilB v) 6 (l.map Dn.enc)])) := by
  show ot (AC 6 (H.ext L) [v]) _ = _
  rw [ac_eq (by decide) (hA.ext L) (by rw [List.length_map]; exact hl) (fun _ _ => hb.rens _), List.length_map, Heap.nx_ext, Heap.ext_append]
  rfl
theorem ec80 (H : Heap) : ECl 109 [.nils] H = .ok .nils H := rfl
/-- a shard whose lists are copies -/
noncomputable def Sh.cop (s : Sh) (k0 k1 k2 : K) : Sh := ⟨s.id, s.ep, s.fr, s.to, s.frz, s.cells, s.evs, s.done, zV (nilB s.cv) k0 5 s.cells.length, zV (nilB s.ev) k1 4 s.evs.length, zV (nilB s.dv) k2 6 s.done.length⟩
noncomputable def copB (s : Sh) : List Blk := [zB (nilB s.cv) 5 (s.cells.map Cell.enc), zB (nilB s.ev) 4 (s.evs.map Evn.enc), zB (nilB s.dv) 6 (s.done.map Dn.enc)]
theorem Sh.cop_ok {s : Sh} (h : s.ok H) {L : List Blk} {i j m : Nat} (h1 : L[i]? = some (zB (nilB s.cv) 5 (s.cells.map Cell.enc))) (h2 : L[j]? = some (zB (nilB s.ev) 4 (s.evs.map Evn.enc))) (h3 : L[m]? = some (zB (nilB s.dv) 6 (s.done.map Dn.enc))) : (s.cop (H.key i) (H.key j) (H.key m)).ok (H.ext L) :=
  ⟨arr_zV h1 (List.length_map ..), arr_zV h2 (List.length_map ..), arr_zV h3 (List.length_map ..), h.dok.ext L, h.cl, h.el, h.dl⟩
theorem set_same {α : Type} {l : List α} {k : Nat} {x : α} (h : l[k]? = some x) : l.set k x = l := by
  apply List.ext_getElem?
  intro j
  by_cases hj : k = j
  · subst hj
    rw [List.getElem?_set_self (List.getElem?_eq_some_iff.1 h).1, h]
  · rw [List.getElem?_set_ne hj]
theorem f50_ok {s : Sh} (h : s.ok H) (hsm : smallS s) :
    FnOk Tryz.prog 50 [.agg s.enc] H fun r G => r = .agg (s.cop (H.key 0) (H.key 1) (H.key 2)).enc ∧ G = H.ext (copB s) := by
  refine FnOk.dropW ?_
  refine FnOk.of_WW Tryz.func50 rfl C50ok R50ok ECl good_ECl ?_
  obtain ⟨hb, hc, he, hd⟩ := hsm
  have i77 := ec77 h.c (by omega)
  have i78 := ec78 h.e (by omega)
  have i79 := ec79 h.d hb (by omega)
  have drn := hb.rens
  simp only [go_sem, C50, Sh.enc, i77, i78, i79]
  refine LL.st good_ECl (fun i : Nat => s.done.length - i) (fun i => i ≤ s.done.length)
    (fun i => [((.o .z), .ptr (H.key 0) 0), ((.i .z), .ptr (H.key 1) 0), ((.i (.i (.o (.o .z)))), .int .i64 s.done.length), ((.o (.o (.i (.o .z)))), .int .i64 i)])
    (fun _ => .row true 8 [(s.cop (H.key 2) (H.key 3) (H.key 4)).enc] :: .row true 8 [[.int .i64 0, .int .i64 0, .str [], .str [], .bool false, .nils, .nils, .nils]] :: copB s) ?_ 0 (σ := [0, 1, 2, 3, 4]) (Wk.of rfl (by decide) (by simp only [go_sem]; first | done | rfl | trace_state) (by simp only [go_sem, copB, Sh.cop, Sh.enc, zV_ren, ↓zB_ren, Cell.map_rens, Evn.map_rens, drn, implies_true]; first | done | trace_state)) (Nat.zero_le _)
  rintro i hi
  by_cases hlt : i < s.done.length
  · have hci : (i : Int) < (s.done.length : Int) := by omega
    have hw := wrap_succ (n := i) (by omega)
    have hget : s.done[i]? = some s.done[i] := List.getElem?_eq_getElem hlt
    generalize s.done[i] = d at hget
    obtain ⟨hn1, hn2⟩ := hb d (List.mem_of_getElem? hget)
    have hrow : (s.done.map Dn.enc)[i]? = some [.int .i64 d.ses, .int .i64 d.id, .int .i64 d.an.code, .str d.an.val, .int .i64 d.an.ver, .nils] := by
      rw [List.getElem?_map, hget, ← hn1]; rfl
    have hset : (s.done.map Dn.enc).set i [.int .i64 d.ses, .int .i64 d.id, .int .i64 d.an.code, .str d.an.val, .int .i64 d.an.ver, .nils] = s.done.map Dn.enc := set_same hrow
    have hv := zV_pos (z := nilB s.dv) (k := H.key 4) (esz := 6) (n := s.done.length) (by omega)
    have hB := zB_pos (z := nilB s.dv) (esz := 6) (xs := s.done.map Dn.enc) (by rw [List.length_map]; omega)
    have hsi : i + 1 ≤ s.done.length := hlt
    simp only [go_sem, copB, Sh.cop, Sh.enc, hci, hw, hv, hB, hrow, hset, hsi, off6, ec80, Nat.zero_add]
    exact ⟨i + 1, by show s.done.length - (i + 1) < s.done.length - i; omega, hlt, _, [0, 1, 2, 3, 4], rfl, Wk.of rfl (by decide) (by simp only [go_sem]; first | done | rfl | trace_state) (by simp only [go_sem, copB, Sh.cop, Sh.enc, hv, hB, zV_ren, ↓zB_ren, Cell.map_rens, Evn.map_rens, drn, implies_true]; first | done | trace_state)⟩
  · have hci : ¬ (i : Int) < (s.done.length : Int) := by omega
    simp only [go_sem, copB, Sh.cop, Sh.enc, hci]
    exact ⟨_, [2, 3, 4], by simp only [zV_ren, go_sem], rfl, rfl, by decide, by simp only [go_sem, copB, zV_ren, ↓zB_ren, Cell.map_rens, Evn.map_rens, drn, implies_true]⟩
end Go.Proofs
/- a node's shards told: by number, by key, by where they begin: walked. -/

set_option linter.all false
set_option linter.all false
set_option maxRecDepth 100000
namespace Go.Proofs
open Go Go.Ev
variable {H : Heap}

theorem get_lit {bl : List Blk} {i : Nat} {x : Blk} (h : bl[i]? = some x) : (H.ext bl).get (H.key i) = some x := by
  rw [Heap.get_ext_key _ _ _ (List.getElem?_eq_some_iff.1 h).1]; exact h
theorem get_lit2 {bl L : List Blk} {i : Nat} {x : Blk} (h : bl[i]? = some x) : ((H.ext bl).ext L).get (H.key i) = some x := by
  rw [Heap.ext_append]
  refine get_lit ?_
  rw [List.getElem?_append_left (List.getElem?_eq_some_iff.1 h).1]
  exact h
theorem cap_lit {bl : List Blk} {i : Nat} (h : i < bl.length) (g : FuncId) (top : Nat) (σ : List Nat) : AV.ren (rho (H.ext bl) top σ) (.fn (.func g) [] [.ptr (H.key i) 0]) = .fn (.func g) [] [.ptr (H.key i) 0] := by
  have : rho (H.ext bl) top σ (H.key i) = H.key i := rho_old (by rw [Heap.nx_ext, Heap.toNat_key, Heap.toNat_key]; omega)
  simp only [AV.ren, AV.rens, this]
/-- no shard -/
def zS : List AV := [.int .i64 0, .int .i64 0, .str [], .str [], .bool false, .nils, .nils, .nils]
section
variable {G : Heap} {k : K} {lv gv : AV} {hs : List Sh} {gs : List Gn}
theorem f41_no (k : K) {i : Int} (hi : i < 0) : FnOk Tryz.prog 41 [.ptr k 0, .int .i64 i] G fun r G' => r = .tup [.agg zS, .bool false] ∧ G' = G := by
  refine FnOk.drop (R := fun r => r = .tup [.agg zS, .bool false]) ?_ (by rintro v rfl ρ; simp only [zS, AV.ren, AV.rens])
  refine FnOk.of_WW Tryz.func41 rfl C41ok R41ok E0 good_E0 ?_
  simp only [go_sem, C41, hi, zS]
  exact ⟨_, rfl⟩
theorem f41_yes (h : isHd G k lv gv hs gs) {i : Nat} {s : Sh} (hi : hs[i]? = some s) : FnOk Tryz.prog 41 [.ptr k 0, .int .i64 i] G fun r G' => r = .tup [.agg (s.cop (G.key 0) (G.key 1) (G.key 2)).enc, .bool true] ∧ G' = G.ext (copB s) := by
  refine FnOk.dropW ?_
  refine FnOk.of_WW Tryz.func41 rfl C41ok R41ok E0 good_E0 ?_
  have hk : ∀ L, (G.ext L).get k = _ := fun L => Heap.get_ext_old h.ok h.row L
  obtain ⟨hlt, hs'⟩ := List.getElem?_eq_some_iff.1 hi
  obtain ⟨kk, r, ex', cap', wr, rows, hv, hrho, hgo, hrow⟩ := h.l.at h.ok (j := i) (by rw [List.length_map]; exact hlt)
  simp only [List.length_map, List.getElem_map, hs'] at hv hrow
  have hm := List.mem_of_getElem? hi
  have hsok := h.each s hm
  have hsm := h.small s hm
  have hci : ¬ (i : Int) < 0 := by omega
  have hsi : i + 1 ≤ hs.length := hlt
  have drn := bareL.rens hsm.b
  simp only [go_sem, C41, hci, hk, hv, hsi, hgo, hrow, Sh.enc]
  refine CL.of (f50_ok (hsok.ext _) hsm) ?_
  rintro _ _ ⟨rfl, rfl⟩
  simp only [go_sem, Sh.enc, Sh.cop, copB, Heap.key_ext]
  exact ⟨_, [1, 2, 3], by simp only [zV_ren, go_sem], rfl, rfl, by decide, by simp only [go_sem, zV_ren, ↓zB_ren, Cell.map_rens, Evn.map_rens, drn, implies_true]⟩
theorem f15_yes (h : isHd G k lv gv hs gs) (n : Int) {i : Nat} {s : Sh} (hx : idx (fun s => decide (s.id = n)) hs 0 = i) (hi : hs[i]? = some s) : FnOk Tryz.prog 15 [.ptr k 0, .int .i64 n] G fun r G' => r = .tup [.agg (s.cop (G.key 0) (G.key 1) (G.key 2)).enc, .bool true] ∧ G' = G.ext (copB s) := by
  refine FnOk.dropW ?_
  refine FnOk.of_WW Tryz.func15 rfl C15ok R15ok E0 good_E0 ?_
  have hsm := h.small s (List.mem_of_getElem? hi)
  have drn := bareL.rens hsm.b
  simp only [go_sem, C15]
  refine CL.of (f42_ok (q := fun s => decide (s.id = n)) (h.ext _) (fun _ _ => call43 ..) (fun top σ => by exact cap_lit (Nat.zero_lt_succ _) 43 top σ) (fun s _ L => by exact f43_ok (get_lit2 rfl) s)) ?_
  rintro _ G' ⟨rfl, hG⟩
  rw [hG, hx]
  clear hG
  simp only [go_sem]
  refine CL.of (f41_yes (h.ext _) hi) ?_
  rintro _ _ ⟨rfl, rfl⟩
  simp only [go_sem, Sh.enc, Sh.cop, copB, Heap.key_ext]
  exact ⟨_, [2, 3, 4], by simp only [zV_ren, go_sem], rfl, rfl, by decide, by simp only [go_sem, zV_ren, ↓zB_ren, Cell.map_rens, Evn.map_rens, drn, implies_true]⟩
theorem f15_no (h : isHd G k lv gv hs gs) (n : Int) (hx : idx (fun s => decide (s.id = n)) hs 0 = -1) : FnOk Tryz.prog 15 [.ptr k 0, .int .i64 n] G fun r G' => r = .tup [.agg zS, .bool false] ∧ G' = G := by
  refine FnOk.drop (R := fun r => r = .tup [.agg zS, .bool false]) ?_ (by rintro v rfl ρ; simp only [zS, AV.ren, AV.rens])
  refine FnOk.of_WW Tryz.func15 rfl C15ok R15ok E0 good_E0 ?_
  simp only [go_sem, C15]
  refine CL.of (f42_ok (q := fun s => decide (s.id = n)) (h.ext _) (fun _ _ => call43 ..) (fun top σ => by exact cap_lit (Nat.zero_lt_succ _) 43 top σ) (fun s _ L => by exact f43_ok (get_lit2 rfl) s)) ?_
  rintro _ G' ⟨rfl, hG⟩
  rw [hG, hx]
  clear hG
  simp only [go_sem]
  refine CL.of (f41_no _ (by decide)) ?_
  rintro _ G' ⟨rfl, hG⟩
  rw [hG]
  clear hG
  simp only [go_sem, zS]
  exact ⟨_, rfl⟩
end
end Go.Proofs
/- what bytes begin with is told in one way; pieces taken, as told beforehand. -/

set_option linter.all false
set_option linter.all false
set_option maxRecDepth 100000
namespace Go.Proofs
open Go Go.Ev
variable {H : Heap}

def okB (s : List Nat) (p : Bool × List Nat) : Prop := s = p.1.toNat :: p.2 ∧ p.2.length < 1000000
section
variable {k : K} {l : List Nat}
end
end Go.Proofs
/- a shard taken of its bytes: walked. -/

set_option linter.all false
set_option linter.all false
set_option maxRecDepth 100000
namespace Go.Proofs
open Go Go.Ev
variable {H : Heap}

section
variable {k : K} {l : List Nat} {c : Blk}
end
/-- what is left of a list's bytes -/
def flT {α : Type} (f : α → List Nat) (l : List α) : List Nat := (l.map f).flatten
/-- behind cells, behind events -/
noncomputable def r3 (s : Sh) : List Nat := []
noncomputable def r2 (s : Sh) : List Nat := numT s.done.length ++ flT dnT s.done
noncomputable def r1 (s : Sh) : List Nat := numT s.evs.length ++ (flT evT s.evs ++ r2 s)
end Go.Proofs
/- errors.As, of numbers: by its contract, as a law of memories. -/

set_option linter.all false
set_option linter.all false
set_option maxRecDepth 100000
namespace Go.Proofs
open Go Go.Ev
variable {H : Heap}

section
variable {P : Program} {φ : Phi} {w : World}
theorem cell_of_row (hw : WRel P φ H w) {k : K} {x : AV} {a : At} (hk : H.get k = some (.row true 1 [[x]])) (hφ : φ k = some a) : ∃ v, w.cell? ⟨a.b, a.o, none⟩ = some v ∧ VRel P φ x v ∧ w.frozen? ⟨a.b, a.o, none⟩ = false := by
  obtain ⟨hp, _, pre, vs, post, e, lo, hi, g1, g2, g3, g4, g5, g6⟩ := hw.blk k _ a hk hφ
  have g5 : VRels P φ [x] vs := g5
  cases g5 with
  | cons _ _ v l h1 h2 =>
    cases h2
    refine ⟨v, ?_, h1, ?_⟩
    · simp only [World.cell?, g1]
      simp [← g2]
    · simp only [World.frozen?, g1]
      have h4 := g4 rfl
      simp at g3 ⊢
      omega
/-- a call that writes a number into a cell -/
theorem FnOk.of_calls_set {f : FuncId} {args : List AV} {k : K} {x y v : AV} {y' : Value} (hk : H.get k = some (.row true 1 [[x]])) (hy : ∀ φ, VRel P φ y y') (hone : y'.oneCell' = true) (hv : ∀ φ, ∃ v', VRel P φ v v')
    (h : ∀ φ w args', VRels P φ args args'.toList → WRel P φ H w → ∃ a, φ k = some a ∧ ∀ old, w.cell? ⟨a.b, a.o, none⟩ = some old → w.frozen? ⟨a.b, a.o, none⟩ = false →
      Calls P f args' w fun e u => (∃ v', e = .returned v' ∧ VRel P φ v v') ∧ ∃ w4, Grows w w4 ∧ u = w4.setCell ⟨a.b, a.o, none⟩ y') :
    FnOk P f args H fun r G => r = v ∧ G = H.set k (.row true 1 [[y]]) := by
  intro φ w args' ha hw
  obtain ⟨a, hφ, hc⟩ := h φ w args' ha hw
  obtain ⟨old, h1, _, h2⟩ := cell_of_row hw hk hφ
  refine (hc old h1 h2).mono ?_
  rintro e u ⟨⟨v', rfl, hv'⟩, w4, hg, rfl⟩
  have hw4 := hw.grows hg.size hg.old
  obtain ⟨old4, h14, _, h24⟩ := cell_of_row hw4 hk hφ
  obtain ⟨u, hst, hwu, hE⟩ := storeCells_sound (off := 0) (vals := [y]) (vals' := [y']) (rows' := [[y]]) hw4 hk hφ (.cons _ _ _ _ (hy φ) .nil) (by intro z hz; rw [List.mem_singleton.1 hz]; exact hone) (put_rows 1 [[x]] [[y]] 0 (by intro z hz; rw [List.mem_singleton.1 hz]; rfl) (by intro z hz; rw [List.mem_singleton.1 hz]; rfl) (Nat.le_refl 1))
  have hst' : (storeCells ⟨a.b, a.o, none⟩ [y']).run P w4 = .ok () (w4.setCell ⟨a.b, a.o, none⟩ y') := by
    simp only [storeCells, Addr.add, Sem.run_bind, Nat.add_zero, if_true]
    rw [run_store P w4 _ _ _ hone, h14]
    simp [h24]
  rw [Nat.add_zero] at hst
  rw [hst] at hst'
  injection hst' with _ hu
  subst hu
  refine ⟨v, _, ⟨rfl, rfl⟩, φ, v', rfl, hv', hwu, ?_⟩
  exact ⟨hE.phi, hE.nx, Nat.le_trans hg.size hE.size, fun b hb hn => by rw [hE.keeps b (Nat.lt_of_lt_of_le hb hg.size) hn, hg.old b hb], hE.hidden, fun b hb ho => hE.own b (Nat.lt_of_lt_of_le hb hg.size) ho, hE.os.trans hg.os, hE.tape.trans hg.tape, hE.output.trans hg.output⟩
end
end Go.Proofs
/- a shard of an epoch; what is done to a shard that is there: walked. -/

set_option linter.all false
set_option linter.all false
set_option maxRecDepth 100000
namespace Go.Proofs
open Go Go.Ev
variable {H : Heap}

section
variable {G : Heap} {k : K} {lv gv : AV} {hs : List Sh} {gs : List Gn}
theorem idx_one {α : Type} {q : α → Bool} {s : α} (h : q s = true) : idx q [s] 0 = ((0 : Nat) : Int) := by unfold idx; rw [h]; rfl
end
end Go.Proofs
/- a node's records done: freezes, thaws, refusals: walked. -/

set_option linter.all false
set_option linter.all false
set_option maxRecDepth 100000
namespace Go.Proofs
open Go Go.Ev
variable {H : Heap}

def zA : List AV := [.int .i64 0, .str [], .int .i64 0, .nils]
section
variable {G : Heap} {k : K} {lv gv : AV} {hs : List Sh} {gs : List Gn}
end
end Go.Proofs
/- The laid-out code of the functions that are walked. -/

set_option linter.all false
set_option maxRecDepth 100000
namespace Go.Proofs
open Go Go.Ev K
@[go_sem] theorem call13 (a H) : callC Tryz.prog 13 a H = .call 13 a := callC_ok (by kernel_rfl) a H
noncomputable def C14 := mkC Tryz.prog Tryz.f14 7
theorem C14ok : CCok Tryz.prog Tryz.f14 7 C14 := mkC_ok _
@[go_sem] theorem call14 (a H) : callC Tryz.prog 14 a H = .call 14 a := callC_ok (by kernel_rfl) a H
theorem R14ok : resKs Tryz.prog Tryz.f14.results.toList = some [RK.tmp z.i] := by kernel_rfl
noncomputable def C84 := mkC Tryz.prog Tryz.f84 33
theorem C84ok : CCok Tryz.prog Tryz.f84 33 C84 := mkC_ok _
@[go_sem] theorem call84 (a H) : callC Tryz.prog 84 a H = .call 84 a := callC_ok (by kernel_rfl) a H
theorem R84ok : resKs Tryz.prog Tryz.f84.results.toList = some [] := by kernel_rfl
noncomputable def C85 := mkC Tryz.prog Tryz.f85 9
theorem C85ok : CCok Tryz.prog Tryz.f85 9 C85 := mkC_ok _
@[go_sem] theorem call85 (a H) : callC Tryz.prog 85 a H = .call 85 a := callC_ok (by kernel_rfl) a H
theorem R85ok : resKs Tryz.prog Tryz.f85.results.toList = some [RK.cell z.i true 24] := by kernel_rfl
@[go_sem] theorem call93 (a H) : callC Tryz.prog 93 a H = .call 93 a := callC_ok (by kernel_rfl) a H
@[go_sem] theorem call28 (a H) : callC Tryz.prog 28 a H = .call 28 a := callC_ok (by kernel_rfl) a H
end Go.Proofs
/- A node's disk, journal: walked. -/



set_option linter.all false
set_option maxRecDepth 100000
namespace Go.Proofs
open Go Go.Ev
variable {H : Heap}
section
variable {k : K} {wr : Bool}
theorem f14_ok {a b c d e f g h : AV} (hk : H.get k = some (.row wr 8 [[a, b, c, d, e, f, g, h]])) : FnOk Tryz.prog 14 [.ptr k 0] H fun r G => r = d ∧ G = H := by
  refine FnOk.assume fun hok => ?_
  have hk' := fun L => Heap.get_ext_old hok hk L
  refine FnOk.of_WW Tryz.func14 rfl C14ok R14ok E0 good_E0 ?_
  simp only [go_sem, C14, hk']
  rfl
end
end Go.Proofs
/- Loops of few rounds, unrolled. -/

set_option linter.all false
namespace Go.Ev
variable {P : Program} {H : Heap} {T : Tr AV} {E : FuncId → List AV → Heap → RC} {N : Nat} {H0 : Heap} {k : List It} {Q : Ex → Tr AV → Heap → Prop}
noncomputable def UN (P : Program) (E : FuncId → List AV → Heap → RC) (N : Nat) (H0 : Heap) (x : CC) (k : List It) (Q : Ex → Tr AV → Heap → Prop) : Nat → Tr AV → Heap → Prop
  | 0, T, H => WW P E N H0 [.code x] T H (behind (fun _ _ => False) (postW P E N H0 k Q))
  | n + 1, T, H => WW P E N H0 [.code x] T H (behind (UN P E N H0 x k Q n) (postW P E N H0 k Q))
@[go_sem] theorem UN_0 (x : CC) : UN P E N H0 x k Q 0 T H = WW P E N H0 [.code x] T H (behind (fun _ _ => False) (postW P E N H0 k Q)) := nrf rfl
@[go_sem] theorem UN_1 (x : CC) : UN P E N H0 x k Q 1 T H = WW P E N H0 [.code x] T H (behind (UN P E N H0 x k Q 0) (postW P E N H0 k Q)) := nrf rfl
@[go_sem] theorem UN_2 (x : CC) : UN P E N H0 x k Q 2 T H = WW P E N H0 [.code x] T H (behind (UN P E N H0 x k Q 1) (postW P E N H0 k Q)) := nrf rfl
@[go_sem] theorem UN_3 (x : CC) : UN P E N H0 x k Q 3 T H = WW P E N H0 [.code x] T H (behind (UN P E N H0 x k Q 2) (postW P E N H0 k Q)) := nrf rfl
@[congr] theorem UN_congr {x : CC} {n : Nat} {U : Tr AV} {G : Heap} (h : T = U) (h2 : H = G) : UN P E N H0 x k Q n T H = UN P E N H0 x k Q n U G := by rw [h, h2]
/-- a call that is known, two calls that are known: for regions that draw their order -/
theorem withE_eq (E : FuncId → List AV → Heap → RC) (f : FuncId) (args : List AV) (H : Heap) (v : AV) (G : Heap) : withE E f args H v G f args H = .ok v G := by
  unfold withE
  rw [if_pos ⟨rfl, rfl, rfl⟩]
theorem withE_ne {E : FuncId → List AV → Heap → RC} {f g : FuncId} (h : g ≠ f) (args a : List AV) (H J : Heap) (v : AV) (G : Heap) : withE E f args H v G g a J = E g a J := by
  unfold withE
  rw [if_neg fun e => h e.1]
theorem one_call {f : FuncId} {a : List AV} {v : AV} {G : Heap} (h : FnOk P f a H fun r J => r = v ∧ J = G) : ∃ E : FuncId → List AV → Heap → RC, Good P E ∧ E f a H = .ok v G := ⟨withE E0 f a H v G, good_withE good_E0 h, withE_eq ..⟩
theorem two_calls {f g : FuncId} (hne : g ≠ f) {a b : List AV} {v u : AV} {H2 G G2 : Heap} (h : FnOk P f a H fun r J => r = v ∧ J = G) (h2 : FnOk P g b H2 fun r J => r = u ∧ J = G2) :
    ∃ E : FuncId → List AV → Heap → RC, Good P E ∧ E f a H = .ok v G ∧ E g b H2 = .ok u G2 := ⟨withE (withE E0 f a H v G) g b H2 u G2, good_withE (good_withE good_E0 h) h2, by rw [withE_ne (Ne.symm hne), withE_eq], withE_eq ..⟩
end Go.Ev
/- A put noted by a node: walked. -/


set_option linter.all false
set_option maxRecDepth 100000
namespace Go.Proofs
open Go Go.Ev
variable {H : Heap}
section
variable {G : Heap} {kn kd kj kh : K}
/-- what there was is there still, but for some blocks -/
structure Kp (ks : List K) (G G' : Heap) : Prop where
  keep : ∀ j b, j ∉ ks → G.get j = some b → G'.get j = some b
  le : G.nx.toNat ≤ G'.nx.toNat
end
end Go.Proofs
/- Answers that wait: walked. -/

set_option linter.all false
set_option maxRecDepth 100000
namespace Go.Proofs
open Go Go.Ev
variable {H : Heap}
section
variable {G G' : Heap} {ks : List K}
end
section
variable {G : Heap} {kn kw : K}
/-- one more put behind a list that was there before -/
theorem appQ_old (hok : G.ok) {n : Nat} {x : List AV} {xs : List (List AV)} (hw : G.get kw = some (.row true 24 (x :: xs))) (hn : xs.length = n) {L : List Blk} {j : Nat} {wr ex : Bool} {cap : Nat} {y : List AV} (hj : L[j]? = some (.row wr 24 [y])) (hN : n < 100000) :
    appQ 24 328 (some (outV kw 24 (n + 1))) (some (.slice (G.key j) 0 1 24 ex cap)) (G.ext L) = .val (.slice ((G.set kw .dead).key L.length) 0 (n + 2) 24 false (n + 2)) ((G.set kw .dead).ext (L ++ [.row true 24 (x :: xs ++ [y])])) := by
  show appR 24 328 (.c _) (.c _) .lf (G.ext L) = _
  subst hn
  have hjl := (List.getElem?_eq_some_iff.1 hj).1
  have hg := Heap.get_ext_old hok hw L
  have hb1 : (2 * ((xs.length + 1) + 1) + 192) * 328 ≤ 281474976710656 := Nat.le_trans (Nat.mul_le_mul_right _ (show _ ≤ 300000 by omega)) (by decide)
  have hs := fun (α : Type) (c : Heap → α) => Heap.setC_here hok hw .dead L c
  unfold appR
  show withX _ (.c (.slice kw 0 (xs.length + 1) 24 false (xs.length + 1))) _ _ = _
  simp only [go_sem, withX, evX, Heap.get_ext_key _ _ _ hjl, hg, hj, List.drop_zero, List.take_succ_cons, List.take_zero, List.length_cons, List.length_nil, Nat.zero_mod, Nat.zero_div, Nat.reduceAdd, Nat.reduceSub, Nat.reduceMul, Nat.reduceDiv, Nat.reduceMod, Nat.reduceEqDiff, Nat.reduceLeDiff, Nat.reduceLT, reduceIte, List.take_length, List.cons_append]
  rw [if_pos (Nat.le_refl _), if_neg (by omega), if_pos hb1, hs, Heap.addC_ext]
  rfl
theorem says_end {D : Heap} {ks : List K} {c : Blk} (hdo : D.ok) (hdk : D.get kn = some c) (hD : Kp ks G D) (hkn : kn ∈ ks) (hks : ∀ j ∈ ks, ∃ b, G.get j = some b) (hGo : G.ok) {L : List Blk} {i : Nat} {r : Blk} (hL : L[i]? = some r) (b : Blk) :
    ((D.set kn b).ext L).get kn = some b ∧ ((D.set kn b).ext L).get (D.key i) = some r ∧ ((D.set kn b).ext L).ok ∧ Kp ks G ((D.set kn b).ext L) ∧ D.key i ∉ ks := by
  have hil := (List.getElem?_eq_some_iff.1 hL).1
  refine ⟨Heap.get_set_here hdo hdk b L, (Heap.get_key_set hil).trans hL, Heap.ok_ext (Heap.ok_set hdo hdk) L, ⟨fun j d hj hd => Heap.get_set_there hdo (hD.keep j d hj hd) (by rintro rfl; exact hj hkn) b L, Nat.le_trans hD.le (by rw [Heap.nx_ext, Heap.toNat_key, Heap.nx_set]; exact Nat.le_add_right _ _)⟩, fun hm => ?_⟩
  obtain ⟨d, hd⟩ := hks _ hm
  have h1 := hGo _ _ hd
  have h2 := hD.le
  rw [Heap.toNat_key] at h1
  omega
end
end Go.Proofs
/- The laid-out code of the functions that are walked. -/

set_option linter.all false
set_option maxRecDepth 100000
namespace Go.Proofs
open Go Go.Ev K
noncomputable def C30 := mkC Tryz.prog Tryz.f30 69
theorem C30ok : CCok Tryz.prog Tryz.f30 69 C30 := mkC_ok _
@[go_sem] theorem call30 (a H) : callC Tryz.prog 30 a H = .call 30 a := callC_ok (by kernel_rfl) a H
theorem R30ok : resKs Tryz.prog Tryz.f30.results.toList = some [RK.tmp z.i] := by kernel_rfl
noncomputable def C67 := mkC Tryz.prog Tryz.f67 9
theorem C67ok : CCok Tryz.prog Tryz.f67 9 C67 := mkC_ok _
@[go_sem] theorem call67 (a H) : callC Tryz.prog 67 a H = .call 67 a := callC_ok (by kernel_rfl) a H
theorem R67ok : resKs Tryz.prog Tryz.f67.results.toList = some [RK.tmp z.i] := by kernel_rfl
@[go_sem] theorem call68 (a H) : callC Tryz.prog 68 a H = .call 68 a := callC_ok (by kernel_rfl) a H
@[go_sem] theorem call69 (a H) : callC Tryz.prog 69 a H = .call 69 a := callC_ok (by kernel_rfl) a H
noncomputable def C70 := mkC Tryz.prog Tryz.f70 9
theorem C70ok : CCok Tryz.prog Tryz.f70 9 C70 := mkC_ok _
@[go_sem] theorem call70 (a H) : callC Tryz.prog 70 a H = .call 70 a := callC_ok (by kernel_rfl) a H
theorem R70ok : resKs Tryz.prog Tryz.f70.results.toList = some [RK.tmp z.o.i] := by kernel_rfl
@[go_sem] theorem call71 (a H) : callC Tryz.prog 71 a H = .call 71 a := callC_ok (by kernel_rfl) a H
noncomputable def C72 := mkC Tryz.prog Tryz.f72 9
theorem C72ok : CCok Tryz.prog Tryz.f72 9 C72 := mkC_ok _
@[go_sem] theorem call72 (a H) : callC Tryz.prog 72 a H = .call 72 a := callC_ok (by kernel_rfl) a H
theorem R72ok : resKs Tryz.prog Tryz.f72.results.toList = some [RK.tmp z.o.i] := by kernel_rfl
noncomputable def C75 := mkC Tryz.prog Tryz.f75 9
theorem C75ok : CCok Tryz.prog Tryz.f75 9 C75 := mkC_ok _
@[go_sem] theorem call75 (a H) : callC Tryz.prog 75 a H = .call 75 a := callC_ok (by kernel_rfl) a H
theorem R75ok : resKs Tryz.prog Tryz.f75.results.toList = some [RK.tmp z.o.i] := by kernel_rfl
noncomputable def C133 := mkC Tryz.prog Tryz.f133 19
theorem C133ok : CCok Tryz.prog Tryz.f133 19 C133 := mkC_ok _
@[go_sem] theorem call133 (a H) : callC Tryz.prog 133 a H = .call 133 a := callC_ok (by kernel_rfl) a H
theorem R133ok : resKs Tryz.prog Tryz.f133.results.toList = some [RK.tmp z.o.i] := by kernel_rfl
noncomputable def C134 := mkC Tryz.prog Tryz.f134 19
theorem C134ok : CCok Tryz.prog Tryz.f134 19 C134 := mkC_ok _
@[go_sem] theorem call134 (a H) : callC Tryz.prog 134 a H = .call 134 a := callC_ok (by kernel_rfl) a H
theorem R134ok : resKs Tryz.prog Tryz.f134.results.toList = some [RK.tmp z.o.i] := by kernel_rfl
noncomputable def C135 := mkC Tryz.prog Tryz.f135 19
theorem C135ok : CCok Tryz.prog Tryz.f135 19 C135 := mkC_ok _
@[go_sem] theorem call135 (a H) : callC Tryz.prog 135 a H = .call 135 a := callC_ok (by kernel_rfl) a H
theorem R135ok : resKs Tryz.prog Tryz.f135.results.toList = some [RK.tmp z.o.i] := by kernel_rfl
noncomputable def C10 := mkC Tryz.prog Tryz.f10 53
theorem C10ok : CCok Tryz.prog Tryz.f10 53 C10 := mkC_ok _
@[go_sem] theorem call10 (a H) : callC Tryz.prog 10 a H = .call 10 a := callC_ok (by kernel_rfl) a H
theorem R10ok : resKs Tryz.prog Tryz.f10.results.toList = some [] := by kernel_rfl
noncomputable def C35 := mkC Tryz.prog Tryz.f35 62
theorem C35ok : CCok Tryz.prog Tryz.f35 62 C35 := mkC_ok _
@[go_sem] theorem call35 (a H) : callC Tryz.prog 35 a H = .call 35 a := callC_ok (by kernel_rfl) a H
theorem R35ok : resKs Tryz.prog Tryz.f35.results.toList = some [] := by kernel_rfl
noncomputable def C36 := mkC Tryz.prog Tryz.f36 80
theorem C36ok : CCok Tryz.prog Tryz.f36 80 C36 := mkC_ok _
@[go_sem] theorem call36 (a H) : callC Tryz.prog 36 a H = .call 36 a := callC_ok (by kernel_rfl) a H
theorem R36ok : resKs Tryz.prog Tryz.f36.results.toList = some [] := by kernel_rfl
noncomputable def C92 := mkC Tryz.prog Tryz.f92 64
theorem C92ok : CCok Tryz.prog Tryz.f92 64 C92 := mkC_ok _
@[go_sem] theorem call92 (a H) : callC Tryz.prog 92 a H = .call 92 a := callC_ok (by kernel_rfl) a H
theorem R92ok : resKs Tryz.prog Tryz.f92.results.toList = some [RK.tmp z.o.i, RK.tmp z.i.o] := by kernel_rfl
noncomputable def C11 := mkC Tryz.prog Tryz.f11 13
theorem C11ok : CCok Tryz.prog Tryz.f11 13 C11 := mkC_ok _
@[go_sem] theorem call11 (a H) : callC Tryz.prog 11 a H = .call 11 a := callC_ok (by kernel_rfl) a H
theorem R11ok : resKs Tryz.prog Tryz.f11.results.toList = some [RK.cell z.i.i true 24] := by kernel_rfl
noncomputable def C12 := mkC Tryz.prog Tryz.f12 8
theorem C12ok : CCok Tryz.prog Tryz.f12 8 C12 := mkC_ok _
@[go_sem] theorem call12 (a H) : callC Tryz.prog 12 a H = .call 12 a := callC_ok (by kernel_rfl) a H
theorem R12ok : resKs Tryz.prog Tryz.f12.results.toList = some [RK.cell z.o.i true 6] := by kernel_rfl
noncomputable def C17 := mkC Tryz.prog Tryz.f17 8
theorem C17ok : CCok Tryz.prog Tryz.f17 8 C17 := mkC_ok _
@[go_sem] theorem call17 (a H) : callC Tryz.prog 17 a H = .call 17 a := callC_ok (by kernel_rfl) a H
theorem R17ok : resKs Tryz.prog Tryz.f17.results.toList = some [RK.cell z.o.i true 24] := by kernel_rfl
@[go_sem] theorem call16 (a H) : callC Tryz.prog 16 a H = .call 16 a := callC_ok (by kernel_rfl) a H
@[go_sem] theorem call9 (a H) : callC Tryz.prog 9 a H = .call 9 a := callC_ok (by kernel_rfl) a H
end Go.Proofs
/- Answers that wait, asked: walked. -/


set_option linter.all false
set_option maxRecDepth 100000
namespace Go.Proofs
open Go Go.Ev
variable {H : Heap}
/-- the answers that wait -/
def isWt (G : Heap) (wv : AV) (ws : List (List AV)) : Prop := (ws = [] ∧ wv = .nils) ∨ ∃ kw, ws ≠ [] ∧ wv = outV kw 24 ws.length ∧ G.get kw = some (.row true 24 ws)
/-- where they lie -/
def wk : AV → List K
  | .slice k _ _ _ _ _ => [k]
  | _ => []
section
variable {G : Heap} {kn : K}
end
section
variable {G : Heap} {kn kd kj kh : K}
end
end Go.Proofs
/- Laid-out code reckoned whole; a call that has no addresses, in any memory. -/

set_option linter.all false
namespace Go.Ev
variable {P : Program} {φ ψ : Phi} {H : Heap} {w u : World} {T : Tr AV}

noncomputable def evC (E : FuncId → List AV → Heap → RC) (n : Nat) : CC → Tr AV → Heap → Res :=
  Nat.rec (motive := fun _ => CC → Tr AV → Heap → Res) (fun _ _ _ => .fail) (fun _ ih c T H => CC.rec (motive := fun _ => Res)
    (.ok .norm T H) (.ok .ret T H) (fun n => .ok (.exit n) T H)
    (fun l => stepsC eqAV E l T H .fail fun T H => .ok .norm T H) (fun l => stepsC eqAV E l T H .fail fun T H => .ok .norm T H)
    (fun x y _ _ => onNorm (ih x T H) (ih y)) (fun c x y _ _ => onCond (some c) T (ih x T H) (ih y T H))
    (fun id x _ => onBlock (ih x T H) id) (fun x _ => onNorm (ih x T H) (ih (.loop x))) c) n

/-! ### A call that has no addresses -/
def AV.flat : AV → Bool
  | .bool _ | .int _ _ | .str _ | .nilp | .nils | .nilf | .nili | .nilm => true
  | _ => false
theorem flat_rel {v : AV} {x : Value} (hf : v.flat = true) (h : VRel P φ v x) (ψ : Phi) : VRel P ψ v x := by
  cases h <;> first | (cases hf; done) | skip
  · exact .bool _
  · exact .int _ _
  · exact .str _ _ (by assumption)
  · exact .nilp
  · exact .nils
  · exact .nilf
  · exact .nili
  · exact .nilm
theorem flats_rel (ψ : Phi) {l : List AV} {l' : List Value} (hf : l.all AV.flat = true) (h : VRels P φ l l') : VRels P ψ l l' := by
  induction l generalizing l' with
  | nil => cases h; exact .nil
  | cons v l ih =>
    cases h with
    | cons _ _ v' l' h hs =>
      rw [List.all_cons, Bool.and_eq_true] at hf
      exact .cons _ _ _ _ (flat_rel hf.1 h ψ) (ih hf.2 hs)
/-- memory without anything -/
noncomputable def hp0 : Heap := .mk .z .lf
theorem hp0_get (k : K) : hp0.get k = none := Tr.get_lf k
theorem WRel.to0 (hw : WRel P φ H w) : WRel P (fun _ => none) hp0 w := by
  refine ⟨⟨fun k a h => (by cases h), fun k b h => (by rw [hp0_get] at h; cases h), fun k b a h => (by rw [hp0_get] at h; cases h), fun j k c d x y _ h => (by rw [hp0_get] at h; cases h), fun k a h => (by cases h)⟩, fun g v hm => ⟨(hw.rom g v hm).1, ?_⟩⟩
  rintro ⟨k, c, a, hk, _⟩
  rw [hp0_get] at hk; cases hk
theorem FnOk.lift0 {f : FuncId} {args : List AV} {v : AV} (ha : args.all AV.flat = true) (hv : v.flat = true) (h : FnOk P f args hp0 fun r _ => r = v) : FnOk P f args H fun r G => r = v ∧ G = H := by
  intro φ w args' hargs hw
  refine (h (fun _ => none) w args' (flats_rel _ ha hargs) hw.to0).mono ?_
  rintro e u ⟨_, G, rfl, ψ, x, rfl, hx, hwu, hE⟩
  have hno : ∀ b, b < w.heap.size → u.heap[b]? = w.heap[b]? := by
    intro b hb
    refine hE.keeps b hb ?_
    rintro ⟨k, c, a, hk, _⟩
    rw [hp0_get] at hk; cases hk
  exact ⟨_, H, ⟨rfl, rfl⟩, φ, x, rfl, flat_rel hv hx φ, hw.grows hE.size hno, ⟨fun _ _ => rfl, Nat.le_refl _, hE.size, fun b hb _ => hno b hb, fun _ _ _ => rfl, fun _ _ h => h, hE.os, hE.tape, hE.output⟩⟩
end Go.Ev
/- Known answers handed to the evaluator; slices.Insert at a slice of one's own. -/

set_option linter.all false
namespace Go.Ev
variable {P : Program} {φ : Phi} {H : Heap}

noncomputable def X0 : Orc := fun _ _ _ => none
theorem good_X0 : GoodX P X0 := fun _ _ _ _ h => by cases h
/-- one function more is known -/
noncomputable def orX (F : FuncId) (A : List AV → Heap → Option RC) (X : Orc) : Orc := fun f args H => bif' (Nat.beq f F) (A args H) (X f args H)
theorem good_orX {F : FuncId} {A : List AV → Heap → Option RC} {X : Orc} (hA : ∀ args H v G, A args H = some (.ok v G) → FnOk P F args H fun v' G' => v' = v ∧ G' = G) (hX : GoodX P X) : GoodX P (orX F A X) := by
  intro f args H r h v G hr
  unfold orX at h
  cases hb : Nat.beq f F with
  | true =>
    rw [hb, bif_true] at h
    have := Nat.eq_of_beq_eq_true hb; subst this; subst hr
    exact hA args H v G h
  | false => rw [hb, bif_false] at h; exact hX f args H r h v G hr

noncomputable def insOwnA (esz bytes : Nat) (x : List AV) (kv k : K) (m n : Nat) (rows : List (List AV)) (H : Heap) : Option RC :=
  bif' (Nat.beq rows.length n) (bif' (K.beq kv k) none (bif' (Nat.ble m n) (bif' (Nat.ble (n + 1) 4294967295) (bif' (Nat.ble ((2 * (n + 1) + 192) * bytes) 281474976710656)
    (fL (rows.take m ++ x :: rows.drop m) fun rows => H.setC k .dead fun H => H.addC (.row true esz rows) fun k H => fN (n + 1) fun n => some (.ok (.slice k 0 n esz false n) H)) none) none) none)) none
noncomputable def insA (esz bytes : Nat) (args : List AV) (H : Heap) : Option RC :=
  match args with
  | [s, .int .i64 (.ofNat m), .slice kv 0 1 es true 1] => bif' (Nat.beq es esz) (match H.get kv with
    | some (.row true es1 [x]) => bif' (Nat.beq es1 esz) (match s with
      | .nils => bif' (Nat.beq m 0) (bif' (Nat.ble (194 * bytes) 281474976710656) (H.addC (.row true esz [x]) fun k H => some (.ok (.slice k 0 1 esz false 1) H)) none) none
      | .slice k 0 n es2 ex cap => bif' (Nat.beq es2 esz) (match H.get k with
        | some (.row true es3 rows) => bif' (Nat.beq es3 esz) (match n, ex, rows with
          | 0, true, [] => bif' (Nat.beq cap 0) (bif' (Nat.beq m 0) (bif' (Nat.ble (194 * bytes) 281474976710656) (H.addC (.row true esz [x]) fun k H => some (.ok (.slice k 0 1 esz false 1) H)) none) none) none
          | n + 1, false, rows => bif' (Nat.beq cap (n + 1)) (insOwnA esz bytes x kv k m (n + 1) rows H) none
          | _, _, _ => none) none
        | _ => none) none
      | _ => none) none
    | _ => none) none
  | _ => none
theorem insA_sound {F : FuncId} {esz bytes : Nat} {zero : List AV} (hf : InsFn P F esz bytes zero) (args : List AV) (H : Heap) (v : AV) (G : Heap) (h : insA esz bytes args H = some (.ok v G)) : FnOk P F args H fun v' G' => v' = v ∧ G' = G := by
  unfold insA at h
  split at h
  case h_2 => cases h
  rename_i s m kv es
  have b1 : ∀ {α : Type} (a b : Nat) (x : Option α) (y : α), bif' (Nat.beq a b) x none = some y → a = b ∧ x = some y := by
    intro α a b x y e
    cases hb : Nat.beq a b with
    | true => rw [hb] at e; exact ⟨Nat.eq_of_beq_eq_true hb, e⟩
    | false => rw [hb] at e; cases e
  have b2 : ∀ {α : Type} (a b : Nat) (x : Option α) (y : α), bif' (Nat.ble a b) x none = some y → a ≤ b ∧ x = some y := by
    intro α a b x y e
    cases hb : Nat.ble a b with
    | true => rw [hb] at e; exact ⟨Nat.le_of_ble_eq_true hb, e⟩
    | false => rw [hb] at e; cases e
  obtain ⟨rfl, h⟩ := b1 _ _ _ _ h
  split at h
  case h_2 => cases h
  rename_i es1 x hv
  obtain ⟨rfl, h⟩ := b1 _ _ _ _ h
  split at h
  case h_3 => cases h
  · obtain ⟨rfl, h⟩ := b1 _ _ _ _ h
    obtain ⟨hb, h⟩ := b2 _ _ _ _ h
    rw [Heap.addC_eq] at h
    cases h
    exact insert_nil hf hv hb
  · rename_i k n es2 ex cap g1 g2
    clear g1 g2
    obtain ⟨rfl, h⟩ := b1 _ _ _ _ h
    split at h
    case h_2 => cases h
    rename_i es3 rows hg
    obtain ⟨rfl, h⟩ := b1 _ _ _ _ h
    split at h
    case h_3 => cases h
    · obtain ⟨e1, h⟩ := b1 _ _ _ _ h
      obtain ⟨e2, h⟩ := b1 _ _ _ _ h
      obtain ⟨hb, h⟩ := b2 _ _ _ _ h
      rw [Heap.addC_eq] at h
      cases h
      rw [e1, e2]
      exact insert_zero hf hv hg hb
    · rename_i n rows'
      obtain ⟨e1, h⟩ := b1 _ _ _ _ h
      rw [e1]
      unfold insOwnA at h
      obtain ⟨hl, h⟩ := b1 _ _ _ _ h
      cases hk : K.beq kv k with
      | true => rw [hk] at h; cases h
      | false =>
      rw [hk, bif_false] at h
      have hkk : kv ≠ k := fun e => by rw [(K.beq_iff _ _).2 e] at hk; cases hk
      obtain ⟨hm, h⟩ := b2 _ _ _ _ h
      obtain ⟨hn, h⟩ := b2 _ _ _ _ h
      obtain ⟨hb, h⟩ := b2 _ _ _ _ h
      rw [fL_eq, Heap.setC_eq, Heap.addC_eq, fN_eq] at h
      cases h
      have := insert_own hf hkk hv hg (by omega) (by omega) (by omega) (by rw [hl]; exact hb) (i := m)
      rw [hl] at this
      exact this
end Go.Ev
/- Known answers: errors.Is and errors.As at numbers. -/

set_option linter.all false
namespace Go.Ev
variable {P : Program} {φ : Phi} {H : Heap} {w : World}
/-- errors.Is of a number (of type t), or none -/
noncomputable def isA (t : Nat) (args : List AV) (H : Heap) : Option RC :=
  match args with
  | [.nili, .iface t2 (.int .i64 b)] => bif' (Nat.beq t2 t) (some (.ok (.bool false) H)) none
  | [.iface t1 (.int .i64 a), .iface t2 (.int .i64 b)] => bif' (Nat.beq t1 t) (bif' (Nat.beq t2 t) (eqI a b fun z => some (.ok (.bool z) H)) none) none
  | _ => none
/-- errors.As of a number (of type t), or none, at a number's pointer (of type tp), at one of another type (tb) -/
noncomputable def asA (t tp tb : Nat) (args : List AV) (H : Heap) : Option RC :=
  match args with
  | [.nili, _] => some (.ok (.bool false) H)
  | [.iface t1 (.int .i64 a), .iface t2 (.ptr k 0)] => bif' (Nat.beq t1 t) (bif' (Nat.beq t2 tb) (some (.ok (.bool false) H)) (bif' (Nat.beq t2 tp)
    (match H.get k with
      | some (.row true 1 [[x]]) => H.setC k (.row true 1 [[.int .i64 a]]) fun H => some (.ok (.bool true) H)
      | _ => none) none)) none
  | _ => none
theorem cell_of_row (hw : WRel P φ H w) {k : K} {x : AV} {a : At} (hk : H.get k = some (.row true 1 [[x]])) (hφ : φ k = some a) : ∃ v, w.cell? ⟨a.b, a.o, none⟩ = some v ∧ VRel P φ x v ∧ w.frozen? ⟨a.b, a.o, none⟩ = false := by
  obtain ⟨hp, _, pre, vs, post, e, lo, hi, g1, g2, g3, g4, g5, g6⟩ := hw.blk k _ a hk hφ
  have g5 : VRels P φ [x] vs := g5
  cases g5 with
  | cons _ _ v l h1 h2 =>
    cases h2
    refine ⟨v, ?_, h1, ?_⟩
    · simp only [World.cell?, g1]
      simp [← g2]
    · simp only [World.frozen?, g1]
      have h4 := g4 rfl
      simp at g3 ⊢
      omega
/-- a call that writes a number into a cell -/
theorem FnOk.of_calls_set {f : FuncId} {args : List AV} {k : K} {x y v : AV} {y' : Value} (hk : H.get k = some (.row true 1 [[x]])) (hy : ∀ φ, VRel P φ y y') (hone : y'.oneCell' = true) (hv : ∀ φ, ∃ v', VRel P φ v v')
    (h : ∀ φ w args', VRels P φ args args'.toList → WRel P φ H w → ∃ a, φ k = some a ∧ ∀ old, w.cell? ⟨a.b, a.o, none⟩ = some old → w.frozen? ⟨a.b, a.o, none⟩ = false →
      Calls P f args' w fun e u => (∃ v', e = .returned v' ∧ VRel P φ v v') ∧ ∃ w4, Grows w w4 ∧ u = w4.setCell ⟨a.b, a.o, none⟩ y') :
    FnOk P f args H fun r G => r = v ∧ G = H.set k (.row true 1 [[y]]) := by
  intro φ w args' ha hw
  obtain ⟨a, hφ, hc⟩ := h φ w args' ha hw
  obtain ⟨old, h1, _, h2⟩ := cell_of_row hw hk hφ
  refine (hc old h1 h2).mono ?_
  rintro e u ⟨⟨v', rfl, hv'⟩, w4, hg, rfl⟩
  have hw4 := hw.grows hg.size hg.old
  obtain ⟨old4, h14, _, h24⟩ := cell_of_row hw4 hk hφ
  obtain ⟨u, hst, hwu, hE⟩ := storeCells_sound (off := 0) (vals := [y]) (vals' := [y']) (rows' := [[y]]) hw4 hk hφ (.cons _ _ _ _ (hy φ) .nil) (by intro z hz; rw [List.mem_singleton.1 hz]; exact hone) (put_rows 1 [[x]] [[y]] 0 (by intro z hz; rw [List.mem_singleton.1 hz]; rfl) (by intro z hz; rw [List.mem_singleton.1 hz]; rfl) (Nat.le_refl 1))
  have hst' : (storeCells ⟨a.b, a.o, none⟩ [y']).run P w4 = .ok () (w4.setCell ⟨a.b, a.o, none⟩ y') := by
    simp only [storeCells, Addr.add, Sem.run_bind, Nat.add_zero, if_true]
    rw [run_store P w4 _ _ _ hone, h14]
    simp [h24]
  rw [Nat.add_zero] at hst
  rw [hst] at hst'
  injection hst' with _ hu
  subst hu
  refine ⟨v, _, ⟨rfl, rfl⟩, φ, v', rfl, hv', hwu, ?_⟩
  exact ⟨hE.phi, hE.nx, Nat.le_trans hg.size hE.size, fun b hb hn => by rw [hE.keeps b (Nat.lt_of_lt_of_le hb hg.size) hn, hg.old b hb], hE.hidden, fun b hb ho => hE.own b (Nat.lt_of_lt_of_le hb hg.size) ho, hE.os.trans hg.os, hE.tape.trans hg.tape, hE.output.trans hg.output⟩
theorem two_args {φ : Phi} {a b : AV} {args : Array Value} (h : VRels P φ [a, b] args.toList) : ∃ v u, args = #[v, u] ∧ VRel P φ a v ∧ VRel P φ b u := by
  cases hl : args.toList with
  | nil => rw [hl] at h; cases h
  | cons v l =>
    rw [hl] at h
    cases h with
    | cons _ _ _ _ h1 h2 =>
      cases h2 with
      | cons _ _ u _ h3 h4 =>
        cases h4
        exact ⟨v, u, by rw [← Array.toArray_toList (xs := args), hl], h1, h3⟩
/-- the answer is yes -/
noncomputable def okB (r : RC) : Bool := RC.rec (motive := fun _ => Bool) false (fun v _ => asBoolC v false fun b => b) r
theorem okB_eq {r : RC} (h : okB r = true) : ∃ G, r = .ok (.bool true) G := by
  cases r with
  | fail => cases h
  | ok v G =>
    cases v <;> first | (cases h; done) | skip
    rename_i b
    cases b
    · cases h
    · exact ⟨G, rfl⟩
theorem FnOk.of_evB {X : Orc} (hX : GoodX P X) {n : Nat} {f : FuncId} {args : List AV} (h : okB (evFn P X n f args H) = true) : FnOk P f args H fun v _ => v = .bool true := by
  obtain ⟨G, hG⟩ := okB_eq h
  exact (FnOk.of_ev hX hG).mono fun _ _ h => h.1
end Go.Ev
