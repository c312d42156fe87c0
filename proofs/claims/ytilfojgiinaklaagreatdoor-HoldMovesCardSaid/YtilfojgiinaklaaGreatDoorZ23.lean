/- sums of bytes, what is wrapped: walked. -/
import Derived.Test.YtilfojgiinaklaaGreatDoorZ22
set_option linter.all false
set_option linter.all false
set_option maxRecDepth 100000
namespace Go.Proofs
open Go Go.Ev
variable {H : Heap}

def xorU (x y : Int) : Int := IntKind.u32.wrap ((BitVec.ofInt IntKind.u32.bits x ^^^ BitVec.ofInt IntKind.u32.bits y).toNat : Int)
theorem bin_xorU {β : Type} (ek : EK) (pk : Option (List LK)) (lit : Bool) (x y : Int) (f : β) (c : AV → β) : binV Tryz.prog ek pk lit .xor (.int .u32 x) (.int .u32 y) f c = c (.int .u32 (xorU x y)) := by rw [bin_xor]; rfl
def stepU (x : Int) (b : Nat) : Int := IntKind.u32.wrap (xorU x (IntKind.u32.wrap (b : Int)) * 16777619)
/-- a sum of bytes -/
def sumT (s : List Nat) : Int := s.foldl stepU 2166136261
theorem sumT_next {s : List Nat} {i b : Nat} (h : s[i]? = some b) : sumT (s.take (i + 1)) = IntKind.u32.wrap (xorU (sumT (s.take i)) (IntKind.u32.wrap (b : Int)) * 16777619) := by
  unfold sumT
  rw [List.take_add_one, h, List.foldl_append]
  rfl
theorem f120_ok {s : List Nat} (hl : s.length < 4611686018427387904) : FnOk Tryz.prog 120 [.str s] H fun r G => r = .int .u32 (sumT s) ∧ G = H := by
  refine FnOk.drop (R := fun r => r = .int .u32 (sumT s)) ?_ (by rintro v rfl ρ; rw [AV.ren])
  refine FnOk.of_WW Tryz.func120 rfl C120ok R120ok E0 good_E0 ?_
  simp only [go_sem, C120]
  refine LL.st good_E0 (fun i : Nat => s.length - i) (fun i => i ≤ s.length) (fun i => [(.z, .str s), ((.o (.o .z)), .int .u32 (sumT (s.take i))), ((.i (.i .z)), .int .i64 s.length), ((.o (.o (.o .z))), .int .i64 i)]) (fun _ => []) ?_ 0 (σ := []) (Wk.of rfl (by decide) (by simp only [go_sem]; first | done | rfl | trace_state) (by simp only [go_sem]; first | done | rfl | trace_state)) (Nat.zero_le _)
  rintro i hi
  by_cases hlt : i < s.length
  · have hget : s[i]? = some s[i] := List.getElem?_eq_getElem hlt
    generalize s[i] = b at hget
    have hci : (i : Int) < (s.length : Int) := by omega
    have hw := wrap_succ (n := i) (by omega)
    have hnew := sumT_next hget
    have X := fun x y f c => bin_xorU (β := R1) .no none false x y f c
    simp only [go_sem, hci, hget, ↓X, hw]
    exact ⟨i + 1, by show s.length - (i + 1) < s.length - i; omega, (show i + 1 ≤ s.length by omega), _, [], rfl, Wk.of rfl (by decide) (by simp only [go_sem, hnew, hw]; first | done | rfl | trace_state) (by simp only [go_sem])⟩
  · have hci : ¬ (i : Int) < (s.length : Int) := by omega
    simp only [go_sem, hci]
    rw [List.take_of_length_le (by omega)]
    exact ⟨rfl, _, rfl⟩
theorem f100_ok {s : List Nat} (hl : s.length < 4611686018427387904) : FnOk Tryz.prog 100 [.str s] H fun r G => r = .int .u32 (sumT s) ∧ G = H := by
  refine FnOk.drop (R := fun r => r = .int .u32 (sumT s)) ?_ (by rintro v rfl ρ; rw [AV.ren])
  refine FnOk.of_WW Tryz.func100 rfl C100ok R100ok E0 good_E0 ?_
  simp only [go_sem, C100]
  refine LL.st good_E0 (fun i : Nat => s.length - i) (fun i => i ≤ s.length) (fun i => [(.z, .str s), ((.o (.o .z)), .int .u32 (sumT (s.take i))), ((.i (.o .z)), .int .i64 i)]) (fun _ => []) ?_ 0 (σ := []) (Wk.of rfl (by decide) (by simp only [go_sem]; first | done | rfl | trace_state) (by simp only [go_sem]; first | done | rfl | trace_state)) (Nat.zero_le _)
  rintro i hi
  by_cases hlt : i < s.length
  · have hget : s[i]? = some s[i] := List.getElem?_eq_getElem hlt
    generalize s[i] = b at hget
    have hci : (i : Int) < (s.length : Int) := by omega
    have hw := wrap_succ (n := i) (by omega)
    have hnew := sumT_next hget
    have X := fun x y f c => bin_xorU (β := R1) .no none false x y f c
    simp only [go_sem, hci, hget, ↓X, hw]
    exact ⟨i + 1, by show s.length - (i + 1) < s.length - i; omega, (show i + 1 ≤ s.length by omega), _, [], rfl, Wk.of rfl (by decide) (by simp only [go_sem, hnew, hw]; first | done | rfl | trace_state) (by simp only [go_sem])⟩
  · have hci : ¬ (i : Int) < (s.length : Int) := by omega
    simp only [go_sem, hci]
    rw [List.take_of_length_le (by omega)]
    exact ⟨rfl, _, rfl⟩
/-- a sum's bytes, the lowest first -/
def byU (x : Int) : Nat := (IntKind.u8.wrap x).toNat
theorem byU_eq (x : Int) : IntKind.u8.wrap x = (byU x : Int) := by
  unfold byU
  have : 0 ≤ IntKind.u8.wrap x := by show 0 ≤ x % _; exact Int.emod_nonneg _ (by decide)
  omega
theorem byU_le (x : Int) : byU x ≤ 255 := by
  have h := byU_eq x
  have : IntKind.u8.wrap x < 256 := by show x % (2 ^ 8 : Int) < 256; exact Int.emod_lt_of_pos x (by decide)
  omega
def byT (x : Int) : List Nat := [byU x, byU (x.fdiv 256), byU (x.fdiv 65536), byU (x.fdiv 16777216)]
theorem shr0 {β : Type} (ek : EK) (pk : Option (List LK)) (lit : Bool) (a : Int) (k : IntKind) (f : β) (c : AV → β) : binV Tryz.prog ek pk lit .shr (.int .u32 a) (.int k 0) f c = c (.int .u32 a) := by
  have h := bin_shr (P := Tryz.prog) ek pk lit .u32 a f c k 0
  have e : a.fdiv (2 ^ min 0 IntKind.u32.bits) = a := Int.fdiv_one a
  rw [e] at h
  exact h
theorem shr8 {β : Type} (ek : EK) (pk : Option (List LK)) (lit : Bool) (a : Int) (k : IntKind) (f : β) (c : AV → β) : binV Tryz.prog ek pk lit .shr (.int .u32 a) (.int k 8) f c = c (.int .u32 (a.fdiv 256)) := bin_shr (P := Tryz.prog) ek pk lit .u32 a f c k 8
theorem shr16 {β : Type} (ek : EK) (pk : Option (List LK)) (lit : Bool) (a : Int) (k : IntKind) (f : β) (c : AV → β) : binV Tryz.prog ek pk lit .shr (.int .u32 a) (.int k 16) f c = c (.int .u32 (a.fdiv 65536)) := bin_shr (P := Tryz.prog) ek pk lit .u32 a f c k 16
theorem shr24 {β : Type} (ek : EK) (pk : Option (List LK)) (lit : Bool) (a : Int) (k : IntKind) (f : β) (c : AV → β) : binV Tryz.prog ek pk lit .shr (.int .u32 a) (.int k 24) f c = c (.int .u32 (a.fdiv 16777216)) := bin_shr (P := Tryz.prog) ek pk lit .u32 a f c k 24
theorem readC_four {β : Type} (f : β) (a b c d : AV) (k : List AV → β) : readC f 1 [[a], [b], [c], [d]] 0 4 k = k [a, b, c, d] := rfl
theorem byT_all {β : Type} (x : Int) (f : β) (c : List Nat → β) : bytesC [.int .u8 (byU x), .int .u8 (byU (x.fdiv 256)), .int .u8 (byU (x.fdiv 65536)), .int .u8 (byU (x.fdiv 16777216))] f c = c (byT x) := by
  refine bytesC_all (l := byT x) (fun b hb => ?_) f c
  simp only [byT, List.mem_cons, List.not_mem_nil, or_false] at hb
  rcases hb with rfl | rfl | rfl | rfl <;> exact byU_le _
theorem f119_ok (x : Int) : FnOk Tryz.prog 119 [.int .u32 x] H fun r G => r = .str (byT x) ∧ G = H := by
  refine FnOk.drop (R := fun r => r = .str (byT x)) ?_ (by rintro v rfl ρ; rw [AV.ren])
  refine FnOk.of_WW Tryz.func119 rfl C119ok R119ok E0 good_E0 ?_
  simp only [go_sem, C119]
  refine LL.st good_E0 (S := Int × List Nat) (fun s => (4 - s.1).toNat) (fun s => s = (0, [0, 0, 0, 0]) ∨ s = (1, [byU x, 0, 0, 0]) ∨ s = (2, [byU x, byU (x.fdiv 256), 0, 0]) ∨ s = (3, [byU x, byU (x.fdiv 256), byU (x.fdiv 65536), 0]) ∨ s = (4, byT x))
    (fun s => [(.z, .int .u32 x), ((.o (.o .z)), .ptr (H.key 0) 0), ((.o (.i .z)), .int .i64 s.1)]) (fun s => [.row true 1 (s.2.map byteC)]) ?_ (0, [0, 0, 0, 0]) (σ := [0]) (Wk.of rfl (by decide) (by simp only [go_sem]; first | done | rfl | trace_state) (by simp only [go_sem, byteC, byteV, byT]; first | done | rfl | trace_state)) (.inl rfl)
  have w0 : IntKind.i64.wrap (8 * 0) = 0 := rfl
  have w1 : IntKind.i64.wrap (8 * 1) = 8 := rfl
  have w2 : IntKind.i64.wrap (8 * 2) = 16 := rfl
  have w3 : IntKind.i64.wrap (8 * 3) = 24 := rfl
  have b0 := byU_eq x
  have b1 := byU_eq (x.fdiv 256)
  have b2 := byU_eq (x.fdiv 65536)
  have b3 := byU_eq (x.fdiv 16777216)
  have s0 := fun l f c => shr0 (β := R1) .no none l x .i64 f c
  have s1 := fun l f c => shr8 (β := R1) .no none l x .i64 f c
  have s2 := fun l f c => shr16 (β := R1) .no none l x .i64 f c
  have s3 := fun l f c => shr24 (β := R1) .no none l x .i64 f c
  have rd := fun a b c d k => readC_four (β := R1) .fail a b c d k
  have al := fun c => byT_all (β := R1) x .fail c
  rintro _ (rfl | rfl | rfl | rfl | rfl)
  · simp only [go_sem, byteC, byteV, w0, ↓s0, b0]
    exact ⟨(1, [byU x, 0, 0, 0]), by show (4 - 1 : Int).toNat < (4 - 0 : Int).toNat; decide, .inr (.inl rfl), _, [0], rfl, Wk.of rfl (by decide) (by simp only [go_sem]; first | done | rfl | trace_state) (by simp only [go_sem, byteC, byteV, byT]; first | done | rfl | trace_state)⟩
  · simp only [go_sem, byteC, byteV, w1, ↓s1, b1]
    exact ⟨(2, [byU x, byU (x.fdiv 256), 0, 0]), by show (4 - 2 : Int).toNat < (4 - 1 : Int).toNat; decide, .inr (.inr (.inl rfl)), _, [0], rfl, Wk.of rfl (by decide) (by simp only [go_sem]; first | done | rfl | trace_state) (by simp only [go_sem, byteC, byteV, byT]; first | done | rfl | trace_state)⟩
  · simp only [go_sem, byteC, byteV, w2, ↓s2, b2]
    exact ⟨(3, [byU x, byU (x.fdiv 256), byU (x.fdiv 65536), 0]), by show (4 - 3 : Int).toNat < (4 - 2 : Int).toNat; decide, .inr (.inr (.inr (.inl rfl))), _, [0], rfl, Wk.of rfl (by decide) (by simp only [go_sem]; first | done | rfl | trace_state) (by simp only [go_sem, byteC, byteV, byT]; first | done | rfl | trace_state)⟩
  · simp only [go_sem, byteC, byteV, w3, ↓s3, b3]
    exact ⟨(4, byT x), by show (4 - 4 : Int).toNat < (4 - 3 : Int).toNat; decide, .inr (.inr (.inr (.inr rfl))), _, [0], rfl, Wk.of rfl (by decide) (by simp only [go_sem]; first | done | rfl | trace_state) (by simp only [go_sem, byteC, byteV, byT]; first | done | rfl | trace_state)⟩
  · simp only [go_sem, byteC, byteV, byT, rd, al]
    exact ⟨Nat.le_refl 4, _, rfl⟩
def wrapT (s : List Nat) : List Nat := byT (sumT (textT s)) ++ textT s
theorem textT_le {s : List Nat} (h : s.length < 1000000) : (textT s).length < 1000100 := by
  have := numT_small (n := s.length) (by omega)
  show (numT s.length ++ s).length < _
  rw [List.length_append]
  omega
theorem f73_ok {s : List Nat} (hs : s.length < 1000000) : FnOk Tryz.prog 73 [.str s] H fun r G => r = .str (wrapT s) ∧ G = H := by
  refine FnOk.drop (R := fun r => r = .str (wrapT s)) ?_ (by rintro v rfl ρ; rw [AV.ren])
  refine FnOk.of_WW Tryz.func73 rfl C73ok R73ok E0 good_E0 ?_
  have hl := textT_le hs
  have h4 : ∀ x, (byT x).length = 4 := fun x => rfl
  have hle : 4 + (textT s).length ≤ 9223372036854775807 := by omega
  simp only [go_sem, C73]
  refine CL.of (f30_ok (s := s) (by omega)) ?_
  rintro _ G' ⟨rfl, hG⟩; rw [hG]; clear hG
  simp only [go_sem]
  refine CL.of (f120_ok (s := textT s) (by omega)) ?_
  rintro _ G' ⟨rfl, hG⟩; rw [hG]; clear hG
  simp only [go_sem]
  refine CL.of (f119_ok _) ?_
  rintro _ G' ⟨rfl, hG⟩; rw [hG]; clear hG
  simp only [go_sem, h4, hle]
  exact ⟨rfl, _, rfl⟩
theorem f71_ok (b : Bool) : FnOk Tryz.prog 71 [.bool b] H fun r G => r = .str [b.toNat] ∧ G = H := by
  refine FnOk.drop (R := fun r => r = .str [b.toNat]) ?_ (by rintro v rfl ρ; rw [AV.ren])
  refine FnOk.of_WW Tryz.func71 rfl C71ok R71ok E0 good_E0 ?_
  cases b
  · simp only [go_sem, C71]
    exact ⟨rfl, _, rfl⟩
  · simp only [go_sem, C71]
    exact ⟨rfl, _, rfl⟩
theorem f49_ok (b : Bool) : FnOk Tryz.prog 49 [.bool b] H fun r G => r = .str [b.toNat] ∧ G = H := by
  refine FnOk.drop (R := fun r => r = .str [b.toNat]) ?_ (by rintro v rfl ρ; rw [AV.ren])
  refine FnOk.of_WW Tryz.func49 rfl C49ok R49ok E0 good_E0 ?_
  cases b
  · simp only [go_sem, C49]
    exact ⟨rfl, _, rfl⟩
  · simp only [go_sem, C49]
    exact ⟨rfl, _, rfl⟩
theorem f47_ok {n : Nat} (hn : n < 9223372036854775808) : FnOk Tryz.prog 47 [.int .i64 (n : Int)] H fun r G => r = .str (numT n) ∧ G = H := by
  refine FnOk.drop (R := fun r => r = .str (numT n)) ?_ (by rintro v rfl ρ; rw [AV.ren])
  refine FnOk.of_WW Tryz.func47 rfl C47ok R47ok E0 good_E0 ?_
  have hmax : max 0 (n : Int) = (n : Int) := by omega
  simp only [go_sem, C47, hmax]
  refine LL.st good_E0 (fun s : Nat × List Nat => s.1) (fun s => s.1 ≤ n ∧ s.2 ++ numT s.1 = numT n)
    (fun s => [((.o (.o .z)), .str s.2), ((.i (.o .z)), .int .i64 s.1)]) (fun s => []) ?_ (n, []) (σ := []) (Wk.of rfl (by decide) (by simp only [go_sem]) (by simp only [go_sem])) ⟨Nat.le_refl _, rfl⟩
  rintro ⟨m, acc⟩ ⟨hm, hacc⟩
  simp only at hm hacc
  have hlen := congrArg List.length hacc
  rw [List.length_append] at hlen
  have h11 := numT_small hn
  have hmp := numT_pos m
  have hle : acc.length + 1 ≤ 9223372036854775807 := by omega
  by_cases hlt : m < 64
  · have hc : ¬ (64 : Int) ≤ (m : Int) := by omega
    have hw := wrap_u8 (m := m) (by omega)
    have al := fun c => bytesC_all (β := R1) (l := [m]) (fun b hb => by rw [List.mem_singleton] at hb; omega) .fail c
    simp only [List.map_cons, List.map_nil, byteV] at al
    simp only [go_sem, hc, hw, al, hle]
    rw [numT_lo hlt] at hacc
    exact ⟨by rw [hacc], _, rfl⟩
  · have hc : (64 : Int) ≤ (m : Int) := by omega
    have hu := wrap_u8 (m := 64 + m % 64) (by omega)
    have hr : (m : Int).tmod 64 = ((m % 64 : Nat) : Int) := by rw [Int.tmod_eq_emod_of_nonneg (by omega)]; omega
    have ha : IntKind.i64.wrap (64 + ((m % 64 : Nat) : Int)) = ((64 + m % 64 : Nat) : Int) := by rw [wrap_i64 (by omega) (by omega)]; omega
    have hq : IntKind.i64.wrap ((m : Int).tdiv 64) = ((m / 64 : Nat) : Int) := by rw [Int.tdiv_eq_ediv_of_nonneg (by omega), wrap_i64 (by omega) (by omega)]; omega
    have al := fun c => bytesC_all (β := R1) (l := [64 + m % 64]) (fun b hb => by rw [List.mem_singleton] at hb; omega) .fail c
    simp only [List.map_cons, List.map_nil, byteV] at al
    simp only [go_sem, hc, hu, al, hle, hr, ha, hq]
    refine ⟨(m / 64, acc ++ [64 + m % 64]), by show m / 64 < m; omega, ⟨by show m / 64 ≤ n; omega, ?_⟩, _, [], rfl, Wk.of rfl (by decide) (by simp only [go_sem, hq]; first | done | rfl | trace_state) (by simp only [go_sem])⟩
    show (acc ++ [64 + m % 64]) ++ numT (m / 64) = numT n
    rw [← hacc, numT_hi hlt, List.append_assoc]
    rfl
theorem f48_ok {s : List Nat} (hs : s.length < 4611686018427387904) : FnOk Tryz.prog 48 [.str s] H fun r G => r = .str (textT s) ∧ G = H := by
  refine FnOk.drop (R := fun r => r = .str (textT s)) ?_ (by rintro v rfl ρ; rw [AV.ren])
  refine FnOk.of_WW Tryz.func48 rfl C48ok R48ok E0 good_E0 ?_
  have h := numT_small (n := s.length) (by omega)
  have hle : (numT s.length).length + s.length ≤ 9223372036854775807 := by omega
  simp only [go_sem, C48]
  refine CL.of (f47_ok (n := s.length) (by omega)) ?_
  rintro _ G' ⟨rfl, hG⟩; rw [hG]; clear hG
  simp only [go_sem, hle]
  exact ⟨rfl, _, rfl⟩
theorem f51_ok {s : List Nat} (hs : s.length < 1000000) : FnOk Tryz.prog 51 [.str s] H fun r G => r = .str (wrapT s) ∧ G = H := by
  refine FnOk.drop (R := fun r => r = .str (wrapT s)) ?_ (by rintro v rfl ρ; rw [AV.ren])
  refine FnOk.of_WW Tryz.func51 rfl C51ok R51ok E0 good_E0 ?_
  have hl := textT_le hs
  have h4 : ∀ x, (byT x).length = 4 := fun x => rfl
  have hle : 4 + (textT s).length ≤ 9223372036854775807 := by omega
  simp only [go_sem, C51]
  refine CL.of (f48_ok (s := s) (by omega)) ?_
  rintro _ G' ⟨rfl, hG⟩; rw [hG]; clear hG
  simp only [go_sem]
  refine CL.of (f100_ok (s := textT s) (by omega)) ?_
  rintro _ G' ⟨rfl, hG⟩; rw [hG]; clear hG
  have hw : wrapT s = byT (sumT (textT s)) ++ textT s := rfl
  generalize sumT (textT s) = x at hw
  have b0 := byU_eq x
  have b1 := byU_eq (x.fdiv 256)
  have b2 := byU_eq (x.fdiv 65536)
  have b3 := byU_eq (x.fdiv 16777216)
  have s1 := fun l f c => shr8 (β := R1) .no none l x .u64 f c
  have s2 := fun l f c => shr16 (β := R1) .no none l x .u64 f c
  have s3 := fun l f c => shr24 (β := R1) .no none l x .u64 f c
  have rd := fun a b c d k => readC_four (β := R1) .fail a b c d k
  have al := fun c => byT_all (β := R1) x .fail c
  simp only [go_sem, ↓s1, ↓s2, ↓s3, b0, b1, b2, b3, rd, al, h4, hle]
  exact ⟨by rw [hw], _, rfl⟩
end Go.Proofs
/- texts and flags taken of bytes, what is wrapped opened: walked. -/


set_option linter.all false
set_option linter.all false
set_option maxRecDepth 100000
namespace Go.Proofs
open Go Go.Ev
variable {H : Heap}

theorem textT_app (s l : List Nat) : textT s ++ l = numT s.length ++ (s ++ l) := by unfold textT; rw [List.append_assoc]
theorem drop_app {β : Type} (f : β) (s l : List Nat) (c : List Nat → β) : dropC f s.length (s ++ l) c = c l := by
  rw [dropC_eq, if_pos (by rw [List.length_append]; exact Nat.le_add_right _ _), List.drop_left]
theorem take_app {β : Type} (f : β) (s l : List Nat) (c : List Nat → β) : takeC f s.length (s ++ l) c = c s := by
  rw [takeC_eq, if_pos (by rw [List.length_append]; exact Nat.le_add_right _ _), List.take_left]
theorem f77_txt {s l : List Nat} {most : Int} (hm : (s.length : Int) ≤ most) (hl : s.length + l.length < 1000000) : FnOk Tryz.prog 77 [.str (textT s ++ l), .int .i64 most] H fun r G => r = .tup [.str s, .str l, .nili] ∧ G = H := by
  refine FnOk.drop (R := fun r => r = .tup [.str s, .str l, .nili]) ?_ (by rintro v rfl ρ; simp only [AV.ren, AV.rens])
  rw [textT_app]
  refine FnOk.of_WW Tryz.func77 rfl C77ok R77ok E0 good_E0 ?_
  have hla : (s ++ l).length = s.length + l.length := List.length_append
  simp only [go_sem, C77]
  refine CL.of (f74_num (n := s.length) (by omega) (l := s ++ l) (by omega)) ?_
  rintro _ G' ⟨rfl, hG⟩; rw [hG]; clear hG
  simp only [go_sem]
  refine CL.of (f43_ok none 11) ?_
  rintro _ G' ⟨rfl, hG⟩; rw [hG]; clear hG
  have h1 : ¬ most < (s.length : Int) := by omega
  have h2 : ¬ ((s.length + l.length : Nat) : Int) < (s.length : Int) := by omega
  have h3 : s.length ≤ s.length + l.length := Nat.le_add_right _ _
  have h4 : (0 : Int) ≤ (s.length : Int) := by omega
  have d := fun f c => drop_app (β := R1) f s l c
  have t := fun f c => take_app (β := R1) f s l c
  have d0 : ∀ {β : Type} (f : β) (c : List Nat → β), dropC f 0 (s ++ l) c = c (s ++ l) := fun f c => by rw [dropC_eq, if_pos (Nat.zero_le _), List.drop_zero]
  have t0 : List.take s.length (s ++ l) = s := List.take_left
  have z0 : 0 ≤ s.length := Nat.zero_le _
  simp only [go_sem, h1, h2, h3, h4, hla, d, t, Int.toNat_natCast, d0, t0, z0, Nat.sub_zero]
  exact ⟨_, rfl⟩
theorem f160_ok (b : Bool) (l : List Nat) (hl : l.length < 1000000) : FnOk Tryz.prog 160 [.str (b.toNat :: l)] H fun r G => r = .tup [.bool b, .str l, .nili] ∧ G = H := by
  refine FnOk.drop (R := fun r => r = .tup [.bool b, .str l, .nili]) ?_ (by rintro v rfl ρ; simp only [AV.ren, AV.rens])
  refine FnOk.of_WW Tryz.func160 rfl C160ok R160ok E0 good_E0 ?_
  have hdr : ∀ {β : Type} (f : β) (y : Nat) (c : List Nat → β), dropC f 1 (y :: l) c = c l := fun f y c => rfl
  cases b
  · simp only [go_sem, C160, Bool.toNat_false, hdr]
    exact ⟨_, rfl⟩
  · simp only [go_sem, C160, Bool.toNat_true, hdr]
    exact ⟨_, rfl⟩
/-- sums and their bytes -/
noncomputable def EFr (f : FuncId) (args : List AV) (H : Heap) : RC :=
  match f with
  | 120 => match args with | [.str s] => if s.length < 4611686018427387904 then .ok (.int .u32 (sumT s)) H else .fail | _ => .fail
  | 119 => match args with | [.int .u32 x] => .ok (.str (byT x)) H | _ => .fail
  | _ => .fail
theorem good_EFr : Ev.Good Tryz.prog EFr := by
  intro f args H r G he φ w args' ha hw
  refine (?_ : FnOk Tryz.prog f args H fun v' G' => v' = r ∧ G' = G).one φ w args' ha hw
  unfold EFr at he
  split at he
  · split at he
    · split at he
      · rename_i hc
        cases he; exact f120_ok hc
      · cases he
    · cases he
  · split at he
    · cases he; exact f119_ok _
    · cases he
  · cases he
theorem ef120 {s : List Nat} (h : s.length < 4611686018427387904) (H : Heap) : EFr 120 [.str s] H = .ok (.int .u32 (sumT s)) H := if_pos h
theorem ef119 (x : Int) (H : Heap) : EFr 119 [.int .u32 x] H = .ok (.str (byT x)) H := rfl
theorem f126_ok {s : List Nat} (hs : s.length < 200001) : FnOk Tryz.prog 126 [.str (wrapT s)] H fun r G => r = .tup [.str s, .str [], .nili] ∧ G = H := by
  refine FnOk.drop (R := fun r => r = .tup [.str s, .str [], .nili]) ?_ (by rintro v rfl ρ; simp only [AV.ren, AV.rens])
  refine FnOk.of_WW Tryz.func126 rfl C126ok R126ok EFr good_EFr ?_
  have hl := textT_le (s := s) (by omega)
  obtain ⟨t, ht⟩ : ∃ t, t = textT s := ⟨_, rfl⟩
  have hwl : (wrapT s).length = 4 + t.length := by rw [ht]; exact List.length_append
  have c1 : ¬ ((4 + t.length : Nat) : Int) < 4 := by omega
  have hd4 : ∀ {β : Type} (f : β) (c : List Nat → β), dropC f 4 (wrapT s) c = c t := fun f c => by rw [ht]; rfl
  have ht4 : ∀ {β : Type} (f : β) (c : List Nat → β), takeC f 4 (wrapT s) c = c (byT (sumT t)) := fun f c => by rw [ht]; rfl
  have hw4 : List.take 4 (wrapT s) = byT (sumT t) := by rw [ht]; rfl
  have hd0 : ∀ {β : Type} (f : β) (c : List Nat → β), dropC f 0 (wrapT s) c = c (wrapT s) := fun f c => by rw [dropC_eq, if_pos (Nat.zero_le _), List.drop_zero]
  have h4l : 4 ≤ 4 + t.length := Nat.le_add_right _ _
  have hsub : IntKind.i64.wrap (((4 + t.length : Nat) : Int) - 0) = ((4 + t.length : Nat) : Int) := by rw [Int.sub_zero, wrap_i64 (by omega) (by rw [ht]; omega)]
  have h77 := f77_txt (H := H) (s := s) (l := []) (most := 200000) (by omega) (by simp only [List.length_nil]; omega)
  rw [List.append_nil, ← ht] at h77
  have e := fun H => ef120 (s := t) (by rw [ht]; omega) H
  have p0 : (0 : Int) ≤ ((4 + t.length : Nat) : Int) := by omega
  have q4 : 4 + t.length - 4 = t.length := by omega
  simp only [go_sem, C126, hwl, c1, hd4]
  refine CL.of h77 ?_
  rintro _ G' ⟨rfl, hG⟩; rw [hG]; clear hG
  simp only [go_sem, hwl, hd4, ht4, hd0, hw4, hsub, e, ef119, Int.toNat_natCast, p0, q4, h4l, List.take_length, Nat.le_refl]
  exact ⟨[], rfl⟩
end Go.Proofs
/- shards of a node: which is the first that is so: walked. -/




set_option linter.all false
set_option linter.all false
set_option maxRecDepth 100000
namespace Go.Proofs
open Go Go.Ev
variable {H : Heap}

/-- the place of the first that is so; below 0: there is none -/
def idx {α : Type} (q : α → Bool) : List α → Nat → Int
  | [], _ => -1
  | s :: l, i => if q s = true then i else idx q l (i + 1)
theorem idx_next {α : Type} (q : α → Bool) {l : List α} {i : Nat} {s : α} (h : l[i]? = some s) : idx q (l.drop i) i = if q s = true then (i : Int) else idx q (l.drop (i + 1)) (i + 1) := by
  obtain ⟨h1, h2⟩ := List.getElem?_eq_some_iff.1 h
  rw [List.drop_eq_getElem_cons h1, h2]
  rfl
theorem idx_end {α : Type} (q : α → Bool) {l : List α} {i : Nat} (h : l.length ≤ i) : idx q (l.drop i) i = -1 := by
  rw [List.drop_eq_nil_of_le h]
  rfl
theorem f98_ok {v : AV} {l : List Sh} (hA : Arr H 8 v (l.map Sh.enc)) (hl : l.length ≤ 100000) {g : FuncId} {caps : List AV} (hcall : ∀ args H, callC Tryz.prog g args H = .call g args)
    (hcaps : ∀ top σ, AV.ren (rho H top σ) (.fn (.func g) [] caps) = .fn (.func g) [] caps) {q : Sh → Bool} (hg : ∀ s ∈ l, ∀ L, FnOk Tryz.prog g (.agg s.enc :: caps) (H.ext L) fun r G => r = .bool (q s) ∧ G = H.ext L) :
    FnOk Tryz.prog 98 [v, .fn (.func g) [] caps] H fun r G => r = .int .i64 (idx q l 0) ∧ G = H := by
  refine FnOk.assume fun hok => ?_
  refine FnOk.drop (R := fun r => r = .int .i64 (idx q l 0)) ?_ (by rintro v rfl ρ; rw [AV.ren])
  refine FnOk.of_WW Tryz.func98 rfl C98ok R98ok E0 good_E0 ?_
  have hlen := fun G => hA.len G; simp only [List.length_map] at hlen; have hren := hA.ren
  simp only [go_sem, C98, hlen]
  refine LL.st good_E0 (fun i : Nat => l.length - i) (fun i => i ≤ l.length ∧ idx q l 0 = idx q (l.drop i) i)
    (fun i => [(.z, v), ((.o .z), .fn (.func g) [] caps), ((.i (.i .z)), v), ((.o (.o (.o .z))), .int .i64 l.length), ((.i (.o (.o .z))), .int .i64 i)]) (fun i => []) ?_ 0 (σ := []) (Wk.of rfl (by decide) (by simp only [go_sem, hren, ↓hcaps]) (by simp only [go_sem])) ⟨Nat.zero_le _, rfl⟩
  rintro i ⟨hi, hno⟩
  by_cases hlt : i < l.length
  · obtain ⟨kk, r, ex', cap', wr, rows, hv, hrho, hgo, hrow⟩ := hA.at hok (j := i) (by rw [List.length_map]; exact hlt)
    simp only [List.length_map, List.getElem_map] at hv hrow
    have hget : l[i]? = some l[i] := List.getElem?_eq_getElem hlt
    generalize l[i] = c at hrow hget
    have hw := wrap_succ (n := i) (by omega)
    have hci : (i : Int) < (l.length : Int) := (by omega)
    have hsi : i + 1 ≤ l.length := (by omega)
    have hgc := hg c (List.mem_of_getElem? hget)
    have hnx := idx_next q hget
    simp only [Sh.enc] at hgc
    simp only [go_sem, hv, hci, hsi, hgo, hrow, hw, Sh.enc, hcall]
    refine CL.of (hgc _) ?_
    rintro _ G' ⟨rfl, hG⟩
    rw [hG]
    clear hG
    cases hq : q c
    · rw [hq, if_neg Bool.false_ne_true] at hnx
      simp only [go_sem, hw]
      exact ⟨i + 1, by show l.length - (i + 1) < l.length - i; omega, ⟨by omega, hno.trans hnx⟩, _, [], rfl, Wk.of rfl (by decide) (by simp only [go_sem, hren, hrho, hv, ↓hcaps, hw]; first | done | rfl | trace_state) (by simp only [go_sem])⟩
    · rw [hq, if_pos rfl] at hnx
      simp only [go_sem]
      exact ⟨by rw [hno, hnx], _, rfl⟩
  · have hci : ¬ (i : Int) < (l.length : Int) := by omega
    simp only [go_sem, hci]
    exact ⟨by rw [hno, idx_end q (by omega)], _, rfl⟩
structure Gn where
  id : Int
  ep : Int
def Gn.enc (g : Gn) : List AV := [.int .i64 g.id, .int .i64 g.ep]
/-- requests whose answers have no rows -/
def bareL (l : List Dn) : Prop := ∀ d ∈ l, d.an.rv = .nils ∧ d.an.rows = []
/-- a shard that isn't great -/
structure smallS (s : Sh) : Prop where
  b : bareL s.done
  c : s.cells.length < 1000
  e : s.evs.length < 1000
  d : s.done.length < 1000
/-- a node's shards, and what it gave away -/
structure isHd (G : Heap) (k : K) (lv gv : AV) (hs : List Sh) (gs : List Gn) : Prop where
  ok : G.ok
  row : G.get k = some (.row true 2 [[lv, gv]])
  l : Arr G 8 lv (hs.map Sh.enc)
  g : Arr G 2 gv (gs.map Gn.enc)
  each : ∀ s ∈ hs, s.ok G
  small : ∀ s ∈ hs, smallS s
  few : hs.length ≤ 8 ∧ gs.length ≤ 8
theorem isHd.ext {G : Heap} {k : K} {lv gv : AV} {hs : List Sh} {gs : List Gn} (h : isHd G k lv gv hs gs) (L : List Blk) : isHd (G.ext L) k lv gv hs gs :=
  ⟨Heap.ok_ext h.ok L, Heap.get_ext_old h.ok h.row L, h.l.ext L, h.g.ext L, fun s hs => (h.each s hs).ext L, h.small, h.few⟩
section
variable {G : Heap} {k : K} {lv gv : AV} {hs : List Sh} {gs : List Gn}
theorem f45_ok (h : isHd G k lv gv hs gs) {g : FuncId} {caps : List AV} (hcall : ∀ args H, callC Tryz.prog g args H = .call g args)
    (hcaps : ∀ top σ, AV.ren (rho G top σ) (.fn (.func g) [] caps) = .fn (.func g) [] caps) {q : Sh → Bool} (hg : ∀ s ∈ hs, ∀ L, FnOk Tryz.prog g (.agg s.enc :: caps) (G.ext L) fun r G' => r = .bool (q s) ∧ G' = G.ext L) :
    FnOk Tryz.prog 45 [.ptr k 0, .fn (.func g) [] caps] G fun r G' => r = .int .i64 (idx q hs 0) ∧ G' = G := by
  refine FnOk.drop (R := fun r => r = .int .i64 (idx q hs 0)) ?_ (by rintro v rfl ρ; rw [AV.ren])
  refine FnOk.of_WW Tryz.func45 rfl C45ok R45ok E0 good_E0 ?_
  have hk : ∀ L, (G.ext L).get k = _ := fun L => Heap.get_ext_old h.ok h.row L
  simp only [go_sem, C45, hk]
  have h64 := f98_ok h.l (by have := h.few.1; omega) hcall hcaps hg
  rw [← Heap.ext_nil G] at h64
  refine CL.of h64 ?_
  rintro _ G' ⟨rfl, hG⟩
  rw [hG]
  clear hG
  simp only [go_sem]
  exact ⟨_, rfl⟩
/-- a shard of a number -/
theorem f46_ok {H : Heap} {c : K} {wr : Bool} {n : Int} (hk : H.get c = some (.row wr 1 [[.int .i64 n]])) (s : Sh) : FnOk Tryz.prog 46 [.agg s.enc, .ptr c 0] H fun r G => r = .bool (decide (s.id = n)) ∧ G = H := by
  refine FnOk.assume fun hok => ?_
  refine FnOk.drop (R := fun r => r = .bool (decide (s.id = n))) ?_ (by rintro v rfl ρ; rw [AV.ren])
  refine FnOk.of_WW Tryz.func46 rfl C46ok R46ok E0 good_E0 ?_
  have hgo := Heap.get_ext_old hok hk
  simp only [go_sem, C46, Sh.enc, hgo]
  exact ⟨fun h => ⟨bool_t h, _, rfl⟩, fun h => ⟨bool_f h, _, rfl⟩⟩
/-- a shard that does what is asked of a key -/
noncomputable def findQ (key : List Nat) (s : Sh) : Bool := if s.frz = true then false else decide (has s.fr s.to key)
theorem f57_ok {H : Heap} {c : K} {wr : Bool} {key : List Nat} (hk : H.get c = some (.row wr 1 [[.str key]])) (s : Sh) : FnOk Tryz.prog 57 [.agg s.enc, .ptr c 0] H fun r G => r = .bool (findQ key s) ∧ G = H := by
  refine FnOk.assume fun hok => ?_
  refine FnOk.drop (R := fun r => r = .bool (findQ key s)) ?_ (by rintro v rfl ρ; rw [AV.ren])
  refine FnOk.of_WW Tryz.func57 rfl C57ok R57ok E0 good_E0 ?_
  have hgo := Heap.get_ext_old hok hk
  obtain ⟨id, ep, fr, to, frz, cells, evs, done, cv, ev, dv⟩ := s
  cases frz
  · simp only [go_sem, C57, Sh.enc, hgo]
    refine CL.bool (f58_ok fr to key) (fun g => ?_) (fun g => ?_)
    · simp only [go_sem]
      exact ⟨(show AV.bool true = .bool (decide (has fr to key)) from bool_t g), _, rfl⟩
    · simp only [go_sem]
      exact ⟨(show AV.bool false = .bool (decide (has fr to key)) from bool_f g), _, rfl⟩
  · simp only [go_sem, C57, Sh.enc, hgo]
    exact ⟨rfl, _, rfl⟩
/-- a shard where a span begins -/
noncomputable def atQ (f : List Nat) (s : Sh) : Bool := if s.frz = true then false else decide ((ltS s.fr f ∨ s.fr = f) ∧ (s.to = [] ∨ ¬ (ltS s.to f ∨ s.to = f)))
theorem f59_ok {H : Heap} {c : K} {wr : Bool} {f : List Nat} (hk : H.get c = some (.row wr 1 [[.str f]])) (s : Sh) : FnOk Tryz.prog 59 [.agg s.enc, .ptr c 0] H fun r G => r = .bool (atQ f s) ∧ G = H := by
  refine FnOk.assume fun hok => ?_
  refine FnOk.drop (R := fun r => r = .bool (atQ f s)) ?_ (by rintro v rfl ρ; rw [AV.ren])
  refine FnOk.of_WW Tryz.func59 rfl C59ok R59ok E0 good_E0 ?_
  have hgo := Heap.get_ext_old hok hk
  obtain ⟨id, ep, fr, to, frz, cells, evs, done, cv, ev, dv⟩ := s
  cases frz
  · simp only [go_sem, C59, Sh.enc, hgo]
    have hQ : ∀ b, (AV.bool b = .bool (atQ f ⟨id, ep, fr, to, false, cells, evs, done, cv, ev, dv⟩)) = (AV.bool b = .bool (decide ((ltS fr f ∨ fr = f) ∧ (to = [] ∨ ¬ (ltS to f ∨ to = f))))) := fun b => rfl
    simp only [hQ]
    repeat' (first | apply And.intro | intro _)
    all_goals first | exact ⟨_, rfl⟩ | exact bool_t (by grind) | exact bool_f (by grind)
  · simp only [go_sem, C59, Sh.enc, hgo]
    exact ⟨rfl, _, rfl⟩
end
end Go.Proofs
/- a shard's bytes: walked. -/


set_option linter.all false
set_option linter.all false
set_option maxRecDepth 100000
namespace Go.Proofs
open Go Go.Ev
variable {H : Heap}

def bareA (code : Int) (val : List Nat) (ver : Int) : An := ⟨code, val, ver, [], .nils⟩
theorem bareA_ok (H : Heap) (code : Int) (val : List Nat) (ver : Int) : (bareA code val ver).ok H := ⟨.inl ⟨rfl, rfl⟩, Nat.zero_le _⟩
/-- what is put together -/
noncomputable def EIm (f : FuncId) (args : List AV) (H : Heap) : RC :=
  match f with
  | 28 => match args with | [.int .i64 n] => if 0 ≤ n ∧ n < 9223372036854775808 then .ok (.str (numT n.toNat)) H else .fail | _ => .fail
  | 30 => match args with | [.str s] => if s.length < 4611686018427387904 then .ok (.str (textT s)) H else .fail | _ => .fail
  | 71 => match args with | [.bool b] => .ok (.str [b.toNat]) H | _ => .fail
  | 72 => match args with | [.agg [.int .i64 code, .str val, .int .i64 ver, .nils]] => .ok (.str (ansT (bareA code val ver))) H | _ => .fail
  | _ => .fail
theorem good_EIm : Ev.Good Tryz.prog EIm := by
  intro f args H r G he φ w args' ha hw
  refine (?_ : FnOk Tryz.prog f args H fun v' G' => v' = r ∧ G' = G).one φ w args' ha hw
  unfold EIm at he
  split at he
  · split at he
    · split at he
      · rename_i n hn
        cases he
        have := f28_ok (H := H) (n := n.toNat) (by omega)
        rwa [Int.toNat_of_nonneg hn.1] at this
      · cases he
    · cases he
  · split at he
    · split at he
      · rename_i hs
        cases he; exact f30_ok hs
      · cases he
    · cases he
  · split at he
    · cases he; exact f71_ok _
    · cases he
  · split at he
    · cases he; exact f72_ok (a := bareA _ _ _) (bareA_ok ..)
    · cases he
  · cases he
theorem ei28 {n : Int} (h0 : 0 ≤ n) (h1 : n < 9223372036854775808) (H : Heap) : EIm 28 [.int .i64 n] H = .ok (.str (numT n.toNat)) H := if_pos ⟨h0, h1⟩
theorem ei30 {s : List Nat} (h : s.length < 4611686018427387904) (H : Heap) : EIm 30 [.str s] H = .ok (.str (textT s)) H := if_pos h
theorem ei71 (b : Bool) (H : Heap) : EIm 71 [.bool b] H = .ok (.str [b.toNat]) H := rfl
theorem ei72 (code : Int) (val : List Nat) (ver : Int) (H : Heap) : EIm 72 [.agg [.int .i64 code, .str val, .int .i64 ver, .nils]] H = .ok (.str (ansT (bareA code val ver))) H := rfl
/-- cells, events, what was done, as bytes -/
def cellT (c : Cell) : List Nat := textT c.key ++ textT c.value ++ numT c.ver.toNat ++ [c.del.toNat] ++ numT c.floor.toNat
def evT (e : Evn) : List Nat := textT e.key ++ numT e.ver.toNat ++ textT e.val ++ [e.del.toNat]
noncomputable def dnT (d : Dn) : List Nat := numT d.ses.toNat ++ numT d.id.toNat ++ ansT d.an
def topT (s : Sh) : List Nat := numT s.id.toNat ++ numT s.ep.toNat ++ textT s.fr ++ textT s.to ++ [s.frz.toNat] ++ numT s.cells.length
def allT {α : Type} (f : α → List Nat) (l : List α) (i : Nat) : List Nat := ((l.take i).map f).flatten
theorem allT_succ {α : Type} (f : α → List Nat) {l : List α} {i : Nat} {c : α} (h : l[i]? = some c) : allT f l (i + 1) = allT f l i ++ f c := by
  unfold allT
  rw [List.take_add_one, h, List.map_append, List.flatten_append]
  simp
theorem allT_zero {α : Type} (f : α → List Nat) (l : List α) : allT f l 0 = [] := rfl
theorem allT_len {α : Type} (f : α → List Nat) (b : Nat) : ∀ (i : Nat) (l : List α), (∀ c ∈ l, (f c).length ≤ b) → (allT f l i).length ≤ b * i
  | 0, l, h => Nat.zero_le _
  | i + 1, [], h => Nat.zero_le _
  | i + 1, c :: l, h => by
    have h1 := allT_len f b i l fun d hd => h d (by simp [hd])
    have h2 := h c (by simp)
    have : allT f (c :: l) (i + 1) = f c ++ allT f l i := by unfold allT; simp
    rw [this, List.length_append, Nat.mul_succ]
    omega
noncomputable def imgT (s : Sh) : List Nat :=
  topT s ++ allT cellT s.cells s.cells.length ++ numT s.evs.length ++ allT evT s.evs s.evs.length ++ numT s.done.length ++ allT dnT s.done s.done.length
theorem num11 {n : Int} (h0 : 0 ≤ n) (h1 : n ≤ 1000000000000000) : (numT n.toNat).length ≤ 11 := numT_small (by omega)
theorem txt266 {s : List Nat} (h : (s.length : Int) ≤ 255) : (textT s).length ≤ 266 := textT_len h
theorem cellT_len {c : Cell} (h : cellIs c) : (cellT c).length ≤ 600 := by
  obtain ⟨⟨⟨_, h1⟩, h2, _, h3, h4⟩, h5, h6⟩ := h
  have a := txt266 (s := c.key) (by omega)
  have b := txt266 (s := c.value) (by omega)
  have d := num11 (n := c.ver) (by omega) (by omega)
  have e := num11 (n := c.floor) (by omega) (by omega)
  unfold cellT
  simp only [List.length_append, List.length_cons, List.length_nil]
  omega
theorem evT_len {e : Evn} (h : isEv e) : (evT e).length ≤ 600 := by
  obtain ⟨⟨_, h1⟩, h2, _, h3, h4⟩ := h
  have a := txt266 (s := e.key) (by omega)
  have b := txt266 (s := e.val) (by omega)
  have d := num11 (n := e.ver) (by omega) (by omega)
  unfold evT
  simp only [List.length_append, List.length_cons, List.length_nil]
  omega
theorem ansT_bare {code : Int} {val : List Nat} {ver : Int} (h : isAns (bareA code val ver)) : ansT (bareA code val ver) = numT code.toNat ++ textT val ++ numT ver.toNat ++ numT 0 := by
  unfold ansT
  rw [if_pos h]
  rfl
theorem dnT_len {d : Dn} (h : okD d) (hb : d.an.rv = .nils ∧ d.an.rows = []) : (dnT d).length ≤ 400 := by
  obtain ⟨ses, id, ⟨code, val, ver, rows, rv⟩⟩ := d
  obtain ⟨h1, h2⟩ := hb
  simp only at h1 h2
  subst h1 h2
  obtain ⟨⟨a1, a2, a3, a4⟩, ha⟩ := h
  simp only at a1 a2 a3 a4
  have hx := ansT_bare (code := code) (val := val) (ver := ver) ha
  obtain ⟨⟨b1, b2, b3, b4, b5⟩, -, -⟩ := ha
  simp only at b1 b2 b3 b4 b5
  have a := num11 (n := ses) (by omega) (by omega)
  have b := num11 (n := id) (by omega) (by omega)
  have c := num11 (n := code) (by omega) (by omega)
  have d := txt266 (s := val) (by omega)
  have e := num11 (n := ver) (by omega) (by omega)
  have f : (numT 0).length ≤ 11 := numT_small (by decide)
  have hy : dnT ⟨ses, id, bareA code val ver⟩ = numT ses.toNat ++ numT id.toNat ++ ansT (bareA code val ver) := rfl
  show (dnT ⟨ses, id, bareA code val ver⟩).length ≤ 400
  rw [hy, hx]
  simp only [List.length_append]
  omega
theorem topT_len {s : Sh} (h : isSh s) (hc : s.cells.length < 1000) : (topT s).length ≤ 700 := by
  obtain ⟨⟨a1, a2, a3, a4⟩, ⟨b1, b2, _⟩, _⟩ := h
  have a := num11 (n := s.id) (by omega) (by omega)
  have b := num11 (n := s.ep) (by omega) (by omega)
  have c := txt266 (s := s.fr) (by omega)
  have d := txt266 (s := s.to) (by omega)
  have e : (numT s.cells.length).length ≤ 11 := numT_small (by omega)
  unfold topT
  simp only [List.length_append, List.length_cons, List.length_nil]
  omega
end Go.Proofs
/- image.Bytes: walked. -/

set_option linter.all false
set_option linter.all false
set_option maxRecDepth 100000
namespace Go.Proofs
open Go Go.Ev
variable {H : Heap}

theorem f31_ok {s : Sh} (h : s.ok H) (hs : isSh s) (hsm : smallS s) (hL : (imgT s).length < 1000000) : FnOk Tryz.prog 31 [.agg s.enc] H fun r G => r = .str (wrapT (imgT s)) ∧ G = H := by
  refine FnOk.assume fun hok => ?_
  refine FnOk.drop (R := fun r => r = .str (wrapT (imgT s))) ?_ (by rintro v rfl ρ; rw [AV.ren])
  refine FnOk.of_WW Tryz.func31 rfl C31ok R31ok EIm good_EIm ?_
  have hlc := fun G => h.c.len G
  have hle := fun G => h.e.len G
  have hld := fun G => h.d.len G
  simp only [List.length_map] at hlc hle hld
  have hrc := h.c.ren
  have hre := h.e.ren
  have hrd := h.d.ren
  have hc1 := hsm.c
  have he1 := hsm.e
  have hd1 := hsm.d
  obtain ⟨⟨a1, a2, a3, a4⟩, ⟨b1, b2, _⟩, _, _, hh, hdn⟩ := id hs
  have x1 := fun H => ei28 (n := s.id) (by omega) (by omega) H
  have x2 := fun H => ei28 (n := s.ep) (by omega) (by omega) H
  have x3 := fun H => ei30 (s := s.fr) (by omega) H
  have x4 := fun H => ei30 (s := s.to) (by omega) H
  have x5 := fun H => ei28 (n := (s.cells.length : Int)) (by omega) (by omega) H
  rw [Int.toNat_natCast] at x5
  have n1 := num11 (n := s.id) (by omega) (by omega)
  have n2 := num11 (n := s.ep) (by omega) (by omega)
  have n3 := txt266 (s := s.fr) (by omega)
  have n4 := txt266 (s := s.to) (by omega)
  have n5 : (numT s.cells.length).length ≤ 11 := numT_small (by omega)
  have m1 : (numT s.id.toNat).length + (numT s.ep.toNat).length ≤ 9223372036854775807 := by omega
  have m2 : (numT s.id.toNat).length + (numT s.ep.toNat).length + (textT s.fr).length ≤ 9223372036854775807 := by omega
  have m3 : (numT s.id.toNat).length + (numT s.ep.toNat).length + (textT s.fr).length + (textT s.to).length ≤ 9223372036854775807 := by omega
  have m4 : (numT s.id.toNat).length + (numT s.ep.toNat).length + (textT s.fr).length + (textT s.to).length + 1 ≤ 9223372036854775807 := by omega
  have m5 : (numT s.id.toNat).length + (numT s.ep.toNat).length + (textT s.fr).length + (textT s.to).length + 1 + (numT s.cells.length).length ≤ 9223372036854775807 := by omega
  have htop : numT s.id.toNat ++ numT s.ep.toNat ++ textT s.fr ++ textT s.to ++ [s.frz.toNat] ++ numT s.cells.length = topT s := rfl
  have htl := topT_len hs hc1
  simp only [go_sem, C31, Sh.enc]
  refine CL.bool (f69_ok (s := s) (h.ext _)) (fun g => ?_) (fun g => absurd hs g)
  simp only [go_sem, hlc, x1, x2, x3, x4, x5, ei71, m1, m2, m3, m4, m5]
  have hcell : ∀ c ∈ s.cells, (cellT c).length ≤ 600 := fun c hc => cellT_len (hh.1.cell hc)
  have hevt : ∀ e ∈ s.evs, (evT e).length ≤ 600 := fun e he => evT_len (hh.2.1 e he).2
  have hdnt : ∀ d ∈ s.done, (dnT d).length ≤ 400 := fun d hd => dnT_len ((done_iff.1 hdn).1 d hd) (hsm.b d hd)
  refine LL.st good_EIm (fun i : Nat => s.cells.length - i) (fun i => i ≤ s.cells.length) (fun i => [((.o .z), .ptr (H.key 0) 0), ((.o (.o .z)), .str (topT s ++ allT cellT s.cells i)), ((.i (.o (.o (.i (.o .z))))), s.cv), ((.o (.i (.o (.i (.o .z))))), .int .i64 s.cells.length), ((.i (.i (.o (.i (.o .z))))), .int .i64 i)])
    (fun _ => [.row true 8 [[.int .i64 s.id, .int .i64 s.ep, .str s.fr, .str s.to, .bool s.frz, s.cv, s.ev, s.dv]]]) ?_ 0 (σ := [0]) (Wk.of rfl (by decide) (by simp only [go_sem, htop, allT_zero, hrc]; first | done | rfl | trace_state) (by simp only [go_sem, hrc, hre, hrd]; first | done | rfl | trace_state)) (Nat.zero_le _)
  rintro i hi
  have hpl := allT_len cellT 600 i s.cells hcell
  have hnext := fun c => @allT_succ _ cellT s.cells i c
  have hPl : (topT s ++ allT cellT s.cells i).length ≤ 700 + 600 * i := by rw [List.length_append]; omega
  by_cases hlt : i < s.cells.length
  · obtain ⟨kk, r, ex', cap', wr, rows, hv, hrho, hgo, hrow⟩ := h.c.at hok (j := i) (by rw [List.length_map]; exact hlt)
    simp only [List.length_map, List.getElem_map] at hv hrow
    have hget : s.cells[i]? = some s.cells[i] := List.getElem?_eq_getElem hlt
    have hci : (i : Int) < (s.cells.length : Int) := by omega
    have hw := wrap_succ (n := i) (by omega)
    have hsi : i + 1 ≤ s.cells.length := by omega
    have hcl := hcell _ (List.mem_of_getElem? hget)
    obtain ⟨⟨⟨_, c1⟩, c2, _, c3, c4⟩, c5, c6⟩ := hh.1.cell (List.mem_of_getElem? hget)
    generalize s.cells[i] = c at hrow hget hcl c1 c2 c3 c4 c5 c6
    have hnx : topT s ++ allT cellT s.cells (i + 1) = (topT s ++ allT cellT s.cells i) ++ cellT c := by rw [hnext c hget, List.append_assoc]
    generalize topT s ++ allT cellT s.cells i = P at hnx hPl ⊢
    have y1 := fun H => ei30 (s := c.key) (by omega) H
    have y2 := fun H => ei30 (s := c.value) (by omega) H
    have y3 := fun H => ei28 (n := c.ver) (by omega) (by omega) H
    have y4 := fun H => ei28 (n := c.floor) (by omega) (by omega) H
    have k1 := txt266 (s := c.key) (by omega)
    have k2 := txt266 (s := c.value) (by omega)
    have k3 := num11 (n := c.ver) (by omega) (by omega)
    have k4 := num11 (n := c.floor) (by omega) (by omega)
    have p1 : (textT c.key).length + (textT c.value).length ≤ 9223372036854775807 := by omega
    have p2 : (textT c.key).length + (textT c.value).length + (numT c.ver.toNat).length ≤ 9223372036854775807 := by omega
    have p3 : (textT c.key).length + (textT c.value).length + (numT c.ver.toNat).length + 1 ≤ 9223372036854775807 := by omega
    have p4 : (textT c.key).length + (textT c.value).length + (numT c.ver.toNat).length + 1 + (numT c.floor.toNat).length ≤ 9223372036854775807 := by omega
    have p5 : P.length + ((textT c.key).length + (textT c.value).length + (numT c.ver.toNat).length + 1 + (numT c.floor.toNat).length) ≤ 9223372036854775807 := by omega
    have hcT : textT c.key ++ textT c.value ++ numT c.ver.toNat ++ [c.del.toNat] ++ numT c.floor.toNat = cellT c := rfl
    simp only [go_sem, hci, hsi, hv, hgo, hrow, Cell.enc, hw, y1, y2, y3, y4, ei71, p1, p2, p3, p4, p5]
    exact ⟨i + 1, by show s.cells.length - (i + 1) < s.cells.length - i; omega, (show i + 1 ≤ s.cells.length by omega), _, [0], rfl, Wk.of rfl (by decide) (by simp only [go_sem, hrc, hrho, hv, hw, hnx, hcT]; first | done | rfl | trace_state) (by simp only [go_sem, hrc, hre, hrd, hrho, hv]; first | done | rfl | trace_state)⟩
  · have hci : ¬ (i : Int) < (s.cells.length : Int) := by omega
    obtain rfl : i = s.cells.length := by omega
    obtain ⟨P, hPe⟩ : ∃ P, P = topT s ++ allT cellT s.cells s.cells.length := ⟨_, rfl⟩
    rw [← hPe] at hPl ⊢
    have q1 : (numT s.evs.length).length ≤ 11 := numT_small (by omega)
    have q2 : P.length + (numT s.evs.length).length ≤ 9223372036854775807 := by omega
    simp only [go_sem, hci, hle]
    refine CL.of (f28_ok (n := s.evs.length) (by omega)) ?_
    rintro _ G' ⟨rfl, hG⟩; rw [hG]; clear hG
    simp only [go_sem, q2, hle]
    have hI : imgT s = P ++ numT s.evs.length ++ allT evT s.evs s.evs.length ++ numT s.done.length ++ allT dnT s.done s.done.length := by rw [hPe]; rfl
    have hQl : (P ++ numT s.evs.length).length ≤ 700 + 600 * s.cells.length + 11 := by rw [List.length_append]; omega
    generalize P ++ numT s.evs.length = Q at hI hQl ⊢
    refine LL.st good_EIm (fun i : Nat => s.evs.length - i) (fun i => i ≤ s.evs.length) (fun i => [((.o .z), .ptr (H.key 0) 0), ((.o (.o .z)), .str (Q ++ allT evT s.evs i)), ((.o (.o (.i (.i (.o (.o .z)))))), s.ev), ((.i (.o (.i (.i (.o (.o .z)))))), .int .i64 s.evs.length), ((.o (.i (.i (.i (.o (.o .z)))))), .int .i64 i)])
      (fun _ => [.row true 8 [[.int .i64 s.id, .int .i64 s.ep, .str s.fr, .str s.to, .bool s.frz, s.cv, s.ev, s.dv]]]) ?_ 0 (σ := [0]) (Wk.of rfl (by decide) (by simp only [go_sem, allT_zero, hre]; first | done | rfl | trace_state) (by simp only [go_sem, hrc, hre, hrd]; first | done | rfl | trace_state)) (Nat.zero_le _)
    rintro i hi
    have hpl := allT_len evT 600 i s.evs hevt
    have hnext := fun c => @allT_succ _ evT s.evs i c
    have hPl : (Q ++ allT evT s.evs i).length ≤ 711 + 600 * s.cells.length + 600 * i := by rw [List.length_append]; omega
    by_cases hlt : i < s.evs.length
    · obtain ⟨kk, r, ex', cap', wr, rows, hv, hrho, hgo, hrow⟩ := h.e.at hok (j := i) (by rw [List.length_map]; exact hlt)
      simp only [List.length_map, List.getElem_map] at hv hrow
      have hget : s.evs[i]? = some s.evs[i] := List.getElem?_eq_getElem hlt
      have hci : (i : Int) < (s.evs.length : Int) := by omega
      have hw := wrap_succ (n := i) (by omega)
      have hsi : i + 1 ≤ s.evs.length := by omega
      obtain ⟨⟨_, c1⟩, c2, _, c3, c4⟩ := (hh.2.1 _ (List.mem_of_getElem? hget)).2
      generalize s.evs[i] = c at hrow hget c1 c2 c3 c4
      have hnx : Q ++ allT evT s.evs (i + 1) = (Q ++ allT evT s.evs i) ++ evT c := by rw [hnext c hget, List.append_assoc]
      generalize Q ++ allT evT s.evs i = P at hnx hPl ⊢
      have y1 := fun H => ei30 (s := c.key) (by omega) H
      have y2 := fun H => ei30 (s := c.val) (by omega) H
      have y3 := fun H => ei28 (n := c.ver) (by omega) (by omega) H
      have k1 := txt266 (s := c.key) (by omega)
      have k2 := txt266 (s := c.val) (by omega)
      have k3 := num11 (n := c.ver) (by omega) (by omega)
      have p1 : (textT c.key).length + (numT c.ver.toNat).length ≤ 9223372036854775807 := by omega
      have p2 : (textT c.key).length + (numT c.ver.toNat).length + (textT c.val).length ≤ 9223372036854775807 := by omega
      have p3 : (textT c.key).length + (numT c.ver.toNat).length + (textT c.val).length + 1 ≤ 9223372036854775807 := by omega
      have p5 : P.length + ((textT c.key).length + (numT c.ver.toNat).length + (textT c.val).length + 1) ≤ 9223372036854775807 := by omega
      have hcT : textT c.key ++ numT c.ver.toNat ++ textT c.val ++ [c.del.toNat] = evT c := rfl
      simp only [go_sem, hci, hsi, hv, hgo, hrow, Evn.enc, hw, y1, y2, y3, ei71, p1, p2, p3, p5]
      exact ⟨i + 1, by show s.evs.length - (i + 1) < s.evs.length - i; omega, hsi, _, [0], rfl, Wk.of rfl (by decide) (by simp only [go_sem, hre, hrho, hv, hw, hnx, hcT]; first | done | rfl | trace_state) (by simp only [go_sem, hrc, hre, hrd, hrho, hv]; first | done | rfl | trace_state)⟩
    · have hci : ¬ (i : Int) < (s.evs.length : Int) := by omega
      obtain rfl : i = s.evs.length := by omega
      generalize Q ++ allT evT s.evs s.evs.length = P at hPl hI ⊢
      have he24 : s.evs.length < 1000 := he1
      have q1 : (numT s.done.length).length ≤ 11 := numT_small (by omega)
      have q2 : P.length + (numT s.done.length).length ≤ 9223372036854775807 := by omega
      simp only [go_sem, hci, hld]
      refine CL.of (f28_ok (n := s.done.length) (by omega)) ?_
      rintro _ G' ⟨rfl, hG⟩; rw [hG]; clear hG
      simp only [go_sem, q2, hld]
      have hQl : (P ++ numT s.done.length).length ≤ 722 + 600 * s.cells.length + 600 * s.evs.length := by rw [List.length_append]; omega
      generalize P ++ numT s.done.length = Q at hI hQl ⊢
      refine LL.st good_EIm (fun i : Nat => s.done.length - i) (fun i => i ≤ s.done.length) (fun i => [((.o (.o .z)), .str (Q ++ allT dnT s.done i)), ((.i (.i (.o (.i (.o (.i .z)))))), s.dv), ((.o (.o (.i (.i (.o (.i .z)))))), .int .i64 s.done.length), ((.i (.o (.i (.i (.o (.i .z)))))), .int .i64 i)])
        (fun _ => []) ?_ 0 (σ := []) (Wk.of rfl (by decide) (by simp only [go_sem, allT_zero, hrd]; first | done | rfl | trace_state) (by simp only [go_sem])) (Nat.zero_le _)
      rintro i hi
      have hpl := allT_len dnT 400 i s.done hdnt
      have hnext := fun c => @allT_succ _ dnT s.done i c
      have hPl : (Q ++ allT dnT s.done i).length ≤ 722 + 600 * s.cells.length + 600 * s.evs.length + 400 * i := by rw [List.length_append]; omega
      by_cases hlt : i < s.done.length
      · obtain ⟨kk, r, ex', cap', wr, rows, hv, hrho, hgo, hrow⟩ := h.d.at hok (j := i) (by rw [List.length_map]; exact hlt)
        simp only [List.length_map, List.getElem_map] at hv hrow
        have hget : s.done[i]? = some s.done[i] := List.getElem?_eq_getElem hlt
        have hci : (i : Int) < (s.done.length : Int) := by omega
        have hw := wrap_succ (n := i) (by omega)
        have hsi : i + 1 ≤ s.done.length := by omega
        have hbd := hsm.b _ (List.mem_of_getElem? hget)
        have hdl := hdnt _ (List.mem_of_getElem? hget)
        obtain ⟨⟨c1, c2, c3, c4⟩, -⟩ := (done_iff.1 hdn).1 _ (List.mem_of_getElem? hget)
        generalize s.done[i] = c at hrow hget hbd hdl c1 c2 c3 c4
        have hnx : Q ++ allT dnT s.done (i + 1) = (Q ++ allT dnT s.done i) ++ dnT c := by rw [hnext c hget, List.append_assoc]
        generalize Q ++ allT dnT s.done i = P at hnx hPl ⊢
        obtain ⟨ses, id, ⟨code, val, ver, rws, rv⟩⟩ := c
        simp only at hbd c1 c2 c3 c4
        obtain ⟨rfl, rfl⟩ := hbd
        have hcT : numT ses.toNat ++ numT id.toNat ++ ansT (bareA code val ver) = dnT ⟨ses, id, ⟨code, val, ver, [], .nils⟩⟩ := rfl
        rw [← hcT, List.length_append, List.length_append] at hdl
        have y1 := fun H => ei28 (n := ses) (by omega) (by omega) H
        have y2 := fun H => ei28 (n := id) (by omega) (by omega) H
        have p1 : (numT ses.toNat).length + (numT id.toNat).length ≤ 9223372036854775807 := by omega
        have p2 : (numT ses.toNat).length + (numT id.toNat).length + (ansT (bareA code val ver)).length ≤ 9223372036854775807 := by omega
        have p5 : P.length + ((numT ses.toNat).length + (numT id.toNat).length + (ansT (bareA code val ver)).length) ≤ 9223372036854775807 := by omega
        simp only [go_sem, hci, hsi, hv, hgo, hrow, Dn.enc, off6, hw, y1, y2, ei72, p1, p2, p5]
        exact ⟨i + 1, by show s.done.length - (i + 1) < s.done.length - i; omega, hsi, _, [], rfl, Wk.of rfl (by decide) (by simp only [go_sem, hrd, hrho, hv, hw, hnx, hcT]; first | done | rfl | trace_state) (by simp only [go_sem])⟩
      · have hci : ¬ (i : Int) < (s.done.length : Int) := by omega
        obtain rfl : i = s.done.length := by omega
        rw [← hI]
        simp only [go_sem, hci]
        refine CL.of (f73_ok hL) ?_
        rintro _ G' ⟨rfl, hG⟩; rw [hG]; clear hG
        simp only [go_sem]
        exact ⟨_, rfl⟩
end Go.Proofs
/- the document's bytes of an answer, of a shard: walked. -/


set_option linter.all false
set_option linter.all false
set_option maxRecDepth 100000
namespace Go.Proofs
open Go Go.Ev
variable {H : Heap}

/-- what is put together, by the document -/
noncomputable def ERa (f : FuncId) (args : List AV) (H : Heap) : RC :=
  match f with
  | 47 => match args with | [.int .i64 n] => if 0 ≤ n ∧ n < 9223372036854775808 then .ok (.str (numT n.toNat)) H else .fail | _ => .fail
  | 48 => match args with | [.str s] => if s.length < 4611686018427387904 then .ok (.str (textT s)) H else .fail | _ => .fail
  | 49 => match args with | [.bool b] => .ok (.str [b.toNat]) H | _ => .fail
  | _ => .fail
theorem good_ERa : Ev.Good Tryz.prog ERa := by
  intro f args H r G he φ w args' ha hw
  refine (?_ : FnOk Tryz.prog f args H fun v' G' => v' = r ∧ G' = G).one φ w args' ha hw
  unfold ERa at he
  split at he
  · split at he
    · split at he
      · rename_i n hn
        cases he
        have := f47_ok (H := H) (n := n.toNat) (by omega)
        rwa [Int.toNat_of_nonneg hn.1] at this
      · cases he
    · cases he
  · split at he
    · split at he
      · rename_i hs
        cases he; exact f48_ok hs
      · cases he
    · cases he
  · split at he
    · cases he; exact f49_ok _
    · cases he
  · cases he
theorem ea47 {n : Int} (h0 : 0 ≤ n) (h1 : n < 9223372036854775808) (H : Heap) : ERa 47 [.int .i64 n] H = .ok (.str (numT n.toNat)) H := if_pos ⟨h0, h1⟩
theorem ea48 {s : List Nat} (h : s.length < 4611686018427387904) (H : Heap) : ERa 48 [.str s] H = .ok (.str (textT s)) H := if_pos h
theorem f50_bare (code : Int) (val : List Nat) (ver : Int) : FnOk Tryz.prog 50 [.agg [.int .i64 code, .str val, .int .i64 ver, .nils]] H fun r G => r = .str (ansT (bareA code val ver)) ∧ G = H := by
  refine FnOk.drop (R := fun r => r = .str (ansT (bareA code val ver))) ?_ (by rintro v rfl ρ; rw [AV.ren])
  refine FnOk.of_WW Tryz.func50 rfl C50ok R50ok ERa good_ERa ?_
  simp only [go_sem, C50]
  refine CL.bool (f99_ok (a := bareA code val ver) (bareA_ok ..)) (fun g => ?_) (fun g => ?_)
  · have hx := ansT_bare g
    obtain ⟨⟨b1, b2, b3, b4, b5⟩, -, -⟩ := g
    simp only [bareA] at b1 b2 b3 b4 b5
    have x1 := fun H => ea47 (n := code) (by omega) (by omega) H
    have x2 := fun H => ea48 (s := val) (by omega) H
    have x3 := fun H => ea47 (n := ver) (by omega) (by omega) H
    have x4 := fun H => ea47 (n := 0) (by omega) (by omega) H
    have n1 := num11 (n := code) (by omega) (by omega)
    have n2 := txt266 (s := val) (by omega)
    have n3 := num11 (n := ver) (by omega) (by omega)
    have n4 : (numT 0).length ≤ 11 := numT_small (by decide)
    have z0 : (0 : Int).toNat = 0 := rfl
    rw [z0] at x4
    have m1 : (numT code.toNat).length + (textT val).length ≤ 9223372036854775807 := by omega
    have m2 : (numT code.toNat).length + (textT val).length + (numT ver.toNat).length ≤ 9223372036854775807 := by omega
    have m3 : (numT code.toNat).length + (textT val).length + (numT ver.toNat).length + (numT 0).length ≤ 9223372036854775807 := by omega
    simp only [go_sem, x1, x2, x3, x4, m1, m2, m3]
    refine LL.st good_ERa (fun _ : Nat => 0) (fun _ => True) (fun _ => [((.o .z), .ptr (H.key 0) 0), ((.o (.o .z)), .str (ansT (bareA code val ver))), ((.i (.o .z)), .int .i64 0)]) (fun _ => [.row true 4 [[.int .i64 code, .str val, .int .i64 ver, .nils]]]) ?_ 0 (σ := [0])
      (Wk.of rfl (by decide) (by simp only [go_sem, hx]; first | done | rfl | trace_state) (by simp only [go_sem]; first | done | rfl | trace_state)) trivial
    rintro _ _
    simp only [go_sem]
    exact ⟨_, rfl⟩
  · have hx := ansT_nil.2 g
    simp only [go_sem, hx]
    exact ⟨_, rfl⟩
noncomputable def ERf (f : FuncId) (args : List AV) (H : Heap) : RC :=
  match f with
  | 47 => match args with | [.int .i64 n] => if 0 ≤ n ∧ n < 9223372036854775808 then .ok (.str (numT n.toNat)) H else .fail | _ => .fail
  | 48 => match args with | [.str s] => if s.length < 4611686018427387904 then .ok (.str (textT s)) H else .fail | _ => .fail
  | 49 => match args with | [.bool b] => .ok (.str [b.toNat]) H | _ => .fail
  | 50 => match args with | [.agg [.int .i64 code, .str val, .int .i64 ver, .nils]] => .ok (.str (ansT (bareA code val ver))) H | _ => .fail
  | _ => .fail
theorem good_ERf : Ev.Good Tryz.prog ERf := by
  intro f args H r G he φ w args' ha hw
  refine (?_ : FnOk Tryz.prog f args H fun v' G' => v' = r ∧ G' = G).one φ w args' ha hw
  unfold ERf at he
  split at he
  · split at he
    · split at he
      · rename_i n hn
        cases he
        have := f47_ok (H := H) (n := n.toNat) (by omega)
        rwa [Int.toNat_of_nonneg hn.1] at this
      · cases he
    · cases he
  · split at he
    · split at he
      · rename_i hs
        cases he; exact f48_ok hs
      · cases he
    · cases he
  · split at he
    · cases he; exact f49_ok _
    · cases he
  · split at he
    · cases he; exact f50_bare _ _ _
    · cases he
  · cases he
theorem er47 {n : Int} (h0 : 0 ≤ n) (h1 : n < 9223372036854775808) (H : Heap) : ERf 47 [.int .i64 n] H = .ok (.str (numT n.toNat)) H := if_pos ⟨h0, h1⟩
theorem er48 {s : List Nat} (h : s.length < 4611686018427387904) (H : Heap) : ERf 48 [.str s] H = .ok (.str (textT s)) H := if_pos h
theorem er49 (b : Bool) (H : Heap) : ERf 49 [.bool b] H = .ok (.str [b.toNat]) H := rfl
theorem er50 (code : Int) (val : List Nat) (ver : Int) (H : Heap) : ERf 50 [.agg [.int .i64 code, .str val, .int .i64 ver, .nils]] H = .ok (.str (ansT (bareA code val ver))) H := rfl
theorem f16_ok {s : Sh} (h : s.ok H) (hs : isSh s) (hsm : smallS s) (hL : (imgT s).length < 1000000) : FnOk Tryz.prog 16 [.agg s.enc] H fun r G => r = .str (wrapT (imgT s)) ∧ G = H := by
  refine FnOk.assume fun hok => ?_
  refine FnOk.drop (R := fun r => r = .str (wrapT (imgT s))) ?_ (by rintro v rfl ρ; rw [AV.ren])
  refine FnOk.of_WW Tryz.func16 rfl C16ok R16ok ERf good_ERf ?_
  have hlc := fun G => h.c.len G
  have hle := fun G => h.e.len G
  have hld := fun G => h.d.len G
  simp only [List.length_map] at hlc hle hld
  have hrc := h.c.ren
  have hre := h.e.ren
  have hrd := h.d.ren
  have hc1 := hsm.c
  have he1 := hsm.e
  have hd1 := hsm.d
  obtain ⟨⟨a1, a2, a3, a4⟩, ⟨b1, b2, _⟩, _, _, hh, hdn⟩ := id hs
  have x1 := fun H => er47 (n := s.id) (by omega) (by omega) H
  have x2 := fun H => er47 (n := s.ep) (by omega) (by omega) H
  have x3 := fun H => er48 (s := s.fr) (by omega) H
  have x4 := fun H => er48 (s := s.to) (by omega) H
  have x5 := fun H => er47 (n := (s.cells.length : Int)) (by omega) (by omega) H
  rw [Int.toNat_natCast] at x5
  have n1 := num11 (n := s.id) (by omega) (by omega)
  have n2 := num11 (n := s.ep) (by omega) (by omega)
  have n3 := txt266 (s := s.fr) (by omega)
  have n4 := txt266 (s := s.to) (by omega)
  have n5 : (numT s.cells.length).length ≤ 11 := numT_small (by omega)
  have m1 : (numT s.id.toNat).length + (numT s.ep.toNat).length ≤ 9223372036854775807 := by omega
  have m2 : (numT s.id.toNat).length + (numT s.ep.toNat).length + (textT s.fr).length ≤ 9223372036854775807 := by omega
  have m3 : (numT s.id.toNat).length + (numT s.ep.toNat).length + (textT s.fr).length + (textT s.to).length ≤ 9223372036854775807 := by omega
  have m4 : (numT s.id.toNat).length + (numT s.ep.toNat).length + (textT s.fr).length + (textT s.to).length + 1 ≤ 9223372036854775807 := by omega
  have m5 : (numT s.id.toNat).length + (numT s.ep.toNat).length + (textT s.fr).length + (textT s.to).length + 1 + (numT s.cells.length).length ≤ 9223372036854775807 := by omega
  have htop : numT s.id.toNat ++ numT s.ep.toNat ++ textT s.fr ++ textT s.to ++ [s.frz.toNat] ++ numT s.cells.length = topT s := rfl
  have htl := topT_len hs hc1
  simp only [go_sem, C16, Sh.enc]
  refine CL.bool (f24_ok (s := s) (h.ext _)) (fun g => ?_) (fun g => absurd hs g)
  simp only [go_sem, hlc, x1, x2, x3, x4, x5, er49, m1, m2, m3, m4, m5]
  have hcell : ∀ c ∈ s.cells, (cellT c).length ≤ 600 := fun c hc => cellT_len (hh.1.cell hc)
  have hevt : ∀ e ∈ s.evs, (evT e).length ≤ 600 := fun e he => evT_len (hh.2.1 e he).2
  have hdnt : ∀ d ∈ s.done, (dnT d).length ≤ 400 := fun d hd => dnT_len ((done_iff.1 hdn).1 d hd) (hsm.b d hd)
  refine LL.st good_ERf (fun i : Nat => s.cells.length - i) (fun i => i ≤ s.cells.length) (fun i => [((.o .z), .ptr (H.key 0) 0), ((.o (.o .z)), .str (topT s ++ allT cellT s.cells i)), ((.i (.o .z)), .int .i64 i)])
    (fun _ => [.row true 8 [[.int .i64 s.id, .int .i64 s.ep, .str s.fr, .str s.to, .bool s.frz, s.cv, s.ev, s.dv]]]) ?_ 0 (σ := [0]) (Wk.of rfl (by decide) (by simp only [go_sem, htop, allT_zero]; first | done | rfl | trace_state) (by simp only [go_sem, hrc, hre, hrd]; first | done | rfl | trace_state)) (Nat.zero_le _)
  rintro i hi
  have hpl := allT_len cellT 600 i s.cells hcell
  have hnext := fun c => @allT_succ _ cellT s.cells i c
  have hPl : (topT s ++ allT cellT s.cells i).length ≤ 700 + 600 * i := by rw [List.length_append]; omega
  by_cases hlt : i < s.cells.length
  · obtain ⟨kk, r, ex', cap', wr, rows, hv, hrho, hgo, hrow⟩ := h.c.at hok (j := i) (by rw [List.length_map]; exact hlt)
    simp only [List.length_map, List.getElem_map] at hv hrow
    have hget : s.cells[i]? = some s.cells[i] := List.getElem?_eq_getElem hlt
    have hci : (i : Int) < (s.cells.length : Int) := by omega
    have hw := wrap_succ (n := i) (by omega)
    have hsi : i + 1 ≤ s.cells.length := by omega
    have hcl := hcell _ (List.mem_of_getElem? hget)
    obtain ⟨⟨⟨_, c1⟩, c2, _, c3, c4⟩, c5, c6⟩ := hh.1.cell (List.mem_of_getElem? hget)
    generalize s.cells[i] = c at hrow hget hcl c1 c2 c3 c4 c5 c6
    have hcT : ∀ P, P ++ textT c.key ++ textT c.value ++ numT c.ver.toNat ++ [c.del.toNat] ++ numT c.floor.toNat = P ++ cellT c := fun P => by
      unfold cellT
      simp only [List.append_assoc]
    have hnx : topT s ++ allT cellT s.cells (i + 1) = (topT s ++ allT cellT s.cells i) ++ cellT c := by rw [hnext c hget, List.append_assoc]
    generalize topT s ++ allT cellT s.cells i = P at hnx hPl ⊢
    have y1 := fun H => er48 (s := c.key) (by omega) H
    have y2 := fun H => er48 (s := c.value) (by omega) H
    have y3 := fun H => er47 (n := c.ver) (by omega) (by omega) H
    have y4 := fun H => er47 (n := c.floor) (by omega) (by omega) H
    have k1 := txt266 (s := c.key) (by omega)
    have k2 := txt266 (s := c.value) (by omega)
    have k3 := num11 (n := c.ver) (by omega) (by omega)
    have k4 := num11 (n := c.floor) (by omega) (by omega)
    have p1 : P.length + (textT c.key).length ≤ 9223372036854775807 := by omega
    have p2 : P.length + (textT c.key).length + (textT c.value).length ≤ 9223372036854775807 := by omega
    have p3 : P.length + (textT c.key).length + (textT c.value).length + (numT c.ver.toNat).length ≤ 9223372036854775807 := by omega
    have p4 : P.length + (textT c.key).length + (textT c.value).length + (numT c.ver.toNat).length + 1 ≤ 9223372036854775807 := by omega
    have p5 : P.length + (textT c.key).length + (textT c.value).length + (numT c.ver.toNat).length + 1 + (numT c.floor.toNat).length ≤ 9223372036854775807 := by omega
    simp only [go_sem, hlc, hci, hsi, hv, hgo, hrow, Cell.enc, hw, y1, y2, y3, y4, er49, p1, p2, p3, p4, p5]
    exact ⟨i + 1, by show s.cells.length - (i + 1) < s.cells.length - i; omega, hsi, _, [0], rfl, Wk.of rfl (by decide) (by simp only [go_sem, hrc, hrho, hv, hw, hnx, hcT]; first | done | rfl | trace_state) (by simp only [go_sem, hrc, hre, hrd, hrho, hv]; first | done | rfl | trace_state)⟩
  · have hci : ¬ (i : Int) < (s.cells.length : Int) := by omega
    obtain rfl : i = s.cells.length := by omega
    obtain ⟨P, hPe⟩ : ∃ P, P = topT s ++ allT cellT s.cells s.cells.length := ⟨_, rfl⟩
    rw [← hPe] at hPl ⊢
    have q1 : (numT s.evs.length).length ≤ 11 := numT_small (by omega)
    have q2 : P.length + (numT s.evs.length).length ≤ 9223372036854775807 := by omega
    simp only [go_sem, hlc, hci, hle]
    refine CL.of (f47_ok (n := s.evs.length) (by omega)) ?_
    rintro _ G' ⟨rfl, hG⟩; rw [hG]; clear hG
    simp only [go_sem, q2]
    have hI : imgT s = P ++ numT s.evs.length ++ allT evT s.evs s.evs.length ++ numT s.done.length ++ allT dnT s.done s.done.length := by rw [hPe]; rfl
    have hQl : (P ++ numT s.evs.length).length ≤ 700 + 600 * s.cells.length + 11 := by rw [List.length_append]; omega
    generalize P ++ numT s.evs.length = Q at hI hQl ⊢
    refine LL.st good_ERf (fun i : Nat => s.evs.length - i) (fun i => i ≤ s.evs.length) (fun i => [((.o .z), .ptr (H.key 0) 0), ((.o (.o .z)), .str (Q ++ allT evT s.evs i)), ((.i (.i .z)), .int .i64 i)])
      (fun _ => [.row true 8 [[.int .i64 s.id, .int .i64 s.ep, .str s.fr, .str s.to, .bool s.frz, s.cv, s.ev, s.dv]]]) ?_ 0 (σ := [0]) (Wk.of rfl (by decide) (by simp only [go_sem, allT_zero]; first | done | rfl | trace_state) (by simp only [go_sem, hrc, hre, hrd]; first | done | rfl | trace_state)) (Nat.zero_le _)
    rintro i hi
    have hpl := allT_len evT 600 i s.evs hevt
    have hnext := fun c => @allT_succ _ evT s.evs i c
    have hPl : (Q ++ allT evT s.evs i).length ≤ 711 + 600 * s.cells.length + 600 * i := by rw [List.length_append]; omega
    by_cases hlt : i < s.evs.length
    · obtain ⟨kk, r, ex', cap', wr, rows, hv, hrho, hgo, hrow⟩ := h.e.at hok (j := i) (by rw [List.length_map]; exact hlt)
      simp only [List.length_map, List.getElem_map] at hv hrow
      have hget : s.evs[i]? = some s.evs[i] := List.getElem?_eq_getElem hlt
      have hci : (i : Int) < (s.evs.length : Int) := by omega
      have hw := wrap_succ (n := i) (by omega)
      have hsi : i + 1 ≤ s.evs.length := by omega
      obtain ⟨⟨_, c1⟩, c2, _, c3, c4⟩ := (hh.2.1 _ (List.mem_of_getElem? hget)).2
      generalize s.evs[i] = c at hrow hget c1 c2 c3 c4
      have hcT : ∀ P, P ++ textT c.key ++ numT c.ver.toNat ++ textT c.val ++ [c.del.toNat] = P ++ evT c := fun P => by
        unfold evT
        simp only [List.append_assoc]
      have hnx : Q ++ allT evT s.evs (i + 1) = (Q ++ allT evT s.evs i) ++ evT c := by rw [hnext c hget, List.append_assoc]
      generalize Q ++ allT evT s.evs i = P at hnx hPl ⊢
      have y1 := fun H => er48 (s := c.key) (by omega) H
      have y2 := fun H => er48 (s := c.val) (by omega) H
      have y3 := fun H => er47 (n := c.ver) (by omega) (by omega) H
      have k1 := txt266 (s := c.key) (by omega)
      have k2 := txt266 (s := c.val) (by omega)
      have k3 := num11 (n := c.ver) (by omega) (by omega)
      have p1 : P.length + (textT c.key).length ≤ 9223372036854775807 := by omega
      have p2 : P.length + (textT c.key).length + (numT c.ver.toNat).length ≤ 9223372036854775807 := by omega
      have p3 : P.length + (textT c.key).length + (numT c.ver.toNat).length + (textT c.val).length ≤ 9223372036854775807 := by omega
      have p5 : P.length + (textT c.key).length + (numT c.ver.toNat).length + (textT c.val).length + 1 ≤ 9223372036854775807 := by omega
      simp only [go_sem, hle, hci, hsi, hv, hgo, hrow, Evn.enc, hw, y1, y2, y3, er49, p1, p2, p3, p5]
      exact ⟨i + 1, by show s.evs.length - (i + 1) < s.evs.length - i; omega, hsi, _, [0], rfl, Wk.of rfl (by decide) (by simp only [go_sem, hre, hrho, hv, hw, hnx, hcT]; first | done | rfl | trace_state) (by simp only [go_sem, hrc, hre, hrd, hrho, hv]; first | done | rfl | trace_state)⟩
    · have hci : ¬ (i : Int) < (s.evs.length : Int) := by omega
      obtain rfl : i = s.evs.length := by omega
      generalize Q ++ allT evT s.evs s.evs.length = P at hPl hI ⊢
      have q1 : (numT s.done.length).length ≤ 11 := numT_small (by omega)
      have q2 : P.length + (numT s.done.length).length ≤ 9223372036854775807 := by omega
      simp only [go_sem, hle, hci, hld]
      refine CL.of (f47_ok (n := s.done.length) (by omega)) ?_
      rintro _ G' ⟨rfl, hG⟩; rw [hG]; clear hG
      simp only [go_sem, q2]
      have hQl : (P ++ numT s.done.length).length ≤ 722 + 600 * s.cells.length + 600 * s.evs.length := by rw [List.length_append]; omega
      generalize P ++ numT s.done.length = Q at hI hQl ⊢
      refine LL.st good_ERf (fun i : Nat => s.done.length - i) (fun i => i ≤ s.done.length) (fun i => [((.o .z), .ptr (H.key 0) 0), ((.o (.o .z)), .str (Q ++ allT dnT s.done i)), ((.i (.o (.o .z))), .int .i64 i)])
        (fun _ => [.row true 8 [[.int .i64 s.id, .int .i64 s.ep, .str s.fr, .str s.to, .bool s.frz, s.cv, s.ev, s.dv]]]) ?_ 0 (σ := [0]) (Wk.of rfl (by decide) (by simp only [go_sem, allT_zero]; first | done | rfl | trace_state) (by simp only [go_sem, hrc, hre, hrd]; first | done | rfl | trace_state)) (Nat.zero_le _)
      rintro i hi
      have hpl := allT_len dnT 400 i s.done hdnt
      have hnext := fun c => @allT_succ _ dnT s.done i c
      have hPl : (Q ++ allT dnT s.done i).length ≤ 722 + 600 * s.cells.length + 600 * s.evs.length + 400 * i := by rw [List.length_append]; omega
      by_cases hlt : i < s.done.length
      · obtain ⟨kk, r, ex', cap', wr, rows, hv, hrho, hgo, hrow⟩ := h.d.at hok (j := i) (by rw [List.length_map]; exact hlt)
        simp only [List.length_map, List.getElem_map] at hv hrow
        have hget : s.done[i]? = some s.done[i] := List.getElem?_eq_getElem hlt
        have hci : (i : Int) < (s.done.length : Int) := by omega
        have hw := wrap_succ (n := i) (by omega)
        have hsi : i + 1 ≤ s.done.length := by omega
        have hbd := hsm.b _ (List.mem_of_getElem? hget)
        have hdl := hdnt _ (List.mem_of_getElem? hget)
        obtain ⟨⟨c1, c2, c3, c4⟩, -⟩ := (done_iff.1 hdn).1 _ (List.mem_of_getElem? hget)
        generalize s.done[i] = c at hrow hget hbd hdl c1 c2 c3 c4
        have hnx : Q ++ allT dnT s.done (i + 1) = (Q ++ allT dnT s.done i) ++ dnT c := by rw [hnext c hget, List.append_assoc]
        generalize Q ++ allT dnT s.done i = P at hnx hPl ⊢
        obtain ⟨ses, id, ⟨code, val, ver, rws, rv⟩⟩ := c
        simp only at hbd c1 c2 c3 c4
        obtain ⟨rfl, rfl⟩ := hbd
        have hcT : ∀ P, P ++ numT ses.toNat ++ numT id.toNat ++ ansT (bareA code val ver) = P ++ dnT ⟨ses, id, ⟨code, val, ver, [], .nils⟩⟩ := fun P => by
          unfold dnT
          simp only [List.append_assoc]
          rfl
        have hcT0 : dnT ⟨ses, id, ⟨code, val, ver, [], .nils⟩⟩ = numT ses.toNat ++ numT id.toNat ++ ansT (bareA code val ver) := rfl
        rw [hcT0, List.length_append, List.length_append] at hdl
        have y1 := fun H => er47 (n := ses) (by omega) (by omega) H
        have y2 := fun H => er47 (n := id) (by omega) (by omega) H
        have p1 : P.length + (numT ses.toNat).length ≤ 9223372036854775807 := by omega
        have p2 : P.length + (numT ses.toNat).length + (numT id.toNat).length ≤ 9223372036854775807 := by omega
        have p5 : P.length + (numT ses.toNat).length + (numT id.toNat).length + (ansT (bareA code val ver)).length ≤ 9223372036854775807 := by omega
        simp only [go_sem, hld, hci, hsi, hv, hgo, hrow, Dn.enc, off6, hw, y1, y2, er50, p1, p2, p5]
        exact ⟨i + 1, by show s.done.length - (i + 1) < s.done.length - i; omega, hsi, _, [0], rfl, Wk.of rfl (by decide) (by simp only [go_sem, hrd, hrho, hv, hw, hnx, hcT]; first | done | rfl | trace_state) (by simp only [go_sem, hrc, hre, hrd, hrho, hv]; first | done | rfl | trace_state)⟩
      · have hci : ¬ (i : Int) < (s.done.length : Int) := by omega
        obtain rfl : i = s.done.length := by omega
        rw [← hI]
        simp only [go_sem, hld, hci]
        refine CL.of (f51_ok hL) ?_
        rintro _ G' ⟨rfl, hG⟩; rw [hG]; clear hG
        simp only [go_sem]
        exact ⟨_, rfl⟩
end Go.Proofs
/- a shard as a copy: walked. -/

set_option linter.all false
set_option linter.all false
set_option maxRecDepth 100000
namespace Go.Proofs
open Go Go.Ev
variable {H : Heap}

/-- what is cloned -/
def AC (e : Nat) (H : Heap) (args : List AV) (xs : List (List AV)) : Prop := ∃ v, args = [v] ∧ Arr H e v xs ∧ xs.length < 100000 ∧ ∀ top σ, xs.map (AV.rens (rho H top σ)) = xs
noncomputable def ECl (f : FuncId) (args : List AV) (H : Heap) : RC :=
  match f with
  | 101 => ot (AC 5 H args) fun xs => .ok (zV (nilB (args.headD .nils)) H.nx 5 xs.length) (H.ext [zB (nilB (args.headD .nils)) 5 xs])
  | 102 => ot (AC 4 H args) fun xs => .ok (zV (nilB (args.headD .nils)) H.nx 4 xs.length) (H.ext [zB (nilB (args.headD .nils)) 4 xs])
  | 103 => ot (AC 6 H args) fun xs => .ok (zV (nilB (args.headD .nils)) H.nx 6 xs.length) (H.ext [zB (nilB (args.headD .nils)) 6 xs])
  | 104 => match args with | [.nils] => .ok .nils H | _ => .fail
  | _ => .fail
theorem good_ECl : Ev.Good Tryz.prog ECl := by
  intro f args H r G he φ w args' ha hw
  refine (?_ : FnOk Tryz.prog f args H fun v' G' => v' = r ∧ G' = G).one φ w args' ha hw
  unfold ECl at he
  split at he
  · obtain ⟨xs, ⟨v, rfl, h1, h2, h3⟩, hz⟩ := ot_ok he
    clear he
    cases hz
    exact clone_zd clo50 h1 (by omega) h3
  · obtain ⟨xs, ⟨v, rfl, h1, h2, h3⟩, hz⟩ := ot_ok he
    clear he
    cases hz
    exact clone_zd clo75 h1 (by omega) h3
  · obtain ⟨xs, ⟨v, rfl, h1, h2, h3⟩, hz⟩ := ot_ok he
    clear he
    cases hz
    exact clone_zd clo57 h1 (by omega) h3
  · split at he
    · cases he; exact clone_nil clo55
    · cases he
  · cases he
theorem ac_eq {e : Nat} (he : 0 < e) {H : Heap} {v : AV} {xs : List (List AV)} (hA : Arr H e v xs) (hl : xs.length < 100000) (hx : ∀ top σ, xs.map (AV.rens (rho H top σ)) = xs) (c : List (List AV) → RC) : ot (AC e H [v]) c = c xs :=
  ot_eq (p := AC e H [v]) (x := xs) ⟨v, rfl, hA, hl, hx⟩ (by
    rintro ys ⟨v', h1, h2, _⟩
    injection h1 with h1 _
    subst h1
    exact Arr.uniq h2 hA he) c
theorem ec77 {v : AV} {l : List Cell} (hA : Arr H 5 v (l.map Cell.enc)) (hl : l.length < 100000) (L : List Blk) : ECl 101 [v] (H.ext L) = .ok (zV (nilB v) (H.key L.length) 5 l.length) (H.ext (L ++ [zB (nilB v) 5 (l.map Cell.enc)])) := by
  show ot (AC 5 (H.ext L) [v]) _ = _
  rw [ac_eq (by decide) (hA.ext L) (by rw [List.length_map]; exact hl) (fun _ _ => Cell.map_rens _ _), List.length_map, Heap.nx_ext, Heap.ext_append]
  rfl
theorem ec78 {v : AV} {l : List Evn} (hA : Arr H 4 v (l.map Evn.enc)) (hl : l.length < 100000) (L : List Blk) : ECl 102 [v] (H.ext L) = .ok (zV (nilB v) (H.key L.length) 4 l.length) (H.ext (L ++ [zB (nilB v) 4 (l.map Evn.enc)])) := by
  show ot (AC 4 (H.ext L) [v]) _ = _
  rw [ac_eq (by decide) (hA.ext L) (by rw [List.length_map]; exact hl) (fun _ _ => Evn.map_rens _ _), List.length_map, Heap.nx_ext, Heap.ext_append]
  rfl
theorem bareL.rens {l : List Dn} (h : bareL l) (ρ : K → K) : (l.map Dn.enc).map (AV.rens ρ) = l.map Dn.enc := by
  rw [List.map_map]
  refine List.map_congr_left fun d hd => ?_
  simp only [Function.comp, Dn.enc, AV.rens, AV.ren, (h d hd).1]
theorem bareL.ok {l : List Dn} (h : bareL l) (H : Heap) : allOk H l := fun d hd => ⟨by rw [(h d hd).1, (h d hd).2]; exact .inl ⟨rfl, rfl⟩, by rw [(h d hd).2]; exact Nat.zero_le _⟩
theorem ec79 {v : AV} {l : List Dn} (hA : Arr H 6 v (l.map Dn.enc)) (hb : bareL l) (hl : l.length < 100000) (L : List Blk) : ECl 103 [v] (H.ext L) = .ok (zV (nilB v) (H.key L.length) 6 l.length) (H.ext (L ++ [zB (nilB v) 6 (l.map Dn.enc)])) := by
  show ot (AC 6 (H.ext L) [v]) _ = _
  rw [ac_eq (by decide) (hA.ext L) (by rw [List.length_map]; exact hl) (fun _ _ => hb.rens _), List.length_map, Heap.nx_ext, Heap.ext_append]
  rfl
theorem ec80 (H : Heap) : ECl 104 [.nils] H = .ok .nils H := rfl
/-- a shard whose lists are copies -/
noncomputable def Sh.cop (s : Sh) (k0 k1 k2 : K) : Sh := ⟨s.id, s.ep, s.fr, s.to, s.frz, s.cells, s.evs, s.done, zV (nilB s.cv) k0 5 s.cells.length, zV (nilB s.ev) k1 4 s.evs.length, zV (nilB s.dv) k2 6 s.done.length⟩
noncomputable def copB (s : Sh) : List Blk := [zB (nilB s.cv) 5 (s.cells.map Cell.enc), zB (nilB s.ev) 4 (s.evs.map Evn.enc), zB (nilB s.dv) 6 (s.done.map Dn.enc)]
theorem Sh.cop_ok {s : Sh} (h : s.ok H) {L : List Blk} {i j m : Nat} (h1 : L[i]? = some (zB (nilB s.cv) 5 (s.cells.map Cell.enc))) (h2 : L[j]? = some (zB (nilB s.ev) 4 (s.evs.map Evn.enc))) (h3 : L[m]? = some (zB (nilB s.dv) 6 (s.done.map Dn.enc))) : (s.cop (H.key i) (H.key j) (H.key m)).ok (H.ext L) :=
  ⟨arr_zV h1 (List.length_map ..), arr_zV h2 (List.length_map ..), arr_zV h3 (List.length_map ..), h.dok.ext L, h.cl, h.el, h.dl⟩
theorem set_same {α : Type} {l : List α} {k : Nat} {x : α} (h : l[k]? = some x) : l.set k x = l := by
  apply List.ext_getElem?
  intro j
  by_cases hj : k = j
  · subst hj
    rw [List.getElem?_set_self (List.getElem?_eq_some_iff.1 h).1, h]
  · rw [List.getElem?_set_ne hj]
theorem f52_ok {s : Sh} (h : s.ok H) (hsm : smallS s) :
    FnOk Tryz.prog 52 [.agg s.enc] H fun r G => r = .agg (s.cop (H.key 0) (H.key 1) (H.key 2)).enc ∧ G = H.ext (copB s) := by
  refine FnOk.dropW ?_
  refine FnOk.of_WW Tryz.func52 rfl C52ok R52ok ECl good_ECl ?_
  obtain ⟨hb, hc, he, hd⟩ := hsm
  have i77 := ec77 h.c (by omega)
  have i78 := ec78 h.e (by omega)
  have i79 := ec79 h.d hb (by omega)
  have drn := hb.rens
  simp only [go_sem, C52, Sh.enc, i77, i78, i79]
  refine LL.st good_ECl (fun i : Nat => s.done.length - i) (fun i => i ≤ s.done.length)
    (fun i => [((.o .z), .ptr (H.key 0) 0), ((.i .z), .ptr (H.key 1) 0), ((.i (.i (.o (.o .z)))), .int .i64 s.done.length), ((.o (.o (.i (.o .z)))), .int .i64 i)])
    (fun _ => .row true 8 [(s.cop (H.key 2) (H.key 3) (H.key 4)).enc] :: .row true 8 [[.int .i64 0, .int .i64 0, .str [], .str [], .bool false, .nils, .nils, .nils]] :: copB s) ?_ 0 (σ := [0, 1, 2, 3, 4]) (Wk.of rfl (by decide) (by simp only [go_sem]; first | done | rfl | trace_state) (by simp only [go_sem, copB, Sh.cop, Sh.enc, zV_ren, ↓zB_ren, Cell.map_rens, Evn.map_rens, drn, implies_true]; first | done | trace_state)) (Nat.zero_le _)
  rintro i hi
  by_cases hlt : i < s.done.length
  · have hci : (i : Int) < (s.done.length : Int) := by omega
    have hw := wrap_succ (n := i) (by omega)
    have hget : s.done[i]? = some s.done[i] := List.getElem?_eq_getElem hlt
    generalize s.done[i] = d at hget
    obtain ⟨hn1, hn2⟩ := hb d (List.mem_of_getElem? hget)
    have hrow : (s.done.map Dn.enc)[i]? = some [.int .i64 d.ses, .int .i64 d.id, .int .i64 d.an.code, .str d.an.val, .int .i64 d.an.ver, .nils] := by
      rw [List.getElem?_map, hget, ← hn1]; rfl
    have hset : (s.done.map Dn.enc).set i [.int .i64 d.ses, .int .i64 d.id, .int .i64 d.an.code, .str d.an.val, .int .i64 d.an.ver, .nils] = s.done.map Dn.enc := set_same hrow
    have hv := zV_pos (z := nilB s.dv) (k := H.key 4) (esz := 6) (n := s.done.length) (by omega)
    have hB := zB_pos (z := nilB s.dv) (esz := 6) (xs := s.done.map Dn.enc) (by rw [List.length_map]; omega)
    have hsi : i + 1 ≤ s.done.length := hlt
    simp only [go_sem, copB, Sh.cop, Sh.enc, hci, hw, hv, hB, hrow, hset, hsi, off6, ec80, Nat.zero_add]
    exact ⟨i + 1, by show s.done.length - (i + 1) < s.done.length - i; omega, hlt, _, [0, 1, 2, 3, 4], rfl, Wk.of rfl (by decide) (by simp only [go_sem]; first | done | rfl | trace_state) (by simp only [go_sem, copB, Sh.cop, Sh.enc, hv, hB, zV_ren, ↓zB_ren, Cell.map_rens, Evn.map_rens, drn, implies_true]; first | done | trace_state)⟩
  · have hci : ¬ (i : Int) < (s.done.length : Int) := by omega
    simp only [go_sem, copB, Sh.cop, Sh.enc, hci]
    exact ⟨_, [2, 3, 4], by simp only [zV_ren, go_sem], rfl, rfl, by decide, by simp only [go_sem, copB, zV_ren, ↓zB_ren, Cell.map_rens, Evn.map_rens, drn, implies_true]⟩
end Go.Proofs
/- a node's shards told: by number, by key, by where they begin: walked. -/

set_option linter.all false
set_option linter.all false
set_option maxRecDepth 100000
namespace Go.Proofs
open Go Go.Ev
variable {H : Heap}

theorem get_lit {bl : List Blk} {i : Nat} {x : Blk} (h : bl[i]? = some x) : (H.ext bl).get (H.key i) = some x := by
  rw [Heap.get_ext_key _ _ _ (List.getElem?_eq_some_iff.1 h).1]; exact h
theorem get_lit2 {bl L : List Blk} {i : Nat} {x : Blk} (h : bl[i]? = some x) : ((H.ext bl).ext L).get (H.key i) = some x := by
  rw [Heap.ext_append]
  refine get_lit ?_
  rw [List.getElem?_append_left (List.getElem?_eq_some_iff.1 h).1]
  exact h
theorem cap_lit {bl : List Blk} {i : Nat} (h : i < bl.length) (g : FuncId) (top : Nat) (σ : List Nat) : AV.ren (rho (H.ext bl) top σ) (.fn (.func g) [] [.ptr (H.key i) 0]) = .fn (.func g) [] [.ptr (H.key i) 0] := by
  have : rho (H.ext bl) top σ (H.key i) = H.key i := rho_old (by rw [Heap.nx_ext, Heap.toNat_key, Heap.toNat_key]; omega)
  simp only [AV.ren, AV.rens, this]
/-- no shard -/
def zS : List AV := [.int .i64 0, .int .i64 0, .str [], .str [], .bool false, .nils, .nils, .nils]
section
variable {G : Heap} {k : K} {lv gv : AV} {hs : List Sh} {gs : List Gn}
theorem f44_no (k : K) {i : Int} (hi : i < 0) : FnOk Tryz.prog 44 [.ptr k 0, .int .i64 i] G fun r G' => r = .tup [.agg zS, .bool false] ∧ G' = G := by
  refine FnOk.drop (R := fun r => r = .tup [.agg zS, .bool false]) ?_ (by rintro v rfl ρ; simp only [zS, AV.ren, AV.rens])
  refine FnOk.of_WW Tryz.func44 rfl C44ok R44ok E0 good_E0 ?_
  simp only [go_sem, C44, hi, zS]
  exact ⟨_, rfl⟩
theorem f44_yes (h : isHd G k lv gv hs gs) {i : Nat} {s : Sh} (hi : hs[i]? = some s) : FnOk Tryz.prog 44 [.ptr k 0, .int .i64 i] G fun r G' => r = .tup [.agg (s.cop (G.key 0) (G.key 1) (G.key 2)).enc, .bool true] ∧ G' = G.ext (copB s) := by
  refine FnOk.dropW ?_
  refine FnOk.of_WW Tryz.func44 rfl C44ok R44ok E0 good_E0 ?_
  have hk : ∀ L, (G.ext L).get k = _ := fun L => Heap.get_ext_old h.ok h.row L
  obtain ⟨hlt, hs'⟩ := List.getElem?_eq_some_iff.1 hi
  obtain ⟨kk, r, ex', cap', wr, rows, hv, hrho, hgo, hrow⟩ := h.l.at h.ok (j := i) (by rw [List.length_map]; exact hlt)
  simp only [List.length_map, List.getElem_map, hs'] at hv hrow
  have hm := List.mem_of_getElem? hi
  have hsok := h.each s hm
  have hsm := h.small s hm
  have hci : ¬ (i : Int) < 0 := by omega
  have hsi : i + 1 ≤ hs.length := hlt
  have drn := bareL.rens hsm.b
  simp only [go_sem, C44, hci, hk, hv, hsi, hgo, hrow, Sh.enc]
  refine CL.of (f52_ok (hsok.ext _) hsm) ?_
  rintro _ _ ⟨rfl, rfl⟩
  simp only [go_sem, Sh.enc, Sh.cop, copB, Heap.key_ext]
  exact ⟨_, [1, 2, 3], by simp only [zV_ren, go_sem], rfl, rfl, by decide, by simp only [go_sem, zV_ren, ↓zB_ren, Cell.map_rens, Evn.map_rens, drn, implies_true]⟩
theorem f15_yes (h : isHd G k lv gv hs gs) (n : Int) {i : Nat} {s : Sh} (hx : idx (fun s => decide (s.id = n)) hs 0 = i) (hi : hs[i]? = some s) : FnOk Tryz.prog 15 [.ptr k 0, .int .i64 n] G fun r G' => r = .tup [.agg (s.cop (G.key 0) (G.key 1) (G.key 2)).enc, .bool true] ∧ G' = G.ext (copB s) := by
  refine FnOk.dropW ?_
  refine FnOk.of_WW Tryz.func15 rfl C15ok R15ok E0 good_E0 ?_
  have hsm := h.small s (List.mem_of_getElem? hi)
  have drn := bareL.rens hsm.b
  simp only [go_sem, C15]
  refine CL.of (f45_ok (q := fun s => decide (s.id = n)) (h.ext _) (fun _ _ => call46 ..) (fun top σ => by exact cap_lit (Nat.zero_lt_succ _) 46 top σ) (fun s _ L => by exact f46_ok (get_lit2 rfl) s)) ?_
  rintro _ G' ⟨rfl, hG⟩
  rw [hG, hx]
  clear hG
  simp only [go_sem]
  refine CL.of (f44_yes (h.ext _) hi) ?_
  rintro _ _ ⟨rfl, rfl⟩
  simp only [go_sem, Sh.enc, Sh.cop, copB, Heap.key_ext]
  exact ⟨_, [2, 3, 4], by simp only [zV_ren, go_sem], rfl, rfl, by decide, by simp only [go_sem, zV_ren, ↓zB_ren, Cell.map_rens, Evn.map_rens, drn, implies_true]⟩
theorem f15_no (h : isHd G k lv gv hs gs) (n : Int) (hx : idx (fun s => decide (s.id = n)) hs 0 = -1) : FnOk Tryz.prog 15 [.ptr k 0, .int .i64 n] G fun r G' => r = .tup [.agg zS, .bool false] ∧ G' = G := by
  refine FnOk.drop (R := fun r => r = .tup [.agg zS, .bool false]) ?_ (by rintro v rfl ρ; simp only [zS, AV.ren, AV.rens])
  refine FnOk.of_WW Tryz.func15 rfl C15ok R15ok E0 good_E0 ?_
  simp only [go_sem, C15]
  refine CL.of (f45_ok (q := fun s => decide (s.id = n)) (h.ext _) (fun _ _ => call46 ..) (fun top σ => by exact cap_lit (Nat.zero_lt_succ _) 46 top σ) (fun s _ L => by exact f46_ok (get_lit2 rfl) s)) ?_
  rintro _ G' ⟨rfl, hG⟩
  rw [hG, hx]
  clear hG
  simp only [go_sem]
  refine CL.of (f44_no _ (by decide)) ?_
  rintro _ G' ⟨rfl, hG⟩
  rw [hG]
  clear hG
  simp only [go_sem, zS]
  exact ⟨_, rfl⟩
theorem f21_yes (h : isHd G k lv gv hs gs) (key : List Nat) {i : Nat} {s : Sh} (hx : idx (findQ key) hs 0 = i) (hi : hs[i]? = some s) : FnOk Tryz.prog 21 [.ptr k 0, .str key] G fun r G' => r = .tup [.agg (s.cop (G.key 0) (G.key 1) (G.key 2)).enc, .bool true] ∧ G' = G.ext (copB s) := by
  refine FnOk.dropW ?_
  refine FnOk.of_WW Tryz.func21 rfl C21ok R21ok E0 good_E0 ?_
  have hsm := h.small s (List.mem_of_getElem? hi)
  have drn := bareL.rens hsm.b
  simp only [go_sem, C21]
  refine CL.of (f45_ok (q := findQ key) (h.ext _) (fun _ _ => call57 ..) (fun top σ => by exact cap_lit (Nat.zero_lt_succ _) 57 top σ) (fun s _ L => by exact f57_ok (get_lit2 rfl) s)) ?_
  rintro _ G' ⟨rfl, hG⟩
  rw [hG, hx]
  clear hG
  simp only [go_sem]
  refine CL.of (f44_yes (h.ext _) hi) ?_
  rintro _ _ ⟨rfl, rfl⟩
  simp only [go_sem, Sh.enc, Sh.cop, copB, Heap.key_ext]
  exact ⟨_, [2, 3, 4], by simp only [zV_ren, go_sem], rfl, rfl, by decide, by simp only [go_sem, zV_ren, ↓zB_ren, Cell.map_rens, Evn.map_rens, drn, implies_true]⟩
theorem f22_yes (h : isHd G k lv gv hs gs) (f : List Nat) {i : Nat} {s : Sh} (hx : idx (atQ f) hs 0 = i) (hi : hs[i]? = some s) : FnOk Tryz.prog 22 [.ptr k 0, .str f] G fun r G' => r = .tup [.agg (s.cop (G.key 0) (G.key 1) (G.key 2)).enc, .bool true] ∧ G' = G.ext (copB s) := by
  refine FnOk.dropW ?_
  refine FnOk.of_WW Tryz.func22 rfl C22ok R22ok E0 good_E0 ?_
  have hsm := h.small s (List.mem_of_getElem? hi)
  have drn := bareL.rens hsm.b
  simp only [go_sem, C22]
  refine CL.of (f45_ok (q := atQ f) (h.ext _) (fun _ _ => call59 ..) (fun top σ => by exact cap_lit (Nat.zero_lt_succ _) 59 top σ) (fun s _ L => by exact f59_ok (get_lit2 rfl) s)) ?_
  rintro _ G' ⟨rfl, hG⟩
  rw [hG, hx]
  clear hG
  simp only [go_sem]
  refine CL.of (f44_yes (h.ext _) hi) ?_
  rintro _ _ ⟨rfl, rfl⟩
  simp only [go_sem, Sh.enc, Sh.cop, copB, Heap.key_ext]
  exact ⟨_, [2, 3, 4], by simp only [zV_ren, go_sem], rfl, rfl, by decide, by simp only [go_sem, zV_ren, ↓zB_ren, Cell.map_rens, Evn.map_rens, drn, implies_true]⟩
end
end Go.Proofs
/- pieces of a shard's bytes taken: walked. -/


set_option linter.all false
set_option linter.all false
set_option maxRecDepth 100000
namespace Go.Proofs
open Go Go.Ev
variable {H : Heap}

/-- one's own blocks are let go; an old one was changed -/
theorem FnOk.dropK {P : Program} {f : FuncId} {args : List AV} {R : AV → Prop} {k : K} {c b : Blk} (hk : H.get k = some c) (hb : ∀ ρ, b.ren ρ = b) (h : FnOk P f args H fun v G => R v ∧ ∃ l, G = (H.set k b).ext l) (hr : ∀ v, R v → ∀ ρ, v.ren ρ = v) :
    FnOk P f args H fun v G => R v ∧ G = H.set k b := by
  intro φ w args' ha hw
  refine (h φ w args' ha hw).mono ?_
  rintro e u ⟨v, G, ⟨hv0, l, rfl⟩, ψ, v', he, hv, hw1, he1⟩
  have hlt : k.toNat < H.nx.toNat := hw.top k c hk
  have hok2 : (H.set k b).ok := Heap.ok_set hw.top hk
  obtain ⟨hw2, he2⟩ := WRel.wkB (H0 := H) (B := H.set k b) (l2 := []) rfl hok2 (fun top σ j d hj hg hn hl => by
      rw [Heap.get_set] at hg
      split at hg
      · cases hg; exact hb _
      · exact hw.old_fix top σ j d hg hn hl) (fun j hj hn => by
      have := he1.hidden j hj hn
      rwa [Heap.get_ext_lt _ _ _ (by exact hj)] at this) hw1 he1 [] rfl (by simp) (by simp)
  refine ⟨v, _, ⟨hv0, rfl⟩, _, v', he, ?_, hw2, he2⟩
  have e := hr v hv0 (rho H l.length [])
  refine VRel.ren ?_
  rw [e]
  exact hv
section
variable {k : K}
theorem f200_ok {t : List Nat} (hk : H.get k = some (.row true 2 [[.str t, .nili]])) (l : List Nat) : FnOk Tryz.prog 200 [.ptr k 0, .str l, .nili] H fun r G => r = .bool true ∧ G = H.set k (.row true 2 [[.str l, .nili]]) := by
  refine FnOk.assume fun hok => ?_
  refine FnOk.of_WW Tryz.func200 rfl C200ok R200ok E0 good_E0 ?_
  have g := fun L => Heap.get_ext_old hok hk L
  have s := fun b (l : List Blk) (α : Type) (c' : Heap → α) => Heap.setC_here hok hk b l c'
  have q := fun b (l : List Blk) => Heap.get_set_here hok hk b l
  have s' := fun b d (l : List Blk) (α : Type) (c' : Heap → α) => Heap.setC_set_here hok hk b d l c'
  simp only [go_sem, C200, g, s, q, s']
  rfl
theorem f161_ok {n : Nat} (hn : n < 281474976710656) {l : List Nat} (hl : l.length < 1000000) (hk : H.get k = some (.row true 2 [[.str (numT n ++ l), .nili]])) : FnOk Tryz.prog 161 [.ptr k 0] H fun r G => r = .int .i64 n ∧ G = H.set k (.row true 2 [[.str l, .nili]]) := by
  refine FnOk.assume fun hok => ?_
  refine FnOk.of_WW Tryz.func161 rfl C161ok R161ok E0 good_E0 ?_
  have g := fun L => Heap.get_ext_old hok hk L
  simp only [go_sem, C161, g]
  refine CL.of (f74_num hn hl) ?_
  rintro _ G' ⟨rfl, hG⟩; rw [hG]; clear hG
  simp only [go_sem]
  refine CL.of (f200_ok hk l) ?_
  rintro _ G' ⟨rfl, hG⟩; rw [hG]; clear hG
  refine WW.nil ?_
  simp only [go_sem]
  rfl
theorem f162_ok {s : List Nat} (hs : (s.length : Int) ≤ 255) {l : List Nat} (hl : l.length < 900000) (hk : H.get k = some (.row true 2 [[.str (textT s ++ l), .nili]])) : FnOk Tryz.prog 162 [.ptr k 0] H fun r G => r = .str s ∧ G = H.set k (.row true 2 [[.str l, .nili]]) := by
  refine FnOk.assume fun hok => ?_
  refine FnOk.of_WW Tryz.func162 rfl C162ok R162ok E0 good_E0 ?_
  have g := fun L => Heap.get_ext_old hok hk L
  simp only [go_sem, C162, g]
  refine CL.of (f77_txt hs (by omega)) ?_
  rintro _ G' ⟨rfl, hG⟩; rw [hG]; clear hG
  simp only [go_sem]
  refine CL.of (f200_ok hk l) ?_
  rintro _ G' ⟨rfl, hG⟩; rw [hG]; clear hG
  refine WW.nil ?_
  simp only [go_sem]
  rfl
theorem f163_ok (b : Bool) {l : List Nat} (hl : l.length < 1000000) (hk : H.get k = some (.row true 2 [[.str (b.toNat :: l), .nili]])) : FnOk Tryz.prog 163 [.ptr k 0] H fun r G => r = .bool b ∧ G = H.set k (.row true 2 [[.str l, .nili]]) := by
  refine FnOk.assume fun hok => ?_
  refine FnOk.of_WW Tryz.func163 rfl C163ok R163ok E0 good_E0 ?_
  have g := fun L => Heap.get_ext_old hok hk L
  simp only [go_sem, C163, g]
  refine CL.of (f160_ok b l hl) ?_
  rintro _ G' ⟨rfl, hG⟩; rw [hG]; clear hG
  simp only [go_sem]
  refine CL.of (f200_ok hk l) ?_
  rintro _ G' ⟨rfl, hG⟩; rw [hG]; clear hG
  refine WW.nil ?_
  simp only [go_sem]
  rfl
theorem f164_ok {n : Nat} (hn : n < 281474976710656) {l : List Nat} (hl : l.length < 1000000) (hnl : n ≤ l.length) (hk : H.get k = some (.row true 2 [[.str (numT n ++ l), .nili]])) : FnOk Tryz.prog 164 [.ptr k 0] H fun r G => r = .int .i64 n ∧ G = H.set k (.row true 2 [[.str l, .nili]]) := by
  refine FnOk.assume fun hok => ?_
  refine FnOk.of_WW Tryz.func164 rfl C164ok R164ok E0 good_E0 ?_
  have q := fun b (l : List Blk) => Heap.get_set_here hok hk b l
  have h2 : ¬ (l.length : Int) < (n : Int) := by omega
  simp only [go_sem, C164]
  refine CL.of (f161_ok hn hl hk) ?_
  rintro _ G' ⟨rfl, hG⟩; rw [Heap.ext_nil] at hG; rw [hG]; clear hG
  refine WW.nil ?_
  simp only [go_sem, q, h2]
  rfl
theorem f122_ok {n : Nat} (hn : n < 281474976710656) {l : List Nat} (hl : l.length < 1000000) (hk : H.get k = some (.row true 2 [[.str (numT n ++ l), .nili]])) : FnOk Tryz.prog 122 [.ptr k 0] H fun r G => r = .int .i64 n ∧ G = H.set k (.row true 2 [[.str l, .nili]]) := by
  refine FnOk.assume fun hok => ?_
  refine FnOk.of_WW Tryz.func122 rfl C122ok R122ok E0 good_E0 ?_
  have g := fun L => Heap.get_ext_old hok hk L
  have s := fun b (l : List Blk) (α : Type) (c' : Heap → α) => Heap.setC_here hok hk b l c'
  have q := fun b (l : List Blk) => Heap.get_set_here hok hk b l
  have s' := fun b d (l : List Blk) (α : Type) (c' : Heap → α) => Heap.setC_set_here hok hk b d l c'
  simp only [go_sem, C122, g]
  refine CL.of (f74_num hn hl) ?_
  rintro _ G' ⟨rfl, hG⟩; rw [hG]; clear hG
  simp only [go_sem, g, s, q, s']
  rfl
theorem f123_ok {s : List Nat} (hs : (s.length : Int) ≤ 255) {l : List Nat} (hl : l.length < 900000) (hk : H.get k = some (.row true 2 [[.str (textT s ++ l), .nili]])) : FnOk Tryz.prog 123 [.ptr k 0] H fun r G => r = .str s ∧ G = H.set k (.row true 2 [[.str l, .nili]]) := by
  refine FnOk.assume fun hok => ?_
  refine FnOk.of_WW Tryz.func123 rfl C123ok R123ok E0 good_E0 ?_
  have g := fun L => Heap.get_ext_old hok hk L
  have st := fun b (l : List Blk) (α : Type) (c' : Heap → α) => Heap.setC_here hok hk b l c'
  have q := fun b (l : List Blk) => Heap.get_set_here hok hk b l
  have s' := fun b d (l : List Blk) (α : Type) (c' : Heap → α) => Heap.setC_set_here hok hk b d l c'
  simp only [go_sem, C123, g]
  refine CL.of (f77_txt hs (by omega)) ?_
  rintro _ G' ⟨rfl, hG⟩; rw [hG]; clear hG
  simp only [go_sem, g, st, q, s']
  rfl
theorem f124_zero {l : List Nat} (hl : l.length < 1000000) (hk : H.get k = some (.row true 2 [[.str (numT 0 ++ l), .nili]])) : FnOk Tryz.prog 124 [.ptr k 0, .int .i64 16] H fun r G => r = .int .i64 0 ∧ G = H.set k (.row true 2 [[.str l, .nili]]) := by
  refine FnOk.assume fun hok => ?_
  refine FnOk.of_WW Tryz.func124 rfl C124ok R124ok E0 good_E0 ?_
  have q := fun b (l : List Blk) => Heap.get_set_here hok hk b l
  simp only [go_sem, C124]
  refine CL.of (f122_ok (n := 0) (by decide) hl hk) ?_
  rintro _ G' ⟨rfl, hG⟩; rw [Heap.ext_nil] at hG; rw [hG]; clear hG
  refine WW.nil ?_
  simp only [go_sem, q]
  rfl
end
end Go.Proofs
/- Loops that change one old block: walked with what the loop's own blocks hold. -/

set_option linter.all false
set_option maxRecDepth 100000
namespace Go.Ev
section
variable {P : Program} {H0 : Heap} {T : Tr AV} {a : Act} {u : World} {N : Nat}
theorem At2.wkK {φ0 : Phi} {w0 : World} (h0 : WRel P φ0 H0 w0) {k : K} {c b : Blk} (hkc : H0.get k = some c) (hb : ∀ ρ, b.ren ρ = b) {l l2 : List Blk} {ts : List (K × AV)} {σ : List Nat} (hk : Wk H0 T l ts l2 σ)
    (h : At2 P φ0 H0 w0 N T ((H0.set k b).ext l) a u) : At2 P φ0 H0 w0 N (trOf ts) ((H0.set k b).ext l2) a u := by
  obtain ⟨hd, ψ, ht, hw1, he1⟩ := h
  have hok2 : (H0.set k b).ok := Heap.ok_set h0.top hkc
  obtain ⟨hw2, he2⟩ := WRel.wkB (H0 := H0) (B := H0.set k b) (l2 := l2) rfl hok2 (fun top σ j d hj hg hn hl => by
      rw [Heap.get_set] at hg
      split at hg
      · cases hg; exact hb _
      · exact h0.old_fix top σ j d hg hn hl) (fun j hj hn => by
      have := he1.hidden j hj hn
      rwa [Heap.get_ext_lt _ _ _ (by exact hj)] at this) hw1 he1 σ hk.len (fun i j b hb hj hl => zip_get hk.blks hb hj hl) fun i j b c n hij _ _ _ _ hi => nodup_get hk.inj hij hi
  refine ⟨hd, _, ⟨ht.size, fun t v hv => ?_⟩, hw2, he2⟩
  have := hk.slots _ (get_trOf ts _ v hv)
  obtain ⟨v', h1, h2⟩ := ht.get t _ this
  exact ⟨v', h1, h2.ren⟩
theorem TriC.wkK {c : CC} {k : K} {d b : Blk} {Q : Ex → Tr AV → Heap → Prop} (hkc : H0.get k = some d) (hb : ∀ ρ, b.ren ρ = b) {l l2 : List Blk} {ts : List (K × AV)} {σ : List Nat} (hk : Wk H0 T l ts l2 σ)
    (h : TriC P N H0 c (trOf ts) ((H0.set k b).ext l2) Q) : TriC P N H0 c T ((H0.set k b).ext l) Q := fun code hc φ0 w0 a u h0 ha => h code hc φ0 w0 a u h0 (ha.wkK h0 hkc hb hk)
def KeptK (H0 : Heap) (k : K) (Q : Ex → Tr AV → Heap → Prop) : Ex → Tr AV → Heap → Prop := fun e T G => Q e T G ∨ ∃ b l ts l2 σ, (∀ ρ, Blk.ren ρ b = b) ∧ G = (H0.set k b).ext l ∧ Wk H0 T l ts l2 σ ∧ Q e (trOf ts) ((H0.set k b).ext l2)
theorem TriC.keptK {H : Heap} {c : CC} {k : K} {d : Blk} {Q : Ex → Tr AV → Heap → Prop} (hkc : H0.get k = some d) (h : TriC P N H0 c T H (KeptK H0 k Q)) : TriC P N H0 c T H Q := by
  intro code hc φ0 w0 a u h0 ha
  refine wp_mono (h code hc φ0 w0 a u h0 ha) ?_
  rintro x a1 u1 ⟨e, T1, G, q | ⟨b, l, ts, l2, σ, hb, rfl, hk, q⟩, hx, h1⟩
  · exact ⟨e, T1, G, q, hx, h1⟩
  · exact ⟨e, _, _, q, hx, h1.wkK h0 hkc hb hk⟩
end
section
variable {P : Program} {E : FuncId → List AV → Heap → RC} {N : Nat} {H0 H : Heap} {T : Tr AV} {k : List It} {Q : Ex → Tr AV → Heap → Prop}
/-- a round's end: another state, nearer the end; the old block holds what it then shall -/
def NextK (H0 : Heap) (k0 : K) {S : Type} (μ : S → Nat) (good : S → Prop) (ts : S → List (K × AV)) (bk : S → Blk) (bl : S → List Blk) (s : S) (T : Tr AV) (G : Heap) : Prop :=
  ∃ s', μ s' < μ s ∧ good s' ∧ ∃ l σ, G = (H0.set k0 (bk s')).ext l ∧ Wk H0 T l (ts s') (bl s') σ
theorem LL.stK {x : CC} (hE : Good P E) {k0 : K} {d : Blk} (hkc : H0.get k0 = some d) {S : Type} (μ : S → Nat) (good : S → Prop) (ts : S → List (K × AV)) (bk : S → Blk) (hbk : ∀ s ρ, (bk s).ren ρ = bk s) (bl : S → List Blk)
    (h : ∀ s, good s → WW P E N H0 [.code x] (trOf (ts s)) ((H0.set k0 (bk s)).ext (bl s)) (behind (NextK H0 k0 μ good ts bk bl s) (postW P E N H0 k Q))) {l : List Blk} (s0 : S) {σ : List Nat} (hw : Wk H0 T l (ts s0) (bl s0) σ) (h0 : good s0) :
    LL P E N H0 x k T ((H0.set k0 (bk s0)).ext l) Q := by
  refine TriC.wkK hkc (hbk s0) hw ?_
  refine TriC.loop (fun m T G => ∃ s, m = μ s ∧ good s ∧ T = trOf (ts s) ∧ G = (H0.set k0 (bk s)).ext (bl s)) ?_ (m := μ s0) ⟨s0, rfl, h0, rfl, rfl⟩
  rintro m T G ⟨s, rfl, hs, rfl, rfl⟩
  refine TriC.keptK hkc ((wpc_ok hE x _ _ _ (h s hs)).mono ?_)
  intro e T G q
  cases e with
  | norm =>
    obtain ⟨s', hm, hg, l, σ, hG, hk⟩ := q
    exact .inr ⟨bk s', l, ts s', bl s', σ, hbk s', hG, hk, μ s', hm, s', rfl, hg, rfl, rfl⟩
  | exit n => exact .inl q
  | ret => exact .inl q
end
end Go.Ev
