/- part. -/
import Derived.Test.YtglpihajimhekaaGreatDoorZ3
import Derived.Laws.Strings
import Derived.Laws.Runes
namespace Go.Ev
noncomputable def mx (k : IntKind) : Nat :=
 IntKind.rec (motive := fun _ => Nat) 127 32767 2147483647 9223372036854775807 255 65535 4294967295 18446744073709551615 k
theorem wrap_nat (k : IntKind) (n : Nat) (h : n ≤ mx k) : k.wrap (.ofNat n) = .ofNat n := by
 cases k <;> simp only [mx] at h <;> simp [IntKind.wrap, IntKind.bits, IntKind.signed] <;> omega
section
variable {β : Type}
noncomputable def natC (k : IntKind) (n : Nat) (c : Int → β) : β := fN n fun n => bif' (Nat.ble n (mx k)) (c (.ofNat n)) (fI (k.wrap (.ofNat n)) c)
theorem natC_eq (k : IntKind) (n : Nat) (c : Int → β) : natC k n c = c (k.wrap (.ofNat n)) := by
 unfold natC
 rw [fN_eq, bif_eq, fI_eq]
 split
 ·rename_i h; rw [wrap_nat k n (Nat.le_of_ble_eq_true h)]
 ·rfl
noncomputable def twoC (a b : Int) (x : Nat → Nat → β) (y : β) : β :=
 Int.rec (motive := fun _ => β) (fun m => Int.rec (motive := fun _ => β) (fun n => x m n) (fun _ => y) b) (fun _ => y) a
theorem twoC_eq (a b : Int) (x : Nat → Nat → β) (y z : β) (h : ∀ m n, a = .ofNat m → b = .ofNat n → x m n = z) (hy : y = z) : twoC a b x y = z := by
 cases a with
 | ofNat m => cases b with
  | ofNat n => exact h m n rfl rfl
  | negSucc n => exact hy
 | negSucc m => exact hy
noncomputable def addC (k : IntKind) (a b : Int) (c : Int → β) : β := twoC a b (fun m n => natC k (m + n) c) (fI (k.wrap (a + b)) c)
theorem addC_eq (k : IntKind) (a b : Int) (c : Int → β) : addC k a b c = c (k.wrap (a + b)) :=
 twoC_eq _ _ _ _ _ (fun m n h1 h2 => by subst h1 h2; rw [natC_eq]; rfl) (fI_eq _ _)
noncomputable def subC (k : IntKind) (a b : Int) (c : Int → β) : β := twoC a b (fun m n => bif' (Nat.ble n m) (natC k (m - n) c) (fI (k.wrap (a - b)) c)) (fI (k.wrap (a - b)) c)
theorem subC_eq (k : IntKind) (a b : Int) (c : Int → β) : subC k a b c = c (k.wrap (a - b)) :=
 twoC_eq _ _ _ _ _ (fun m n h1 h2 => by
  rw [bif_eq]
  split
  ·rename_i h; have := Nat.le_of_ble_eq_true h; rw [natC_eq]; subst h1 h2; congr 2; simp; omega
  ·exact fI_eq _ _) (fI_eq _ _)
noncomputable def mulC (k : IntKind) (a b : Int) (c : Int → β) : β := twoC a b (fun m n => natC k (m * n) c) (fI (k.wrap (a * b)) c)
theorem mulC_eq (k : IntKind) (a b : Int) (c : Int → β) : mulC k a b c = c (k.wrap (a * b)) :=
 twoC_eq _ _ _ _ _ (fun m n h1 h2 => by subst h1 h2; rw [natC_eq]; rfl) (fI_eq _ _)
noncomputable def quoC (k : IntKind) (a b : Int) (c : Int → β) : β := twoC a b (fun m n => natC k (m / n) c) (fI (k.wrap (a.tdiv b)) c)
theorem quoC_eq (k : IntKind) (a b : Int) (c : Int → β) : quoC k a b c = c (k.wrap (a.tdiv b)) :=
 twoC_eq _ _ _ _ _ (fun m n h1 h2 => by subst h1 h2; rw [natC_eq]; rfl) (fI_eq _ _)
noncomputable def remC (a b : Int) (c : Int → β) : β := twoC a b (fun m n => fN (m % n) fun r => c (.ofNat r)) (fI (a.tmod b) c)
theorem remC_eq (a b : Int) (c : Int → β) : remC a b c = c (a.tmod b) :=
 twoC_eq _ _ _ _ _ (fun m n h1 h2 => by subst h1 h2; rw [fN_eq]; rfl) (fI_eq _ _)
noncomputable def eqI (a b : Int) (c : Bool → β) : β := twoC a b (fun m n => fB (Nat.beq m n) c) (fB (decide (a = b)) c)
theorem eqI_eq (a b : Int) (c : Bool → β) : eqI a b c = c (decide (a = b)) :=
 twoC_eq _ _ _ _ _ (fun m n h1 h2 => by
  subst h1 h2; rw [fB_eq]; congr 1; rw [Bool.eq_iff_iff]; simp; omega) (fB_eq _ _)
noncomputable def ltI (a b : Int) (c : Bool → β) : β := twoC a b (fun m n => fB (Nat.ble (m + 1) n) c) (fB (decide (a < b)) c)
theorem ltI_eq (a b : Int) (c : Bool → β) : ltI a b c = c (decide (a < b)) :=
 twoC_eq _ _ _ _ _ (fun m n h1 h2 => by
  subst h1 h2; rw [fB_eq]; congr 1; rw [Bool.eq_iff_iff]; simp; omega) (fB_eq _ _)
noncomputable def leI (a b : Int) (c : Bool → β) : β := twoC a b (fun m n => fB (Nat.ble m n) c) (fB (decide (a ≤ b)) c)
theorem leI_eq (a b : Int) (c : Bool → β) : leI a b c = c (decide (a ≤ b)) :=
 twoC_eq _ _ _ _ _ (fun m n h1 h2 => by
  subst h1 h2; rw [fB_eq]; congr 1; rw [Bool.eq_iff_iff]; simp) (fB_eq _ _)
noncomputable def shlC (k : IntKind) (a : Int) (n : Nat) (c : Int → β) : β := twoC a (.ofNat n) (fun m n => natC k (m * 2 ^ n) c) (fI (k.wrap (a * 2 ^ n)) c)
theorem shlC_eq (k : IntKind) (a : Int) (n : Nat) (c : Int → β) : shlC k a n c = c (k.wrap (a * 2 ^ n)) :=
 twoC_eq _ _ _ _ _ (fun m j h1 h2 => by
  cases h2
  subst h1; rw [natC_eq]; congr 2) (fI_eq _ _)
noncomputable def shrC (a : Int) (n : Nat) (c : Int → β) : β := twoC a (.ofNat n) (fun m n => fN (m / 2 ^ n) fun r => c (.ofNat r)) (fI (a.fdiv (2 ^ n)) c)
theorem shrC_eq (a : Int) (n : Nat) (c : Int → β) : shrC a n c = c (a.fdiv (2 ^ n)) :=
 twoC_eq _ _ _ _ _ (fun m j h1 h2 => by
  cases h2
  subst h1; rw [fN_eq]; congr 1
  show _ = (Int.ofNat m).fdiv (2 ^ n)
  rw [show ((2 : Int) ^ n) = ((2 ^ n : Nat) : Int) by simp, Int.fdiv_eq_ediv_of_nonneg _ (Int.natCast_nonneg _)]
  rfl) (fI_eq _ _)
noncomputable def appC {α : Type} (a b : List α) (c : List α → β) : β := List.rec (motive := fun _ => (List α → β) → β) (fun c => c b) (fun x _ ih c => ih fun r => c (x :: r)) a c
theorem appC_eq {α : Type} : ∀ (a b : List α) (c : List α → β), appC a b c = c (a ++ b)
 | [], _, _ => rfl
 | x :: a, b, c => by show appC a b (fun r => c (x :: r)) = _; rw [appC_eq a b]; rfl
end
noncomputable def eqL (a : List Nat) : List Nat → Bool :=
 List.rec (motive := fun _ => List Nat → Bool) (fun b => List.rec (motive := fun _ => Bool) true (fun _ _ _ => false) b)
  (fun x _ ih b => List.rec (motive := fun _ => Bool) false (fun y r _ => bif' (Nat.beq x y) (ih r) false) b) a
theorem eqL_eq : ∀ a b : List Nat, eqL a b = decide (a = b)
 | [], [] => rfl
 | [], _ :: _ => rfl
 | _ :: _, [] => rfl
 | x :: a, y :: b => by
  show bif' (Nat.beq x y) (eqL a b) false = _
  rw [bif_eq, eqL_eq a b]
  by_cases h : x = y
  ·subst h; simp
  ·rw [if_neg (by simpa using h)]; simp [h]
noncomputable def ltL (a : List Nat) : List Nat → Bool :=
 List.rec (motive := fun _ => List Nat → Bool) (fun b => List.rec (motive := fun _ => Bool) false (fun _ _ _ => true) b)
  (fun x _ ih b => List.rec (motive := fun _ => Bool) false (fun y r _ => bif' (Nat.beq x y) (ih r) (Nat.ble (x + 1) y)) b) a
theorem ltL_eq : ∀ a b : List UInt8, ltL (a.map (·.toNat)) (b.map (·.toNat)) = Op.bytesLess a b
 | [], [] => rfl
 | [], _ :: _ => rfl
 | _ :: _, [] => rfl
 | x :: a, y :: b => by
  show bif' (Nat.beq x.toNat y.toNat) (ltL (a.map (·.toNat)) (b.map (·.toNat))) (Nat.ble (x.toNat + 1) y.toNat) = (x < y || (x == y && Op.bytesLess a b))
  rw [bif_eq, ltL_eq a b]
  by_cases h : x = y
  ·subst h; simp
  ·have hn : x.toNat ≠ y.toNat := fun e => h (UInt8.toNat_inj.1 e)
   rw [if_neg (by simpa using hn)]
   have h1 : (x == y) = false := by simpa using h
   rw [h1, Bool.false_and, Bool.or_false, Bool.eq_iff_iff]
   simp [UInt8.lt_iff_toNat_lt]; omega
theorem eqL_map (a b : List UInt8) : eqL (a.map (·.toNat)) (b.map (·.toNat)) = (a == b) := by
 rw [eqL_eq, Bool.eq_iff_iff]
 simp only [decide_eq_true_eq, beq_iff_eq]
 constructor
 ·intro h
  exact (List.map_inj_right (fun x y e => UInt8.toNat_inj.1 e)).1 h
 ·intro h; rw [h]
section
variable {β : Type}
noncomputable def bitC (k : IntKind) (r : BitVec k.bits) (c : Int → β) : β := fI (k.wrap r.toNat) c
theorem bitC_eq (k : IntKind) (r : BitVec k.bits) (c : Int → β) : bitC k r c = c (k.wrap r.toNat) := fI_eq _ _
noncomputable def intBin (op : BinOp) (k : IntKind) (a b : Int) (f : β) (c : AV → β) : β :=
 BinOp.rec (motive := fun _ => β)
  (addC k a b fun n => c (.int k n)) (subC k a b fun n => c (.int k n)) (mulC k a b fun n => c (.int k n))
  (eqI b 0 fun z => bif' z f (quoC k a b fun n => c (.int k n))) (eqI b 0 fun z => bif' z f (remC a b fun n => c (.int k n)))
  (bitC k (BitVec.ofInt k.bits a &&& BitVec.ofInt k.bits b) fun n => c (.int k n))
  (bitC k (BitVec.ofInt k.bits a ||| BitVec.ofInt k.bits b) fun n => c (.int k n))
  (bitC k (BitVec.ofInt k.bits a ^^^ BitVec.ofInt k.bits b) fun n => c (.int k n))
  f f
  (bitC k (BitVec.ofInt k.bits a &&& ~~~ BitVec.ofInt k.bits b) fun n => c (.int k n))
  (eqI a b fun z => c (.bool z)) (eqI a b fun z => c (.bool (Bool.not z))) (ltI a b fun z => c (.bool z)) (leI a b fun z => c (.bool z)) (ltI b a fun z => c (.bool z)) (leI b a fun z => c (.bool z)) op
theorem intBin_sound (P : Program) (w : World) (t : TypeId) (op : BinOp) (k : IntKind) (a b : Int) (f : β) (c : AV → β) :
  intBin op k a b f c = f ∨ ∃ v v', intBin op k a b f c = c v ∧ (Go.binOp op t (.int k a) (.int k b)).run P w = .ok v' w ∧ ∀ φ, VRel P φ v v' := by
 cases op
 case add => exact .inr ⟨_, _, addC_eq _ _ _ _, by simp [Go.binOp, Op.intArith], fun φ => .int _ _⟩
 case sub => exact .inr ⟨_, _, subC_eq _ _ _ _, by simp [Go.binOp, Op.intArith], fun φ => .int _ _⟩
 case mul => exact .inr ⟨_, _, mulC_eq _ _ _ _, by simp [Go.binOp, Op.intArith], fun φ => .int _ _⟩
 case quo =>
  by_cases h : b = 0
  ·left; show eqI b 0 _ = f; rw [eqI_eq]; simp [h, bif_true]
  ·right; refine ⟨.int k (k.wrap (a.tdiv b)), _, ?_, ?_, fun φ => .int _ _⟩
   ·show eqI b 0 _ = _; rw [eqI_eq, quoC_eq]; simp [h, bif_false]
   ·simp [Go.binOp, Op.intDiv, h]
 case rem =>
  by_cases h : b = 0
  ·left; show eqI b 0 _ = f; rw [eqI_eq]; simp [h, bif_true]
  ·right; refine ⟨.int k (a.tmod b), _, ?_, ?_, fun φ => .int _ _⟩
   ·show eqI b 0 _ = _; rw [eqI_eq, remC_eq]; simp [h, bif_false]
   ·simp [Go.binOp, Op.intDiv, h]
 case and => exact .inr ⟨_, _, bitC_eq _ _ _, by simp only [Go.binOp, Op.intBits, ne_eq, not_true_eq_false, if_false]; rfl, fun φ => .int _ _⟩
 case or => exact .inr ⟨_, _, bitC_eq _ _ _, by simp only [Go.binOp, Op.intBits, ne_eq, not_true_eq_false, if_false]; rfl, fun φ => .int _ _⟩
 case xor => exact .inr ⟨_, _, bitC_eq _ _ _, by simp only [Go.binOp, Op.intBits, ne_eq, not_true_eq_false, if_false]; rfl, fun φ => .int _ _⟩
 case shl => exact .inl rfl
 case shr => exact .inl rfl
 case andNot => exact .inr ⟨_, _, bitC_eq _ _ _, by simp only [Go.binOp, Op.intBits, ne_eq, not_true_eq_false, if_false]; rfl, fun φ => .int _ _⟩
 case eql => exact .inr ⟨_, .bool (a == b), eqI_eq _ _ _, by simp [Go.binOp, Op.intCmp], fun φ => by rw [show (a == b) = decide (a = b) from by rw [Bool.eq_iff_iff]; simp]; exact .bool _⟩
 case neq => exact .inr ⟨_, .bool (a != b), eqI_eq _ _ _, by simp [Go.binOp, Op.intCmp], fun φ => by rw [show (a != b) = Bool.not (decide (a = b)) from by rw [Bool.eq_iff_iff]; simp]; exact .bool _⟩
 case lss => exact .inr ⟨_, .bool (decide (a < b)), ltI_eq _ _ _, by simp [Go.binOp, Op.intCmp], fun φ => .bool _⟩
 case leq => exact .inr ⟨_, .bool (decide (a ≤ b)), leI_eq _ _ _, by simp [Go.binOp, Op.intCmp], fun φ => .bool _⟩
 case gtr => exact .inr ⟨_, .bool (decide (b < a)), ltI_eq _ _ _, by simp [Go.binOp, Op.intCmp], fun φ => .bool _⟩
 case geq => exact .inr ⟨_, .bool (decide (b ≤ a)), leI_eq _ _ _, by simp [Go.binOp, Op.intCmp], fun φ => .bool _⟩
noncomputable def shBin (op : BinOp) (k : IntKind) (a b : Int) (f : β) (c : AV → β) : β :=
 Int.rec (motive := fun _ => β)
  (fun y => fN (min y k.bits) fun n => BinOp.rec (motive := fun _ => β) f f f f f f f f (shlC k a n fun n => c (.int k n)) (shrC a n fun n => c (.int k n)) f f f f f f f op)
  (fun _ => f) b
theorem shBin_sound (P : Program) (w : World) (t : TypeId) (op : BinOp) (k k' : IntKind) (a b : Int) (f : β) (c : AV → β) :
  shBin op k a b f c = f ∨ ∃ v v', shBin op k a b f c = c v ∧ (Go.binOp op t (.int k a) (.int k' b)).run P w = .ok v' w ∧ ∀ φ, VRel P φ v v' := by
 unfold shBin
 cases b with
 | negSucc y => exact .inl rfl
 | ofNat y =>
  simp only [fN_eq]
  cases op <;> try exact .inl rfl
  case shl => exact .inr ⟨_, .int k (k.wrap (a * 2 ^ min y k.bits)), shlC_eq _ _ _ _, by simp [Go.binOp, Op.shift]; omega, fun φ => .int _ _⟩
  case shr => exact .inr ⟨_, .int k (a.fdiv (2 ^ min y k.bits)), shrC_eq _ _ _, by simp [Go.binOp, Op.shift]; omega, fun φ => .int _ _⟩
noncomputable def strBin (op : BinOp) (a b : List Nat) (f : β) (c : AV → β) : β :=
 BinOp.rec (motive := fun _ => β)
  (bif' (Nat.ble (a.length + b.length) 9223372036854775807) (appC a b fun l => c (.str l)) f)
  f f f f f f f f f f
  (fB (eqL a b) fun z => c (.bool z)) (fB (eqL a b) fun z => c (.bool (Bool.not z)))
  (fB (ltL a b) fun z => c (.bool z)) (fB (Bool.or (ltL a b) (eqL a b)) fun z => c (.bool z))
  (fB (Bool.or (ltL a b) (eqL a b)) fun z => c (.bool (Bool.not z))) (fB (ltL a b) fun z => c (.bool (Bool.not z))) op
theorem strBin_sound (P : Program) (w : World) (t : TypeId) (op : BinOp) (a b : List Nat) (x y : ByteArray) (hx : x.data.toList.map (·.toNat) = a) (hy : y.data.toList.map (·.toNat) = b) (f : β) (c : AV → β) :
  strBin op a b f c = f ∨ ∃ v v', strBin op a b f c = c v ∧ (Go.binOp op t (.string x) (.string y)).run P w = .ok v' w ∧ ∀ φ, VRel P φ v v' := by
 subst hx hy
 have he := eqL_map x.data.toList y.data.toList
 have hl := ltL_eq x.data.toList y.data.toList
 unfold strBin
 cases op <;> try exact .inl rfl
 case add =>
  by_cases h : Nat.ble ((x.data.toList.map (·.toNat)).length + (y.data.toList.map (·.toNat)).length) 9223372036854775807 = true
  ·right
   refine ⟨.str (x.data.toList.map (·.toNat) ++ y.data.toList.map (·.toNat)), .string (x ++ y), ?_, ?_, fun φ => .str _ _ ?_⟩
   ·simp only [h, bif_true, appC_eq]
   ·have := Nat.le_of_ble_eq_true h
    simp at this
    have h2 : ¬ (((x.size + y.size : Nat) : Int) > IntKind.i64.max) := by
     have : IntKind.i64.max = 9223372036854775807 := by simp [IntKind.max, IntKind.signed, IntKind.bits]
     rw [this]
     have hx : x.size = x.data.size := rfl
     have hy : y.size = y.data.size := rfl
     omega
    simp only [Go.binOp, Op.stringOp, if_neg h2]; rfl
   ·simp
  ·left; simp only [eq_false_of_ne_true h, bif_false]
 case eql => exact .inr ⟨.bool (eqL (x.data.toList.map (·.toNat)) (y.data.toList.map (·.toNat))), .bool (x.data.toList == y.data.toList), fB_eq _ _, by simp [Go.binOp, Op.stringOp, ByteArray.toList_eq], fun φ => by rw [← he]; exact .bool _⟩
 case neq => exact .inr ⟨.bool (Bool.not (eqL (x.data.toList.map (·.toNat)) (y.data.toList.map (·.toNat)))), .bool (!(x.data.toList == y.data.toList)), fB_eq _ _, by simp [Go.binOp, Op.stringOp, ByteArray.toList_eq], fun φ => by rw [← he]; exact .bool _⟩
 case lss => exact .inr ⟨.bool (ltL (x.data.toList.map (·.toNat)) (y.data.toList.map (·.toNat))), .bool (Op.bytesLess x.data.toList y.data.toList), fB_eq _ _, by simp [Go.binOp, Op.stringOp, ByteArray.toList_eq], fun φ => by rw [← hl]; exact .bool _⟩
 case leq => exact .inr ⟨.bool (Bool.or (ltL (x.data.toList.map (·.toNat)) (y.data.toList.map (·.toNat))) (eqL (x.data.toList.map (·.toNat)) (y.data.toList.map (·.toNat)))), .bool (Op.bytesLess x.data.toList y.data.toList || x.data.toList == y.data.toList), fB_eq _ _, by simp [Go.binOp, Op.stringOp, ByteArray.toList_eq], fun φ => by rw [← hl, ← he]; exact .bool _⟩
 case gtr => exact .inr ⟨.bool (Bool.not (Bool.or (ltL (x.data.toList.map (·.toNat)) (y.data.toList.map (·.toNat))) (eqL (x.data.toList.map (·.toNat)) (y.data.toList.map (·.toNat))))), .bool (!(Op.bytesLess x.data.toList y.data.toList || x.data.toList == y.data.toList)), fB_eq _ _, by simp [Go.binOp, Op.stringOp, ByteArray.toList_eq], fun φ => by rw [← hl, ← he]; exact .bool _⟩
 case geq => exact .inr ⟨.bool (Bool.not (ltL (x.data.toList.map (·.toNat)) (y.data.toList.map (·.toNat)))), .bool (!Op.bytesLess x.data.toList y.data.toList), fB_eq _ _, by simp [Go.binOp, Op.stringOp, ByteArray.toList_eq], fun φ => by rw [← hl]; exact .bool _⟩
end
end Go.Ev
