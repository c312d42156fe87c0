/- Slices that are read; what is let go, as rules. -/
import Derived.Test.YtiadcabmonbgiaaEvZ
namespace Go.Ev
variable {P : Program} {H : Heap}

@[go_sem] theorem trOf_nil : trOf [] = .lf := nrf rfl
@[go_sem] theorem trOf_cons (p l) : trOf (p :: l) = (trOf l).set p.1 (some p.2) := nrf rfl
attribute [go_sem] AV.ren AV.rens Blk.ren
@[go_sem low] theorem condP_b (b : Bool) (p q : Prop) : condP (some (.bool b)) p q = ((b = true → p) ∧ (b = false → q)) := by cases b <;> simp [condP]
@[go_sem low] theorem gdV_tb (b : Bool) (y n : Prop) : gdV true (some (.bool b)) False y n = ((b = true → y) ∧ (b = false → n)) := by cases b <;> simp [gdV_tt, gdV_tf]
@[go_sem low] theorem gdV_fb (b : Bool) (y n : Prop) : gdV false (some (.bool b)) False y n = ((b = false → y) ∧ (b = true → n)) := by cases b <;> simp [gdV_ft, gdV_ff]
@[go_sem low] theorem RW_bif {E : FuncId → List AV → Heap → RC} {N : Nat} {H0 : Heap} {k : List It} {Q : Ex → Tr AV → Heap → Prop} (d : Option K) (T : Tr AV) (H : Heap) (r s : R1) (b : Bool) : RW P E N H0 (bif' b r s) d k T H Q = ((b = true → RW P E N H0 r d k T H Q) ∧ (b = false → RW P E N H0 s d k T H Q)) := by cases b <;> simp [bif_true, bif_false]
@[go_sem low] theorem RD_bif {E : FuncId → List AV → Heap → RC} {N : Nat} {H0 : Heap} {k : List It} {Q : Ex → Tr AV → Heap → Prop} (d : Option K) (re : List Rk) (T : Tr AV) (H : Heap) (r s : R1) (b : Bool) : RD P E N H0 (bif' b r s) d re k T H Q = ((b = true → RD P E N H0 r d re k T H Q) ∧ (b = false → RD P E N H0 s d re k T H Q)) := by cases b <;> simp [bif_true, bif_false]
theorem rho_old' {top : Nat} {σ : List Nat} {k : K} (h : k.toNat < H.nx.toNat) : rho H top σ k = k := rho_old h
@[go_sem] theorem rho_key0 (top j : Nat) (σ : List Nat) : rho H top (j :: σ) (H.key 0) = H.key j := rho_key rfl
@[go_sem] theorem rho_key1 (top i j : Nat) (σ : List Nat) : rho H top (i :: j :: σ) (H.key 1) = H.key j := rho_key rfl
@[go_sem] theorem rho_key2 (top i i2 j : Nat) (σ : List Nat) : rho H top (i :: i2 :: j :: σ) (H.key 2) = H.key j := rho_key rfl
@[go_sem] theorem rho_key3 (top i i2 i3 j : Nat) (σ : List Nat) : rho H top (i :: i2 :: i3 :: j :: σ) (H.key 3) = H.key j := rho_key rfl
@[go_sem] theorem forall_mem_cons' {α : Type} (p : α → Prop) (a : α) (l : List α) : (∀ x ∈ a :: l, p x) = (p a ∧ ∀ x ∈ l, p x) := by simp
@[go_sem] theorem forall_mem_nil' {α : Type} (p : α → Prop) : (∀ x ∈ ([] : List α), p x) = True := by simp
@[go_sem] theorem live_row (w e r) : Blk.live (.row w e r) = True := nrf rfl
@[go_sem] theorem live_dead : Blk.live .dead = False := nrf rfl
attribute [go_sem] List.zip_cons_cons List.zip_nil_left List.zip_nil_right List.map_cons List.map_nil

/-- A slice as it is read: its elements, each so many cells. -/
def Arr (H : Heap) (esz : Nat) (v : AV) (xs : List (List AV)) : Prop :=
  (v = .nils ∧ xs = []) ∨ ∃ k off ex cap, v = .slice k off xs.length esz ex cap ∧ k.toNat < H.nx.toNat ∧
    (xs ≠ [] → ∃ r wr rows, off = r * esz ∧ H.get k = some (.row wr esz rows) ∧ (rows.drop r).take xs.length = xs)
namespace Arr
variable {esz : Nat} {v : AV} {xs : List (List AV)}
/-- there is an element: it lies somewhere -/
theorem pick {H : Heap} (h : Arr H esz v xs) {j : Nat} (hj : j < xs.length) : ∃ k r ex cap wr rows, v = .slice k (r * esz) xs.length esz ex cap ∧ k.toNat < H.nx.toNat ∧ H.get k = some (.row wr esz rows) ∧ (rows.drop r).take xs.length = xs ∧ ∀ j, j < xs.length → rows[r + j]? = xs[j]? := by
  rcases h with ⟨rfl, rfl⟩ | ⟨k, off, ex, cap, rfl, hk, h⟩
  · simp at hj
  · obtain ⟨r, wr, rows, rfl, h1, h2⟩ := h (by intro e; rw [e] at hj; simp at hj)
    refine ⟨k, r, ex, cap, wr, rows, rfl, hk, h1, h2, fun j hj => ?_⟩
    have := congrArg (·[j]?) h2
    simp only [List.getElem?_take_of_lt hj, List.getElem?_drop] at this
    exact this
theorem forms {H : Heap} (h : Arr H esz v xs) : (v = .nils ∧ xs = []) ∨ ∃ k off ex cap, v = .slice k off xs.length esz ex cap ∧ ∀ top σ, rho H top σ k = k := by
  rcases h with h | ⟨k, off, ex, cap, h, hk, _⟩
  · exact .inl h
  · exact .inr ⟨k, off, ex, cap, h, fun top σ => rho_old hk⟩
theorem ren {H : Heap} (h : Arr H esz v xs) (top : Nat) (σ : List Nat) : v.ren (rho H top σ) = v := by
  rcases h with ⟨rfl, rfl⟩ | ⟨k, off, ex, cap, rfl, hk, h⟩
  · rw [AV.ren]
  · rw [AV.ren, rho_old hk]
theorem ext {H : Heap} (h : Arr H esz v xs) (l : List Blk) : Arr (H.ext l) esz v xs := by
  rcases h with ⟨rfl, rfl⟩ | ⟨k, off, ex, cap, rfl, hk, h⟩
  · exact .inl ⟨rfl, rfl⟩
  · refine .inr ⟨k, off, ex, cap, rfl, by rw [Heap.nx_ext, Heap.toNat_key]; omega, fun hx => ?_⟩
    obtain ⟨r, wr, rows, h0, h1, h2⟩ := h hx
    exact ⟨r, wr, rows, h0, by rw [Heap.get_ext_lt _ _ _ hk]; exact h1, h2⟩
end Arr
section
variable {β : Type} (pk : Option (List LK)) (lit : Bool) (f : β) (c : AV → β)
@[go_sem] theorem bin_geq1 (ek : EK) (a : Int) (n : Nat) : binV P ek pk lit .gtr (.int .i64 a) (.geq n) f c = if a ≤ (n : Int) then c (.bool false) else f := by
  show leI a (Int.ofNat n) (fun z => bif' z (c (.bool false)) f) = _
  rw [leI_eq, bif_dec]; rfl
@[go_sem] theorem bin_sl1 : binV P .slice pk lit .eql .nils .nils f c = c (.bool true) := nrf rfl
@[go_sem] theorem bin_sl2 : binV P .slice pk lit .neq .nils .nils f c = c (.bool false) := nrf rfl
@[go_sem] theorem bin_sl3 (k o n e x m) : binV P .slice pk lit .eql (.slice k o n e x m) .nils f c = c (.bool false) := nrf rfl
@[go_sem] theorem bin_sl4 (k o n e x m) : binV P .slice pk lit .neq (.slice k o n e x m) .nils f c = c (.bool true) := nrf rfl
@[go_sem] theorem bin_if1 : binV P .iface pk true .eql .nili .nili f c = c (.bool true) := nrf rfl
@[go_sem] theorem bin_if2 : binV P .iface pk true .neq .nili .nili f c = c (.bool false) := nrf rfl
@[go_sem] theorem bin_if3 (t v) : binV P .iface pk lit .eql (.iface t v) .nili f c = c (.bool false) := nrf rfl
@[go_sem] theorem bin_if4 (t v) : binV P .iface pk lit .neq (.iface t v) .nili f c = c (.bool true) := nrf rfl
@[go_sem] theorem bin_pt1 : binV P .ptr pk lit .eql .nilp .nilp f c = c (.bool true) := nrf rfl
@[go_sem] theorem bin_pt2 : binV P .ptr pk lit .neq .nilp .nilp f c = c (.bool false) := nrf rfl
@[go_sem] theorem bin_pt3 (k o) : binV P .ptr pk lit .eql (.ptr k o) .nilp f c = c (.bool false) := nrf rfl
@[go_sem] theorem bin_pt4 (k o) : binV P .ptr pk lit .neq (.ptr k o) .nilp f c = c (.bool true) := nrf rfl
@[go_sem] theorem bin_b1 (a b : Bool) : binV P .bool pk lit .eql (.bool a) (.bool b) f c = c (.bool (decide (a = b))) := by cases a <;> cases b <;> rfl
@[go_sem] theorem bin_b2 (a b : Bool) : binV P .bool pk lit .neq (.bool a) (.bool b) f c = c (.bool (decide (¬ a = b))) := by cases a <;> cases b <;> rfl
end
@[go_sem] theorem cast_0 : ((0 : Nat) : Int) = 0 := nrf rfl
@[go_sem] theorem cast_1 : ((1 : Nat) : Int) = 1 := nrf rfl
attribute [go_sem] Int.cast_ofNat_Int
@[go_sem] theorem wrap_i64 {n : Int} (h1 : -9223372036854775808 ≤ n) (h2 : n < 9223372036854775808) : IntKind.i64.wrap n = n := by
  simp [IntKind.wrap, IntKind.bits, IntKind.signed]; omega
theorem wrap_succ {n : Nat} (h : n < 9223372036854775807) : IntKind.i64.wrap ((n : Int) + 1) = ((n + 1 : Nat) : Int) := by
  simp [IntKind.wrap, IntKind.bits, IntKind.signed]; omega
@[go_sem] theorem fold_mul (r j e : Nat) : r * e + j * e = (r + j) * e := (Nat.add_mul r j e).symm
end Go.Ev
