/- a record's bytes: of a number and an epoch: walked. -/
import Derived.Test.YtaoigphdghmacaaGreatDoorZ25
set_option linter.all false
set_option linter.all false
set_option maxRecDepth 100000
namespace Go.Proofs
open Go Go.Ev
variable {H : Heap}

/-- no op -/
def zO : List AV := [.int .i64 0, .str [], .str [], .str [], .int .i64 0, .nils]
theorem f117_nil : FnOk Tryz.prog 117 [.nils, .nils] H fun r G => r = .bool true ∧ G = H := by
  refine FnOk.drop (R := fun r => r = .bool true) ?_ (by rintro v rfl ρ; rw [AV.ren])
  refine FnOk.of_WW Tryz.func117 rfl C117ok R117ok E0 good_E0 ?_
  simp only [go_sem, C117]
  refine LL.st good_E0 (fun _ : Nat => 0) (fun _ => True) (fun _ => [((.i (.o (.i .z))), .int .i64 0), ((.o (.i (.i .z))), .int .i64 0)]) (fun _ => []) ?_ 0 (σ := []) (Wk.of rfl (by decide) (by simp only [go_sem]; first | done | rfl | trace_state) (by simp only [go_sem])) trivial
  rintro _ _
  simp only [go_sem, C117L0]
  exact ⟨_, rfl⟩
theorem f72_zero : FnOk Tryz.prog 72 [.agg zO, .agg zO] H fun r G => r = .bool true ∧ G = H := by
  refine FnOk.drop (R := fun r => r = .bool true) ?_ (by rintro v rfl ρ; rw [AV.ren])
  refine FnOk.of_WW Tryz.func72 rfl C72ok R72ok E0 good_E0 ?_
  simp only [go_sem, C72, zO]
  refine CL.of f117_nil ?_
  rintro _ G' ⟨rfl, hG⟩; rw [hG]; clear hG
  simp only [go_sem]
  exact ⟨_, rfl⟩
theorem f71_zero : FnOk Tryz.prog 71 [.agg zO] H fun r G => r = .bool false ∧ G = H := by
  refine FnOk.drop (R := fun r => r = .bool false) ?_ (by rintro v rfl ρ; rw [AV.ren])
  refine FnOk.of_WW Tryz.func71 rfl C71ok R71ok E0 good_E0 ?_
  simp only [go_sem, C71, zO]
  exact ⟨_, rfl⟩
theorem f38_zero : FnOk Tryz.prog 38 [.agg zO] H fun r G => r = .str [] ∧ G = H := by
  refine FnOk.drop (R := fun r => r = .str []) ?_ (by rintro v rfl ρ; rw [AV.ren])
  refine FnOk.of_WW Tryz.func38 rfl C38ok R38ok E0 good_E0 ?_
  have h := f71_zero (H := H.ext [.row true 6 [zO]])
  simp only [zO] at h
  simp only [go_sem, C38, zO]
  refine CL.of h ?_
  rintro _ G' ⟨rfl, hG⟩; rw [hG]; clear hG
  simp only [go_sem]
  exact ⟨_, rfl⟩
theorem f37_0 {n : Nat} (hn : n < 64) : FnOk Tryz.prog 37 [.int .i64 (n : Int)] H fun r G => r = .str [n] ∧ G = H := by
  have h := f37_ok (H := H) (n := n) (by omega)
  rw [numT_lo hn] at h
  exact h
theorem f39_0 : FnOk Tryz.prog 39 [.str []] H fun r G => r = .str [0] ∧ G = H := by
  have h := f39_ok (H := H) (s := []) (by decide)
  have e : textT [] = [0] := by show numT 0 ++ [] = [0]; rw [numT_lo (by decide)]; rfl
  rw [e] at h
  exact h
noncomputable def EZ (f : FuncId) (args : List AV) (H : Heap) : RC :=
  match f with
  | 71 => match args with | [.agg [.int .i64 0, .str [], .str [], .str [], .int .i64 0, .nils]] => .ok (.bool false) H | _ => .fail
  | 72 => match args with | [.agg [.int .i64 0, .str [], .str [], .str [], .int .i64 0, .nils], .agg [.int .i64 0, .str [], .str [], .str [], .int .i64 0, .nils]] => .ok (.bool true) H | _ => .fail
  | 38 => match args with | [.agg [.int .i64 0, .str [], .str [], .str [], .int .i64 0, .nils]] => .ok (.str []) H | _ => .fail
  | 39 => match args with | [.str []] => .ok (.str [0]) H | _ => .fail
  | 37 => match args with | [.int .i64 0] => .ok (.str [0]) H | _ => .fail
  | _ => .fail
theorem good_EZ : Ev.Good Tryz.prog EZ := by
  intro f args H r G he φ w args' ha hw
  refine (?_ : FnOk Tryz.prog f args H fun v' G' => v' = r ∧ G' = G).one φ w args' ha hw
  unfold EZ at he
  split at he
  · split at he
    · cases he; exact f71_zero
    · cases he
  · split at he
    · cases he; exact f72_zero
    · cases he
  · split at he
    · cases he; exact f38_zero
    · cases he
  · split at he
    · cases he; exact f39_0
    · cases he
  · split at he
    · cases he; exact f37_0 (n := 0) (by decide)
    · cases he
  · cases he
theorem ez71 (H : Heap) : EZ 71 [.agg [.int .i64 0, .str [], .str [], .str [], .int .i64 0, .nils]] H = .ok (.bool false) H := rfl
theorem ez72 (H : Heap) : EZ 72 [.agg [.int .i64 0, .str [], .str [], .str [], .int .i64 0, .nils], .agg [.int .i64 0, .str [], .str [], .str [], .int .i64 0, .nils]] H = .ok (.bool true) H := rfl
theorem ez38 (H : Heap) : EZ 38 [.agg [.int .i64 0, .str [], .str [], .str [], .int .i64 0, .nils]] H = .ok (.str []) H := rfl
theorem ez39 (H : Heap) : EZ 39 [.str []] H = .ok (.str [0]) H := rfl
theorem ez37 (H : Heap) : EZ 37 [.int .i64 0] H = .ok (.str [0]) H := rfl
/-- the numbers of that record -/
def nN : List AV := [.int .i64 2, .int .i64 1, .int .i64 0, .int .i64 0, .int .i64 0]
theorem f36_rc : FnOk Tryz.prog 36 [.agg (rcE 3 2 1 0 0 0)] H fun r G => r = .bool true ∧ G = H := by
  refine FnOk.drop (R := fun r => r = .bool true) ?_ (by rintro v rfl ρ; rw [AV.ren])
  refine FnOk.of_WW Tryz.func36 rfl C36ok R36ok EZ good_EZ ?_
  simp only [go_sem, C36, rcE]
  refine LL.st good_EZ (fun i : Int => (5 - i).toNat) (fun i => i = 0 ∨ i = 1 ∨ i = 2 ∨ i = 3 ∨ i = 4 ∨ i = 5) (fun i => [((.o .z), .ptr (H.key 0) 0), ((.i (.i (.i (.o .z)))), .agg nN), ((.o (.o (.o (.i .z)))), .int .i64 i)])
    (fun _ => [.row true 16 [rcE 3 2 1 0 0 0]]) ?_ 0 (σ := [0]) (Wk.of rfl (by decide) (by simp only [go_sem, nN]; first | done | rfl | trace_state) (by simp only [go_sem, rcE]; first | done | rfl | trace_state)) (.inl rfl)
  rintro _ (rfl | rfl | rfl | rfl | rfl | rfl)
  · simp only [go_sem, C36L0, nN, rcE]
    exact ⟨1, by decide, by decide, _, [0], rfl, Wk.of rfl (by decide) (by simp only [go_sem, nN]; first | done | rfl | trace_state) (by simp only [go_sem, rcE]; first | done | rfl | trace_state)⟩
  · simp only [go_sem, C36L0, nN, rcE]
    exact ⟨2, by decide, by decide, _, [0], rfl, Wk.of rfl (by decide) (by simp only [go_sem, nN]; first | done | rfl | trace_state) (by simp only [go_sem, rcE]; first | done | rfl | trace_state)⟩
  · simp only [go_sem, C36L0, nN, rcE]
    exact ⟨3, by decide, by decide, _, [0], rfl, Wk.of rfl (by decide) (by simp only [go_sem, nN]; first | done | rfl | trace_state) (by simp only [go_sem, rcE]; first | done | rfl | trace_state)⟩
  · simp only [go_sem, C36L0, nN, rcE]
    exact ⟨4, by decide, by decide, _, [0], rfl, Wk.of rfl (by decide) (by simp only [go_sem, nN]; first | done | rfl | trace_state) (by simp only [go_sem, rcE]; first | done | rfl | trace_state)⟩
  · simp only [go_sem, C36L0, nN, rcE]
    exact ⟨5, by decide, by decide, _, [0], rfl, Wk.of rfl (by decide) (by simp only [go_sem, nN]; first | done | rfl | trace_state) (by simp only [go_sem, rcE]; first | done | rfl | trace_state)⟩
  · simp only [go_sem, C36L0, nN, rcE, ez71, ez72]
    exact ⟨_, rfl⟩
/-- its bytes -/
def bN : List Nat := [3, 2, 1, 0, 0, 0, 0, 0, 0, 0]
theorem f14_rc : FnOk Tryz.prog 14 [.agg (rcE 3 2 1 0 0 0)] H fun r G => r = .str bN ∧ G = H := by
  refine FnOk.drop (R := fun r => r = .str bN) ?_ (by rintro v rfl ρ; rw [AV.ren])
  refine FnOk.of_WW Tryz.func14 rfl C14ok R14ok EZ good_EZ ?_
  simp only [go_sem, C14, rcE]
  refine CL.of f36_rc ?_
  rintro _ G' ⟨rfl, hG⟩; rw [hG]; clear hG
  simp only [go_sem]
  refine CL.of (f37_0 (n := 3) (by decide)) ?_
  rintro _ G' ⟨rfl, hG⟩; rw [hG]; clear hG
  simp only [go_sem]
  refine LL.st good_EZ (S := Int × List Nat) (fun s => (5 - s.1).toNat) (fun s => s = (0, [3]) ∨ s = (1, [3, 2]) ∨ s = (2, [3, 2, 1]) ∨ s = (3, [3, 2, 1, 0]) ∨ s = (4, [3, 2, 1, 0, 0]) ∨ s = (5, [3, 2, 1, 0, 0, 0]))
    (fun s => [((.o .z), .ptr (H.key 0) 0), ((.o (.o .z)), .str s.2), ((.o (.i (.o (.o .z)))), .agg nN), ((.i (.i (.o (.o .z)))), .int .i64 s.1)])
    (fun _ => [.row true 16 [rcE 3 2 1 0 0 0]]) ?_ (0, [3]) (σ := [0]) (Wk.of rfl (by decide) (by simp only [go_sem, nN]; first | done | rfl | trace_state) (by simp only [go_sem, rcE]; first | done | rfl | trace_state)) (.inl rfl)
  rintro _ (rfl | rfl | rfl | rfl | rfl | rfl)
  · simp only [go_sem, C14L0, nN, rcE]
    refine CL.of (f37_0 (n := 2) (by decide)) ?_
    rintro _ G' ⟨rfl, hG⟩; rw [hG]; clear hG
    simp only [go_sem]
    exact ⟨(1, [3, 2]), by decide, by simp, _, [0], rfl, Wk.of rfl (by decide) (by simp only [go_sem, nN]; first | done | rfl | trace_state) (by simp only [go_sem, rcE]; first | done | rfl | trace_state)⟩
  · simp only [go_sem, C14L0, nN, rcE]
    refine CL.of (f37_0 (n := 1) (by decide)) ?_
    rintro _ G' ⟨rfl, hG⟩; rw [hG]; clear hG
    simp only [go_sem]
    exact ⟨(2, [3, 2, 1]), by decide, by simp, _, [0], rfl, Wk.of rfl (by decide) (by simp only [go_sem, nN]; first | done | rfl | trace_state) (by simp only [go_sem, rcE]; first | done | rfl | trace_state)⟩
  · simp only [go_sem, C14L0, nN, rcE]
    refine CL.of (f37_0 (n := 0) (by decide)) ?_
    rintro _ G' ⟨rfl, hG⟩; rw [hG]; clear hG
    simp only [go_sem]
    exact ⟨(3, [3, 2, 1, 0]), by decide, by simp, _, [0], rfl, Wk.of rfl (by decide) (by simp only [go_sem, nN]; first | done | rfl | trace_state) (by simp only [go_sem, rcE]; first | done | rfl | trace_state)⟩
  · simp only [go_sem, C14L0, nN, rcE]
    refine CL.of (f37_0 (n := 0) (by decide)) ?_
    rintro _ G' ⟨rfl, hG⟩; rw [hG]; clear hG
    simp only [go_sem]
    exact ⟨(4, [3, 2, 1, 0, 0]), by decide, by simp, _, [0], rfl, Wk.of rfl (by decide) (by simp only [go_sem, nN]; first | done | rfl | trace_state) (by simp only [go_sem, rcE]; first | done | rfl | trace_state)⟩
  · simp only [go_sem, C14L0, nN, rcE]
    refine CL.of (f37_0 (n := 0) (by decide)) ?_
    rintro _ G' ⟨rfl, hG⟩; rw [hG]; clear hG
    simp only [go_sem]
    exact ⟨(5, [3, 2, 1, 0, 0, 0]), by decide, by simp, _, [0], rfl, Wk.of rfl (by decide) (by simp only [go_sem, nN]; first | done | rfl | trace_state) (by simp only [go_sem, rcE]; first | done | rfl | trace_state)⟩
  · simp only [go_sem, C14L0, nN, rcE, ez38, ez39, ez37]
    refine LL.st good_EZ (fun _ : Nat => 0) (fun _ => True) (fun _ => [((.o .z), .ptr (H.key 0) 0), ((.o (.o .z)), .str [3, 2, 1, 0, 0, 0, 0, 0, 0]), ((.i (.i (.i (.i (.o .z))))), .int .i64 0), ((.o (.o (.o (.o (.i .z))))), .int .i64 0)])
      (fun _ => [.row true 16 [rcE 3 2 1 0 0 0]]) ?_ 0 (σ := [0]) (Wk.of rfl (by decide) (by simp only [go_sem, nN]; first | done | rfl | trace_state) (by simp only [go_sem, rcE]; first | done | rfl | trace_state)) trivial
    rintro _ _
    simp only [go_sem, C14L1, nN, rcE]
    refine CL.of (f37_0 (n := 0) (by decide)) ?_
    rintro _ G' ⟨rfl, hG⟩; rw [hG]; clear hG
    simp only [go_sem]
    refine LL.st good_EZ (fun _ : Nat => 0) (fun _ => True) (fun _ => [((.o (.o .z)), .str [3, 2, 1, 0, 0, 0, 0, 0, 0, 0]), ((.o (.i (.o (.o (.o (.o .z)))))), .int .i64 0), ((.i (.i (.o (.o (.o (.o .z)))))), .int .i64 0)])
      (fun _ => []) ?_ 0 (σ := []) (Wk.of rfl (by decide) (by simp only [go_sem, nN]; first | done | rfl | trace_state) (by simp only [go_sem, rcE]; first | done | rfl | trace_state)) trivial
    rintro _ _
    simp only [go_sem, C14L2]
    exact ⟨rfl, _, rfl⟩
end Go.Proofs
/- numbers and texts taken of bytes: walked. -/

set_option linter.all false
set_option linter.all false
set_option maxRecDepth 100000
namespace Go.Proofs
open Go Go.Ev
variable {H : Heap}

theorem and_63 {β : Type} {x : Int} (h : x = 0 ∨ x = 1 ∨ x = 2 ∨ x = 3) (ek : EK) (pk : Option (List LK)) (lit : Bool) (f : β) (c : AV → β) : binV Tryz.prog ek pk lit .and (.int .u8 x) (.int .u8 63) f c = c (.int .u8 x) := by
  rcases h with rfl | rfl | rfl | rfl <;> (rw [bin_and]; rfl)
theorem or_0 {β : Type} {x : Int} (h : x = 0 ∨ x = 1 ∨ x = 2 ∨ x = 3) (ek : EK) (pk : Option (List LK)) (lit : Bool) (f : β) (c : AV → β) : binV Tryz.prog ek pk lit .or (.int .i64 0) (.int .i64 x) f c = c (.int .i64 x) := by
  rcases h with rfl | rfl | rfl | rfl <;> (rw [bin_or]; rfl)
theorem shl_0 {β : Type} {x : Int} (h : x = 0 ∨ x = 1 ∨ x = 2 ∨ x = 3) (ek : EK) (pk : Option (List LK)) (lit : Bool) (f : β) (c : AV → β) : binV Tryz.prog ek pk lit .shl (.int .i64 x) (.int .i64 0) f c = c (.int .i64 x) := by
  rcases h with rfl | rfl | rfl | rfl <;> rfl
/-- the first byte is a small number -/
theorem f67_ok {x : Nat} (hx : x = 0 ∨ x = 1 ∨ x = 2 ∨ x = 3) (l : List Nat) (hl : l.length < 100) : FnOk Tryz.prog 67 [.str (x :: l)] H fun r G => r = .tup [.int .i64 x, .str l, .nili] ∧ G = H := by
  refine FnOk.drop (R := fun r => r = .tup [.int .i64 x, .str l, .nili]) ?_ (by rintro v rfl ρ; simp only [AV.ren, AV.rens])
  refine FnOk.of_WW Tryz.func67 rfl C67ok R67ok E0 good_E0 ?_
  simp only [go_sem, C67]
  refine LL.st good_E0 (fun _ : Nat => 0) (fun _ => True) (fun _ => [(.z, .str (x :: l)), ((.o (.i .z)), .int .i64 0), ((.o (.o (.o .z))), .int .i64 0)]) (fun _ => []) ?_ 0 (σ := []) (Wk.of rfl (by decide) (by simp only [go_sem]; first | done | rfl | trace_state) (by simp only [go_sem])) trivial
  rintro _ _
  have h0 : ¬ (0 : Int) ≥ ((l.length + 1 : Nat) : Int) := by omega
  have hw1 : IntKind.i64.wrap (0 + 1) = 1 := rfl
  have hdr : ∀ {β : Type} (f : β) (y : Nat) (c : List Nat → β), dropC f 1 (y :: l) c = c l := fun f y c => rfl
  have h6 : IntKind.i64.wrap (6 * 0) = 0 := rfl
  have q0 : (0 : Int) = 0 ∨ (0 : Int) = 1 ∨ (0 : Int) = 2 ∨ (0 : Int) = 3 := by decide
  have q1 : (1 : Int) = 0 ∨ (1 : Int) = 1 ∨ (1 : Int) = 2 ∨ (1 : Int) = 3 := by decide
  have q2 : (2 : Int) = 0 ∨ (2 : Int) = 1 ∨ (2 : Int) = 2 ∨ (2 : Int) = 3 := by decide
  have q3 : (3 : Int) = 0 ∨ (3 : Int) = 1 ∨ (3 : Int) = 2 ∨ (3 : Int) = 3 := by decide
  rcases hx with rfl | rfl | rfl | rfl
  · simp only [go_sem, C67L0, h0, h6, hw1, hdr, ↓and_63 q0, ↓or_0 q0, ↓shl_0 q0]
    exact ⟨_, rfl⟩
  · simp only [go_sem, C67L0, h0, h6, hw1, hdr, ↓and_63 q1, ↓or_0 q1, ↓shl_0 q1]
    exact ⟨_, rfl⟩
  · simp only [go_sem, C67L0, h0, h6, hw1, hdr, ↓and_63 q2, ↓or_0 q2, ↓shl_0 q2]
    exact ⟨_, rfl⟩
  · simp only [go_sem, C67L0, h0, h6, hw1, hdr, ↓and_63 q3, ↓or_0 q3, ↓shl_0 q3]
    exact ⟨_, rfl⟩
section
variable {k : K}
theorem f68_ok {t : List Nat} (hk : H.get k = some (.row true 2 [[.str t, .nili]])) (l : List Nat) : FnOk Tryz.prog 68 [.ptr k 0, .str l, .nili] H fun r G => r = .bool true ∧ G = H.set k (.row true 2 [[.str l, .nili]]) := by
  refine FnOk.assume fun hok => ?_
  refine FnOk.of_WW Tryz.func68 rfl C68ok R68ok E0 good_E0 ?_
  have g := fun L => Heap.get_ext_old hok hk L
  have s := fun b (l : List Blk) (α : Type) (c' : Heap → α) => Heap.setC_here hok hk b l c'
  have q := fun b (l : List Blk) => Heap.get_set_here hok hk b l
  have s' := fun b d (l : List Blk) (α : Type) (c' : Heap → α) => Heap.setC_set_here hok hk b d l c'
  simp only [go_sem, C68, g, s, q, s']
  rfl
theorem f31_ok {x : Nat} (hx : x = 0 ∨ x = 1 ∨ x = 2 ∨ x = 3) {l : List Nat} (hl : l.length < 100) (hk : H.get k = some (.row true 2 [[.str (x :: l), .nili]])) : FnOk Tryz.prog 31 [.ptr k 0] H fun r G => r = .int .i64 x ∧ G = H.set k (.row true 2 [[.str l, .nili]]) := by
  refine FnOk.assume fun hok => ?_
  refine FnOk.of_WW Tryz.func31 rfl C31ok R31ok E0 good_E0 ?_
  have g := fun L => Heap.get_ext_old hok hk L
  simp only [go_sem, C31, g]
  refine CL.of (f67_ok hx l hl) ?_
  rintro _ G' ⟨rfl, hG⟩; rw [hG]; clear hG
  simp only [go_sem]
  refine CL.of (f68_ok hk l) ?_
  rintro _ G' ⟨rfl, hG⟩; rw [hG]; clear hG
  refine WW.nil ?_
  simp only [go_sem]
  rfl
theorem f70_ok {l : List Nat} (hl : l.length < 100) {n : Int} (hn : 0 ≤ n) : FnOk Tryz.prog 70 [.str (0 :: l), .int .i64 n] H fun r G => r = .tup [.str [], .str l, .nili] ∧ G = H := by
  refine FnOk.drop (R := fun r => r = .tup [.str [], .str l, .nili]) ?_ (by rintro v rfl ρ; simp only [AV.ren, AV.rens])
  refine FnOk.of_WW Tryz.func70 rfl C70ok R70ok E0 good_E0 ?_
  simp only [go_sem, C70]
  refine CL.of (f67_ok (.inl rfl) l hl) ?_
  rintro _ G' ⟨rfl, hG⟩; rw [hG]; clear hG
  simp only [go_sem]
  refine CL.of (f23_ok none 11) ?_
  rintro _ G' ⟨rfl, hG⟩; rw [hG]; clear hG
  have h1 : ¬ n < 0 := by omega
  have h2 : ¬ (l.length : Int) < 0 := by omega
  have hd0 : ∀ {β : Type} (f : β) (c : List Nat → β), dropC f 0 l c = c l := fun f c => by rw [dropC_eq, if_pos (Nat.zero_le _), List.drop_zero]
  have ht0 : ∀ {β : Type} (f : β) (c : List Nat → β), takeC f 0 l c = c [] := fun f c => by rw [takeC_eq, if_pos (Nat.zero_le _), List.take_zero]
  have h3 : 0 ≤ l.length := Nat.zero_le _
  simp only [go_sem, h1, h2, hd0, ht0, h3]
  exact ⟨_, rfl⟩
/-- a text taken -/
noncomputable def ETx (f : FuncId) (args : List AV) (H : Heap) : RC :=
  match f with
  | 70 => match args with | [.str (0 :: l), .int .i64 n] => if l.length < 100 ∧ 0 ≤ n then .ok (.tup [.str [], .str l, .nili]) H else .fail | _ => .fail
  | _ => .fail
theorem good_ETx : Ev.Good Tryz.prog ETx := by
  intro f args H r G he φ w args' ha hw
  refine (?_ : FnOk Tryz.prog f args H fun v' G' => v' = r ∧ G' = G).one φ w args' ha hw
  unfold ETx at he
  split at he
  · split at he
    · split at he
      · rename_i hc
        cases he; exact f70_ok hc.1 hc.2
      · cases he
    · cases he
  · cases he
theorem etx70 {l : List Nat} (hl : l.length < 100) (H : Heap) : ETx 70 [.str (0 :: l), .int .i64 ((l.length + 1 : Nat) : Int)] H = .ok (.tup [.str [], .str l, .nili]) H := by
  show (if l.length < 100 ∧ 0 ≤ ((l.length + 1 : Nat) : Int) then .ok (.tup [.str [], .str l, .nili]) H else .fail : RC) = _
  rw [if_pos ⟨hl, by omega⟩]
theorem f33_ok {l : List Nat} (hl : l.length < 100) (hk : H.get k = some (.row true 2 [[.str (0 :: l), .nili]])) : FnOk Tryz.prog 33 [.ptr k 0] H fun r G => r = .str [] ∧ G = H.set k (.row true 2 [[.str l, .nili]]) := by
  refine FnOk.assume fun hok => ?_
  refine FnOk.of_WW Tryz.func33 rfl C33ok R33ok ETx good_ETx ?_
  have g := fun L => Heap.get_ext_old hok hk L
  have e := etx70 hl
  simp only [go_sem, C33, g, e]
  refine CL.of (f68_ok hk l) ?_
  rintro _ G' ⟨rfl, hG⟩; rw [hG]; clear hG
  refine WW.nil ?_
  simp only [go_sem]
  rfl
theorem f34_ok {l : List Nat} (hl : l.length < 100) (hk : H.get k = some (.row true 2 [[.str (0 :: l), .nili]])) : FnOk Tryz.prog 34 [.ptr k 0] H fun r G => r = .int .i64 0 ∧ G = H.set k (.row true 2 [[.str l, .nili]]) := by
  refine FnOk.assume fun hok => ?_
  refine FnOk.of_WW Tryz.func34 rfl C34ok R34ok E0 good_E0 ?_
  have q := fun b (l : List Blk) => Heap.get_set_here hok hk b l
  have h2 : ¬ (l.length : Int) < 0 := by omega
  simp only [go_sem, C34]
  refine CL.of (f31_ok (.inl rfl) hl hk) ?_
  rintro _ G' ⟨rfl, hG⟩
  rw [Heap.ext_nil] at hG
  rw [hG]
  clear hG
  refine WW.nil ?_
  simp only [go_sem, q, h2]
  rfl
end
end Go.Proofs
/- that record's bytes are read as it: walked. -/

set_option linter.all false
set_option linter.all false
set_option maxRecDepth 100000
namespace Go.Proofs
open Go Go.Ev
variable {H : Heap}

/-- an empty record -/
def zR : List AV := rcE 0 0 0 0 0 0
/-- one that takes bytes -/
def tk (l : List Nat) : Blk := .row true 2 [[.str l, .nili]]
theorem f13_rc : FnOk Tryz.prog 13 [.str bN] H fun r G => r = .tup [.agg (rcE 3 2 1 0 0 0), .nili] ∧ G = H := by
  refine FnOk.drop (R := fun r => r = .tup [.agg (rcE 3 2 1 0 0 0), .nili]) ?_ (by rintro v rfl ρ; simp only [AV.ren, AV.rens, rcE])
  refine FnOk.of_WW Tryz.func13 rfl C13ok R13ok E0 good_E0 ?_
  simp only [go_sem, C13, bN]
  refine CL.of (f31_ok (x := 3) (l := [2, 1, 0, 0, 0, 0, 0, 0, 0]) (by decide) (by decide) (get_lit rfl)) ?_
  rintro _ G' ⟨rfl, hG⟩
  rw [Heap.set_ext_key _ _ _ _ (by decide)] at hG
  rw [hG]
  clear hG
  simp only [go_sem]
  refine LL.st good_E0 (S := Int × List Nat × List AV) (fun s => (5 - s.1).toNat) (fun s => s = (0, [2, 1, 0, 0, 0, 0, 0, 0, 0], rcE 3 0 0 0 0 0) ∨ s = (1, [1, 0, 0, 0, 0, 0, 0, 0], rcE 3 2 0 0 0 0) ∨ s = (2, [0, 0, 0, 0, 0, 0, 0], rcE 3 2 1 0 0 0) ∨ s = (3, [0, 0, 0, 0, 0, 0], rcE 3 2 1 0 0 0) ∨ s = (4, [0, 0, 0, 0, 0], rcE 3 2 1 0 0 0) ∨ s = (5, [0, 0, 0, 0], rcE 3 2 1 0 0 0))
    (fun s => [(.z, .str bN), ((.i .z), .ptr (H.key 0) 0), ((.o (.o .z)), .nili), ((.i (.o .z)), .ptr (H.key 1) 0), ((.o (.i .z)), .ptr (H.key 2) 0), ((.o (.i (.i .z))), .int .i64 s.1)])
    (fun s => [.row true 16 [zR], tk s.2.1, .row true 16 [s.2.2]]) ?_ (0, [2, 1, 0, 0, 0, 0, 0, 0, 0], rcE 3 0 0 0 0 0) (σ := [0, 1, 2]) (Wk.of rfl (by decide) (by simp only [go_sem, bN]; first | done | rfl | trace_state) (by simp only [go_sem, rcE, zR, tk]; first | done | rfl | trace_state)) (.inl rfl)
  rintro _ (rfl | rfl | rfl | rfl | rfl | rfl)
  · simp only [go_sem, C13L0, zR, tk, rcE]
    refine CL.of (f31_ok (x := 2) (l := [1, 0, 0, 0, 0, 0, 0, 0]) (by decide) (by decide) (get_lit rfl)) ?_
    rintro _ G' ⟨rfl, hG⟩; rw [Heap.set_ext_key _ _ _ _ (by decide)] at hG; rw [hG]; clear hG
    simp only [go_sem]
    exact ⟨(1, [1, 0, 0, 0, 0, 0, 0, 0], rcE 3 2 0 0 0 0), by decide, .inr (.inl rfl), _, [0, 1, 2], rfl, Wk.of rfl (by decide) (by simp only [go_sem, bN]; first | done | rfl | trace_state) (by simp only [go_sem, rcE, zR, tk]; first | done | rfl | trace_state)⟩
  · simp only [go_sem, C13L0, zR, tk, rcE]
    refine CL.of (f31_ok (x := 1) (l := [0, 0, 0, 0, 0, 0, 0]) (by decide) (by decide) (get_lit rfl)) ?_
    rintro _ G' ⟨rfl, hG⟩; rw [Heap.set_ext_key _ _ _ _ (by decide)] at hG; rw [hG]; clear hG
    simp only [go_sem]
    exact ⟨(2, [0, 0, 0, 0, 0, 0, 0], rcE 3 2 1 0 0 0), by decide, .inr (.inr (.inl rfl)), _, [0, 1, 2], rfl, Wk.of rfl (by decide) (by simp only [go_sem, bN]; first | done | rfl | trace_state) (by simp only [go_sem, rcE, zR, tk]; first | done | rfl | trace_state)⟩
  · simp only [go_sem, C13L0, zR, tk, rcE]
    refine CL.of (f31_ok (x := 0) (l := [0, 0, 0, 0, 0, 0]) (by decide) (by decide) (get_lit rfl)) ?_
    rintro _ G' ⟨rfl, hG⟩; rw [Heap.set_ext_key _ _ _ _ (by decide)] at hG; rw [hG]; clear hG
    simp only [go_sem]
    exact ⟨(3, [0, 0, 0, 0, 0, 0], rcE 3 2 1 0 0 0), by decide, .inr (.inr (.inr (.inl rfl))), _, [0, 1, 2], rfl, Wk.of rfl (by decide) (by simp only [go_sem, bN]; first | done | rfl | trace_state) (by simp only [go_sem, rcE, zR, tk]; first | done | rfl | trace_state)⟩
  · simp only [go_sem, C13L0, zR, tk, rcE]
    refine CL.of (f31_ok (x := 0) (l := [0, 0, 0, 0, 0]) (by decide) (by decide) (get_lit rfl)) ?_
    rintro _ G' ⟨rfl, hG⟩; rw [Heap.set_ext_key _ _ _ _ (by decide)] at hG; rw [hG]; clear hG
    simp only [go_sem]
    exact ⟨(4, [0, 0, 0, 0, 0], rcE 3 2 1 0 0 0), by decide, .inr (.inr (.inr (.inr (.inl rfl)))), _, [0, 1, 2], rfl, Wk.of rfl (by decide) (by simp only [go_sem, bN]; first | done | rfl | trace_state) (by simp only [go_sem, rcE, zR, tk]; first | done | rfl | trace_state)⟩
  · simp only [go_sem, C13L0, zR, tk, rcE]
    refine CL.of (f31_ok (x := 0) (l := [0, 0, 0, 0]) (by decide) (by decide) (get_lit rfl)) ?_
    rintro _ G' ⟨rfl, hG⟩; rw [Heap.set_ext_key _ _ _ _ (by decide)] at hG; rw [hG]; clear hG
    simp only [go_sem]
    exact ⟨(5, [0, 0, 0, 0], rcE 3 2 1 0 0 0), by decide, .inr (.inr (.inr (.inr (.inr (rfl))))), _, [0, 1, 2], rfl, Wk.of rfl (by decide) (by simp only [go_sem, bN]; first | done | rfl | trace_state) (by simp only [go_sem, rcE, zR, tk]; first | done | rfl | trace_state)⟩
  · simp only [go_sem, C13L0, zR, tk, rcE]
    refine CL.of (f33_ok (l := [0, 0, 0]) (by decide) (get_lit rfl)) ?_
    rintro _ G' ⟨rfl, hG⟩; rw [Heap.set_ext_key _ _ _ _ (by decide)] at hG; rw [hG]; clear hG
    simp only [go_sem]
    refine CL.of (f33_ok (l := [0, 0]) (by decide) (get_lit rfl)) ?_
    rintro _ G' ⟨rfl, hG⟩; rw [Heap.set_ext_key _ _ _ _ (by decide)] at hG; rw [hG]; clear hG
    simp only [go_sem]
    refine CL.of (f34_ok (l := [0]) (by decide) (get_lit rfl)) ?_
    rintro _ G' ⟨rfl, hG⟩; rw [Heap.set_ext_key _ _ _ _ (by decide)] at hG; rw [hG]; clear hG
    simp only [go_sem]
    refine LL.st good_E0 (fun _ : Nat => 0) (fun _ => True) (fun _ => [(.z, .str bN), ((.i .z), .ptr (H.key 0) 0), ((.o (.o .z)), .nili), ((.i (.o .z)), .ptr (H.key 1) 0), ((.o (.i .z)), .ptr (H.key 2) 0), ((.o (.o (.i (.o (.o .z))))), .int .i64 0), ((.i (.o (.i (.o (.o .z))))), .int .i64 0)])
      (fun _ => [.row true 16 [zR], tk [0], .row true 16 [rcE 3 2 1 0 0 0]]) ?_ 0 (σ := [0, 1, 2]) (Wk.of rfl (by decide) (by simp only [go_sem, bN]; first | done | rfl | trace_state) (by simp only [go_sem, rcE, zR, tk]; first | done | rfl | trace_state)) trivial
    rintro _ _
    simp only [go_sem, C13L1, zR, tk, rcE]
    refine CL.of (f34_ok (l := []) (by decide) (get_lit rfl)) ?_
    rintro _ G' ⟨rfl, hG⟩; rw [Heap.set_ext_key _ _ _ _ (by decide)] at hG; rw [hG]; clear hG
    simp only [go_sem]
    refine LL.st good_E0 (fun _ : Nat => 0) (fun _ => True) (fun _ => [(.z, .str bN), ((.i .z), .ptr (H.key 0) 0), ((.o (.o .z)), .nili), ((.i (.o .z)), .ptr (H.key 1) 0), ((.o (.i .z)), .ptr (H.key 2) 0), ((.o (.o (.o (.o (.i .z))))), .int .i64 0), ((.i (.o (.o (.o (.i .z))))), .int .i64 0)])
      (fun _ => [.row true 16 [zR], tk [], .row true 16 [rcE 3 2 1 0 0 0]]) ?_ 0 (σ := [0, 1, 2]) (Wk.of rfl (by decide) (by simp only [go_sem, bN]; first | done | rfl | trace_state) (by simp only [go_sem, rcE, zR, tk]; first | done | rfl | trace_state)) trivial
    rintro _ _
    simp only [go_sem, C13L2, zR, tk, rcE]
    refine CL.of f14_rc ?_
    rintro _ G' ⟨rfl, hG⟩
    rw [hG]
    clear hG
    simp only [go_sem, bN]
    exact ⟨_, rfl⟩
end Go.Proofs
/- the shards of a node of two; the record of all there is: walked. -/

set_option linter.all false
set_option linter.all false
set_option maxRecDepth 100000
namespace Go.Proofs
open Go Go.Ev
variable {H : Heap}

section
variable {G : Heap} {k : K} {lv gv : AV} {a b : Sh} {gs : List Gn}
theorem f16_two (h : isHd G k lv gv [a, b] gs) : FnOk Tryz.prog 16 [.ptr k 0] G fun r G' => r = .slice (G.key 0) 0 2 8 false 2 ∧ G' = G.ext [.dead] := by
  refine FnOk.dropW ?_
  refine FnOk.of_WW Tryz.func16 rfl C16ok R16ok E0 good_E0 ?_
  have hk : ∀ L, (G.ext L).get k = _ := fun L => Heap.get_ext_old h.ok h.row L
  have hA := h.l
  have hlen := fun G => hA.len G; have hren := hA.ren
  simp only [go_sem, C16, hk, hlen]
  refine LL.st good_E0 (S := Int × AV × List Blk) (fun s => (2 - s.1).toNat) (fun s => s = (0, .nils, []) ∨ s = (1, .slice (G.key 0) 0 1 8 false 1, [.row true 8 [(a.cop (G.key 1) (G.key 2) (G.key 3)).enc], .dead, .dead, .dead]) ∨ s = (2, .slice (G.key 0) 0 2 8 false 2, [.dead]))
    (fun s => [((.o (.o .z)), s.2.1), ((.o (.i (.o .z))), lv), ((.i (.i (.o .z))), .int .i64 2), ((.o (.o (.i .z))), .int .i64 s.1)])
    (fun s => s.2.2) ?_ (0, .nils, []) (σ := []) (Wk.of rfl (by decide) (by simp only [go_sem, hren]; first | done | rfl | trace_state) (by simp only [go_sem, Sh.cop, Sh.enc, zV_ren]; first | done | rfl | trace_state)) (.inl rfl)
  obtain ⟨kk, r, ex', cap', wr, rows, hv, hrho, hgo, hrow⟩ := hA.at h.ok (j := 0) (Nat.zero_lt_succ _)
  obtain ⟨kk1, r1, ex1, cap1, wr1, rows1, hv1, hrho1, hgo1, hrow1⟩ := hA.at h.ok (j := 1) (Nat.succ_lt_succ (Nat.zero_lt_succ _))
  have hsa := h.each a (by simp)
  have hsb := h.each b (by simp)
  have hma := h.small a (by simp)
  have hmb := h.small b (by simp)
  have hw01 : IntKind.i64.wrap (0 + 1) = 1 := rfl
  have hw12 : IntKind.i64.wrap (1 + 1) = 2 := rfl
  rintro _ (rfl | rfl | rfl)
  · have hrow : rows[r]? = some [.int .i64 a.id, .int .i64 a.ep, .str a.fr, .str a.to, .bool a.frz, a.cv, a.ev, a.dv] := hrow
    simp only [go_sem, C16L0, hv, hgo, hrow]
    refine CL.of (f41_ok (hsa.ext _) hma) ?_
    rintro _ G' ⟨rfl, hG⟩; rw [hG]; clear hG
    simp only [go_sem, Sh.cop, Sh.enc, copB, Heap.key_ext]
    exact ⟨(1, .slice (G.key 0) 0 1 8 false 1, [.row true 8 [(a.cop (G.key 1) (G.key 2) (G.key 3)).enc], .dead, .dead, .dead]), by show (2 - 1 : Int).toNat < (2 - 0 : Int).toNat; decide, .inr (.inl rfl), _, [5, 1, 2, 3], rfl, Wk.of rfl (by decide) (by simp only [go_sem, hren, hrho, hv, hw01]; first | done | rfl | trace_state) (by simp only [go_sem, Sh.cop, Sh.enc, zV_ren]; first | done | rfl | trace_state)⟩
  · have hrow1 : rows1[r1 + 1]? = some [.int .i64 b.id, .int .i64 b.ep, .str b.fr, .str b.to, .bool b.frz, b.cv, b.ev, b.dv] := hrow1
    simp only [go_sem, C16L0, hv1, hgo1, hrow1]
    refine CL.of (f41_ok (hsb.ext _) hmb) ?_
    rintro _ G' ⟨rfl, hG⟩; rw [hG]; clear hG
    simp only [go_sem, Sh.cop, Sh.enc, copB, Heap.key_ext]
    exact ⟨(2, .slice (G.key 0) 0 2 8 false 2, [.dead]), by show (2 - 2 : Int).toNat < (2 - 1 : Int).toNat; decide, .inr (.inr rfl), _, [9], rfl, Wk.of rfl (by decide) (by simp only [go_sem, hren, hrho1, hv1, hw12]; first | done | rfl | trace_state) (by simp only [go_sem, Sh.cop, Sh.enc, zV_ren]; first | done | rfl | trace_state)⟩
  · simp only [go_sem, C16L0]
    exact ⟨[.dead], [0], by simp only [go_sem], rfl, rfl, by decide, by simp only [go_sem]⟩
end
open Classical in
/-- its shards, what it gave away -/
noncomputable def EB (f : FuncId) (args : List AV) (H : Heap) : RC :=
  match f with
  | 16 => match args with
    | [.ptr k 0] => if ∃ lv gv a b gs, isHd H k lv gv [a, b] gs then .ok (.slice (H.key 0) 0 2 8 false 2) (H.ext [.dead]) else .fail
    | _ => .fail
  | 42 => match args with
    | [v] => if Arr H 2 v [[.int .i64 1, .int .i64 1]] then .ok (zV (nilB v) (H.key 0) 2 1) (H.ext [zB (nilB v) 2 [[.int .i64 1, .int .i64 1]]]) else .fail
    | _ => .fail
  | _ => .fail
theorem good_EB : Ev.Good Tryz.prog EB := by
  intro f args H r G he φ w args' ha hw
  refine (?_ : FnOk Tryz.prog f args H fun v' G' => v' = r ∧ G' = G).one φ w args' ha hw
  unfold EB at he
  split at he
  · split at he
    · split at he
      · rename_i hc
        obtain ⟨lv, gv, a, b, gs, hc⟩ := hc
        cases he; exact f16_two hc
      · cases he
    · cases he
  · split at he
    · split at he
      · rename_i hc
        cases he; exact clone_zd clo42 hc (by show (2 * 1 + 192) * 16 ≤ 281474976710656; decide) (fun top σ => rfl)
      · cases he
    · cases he
  · cases he
section
variable {G : Heap} {k : K} {lv gv : AV} {a b : Sh} {gs : List Gn}
theorem eb16 (h : isHd G k lv gv [a, b] gs) : EB 16 [.ptr k 0] G = .ok (.slice (G.key 0) 0 2 8 false 2) (G.ext [.dead]) := if_pos ⟨lv, gv, a, b, gs, h⟩
theorem eb42 {v : AV} (h : Arr G 2 v [[.int .i64 1, .int .i64 1]]) : EB 42 [v] G = .ok (zV (nilB v) (G.key 0) 2 1) (G.ext [zB (nilB v) 2 [[.int .i64 1, .int .i64 1]]]) := if_pos h
theorem f17_two (h : isHd G k lv gv [a, b] [⟨1, 1⟩]) : FnOk Tryz.prog 17 [.ptr k 0] G fun r G' => (∃ c w, r = .agg [.int .i64 1, .int .i64 0, .int .i64 0, .int .i64 0, .int .i64 0, .int .i64 0, .int .i64 0, .str [], .str [], .str [], .int .i64 0, .nils, .str [], .str [], .slice c 0 2 8 false 2, w]) ∧ ∃ L, G' = G.ext L := by
  refine FnOk.of_WW Tryz.func17 rfl C17ok R17ok EB good_EB ?_
  have hk : ∀ L, (G.ext L).get k = _ := fun L => Heap.get_ext_old h.ok h.row L
  have e16 := fun L => eb16 (h.ext L)
  have e42 := fun L => eb42 (G := G.ext L) (h.g.ext L)
  simp only [go_sem, C17, hk, e16, e42]
  exact ⟨⟨_, _, rfl⟩, _, rfl⟩
end
end Go.Proofs
/- whether the law's own functions are known: walked. -/




set_option linter.all false
set_option linter.all false
set_option maxRecDepth 100000
namespace Go.Proofs
open Go Go.Ev
variable {H : Heap}

section
variable {a b : Sh}
theorem half.id1 (h : half a b) : idx (fun s => decide (s.id = 1)) [a, b] 0 = -1 := by
  unfold idx
  rw [decide_eq_false (by rw [h.a1]; decide), if_neg Bool.false_ne_true]
  unfold idx
  rw [decide_eq_false (by rw [h.b1]; decide), if_neg Bool.false_ne_true]
  rfl
theorem half.find (h : half a b) : idx (findQ [107]) [a, b] 0 = ((0 : Nat) : Int) := by
  unfold idx
  have : findQ [107] a = true := by
    unfold findQ
    rw [h.a4, if_neg Bool.false_ne_true, h.a2, h.a3]
    exact decide_eq_true ⟨⟨by decide, by decide, .inr (by exact ltS_nil 109 [])⟩, ⟨by simp, by show (1 : Int) ≤ 8; decide⟩, not_ltS_nil _, .inr ((ltS_cons 107 109 [] []).2 (.inl (by decide)))⟩
  rw [this, if_pos rfl]
theorem half.at (h : half a b) : idx (atQ []) [a, b] 0 = ((0 : Nat) : Int) := by
  unfold idx
  have : atQ [] a = true := by
    unfold atQ
    rw [h.a4, if_neg Bool.false_ne_true, h.a2, h.a3]
    exact decide_eq_true ⟨.inr rfl, .inr (by rintro (g | g); exact not_ltS_nil _ g; cases g)⟩
  rw [this, if_pos rfl]
end
theorem f4_ok : FnOk Tryz.prog 4 [] H fun r G => r = .bool true ∧ G = H := by
  refine FnOk.assume fun hok => ?_
  refine FnOk.drop (R := fun r => r = .bool true) ?_ (by rintro v rfl ρ; rw [AV.ren])
  refine FnOk.of_WW Tryz.func4 rfl C4ok R4ok E0 good_E0 ?_
  simp only [go_sem, C4]
  refine CL.of f11_ok ?_
  rintro _ G' ⟨rfl, hG⟩
  rw [hG]
  clear hG
  simp only [go_sem, Heap.key_ext]
  have hA : ∀ b0, Arr (H.ext [b0, .row true 8 [(nS 1 1 [] [] false).enc]]) 8 (.slice (H.key 1) 0 1 8 true 1) [(nS 1 1 [] [] false).enc] := fun b0 => .inr ⟨H.key 1, 0, true, 1, rfl, Heap.ok_ext hok _ _ _ (get_lit rfl), fun _ => ⟨0, true, _, rfl, get_lit rfl, rfl⟩⟩
  refine CL.of (f6_base (newHd hok _) (hA _) (shOne 1 (by decide) (by decide))) ?_
  rintro _ M1 ⟨rfl, ⟨lv1, h1⟩, n1⟩
  refine WW.nil ?_
  simp only [go_sem, zA]
  refine CL.of (f6_ask (h1.ext _)) ?_
  rintro _ M2 ⟨rfl, ⟨lv2, cv, ev, dv, h2⟩, n2⟩
  refine WW.nil ?_
  simp only [go_sem, zA]
  refine CL.of (f6_split (h2.ext _)) ?_
  rintro _ M3 ⟨rfl, ⟨lv3, gv3, a, b, h3, hf⟩, n3⟩
  refine WW.nil ?_
  simp only [go_sem, zA]
  have q4 := n3.keep (M2.key 0) _ (ne_key h2.ok h2.row 0) (get_lit rfl)
  refine CL.of (f6_err (h3.ext _) (kind := 3) (.inl rfl) 0 0 0 (.int .i64 0) (.str []) (.str []) (.str []) (.int .i64 0) .nils (.str []) (.str []) .nils .nils (n0 := 1) (n1 := 1) (m := 14) fun L => f21_none ((h3.ext _).ext L) 3 0 0 0 _ _ _ _ _ _ _ _ _ _ hf.id1) ?_
  rintro _ M4 ⟨rfl, h4, n4⟩
  have r4 := n4.keep (M2.key 0) _ (by exact ne_key h2.ok h2.row 0) (Heap.get_ext_old h3.ok q4 _)
  have g4 := fun L => Heap.get_ext_old h4.ok r4 L
  refine WW.nil ?_
  simp only [go_sem, zA]
  have ha1 := hf.a1
  refine CL.of (f8_yes (h4.ext _) [107] (i := 0) hf.find rfl) ?_
  rintro _ G' ⟨rfl, hG⟩; rw [hG]; clear hG
  simp only [go_sem, Sh.cop, Sh.enc, copB, Heap.key_ext]
  refine CL.of (f12_no (h4.ext _) 1 hf.id1) ?_
  rintro _ G' ⟨rfl, hG⟩; rw [hG]; clear hG
  simp only [go_sem, zS]
  refine CL.of f14_rc ?_
  rintro _ G' ⟨rfl, hG⟩; rw [hG]; clear hG
  simp only [go_sem]
  refine CL.of f13_rc ?_
  rintro _ G' ⟨rfl, hG⟩; rw [hG]; clear hG
  simp only [go_sem, rcE]
  refine CL.of (f9_yes (h4.ext _) [] (i := 0) hf.at rfl) ?_
  rintro _ G' ⟨rfl, hG⟩; rw [hG]; clear hG
  simp only [go_sem, Sh.cop, Sh.enc, copB, Heap.key_ext, g4, ha1]
  have hle : H.nx.toNat ≤ (H.key 0).toNat := by rw [Heap.toNat_key]; exact Nat.le_add_right ..
  have hown : ∀ L, ∃ l, M4.ext L = H.ext l := fun L => ext_own (n4.own H (ext_own (n3.own H (ext_own (n2.own H (ext_own (n1.own H ⟨_, rfl⟩ hle) _) hle) _) hle) _) hle) L
  refine CL.of (f10_ok (some 14) 14) ?_
  rintro _ G' ⟨rfl, hG⟩; rw [hG]; clear hG
  simp only [go_sem, g4]
  refine CL.of (f15_ok (h4.ext _) 1) ?_
  rintro _ G' ⟨rfl, hG⟩; rw [hG]; clear hG
  have hg : goneN [⟨1, 1⟩] 1 = 1 := rfl
  rw [hg]
  simp only [go_sem]
  refine CL.of (f16_two (h4.ext _)) ?_
  rintro _ G' ⟨rfl, hG⟩; rw [hG]; clear hG
  simp only [go_sem]
  refine CL.of (f17_two (h4.ext _)) ?_
  rintro _ G' ⟨⟨c, w, rfl⟩, L, hG⟩
  rw [hG, Heap.ext_append]
  clear hG
  simp only [go_sem]
  exact hown _
theorem f3_ok {n : Int} (hn0 : 0 ≤ n) (hn1 : n < 256) (key : List Nat) : FnOk Tryz.prog 3 [.int .u8 n, .str key] H fun r G => r = .bool true ∧ G = H := f3_of (fun _ => f4_ok) hn0 hn1 key
end Go.Proofs
