/- Ends of walks: what is let go behind a function. -/
import Derived.Test.YtiadcabmonbgiaaEvAC
set_option linter.all false
namespace Go.Ev
variable {P : Program} {H : Heap}

theorem callC_ok {f : FuncId} (h : callOk P f = true) (args : List AV) (H : Heap) : callC P f args H = .call f args := by unfold callC; rw [h, bif_true]
section
variable {E : FuncId → List AV → Heap → RC} {N : Nat} {H0 : Heap} {k : List It} {Q : Ex → Tr AV → Heap → Prop} {T : Tr AV}
/-- a call that answers a truth -/
theorem CL.bool {f : FuncId} {args : List AV} {d : Option K} {p : Prop} [Decidable p] (h : FnOk P f args H fun v G => v = .bool (decide p) ∧ G = H) (ht : p → WW P E N H0 k (putD T d (.bool true)) H Q) (hf : ¬p → WW P E N H0 k (putD T d (.bool false)) H Q) : CL P E N H0 f args d k T H Q := by
  refine CL.of h ?_
  rintro v G ⟨rfl, rfl⟩
  by_cases hp : p
  · rw [decide_eq_true hp]; exact ht hp
  · rw [decide_eq_false hp]; exact hf hp
/-- a call that answers one value -/
theorem CL.one {f : FuncId} {args : List AV} {d : Option K} {v : AV} {G : Heap} (h : FnOk P f args H fun v' G' => v' = v ∧ G' = G) (hk : WW P E N H0 k (putD T d v) G Q) : CL P E N H0 f args d k T H Q := by
  refine CL.of h ?_
  rintro _ _ ⟨rfl, rfl⟩
  exact hk
end

/-! ### Loops -/
section
variable {E : FuncId → List AV → Heap → RC} {N : Nat} {H0 : Heap} {k : List It} {Q : Ex → Tr AV → Heap → Prop} {T : Tr AV}
@[go_sem] theorem postW_ret' : postW P E N H0 k Q .ret T H = Q .ret T H := postW_ret k
@[go_sem] theorem postW_exit (n : Nat) : postW P E N H0 k Q (.exit n) T H = WX P E N H0 n k T H Q := nrf rfl
@[go_sem] theorem postW_norm : postW P E N H0 k Q .norm T H = WW P E N H0 k T H Q := nrf rfl
/-- a round's end: another state, nearer the end -/
def NextR (H0 : Heap) {S : Type} (μ : S → Nat) (good : S → Prop) (ts : S → List (K × AV)) (bl : S → List Blk) (s : S) (T : Tr AV) (G : Heap) : Prop :=
  ∃ s', μ s' < μ s ∧ good s' ∧ ∃ l σ, G = H0.ext l ∧ Wk H0 T l (ts s') (bl s') σ
theorem LL.st {x : CC} (hE : Good P E) {S : Type} (μ : S → Nat) (good : S → Prop) (ts : S → List (K × AV)) (bl : S → List Blk)
    (h : ∀ s, good s → WW P E N H0 [.code x] (trOf (ts s)) (H0.ext (bl s)) (behind (NextR H0 μ good ts bl s) (postW P E N H0 k Q))) {l : List Blk} (s0 : S) {σ : List Nat} (hw : Wk H0 T l (ts s0) (bl s0) σ) (h0 : good s0) : LL P E N H0 x k T (H0.ext l) Q := by
  refine LL.wk hw ?_
  refine LL.ofR hE (fun m T G => ∃ s, m = μ s ∧ good s ∧ T = trOf (ts s) ∧ G = H0.ext (bl s)) ?_ (m := μ s0) ⟨s0, rfl, h0, rfl, rfl⟩
  rintro m T G ⟨s, rfl, hs, rfl, rfl⟩
  have := h s hs
  refine (?_ : ∀ (R R' : Ex → Tr AV → Heap → Prop), (∀ e T H, R e T H → R' e T H) → WW P E N H0 [.code x] (trOf (ts s)) (H0.ext (bl s)) R → WW P E N H0 [.code x] (trOf (ts s)) (H0.ext (bl s)) R') _ _ ?_ this
  · intro R R' hr h
    exact wpc_mono x _ _ _ _ hr h
  · intro e T G q
    cases e with
    | norm =>
      obtain ⟨s', hm, hg, l, σ, hG, hk⟩ := q
      exact ⟨l, ts s', bl s', σ, hG, hk, μ s', hm, s', rfl, hg, rfl, rfl⟩
    | exit n => exact q
    | ret => exact q
end
theorem Wk.mk' {H : Heap} {T : Tr AV} {l : List Blk} {ts : List (K × AV)} {l2 : List Blk} {σ : List Nat} (h1 : l2.length = σ.length) (h2 : σ.Nodup) (h3 : ∀ p ∈ ts, T.get p.1 = some (p.2.ren (rho H l.length σ))) (h4 : ∀ p ∈ l2.zip σ, p.1.live → l[p.2]? = some (p.1.ren (rho H l.length σ))) : Wk H T l ts l2 σ := ⟨h1, h3, h4, h2⟩

/-! ### Calls in a region that draws its order -/
section
variable {E : FuncId → List AV → Heap → RC} {N : Nat} {H0 : Heap} {k : List It} {Q : Ex → Tr AV → Heap → Prop}
noncomputable def RCW (P : Program) (E : FuncId → List AV → Heap → RC) (N : Nat) (H0 : Heap) (r : RC) (d : Option K) (re : List Rk) (k : List It) (T : Tr AV) (Q : Ex → Tr AV → Heap → Prop) : Prop := match r with
  | .fail => False
  | .ok v G => AW P E N H0 re k (putD T d v) G Q
@[go_sem] theorem RD_call (d re T) (f a) : RD P E N H0 (.call f a) d re k T H Q = RCW P E N H0 (E f a H) d re k T Q := nrf rfl
@[go_sem] theorem RCW_ok (d re T v) (G : Heap) : RCW P E N H0 (.ok v G) d re k T Q = AW P E N H0 re k (putD T d v) G Q := nrf rfl
@[go_sem high] theorem RCW_dec (d re T) (G : Heap) (p : Prop) [Decidable p] : RCW P E N H0 (.ok (.bool (decide p)) G) d re k T Q = ((p → AW P E N H0 re k (putD T d (.bool true)) G Q) ∧ (¬p → AW P E N H0 re k (putD T d (.bool false)) G Q)) := by
  rw [RCW_ok]
  by_cases h : p
  · simp [h]
  · simp [h]
end
/-- calls that answer and leave memory alone -/
noncomputable def pureE (F : FuncId → List AV → Option AV) : FuncId → List AV → Heap → RC := fun f args H => match F f args with | some v => .ok v H | none => .fail
theorem good_pureE {F : FuncId → List AV → Option AV} (h : ∀ f args v, F f args = some v → ∀ H, FnOk P f args H fun v' G => v' = v ∧ G = H) : Good P (pureE F) := by
  intro f args H v G he φ w args' ha hw
  unfold pureE at he
  split at he
  · rename_i v' hv
    cases he
    exact (h f args v hv H).one φ w args' ha hw
  · cases he

/-! ### Structs held against each other -/
section
variable {β : Type} (ek : EK) (lit : Bool) (f : β) (c : Bool → β) (a b : List AV)
@[congr] theorem eqCs_congr {x x' y y' : List AV} {ks : List LK} {f : β} {c : Bool → β} (h : x = x') (h2 : y = y') : eqCs x y ks f c = eqCs x' y' ks f c := by rw [h, h2]
@[congr] theorem eq1C_congr {k : LK} {x x' y y' : AV} {f : β} {c : Bool → β} (h : x = x') (h2 : y = y') : eq1C k x y f c = eq1C k x' y' f c := by rw [h, h2]
@[go_sem] theorem eqCs_nil' : eqCs [] [] [] f c = c true := nrf rfl
@[go_sem] theorem eqCs_cons' (v u : AV) (x y : List AV) (k : LK) (ks : List LK) : eqCs (v :: x) (u :: y) (k :: ks) f c = eq1C k v u f fun z => bif' z (eqCs x y ks f c) (c false) := nrf rfl
@[go_sem] theorem eq1C_bool (a b : Bool) : eq1C .bool (.bool a) (.bool b) f c = c (decide (a = b)) := by
  show fB (bif' a b (Bool.not b)) c = _; rw [fB_eq]; congr 1; cases a <;> cases b <;> rfl
@[go_sem] theorem eq1C_int (k : IntKind) (a b : Int) : eq1C .int (.int k a) (.int k b) f c = c (decide (a = b)) := by
  show bif' (Nat.beq (kn k) (kn k)) (eqI a b c) f = _; rw [Nat.beq_refl, bif_true, eqI_eq]
@[go_sem] theorem eq1C_str (a b : List Nat) : eq1C .str (.str a) (.str b) f c = c (decide (a = b)) := by
  show fB (eqL a b) c = _; rw [fB_eq, eqL_eq]
@[go_sem] theorem bin_agg_eq (ks : List LK) (g : AV → β) : binV P ek (some ks) lit .eql (.agg a) (.agg b) f g = bif' (Bool.and (Nat.beq a.length ks.length) (Nat.beq b.length ks.length)) (eqCs a b ks f fun z => g (.bool z)) f := by
  show bif' _ (eqCs a b ks f fun z => fB (bif' false (Bool.not z) z) fun z => g (.bool z)) f = _
  congr 1; congr 1; funext z; rw [fB_eq]; rfl
@[go_sem] theorem bin_agg_ne (ks : List LK) (g : AV → β) : binV P ek (some ks) lit .neq (.agg a) (.agg b) f g = bif' (Bool.and (Nat.beq a.length ks.length) (Nat.beq b.length ks.length)) (eqCs a b ks f fun z => g (.bool (Bool.not z))) f := by
  show bif' _ (eqCs a b ks f fun z => fB (bif' true (Bool.not z) z) fun z => g (.bool z)) f = _
  congr 1; congr 1; funext z; rw [fB_eq]; rfl
end

/-! ### The order of texts -/
theorem ltS_nil (x : Nat) (l : List Nat) : ltS [] (x :: l) := rfl
theorem not_ltS_nil (l : List Nat) : ¬ ltS l [] := by cases l <;> (intro h; cases h)
theorem ltS_cons (x y : Nat) (a b : List Nat) : ltS (x :: a) (y :: b) ↔ x < y ∨ (x = y ∧ ltS a b) := by
  show bif' (Nat.beq x y) (ltL a b) (Nat.ble (x + 1) y) = true ↔ _
  rw [natBeq, natBle, bif_dec]
  by_cases h : x = y
  · rw [if_pos h]; subst h; simp [ltS]
  · rw [if_neg h]; simp [h]; omega
theorem ltS_irrefl : ∀ a : List Nat, ¬ ltS a a
  | [] => not_ltS_nil []
  | x :: a => by rw [ltS_cons]; intro h; rcases h with h | ⟨_, h⟩; exact Nat.lt_irrefl _ h; exact ltS_irrefl a h
theorem ltS_trans : ∀ {a b c : List Nat}, ltS a b → ltS b c → ltS a c
  | _, [], _, h, _ => absurd h (not_ltS_nil _)
  | _, _ :: _, [], _, h => absurd h (not_ltS_nil _)
  | [], _ :: _, z :: c, _, _ => ltS_nil z c
  | x :: a, y :: b, z :: c, h, g => by
    rw [ltS_cons] at h g ⊢
    rcases h with h | ⟨rfl, h⟩
    · rcases g with g | ⟨rfl, _⟩
      · exact .inl (by omega)
      · exact .inl h
    · rcases g with g | ⟨rfl, g⟩
      · exact .inl g
      · exact .inr ⟨rfl, ltS_trans h g⟩
theorem ltS_tri : ∀ a b : List Nat, ltS a b ∨ a = b ∨ ltS b a
  | [], [] => .inr (.inl rfl)
  | [], y :: b => .inl (ltS_nil y b)
  | x :: a, [] => .inr (.inr (ltS_nil x a))
  | x :: a, y :: b => by
    rw [ltS_cons, ltS_cons]
    rcases Nat.lt_trichotomy x y with h | rfl | h
    · exact .inl (.inl h)
    · rcases ltS_tri a b with h | rfl | h
      · exact .inl (.inr ⟨rfl, h⟩)
      · exact .inr (.inl rfl)
      · exact .inr (.inr (.inr ⟨rfl, h⟩))
    · exact .inr (.inr (.inl h))
theorem ltS_asymm {a b : List Nat} (h : ltS a b) : ¬ ltS b a := fun g => ltS_irrefl a (ltS_trans h g)
theorem not_leS {a b : List Nat} : ¬ (ltS a b ∨ a = b) ↔ ltS b a :=
  ⟨fun h => by rcases ltS_tri a b with g | g | g; exact absurd (.inl g) h; exact absurd (.inr g) h; exact g, fun h g => by rcases g with g | rfl; exact ltS_asymm h g; exact ltS_irrefl a h⟩
theorem not_ltS {a b : List Nat} : ¬ ltS a b ↔ (ltS b a ∨ a = b) :=
  ⟨fun h => by rcases ltS_tri a b with g | g | g; exact absurd g h; exact .inr g; exact .inl g, fun h g => by rcases h with h | rfl; exact ltS_asymm h g; exact ltS_irrefl a g⟩

/-- a result without names of blocks, behind whatever was made -/
theorem FnOk.drop {f : FuncId} {args : List AV} {R : AV → Prop} (h : FnOk P f args H fun v G => R v ∧ ∃ l, G = H.ext l) (hr : ∀ v, R v → ∀ ρ, v.ren ρ = v) : FnOk P f args H fun v G => R v ∧ G = H := by
  refine h.wk ?_
  rintro v G ⟨hv, l, rfl⟩
  exact ⟨l, [], [], v, rfl, (hr v hv _).symm, rfl, List.nodup_nil, by simp, hv, Heap.ext_nil H⟩
/-- a result that is a slice of a new block -/
theorem FnOk.drop1 {f : FuncId} {args : List AV} {n esz : Nat} {ex : Bool} {cap : Nat} {b : Blk} (h : FnOk P f args H fun v G => ∃ l i, v = .slice (H.key i) 0 n esz ex cap ∧ G = H.ext l ∧ l[i]? = some b) (hb : ∀ ρ, b.ren ρ = b) :
    FnOk P f args H fun v G => v = .slice H.nx 0 n esz ex cap ∧ G = H.ext [b] := by
  refine h.wk ?_
  rintro v G ⟨l, i, rfl, rfl, hi⟩
  refine ⟨l, [b], [i], .slice H.nx 0 n esz ex cap, rfl, ?_, rfl, by simp, ?_, rfl, rfl⟩
  · rw [AV.ren, ← Heap.key_zero, rho_key rfl]
  · simp only [List.zip_cons_cons, List.zip_nil_left, List.mem_singleton, forall_eq]
    intro _
    rw [hb]; exact hi
/-- a slice that says less of its room -/
theorem FnOk.loose {f : FuncId} {args : List AV} {k : K} {o n e m : Nat} {ex : Bool} {G : Heap} (h : FnOk P f args H fun v G' => v = .slice k o n e ex m ∧ G' = G) : FnOk P f args H fun v G' => v = .slice k o n e false m ∧ G' = G := by
  intro φ w args' ha hw
  refine (h φ w args' ha hw).mono ?_
  rintro e' u ⟨v, G', ⟨rfl, rfl⟩, ψ, v', he, hv, hwu, hext⟩
  refine ⟨_, _, ⟨rfl, rfl⟩, ψ, v', he, ?_, hwu, hext⟩
  cases hv with
  | slice _ _ _ _ _ _ a c hk hx hc hl hn => exact .slice k o n e false m a c hk (fun h => by cases h) hc hl hn
  | sliceE _ _ _ _ a x hk => exact .sliceE k o e false a x hk

/-- WHAT A FUNCTION HANDS BACK THAT MAKES A SLICE: nil, or a new block of its own -/
def Fr (H : Heap) (esz : Nat) (xs : List (List AV)) (v : AV) (G : Heap) : Prop :=
  (v = .nils ∧ xs = [] ∧ G = H) ∨ (v = .slice H.nx 0 xs.length esz false xs.length ∧ G = H.ext [.row true esz xs])
theorem Fr.arr {esz : Nat} {xs : List (List AV)} {v : AV} {G : Heap} (h : Fr H esz xs v G) : Arr G esz v xs := by
  rcases h with ⟨rfl, rfl, rfl⟩ | ⟨rfl, rfl⟩
  · exact .inl ⟨rfl, rfl⟩
  · refine .inr ⟨H.nx, 0, false, xs.length, rfl, ?_, fun _ => ⟨0, true, xs, by simp, ?_, by simp⟩⟩
    · rw [Heap.nx_ext, Heap.toNat_key]; simp
    · rw [← Heap.key_zero, Heap.get_ext_key _ _ _ (by simp)]; rfl

theorem clone_any {f : FuncId} {esz bytes : Nat} {zero : List AV} (hf : CloFn P f esz bytes zero) {v : AV} {xs : List (List AV)} (hA : Arr H esz v xs) (hb : (2 * xs.length + 192) * bytes ≤ 281474976710656) (hx : ∀ ρ, xs.map (AV.rens ρ) = xs) :
    FnOk P f [v] H fun r G => Fr H esz xs r G := by
  rcases hA with ⟨rfl, rfl⟩ | ⟨k, off, ex, cap, rfl, hk, h⟩
  · exact (clone_nil hf).mono fun v G ⟨h1, h2⟩ => .inl ⟨h1, rfl, h2⟩
  · rcases Nat.eq_zero_or_pos xs.length with h0 | h0
    · obtain rfl := List.length_eq_zero_iff.1 h0
      obtain ⟨fn, h1, h2, h3⟩ := hf.fn
      have hpos := hf.pos
      have key : FnOk P f [.slice k off 0 esz ex cap] H fun v G => v = .slice (H.key 0) 0 0 esz true 0 ∧ G = H.ext [.row true esz []] := by
        refine FnOk.of_WW h1 rfl h2 h3 E0 good_E0 ?_
        simp only [go_sem, cloCC, List.replicate_zero, Nat.reduceAdd, Nat.reduceSub, Nat.reduceMul, Nat.reduceDiv, Nat.reduceMod, Nat.reduceEqDiff, Nat.reduceLeDiff, Nat.reduceLT, Int.reduceLT, Int.reduceLE, Int.reduceEq, reduceIte, reduceCtorEq]
      exact key.loose.mono fun v G ⟨e1, e2⟩ => .inr ⟨e1, e2⟩
    · obtain ⟨r, wr, rows, rfl, hg, hrow⟩ := h (by intro e; rw [e] at h0; simp at h0)
      have hn : r + xs.length ≤ rows.length := by
        have := congrArg List.length hrow
        rw [List.length_take, List.length_drop] at this
        omega
      have key := clone_arr hf hg hn h0 hb (ex := ex) (cap := cap)
      rw [hrow] at key
      refine (FnOk.drop1 (b := .row true esz xs) (key.mono fun v G ⟨e1, e2⟩ => ⟨_, 1, e1, e2, rfl⟩) ?_).mono fun v G h => .inr h
      intro ρ
      show Blk.row true esz (xs.map (AV.rens ρ)) = _
      rw [hx]
end Go.Ev
