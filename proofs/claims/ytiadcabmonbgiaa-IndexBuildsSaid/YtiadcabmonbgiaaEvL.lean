/- Slices and strings cut; lengths. -/
import Derived.Test.YtiadcabmonbgiaaEvK
namespace Go.Ev
variable {P : Program} {φ : Phi} {H : Heap} {w : World} {T : Tr AV} {a : Act}

/-! ### Bounds -/
/-- a bound that may be left out, as the model has it -/
inductive Bd : Option Value → Option Nat → Prop
  | no : Bd none none
  | yes (k : IntKind) (n : Nat) : Bd (some (.int k (n : Int))) (some n)

theorem run_sliceBound {k : IntKind} {n y : Nat} (h : n ≤ y) (code : BoundsCode) (w : World) : (Instr.sliceBound (.int k (n : Int)) y code).run P w = .ok n w := by
  have h' : (0 : Int) ≤ (n : Int) ∧ (n : Int) ≤ (y : Int) := by omega
  simp only [Instr.sliceBound, asIntOf, Sem.run_bind, Sem.run_pure, Result.andThen_ok]
  rw [if_pos h']; simp

theorem run_sliceBounds (b : Bool) {len cap l h m : Nat} {lo hi mx : Option Value} {lo' hi' mx' : Option Nat} (hl : Bd lo lo') (hh : Bd hi hi') (hm : Bd mx mx')
    (h1 : mx' = none → m = cap) (h2 : ∀ x, mx' = some x → x = m ∧ m ≤ cap) (h3 : hi' = none → h = len ∧ mx' = none) (h4 : ∀ x, hi' = some x → x = h ∧ h ≤ m) (h5 : lo' = none → l = 0) (h6 : ∀ x, lo' = some x → x = l ∧ l ≤ h) (w : World) :
    (Instr.sliceBounds b len cap lo hi mx).run P w = .ok (l, h, m) w := by
  cases hm with
  | no =>
    have := h1 rfl; subst this
    cases hh with
    | no =>
      obtain ⟨rfl, _⟩ := h3 rfl
      cases hl with
      | no => have := h5 rfl; subst this; rfl
      | yes k n =>
        obtain ⟨rfl, hle⟩ := h6 _ rfl
        simp [Instr.sliceBounds, run_sliceBound hle]
    | yes k n =>
      obtain ⟨rfl, hle⟩ := h4 _ rfl
      cases hl with
      | no => have := h5 rfl; subst this; simp [Instr.sliceBounds, run_sliceBound hle]
      | yes k' n' =>
        obtain ⟨rfl, hle'⟩ := h6 _ rfl
        simp [Instr.sliceBounds, run_sliceBound hle, run_sliceBound hle']
  | yes km nm =>
    obtain ⟨rfl, hlm⟩ := h2 _ rfl
    cases hh with
    | no => have := (h3 rfl).2; cases this
    | yes k n =>
      obtain ⟨rfl, hle⟩ := h4 _ rfl
      cases hl with
      | no => have := h5 rfl; subst this; simp [Instr.sliceBounds, run_sliceBound hle, run_sliceBound hlm]
      | yes k' n' =>
        obtain ⟨rfl, hle'⟩ := h6 _ rfl
        simp [Instr.sliceBounds, run_sliceBound hle, run_sliceBound hle', run_sliceBound hlm]

noncomputable def cXo : Option Operand → Option (Option X)
  | none => some none
  | some o => (cX o).map some
/-- a bound that may be left out -/
noncomputable def bdC {β : Type} (T : Tr AV) (x : Option X) (f : β) (c : Option Nat → β) : β :=
  Option.rec (motive := fun _ => β) (c none) (fun x => withX T x f fun v => ixC v f fun n => fN n fun n => c (some n)) x
theorem bdC_sound {β : Type} {o : Option Operand} {x : Option X} (hx : cXo o = some x) (ht : TRelAt P φ T a.tmps (· ∈ tmpsOf o.toList)) (f : β) (c : Option Nat → β) :
    bdC T x f c = f ∨ ∃ n, bdC T x f c = c n ∧ Bd (o.map a.eval) n := by
  cases o with
  | none => simp only [cXo, Option.some.injEq] at hx; subst hx; exact .inr ⟨none, rfl, .no⟩
  | some o =>
    simp only [cXo] at hx
    cases hc : cX o with
    | none => rw [hc] at hx; cases hx
    | some y =>
      rw [hc] at hx; cases hx
      show withX T y f (fun v => ixC v f fun n => fN n fun n => c (some n)) = f ∨ _
      rcases withX_eq T y f (fun v => ixC v f fun n => fN n fun n => c (some n)) with ⟨_, e⟩ | ⟨v, hv, e⟩
      · exact .inl e
      have hv' := evX_sound ht hc hv
      rcases ixC_sound hv' f (fun n => fN n fun n => c (some n)) with e2 | ⟨k, n, h1, e2⟩
      · exact .inl (e.trans e2)
      · refine .inr ⟨some n, e.trans (e2.trans (fN_eq _ _)), ?_⟩
        show Bd (some (a.eval o)) _
        rw [h1]; exact .yes k n

/-- a bound, or what stands in its place -/
noncomputable def orN (x : Option Nat) (d : Nat) : Nat := Option.rec (motive := fun _ => Nat) d (fun n => n) x
theorem orN_none (d : Nat) : orN none d = d := rfl
theorem orN_some (n d : Nat) : orN (some n) d = n := rfl
noncomputable def isS (x : Option Nat) : Bool := Option.rec (motive := fun _ => Bool) false (fun _ => true) x

/-! ### A string cut -/
noncomputable def dropC {β : Type} (f : β) (n : Nat) : List Nat → (List Nat → β) → β :=
  Nat.rec (motive := fun _ => List Nat → (List Nat → β) → β) (fun l c => c l) (fun _ ih l c => List.rec (motive := fun _ => β) f (fun _ r _ => ih r c) l) n
theorem dropC_eq {β : Type} (f : β) : ∀ (n : Nat) (l : List Nat) (c : List Nat → β), dropC f n l c = if n ≤ l.length then c (l.drop n) else f
  | 0, l, c => by show c l = _; simp
  | n + 1, [], c => by show f = _; simp
  | n + 1, x :: l, c => by show dropC f n l c = _; rw [dropC_eq f n l c]; simp
noncomputable def slsR (x : X) (lo hi : Option X) (T : Tr AV) (H : Heap) : R1 := withX T x .fail fun v => bdC T lo .fail fun lo => bdC T hi .fail fun hi => asStrC v .fail fun l =>
  dropC .fail (orN lo 0) l fun r => Option.rec (motive := fun _ => R1) (.val (.str r) H) (fun h => bif' (Nat.ble (orN lo 0) h) (takeC .fail (h - orN lo 0) r fun r => .val (.str r) H) .fail) hi

theorem tm3a {x : Operand} {l : List Operand} {T : Tr AV} {tm : Array Value} (h : TRelAt P φ T tm (· ∈ tmpsOf (x :: l))) : TRelAt P φ T tm (· ∈ tmpsOf [x]) :=
  h.sub fun t h => by simp only [tmpsOf, List.filterMap_cons, List.filterMap_nil] at h ⊢; split at h <;> simp_all
theorem tm3b {x : Operand} {l m : List Operand} {T : Tr AV} {tm : Array Value} (h : TRelAt P φ T tm (· ∈ tmpsOf (x :: l))) (hm : ∀ y ∈ m, y ∈ l) : TRelAt P φ T tm (· ∈ tmpsOf m) :=
  h.sub fun t h => by
    simp only [tmpsOf, List.mem_filterMap] at h ⊢
    obtain ⟨y, h1, h2⟩ := h
    exact ⟨y, List.mem_cons_of_mem _ (hm y h1), h2⟩

theorem sls_sound (hw : WRel P φ H w) {t : TypeId} (hu : P.underlying t = some .string) {o : Operand} {lo hi : Option Operand} {x : X} {xl xh : Option X} (hx : cX o = some x) (hl : cXo lo = some xl) (hh : cXo hi = some xh)
    (ht : TRelAt P φ T a.tmps (· ∈ tmpsOf (o :: (lo.toList ++ hi.toList)))) :
    Ran0 P φ H w (do return Next.value (← Instr.sliceAt t (a.eval o) (lo.map a.eval) (hi.map a.eval) (none : Option Value))) (slsR x xl xh T H) := by
  unfold slsR
  rcases withX_eq T x R1.fail _ with ⟨_, e⟩ | ⟨v, hv, e⟩ <;> rw [e] <;> clear e
  · exact .fail
  have hv' := evX_sound (tm3a ht) hx hv
  rcases bdC_sound (P := P) (φ := φ) (a := a) hl (tm3b ht (by intro y h; simp only [List.mem_append]; simp [h])) R1.fail _ with e | ⟨nl, e, hbl⟩ <;> rw [e] <;> clear e
  · exact .fail
  rcases bdC_sound (P := P) (φ := φ) (a := a) hh (tm3b ht (by intro y h; simp only [List.mem_append]; simp [h])) R1.fail _ with e | ⟨nh, e, hbh⟩ <;> rw [e] <;> clear e
  · exact .fail
  generalize a.eval o = y at *
  generalize hi.map a.eval = vh at *
  generalize lo.map a.eval = vl at *
  cases hv' <;> try exact .fail
  rename_i l s hs
  show Ran0 P φ H w _ (dropC .fail (orN nl 0) l fun r => Option.rec (motive := fun _ => R1) (.val (.str r) H) (fun h => bif' (Nat.ble (orN nl 0) h) (takeC .fail (h - orN nl 0) r fun r => .val (.str r) H) .fail) nh)
  rw [dropC_eq]
  split
  case isFalse => exact .fail
  rename_i hlo
  have hsz : l.length = s.size := by rw [← hs, List.length_map]; rfl
  have hext : ∀ i j, j ≤ s.size → (s.extract i j).data.toList.map (·.toNat) = (l.drop i).take (j - i) := by
    intro i j hj
    rw [← hs]
    have : (s.extract i j).data.toList = (s.data.toList.drop i).take (j - i) := by simp [List.extract_eq_take_drop]
    rw [this, List.map_take, List.map_drop]
  cases hbh with
  | no =>
    refine .pure hw (run_v ?_) (.str _ (s.extract (orN nl 0) s.size) (by rw [hext _ _ (Nat.le_refl _), List.take_of_length_le (by simp; omega)]))
    have hb := run_sliceBounds (P := P) false (len := s.size) (cap := s.size) (l := orN nl 0) (h := s.size) (m := s.size) hbl Bd.no Bd.no (by simp) (by simp) (by simp) (by simp) (by intro h; subst h; rfl) (by intro x h; subst h; exact ⟨rfl, by rw [orN_some] at hlo ⊢; omega⟩) w
    simp [Instr.sliceAt, Instr.slice, run_underlying hu, hb]
  | yes k n =>
    show Ran0 P φ H w _ (bif' (Nat.ble (orN nl 0) n) (takeC .fail (n - orN nl 0) _ fun r => .val (.str r) H) .fail)
    by_cases hle : Nat.ble (orN nl 0) n = true
    case neg => rw [eq_false_of_ne_true hle]; exact .fail
    rw [hle, bif_true, takeC_eq]
    split
    case isFalse => exact .fail
    rename_i hn
    have hle' := Nat.le_of_ble_eq_true hle
    rw [List.length_drop] at hn
    refine .pure hw (run_v ?_) (.str _ (s.extract (orN nl 0) n) (hext _ _ (by omega)))
    have hb := run_sliceBounds (P := P) false (len := s.size) (cap := s.size) (l := orN nl 0) (h := n) (m := s.size) hbl (Bd.yes k n) Bd.no (by simp) (by simp) (by simp) (by intro x h; cases h; exact ⟨rfl, by omega⟩) (by intro h; subst h; rfl) (by intro x h; subst h; exact ⟨rfl, by rw [orN_some] at hle' ⊢; exact hle'⟩) w
    simp [Instr.sliceAt, Instr.slice, run_underlying hu, hb]

/-! ### A slice cut -/
/-- how far a slice reaches once it is cut at mx; whether that is known -/
noncomputable def slvR (esz : Nat) (x : X) (lo hi mx : Option X) (T : Tr AV) (H : Heap) : R1 := withX T x .fail fun v => bdC T lo .fail fun lo => bdC T hi .fail fun hi => bdC T mx .fail fun mx =>
  asSliceC v .fail
    (bif' (Bool.and (Nat.beq (orN lo 0) 0) (Bool.and (Nat.beq (orN hi 0) 0) (Bool.and (Nat.beq (orN mx 0) 0) (Bool.or (isS hi) (Bool.not (isS mx)))))) (.val .nils H) .fail)
    fun k off len es ex cap =>
      bif' (Bool.and (Nat.beq es esz) (Bool.and (Nat.ble (orN lo 0) (orN hi len)) (Bool.and (Nat.ble (orN hi len) (orN mx cap)) (Bool.and (Nat.ble (orN mx cap) cap) (Bool.or (isS hi) (Bool.not (isS mx)))))))
        (fB (Bool.or ex (isS mx)) fun ex => fN (orN mx cap - orN lo 0) fun cp => fN (orN hi len - orN lo 0) fun ln =>
          bif' (Bool.and ex (Nat.beq cp 0)) (.val (.slice k off ln es ex cp) H) (fN (off + orN lo 0 * es) fun o => .val (.slice k o ln es ex cp) H)) .fail

theorem slv_sound (hw : WRel P φ H w) {t e : TypeId} (hu : P.underlying t = some (.slice e)) {esz : Nat} (hn : szT P e = some esz) {o : Operand} {lo hi mx : Option Operand} {x : X} {xl xh xm : Option X} (hx : cX o = some x) (hl : cXo lo = some xl) (hh : cXo hi = some xh) (hm : cXo mx = some xm)
    (ht : TRelAt P φ T a.tmps (· ∈ tmpsOf (o :: (lo.toList ++ (hi.toList ++ mx.toList))))) :
    Ran0 P φ H w (do return Next.value (← Instr.sliceAt t (a.eval o) (lo.map a.eval) (hi.map a.eval) (mx.map a.eval))) (slvR esz x xl xh xm T H) := by
  unfold slvR
  rcases withX_eq T x R1.fail _ with ⟨_, e⟩ | ⟨v, hv, e⟩ <;> rw [e] <;> clear e
  · exact .fail
  have hv' := evX_sound (tm3a ht) hx hv
  rcases bdC_sound (P := P) (φ := φ) (a := a) hl (tm3b ht (by intro y h; simp only [List.mem_append]; simp [h])) R1.fail _ with e | ⟨nl, e, hbl⟩ <;> rw [e] <;> clear e
  · exact .fail
  rcases bdC_sound (P := P) (φ := φ) (a := a) hh (tm3b ht (by intro y h; simp only [List.mem_append]; simp [h])) R1.fail _ with e | ⟨nh, e, hbh⟩ <;> rw [e] <;> clear e
  · exact .fail
  rcases bdC_sound (P := P) (φ := φ) (a := a) hm (tm3b ht (by intro y h; simp only [List.mem_append]; simp [h])) R1.fail _ with e | ⟨nm, e, hbm⟩ <;> rw [e] <;> clear e
  · exact .fail
  generalize a.eval o = y at *
  cases hv' <;> try exact .fail
  · -- nil
    show Ran0 P φ H w _ (bif' (Bool.and (Nat.beq (orN nl 0) 0) (Bool.and (Nat.beq (orN nh 0) 0) (Bool.and (Nat.beq (orN nm 0) 0) (Bool.or (isS nh) (Bool.not (isS nm)))))) (.val .nils H) .fail)
    by_cases hb : Bool.and (Nat.beq (orN nl 0) 0) (Bool.and (Nat.beq (orN nh 0) 0) (Bool.and (Nat.beq (orN nm 0) 0) (Bool.or (isS nh) (Bool.not (isS nm))))) = true
    case neg => rw [eq_false_of_ne_true hb]; exact .fail
    rw [hb, bif_true]
    simp only [Bool.and_eq_true, Nat.beq_eq, Bool.or_eq_true, Bool.not_eq_true'] at hb
    obtain ⟨b1, b2, b3, b4⟩ := hb
    have hsb := run_sliceBounds (P := P) true (len := 0) (cap := 0) (l := 0) (h := 0) (m := 0) hbl hbh hbm (by simp) (by intro x h; subst h; exact ⟨b3, Nat.le_refl _⟩)
      (by intro h; subst h; refine ⟨rfl, ?_⟩; cases nm with | none => rfl | some _ => simp [isS] at b4) (by intro x h; subst h; exact ⟨b2, Nat.le_refl _⟩) (by simp) (by intro x h; subst h; exact ⟨b1, Nat.le_refl _⟩) w
    refine .pure hw (run_v ?_) .nils
    simp only [Instr.sliceAt, Sem.run_bind, run_underlying hu, Result.andThen_ok, Instr.slice, hsb, run_sizeOf' hn, if_true, Sem.run_pure]
  · rename_i k off len es ex cap at_ c hk hxc hc hlc hlen
    show Ran0 P φ H w _ (bif' (Bool.and (Nat.beq es esz) (Bool.and (Nat.ble (orN nl 0) (orN nh len)) (Bool.and (Nat.ble (orN nh len) (orN nm cap)) (Bool.and (Nat.ble (orN nm cap) cap) (Bool.or (isS nh) (Bool.not (isS nm)))))))
        (fB (Bool.or ex (isS nm)) fun ex => fN (orN nm cap - orN nl 0) fun cp => fN (orN nh len - orN nl 0) fun ln =>
          bif' (Bool.and ex (Nat.beq cp 0)) (.val (.slice k off ln es ex cp) H) (fN (off + orN nl 0 * es) fun o => .val (.slice k o ln es ex cp) H)) .fail)
    by_cases hb : Bool.and (Nat.beq es esz) (Bool.and (Nat.ble (orN nl 0) (orN nh len)) (Bool.and (Nat.ble (orN nh len) (orN nm cap)) (Bool.and (Nat.ble (orN nm cap) cap) (Bool.or (isS nh) (Bool.not (isS nm)))))) = true
    case neg => rw [eq_false_of_ne_true hb]; exact .fail
    rw [hb, bif_true]
    simp only [fB_eq, fN_eq]
    simp only [Bool.and_eq_true, Nat.beq_eq, Bool.or_eq_true, Bool.not_eq_true'] at hb
    obtain ⟨b1, b2, b3, b4, b5⟩ := hb
    have b2 := Nat.le_of_ble_eq_true b2
    have b3 := Nat.le_of_ble_eq_true b3
    have b4 := Nat.le_of_ble_eq_true b4
    subst b1
    have hsb : (Instr.sliceBounds true len c (lo.map a.eval) (hi.map a.eval) (mx.map a.eval)).run P w = .ok (orN nl 0, orN nh len, orN nm c) w := by
      refine run_sliceBounds (P := P) true hbl hbh hbm ?_ ?_ ?_ ?_ ?_ ?_ w
      · intro h; subst h; rfl
      · intro x h; subst h; rw [orN_some] at b4; exact ⟨rfl, by rw [orN_some]; omega⟩
      · intro h; subst h; refine ⟨rfl, ?_⟩; cases nm with | none => rfl | some _ => simp [isS] at b5
      · intro x h; subst h; refine ⟨rfl, ?_⟩
        cases nm with
        | none => simp only [orN_none, orN_some] at b3 ⊢; omega
        | some m => simp only [orN_some] at b3 ⊢; omega
      · intro h; subst h; rfl
      · intro x h; subst h; exact ⟨rfl, b2⟩
    have hmul : ∀ l m : Nat, l ≤ m → l * es + (m - l) * es = m * es := fun l m h => by rw [← Nat.add_mul]; congr 1; omega
    have hrun : (Instr.sliceAt t (.slice (some ⟨at_.b, at_.o + off, none⟩) len c) (lo.map a.eval) (hi.map a.eval) (mx.map a.eval)).run P w =
        .ok (.slice (if orN nm c = orN nl 0 then some ⟨at_.b, at_.o + off, none⟩ else some ⟨at_.b, at_.o + off + orN nl 0 * es, none⟩) (orN nh len - orN nl 0) (orN nm c - orN nl 0)) w := by
      simp only [Instr.sliceAt, Sem.run_bind, run_underlying hu, Result.andThen_ok, Instr.slice, hsb, run_sizeOf' hn, Sem.run_pure, Option.map_some, add_at]
    cases hex : Bool.or ex (isS nm)
    · -- not known
      simp only [Bool.or_eq_false_iff] at hex
      obtain ⟨rfl, hnm⟩ := hex
      have : nm = none := by cases nm with | none => rfl | some _ => simp [isS] at hnm
      subst this
      simp only [orN_none] at b3 b4
      rw [Bool.false_and, bif_false]
      by_cases hcl : c = orN nl 0
      · rw [if_pos (show orN none c = orN nl 0 from hcl)] at hrun
        refine .pure hw (run_v hrun) ?_
        have h1 : orN none cap - orN nl 0 = 0 := by rw [orN_none]; omega
        have h2 : orN nh len - orN nl 0 = 0 := by omega
        have h3 : orN none c - orN nl 0 = 0 := by rw [orN_none]; omega
        rw [h1, h2, h3]
        exact .sliceE _ _ _ _ at_ _ hk
      · rw [if_neg (show ¬ orN none c = orN nl 0 from hcl), Nat.add_assoc] at hrun
        refine .pure hw (run_v hrun) ?_
        have := hmul (orN nl 0) c (by omega)
        rw [orN_none, orN_none]
        exact .slice _ _ _ _ _ _ at_ _ hk (by simp) (by omega) (by omega) (by omega)
    · -- known
      have hm : orN nm cap = orN nm c := by
        cases nm with
        | none =>
          simp only [isS, Bool.or_false] at hex
          rw [orN_none, orN_none]; exact hxc hex
        | some m => rfl
      have hmc : orN nm c ≤ c := by rw [← hm]; omega
      rw [Bool.true_and, hm]
      rw [hm] at b3
      by_cases h0 : Nat.beq (orN nm c - orN nl 0) 0 = true
      · rw [h0, bif_true]
        rw [Nat.beq_eq] at h0
        rw [if_pos (by omega)] at hrun
        refine .pure hw (run_v hrun) (.slice _ _ _ _ _ _ at_ _ hk (fun _ => rfl) (Nat.le_refl _) (by omega) (by rw [h0]; omega))
      · rw [eq_false_of_ne_true h0, bif_false]
        have h0' : ¬ orN nm c = orN nl 0 := by
          intro h; apply h0; rw [h]; simp
        rw [if_neg h0', Nat.add_assoc] at hrun
        have h1 := hmul (orN nl 0) (orN nm c) (by omega)
        have h2 : orN nm c * es ≤ c * es := Nat.mul_le_mul_right _ hmc
        refine .pure hw (run_v hrun) (.slice _ _ _ _ _ _ at_ _ hk (fun _ => rfl) (Nat.le_refl _) (by omega) (by omega))
  · rename_i k off es ex at_ x' hk
    show Ran0 P φ H w _ (bif' (Bool.and (Nat.beq es esz) (Bool.and (Nat.ble (orN nl 0) (orN nh 0)) (Bool.and (Nat.ble (orN nh 0) (orN nm 0)) (Bool.and (Nat.ble (orN nm 0) 0) (Bool.or (isS nh) (Bool.not (isS nm)))))))
        (fB (Bool.or ex (isS nm)) fun ex => fN (orN nm 0 - orN nl 0) fun cp => fN (orN nh 0 - orN nl 0) fun ln =>
          bif' (Bool.and ex (Nat.beq cp 0)) (.val (.slice k off ln es ex cp) H) (fN (off + orN nl 0 * es) fun o => .val (.slice k o ln es ex cp) H)) .fail)
    by_cases hb : Bool.and (Nat.beq es esz) (Bool.and (Nat.ble (orN nl 0) (orN nh 0)) (Bool.and (Nat.ble (orN nh 0) (orN nm 0)) (Bool.and (Nat.ble (orN nm 0) 0) (Bool.or (isS nh) (Bool.not (isS nm)))))) = true
    case neg => rw [eq_false_of_ne_true hb]; exact .fail
    rw [hb, bif_true]
    simp only [fB_eq, fN_eq]
    simp only [Bool.and_eq_true, Nat.beq_eq, Bool.or_eq_true, Bool.not_eq_true'] at hb
    obtain ⟨b1, b2, b3, b4, b5⟩ := hb
    have b2 := Nat.le_of_ble_eq_true b2
    have b3 := Nat.le_of_ble_eq_true b3
    have b4 := Nat.le_of_ble_eq_true b4
    have hm0 : orN nm 0 = 0 := by omega
    have hh0 : orN nh 0 = 0 := by omega
    have hl0 : orN nl 0 = 0 := by omega
    have hsb : (Instr.sliceBounds true 0 0 (lo.map a.eval) (hi.map a.eval) (mx.map a.eval)).run P w = .ok (0, 0, 0) w := by
      refine run_sliceBounds (P := P) true hbl hbh hbm ?_ ?_ ?_ ?_ ?_ ?_ w
      · intro h; rfl
      · intro x h; subst h; exact ⟨hm0, Nat.le_refl _⟩
      · intro h; subst h; refine ⟨rfl, ?_⟩; cases nm with | none => rfl | some _ => simp [isS] at b5
      · intro x h; subst h; exact ⟨hh0, Nat.le_refl _⟩
      · intro h; rfl
      · intro x h; subst h; exact ⟨hl0, Nat.le_refl _⟩
    have hrun : (Instr.sliceAt t (.slice (some ⟨at_.b, x', none⟩) 0 0) (lo.map a.eval) (hi.map a.eval) (mx.map a.eval)).run P w = .ok (.slice (some ⟨at_.b, x', none⟩) 0 0) w := by
      simp only [Instr.sliceAt, Sem.run_bind, run_underlying hu, Result.andThen_ok, Instr.slice, hsb, run_sizeOf' hn, Sem.run_pure, if_true]
    rw [hm0, hh0, hl0]
    by_cases h : Bool.and (Bool.or ex (isS nm)) (Nat.beq (0 - 0) 0) = true
    · rw [h, bif_true]; exact .pure hw (run_v hrun) (.sliceE _ _ _ _ at_ _ hk)
    · rw [eq_false_of_ne_true h, bif_false]; exact .pure hw (run_v hrun) (.sliceE _ _ _ _ at_ _ hk)

/-- an array in memory, cut -/
noncomputable def slaR (n esz : Nat) (x : X) (lo hi : Option X) (T : Tr AV) (H : Heap) : R1 := withX T x .fail fun v => bdC T lo .fail fun lo => bdC T hi .fail fun hi => asPtrC v .fail fun k off =>
  blkC H k .fail fun _ _ rows => bif' (Bool.and (Nat.ble (off + n * esz) (flatL rows).length) (Bool.and (Nat.ble (orN lo 0) (orN hi n)) (Nat.ble (orN hi n) n)))
    (fN (n - orN lo 0) fun cp => fN (orN hi n - orN lo 0) fun ln => bif' (Nat.beq cp 0) (.val (.slice k off ln esz true cp) H) (fN (off + orN lo 0 * esz) fun o => .val (.slice k o ln esz true cp) H)) .fail
theorem sla_sound (hw : WRel P φ H w) {t e : TypeId} {n : Nat} (hu : P.underlying t = some (.array n e)) {esz : Nat} (hn : szT P e = some esz) {o : Operand} {lo hi : Option Operand} {x : X} {xl xh : Option X} (hx : cX o = some x) (hl : cXo lo = some xl) (hh : cXo hi = some xh)
    (ht : TRelAt P φ T a.tmps (· ∈ tmpsOf (o :: (lo.toList ++ hi.toList)))) :
    Ran0 P φ H w (do return Next.value (← Instr.sliceAt t (a.eval o) (lo.map a.eval) (hi.map a.eval) (none : Option Value))) (slaR n esz x xl xh T H) := by
  unfold slaR
  rcases withX_eq T x R1.fail _ with ⟨_, e⟩ | ⟨v, hv, e⟩ <;> rw [e] <;> clear e
  · exact .fail
  have hv' := evX_sound (tm3a ht) hx hv
  rcases bdC_sound (P := P) (φ := φ) (a := a) hl (tm3b ht (by intro y h; simp only [List.mem_append]; simp [h])) R1.fail _ with e | ⟨nl, e, hbl⟩ <;> rw [e] <;> clear e
  · exact .fail
  rcases bdC_sound (P := P) (φ := φ) (a := a) hh (tm3b ht (by intro y h; simp only [List.mem_append]; simp [h])) R1.fail _ with e | ⟨nh, e, hbh⟩ <;> rw [e] <;> clear e
  · exact .fail
  generalize a.eval o = y at *
  cases hv' <;> try exact .fail
  rename_i k off at_ hk
  show Ran0 P φ H w _ (blkC H k .fail fun _ _ rows => bif' (Bool.and (Nat.ble (off + n * esz) (flatL rows).length) (Bool.and (Nat.ble (orN nl 0) (orN nh n)) (Nat.ble (orN nh n) n)))
    (fN (n - orN nl 0) fun cp => fN (orN nh n - orN nl 0) fun ln => bif' (Nat.beq cp 0) (.val (.slice k off ln esz true cp) H) (fN (off + orN nl 0 * esz) fun o => .val (.slice k o ln esz true cp) H)) .fail)
  rcases blkC_eq H k R1.fail (fun _ _ rows => bif' (Bool.and (Nat.ble (off + n * esz) (flatL rows).length) (Bool.and (Nat.ble (orN nl 0) (orN nh n)) (Nat.ble (orN nh n) n)))
    (fN (n - orN nl 0) fun cp => fN (orN nh n - orN nl 0) fun ln => bif' (Nat.beq cp 0) (.val (.slice k off ln esz true cp) H) (fN (off + orN nl 0 * esz) fun o => .val (.slice k o ln esz true cp) H)) .fail) with e | ⟨wr, es, rows, hg, e⟩ <;> rw [e] <;> clear e
  · exact .fail
  by_cases hb : Bool.and (Nat.ble (off + n * esz) (flatL rows).length) (Bool.and (Nat.ble (orN nl 0) (orN nh n)) (Nat.ble (orN nh n) n)) = true
  case neg => rw [eq_false_of_ne_true hb]; exact .fail
  rw [hb, bif_true]
  simp only [fN_eq]
  simp only [Bool.and_eq_true] at hb
  obtain ⟨b1, b2, b3⟩ := hb
  have b1 := Nat.le_of_ble_eq_true b1
  have b2 := Nat.le_of_ble_eq_true b2
  have b3 := Nat.le_of_ble_eq_true b3
  rw [flatL_eq] at b1
  obtain ⟨_, _, pre, vs, post, e', lo', hi', g1, g2, g3, _, g5, _⟩ := hw.blk k _ at_ hg hk
  have hlen := g5.length
  have hfit : at_.o + off + n * esz ≤ at_.n := by simp at g3; omega
  have hsb : (Instr.sliceBounds false n n (lo.map a.eval) (hi.map a.eval) none).run P w = .ok (orN nl 0, orN nh n, n) w := by
    refine run_sliceBounds (P := P) false hbl hbh Bd.no ?_ ?_ ?_ ?_ ?_ ?_ w
    · intro _; rfl
    · intro x h; cases h
    · intro h; subst h; exact ⟨rfl, rfl⟩
    · intro x h; subst h; exact ⟨rfl, b3⟩
    · intro h; subst h; rfl
    · intro x h; subst h; exact ⟨rfl, b2⟩
  have hrun : (Instr.sliceAt t (.pointer (some ⟨at_.b, at_.o + off, none⟩)) (lo.map a.eval) (hi.map a.eval) none).run P w =
      .ok (.slice (some (if n = orN nl 0 then ⟨at_.b, at_.o + off, none⟩ else ⟨at_.b, at_.o + off + orN nl 0 * esz, none⟩)) (orN nh n - orN nl 0) (n - orN nl 0)) w := by
    simp only [Instr.sliceAt, Sem.run_bind, run_underlying hu, Result.andThen_ok, Instr.sureAddr, hsb, run_sizeOf' hn, Sem.run_pure, add_at]
  by_cases h0 : Nat.beq (n - orN nl 0) 0 = true
  · rw [h0, bif_true]
    rw [Nat.beq_eq] at h0
    rw [if_pos (by omega)] at hrun
    exact .pure hw (run_v hrun) (.slice _ _ _ _ _ _ at_ _ hk (fun _ => rfl) (Nat.le_refl _) (by omega) (by rw [h0]; omega))
  · rw [eq_false_of_ne_true h0, bif_false]
    have h0' : ¬ n = orN nl 0 := by intro h; apply h0; rw [← h]; simp
    rw [if_neg h0', Nat.add_assoc] at hrun
    have h1 : orN nl 0 * esz + (n - orN nl 0) * esz = n * esz := by rw [← Nat.add_mul]; congr 1; omega
    exact .pure hw (run_v hrun) (.slice _ _ _ _ _ _ at_ _ hk (fun _ => rfl) (Nat.le_refl _) (by omega) (by omega))
end Go.Ev
