/- index: what is built of cells, the plain law. -/
import Derived.Test.YtiadcabmonbgiaaX5Z
set_option linter.all false
set_option maxRecDepth 100000
namespace Go.Proofs
open Go Go.Ev
abbrev Ord (l : List Cell) : Prop := List.Pairwise (fun x y : Cell => ltS x.key y.key) l
theorem isIdx_all {l : List Cell} (h : isIdx l) : ∀ c ∈ l, cellIs c := by
  intro c hc
  obtain ⟨i, hi, rfl⟩ := List.mem_iff_getElem.1 hc
  obtain ⟨d, h1, h2, _⟩ := h i hi
  rw [List.getElem?_eq_getElem hi] at h1; cases h1
  exact h2
theorem isIdx_of {l : List Cell} (h : ∀ c ∈ l, cellIs c) (ho : Ord l) : isIdx l := by
  intro j hj
  refine ⟨l[j], List.getElem?_eq_getElem hj, h _ (List.getElem_mem hj), fun h0 => ⟨l[j - 1], List.getElem?_eq_getElem (by omega), ?_⟩⟩
  exact (List.pairwise_iff_getElem.1 ho) (j - 1) j (by omega) hj (by omega)
theorem withL_mem {c x : Cell} : ∀ {l : List Cell}, x ∈ withL l c → x = c ∨ x ∈ l
  | [], h => by simpa [withL] using h
  | d :: l, h => by
    unfold withL at h
    split at h
    · rcases List.mem_cons.1 h with h | h
      · exact .inr (by simp [h])
      · rcases withL_mem h with h | h
        · exact .inl h
        · exact .inr (by simp [h])
    · split at h
      · rcases List.mem_cons.1 h with h | h
        · exact .inl h
        · exact .inr (by simp [h])
      · rcases List.mem_cons.1 h with h | h
        · exact .inl h
        · exact .inr h
theorem withL_ord {c : Cell} : ∀ {l : List Cell}, Ord l → Ord (withL l c)
  | [], _ => by simp [withL, Ord]
  | d :: l, h => by
    have h' := List.pairwise_cons.1 h
    unfold withL
    split
    · rename_i h1
      refine List.pairwise_cons.2 ⟨fun x hx => ?_, withL_ord h'.2⟩
      rcases withL_mem hx with rfl | hx
      · exact h1
      · exact h'.1 x hx
    · rename_i h1
      split
      · rename_i h2
        exact List.pairwise_cons.2 ⟨fun x hx => by rw [← h2]; exact h'.1 x hx, h'.2⟩
      · rename_i h2
        have h3 : ltS c.key d.key := by rcases ltS_tri d.key c.key with g | g | g; exact absurd g h1; exact absurd g h2; exact g
        refine List.pairwise_cons.2 ⟨fun x hx => ?_, h⟩
        rcases List.mem_cons.1 hx with rfl | hx
        · exact h3
        · exact ltS_trans h3 (h'.1 x hx)
/-- what is built, cell by cell -/
noncomputable def builtL (l : List Cell) : List Cell := l.foldl withC []
theorem builtL_next {l : List Cell} {i : Nat} {c : Cell} (h : l[i]? = some c) : builtL (l.take (i + 1)) = withC (builtL (l.take i)) c := by
  rw [take_next h, builtL, List.foldl_append]; rfl
theorem withC_good {l : List Cell} {c : Cell} (h : (∀ x ∈ l, cellIs x) ∧ Ord l) : (∀ x ∈ withC l c, cellIs x) ∧ Ord (withC l c) := by
  unfold withC
  split
  · rename_i hc
    refine ⟨fun x hx => ?_, withL_ord h.2⟩
    rcases withL_mem hx with rfl | hx
    · exact hc
    · exact h.1 x hx
  · exact h
theorem fold_good : ∀ (m : List Cell) {l : List Cell}, (∀ x ∈ l, cellIs x) ∧ Ord l → (∀ x ∈ m.foldl withC l, cellIs x) ∧ Ord (m.foldl withC l)
  | [], _, h => h
  | c :: m, _, h => fold_good m (withC_good h)
theorem builtL_good (l : List Cell) : (∀ x ∈ builtL l, cellIs x) ∧ Ord (builtL l) := fold_good l ⟨by simp, List.Pairwise.nil⟩
theorem builtL_idx (l : List Cell) : isIdx (builtL l) := isIdx_of (builtL_good l).1 (builtL_good l).2
theorem getL_withL_self {c : Cell} : ∀ {l : List Cell}, getL (withL l c) c.key = (c, true)
  | [] => by simp [withL, getL]
  | d :: l => by
    unfold withL
    split
    · rename_i h1
      have hne : d.key ≠ c.key := fun e => ltS_irrefl _ (e ▸ h1)
      rw [getL, if_neg hne]
      exact getL_withL_self
    · split <;> simp [getL]
theorem getL_withL_other {c : Cell} {k : List Nat} (hk : k ≠ c.key) : ∀ {l : List Cell}, getL (withL l c) k = getL l k
  | [] => by simp [withL, getL, Ne.symm hk]
  | d :: l => by
    unfold withL
    split
    · rw [getL, getL, getL_withL_other hk]
    · split
      · rename_i h2
        rw [getL, getL, if_neg (Ne.symm hk), if_neg (fun e => hk (by rw [← e, h2]))]
      · rw [getL, if_neg (Ne.symm hk)]
/-- nothing later says anything else of this key -/
def lastAt (l : List Cell) (i : Nat) (k : List Nat) : Prop := ∀ j d, i < j → l[j]? = some d → ¬ (d.key = k ∧ cellIs d)
theorem fold_get_other {k : List Nat} : ∀ (m : List Cell) {l : List Cell}, (∀ d ∈ m, ¬ (d.key = k ∧ cellIs d)) → getL (m.foldl withC l) k = getL l k
  | [], _, _ => rfl
  | c :: m, l, h => by
    rw [List.foldl_cons, fold_get_other m fun d hd => h d (by simp [hd])]
    unfold withC
    split
    · rename_i hc
      exact getL_withL_other fun e => h c (by simp) ⟨e.symm, hc⟩
    · rfl
theorem built_get {l : List Cell} {i : Nat} {c : Cell} (h : l[i]? = some c) (hc : cellIs c) (hl : lastAt l i c.key) : getL (builtL l) c.key = (c, true) := by
  have e : l = l.take i ++ c :: l.drop (i + 1) := by
    have h1 := (List.getElem?_eq_some_iff.1 h)
    obtain ⟨hi, rfl⟩ := h1
    rw [List.getElem_cons_drop, List.take_append_drop]
  have e2 : builtL l = (l.drop (i + 1)).foldl withC (withC (builtL (l.take i)) c) := by
    conv => lhs; rw [e]
    rw [builtL, List.foldl_append]; rfl
  rw [e2, fold_get_other _ ?_]
  · rw [withC, if_pos hc, getL_withL_self]
  · intro d hd
    obtain ⟨j, hj, rfl⟩ := List.mem_iff_getElem.1 hd
    rw [List.length_drop] at hj
    refine hl (i + 1 + j) _ (by omega) ?_
    rw [List.getElem_drop, List.getElem?_eq_getElem (by omega)]
end Go.Proofs
