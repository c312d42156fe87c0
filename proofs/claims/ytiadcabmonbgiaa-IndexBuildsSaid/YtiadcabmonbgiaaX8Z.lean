/- index: how many cells are built, the plain law. -/
import Derived.Test.YtiadcabmonbgiaaX7Z
set_option linter.all false
set_option maxRecDepth 100000
namespace Go.Proofs
open Go Go.Ev
theorem len_le_of_subset {α : Type} [DecidableEq α] : ∀ {a b : List α}, a.Nodup → (∀ x ∈ a, x ∈ b) → a.length ≤ b.length
  | [], _, _, _ => by simp
  | x :: a, b, hn, h => by
    have hn' := List.nodup_cons.1 hn
    have hx := h x (by simp)
    have ih := len_le_of_subset (b := b.erase x) hn'.2 fun y hy => (List.mem_erase_of_ne (a := y) (b := x) (fun (e : y = x) => hn'.1 (by rw [← e]; exact hy))).2 (h y (by simp [hy]))
    rw [List.length_erase_of_mem hx] at ih
    have : 0 < b.length := List.length_pos_of_mem hx
    simp only [List.length_cons]; omega
def goodAt (l : List Cell) (j : Nat) : Prop := ∃ c, l[j]? = some c ∧ cellIs c ∧ lastAt l j c.key
noncomputable instance (l : List Cell) (j : Nat) : Decidable (goodAt l j) := Classical.propDecidable _
noncomputable def cnt (l : List Cell) (i : Nat) : Nat := ((List.range i).filter fun j => decide (goodAt l j)).length
theorem cnt_yes {l : List Cell} {i : Nat} (h : goodAt l i) : cnt l (i + 1) = cnt l i + 1 := by
  unfold cnt
  rw [List.range_succ, List.filter_append, List.filter_cons_of_pos (by simp [h]), List.filter_nil, List.length_append]; rfl
theorem cnt_no {l : List Cell} {i : Nat} (h : ¬ goodAt l i) : cnt l (i + 1) = cnt l i := by
  unfold cnt
  rw [List.range_succ, List.filter_append, List.filter_cons_of_neg (by simp [h]), List.filter_nil, List.append_nil]
theorem cnt_le (l : List Cell) (i : Nat) : cnt l i ≤ i := by
  have := List.length_filter_le (fun j => decide (goodAt l j)) (List.range i)
  rwa [List.length_range] at this
theorem last_ex {l : List Cell} {k : List Nat} : ∀ (n j : Nat) (d : Cell), l.length - j ≤ n → l[j]? = some d → d.key = k → cellIs d → ∃ j c, l[j]? = some c ∧ c.key = k ∧ cellIs c ∧ lastAt l j k
  | 0, j, d, hn, hj, _, _ => by have := (List.getElem?_eq_some_iff.1 hj).1; omega
  | n + 1, j, d, hn, hj, hk, hc => by
    by_cases h : lastAt l j k
    · exact ⟨j, d, hj, hk, hc, h⟩
    · unfold lastAt at h
      simp only [Classical.not_forall, Classical.not_not] at h
      obtain ⟨j', d', h1, h2, h3, h4⟩ := h
      exact last_ex n j' d' (by have := (List.getElem?_eq_some_iff.1 hj).1; omega) h2 h3 h4
theorem getL_mem {k : List Nat} {c : Cell} : ∀ {l : List Cell}, getL l k = (c, true) → c ∈ l ∧ c.key = k
  | [], h => by simp [getL] at h
  | d :: l, h => by
    unfold getL at h
    split at h
    · rename_i e
      cases h
      exact ⟨by simp, e⟩
    · have := getL_mem h
      exact ⟨by simp [this.1], this.2⟩
theorem fold_mem {x : Cell} : ∀ (m : List Cell) {l : List Cell}, x ∈ m.foldl withC l → x ∈ l ∨ x ∈ m
  | [], _, h => .inl h
  | c :: m, l, h => by
    rcases fold_mem m h with h | h
    · unfold withC at h
      split at h
      · rcases withL_mem h with rfl | h
        · exact .inr (by simp)
        · exact .inl h
      · exact .inl h
    · exact .inr (by simp [h])
theorem ord_nodup {l : List Cell} (h : Ord l) : (l.map Cell.key).Nodup := by
  unfold List.Nodup
  rw [List.pairwise_map]
  exact List.Pairwise.imp (S := fun a b : Cell => a.key ≠ b.key) (fun {a b} (h : ltS a.key b.key) (e : a.key = b.key) => ltS_irrefl b.key (by rw [e] at h; exact h)) h
theorem cnt_built (l : List Cell) : cnt l l.length = (builtL l).length := by
  have hkey : ∀ j, goodAt l j → ∃ c, l[j]? = some c ∧ cellIs c ∧ lastAt l j c.key := fun j h => h
  let kf : Nat → List Nat := fun j => match l[j]? with | some c => c.key | none => []
  have hA : (((List.range l.length).filter fun j => decide (goodAt l j)).map kf).Nodup := by
    unfold List.Nodup
    rw [List.pairwise_map]
    have h0 : List.Pairwise (· < ·) ((List.range l.length).filter fun j => decide (goodAt l j)) := (List.pairwise_lt_range).filter _
    refine List.Pairwise.imp_of_mem ?_ h0
    intro i j hi hj hij e
    simp only [List.mem_filter, decide_eq_true_eq] at hi hj
    obtain ⟨c, h1, h2, h3⟩ := hi.2
    obtain ⟨d, g1, g2, g3⟩ := hj.2
    have e1 : kf i = c.key := by show (match l[i]? with | some c => c.key | none => []) = _; rw [h1]
    have e2 : kf j = d.key := by show (match l[j]? with | some c => c.key | none => []) = _; rw [g1]
    exact h3 j d hij g1 ⟨by rw [← e2, ← e, e1], g2⟩
  have hB := ord_nodup (builtL_good l).2
  have h1 : (((List.range l.length).filter fun j => decide (goodAt l j)).map kf).length ≤ ((builtL l).map Cell.key).length := by
    refine len_le_of_subset hA fun k hk => ?_
    obtain ⟨j, hj, rfl⟩ := List.mem_map.1 hk
    simp only [List.mem_filter, decide_eq_true_eq] at hj
    obtain ⟨c, g1, g2, g3⟩ := hj.2
    have e1 : kf j = c.key := by show (match l[j]? with | some c => c.key | none => []) = _; rw [g1]
    rw [e1]
    exact List.mem_map.2 ⟨c, (getL_mem (built_get g1 g2 g3)).1, rfl⟩
  have h2 : ((builtL l).map Cell.key).length ≤ (((List.range l.length).filter fun j => decide (goodAt l j)).map kf).length := by
    refine len_le_of_subset hB fun k hk => ?_
    obtain ⟨x, hx, rfl⟩ := List.mem_map.1 hk
    have hxc := (builtL_good l).1 x hx
    rcases fold_mem l hx with h | h
    · cases h
    · obtain ⟨i, hi, rfl⟩ := List.mem_iff_getElem.1 h
      obtain ⟨j, c, g1, g2, g3, g4⟩ := last_ex l.length i _ (by omega) (List.getElem?_eq_getElem hi) rfl hxc
      refine List.mem_map.2 ⟨j, ?_, ?_⟩
      · simp only [List.mem_filter, List.mem_range, decide_eq_true_eq]
        exact ⟨(List.getElem?_eq_some_iff.1 g1).1, c, g1, g3, by rw [g2]; exact g4⟩
      · show (match l[j]? with | some c => c.key | none => []) = _
        rw [g1]; exact g2
  rw [List.length_map, List.length_map] at h1 h2
  unfold cnt
  omega
end Go.Proofs
