/- slices.Insert, wherever there is room and where there isn't. -/
import Derived.Test.YtiadcabmonbgiaaEvAB
set_option linter.all false
namespace Go.Ev
variable {P : Program} {φ ψ : Phi} {H : Heap} {w u : World}

theorem vrels_anys : ∀ (l : List Value), (∀ v ∈ l, v.oneCell' = true) → VRels P φ (List.replicate l.length .any) l
  | [], _ => .nil
  | v :: l, h => .cons _ _ _ _ (.any v (h v (by simp))) (vrels_anys l fun x hx => h x (by simp [hx]))

/-- room behind a row that may be written is looked at as one piece more -/
theorem view_more (hw : WRel P φ H w) {k : K} {esz : Nat} {rows : List (List AV)} {a : At} (hg : H.get k = some (.row true esz rows)) (hk : φ k = some a) (hr : a.o + (rows.length + 1) * esz ≤ a.n) :
    WRel P φ (H.set k (.row true esz (rows ++ [List.replicate esz .any]))) w := by
  obtain ⟨hp, hl, pre, vs, post, e, lo, hi, h1, h2, h3, h4, h5, h6, h7⟩ := hw.blk k _ a hg hk
  have hlen := flatten_length_of esz rows hl
  have hvl := h5.length
  have hpost : esz ≤ post.length := by
    simp only [List.length_append] at h3
    rw [Nat.add_mul] at hr
    omega
  have hnew : BlkRel P φ w a (.row true esz (rows ++ [List.replicate esz .any])) := by
    refine ⟨hp, fun r hr => ?_, pre, vs ++ post.take esz, post.drop esz, e, lo, hi, ?_, h2, ?_, h4, ?_, ?_, fun _ v hv => h7 rfl v (List.mem_of_mem_drop hv)⟩
    · rcases List.mem_append.1 hr with h | h
      · exact hl r h
      · simp only [List.mem_singleton] at h; rw [h, List.length_replicate]
    · rw [h1, show pre ++ (vs ++ post.take esz) ++ post.drop esz = pre ++ vs ++ post by simp only [List.append_assoc, List.take_append_drop]]
    · rw [← h3, show pre ++ (vs ++ post.take esz) ++ post.drop esz = pre ++ vs ++ post by simp only [List.append_assoc, List.take_append_drop]]
    · rw [List.flatten_append]
      refine h5.append ?_
      have := vrels_anys (P := P) (φ := φ) (post.take esz) fun v hv => h7 rfl v (List.mem_of_mem_take hv)
      rw [List.length_take, Nat.min_eq_left hpost] at this
      simpa using this
    · intro v hv
      rcases List.mem_append.1 hv with h | h
      · exact h6 v h
      · exact h7 rfl v (List.mem_of_mem_take h)
  refine ⟨hw.dom, ?_, ?_, ?_, hw.size⟩
  · intro j b hj
    rw [Heap.get_set] at hj
    split at hj
    · rename_i e; subst e; exact hw.top k _ hg
    · exact hw.top j b hj
  · intro j b x hj hx
    rw [Heap.get_set] at hj
    split at hj
    · rename_i e; subst e; cases hj; rw [hk] at hx; cases hx; exact hnew
    · exact hw.blk j b x hj hx
  · intro i j c d x y hij hi hj hx hy hc hd hxy
    have key : ∀ j c, (H.set k (.row true esz (rows ++ [List.replicate esz .any]))).get j = some c → c.live → ∃ c', H.get j = some c' ∧ c'.live ∧ (c.mayWrite → c'.mayWrite) := by
      intro j c hj hc
      rw [Heap.get_set] at hj
      split at hj
      · rename_i e; subst e; cases hj; exact ⟨_, hg, trivial, fun _ => rfl⟩
      · exact ⟨c, hj, hc, fun h => h⟩
    obtain ⟨c', g1, l1, m1⟩ := key i c hi hc
    obtain ⟨d', g2, l2, m2⟩ := key j d hj hd
    exact fun h => hw.inj i j c' d' x y hij g1 g2 hx hy l1 l2 hxy (m1 h)

theorem ext_view {H' : Heap} {G : Heap} (hnx : H'.nx = H.nx) (hget : ∀ j, φ j = none → j.toNat < H.nx.toNat → H'.get j = H.get j) (hown : ∀ b, Owned φ H' b → Owned φ H b) (he : Ext φ H' w ψ G u) : Ext φ H w ψ G u :=
  ⟨fun k hk => he.phi k (by rw [hnx]; exact hk), by rw [← hnx]; exact he.nx, he.size, fun b hb ho => he.keeps b hb fun h => ho (hown b h), fun k hk hn => by rw [he.hidden k (by rw [hnx]; exact hk) hn, hget k hn hk], fun b hb h => hown b (he.own b hb h), he.os, he.tape, he.output⟩

theorem insert_mid {f : FuncId} {esz bytes : Nat} {zero : List AV} (hf : InsFn P f esz bytes zero) {kv k : K} {x : List AV} {rows : List (List AV)} {i : Nat} (hkk : kv ≠ k) (hv : H.get kv = some (.row true esz [x])) (hg : H.get k = some (.row true esz rows)) (hi : i < rows.length) (hn : rows.length < 4294967296)
    (hb : (2 * (rows.length + 1) + 192) * bytes ≤ 281474976710656) :
    FnOk P f [.slice k 0 rows.length esz false rows.length, .int .i64 i, .slice kv 0 1 esz true 1] H fun v G => v = .slice H.nx 0 (rows.length + 1) esz false (rows.length + 1) ∧ G = (H.set k .dead).ext [.row true esz (rows.take i ++ x :: rows.drop i)] := by
  intro φ w args' ha hw
  have hpos := hf.pos
  rcases hal : args'.toList with _ | ⟨s', rest⟩
  · rw [hal] at ha; cases ha
  rw [hal] at ha
  cases ha with
  | cons _ _ _ _ hs hrest =>
  have hle : ∀ s, VRel P φ s s' → VRels P φ (s :: [.int .i64 i, .slice kv 0 1 esz true 1]) args'.toList := fun s h => by rw [hal]; exact .cons _ _ _ _ h hrest
  generalize hnn : rows.length = n at hs
  cases hs with
  | sliceE => omega
  | slice _ _ _ _ _ _ a c hk hx hc hl hcap =>
  subst hnn
  have hkold := hw.top k _ hg
  by_cases hcn : c = rows.length
  · subst hcn
    have h1 := hle _ (VRel.slice (P := P) (φ := φ) k 0 rows.length esz true rows.length a rows.length hk (fun _ => rfl) (Nat.le_refl _) (Nat.le_refl _) hcap)
    refine (insert_A hf hv hg hi hn hb φ w args' h1 hw).mono ?_
    rintro e u ⟨v, G, ⟨rfl, rfl⟩, ψ, v', he, hvr, hwu, hext⟩
    have hdead := dead_sound hwu k (by rw [Heap.nx_ext, Heap.toNat_key]; omega) (by rw [hext.phi k hkold, hk]; simp)
    rw [Heap.set_ext_old _ _ _ _ hkold] at hdead
    exact ⟨_, _, ⟨by rw [Heap.key_zero], rfl⟩, ψ, v', he, hvr, hdead.1, hext.trans hdead.2⟩
  · have hroom : a.o + (rows.length + 1) * esz ≤ a.n := by
      have : (rows.length + 1) * esz ≤ c * esz := Nat.mul_le_mul_right _ (by omega)
      omega
    have hw' := view_more hw hg hk hroom
    have h1 := hle _ (VRel.slice (P := P) (φ := φ) k 0 rows.length esz false (rows.length + 1) a c hk (fun h => by cases h) (by omega) (by omega) hcap)
    have hg' : (H.set k (.row true esz (rows ++ [List.replicate esz .any]))).get k = some (.row true esz (rows ++ [List.replicate esz .any])) := by rw [Heap.get_set, if_pos rfl]
    have hv' : (H.set k (.row true esz (rows ++ [List.replicate esz .any]))).get kv = some (.row true esz [x]) := by rw [Heap.get_set, if_neg (Ne.symm hkk)]; exact hv
    refine (insert_B hf hkk hv' hg' hi hn φ w args' h1 hw').mono ?_
    rintro e u ⟨v, G, ⟨rfl, rfl⟩, ψ, v', he, hvr, hwu, hext⟩
    rw [Heap.set_set] at hwu hext
    have hψ : ψ k = some a := by rw [hext.phi k (by rw [Heap.nx_set]; exact hkold), hk]
    have hgk : (H.set k (.row true esz (rows.take i ++ x :: rows.drop i))).get k = some (.row true esz (rows.take i ++ x :: rows.drop i)) := by rw [Heap.get_set, if_pos rfl]
    have hsh := shift_sound (P := P) hwu (b' := .row true esz (rows.take i ++ x :: rows.drop i)) (x' := a) hgk hψ rfl rfl rfl (fun _ _ => rfl) rfl rfl rfl (BlkRel.mono (Phi.put_le ψ _ a hwu.nx_none) (hwu.blk k _ a hgk hψ))
    rw [Heap.set_set, Heap.nx_set] at hsh
    have hext2 : Ext φ H w (ψ.put H.nx a) ((H.set k .dead).add (.row true esz (rows.take i ++ x :: rows.drop i))) u := by
      refine ext_view (H' := H.set k (.row true esz (rows ++ [List.replicate esz .any]))) rfl ?_ ?_ (hext.trans hsh.2)
      · intro j hj _
        rw [Heap.get_set, if_neg]
        intro e; subst e; rw [hk] at hj; cases hj
      · rintro b ⟨j, c', y, hj, hm, hy, e⟩
        rw [Heap.get_set] at hj
        split at hj
        · rename_i e1; subst e1; exact ⟨_, _, y, hg, rfl, hy, e⟩
        · exact ⟨j, c', y, hj, hm, hy, e⟩
    refine ⟨_, _, ⟨rfl, by rw [Heap.ext_one]⟩, ψ.put H.nx a, v', he, ?_, hsh.1, hext2⟩
    cases hvr with
    | slice _ _ _ _ _ _ a2 c2 hk2 hx2 hc2 hl2 hn2 =>
      rw [hψ] at hk2; cases hk2
      exact .slice H.nx 0 _ esz false _ a c2 (Phi.put_same _ _ _) (fun h => by cases h) hc2 hl2 hn2

/-- whatever the place -/
theorem insert_own {f : FuncId} {esz bytes : Nat} {zero : List AV} (hf : InsFn P f esz bytes zero) {kv k : K} {x : List AV} {rows : List (List AV)} {i : Nat} (hkk : kv ≠ k) (hv : H.get kv = some (.row true esz [x])) (hg : H.get k = some (.row true esz rows)) (h0 : 0 < rows.length) (hi : i ≤ rows.length) (hn : rows.length < 4294967296)
    (hb : (2 * (rows.length + 1) + 192) * bytes ≤ 281474976710656) :
    FnOk P f [.slice k 0 rows.length esz false rows.length, .int .i64 i, .slice kv 0 1 esz true 1] H fun v G => v = .slice H.nx 0 (rows.length + 1) esz false (rows.length + 1) ∧ G = (H.set k .dead).ext [.row true esz (rows.take i ++ x :: rows.drop i)] := by
  rcases Nat.lt_or_ge i rows.length with h | h
  · exact insert_mid hf hkk hv hg h hn hb
  · have : i = rows.length := by omega
    subst this
    refine (insert_end hf hv hg h0 hn hb).mono ?_
    rintro v G ⟨rfl, rfl⟩
    exact ⟨rfl, by simp⟩
end Go.Ev
