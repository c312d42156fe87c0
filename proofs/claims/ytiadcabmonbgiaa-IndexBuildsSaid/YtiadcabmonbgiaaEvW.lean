/- Memory with new blocks behind it; names of blocks changed; what isn't needed any more is let go. -/
import Derived.Test.YtiadcabmonbgiaaEvV
namespace Go.Ev
variable {P : Program} {φ ψ : Phi} {H : Heap} {w u : World} {T : Tr AV} {a : Act}

/-- an equation, as a rule that isn't looked through -/
theorem nrf {α : Sort _} {a b : α} (h : a = b) : a = b := h

/-! ### Tries: two puts -/
namespace Tr
variable {α : Type}
theorem set_lf_z (v : Option α) : set (lf : Tr α) .z v = nd lf v lf := nrf rfl
theorem set_nd_z (v : Option α) (l r x) : set (nd l x r) .z v = nd l v r := nrf rfl
theorem set_lf_o (v : Option α) (k) : set (lf : Tr α) (.o k) v = nd (set lf k v) none lf := by
  show setC (lf : Tr α) k v (fun l => nd l none lf) = _; rw [setC_eq]
theorem set_lf_i (v : Option α) (k) : set (lf : Tr α) (.i k) v = nd lf none (set lf k v) := by
  show setC (lf : Tr α) k v (fun l => nd lf none l) = _; rw [setC_eq]
theorem set_nd_o (v : Option α) (k l x r) : set (nd l x r) (.o k) v = nd (set l k v) x r := by
  show setC l k v (fun l => nd l x r) = _; rw [setC_eq]
theorem set_nd_i (v : Option α) (k l x r) : set (nd l x r) (.i k) v = nd l x (set r k v) := by
  show setC r k v (fun r => nd l x r) = _; rw [setC_eq]
theorem get_z (l r : Tr α) (v) : get (nd l v r) .z = v := nrf rfl
theorem get_o (l r : Tr α) (v) (k) : get (nd l v r) (.o k) = get l k := nrf rfl
theorem get_i (l r : Tr α) (v) (k) : get (nd l v r) (.i k) = get r k := nrf rfl
theorem set_set (v x : Option α) : ∀ (k : K) (t : Tr α), set (set t k v) k x = set t k x
  | .z, lf => rfl
  | .z, nd _ _ _ => rfl
  | .o k, lf => by simp only [set_lf_o, set_nd_o, set_set v x k]
  | .o k, nd _ _ _ => by simp only [set_nd_o, set_set v x k]
  | .i k, lf => by simp only [set_lf_i, set_nd_i, set_set v x k]
  | .i k, nd _ _ _ => by simp only [set_nd_i, set_set v x k]
theorem set_comm (v x : Option α) : ∀ (j k : K) (t : Tr α), j ≠ k → set (set t j v) k x = set (set t k x) j v
  | .z, .z, _, h => absurd rfl h
  | .z, .o k, lf, _ => by simp only [set_lf_o, set_lf_z, set_nd_o, set_nd_z]
  | .z, .i k, lf, _ => by simp only [set_lf_i, set_lf_z, set_nd_i, set_nd_z]
  | .z, .o k, nd _ _ _, _ => by simp only [set_nd_o, set_nd_z]
  | .z, .i k, nd _ _ _, _ => by simp only [set_nd_i, set_nd_z]
  | .o j, .z, lf, _ => by simp only [set_lf_o, set_lf_z, set_nd_o, set_nd_z]
  | .i j, .z, lf, _ => by simp only [set_lf_i, set_lf_z, set_nd_i, set_nd_z]
  | .o j, .z, nd _ _ _, _ => by simp only [set_nd_o, set_nd_z]
  | .i j, .z, nd _ _ _, _ => by simp only [set_nd_i, set_nd_z]
  | .o j, .i k, lf, _ => by simp only [set_lf_o, set_lf_i, set_nd_o, set_nd_i]
  | .i j, .o k, lf, _ => by simp only [set_lf_o, set_lf_i, set_nd_o, set_nd_i]
  | .o j, .i k, nd _ _ _, _ => by simp only [set_nd_o, set_nd_i]
  | .i j, .o k, nd _ _ _, _ => by simp only [set_nd_o, set_nd_i]
  | .o j, .o k, lf, h => by simp only [set_lf_o, set_nd_o, set_comm v x j k lf (fun e => h (e ▸ rfl))]
  | .i j, .i k, lf, h => by simp only [set_lf_i, set_nd_i, set_comm v x j k lf (fun e => h (e ▸ rfl))]
  | .o j, .o k, nd l _ _, h => by simp only [set_nd_o, set_comm v x j k l (fun e => h (e ▸ rfl))]
  | .i j, .i k, nd _ _ r, h => by simp only [set_nd_i, set_comm v x j k r (fun e => h (e ▸ rfl))]
end Tr

/-! ### Memory with new blocks behind it -/
namespace Heap
def ok (H : Heap) : Prop := ∀ k b, H.get k = some b → k.toNat < H.nx.toNat
noncomputable def keyS : K → Nat → K
  | k, 0 => k
  | k, i + 1 => keyS k.succ i
noncomputable def key (H : Heap) (i : Nat) : K := keyS H.nx i
noncomputable def ext (H : Heap) : List Blk → Heap
  | [] => H
  | b :: l => (H.add b).ext l
theorem toNat_keyS : ∀ (i : Nat) (k : K), (keyS k i).toNat = k.toNat + i
  | 0, k => rfl
  | i + 1, k => by show (keyS k.succ i).toNat = _; rw [toNat_keyS i, K.toNat_succ]; omega
theorem toNat_key (H : Heap) (i : Nat) : (H.key i).toNat = H.nx.toNat + i := toNat_keyS i _
theorem key_inj {H : Heap} {i j : Nat} (h : H.key i = H.key j) : i = j := by
  have := congrArg K.toNat h; rw [toNat_key, toNat_key] at this; omega
theorem key_add (H : Heap) (b : Blk) (i : Nat) : (H.add b).key i = H.key (i + 1) := rfl
theorem key_zero (H : Heap) : H.key 0 = H.nx := rfl
theorem ext_nil (H : Heap) : H.ext [] = H := rfl
theorem ext_append : ∀ (l m : List Blk) (H : Heap), (H.ext l).ext m = H.ext (l ++ m)
  | [], _, _ => rfl
  | b :: l, m, H => ext_append l m (H.add b)
theorem ext_one (H : Heap) (b : Blk) : H.ext [b] = H.add b := rfl
theorem nx_ext : ∀ (l : List Blk) (H : Heap), (H.ext l).nx = H.key l.length
  | [], _ => rfl
  | b :: l, H => by show ((H.add b).ext l).nx = _; rw [nx_ext l, key_add]; rfl
theorem key_ext (l : List Blk) (H : Heap) (i : Nat) : (H.ext l).key i = H.key (l.length + i) := by
  apply K.toNat_inj
  rw [toNat_key, nx_ext, toNat_key, toNat_key]; omega
theorem ext_add (H : Heap) (l : List Blk) (b : Blk) : (H.ext l).add b = H.ext (l ++ [b]) := by rw [← ext_append]; rfl
theorem addC_ext {α : Type} (H : Heap) (l : List Blk) (b : Blk) (c : K → Heap → α) : (H.ext l).addC b c = c (H.key l.length) (H.ext (l ++ [b])) := by
  rw [addC_eq, nx_ext, ext_add]
theorem get_ext : ∀ (l : List Blk) (H : Heap) (k : K), (H.ext l).get k = if H.nx.toNat ≤ k.toNat ∧ k.toNat < H.nx.toNat + l.length then l[k.toNat - H.nx.toNat]? else H.get k
  | [], H, k => by rw [if_neg (by simp)]; rfl
  | b :: l, H, k => by
    show ((H.add b).ext l).get k = _
    have hnx : (H.add b).nx.toNat = H.nx.toNat + 1 := by rw [nx_add, K.toNat_succ]
    rw [get_ext l, hnx]
    by_cases h : H.nx.toNat + 1 ≤ k.toNat ∧ k.toNat < H.nx.toNat + 1 + l.length
    · rw [if_pos h, if_pos (by simp; omega)]
      rw [show k.toNat - H.nx.toNat = (k.toNat - (H.nx.toNat + 1)) + 1 by omega]; rfl
    · rw [if_neg h, get_add]
      by_cases e : H.nx = k
      · subst e; rw [if_pos rfl, if_pos (by simp), Nat.sub_self]; rfl
      · have : H.nx.toNat ≠ k.toNat := fun h => e (K.toNat_inj h)
        rw [if_neg e, if_neg (by simp; omega)]
theorem get_ext_key (H : Heap) (l : List Blk) (i : Nat) (h : i < l.length) : (H.ext l).get (H.key i) = l[i]? := by
  rw [get_ext, toNat_key, if_pos ⟨by omega, by omega⟩, Nat.add_sub_cancel_left]
theorem get_ext_lt (H : Heap) (l : List Blk) (k : K) (h : k.toNat < H.nx.toNat) : (H.ext l).get k = H.get k := by
  rw [get_ext, if_neg (by omega)]
theorem get_ext_old {H : Heap} (ho : H.ok) {k : K} {b : Blk} (h : H.get k = some b) (l : List Blk) : (H.ext l).get k = some b := by
  rw [get_ext_lt _ _ _ (ho k b h), h]
theorem ok_ext {H : Heap} (ho : H.ok) (l : List Blk) : (H.ext l).ok := by
  intro k b h
  rw [nx_ext, toNat_key]
  rw [get_ext] at h
  split at h
  · omega
  · have := ho k b h; omega
theorem set_add (H : Heap) (j : K) (b c : Blk) (h : j ≠ H.nx) : (H.add b).set j c = (H.set j c).add b := by
  show Heap.mk _ ((H.t.set H.nx (some b)).set j (some c)) = Heap.mk _ ((H.t.set j (some c)).set H.nx (some b))
  rw [Tr.set_comm _ _ _ _ _ (Ne.symm h)]; rfl
theorem set_ext_key : ∀ (l : List Blk) (H : Heap) (i : Nat) (b : Blk), i < l.length → (H.ext l).set (H.key i) b = H.ext (l.set i b)
  | [], _, i, _, h => by simp at h
  | c :: l, H, i + 1, b, h => by
    show ((H.add c).ext l).set (H.key (i + 1)) b = (H.add c).ext (l.set i b)
    rw [← key_add H c, set_ext_key l (H.add c) i b (by simpa using h)]
  | c :: l, H, 0, b, _ => by
    show ((H.add c).ext l).set H.nx b = (H.add b).ext l
    have key : ∀ (l : List Blk) (G : Heap) (k : K), k.toNat < G.nx.toNat → (G.ext l).set k b = (G.set k b).ext l := by
      intro l
      induction l with
      | nil => intros; rfl
      | cons d l ih =>
        intro G k hk
        show ((G.add d).ext l).set k b = ((G.set k b).add d).ext l
        rw [ih (G.add d) k (by rw [nx_add, K.toNat_succ]; omega), set_add _ _ _ _ (fun e => by rw [e] at hk; exact Nat.lt_irrefl _ hk)]
    rw [key l (H.add c) H.nx (by rw [nx_add, K.toNat_succ]; omega)]
    congr 1
    show Heap.mk _ ((H.t.set H.nx (some c)).set H.nx (some b)) = _
    rw [Tr.set_set]; rfl
theorem setC_ext {α : Type} (H : Heap) (l : List Blk) (i : Nat) (b : Blk) (c : Heap → α) (h : i < l.length) : (H.ext l).setC (H.key i) b c = c (H.ext (l.set i b)) := by
  rw [setC_eq, set_ext_key l H i b h]
theorem set_ext_old : ∀ (l : List Blk) (H : Heap) (k : K) (b : Blk), k.toNat < H.nx.toNat → (H.ext l).set k b = (H.set k b).ext l
  | [], _, _, _, _ => rfl
  | d :: l, H, k, b, hk => by
    show ((H.add d).ext l).set k b = ((H.set k b).add d).ext l
    rw [set_ext_old l (H.add d) k b (by rw [nx_add, K.toNat_succ]; omega), set_add _ _ _ _ (fun e => by rw [e] at hk; exact Nat.lt_irrefl _ hk)]
theorem setC_old {α : Type} (H : Heap) (l : List Blk) (k : K) (b : Blk) (c : Heap → α) (h : k.toNat < H.nx.toNat) : (H.ext l).setC k b c = c ((H.set k b).ext l) := by
  rw [setC_eq, set_ext_old l H k b h]
theorem set_set (H : Heap) (k : K) (b c : Blk) : (H.set k b).set k c = H.set k c := by
  show Heap.mk H.nx ((H.t.set k (some b)).set k (some c)) = Heap.mk H.nx (H.t.set k (some c))
  rw [Tr.set_set]
theorem key_set (H : Heap) (k : K) (b : Blk) (i : Nat) : (H.set k b).key i = H.key i := rfl
theorem nx_set' (H : Heap) (k : K) (b : Blk) : (H.set k b).nx = H.nx := rfl
end Heap

/-! ### Names of blocks changed -/
mutual
def AV.ren (ρ : K → K) : AV → AV
  | .ptr k o => .ptr (ρ k) o
  | .slice k off len esz ex cap => .slice (ρ k) off len esz ex cap
  | .fn f a c => .fn f (AV.rens ρ a) (AV.rens ρ c)
  | .iface t v => .iface t (AV.ren ρ v)
  | .agg l => .agg (AV.rens ρ l)
  | .tup l => .tup (AV.rens ρ l)
  | .map k => .map (ρ k)
  | .bool b => .bool b
  | .int k n => .int k n
  | .str l => .str l
  | .nilp => .nilp
  | .nils => .nils
  | .nilf => .nilf
  | .nili => .nili
  | .nilm => .nilm
  | .typ t => .typ t
  | .any => .any
  | .geq n => .geq n
def AV.rens (ρ : K → K) : List AV → List AV
  | [] => []
  | v :: l => AV.ren ρ v :: AV.rens ρ l
end
def Blk.ren (ρ : K → K) : Blk → Blk
  | .dead => .dead
  | .row wr esz rows => .row wr esz (rows.map (AV.rens ρ))
  | .map es => .map (es.map fun p => (p.1.ren ρ, p.2.ren ρ))
theorem AV.rens_append (ρ : K → K) : ∀ a b : List AV, AV.rens ρ (a ++ b) = AV.rens ρ a ++ AV.rens ρ b
  | [], _ => by simp [AV.rens]
  | v :: a, b => by simp [AV.rens, AV.rens_append ρ a b]
theorem AV.rens_flatten (ρ : K → K) : ∀ l : List (List AV), AV.rens ρ l.flatten = (l.map (AV.rens ρ)).flatten
  | [] => by simp [AV.rens]
  | x :: l => by simp [AV.rens_append, AV.rens_flatten ρ l]
theorem AV.rens_length (ρ : K → K) : ∀ l : List AV, (AV.rens ρ l).length = l.length
  | [] => by simp [AV.rens]
  | x :: l => by simp [AV.rens, AV.rens_length ρ l]

mutual
theorem VRel.ren {ρ : K → K} : ∀ {v : AV} {v' : Value}, VRel P ψ (v.ren ρ) v' → VRel P (fun k => ψ (ρ k)) v v'
  | .ptr k o, _, h => by rw [AV.ren] at h; cases h with | ptr _ _ a e => exact .ptr k o a e
  | .slice k off len esz ex cap, _, h => by
    rw [AV.ren] at h
    cases h with
    | slice _ _ _ _ _ _ a c e hx hc hl hn => exact .slice k off len esz ex cap a c e hx hc hl hn
    | sliceE _ _ _ _ a x e => exact .sliceE k off esz ex a x e
  | .fn f a c, _, h => by rw [AV.ren] at h; cases h with | fn _ _ _ a' c' h1 h2 => exact .fn f a c a' c' (VRels.ren h1) (VRels.ren h2)
  | .iface t v, _, h => by rw [AV.ren] at h; cases h with | iface _ _ v' e => exact .iface t v v' (VRel.ren e)
  | .agg l, _, h => by rw [AV.ren] at h; cases h with | agg _ c e h1 => exact .agg l c (VRels.ren e) h1
  | .tup l, _, h => by rw [AV.ren] at h; cases h with | tup _ c e => exact .tup l c (VRels.ren e)
  | .map k, _, h => by rw [AV.ren] at h; cases h with | map _ a e => exact .map k a e
  | .bool b, _, h => by rw [AV.ren] at h; cases h; exact .bool b
  | .int k n, _, h => by rw [AV.ren] at h; cases h; exact .int k n
  | .str l, _, h => by rw [AV.ren] at h; cases h with | str _ s e => exact .str l s e
  | .nilp, _, h => by rw [AV.ren] at h; cases h; exact .nilp
  | .nils, _, h => by rw [AV.ren] at h; cases h; exact .nils
  | .nilf, _, h => by rw [AV.ren] at h; cases h; exact .nilf
  | .nili, _, h => by rw [AV.ren] at h; cases h; exact .nili
  | .nilm, _, h => by rw [AV.ren] at h; cases h; exact .nilm
  | .typ t, _, h => by rw [AV.ren] at h; cases h; exact .typ t
  | .any, _, h => by rw [AV.ren] at h; cases h with | any _ e => exact .any _ e
  | .geq n, _, h => by rw [AV.ren] at h; cases h with | geq _ m e => exact .geq n m e
theorem VRels.ren {ρ : K → K} : ∀ {l : List AV} {l' : List Value}, VRels P ψ (AV.rens ρ l) l' → VRels P (fun k => ψ (ρ k)) l l'
  | [], _, h => by rw [AV.rens] at h; cases h; exact .nil
  | v :: l, _, h => by rw [AV.rens] at h; cases h with | cons _ _ v' l' hv hl => exact .cons v l v' l' (VRel.ren hv) (VRels.ren hl)
end
mutual
/-- a value that is known names no block that isn't -/
theorem VRel.fix {ρ : K → K} (hρ : ∀ k a, φ k = some a → ρ k = k) : ∀ {v : AV} {v' : Value}, VRel P φ v v' → AV.ren ρ v = v
  | _, _, .bool b => by rw [AV.ren]
  | _, _, .int k n => by rw [AV.ren]
  | _, _, .str l s e => by rw [AV.ren]
  | _, _, .nilp => by rw [AV.ren]
  | _, _, .ptr k off a e => by rw [AV.ren, hρ k a e]
  | _, _, .nils => by rw [AV.ren]
  | _, _, .slice k off len esz ex cap a c e hx hc hl hn => by rw [AV.ren, hρ k a e]
  | _, _, .sliceE k off esz ex a x e => by rw [AV.ren, hρ k a e]
  | _, _, .fn f a b c d h1 h2 => by rw [AV.ren, VRels.fix hρ h1, VRels.fix hρ h2]
  | _, _, .nilf => by rw [AV.ren]
  | _, _, .iface t v v' e => by rw [AV.ren, VRel.fix hρ e]
  | _, _, .nili => by rw [AV.ren]
  | _, _, .agg l c e h1 => by rw [AV.ren, VRels.fix hρ e]
  | _, _, .tup l c e => by rw [AV.ren, VRels.fix hρ e]
  | _, _, .nilm => by rw [AV.ren]
  | _, _, .map k a e => by rw [AV.ren, hρ k a e]
  | _, _, .typ t => by rw [AV.ren]
  | _, _, .any v h => by rw [AV.ren]
  | _, _, .geq n m h => by rw [AV.ren]
theorem VRels.fix {ρ : K → K} (hρ : ∀ k a, φ k = some a → ρ k = k) : ∀ {l : List AV} {l' : List Value}, VRels P φ l l' → AV.rens ρ l = l
  | _, _, .nil => by rw [AV.rens]
  | _, _, .cons v l v' l' a b => by rw [AV.rens, VRel.fix hρ a, VRels.fix hρ b]
end

theorem ERel.ren {ρ : K → K} : ∀ {l : List (AV × AV)} {l' : List MapEntry}, ERel P ψ (l.map fun p => (p.1.ren ρ, p.2.ren ρ)) l' → ERel P (fun k => ψ (ρ k)) l l'
  | [], _, h => by cases h; exact .nil
  | (k, v) :: l, _, h => by cases h with | cons _ _ _ e l' hk hv hl => exact .cons k v l e l' hk.ren hv.ren (ERel.ren hl)
theorem ERel.fix {ρ : K → K} (hρ : ∀ k a, φ k = some a → ρ k = k) : ∀ {l : List (AV × AV)} {l' : List MapEntry}, ERel P φ l l' → (l.map fun p => (p.1.ren ρ, p.2.ren ρ)) = l
  | _, _, .nil => rfl
  | _, _, .cons k v l e l' hk hv hl => by rw [List.map_cons, ERel.fix hρ hl, hk.fix hρ, hv.fix hρ]
theorem BlkRel.ren {ρ : K → K} {at_ : At} : ∀ {b : Blk}, BlkRel P ψ w at_ (b.ren ρ) → BlkRel P (fun k => ψ (ρ k)) w at_ b
  | .dead, _ => trivial
  | .row wr esz rows, h => by
    have h : RowRel P ψ w at_ wr esz (rows.map (AV.rens ρ)) := h
    obtain ⟨hp, hl, pre, vs, post, e, lo, hi, h1, h2, h3, h4, h5, h6⟩ := h
    refine ⟨hp, fun r hr => ?_, pre, vs, post, e, lo, hi, h1, h2, h3, h4, ?_, h6⟩
    · rw [← AV.rens_length ρ]; exact hl _ (List.mem_map_of_mem hr)
    · rw [← AV.rens_flatten] at h5; exact h5.ren
  | .map es, h => by
    obtain ⟨c, clock, h1, h2⟩ := h
    exact ⟨c, clock, h1, h2.ren⟩
theorem BlkRel.fix {ρ : K → K} (hρ : ∀ k a, φ k = some a → ρ k = k) {at_ : At} : ∀ {b : Blk}, BlkRel P φ w at_ b → b.live → b.ren ρ = b
  | .dead, _, h => h.elim
  | .row wr esz rows, h, _ => by
    have h : RowRel P φ w at_ wr esz rows := h
    obtain ⟨hp, hl, pre, vs, post, e, lo, hi, h1, h2, h3, h4, h5, h6⟩ := h
    have := h5.fix hρ
    rw [AV.rens_flatten] at this
    show Blk.row wr esz (rows.map (AV.rens ρ)) = _
    congr 1
    -- pieces of one length: the flat list tells them
    have key : ∀ (l m : List (List AV)), (∀ r ∈ l, r.length = esz) → (∀ r ∈ m, r.length = esz) → l.length = m.length → l.flatten = m.flatten → l = m := by
      intro l
      induction l with
      | nil => intro m _ _ h _; cases m with | nil => rfl | cons _ _ => simp at h
      | cons x l ih =>
        intro m hl hm hlen hf
        cases m with
        | nil => simp at hlen
        | cons y m =>
          have e1 : x.length = y.length := by rw [hl x (by simp), hm y (by simp)]
          rw [List.flatten_cons, List.flatten_cons] at hf
          obtain ⟨h1, h2⟩ := List.append_inj hf e1
          rw [h1, ih m (fun r hr => hl r (by simp [hr])) (fun r hr => hm r (by simp [hr])) (by simpa using hlen) h2]
    exact key _ _ (fun r hr => by obtain ⟨s, hs, rfl⟩ := List.mem_map.1 hr; rw [AV.rens_length]; exact hl s hs) hl (by simp) this
  | .map es, h, _ => by
    obtain ⟨c, clock, h1, h2⟩ := h
    show Blk.map _ = _
    rw [h2.fix hρ]
theorem Blk.ren_live {ρ : K → K} {b : Blk} : (b.ren ρ).live ↔ b.live := by cases b <;> exact Iff.rfl
theorem Blk.ren_mayWrite {ρ : K → K} {b : Blk} : (b.ren ρ).mayWrite ↔ b.mayWrite := by cases b <;> exact Iff.rfl

/-! ### What isn't needed any more is let go -/
/-- the new names, told by the old ones -/
noncomputable def rho (H : Heap) (top : Nat) (σ : List Nat) (k : K) : K := if k.toNat < H.nx.toNat then k else match σ[k.toNat - H.nx.toNat]? with | some j => H.key j | none => H.key top
theorem rho_old {H : Heap} {top : Nat} {σ : List Nat} {k : K} (h : k.toNat < H.nx.toNat) : rho H top σ k = k := if_pos h
theorem rho_key {H : Heap} {top : Nat} {σ : List Nat} {i j : Nat} (h : σ[i]? = some j) : rho H top σ (H.key i) = H.key j := by
  unfold rho; rw [Heap.toNat_key, if_neg (by omega), Nat.add_sub_cancel_left, h]

/-- The old blocks lie in a memory B as long as H0; of the new ones those that are named are there, under new names. -/
theorem WRel.wkB {φ0 : Phi} {H0 B : Heap} {w0 : World} (hnx : B.nx = H0.nx) (hok : B.ok)
    (hfix : ∀ (top : Nat) (σ : List Nat) k b, k.toNat < H0.nx.toNat → B.get k = some b → φ0 k ≠ none → b.live → b.ren (rho H0 top σ) = b) (hhid : ∀ k, k.toNat < H0.nx.toNat → φ0 k = none → B.get k = H0.get k)
    {l l2 : List Blk} (hw : WRel P ψ (B.ext l) u) (he : Ext φ0 H0 w0 ψ (B.ext l) u) (σ : List Nat)
    (hl : l2.length = σ.length) (hb : ∀ (i j : Nat) (b : Blk), l2[i]? = some b → σ[i]? = some j → b.live → l[j]? = some (b.ren (rho H0 l.length σ)))
    (hi : ∀ (i j : Nat) (b c : Blk) (n : Nat), i ≠ j → l2[i]? = some b → l2[j]? = some c → b.live → c.live → σ[i]? = some n → σ[j]? ≠ some n) :
    WRel P (fun k => ψ (rho H0 l.length σ k)) (B.ext l2) u ∧ Ext φ0 H0 w0 (fun k => ψ (rho H0 l.length σ k)) (B.ext l2) u := by
  have hkey : ∀ i, B.key i = H0.key i := fun i => by unfold Heap.key; rw [hnx]
  have htop : ψ (H0.key l.length) = none := by
    cases h : ψ (H0.key l.length) with
    | none => rfl
    | some a => have := hw.dom _ a h; rw [Heap.nx_ext, hkey] at this; exact absurd this (Nat.lt_irrefl _)
  have hnew : ∀ k a, H0.nx.toNat ≤ k.toNat → ψ (rho H0 l.length σ k) = some a → ∃ j, σ[k.toNat - H0.nx.toNat]? = some j ∧ rho H0 l.length σ k = H0.key j := by
    intro k a hk h
    unfold rho at h ⊢
    rw [if_neg (by omega)] at h ⊢
    split at h
    · rename_i j hj; exact ⟨j, hj, rfl⟩
    · rw [htop] at h; cases h
  have hold : ∀ k b a, k.toNat < H0.nx.toNat → B.get k = some b → ψ k = some a → b.live → b.ren (rho H0 l.length σ) = b := by
    intro k b a hk hg ha hlv
    refine hfix _ _ k b hk hg ?_ hlv
    rw [← he.phi k hk, ha]; simp
  -- a block of the new memory, in the old one
  have back : ∀ k b a, (B.ext l2).get k = some b → ψ (rho H0 l.length σ k) = some a → b.live → (B.ext l).get (rho H0 l.length σ k) = some (b.ren (rho H0 l.length σ)) := by
    intro k b a hg ha hlv
    by_cases hk : k.toNat < H0.nx.toNat
    · rw [Heap.get_ext_lt _ _ _ (by rw [hnx]; exact hk)] at hg
      rw [rho_old hk] at ha ⊢
      rw [Heap.get_ext_lt _ _ _ (by rw [hnx]; exact hk), hg, hold k b a hk hg ha hlv]
    · obtain ⟨j, hj, e⟩ := hnew k a (by omega) ha
      rw [Heap.get_ext, hnx] at hg
      split at hg
      · have := hb _ j b hg hj hlv
        have hjl : j < l.length := (List.getElem?_eq_some_iff.1 this).1
        rw [e, ← hkey, Heap.get_ext_key _ _ _ hjl, this]
      · exact absurd (hnx ▸ hok k b hg) hk
  have same : ∀ j k c d x y, j ≠ k → (B.ext l2).get j = some c → (B.ext l2).get k = some d → ψ (rho H0 l.length σ j) = some x → ψ (rho H0 l.length σ k) = some y → c.live → d.live → rho H0 l.length σ j ≠ rho H0 l.length σ k := by
    intro j k c d x y hjk hc hd hx hy lc ld e
    by_cases h1 : j.toNat < H0.nx.toNat
    · rw [rho_old h1] at e
      by_cases h2 : k.toNat < H0.nx.toNat
      · rw [rho_old h2] at e; exact hjk e
      · obtain ⟨n, _, e2⟩ := hnew k y (by omega) hy
        rw [e2] at e
        have := congrArg K.toNat e; rw [Heap.toNat_key] at this; omega
    · obtain ⟨n, hn, e1⟩ := hnew j x (by omega) hx
      by_cases h2 : k.toNat < H0.nx.toNat
      · rw [rho_old h2, e1] at e
        have := congrArg K.toNat e; rw [Heap.toNat_key] at this; omega
      · obtain ⟨m, hm, e2⟩ := hnew k y (by omega) hy
        rw [e1, e2] at e
        have := Heap.key_inj e
        subst this
        rw [Heap.get_ext, hnx] at hc hd
        split at hc
        · split at hd
          · refine hi _ _ c d n (fun e => hjk (K.toNat_inj (by omega))) hc hd lc ld hn hm
          · exact h2 (hnx ▸ hok k d hd)
        · exact h1 (hnx ▸ hok j c hc)
  refine ⟨⟨?_, ?_, ?_, ?_, ?_⟩, ⟨?_, ?_, he.size, he.keeps, ?_, ?_, he.os, he.tape, he.output⟩⟩
  · intro k a h
    rw [Heap.nx_ext, Heap.toNat_key, hnx]
    by_cases hk : k.toNat < H0.nx.toNat
    · omega
    · obtain ⟨j, hj, _⟩ := hnew k a (by omega) h
      have := (List.getElem?_eq_some_iff.1 hj).1
      omega
  · exact Heap.ok_ext hok l2
  · intro k b a hg ha
    cases b with
    | dead => trivial
    | row wr esz rows => exact (hw.blk _ _ a (back k _ a hg ha trivial) ha).ren
    | map es => exact (hw.blk _ _ a (back k _ a hg ha trivial) ha).ren
  · intro j k c d x y hjk hc hd hx hy lc ld hxy hm
    exact hw.inj _ _ _ _ x y (same j k c d x y hjk hc hd hx hy lc ld) (back j c x hc hx lc) (back k d y hd hy ld) hx hy (Blk.ren_live.2 lc) (Blk.ren_live.2 ld) hxy (Blk.ren_mayWrite.2 hm)
  · intro k a h; exact hw.size _ a h
  · intro k hk; show ψ (rho H0 l.length σ k) = _; rw [rho_old hk]; exact he.phi k hk
  · rw [Heap.nx_ext, Heap.toNat_key, hnx]; omega
  · intro k hk hn; rw [Heap.get_ext_lt _ _ _ (by rw [hnx]; exact hk)]; exact hhid k hk hn
  · rintro b hb' ⟨k, c, a, hg, hm, ha, e⟩
    have hlv : c.live := by cases c <;> simp_all [Blk.mayWrite, Blk.live]
    exact he.own b hb' ⟨_, _, a, back k c a hg ha hlv, Blk.ren_mayWrite.2 hm, ha, e⟩
/-- what is there when a call begins names old blocks alone -/
theorem WRel.old_fix {φ0 : Phi} {H0 : Heap} {w0 : World} (h0 : WRel P φ0 H0 w0) (top : Nat) (σ : List Nat) (k : K) (b : Blk) (hg : H0.get k = some b) (hn : φ0 k ≠ none) (hl : b.live) : b.ren (rho H0 top σ) = b := by
  cases h : φ0 k with
  | none => exact absurd h hn
  | some a => exact (h0.blk k b a hg h).fix (fun j x hj => rho_old (h0.dom j x hj)) hl
/-- The old blocks are as they were; of the new ones those that are named are there, under new names. -/
theorem WRel.wk {φ0 : Phi} {H0 : Heap} {w0 : World} (h0 : WRel P φ0 H0 w0) {l l2 : List Blk} (hw : WRel P ψ (H0.ext l) u) (he : Ext φ0 H0 w0 ψ (H0.ext l) u) (σ : List Nat)
    (hl : l2.length = σ.length) (hb : ∀ (i j : Nat) (b : Blk), l2[i]? = some b → σ[i]? = some j → b.live → l[j]? = some (b.ren (rho H0 l.length σ)))
    (hi : ∀ (i j : Nat) (b c : Blk) (n : Nat), i ≠ j → l2[i]? = some b → l2[j]? = some c → b.live → c.live → σ[i]? = some n → σ[j]? ≠ some n) :
    WRel P (fun k => ψ (rho H0 l.length σ k)) (H0.ext l2) u ∧ Ext φ0 H0 w0 (fun k => ψ (rho H0 l.length σ k)) (H0.ext l2) u :=
  WRel.wkB rfl h0.top (fun top σ k b _ hg hn hl => h0.old_fix top σ k b hg hn hl) (fun _ _ _ => rfl) hw he σ hl hb hi

/-- slots, one behind the other -/
noncomputable def trOf (l : List (K × AV)) : Tr AV := l.foldr (fun p t => t.set p.1 (some p.2)) .lf
theorem get_trOf : ∀ (l : List (K × AV)) (k : K) (v : AV), (trOf l).get k = some v → (k, v) ∈ l
  | [], k, v, h => by rw [show trOf [] = .lf from rfl, Tr.get_lf] at h; cases h
  | p :: l, k, v, h => by
    have h : ((trOf l).set p.1 (some p.2)).get k = some v := h
    rw [Tr.get_set] at h
    split at h
    · rename_i e; cases h; subst e; simp
    · have := get_trOf l k v h; simp [this]

/-- how a state is seen with fewer blocks -/
structure Wk (H : Heap) (T : Tr AV) (l : List Blk) (ts : List (K × AV)) (l2 : List Blk) (σ : List Nat) : Prop where
  len : l2.length = σ.length
  slots : ∀ p ∈ ts, T.get p.1 = some (p.2.ren (rho H l.length σ))
  blks : ∀ p ∈ l2.zip σ, p.1.live → l[p.2]? = some (p.1.ren (rho H l.length σ))
  inj : σ.Nodup

theorem nodup_get {σ : List Nat} (h : σ.Nodup) {i j n : Nat} (hij : i ≠ j) (hi : σ[i]? = some n) : σ[j]? ≠ some n := by
  intro hj
  exact hij ((List.getElem?_inj (List.getElem?_eq_some_iff.1 hi).1 h).1 (hi.trans hj.symm))

theorem zip_get {l2 : List Blk} {σ : List Nat} {p : Blk × Nat → Prop} (h : ∀ q ∈ l2.zip σ, p q) {i j : Nat} {b : Blk} (hb : l2[i]? = some b) (hj : σ[i]? = some j) : p (b, j) := by
  refine h _ (List.mem_iff_getElem?.2 ⟨i, ?_⟩)
  rw [List.getElem?_zip_eq_some]
  exact ⟨hb, hj⟩
theorem At2.wk {φ0 : Phi} {H0 : Heap} {w0 : World} (h0 : WRel P φ0 H0 w0) {N : Nat} {l l2 : List Blk} {ts : List (K × AV)} {σ : List Nat} (hk : Wk H0 T l ts l2 σ) (h : At2 P φ0 H0 w0 N T (H0.ext l) a u) :
    At2 P φ0 H0 w0 N (trOf ts) (H0.ext l2) a u := by
  obtain ⟨hd, ψ, ht, hw, he⟩ := h
  obtain ⟨hw2, he2⟩ := WRel.wk h0 hw he σ hk.len (fun i j b hb hj hl => zip_get hk.blks hb hj hl) fun i j b c n hij _ _ _ _ hi => nodup_get hk.inj hij hi
  refine ⟨hd, _, ⟨ht.size, fun t v hv => ?_⟩, hw2, he2⟩
  have := hk.slots _ (get_trOf ts _ v hv)
  obtain ⟨v', h1, h2⟩ := ht.get t _ this
  exact ⟨v', h1, h2.ren⟩

theorem Tri.wk {N : Nat} {H0 : Heap} {c : Code} {Q : Ex → Tr AV → Heap → Prop} {l l2 : List Blk} {ts : List (K × AV)} {σ : List Nat} (hk : Wk H0 T l ts l2 σ) (h : Tri P N H0 c (trOf ts) (H0.ext l2) Q) : Tri P N H0 c T (H0.ext l) Q :=
  fun φ0 w0 a u h0 ha => h φ0 w0 a u h0 (ha.wk h0 hk)

/-- behind a statement: what is known is seen with fewer blocks -/
def Kept (H0 : Heap) (Q : Ex → Tr AV → Heap → Prop) : Ex → Tr AV → Heap → Prop := fun e T G => Q e T G ∨ ∃ l ts l2 σ, G = H0.ext l ∧ Wk H0 T l ts l2 σ ∧ Q e (trOf ts) (H0.ext l2)
theorem Tri.kept {N : Nat} {H0 : Heap} {c : Code} {Q : Ex → Tr AV → Heap → Prop} (h : Tri P N H0 c T H (Kept H0 Q)) : Tri P N H0 c T H Q := by
  intro φ0 w0 a u h0 ha
  refine wp_mono (h φ0 w0 a u h0 ha) ?_
  rintro x a1 u1 ⟨e, T1, G, q | ⟨l, ts, l2, σ, rfl, hk, q⟩, hx, h1⟩
  · exact ⟨e, T1, G, q, hx, h1⟩
  · exact ⟨e, _, _, q, hx, h1.wk h0 hk⟩

/-- what a call comes to, seen with fewer blocks -/
theorem FnOk.wk {f : FuncId} {args : List AV} {Q R : AV → Heap → Prop} (h : FnOk P f args H Q)
    (hq : ∀ v G, Q v G → ∃ l l2 σ v2, G = H.ext l ∧ v = AV.ren (rho H l.length σ) v2 ∧ l2.length = σ.length ∧ σ.Nodup ∧ (∀ p ∈ l2.zip σ, p.1.live → l[p.2]? = some (p.1.ren (rho H l.length σ))) ∧ R v2 (H.ext l2)) : FnOk P f args H R := by
  intro φ w args' ha hw
  refine (h φ w args' ha hw).mono ?_
  rintro e u ⟨v, G, q, ψ, v', he, hv, hw1, he1⟩
  obtain ⟨l, l2, σ, v2, rfl, rfl, hl, hn, hb, hr⟩ := hq v G q
  obtain ⟨hw2, he2⟩ := WRel.wk hw hw1 he1 σ hl (fun i j b h1 h2 h3 => zip_get hb h1 h2 h3) fun i j b c n hij _ _ _ _ hi => nodup_get hn hij hi
  exact ⟨v2, _, hr, _, v', he, hv.ren, hw2, he2⟩

theorem FnOk.assume {f : FuncId} {args : List AV} {Q : AV → Heap → Prop} (h : H.ok → FnOk P f args H Q) : FnOk P f args H Q :=
  fun φ w args' ha hw => h hw.top φ w args' ha hw

end Go.Ev
