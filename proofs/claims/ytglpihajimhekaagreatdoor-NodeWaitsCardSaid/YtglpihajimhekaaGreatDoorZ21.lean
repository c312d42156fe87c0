/- A call reckoned in a small memory is so in a large one that holds it, under other names. -/
import Derived.Test.YtglpihajimhekaaGreatDoorZ20
import Derived.Test.YtglpihajimhekaaGreatDoorProg
import Derived.KernelRfl
set_option linter.all false
set_option maxRecDepth 100000
namespace Go.Ev
variable {P : Program} {φ ψ : Phi} {H G : Heap} {w u : World}

/-! ### Names changed, forwards -/
mutual
theorem VRel.fwd {ρ : K → K} (hρ : ∀ k a, φ k = some a → ψ (ρ k) = some a) : ∀ {v : AV} {v' : Value}, VRel P φ v v' → VRel P ψ (v.ren ρ) v'
  | _, _, .bool b => by rw [AV.ren]; exact .bool b
  | _, _, .int k n => by rw [AV.ren]; exact .int k n
  | _, _, .str l s e => by rw [AV.ren]; exact .str l s e
  | _, _, .nilp => by rw [AV.ren]; exact .nilp
  | _, _, .ptr k off a e => by rw [AV.ren]; exact .ptr _ off a (hρ k a e)
  | _, _, .nils => by rw [AV.ren]; exact .nils
  | _, _, .slice k off len esz ex cap a c e hx hc hl hn => by rw [AV.ren]; exact .slice _ off len esz ex cap a c (hρ k a e) hx hc hl hn
  | _, _, .sliceE k off esz ex a x e => by rw [AV.ren]; exact .sliceE _ off esz ex a x (hρ k a e)
  | _, _, .fn f a b c d h1 h2 => by rw [AV.ren]; exact .fn f _ _ c d (VRels.fwd hρ h1) (VRels.fwd hρ h2)
  | _, _, .nilf => by rw [AV.ren]; exact .nilf
  | _, _, .iface t v v' e => by rw [AV.ren]; exact .iface t _ v' (VRel.fwd hρ e)
  | _, _, .nili => by rw [AV.ren]; exact .nili
  | _, _, .agg l c e h1 => by rw [AV.ren]; exact .agg _ c (VRels.fwd hρ e) h1
  | _, _, .tup l c e => by rw [AV.ren]; exact .tup _ c (VRels.fwd hρ e)
  | _, _, .nilm => by rw [AV.ren]; exact .nilm
  | _, _, .map k a e => by rw [AV.ren]; exact .map _ a (hρ k a e)
  | _, _, .typ t => by rw [AV.ren]; exact .typ t
  | _, _, .any v h => by rw [AV.ren]; exact .any v h
  | _, _, .geq n m h => by rw [AV.ren]; exact .geq n m h
theorem VRels.fwd {ρ : K → K} (hρ : ∀ k a, φ k = some a → ψ (ρ k) = some a) : ∀ {l : List AV} {l' : List Value}, VRels P φ l l' → VRels P ψ (AV.rens ρ l) l'
  | _, _, .nil => by rw [AV.rens]; exact .nil
  | _, _, .cons v l v' l' a b => by rw [AV.rens]; exact .cons _ _ _ _ (VRel.fwd hρ a) (VRels.fwd hρ b)
end
theorem ERel.fwd {ρ : K → K} (hρ : ∀ k a, φ k = some a → ψ (ρ k) = some a) : ∀ {l : List (AV × AV)} {l' : List MapEntry}, ERel P φ l l' → ERel P ψ (l.map fun p => (p.1.ren ρ, p.2.ren ρ)) l'
  | _, _, .nil => .nil
  | _, _, .cons k v l e l' hk hv hl => .cons _ _ _ e l' (hk.fwd hρ) (hv.fwd hρ) (ERel.fwd hρ hl)
theorem BlkRel.fwd {ρ : K → K} (hρ : ∀ k a, φ k = some a → ψ (ρ k) = some a) {at_ : At} : ∀ {b : Blk}, BlkRel P φ w at_ b → BlkRel P ψ w at_ (b.ren ρ)
  | .dead, _ => trivial
  | .row wr esz rows, h => by
    have h : RowRel P φ w at_ wr esz rows := h
    obtain ⟨hp, hl, pre, vs, post, e, lo, hi, h1, h2, h3, h4, h5, h6⟩ := h
    show RowRel P ψ w at_ wr esz (rows.map (AV.rens ρ))
    refine ⟨hp, fun r hr => ?_, pre, vs, post, e, lo, hi, h1, h2, h3, h4, ?_, h6⟩
    · obtain ⟨x, hx, rfl⟩ := List.mem_map.1 hr
      rw [AV.rens_length]; exact hl _ hx
    · rw [← AV.rens_flatten]; exact h5.fwd hρ
  | .map es, h => by
    obtain ⟨c, clock, h1, h2⟩ := h
    exact ⟨c, clock, h1, h2.fwd hρ⟩

/-! ### What is named is there -/
mutual
def AV.keys : AV → List K
  | .ptr k _ => [k]
  | .slice k _ _ _ _ _ => [k]
  | .fn _ a c => AV.keyss a ++ AV.keyss c
  | .iface _ v => AV.keys v
  | .agg l => AV.keyss l
  | .tup l => AV.keyss l
  | .map k => [k]
  | _ => []
def AV.keyss : List AV → List K
  | [] => []
  | v :: l => AV.keys v ++ AV.keyss l
end
mutual
theorem VRel.keys_some : ∀ {v : AV} {v' : Value}, VRel P φ v v' → ∀ k ∈ v.keys, φ k ≠ none
  | _, _, .ptr k off a e => fun j hj => by rw [AV.keys, List.mem_singleton] at hj; subst hj; rw [e]; simp
  | _, _, .slice k off len esz ex cap a c e hx hc hl hn => fun j hj => by rw [AV.keys, List.mem_singleton] at hj; subst hj; rw [e]; simp
  | _, _, .sliceE k off esz ex a x e => fun j hj => by rw [AV.keys, List.mem_singleton] at hj; subst hj; rw [e]; simp
  | _, _, .fn f a b c d h1 h2 => fun j hj => by
    rw [AV.keys, List.mem_append] at hj
    rcases hj with hj | hj
    · exact VRels.keys_some h1 j hj
    · exact VRels.keys_some h2 j hj
  | _, _, .iface t v v' e => fun j hj => by rw [AV.keys] at hj; exact VRel.keys_some e j hj
  | _, _, .agg l c e h1 => fun j hj => by rw [AV.keys] at hj; exact VRels.keys_some e j hj
  | _, _, .tup l c e => fun j hj => by rw [AV.keys] at hj; exact VRels.keys_some e j hj
  | _, _, .map k a e => fun j hj => by rw [AV.keys, List.mem_singleton] at hj; subst hj; rw [e]; simp
  | _, _, .bool b => fun j hj => by simp [AV.keys] at hj
  | _, _, .int k n => fun j hj => by simp [AV.keys] at hj
  | _, _, .str l s e => fun j hj => by simp [AV.keys] at hj
  | _, _, .nilp => fun j hj => by simp [AV.keys] at hj
  | _, _, .nils => fun j hj => by simp [AV.keys] at hj
  | _, _, .nilf => fun j hj => by simp [AV.keys] at hj
  | _, _, .nili => fun j hj => by simp [AV.keys] at hj
  | _, _, .nilm => fun j hj => by simp [AV.keys] at hj
  | _, _, .typ t => fun j hj => by simp [AV.keys] at hj
  | _, _, .any v h => fun j hj => by simp [AV.keys] at hj
  | _, _, .geq n m h => fun j hj => by simp [AV.keys] at hj
theorem VRels.keys_some : ∀ {l : List AV} {l' : List Value}, VRels P φ l l' → ∀ k ∈ AV.keyss l, φ k ≠ none
  | _, _, .nil => fun j hj => by simp [AV.keyss] at hj
  | _, _, .cons v l v' l' a b => fun j hj => by
    rw [AV.keyss, List.mem_append] at hj
    rcases hj with hj | hj
    · exact VRel.keys_some a j hj
    · exact VRels.keys_some b j hj
end
def Blk.keys : Blk → List K
  | .row _ _ rows => AV.keyss rows.flatten
  | _ => []
theorem BlkRel.keys_some {at_ : At} {b : Blk} (h : BlkRel P φ w at_ b) : ∀ k ∈ b.keys, φ k ≠ none := by
  cases b with
  | dead => intro k hk; cases hk
  | row wr esz rows =>
    obtain ⟨hp, hl, pre, vs, post, e, lo, hi, h1, h2, h3, h4, h5, h6⟩ := (h : RowRel P φ w at_ wr esz rows)
    exact h5.keys_some
  | map es => intro k hk; cases hk
noncomputable def memK (k : K) (l : List K) : Bool := List.rec (motive := fun _ => Bool) false (fun x _ ih => bif' (K.beq k x) true ih) l
theorem memK_mem {k : K} : ∀ {l : List K}, memK k l = true → k ∈ l
  | x :: l, h => by
    have h : bif' (K.beq k x) true (memK k l) = true := h
    cases hb : K.beq k x with
    | true => rw [(K.beq_iff _ _).1 hb]; exact List.mem_cons_self
    | false => rw [hb] at h; exact List.mem_cons_of_mem _ (memK_mem h)
/-- each block is named by what is asked, or by a block ahead of it -/
noncomputable def reachB (bl : List Blk) : K → List K → Bool :=
  List.rec (motive := fun _ => K → List K → Bool) (fun _ _ => true)
    (fun b _ ih k acc => bif' (Blk.rec (motive := fun _ => Bool) true (fun _ _ _ => memK k acc) (fun _ => memK k acc) b) (ih k.succ (acc ++ b.keys)) false) bl

mutual
theorem AV.ren_congr {ρ σ : K → K} : ∀ {v : AV}, (∀ k ∈ v.keys, ρ k = σ k) → v.ren ρ = v.ren σ
  | .ptr k _, h => by rw [AV.ren, AV.ren, h k (by simp [AV.keys])]
  | .slice k _ _ _ _ _, h => by rw [AV.ren, AV.ren, h k (by simp [AV.keys])]
  | .fn _ a c, h => by
    rw [AV.ren, AV.ren, AV.rens_congr (l := a) fun k hk => h k (by rw [AV.keys]; exact List.mem_append_left _ hk), AV.rens_congr (l := c) fun k hk => h k (by rw [AV.keys]; exact List.mem_append_right _ hk)]
  | .iface _ v, h => by rw [AV.ren, AV.ren, AV.ren_congr (v := v) fun k hk => h k (by rw [AV.keys]; exact hk)]
  | .agg l, h => by rw [AV.ren, AV.ren, AV.rens_congr (l := l) fun k hk => h k (by rw [AV.keys]; exact hk)]
  | .tup l, h => by rw [AV.ren, AV.ren, AV.rens_congr (l := l) fun k hk => h k (by rw [AV.keys]; exact hk)]
  | .map k, h => by rw [AV.ren, AV.ren, h k (by simp [AV.keys])]
  | .bool _, _ => by rw [AV.ren, AV.ren]
  | .int _ _, _ => by rw [AV.ren, AV.ren]
  | .str _, _ => by rw [AV.ren, AV.ren]
  | .nilp, _ => by rw [AV.ren, AV.ren]
  | .nils, _ => by rw [AV.ren, AV.ren]
  | .nilf, _ => by rw [AV.ren, AV.ren]
  | .nili, _ => by rw [AV.ren, AV.ren]
  | .nilm, _ => by rw [AV.ren, AV.ren]
  | .typ _, _ => by rw [AV.ren, AV.ren]
  | .any, _ => by rw [AV.ren, AV.ren]
  | .geq _, _ => by rw [AV.ren, AV.ren]
theorem AV.rens_congr {ρ σ : K → K} : ∀ {l : List AV}, (∀ k ∈ AV.keyss l, ρ k = σ k) → AV.rens ρ l = AV.rens σ l
  | [], _ => by rw [AV.rens, AV.rens]
  | v :: l, h => by
    rw [AV.rens, AV.rens, AV.ren_congr (v := v) fun k hk => h k (by rw [AV.keyss]; exact List.mem_append_left _ hk), AV.rens_congr (l := l) fun k hk => h k (by rw [AV.keyss]; exact List.mem_append_right _ hk)]
end
theorem keyss_flat : ∀ {l : List (List AV)} {r : List AV}, r ∈ l → ∀ k ∈ AV.keyss r, k ∈ AV.keyss l.flatten
  | x :: l, r, hr, k, hk => by
    have e : ∀ a b : List AV, AV.keyss (a ++ b) = AV.keyss a ++ AV.keyss b := fun a b => by
      induction a with
      | nil => simp [AV.keyss]
      | cons v a ih => simp [AV.keyss, ih]
    rw [List.flatten_cons, e, List.mem_append]
    rcases List.mem_cons.1 hr with rfl | hr
    · exact .inl hk
    · exact .inr (keyss_flat hr k hk)
/-- all names in a block -/
def Blk.keysA : Blk → List K
  | .dead => []
  | .row _ _ rows => AV.keyss rows.flatten
  | .map es => AV.keyss (es.map Prod.fst) ++ AV.keyss (es.map Prod.snd)
theorem Blk.ren_congr {ρ σ : K → K} {b : Blk} (h : ∀ k ∈ b.keysA, ρ k = σ k) : b.ren ρ = b.ren σ := by
  cases b with
  | dead => rfl
  | row wr esz rows =>
    show Blk.row wr esz (rows.map (AV.rens ρ)) = Blk.row wr esz (rows.map (AV.rens σ))
    congr 1
    exact List.map_congr_left fun r hr => AV.rens_congr fun k hk => h k (keyss_flat hr k hk)
  | map es =>
    show Blk.map (es.map _) = Blk.map (es.map _)
    congr 1
    refine List.map_congr_left fun p hp => ?_
    have key : ∀ {l : List AV} {v : AV}, v ∈ l → ∀ k ∈ v.keys, k ∈ AV.keyss l := by
      intro l
      induction l with
      | nil => intro v hv; cases hv
      | cons x l ih =>
        intro v hv k hk
        rw [AV.keyss, List.mem_append]
        rcases List.mem_cons.1 hv with rfl | hv
        · exact .inl hk
        · exact .inr (ih hv k hk)
    rw [AV.ren_congr (v := p.1) fun k hk => h k (List.mem_append_left _ (key (List.mem_map_of_mem hp) k hk)), AV.ren_congr (v := p.2) fun k hk => h k (List.mem_append_right _ (key (List.mem_map_of_mem hp) k hk))]

/-! ### The names of a small memory's blocks in a large one -/
def rk (κ : List K) (top k : K) : K := (κ[k.toNat - 1]?).getD top
theorem rk_some {κ : List K} {top k j : K} (h : κ[k.toNat - 1]? = some j) : rk κ top k = j := by unfold rk; rw [h]; rfl
theorem rk_none {κ : List K} {top k : K} (h : κ[k.toNat - 1]? = none) : rk κ top k = top := by unfold rk; rw [h]; rfl
theorem rk_in {κ : List K} {k : K} (h : k.toNat ≤ κ.length) (t t' : K) : rk κ t k = rk κ t' k := by
  have := k.toNat_pos
  have e : κ[k.toNat - 1]? = some (κ[k.toNat - 1]'(by omega)) := List.getElem?_eq_getElem _
  rw [rk_some e, rk_some e]
theorem hp0_key (i : Nat) : (hp0.key i).toNat = i + 1 := by rw [Heap.toNat_key]; show 1 + i = _; omega
theorem get_small (bl : List Blk) (k : K) : (hp0.ext bl).get k = bl[k.toNat - 1]? := by
  have hpos := k.toNat_pos
  have h1 : hp0.nx.toNat = 1 := rfl
  rw [Heap.get_ext, h1, hp0_get]
  split
  · rfl
  · rename_i hn
    rw [List.getElem?_eq_none (by omega)]
theorem nx_small (bl : List Blk) : (hp0.ext bl).nx.toNat = bl.length + 1 := by rw [Heap.nx_ext, hp0_key]
/-- a small memory lies in a large one, under these names -/
structure Fit (H : Heap) (κ : List K) (bl : List Blk) : Prop where
  len : κ.length = bl.length
  nodup : κ.Nodup
  old : ∀ k ∈ κ, k.toNat < H.nx.toNat
  closed : ∀ b ∈ bl, ∀ k ∈ b.keysA, k.toNat ≤ bl.length
  blk : ∀ (i : Nat) (b : Blk) (k : K), bl[i]? = some b → κ[i]? = some k → b.live → H.get k = some (b.ren (rk κ .z))
theorem may_live {b : Blk} (h : b.mayWrite) : b.live := by cases b <;> simp_all [Blk.mayWrite, Blk.live]
section
variable {κ : List K} {bl : List Blk} {top : K}
theorem Fit.ren (h : Fit H κ bl) {b : Blk} (hb : b ∈ bl) (t t' : K) : b.ren (rk κ t) = b.ren (rk κ t') := Blk.ren_congr fun k hk => rk_in (by rw [h.len]; exact h.closed b hb k hk) t t'
theorem Fit.blkT (h : Fit H κ bl) (top : K) (i : Nat) (b : Blk) (k : K) (hb : bl[i]? = some b) (hk : κ[i]? = some k) (hl : b.live) : H.get k = some (b.ren (rk κ top)) := by
  rw [h.ren (List.mem_of_getElem? hb) top .z]
  exact h.blk i b k hb hk hl
theorem Fit.small (h : Fit H κ bl) (top : K) {k : K} {b : Blk} (hb : (hp0.ext bl).get k = some b) (hl : b.live) : H.get (rk κ top k) = some (b.ren (rk κ top)) := by
  rw [get_small] at hb
  have hi := (List.getElem?_eq_some_iff.1 hb).1
  have hk : κ[k.toNat - 1]? = some (κ[k.toNat - 1]'(by rw [h.len]; exact hi)) := List.getElem?_eq_getElem _
  rw [rk_some hk]
  exact h.blkT top _ _ _ hb hk hl
theorem Fit.vis (h : Fit H κ bl) (ht : H.nx.toNat ≤ top.toNat) (hw : WRel P φ H w) {k : K} {a : At} (ha : φ (rk κ top k) = some a) : k.toNat - 1 < κ.length := by
  by_cases hi : k.toNat - 1 < κ.length
  · exact hi
  · rw [rk_none (List.getElem?_eq_none (by omega))] at ha
    have := hw.dom _ _ ha
    omega
theorem Fit.inj (h : Fit H κ bl) {i j : Nat} {k : K} (hi : κ[i]? = some k) (hj : κ[j]? = some k) : i = j :=
  (List.getElem?_inj (List.getElem?_eq_some_iff.1 hi).1 h.nodup).1 (hi.trans hj.symm)
theorem Fit.own (h : Fit H κ bl) {b : Nat} (ho : Owned (fun k => φ (rk κ top k)) (hp0.ext bl) b) : ∃ (i : Nat) (c : Blk) (k : K) (a : At), bl[i]? = some c ∧ κ[i]? = some k ∧ c.mayWrite ∧ H.get k = some (c.ren (rk κ top)) ∧ φ k = some a ∧ a.b = b := by
  obtain ⟨k, c, a, hg, hm, ha, e⟩ := ho
  have h1 := h.small top hg (may_live hm)
  rw [get_small] at hg
  have hi := (List.getElem?_eq_some_iff.1 hg).1
  have hk : κ[k.toNat - 1]? = some (κ[k.toNat - 1]'(by rw [h.len]; exact hi)) := List.getElem?_eq_getElem _
  have ha : φ (rk κ top k) = some a := ha
  rw [rk_some hk] at ha h1
  exact ⟨_, c, _, a, hg, hk, hm, h1, ha, e⟩
/-- seen as small -/
theorem WRel.small (h : Fit H κ bl) (ht : H.nx.toNat ≤ top.toNat) (hw : WRel P φ H w) : WRel P (fun k => φ (rk κ top k)) (hp0.ext bl) w := by
  refine ⟨⟨fun k a ha => ?_, fun k b hb => ?_, fun k b a hb ha => ?_, fun j k c d x y hjk hc hd hx hy lc ld hxy hm => ?_, fun k a ha => hw.size _ a ha⟩, fun g v hm => ⟨(hw.rom g v hm).1, fun ho => ?_⟩⟩
  · have h1 : k.toNat - 1 < κ.length := h.vis ht hw ha
    rw [h.len] at h1
    have := k.toNat_pos
    rw [nx_small]; omega
  · rw [get_small] at hb
    have := (List.getElem?_eq_some_iff.1 hb).1
    have := k.toNat_pos
    rw [nx_small]; omega
  · cases b with
    | dead => trivial
    | row wr esz rows => exact (hw.blk _ _ a (h.small top hb trivial) ha).ren
    | map es => exact (hw.blk _ _ a (h.small top hb trivial) ha).ren
  · refine hw.inj _ _ _ _ x y (fun e => ?_) (h.small top hc lc) (h.small top hd ld) hx hy (Blk.ren_live.2 lc) (Blk.ren_live.2 ld) hxy (Blk.ren_mayWrite.2 hm)
    have h1 : j.toNat - 1 < κ.length := h.vis ht hw hx
    have h2 : k.toNat - 1 < κ.length := h.vis ht hw hy
    have e1 : κ[j.toNat - 1]? = some (κ[j.toNat - 1]'h1) := List.getElem?_eq_getElem _
    have e2 : κ[k.toNat - 1]? = some (κ[k.toNat - 1]'h2) := List.getElem?_eq_getElem _
    rw [rk_some e1, rk_some e2] at e
    rw [← e] at e2
    have := h.inj e1 e2
    have := j.toNat_pos
    have := k.toNat_pos
    exact hjk (K.toNat_inj (by omega))
  · obtain ⟨i, c, k, a, -, -, h3, h4, h5, h6⟩ := h.own ho
    exact (hw.rom g v hm).2 ⟨k, _, a, h4, Blk.ren_mayWrite.2 h3, h5, h6⟩
end
/-- some blocks are put in the place of others -/
theorem Heap.over (g : K → Option Blk) (H : Heap) : ∀ n, ∃ H' : Heap, H'.nx = H.nx ∧ ∀ k, H'.get k = if k.toNat ≤ n then (g k).orElse (fun _ => H.get k) else H.get k
  | 0 => ⟨H, rfl, fun k => by rw [if_neg]; have := k.toNat_pos; omega⟩
  | n + 1 => by
    obtain ⟨H', h1, h2⟩ := Heap.over g H n
    have hk : (hp0.key n).toNat = n + 1 := hp0_key n
    cases hg : g (hp0.key n) with
    | none =>
      refine ⟨H', h1, fun k => ?_⟩
      rw [h2]
      by_cases h : k.toNat ≤ n
      · rw [if_pos h, if_pos (by omega)]
      · rw [if_neg h]
        by_cases h3 : k.toNat ≤ n + 1
        · obtain rfl : k = hp0.key n := K.toNat_inj (by omega)
          rw [if_pos h3, hg]; rfl
        · rw [if_neg h3]
    | some b =>
      refine ⟨H'.set (hp0.key n) b, h1, fun k => ?_⟩
      rw [Heap.get_set]
      by_cases e : hp0.key n = k
      · subst e
        rw [if_pos rfl, if_pos (by omega), hg]; rfl
      · rw [if_neg e, h2]
        by_cases h : k.toNat ≤ n
        · rw [if_pos h, if_pos (by omega)]
        · rw [if_neg h, if_neg fun h3 => e (K.toNat_inj (by omega))]
theorem Blk.dead_or (b : Blk) : b = .dead ∨ b.live := by cases b <;> simp [Blk.live]
/-- all blocks that live are seen -/
theorem reach_vis {κ : List K} {top : K} : ∀ (l : List Blk) (i : Nat) (k : K) (acc : List K), k.toNat = i + 1 → reachB l k acc = true → (∀ j ∈ acc, φ (rk κ top j) ≠ none) →
    (∀ (j : Nat) (b : Blk), l[j]? = some b → b.live → ∀ a, φ (rk κ top (hp0.key (i + j))) = some a → BlkRel P φ w a (b.ren (rk κ top))) →
    ∀ (j : Nat) (b : Blk), l[j]? = some b → b.live → φ (rk κ top (hp0.key (i + j))) ≠ none
  | [], _, _, _, _, _, _, _, j, b, hj, _ => by simp at hj
  | c :: l, i, k, acc, hk, h, ha, hb, j, b, hj, hl => by
    have h : bif' (Blk.rec (motive := fun _ => Bool) true (fun _ _ _ => memK k acc) (fun _ => memK k acc) c) (reachB l k.succ (acc ++ c.keys)) false = true := h
    have hki : k = hp0.key i := K.toNat_inj (by rw [hk, hp0_key])
    have h1 : (Blk.rec (motive := fun _ => Bool) true (fun _ _ _ => memK k acc) (fun _ => memK k acc) c : Bool) = true ∧ reachB l k.succ (acc ++ c.keys) = true := by
      cases hx : (Blk.rec (motive := fun _ => Bool) true (fun _ _ _ => memK k acc) (fun _ => memK k acc) c : Bool) with
      | true => rw [hx] at h; exact ⟨rfl, h⟩
      | false => rw [hx] at h; cases h
    have hc : c.live → φ (rk κ top (hp0.key i)) ≠ none := fun hcl => by
      rw [← hki]
      refine ha k (memK_mem ?_)
      cases c with
      | dead => exact hcl.elim
      | row wr esz rows => exact h1.1
      | map es => exact h1.1
    cases j with
    | zero =>
      cases hj
      exact hc hl
    | succ j =>
      have hj : l[j]? = some b := hj
      rw [show i + (j + 1) = i + 1 + j by omega]
      refine reach_vis l (i + 1) k.succ (acc ++ c.keys) (by rw [K.toNat_succ, hk]) h1.2 (fun x hx => ?_) (fun j b hj hl a ha => ?_) j b hj hl
      · rcases List.mem_append.1 hx with hx | hx
        · exact ha x hx
        · have hcl : c.live := by cases c with
            | dead => cases hx
            | row _ _ _ => trivial
            | map _ => trivial
          cases hv : φ (rk κ top (hp0.key i)) with
          | none => exact absurd hv (hc hcl)
          | some a => exact (hb 0 c rfl hcl a hv).ren.keys_some x hx
      · have := hb (j + 1) b hj hl
        rw [show i + (j + 1) = i + 1 + j by omega] at this
        exact this a ha
/-- what a small memory turns to, in the large one -/
structure Framed (H : Heap) (κ : List K) (bl : List Blk) (sel : List K) (bl' : List Blk) (G : Heap) (κ' : List K) : Prop where
  fit : Fit G κ' bl'
  stay : ∀ (i : Nat) (k : K), sel[i]? = some k → k.toNat ≤ bl.length → κ'[i]? = κ[k.toNat - 1]?
  keep : ∀ (k : K) (b : Blk), H.get k = some b → (∀ (i : Nat) (c : Blk), bl[i]? = some c → c.live → κ[i]? ≠ some k) → G.get k = some b
  nx : H.nx.toNat ≤ G.nx.toNat
  ok : G.ok
  src : ∀ k ∈ κ', k ∈ κ ∨ H.nx.toNat ≤ k.toNat
open Classical in
theorem frame_rel {κ sel : List K} {bl bl' : List Blk} {G0 : Heap} (hw : WRel P φ H w) (hF : Fit H κ bl)
    (hvis : ∀ (i : Nat) (b : Blk) (k : K), bl[i]? = some b → b.live → κ[i]? = some k → φ k ≠ none)
    (hW : WRel P ψ G0 u) (hE : Ext (fun k => φ (rk κ H.nx k)) (hp0.ext bl) w ψ G0 u) (hS : Fit G0 sel bl') (hmw : ∀ b ∈ bl', b.live → b.mayWrite)
    (hop : ∀ (i : Nat) (k : K) (b : Blk), sel[i]? = some k → bl[k.toNat - 1]? = some .dead → bl'[i]? = some b → b = .dead) :
    ∃ (χ : Phi) (M : Heap) (κ' : List K), WRel P χ M u ∧ Ext φ H w χ M u ∧ Framed H κ bl sel bl' M κ' ∧ ∀ (k : K) (a : At), k.toNat ≤ bl'.length → ψ (rk sel .z k) = some a → χ (rk κ' .z k) = some a := by
  obtain ⟨m, hm⟩ : ∃ m, m = bl.length := ⟨_, rfl⟩
  obtain ⟨n, hn⟩ : ∃ n, n = bl'.length := ⟨_, rfl⟩
  obtain ⟨S, hSd⟩ : ∃ S : Nat → K, S = fun i => (sel[i]?).getD .z := ⟨_, rfl⟩
  have hSi : ∀ i, i < n → sel[i]? = some (S i) := fun i hi => by
    have : i < sel.length := by rw [hS.len, ← hn]; exact hi
    rw [hSd]; simp only [List.getElem?_eq_getElem this, Option.getD_some]
  obtain ⟨F, hFd⟩ : ∃ F : Nat → K, F = fun i => if (S i).toNat ≤ m then rk κ .z (S i) else H.key i := ⟨_, rfl⟩
  have hFo : ∀ i, (S i).toNat ≤ m → F i = rk κ .z (S i) := fun i h => by rw [hFd]; exact if_pos h
  have hFn : ∀ i, ¬ (S i).toNat ≤ m → F i = H.key i := fun i h => by rw [hFd]; exact if_neg h
  have hSo : ∀ i, (S i).toNat ≤ m → κ[(S i).toNat - 1]? = some (F i) := fun i h => by
    have := (S i).toNat_pos
    have e : κ[(S i).toNat - 1]? = some (κ[(S i).toNat - 1]'(by rw [hF.len]; omega)) := List.getElem?_eq_getElem _
    rw [hFo i h, rk_some e]; exact e
  have hFlt : ∀ i, (S i).toNat ≤ m → (F i).toNat < H.nx.toNat := fun i h => hF.old _ (List.mem_of_getElem? (hSo i h))
  have hinj : ∀ i j, i < n → j < n → F i = F j → i = j := by
    intro i j hi hj e
    by_cases h1 : (S i).toNat ≤ m
    · by_cases h2 : (S j).toNat ≤ m
      · have e1 := hSo i h1
        have e2 := hSo j h2
        rw [← e] at e2
        have e3 := hF.inj e1 e2
        have p1 := (S i).toNat_pos
        have p2 := (S j).toNat_pos
        have e4 : S i = S j := K.toNat_inj (by omega)
        have e5 := hSi i hi
        rw [e4] at e5
        exact hS.inj e5 (hSi j hj)
      · have := hFlt i h1
        rw [e, hFn j h2, Heap.toNat_key] at this
        omega
    · by_cases h2 : (S j).toNat ≤ m
      · have := hFlt j h2
        rw [← e, hFn i h1, Heap.toNat_key] at this
        omega
      · rw [hFn i h1, hFn j h2] at e
        exact Heap.key_inj e
  obtain ⟨κ', hκ⟩ : ∃ κ' : List K, κ' = (List.range n).map F := ⟨_, rfl⟩
  have hκl : κ'.length = n := by rw [hκ, List.length_map, List.length_range]
  have hκi : ∀ i, i < n → κ'[i]? = some (F i) := fun i hi => by rw [hκ, List.getElem?_map, List.getElem?_range hi]; rfl
  have hκb : ∀ i k, κ'[i]? = some k → i < n ∧ k = F i := fun i k h => by
    have hi := (List.getElem?_eq_some_iff.1 h).1
    rw [hκl] at hi
    rw [hκi i hi] at h
    exact ⟨hi, (Option.some.inj h).symm⟩
  -- the blocks that are written over
  obtain ⟨g, hg⟩ : ∃ g : K → Option Blk, g = fun k => if h : ∃ i b, i < n ∧ bl'[i]? = some b ∧ b.live ∧ (S i).toNat ≤ m ∧ F i = k then some (h.choose_spec.choose.ren (rk κ' .z)) else if ∃ (i : Nat) (c : Blk), bl[i]? = some c ∧ c.live ∧ κ[i]? = some k then some .dead else none := ⟨_, rfl⟩
  have hg1 : ∀ i b, i < n → bl'[i]? = some b → b.live → (S i).toNat ≤ m → g (F i) = some (b.ren (rk κ' .z)) := fun i b hi hb hl hs => by
    have h : ∃ i' b', i' < n ∧ bl'[i']? = some b' ∧ b'.live ∧ (S i').toNat ≤ m ∧ F i' = F i := ⟨i, b, hi, hb, hl, hs, rfl⟩
    rw [hg]
    simp only [dif_pos h]
    obtain ⟨h1, h2, h3, h4, h5⟩ := h.choose_spec.choose_spec
    have e2 : bl'[h.choose]? = bl'[i]? := congrArg (fun z => bl'[z]?) (hinj _ _ h1 hi h5)
    have e3 := h2.symm.trans (e2.trans hb)
    exact congrArg (fun z => some (Blk.ren (rk κ' .z) z)) (Option.some.inj e3)
  have hg2 : ∀ k b, g k = some b → (∃ i b', i < n ∧ bl'[i]? = some b' ∧ b'.live ∧ (S i).toNat ≤ m ∧ F i = k ∧ b = b'.ren (rk κ' .z)) ∨ (b = .dead ∧ ∃ (i : Nat) (c : Blk), bl[i]? = some c ∧ c.live ∧ κ[i]? = some k) := fun k b h => by
    rw [hg] at h
    simp only at h
    split at h
    · rename_i hx
      obtain ⟨h1, h2, h3, h4, h5⟩ := hx.choose_spec.choose_spec
      exact .inl ⟨_, _, h1, h2, h3, h4, h5, (Option.some.inj h).symm⟩
    · split at h
      · rename_i hx
        exact .inr ⟨(Option.some.inj h).symm, hx⟩
      · cases h
  have hg3 : ∀ k, g k = none → ∀ (i : Nat) (c : Blk), bl[i]? = some c → c.live → κ[i]? ≠ some k := fun k h i c h1 h2 h3 => by
    rw [hg] at h
    simp only at h
    split at h
    · cases h
    · rw [if_pos ⟨i, c, h1, h2, h3⟩] at h; cases h
  obtain ⟨H', hnx', hget'⟩ := Heap.over g H (H.nx.toNat - 1)
  have hpx := H.nx.toNat_pos
  obtain ⟨M, hM⟩ : ∃ M, M = H'.ext ((List.range n).map fun i => if (S i).toNat ≤ m then Blk.dead else ((bl'[i]?).getD .dead).ren (rk κ' .z)) := ⟨_, rfl⟩
  have hkey : ∀ i, H'.key i = H.key i := fun i => by unfold Heap.key; rw [hnx']
  have hMn : M.nx.toNat = H.nx.toNat + n := by rw [hM, Heap.nx_ext, Heap.toNat_key, hnx', List.length_map, List.length_range]
  have hMo : ∀ k, k.toNat < H.nx.toNat → M.get k = (g k).orElse (fun _ => H.get k) := fun k hk => by
    rw [hM, Heap.get_ext_lt _ _ _ (by rw [hnx']; exact hk), hget', if_pos (by omega)]
  have hMf : ∀ i, i < n → M.get (H.key i) = some (if (S i).toNat ≤ m then Blk.dead else ((bl'[i]?).getD .dead).ren (rk κ' .z)) := fun i hi => by
    rw [hM, ← hkey, Heap.get_ext_key _ _ _ (by rw [List.length_map, List.length_range]; exact hi), List.getElem?_map, List.getElem?_range hi]; rfl
  have hMk : ∀ k b, M.get k = some b → k.toNat < H.nx.toNat ∨ ∃ i, i < n ∧ k = H.key i := fun k b h => by
    by_cases hk : k.toNat < H.nx.toNat
    · exact .inl hk
    · refine .inr ⟨k.toNat - H.nx.toNat, ?_, K.toNat_inj (by rw [Heap.toNat_key]; omega)⟩
      rw [hM, Heap.get_ext, hnx', List.length_map, List.length_range] at h
      split at h
      · omega
      · rw [hget', if_neg (by omega)] at h
        exact absurd (hw.top k b h) hk
  -- a live block of what is new
  have hMN : ∀ i b, i < n → bl'[i]? = some b → b.live → M.get (F i) = some (b.ren (rk κ' .z)) := fun i b hi hb hl => by
    by_cases hs : (S i).toNat ≤ m
    · rw [hMo _ (hFlt i hs), hg1 i b hi hb hl hs]; rfl
    · rw [hFn i hs, hMf i hi, if_neg hs, hb]; rfl
  obtain ⟨χ, hχ⟩ : ∃ χ : Phi, χ = fun k => if k.toNat < H.nx.toNat then φ k else if k.toNat - H.nx.toNat < n then (if (S (k.toNat - H.nx.toNat)).toNat ≤ m then none else ψ (S (k.toNat - H.nx.toNat))) else none := ⟨_, rfl⟩
  have hχo : ∀ k, k.toNat < H.nx.toNat → χ k = φ k := fun k hk => by rw [hχ]; exact if_pos hk
  have hχf : ∀ i, i < n → ¬ (S i).toNat ≤ m → χ (H.key i) = ψ (S i) := fun i hi hs => by
    rw [hχ]; simp only
    rw [Heap.toNat_key, if_neg (by omega), Nat.add_sub_cancel_left, if_pos hi, if_neg hs]
  have hle : φ.le χ := fun k a h => by rw [hχo k (hw.dom k a h)]; exact h
  have hlow : ∀ i, (S i).toNat ≤ m → ψ (S i) = φ (F i) := fun i hs => by
    rw [hE.phi (S i) (by rw [nx_small, ← hm]; omega), hFo i hs]
    show φ (rk κ H.nx (S i)) = φ (rk κ .z (S i))
    rw [rk_in (by rw [hF.len, ← hm]; exact hs) H.nx .z]
  have hχF : ∀ i, i < n → χ (F i) = ψ (S i) := fun i hi => by
    by_cases hs : (S i).toNat ≤ m
    · rw [hχo _ (hFlt i hs), hlow i hs]
    · rw [hFn i hs]; exact hχf i hi hs
  have hρ : ∀ (k : K) (a : At), k.toNat ≤ n → ψ (rk sel .z k) = some a → χ (rk κ' .z k) = some a := fun k a hk h => by
    have := k.toNat_pos
    have hi : k.toNat - 1 < n := by omega
    rw [rk_some (hSi _ hi)] at h
    rw [rk_some (hκi _ hi), hχF _ hi]; exact h
  -- the relation of a new block
  have hfin : Fit M κ' bl' := by
    refine ⟨by rw [hκl, hn], ?_, fun k hk => ?_, hS.closed, fun i b k hb hk hl => ?_⟩
    · rw [hκ]
      refine List.pairwise_map.2 ?_
      refine (List.pairwise_lt_range (n := n)).imp_of_mem fun {a b} ha hb hab e => ?_
      have := hinj a b (List.mem_range.1 ha) (List.mem_range.1 hb) e
      omega
    · rw [hκ] at hk
      obtain ⟨i, hi, rfl⟩ := List.mem_map.1 hk
      have hi := List.mem_range.1 hi
      rw [hMn]
      by_cases hs : (S i).toNat ≤ m
      · have := hFlt i hs; omega
      · rw [hFn i hs, Heap.toNat_key]; omega
    · obtain ⟨hi, rfl⟩ := hκb i k hk
      exact hMN i b hi hb hl
  have hren : ∀ b ∈ bl', ∀ a, BlkRel P ψ u a (b.ren (rk sel .z)) → BlkRel P χ u a (b.ren (rk κ' .z)) := fun b hb a h => by
    have h1 := h
    have t : b.ren (rk sel .z) = b.ren (rk sel G0.nx) := hS.ren hb _ _
    rw [t] at h1
    have h2 := h1.ren
    have t2 : b.ren (rk κ' .z) = b.ren (fun k => rk κ' .z k) := rfl
    refine BlkRel.fwd (φ := fun k => ψ (rk sel G0.nx k)) (fun k a hk => ?_) h2
    have hk : ψ (rk sel G0.nx k) = some a := hk
    by_cases hin : k.toNat ≤ n
    · exact hρ k a hin (by rw [rk_in (by rw [hS.len, ← hn]; exact hin) .z G0.nx]; exact hk)
    · rw [rk_none (List.getElem?_eq_none (by rw [hS.len, ← hn]; omega))] at hk
      exact absurd (hW.dom _ _ hk) (Nat.lt_irrefl _)
  have hold : ∀ k b a, k.toNat < H.nx.toNat → g k = none → H.get k = some b → φ k = some a → b.live → ¬ Owned (fun k => φ (rk κ H.nx k)) (hp0.ext bl) a.b := fun k b a hk hgn hb ha hl ho => by
    obtain ⟨i, c, k', a', h1, h2, h3, h4, h5, h6⟩ := hF.own ho
    exact hw.inj k' k _ b a' a (fun e => hg3 k hgn i c h1 (may_live h3) (by rw [← e]; exact h2)) h4 hb h5 ha (Blk.ren_live.2 (may_live h3)) hl h6 (Blk.ren_mayWrite.2 h3)
  have hownF : ∀ b, Owned (fun k => φ (rk κ H.nx k)) (hp0.ext bl) b → Owned φ H b := fun b ho => by
    obtain ⟨i, c, k', a', h1, h2, h3, h4, h5, h6⟩ := hF.own ho
    exact ⟨k', _, a', h4, Blk.ren_mayWrite.2 h3, h5, h6⟩
  -- each live block of M is new, or as it was
  have hkind : ∀ k b a, M.get k = some b → χ k = some a → b.live → (∃ i b', i < n ∧ bl'[i]? = some b' ∧ b'.live ∧ k = F i ∧ b = b'.ren (rk κ' .z) ∧ ψ (S i) = some a ∧ G0.get (S i) = some (b'.ren (rk sel .z))) ∨ (k.toNat < H.nx.toNat ∧ g k = none ∧ H.get k = some b ∧ φ k = some a) := fun k b a hb ha hl => by
    have fin : ∀ i b', i < n → bl'[i]? = some b' → b'.live → k = F i → b = b'.ren (rk κ' .z) → (∃ i b', i < n ∧ bl'[i]? = some b' ∧ b'.live ∧ k = F i ∧ b = b'.ren (rk κ' .z) ∧ ψ (S i) = some a ∧ G0.get (S i) = some (b'.ren (rk sel .z))) := fun i b' hi hb' hl' e1 e2 =>
      ⟨i, b', hi, hb', hl', e1, e2, by rw [← hχF i hi, ← e1]; exact ha, hS.blk i b' _ hb' (hSi i hi) hl'⟩
    rcases hMk k b hb with hk | ⟨i, hi, rfl⟩
    · rw [hMo k hk] at hb
      cases hgk : g k with
      | none =>
        rw [hgk] at hb
        exact .inr ⟨hk, rfl, hb, by rw [← hχo k hk]; exact ha⟩
      | some c =>
        rw [hgk] at hb
        have hb : some c = some b := hb
        cases hb
        rcases hg2 k b hgk with ⟨i, b', h1, h2, h3, h4, h5, h6⟩ | ⟨rfl, _⟩
        · exact .inl (fin i b' h1 h2 h3 h5.symm h6)
        · exact hl.elim
    · rw [hMf i hi] at hb
      by_cases hs : (S i).toNat ≤ m
      · rw [if_pos hs] at hb; cases hb; exact hl.elim
      · rw [if_neg hs] at hb
        have hbl : bl'[i]? = some (bl'[i]'(by rw [← hn]; exact hi)) := List.getElem?_eq_getElem _
        rw [hbl] at hb
        cases hb
        exact .inl (fin i _ hi hbl (Blk.ren_live.1 hl) (hFn i hs).symm rfl)
  have hin' : ∀ b, b ∈ bl' → True := fun _ _ => trivial
  have h0 : WRel0 P χ M u := by
    refine ⟨fun k a h => ?_, fun k b h => ?_, fun k b a hb ha => ?_, fun j k c d x y hjk hc hd hx hy lc ld hxy hmc => ?_, fun k a h => ?_⟩
    · rw [hMn]
      rw [hχ] at h; simp only at h
      split at h
      · omega
      · split at h
        · omega
        · cases h
    · rw [hMn]
      rcases hMk k b h with hk | ⟨i, hi, rfl⟩
      · omega
      · rw [Heap.toNat_key]; omega
    · rcases Blk.dead_or b with rfl | hl
      · trivial
      rcases hkind k b a hb ha hl with ⟨i, b', h1, h2, h3, h4, h5, h6, h7⟩ | ⟨h1, h2, h3, h4⟩
      · rw [h5]
        exact hren b' (List.mem_of_getElem? h2) a (hW.blk _ _ a h7 h6)
      · exact (BlkRel.congr (hE.keeps _ (hw.size k a h4) (hold k b a h1 h2 h3 h4 hl)) (hw.blk k b a h3 h4)).mono hle
    · rcases hkind j c x hc hx lc with ⟨i, b', h1, h2, h3, h4, h5, h6, h7⟩ | ⟨h1, h2, h3, h4⟩
      · rw [h5] at hmc
        have hmc' := Blk.ren_mayWrite.1 hmc
        rcases hkind k d y hd hy ld with ⟨i2, b2, g1, g2, g3, g4, g5, g6, g7⟩ | ⟨g1, g2, g3, g4⟩
        · have hne : i ≠ i2 := fun e => hjk (by rw [h4, g4, e])
          have hne2 : S i ≠ S i2 := fun e => hne (hS.inj (hSi i h1) (by rw [e]; exact hSi i2 g1))
          exact hW.inj _ _ _ _ x y hne2 h7 g7 h6 g6 (Blk.ren_live.2 h3) (Blk.ren_live.2 g3) hxy (Blk.ren_mayWrite.2 hmc')
        · have ho : Owned ψ G0 y.b := ⟨S i, _, x, h7, Blk.ren_mayWrite.2 hmc', h6, hxy⟩
          exact hold k d y g1 g2 g3 g4 ld (hE.own _ (hw.size k y g4) ho)
      · rcases hkind k d y hd hy ld with ⟨i2, b2, g1, g2, g3, g4, g5, g6, g7⟩ | ⟨g1, g2, g3, g4⟩
        · have ho : Owned ψ G0 x.b := ⟨S i2, _, y, g7, Blk.ren_mayWrite.2 (hmw b2 (List.mem_of_getElem? g2) g3), g6, hxy.symm⟩
          exact hold j c x h1 h2 h3 h4 lc (hE.own _ (hw.size j x h4) ho)
        · exact hw.inj j k c d x y hjk h3 g3 h4 g4 lc ld hxy hmc
    · rw [hχ] at h; simp only at h
      split at h
      · exact Nat.lt_of_lt_of_le (hw.size k a h) hE.size
      · split at h
        · split at h
          · cases h
          · exact hW.size _ a h
        · cases h
  have hext : Ext φ H w χ M u := by
    refine ⟨hχo, by rw [hMn]; omega, hE.size, fun b hb ho => hE.keeps b hb fun h => ho (hownF b h), fun k hk hn => ?_, fun b hb ho => ?_, hE.os, hE.tape, hE.output⟩
    · rw [hMo k hk]
      cases hgk : g k with
      | none => rfl
      | some c =>
        exfalso
        rcases hg2 k c hgk with ⟨i, b', h1, h2, h3, h4, h5, h6⟩ | ⟨_, i, c', h1, h2, h3⟩
        · have hpos := (S i).toNat_pos
          have hbl : bl[(S i).toNat - 1]? = some (bl[(S i).toNat - 1]'(by rw [← hm]; omega)) := List.getElem?_eq_getElem _
          rcases Blk.dead_or (bl[(S i).toNat - 1]'(by rw [← hm]; omega)) with e | hl
          · rw [e] at hbl
            have := hop i (S i) b' (hSi i h1) hbl h2
            subst this
            exact h3
          · exact hvis _ _ _ hbl hl (by rw [hSo i h4, h5]) hn
        · exact hvis i c' k h1 h2 h3 hn
    · obtain ⟨k, c, a, h1, h2, h3, h4⟩ := ho
      rcases hkind k c a h1 h3 (may_live h2) with ⟨i, b', g1, g2, g3, g4, g5, g6, g7⟩ | ⟨g1, g2, g3, g4⟩
      · rw [g5] at h2
        exact hownF b (hE.own b hb ⟨S i, _, a, g7, Blk.ren_mayWrite.2 (Blk.ren_mayWrite.1 h2), g6, h4⟩)
      · exact ⟨k, c, a, g3, h2, g4, h4⟩
  obtain ⟨hWM, hEM⟩ := hw.pack h0 hext
  refine ⟨χ, M, κ', hWM, hEM, ⟨hfin, fun i k h1 h2 => ?_, fun k b h1 h2 => ?_, by rw [hMn]; omega, hWM.top, fun k hk => ?_⟩, fun k a hk h => hρ k a (by rw [hn]; exact hk) h⟩
  · have hi : i < n := by rw [hn, ← hS.len]; exact (List.getElem?_eq_some_iff.1 h1).1
    have e : k = S i := by rw [hSi i hi] at h1; exact (Option.some.inj h1).symm
    subst e
    rw [hκi i hi, hSo i (by rw [hm]; exact h2)]
  · have hk := hw.top k b h1
    rw [hMo k hk]
    cases hgk : g k with
    | none => exact h1
    | some c =>
      exfalso
      rcases hg2 k c hgk with ⟨i, b', g1, g2, g3, g4, g5, g6⟩ | ⟨_, i, c', g1, g2, g3⟩
      · have hpos := (S i).toNat_pos
        have hbl : bl[(S i).toNat - 1]? = some (bl[(S i).toNat - 1]'(by rw [← hm]; omega)) := List.getElem?_eq_getElem _
        rcases Blk.dead_or (bl[(S i).toNat - 1]'(by rw [← hm]; omega)) with e | hl
        · rw [e] at hbl
          have := hop i (S i) b' (hSi i g1) hbl g2
          subst this
          exact g3
        · exact h2 _ _ hbl hl (by rw [hSo i g4, g5])
      · exact h2 i c' g1 g2 g3
  · rw [hκ] at hk
    obtain ⟨i, hi, rfl⟩ := List.mem_map.1 hk
    by_cases hs : (S i).toNat ≤ m
    · exact .inl (List.mem_of_getElem? (hSo i hs))
    · exact .inr (by rw [hFn i hs, Heap.toNat_key]; omega)
theorem FnOk.frame {f : FuncId} {args : List AV} {v1 : AV} {κ sel : List K} {bl bl' : List Blk} (h : FnOk P f args (hp0.ext bl) fun v G => v = v1.ren (rk sel .z) ∧ Fit G sel bl') (hF : Fit H κ bl)
    (hr : reachB bl .z (AV.keyss args) = true) (hka : ∀ k ∈ AV.keyss args, k.toNat ≤ bl.length) (hkv : ∀ k ∈ v1.keys, k.toNat ≤ bl'.length) (hmw : ∀ b ∈ bl', b.live → b.mayWrite)
    (hop : ∀ (i : Nat) (k : K) (b : Blk), sel[i]? = some k → bl[k.toNat - 1]? = some .dead → bl'[i]? = some b → b = .dead) :
    FnOk P f (AV.rens (rk κ .z) args) H fun v G => ∃ κ', v = v1.ren (rk κ' .z) ∧ Framed H κ bl sel bl' G κ' := by
  intro φ w args' ha hw
  rw [AV.rens_congr (σ := rk κ H.nx) fun k hk => rk_in (by rw [hF.len]; exact hka k hk) .z H.nx] at ha
  have ha2 := ha.ren
  have hw2 := WRel.small (top := H.nx) hF (Nat.le_refl _) hw
  have hvis : ∀ (i : Nat) (b : Blk) (k : K), bl[i]? = some b → b.live → κ[i]? = some k → φ k ≠ none := fun i b k hb hl hk => by
    have := reach_vis (P := P) (w := w) (φ := φ) (κ := κ) (top := H.nx) bl 0 .z (AV.keyss args) rfl hr (fun j hj => ha2.keys_some j hj) (fun j b hj hl a ha' => by
      rw [Nat.zero_add] at ha'
      have e : (hp0.key j).toNat - 1 = j := by rw [hp0_key]; omega
      have hk : κ[j]? = some (κ[j]'(by rw [hF.len]; exact (List.getElem?_eq_some_iff.1 hj).1)) := List.getElem?_eq_getElem _
      rw [rk_some (by rw [e]; exact hk)] at ha'
      exact hw.blk _ _ a (hF.blkT H.nx j b _ hj hk hl) ha') i b hb hl
    rw [Nat.zero_add, rk_some (j := k) (by rw [hp0_key]; exact hk)] at this
    exact this
  refine (h _ w args' ha2 hw2).mono ?_
  rintro e u ⟨v, G0, ⟨rfl, hS⟩, ψ, v', he, hv, hW, hE⟩
  obtain ⟨χ, M, κ', h1, h2, h3, h4⟩ := frame_rel hw hF hvis hW hE hS hmw hop
  refine ⟨_, M, ⟨κ', rfl, h3⟩, χ, v', he, ?_, h1, h2⟩
  rw [AV.ren_congr (σ := rk sel G0.nx) fun k hk => rk_in (by rw [hS.len]; exact hkv k hk) .z G0.nx] at hv
  refine VRel.fwd (φ := fun k => ψ (rk sel G0.nx k)) (fun k a hk => ?_) hv.ren
  have hk : ψ (rk sel G0.nx k) = some a := hk
  by_cases hin : k.toNat ≤ bl'.length
  · exact h4 k a hin (by rw [rk_in (by rw [hS.len]; exact hin) .z G0.nx]; exact hk)
  · rw [rk_none (List.getElem?_eq_none (by rw [hS.len]; omega))] at hk
    exact absurd (hW.dom _ _ hk) (Nat.lt_irrefl _)

/-! ### What the kernel looks at -/
noncomputable def nodupB (l : List K) : Bool := List.rec (motive := fun _ => Bool) true (fun k l ih => bif' (memK k l) false ih) l
theorem memK_iff {k : K} {l : List K} (h : k ∈ l) : memK k l = true := by
  induction l with
  | nil => cases h
  | cons x l ih =>
    show bif' (K.beq k x) true (memK k l) = true
    cases hb : K.beq k x with
    | true => rfl
    | false =>
      rcases List.mem_cons.1 h with rfl | h
      · rw [(K.beq_iff k k).2 rfl] at hb; cases hb
      · exact ih h
theorem nodupB_ok : ∀ {l : List K}, nodupB l = true → l.Nodup
  | [], _ => List.nodup_nil
  | k :: l, h => by
    have h : bif' (memK k l) false (nodupB l) = true := h
    cases hm : memK k l with
    | true => rw [hm] at h; cases h
    | false =>
      rw [hm] at h
      refine List.nodup_cons.2 ⟨fun hk => ?_, nodupB_ok h⟩
      rw [memK_iff hk] at hm; cases hm
noncomputable def allB {α : Type} (f : α → Bool) (l : List α) : Bool := List.rec (motive := fun _ => Bool) true (fun x _ ih => bif' (f x) ih false) l
theorem allB_ok {α : Type} {f : α → Bool} : ∀ {l : List α}, allB f l = true → ∀ x ∈ l, f x = true
  | y :: l, h, x, hx => by
    have h : bif' (f y) (allB f l) false = true := h
    cases hy : f y with
    | false => rw [hy] at h; cases h
    | true =>
      rw [hy] at h
      rcases List.mem_cons.1 hx with rfl | hx
      · exact hy
      · exact allB_ok h x hx
noncomputable def isDead (b : Blk) : Bool := Blk.rec (motive := fun _ => Bool) true (fun _ _ _ => false) (fun _ => false) b
noncomputable def mayB (b : Blk) : Bool := Blk.rec (motive := fun _ => Bool) true (fun w _ _ => w) (fun _ => true) b
noncomputable def leK (n : Nat) (k : K) : Bool := Nat.ble k.toNat n
noncomputable def chkB (bl bl' : List Blk) (sel : List K) (args : List AV) (v1 : AV) : Bool :=
  bif' (Nat.beq sel.length bl'.length) (bif' (nodupB sel) (bif' (allB (fun b => allB (leK bl'.length) b.keysA) bl') (bif' (allB mayB bl') (bif' (reachB bl .z (AV.keyss args))
    (bif' (allB (leK bl.length) (AV.keyss args)) (bif' (allB (leK bl'.length) v1.keys) (allB (fun p => bif' (Option.rec (motive := fun _ => Bool) false (fun b => isDead b) (bl[p.1.toNat - 1]?)) (isDead p.2) true) (sel.zip bl')) false) false) false) false) false) false) false
/-- what is left: its answer, whether its names are there, its blocks -/
noncomputable def runL (r : RC) (sel : List K) (bl' : List Blk) : Option (AV × Bool × List (Option Blk)) :=
  RC.rec (motive := fun _ => Option (AV × Bool × List (Option Blk))) none (fun v G => some (v, allB (fun k => Nat.blt k.toNat G.nx.toNat) sel, (sel.zip bl').map fun p => bif' (isDead p.2) none (G.get p.1))) r
noncomputable def wantL (sel : List K) (bl' : List Blk) : List (Option Blk) := (sel.zip bl').map fun p => bif' (isDead p.2) none (some (p.2.ren (rk sel .z)))
theorem bif_split {a b : Bool} (h : bif' a b false = true) : a = true ∧ b = true := by cases a <;> simp_all [bif']
theorem FnOk.run {X : Orc} (hX : GoodX P X) {n : Nat} {f : FuncId} {args : List AV} {bl bl' : List Blk} {sel κ : List K} {v1 : AV} (hc : chkB bl bl' sel args v1 = true)
    (hr : runL (evFn P X n f args (hp0.ext bl)) sel bl' = some (v1.ren (rk sel .z), true, wantL sel bl')) (hF : Fit H κ bl) :
    FnOk P f (AV.rens (rk κ .z) args) H fun v G => ∃ κ', v = v1.ren (rk κ' .z) ∧ Framed H κ bl sel bl' G κ' := by
  obtain ⟨c1, hc⟩ := bif_split hc
  obtain ⟨c2, hc⟩ := bif_split hc
  obtain ⟨c3, hc⟩ := bif_split hc
  obtain ⟨c4, hc⟩ := bif_split hc
  obtain ⟨c5, hc⟩ := bif_split hc
  obtain ⟨c6, hc⟩ := bif_split hc
  obtain ⟨c7, c8⟩ := bif_split hc
  have hlen := Nat.eq_of_beq_eq_true c1
  have hmw : ∀ b ∈ bl', b.live → b.mayWrite := fun b hb hl => by
    have := allB_ok c4 b hb
    cases b with
    | dead => exact hl.elim
    | row wr esz rows => exact this
    | map es => trivial
  refine FnOk.frame ?_ hF c5 (fun k hk => Nat.le_of_ble_eq_true (allB_ok c6 k hk)) (fun k hk => Nat.le_of_ble_eq_true (allB_ok c7 k hk)) hmw fun i k b h1 h2 h3 => ?_
  · cases hev : evFn P X n f args (hp0.ext bl) with
    | fail => rw [hev] at hr; cases hr
    | ok v G =>
      rw [hev] at hr
      have hr : some (v, allB (fun k => Nat.blt k.toNat G.nx.toNat) sel, (sel.zip bl').map fun p => bif' (isDead p.2) none (G.get p.1)) = some (v1.ren (rk sel .z), true, wantL sel bl') := hr
      simp only [Option.some.injEq, Prod.mk.injEq] at hr
      obtain ⟨r1, r2, r3⟩ := hr
      refine (FnOk.of_ev hX hev).mono ?_
      rintro v' G' ⟨rfl, rfl⟩
      refine ⟨r1, hlen, nodupB_ok c2, fun k hk => ?_, fun b hb k hk => Nat.le_of_ble_eq_true (allB_ok (allB_ok c3 b hb) k hk), fun i b k hb hk hl => ?_⟩
      · have := allB_ok r2 k hk
        have h2 : Nat.ble (k.toNat + 1) G'.nx.toNat = true := this
        exact Nat.le_of_ble_eq_true h2
      · have hz : (sel.zip bl')[i]? = some (k, b) := by rw [List.getElem?_zip_eq_some]; exact ⟨hk, hb⟩
        have := congrArg (fun l => l[i]?) r3
        simp only [wantL, List.getElem?_map, hz, Option.map_some] at this
        have hd : isDead b = false := by cases b with
          | dead => exact hl.elim
          | row _ _ _ => rfl
          | map _ => rfl
        rw [hd] at this
        exact Option.some.inj this
  · have hz : (sel.zip bl')[i]? = some (k, b) := by rw [List.getElem?_zip_eq_some]; exact ⟨h1, h3⟩
    have := allB_ok c8 (k, b) (List.mem_of_getElem? hz)
    simp only [h2] at this
    have : isDead b = true := this
    cases b with
    | dead => rfl
    | row _ _ _ => cases this
    | map _ => cases this
end Go.Ev
/- Calls in regions that draw their order, behind a call whose memory is told of by what holds in it. -/

set_option linter.all false
namespace Go.Ev
variable {P : Program} {H : Heap}
open Classical in
/-- calls of which something is told, known beforehand: any answer, any memory of which it holds -/
noncomputable def EC (P : Program) (R : FuncId → List AV → Heap → AV → Heap → Prop) : FuncId → List AV → Heap → RC := fun f args H =>
  if h : ∃ v X, FnOk P f args H (fun r G => r = v ∧ G = X) ∧ R f args H v X then .ok h.choose h.choose_spec.choose else .fail
theorem good_EC (P : Program) (R : FuncId → List AV → Heap → AV → Heap → Prop) : Ev.Good P (EC P R) := by
  intro f args H r G he φ w args' ha hw
  refine (?_ : FnOk P f args H fun v' G' => v' = r ∧ G' = G).one φ w args' ha hw
  unfold EC at he
  split at he
  · rename_i h
    have := h.choose_spec.choose_spec.1
    cases he
    exact this
  · cases he
theorem EC_ex {R : FuncId → List AV → Heap → AV → Heap → Prop} {f : FuncId} {args : List AV} {v : AV} {X : Heap} (h1 : FnOk P f args H fun r G => r = v ∧ G = X) (h2 : R f args H v X) : ∃ v X, EC P R f args H = .ok v X ∧ R f args H v X := by
  have h : ∃ v X, FnOk P f args H (fun r G => r = v ∧ G = X) ∧ R f args H v X := ⟨v, X, h1, h2⟩
  exact ⟨_, _, by unfold EC; rw [dif_pos h], h.choose_spec.choose_spec.2⟩
end Go.Ev
/- what is asked of a node of one shard, whatever it is that its shard does: walked. -/


set_option linter.all false
set_option maxRecDepth 100000
namespace Go.Proofs
open Go Go.Ev
variable {H : Heap}
/-- a shard as another one is, no events: nil -/
def Rel (s t : Sh) : Prop := sameSh s t ∧ (s.evs = [] → s.ev = .nils)
theorem Rel.cop {s t : Sh} (h : Rel s t) (a b c : K) : Rel (s.cop a b c) t := ⟨h.1, fun e => by
  have e : s.evs = [] := e
  show zV (nilB s.ev) b 4 s.evs.length = .nils
  rw [h.2 e, e]; rfl⟩
theorem Rel.evV {s t : Sh} (h : Rel s t) (a b c : K) : (s.cop a b c).ev = outV b 4 s.evs.length := by
  show zV (nilB s.ev) b 4 s.evs.length = outV b 4 s.evs.length
  cases he : s.evs with
  | nil => rw [h.2 he]; rfl
  | cons x l => rfl
theorem Rel.small {s t : Sh} (h : Rel s t) (ht : smallS t) : smallS s := by
  obtain ⟨h1, h2, h3, h4, h5, h6, h7, h8⟩ := h.1
  exact ⟨by rw [h8]; exact ht.b, by rw [h6]; exact ht.c, by rw [h7]; exact ht.e, by rw [h8]; exact ht.d⟩
theorem Rel.sh {s t : Sh} (h : Rel s t) (ht : isSh t) : isSh s := isSh_same h.1 ht
theorem Rel.find {s t : Sh} (h : Rel s t) {key : List Nat} (ht : findQ key t = true) : findQ key s = true := by
  obtain ⟨h1, h2, h3, h4, h5, h6, h7, h8⟩ := h.1
  unfold findQ at ht ⊢
  rwa [h5, h3, h4]
/-- where a batch's writes lie -/
def okW (w : Option (K × List (List AV))) (H : Heap) : Prop := ∀ k rows, w = some (k, rows) → H.get k = some (.row true 3 rows)
theorem okW.ext {w : Option (K × List (List AV))} (hok : H.ok) (h : okW w H) (L : List Blk) : okW w (H.ext L) := fun k rows e => Heap.get_ext_old hok (h k rows e) L
/-- an op; a request for it -/
def opL (kd : Int) (key to val : List Nat) (n : Int) (wv : AV) : List AV := [.int .i64 kd, .str key, .str to, .str val, .int .i64 n, wv]
def reqL (ses id : Int) (o : List AV) : List AV := [.int .i64 2, .int .i64 ses, .int .i64 id, .int .i64 0, .int .i64 0, .int .i64 0] ++ (o ++ [.str [], .str [], .nils, .nils])
/-- s comes to t by a request -/
structure Does (ses id kd : Int) (key to val : List Nat) (n : Int) (wv : AV) (w : Option (K × List (List AV))) (fk : List Nat) (s t : Sh) (av : Int) : Prop where
  does : ∀ (H : Heap) (x : Sh) (ke : K), H.ok → x.ok H → Rel x s → x.ev = outV ke 4 x.evs.length → okW w H → ∃ y L, FnOk Tryz.prog 82 [.agg x.enc, .int .i64 ses, .int .i64 id, .agg (opL kd key to val n wv)] H (fun r G => r = .tup [.agg y.enc, .agg [.int .i64 0, .str [], .int .i64 av, .nils], .int .i64 0] ∧ G = H.ext L) ∧ y.ok (H.ext L) ∧ Rel y t
  fkey : ∀ H : Heap, H.ok → okW w H → FnOk Tryz.prog 80 [.agg (opL kd key to val n wv)] H fun r G => r = .str fk ∧ G = H
  wri : ∀ H : Heap, H.ok → okW w H → FnOk Tryz.prog 83 [.agg (opL kd key to val n wv)] H fun r G => r = .bool true ∧ G = H
  find : findQ fk s = true
  sh : isSh s
  small : smallS s
  small2 : smallS t
  id1 : s.id = t.id
section
variable {G : Heap} {k : K} {lv gv : AV} {gs : List Gn} {s t0 s0 : Sh} {ses id kd n av : Int} {key to val fk : List Nat} {wv : AV} {w : Option (K × List (List AV))}
theorem f110_askE (D : Does ses id kd key to val n wv w fk s0 t0 av) (h : isHd G k lv gv [s] gs) (hR : Rel s s0) (hw : okW w G) : ∃ X, FnOk Tryz.prog 110 [.ptr k 0, .agg (reqL ses id (opL kd key to val n wv))] G (fun r G' => r = .tup [.agg [.int .i64 0, .str [], .int .i64 av, .nils], .nili] ∧ G' = X) ∧ (∃ lv' t, isHd X k lv' gv [t] gs ∧ Rel t t0) ∧ Nx k G X := by
  have hso := h.each s (by simp)
  obtain ⟨L0, hL0⟩ : ∃ L0, L0 = [Blk.row true 16 [reqL ses id (opL kd key to val n wv)], .row true 4 [zA], zB (nilB s.cv) 5 (s.cells.map Cell.enc), zB (nilB s.ev) 4 (s.evs.map Evn.enc), zB (nilB s.dv) 6 (s.done.map Dn.enc), .row true 8 [(s.cop (G.key 2) (G.key 3) (G.key 4)).enc]] := ⟨_, rfl⟩
  obtain ⟨t, L, hx, haok, hPt⟩ := D.does (G.ext L0) (s.cop (G.key 2) (G.key 3) (G.key 4)) _ (Heap.ok_ext h.ok _) (by rw [hL0]; exact Sh.cop_ok hso rfl rfl rfl) (hR.cop _ _ _) (hR.evV _ _ _) (hw.ext h.ok _)
  obtain ⟨M, hM⟩ : ∃ M, M = (G.ext L0).ext L := ⟨_, rfl⟩
  rw [← hM] at hx haok
  rw [hL0] at hM
  have htsm := hPt.small D.small2
  have htid : s.id = t.id := hR.1.1.trans (D.id1.trans hPt.1.1.symm)
  have hMok : M.ok := by rw [hM]; exact Heap.ok_ext (Heap.ok_ext h.ok _) _
  have e1 := get_of_ext hM (i := 1) rfl
  have e5 := get_of_ext hM (i := 5) rfl
  have hset := set_of_ext hM (i := 5) (Nat.lt_of_sub_eq_succ rfl)
  have g1 := fun L => Heap.get_ext_old hMok e1 L
  have s5 := fun b (l : List Blk) (α : Type) (c' : Heap → α) => Heap.setC_here hMok e5 b l c'
  have k5 := fun b (l : List Blk) => Heap.get_set_here hMok e5 b l
  have g5 := fun L => Heap.get_ext_old hMok e5 L
  have hh : ∀ b l, isHd ((M.set (G.key 5) b).ext l) k lv gv [s] gs := fun b l => by
    obtain ⟨M2, e⟩ := hset b l
    rw [e]
    exact h.ext M2
  have hn : ∀ b l, Nx k G ((M.set (G.key 5) b).ext l) := fun b l => by
    obtain ⟨M2, e⟩ := hset b l
    rw [e]
    exact Nx.ext h.ok M2
  have ha : ∀ b l, t.ok ((M.set (G.key 5) b).ext l) := fun b l => ⟨(haok.c.set e5 (by decide)).ext l, (haok.e.set e5 (by decide)).ext l, (haok.d.set e5 (by decide)).ext l, bareL.ok htsm.b _, haok.cl, haok.el, haok.dl⟩
  have hne : G.key 5 ≠ G.key 1 := fun e => by
    have := congrArg K.toNat e
    rw [Heap.toNat_key, Heap.toNat_key] at this
    omega
  have hg1 : ∀ b l, ((M.set (G.key 5) b).ext l).get (G.key 1) = _ := fun b l => Heap.get_set_there hMok e1 hne b l
  have hg0 : ∀ b x, ((M.set (G.key 5) b).ext [x]).get (M.key 0) = some x := fun b x => Heap.get_key_set (Nat.zero_lt_succ _)
  obtain ⟨M3, hx3, ⟨lv3, h3⟩, n3⟩ := f174_sameE (s := t) (hh (.row true 8 [t.enc]) [.row true 4 [[.int .i64 0, .str [], .int .i64 av, .nils]]]) htid (ha _ _) htsm
  have hMk : k ≠ M.key 0 := by
    have hMG := h.ok _ _ h.row
    rintro rfl
    have h1 := hMok _ _ (by rw [hM, Heap.ext_append]; exact Heap.get_ext_old h.ok h.row _)
    rw [Heap.toNat_key] at h1
    omega
  have q0 := n3.keep (M.key 0) _ hMk (hg0 _ _)
  have q1 := n3.keep (G.key 1) _ (ne_key h.ok h.row 1) (hg1 _ _)
  have r0 := fun L => Heap.get_ext_old h3.ok q0 L
  have r1 := fun L => Heap.get_ext_old h3.ok q1 L
  have s1 := fun b (l : List Blk) (α : Type) (c' : Heap → α) => Heap.setC_here h3.ok q1 b l c'
  have k1 := fun b (l : List Blk) => Heap.get_set_here h3.ok q1 b l
  refine ⟨(M3.set (G.key 1) (.row true 4 [[.int .i64 0, .str [], .int .i64 av, .nils]])).ext [], ?_, ⟨lv3, t, (h3.cell q1 _).ext [], hPt⟩, ((hn _ _).trans n3).cell h.ok h3.ok q1 _ _⟩
  refine FnOk.of_WW Tryz.func110 rfl C110ok R110ok E0 good_E0 ?_
  have fk := fun H ho hw => D.fkey H ho hw
  simp only [opL] at fk hx
  simp only [go_sem, C110, reqL, opL, List.cons_append, List.nil_append]
  refine CL.of (fk _ (Heap.ok_ext h.ok _) (hw.ext h.ok _)) ?_
  rintro _ G' ⟨rfl, hG⟩; rw [hG]; clear hG
  simp only [go_sem]
  refine CL.of (f79_yes (h.ext _) _ (i := 0) (idx_one (hR.find D.find)) rfl) ?_
  rintro _ G' ⟨rfl, hG⟩; rw [hG]; clear hG
  simp only [go_sem, Sh.cop, Sh.enc, copB, Heap.key_ext]
  rw [hL0] at hx
  simp only [reqL, opL, List.cons_append, List.nil_append] at hx
  refine CL.of hx ?_
  rintro _ G' ⟨rfl, hG⟩; rw [hG]; clear hG
  refine WW.nil ?_
  simp only [go_sem, Sh.enc, g5, s5, k5]
  refine CL.of hx3 ?_
  rintro _ G' ⟨rfl, hG⟩; rw [hG]; clear hG
  refine WW.nil ?_
  simp only [go_sem, r0, r1, s1, k1]
theorem f44_askE (D : Does ses id kd key to val n wv w fk s0 t0 av) (h : isHd G k lv gv [s] gs) (hR : Rel s s0) (hw : okW w G) : ∃ X, FnOk Tryz.prog 44 [.ptr k 0, .agg (reqL ses id (opL kd key to val n wv))] G (fun r G' => r = .tup [.agg [.int .i64 0, .str [], .int .i64 av, .nils], .nili] ∧ G' = X) ∧ (∃ lv' t, isHd X k lv' gv [t] gs ∧ Rel t t0) ∧ Nx k G X := by
  obtain ⟨L0, hL0⟩ : ∃ L0, L0 = [Blk.row true 16 [reqL ses id (opL kd key to val n wv)], .row true 4 [zA], .row true 2 [[lv, gv]], .row true 4 [zA]] := ⟨_, rfl⟩
  obtain ⟨G1, hx, ⟨lv', t, hhd, hPt⟩, hnx⟩ := f110_askE D (h.ext L0) hR (hw.ext h.ok _)
  have e1 := hnx.keep (G.key 1) _ (ne_key h.ok h.row 1) (by rw [hL0]; exact get_lit rfl)
  have e3 := hnx.keep (G.key 3) _ (ne_key h.ok h.row 3) (by rw [hL0]; exact get_lit rfl)
  have g3 := fun L => Heap.get_ext_old hhd.ok e3 L
  have s3 := fun b (l : List Blk) (α : Type) (c' : Heap → α) => Heap.setC_here hhd.ok e3 b l c'
  have k3 := fun b (l : List Blk) => Heap.get_set_here hhd.ok e3 b l
  have hne : G.key 3 ≠ G.key 1 := fun e => by
    have := congrArg K.toNat e
    rw [Heap.toNat_key, Heap.toNat_key] at this
    omega
  have o2 : ∀ b, (G1.set (G.key 3) b).ok := fun b => Heap.ok_set hhd.ok e3
  have e1' : ∀ b, (G1.set (G.key 3) b).get (G.key 1) = some (.row true 4 [[.int .i64 0, .str [], .int .i64 0, .nils]]) := fun b => by
    have := Heap.get_set_there hhd.ok e1 hne b []
    rwa [Heap.ext_nil] at this
  have g1 := fun b L => Heap.get_ext_old (o2 b) (e1' b) L
  have s1 := fun b b' (l : List Blk) (α : Type) (c' : Heap → α) => Heap.setC_here (o2 b) (e1' b) b' l c'
  have k1 := fun b b' (l : List Blk) => Heap.get_set_here (o2 b) (e1' b) b' l
  have hn3 : ∀ b, Nx k G (G1.set (G.key 3) b) := fun b => by
    have := ((Nx.ext h.ok _).trans hnx).cell h.ok hhd.ok e3 b []
    rwa [Heap.ext_nil] at this
  have hk' : ∀ L, (G.ext L).get k = _ := fun L => Heap.get_ext_old h.ok h.row L
  refine ⟨_, ?a, ⟨lv', t, ((hhd.cell e3 ?b).cell (e1' ?b) ?c).ext ?d, hPt⟩, (hn3 ?b).cell h.ok (o2 ?b) (e1' ?b) ?c ?d⟩
  rw [hL0] at hx
  simp only [reqL, opL, List.cons_append, List.nil_append] at hx
  refine FnOk.of_WW Tryz.func44 rfl C44ok R44ok E0 good_E0 ?_
  simp only [go_sem, C44, hk', reqL, opL, List.cons_append, List.nil_append]
  refine CL.of hx ?_
  rintro _ G' ⟨rfl, hG⟩; rw [hG]; clear hG
  refine WW.nil ?_
  simp only [go_sem, g3, s3, k3]
  refine CL.of (f113_none _) ?_
  rintro _ G' ⟨rfl, hG⟩; rw [hG]; clear hG
  simp only [go_sem]
  refine CL.of (f65_ok none 10) ?_
  rintro _ G' ⟨rfl, hG⟩; rw [hG]; clear hG
  simp only [go_sem, g3, s3, k3, g1, s1, k1]
  exact rfl
end
end Go.Proofs
/- a request noted by a node: walked. -/

set_option linter.all false
set_option maxRecDepth 100000
namespace Go.Proofs
open Go Go.Ev
section
variable {G : Heap} {kn kd kj kh : K} {s t0 s0 : Sh} {ses id kd0 n0 av : Int} {key to val fk : List Nat} {wv : AV} {w : Option (K × List (List AV))}
/-- what a request comes to -/
def askR (kh : K) (av : Int) (t0 : Sh) (f : FuncId) (args : List AV) (H : Heap) (v : AV) (X : Heap) : Prop := v = .tup [.agg [.int .i64 0, .str [], .int .i64 av, .nils], .nili] ∧ (∃ lv' t, isHd X kh lv' .nils [t] [] ∧ Rel t t0) ∧ Nx kh H X
theorem okW.keep {ks : List K} {G' : Heap} (hw : okW w G) (hk : Kp ks G G') (hks : ∀ j ∈ ks, ∀ rows, G.get j ≠ some (.row true 3 rows)) : okW w G' := fun k rows e => hk.keep k _ (fun hm => hks k hm rows (hw k rows e)) (hw k rows e)
theorem f25_ask (D : Does ses id kd0 key to val n0 wv w fk s0 t0 av) {x0 wts x5 x6 x7 lv : AV} {bs T : List Nat} {n m : Nat} (hn : G.get kn = some (.row true 8 [[x0, .ptr kd 0, .ptr kj 0, .ptr kh 0, wts, x5, x6, x7]])) (hd : G.get kd = some (.row true 2 [[.str bs, .int .i64 n]])) (hj : G.get kj = some (.row true 2 [[.ptr kd 0, .int .i64 m]]))
    (hh : isHd G kh lv .nils [s] []) (hR : Rel s s0) (hw : okW w G) (hB : ∀ J : Heap, J.ok → okW w J → FnOk Tryz.prog 54 [.agg (reqL ses id (opL kd0 key to val n0 wv))] J fun r J' => r = .str T ∧ J' = J) (hT : T ≠ []) (hTl : T.length < 1000000) (hl : bs.length + (wrapT T).length ≤ 200000) (hnl : n ≤ bs.length) (hm : m < 1000000) :
    FnOk Tryz.prog 25 [.ptr kn 0, .agg (reqL ses id (opL kd0 key to val n0 wv))] G fun r G' => r = .tup [.agg [.int .i64 0, .str [], .int .i64 av, .nils], .nili] ∧
      G'.get kd = some (.row true 2 [[.str (bs ++ wrapT T), .int .i64 ((n + (wrapT T).length : Nat) : Int)]]) ∧ G'.get kj = some (.row true 2 [[.ptr kd 0, .int .i64 ((m + 1 : Nat) : Int)]]) ∧
      (∃ lv' t, isHd G' kh lv' .nils [t] [] ∧ Rel t t0) ∧ Kp [kd, kj, kh] G G' := by
  refine FnOk.of_WW Tryz.func25 rfl C25ok R25ok (EC Tryz.prog (askR kh av t0)) (good_EC _ _) ?_
  have hn' := fun L => Heap.get_ext_old hh.ok hn L
  obtain ⟨rl, hrl⟩ : ∃ rl, rl = reqL ses id (opL kd0 key to val n0 wv) := ⟨_, rfl⟩
  have hrl' : [AV.int .i64 2, .int .i64 ses, .int .i64 id, .int .i64 0, .int .i64 0, .int .i64 0, .int .i64 kd0, .str key, .str to, .str val, .int .i64 n0, wv, .str [], .str [], .nils, .nils] = rl := by rw [hrl]; rfl
  simp only [go_sem, C25, hn', reqL, opL, List.cons_append, List.nil_append]
  refine CL.of f23_ok ?_
  rintro _ G' ⟨rfl, hG⟩; rw [hG]; clear hG
  simp only [go_sem, hn']
  refine CL.of (f55_one (hh.ext _)) ?_
  rintro _ G1 ⟨c, cv, ev, dv, L, rfl, rfl, hA, ho⟩
  simp only [go_sem, hn', baseL, Heap.key_ext]
  rw [hrl'] at hA ho ⊢
  have hF := (hh.ext [Blk.row true 16 [rl], .row true 4 [zA], .row true 2 [[.nils, .nils]]]).ext L
  have ht : isHd ((G.ext [Blk.row true 16 [rl], .row true 4 [zA], .row true 2 [[.nils, .nils]]]).ext L) (G.key 2) .nils .nils [] [] := ⟨hF.ok, get_lit2 rfl, .inl ⟨rfl, rfl⟩, .inl ⟨rfl, rfl⟩, by simp, by simp, by simp⟩
  have hPc := hR.cop cv ev dv
  refine CL.of (f44_base1 ht hA ho (hPc.sh D.sh) (hPc.small D.small)) ?_
  rintro _ G' ⟨rfl, ⟨lv2, cv2, ev2, dv2, ht2⟩, hnx⟩
  obtain ⟨G2, hG2⟩ : ∃ G2, G2 = G' := ⟨_, rfl⟩
  rw [← hG2] at ht2 hnx ⊢
  clear hG2
  have hk2 : kh ≠ G.key 2 := ne_key hh.ok hh.row 2
  have hh2 := ht.other hF hk2 ht2.ok hnx
  have n02 : G.key 2 ≠ G.key 0 := fun e => by
    have := congrArg K.toNat e
    rw [Heap.toNat_key, Heap.toNat_key] at this
    omega
  have n12 : G.key 2 ≠ G.key 1 := fun e => by
    have := congrArg K.toNat e
    rw [Heap.toNat_key, Heap.toNat_key] at this
    omega
  have e0 := hnx.keep (G.key 0) _ n02 (get_lit2 rfl)
  have e1 := hnx.keep (G.key 1) _ n12 (get_lit2 rfl)
  rw [Heap.ext_append] at hnx
  have kp2 := Nx.kp hh.ok hnx
  have hn2 := kp2.keep _ _ List.not_mem_nil hn
  have hd2 := kp2.keep _ _ List.not_mem_nil hd
  have hj2 := kp2.keep _ _ List.not_mem_nil hj
  have hw2 : okW w G2 := hw.keep kp2 (by simp)
  rw [hrl] at e0
  simp only [reqL, opL, List.cons_append, List.nil_append] at e0
  have g0 := fun L => Heap.get_ext_old ht2.ok e0 L
  have g1 := fun L => Heap.get_ext_old ht2.ok e1 L
  have gn := fun L => Heap.get_ext_old ht2.ok hn2 L
  have hPc2 := hPc.cop cv2 ev2 dv2
  refine WW.nil ?_
  simp only [go_sem, zA, g0, g1, gn]
  obtain ⟨X3, hx3, ⟨lv3, t3, ht3, -⟩, hnx3⟩ := f44_askE D (ht2.ext [.row true 4 [zA]]) hPc2 (hw2.ext ht2.ok _)
  simp only [reqL, opL, List.cons_append, List.nil_append, zA] at hx3
  refine CL.of hx3 ?_
  rintro _ G' ⟨rfl, hG⟩
  obtain ⟨G3, hG3⟩ : ∃ G3, G3 = X3 := ⟨_, rfl⟩
  rw [hG]
  rw [← hG3] at ht3 hnx3 ⊢
  clear hG3 hG hx3
  have hh3 := (ht2.ext _).other (hh2.ext _) hk2 ht3.ok hnx3
  have f0 := hnx3.keep (G.key 0) _ n02 (g0 _)
  have f1 := hnx3.keep (G.key 1) _ n12 (g1 _)
  have kp3 : Kp [] G G3 := kp2.nx hh.ok ht2.ok hnx3
  have hn3 := kp3.keep _ _ List.not_mem_nil hn
  have hd3 := kp3.keep _ _ List.not_mem_nil hd
  have hj3 := kp3.keep _ _ List.not_mem_nil hj
  have hw3 : okW w G3 := hw.keep kp3 (by simp)
  have u0 := fun L => Heap.get_ext_old ht3.ok f0 L
  have u1 := fun L => Heap.get_ext_old ht3.ok f1 L
  have un := fun L => Heap.get_ext_old ht3.ok hn3 L
  refine WW.nil ?_
  simp only [go_sem, zA, u0, u1, un]
  have hB' := fun J ho hJ => hB J ho hJ
  simp only [reqL, opL, List.cons_append, List.nil_append] at hB'
  refine CL.of (hB' _ (Heap.ok_ext ht3.ok _) (hw3.ext ht3.ok _)) ?_
  rintro _ G' ⟨rfl, hG⟩
  rw [hG]
  clear hG
  simp only [go_sem, zA, u0, u1, un]
  refine ⟨fun h => absurd h hT, fun _ => ?_⟩
  have nkn : kd ≠ kn := by rintro rfl; rw [hn] at hd; cases hd
  have njn : kj ≠ kn := by rintro rfl; rw [hn] at hj; cases hj
  have nkj : kd ≠ kj := by rintro rfl; rw [hd] at hj; cases hj
  have nkh : kd ≠ kh := by have := hh.row; rintro rfl; rw [hd] at this; cases this
  have njh : kj ≠ kh := by have := hh.row; rintro rfl; rw [hj] at this; cases this
  have nhn : kh ≠ kn := by have := hh.row; rintro rfl; rw [hn] at this; cases this
  refine CL.of (f66_ok (Heap.get_ext_old ht3.ok hj3 _) (Heap.get_ext_old ht3.ok hd3 _) hl hnl hm hTl) ?_
  rintro _ G' ⟨rfl, hG⟩
  obtain ⟨G4, hG4⟩ : ∃ G4, G4 = G' := ⟨_, rfl⟩
  rw [← hG4] at hG ⊢
  clear hG4
  have keep4 : ∀ j b, kd ≠ j → kj ≠ j → G3.get j = some b → G4.get j = some b := fun j b h1 h2 h => by
    rw [hG, Heap.get_set, if_neg h2, Heap.get_set, if_neg h1]
    exact Heap.get_ext_old ht3.ok h _
  have hh4 : isHd G4 kh lv .nils [s] [] := by
    rw [hG]
    refine ((hh3.ext _).set2 (Heap.get_ext_old ht3.ok hd3 _) (by simp) nkh _).set2 (wr := true) (x := .ptr kd 0) (y := .int .i64 m) ?_ (by simp) njh _
    rw [Heap.get_set, if_neg nkj]
    exact Heap.get_ext_old ht3.ok hj3 _
  have m0 := keep4 _ _ (ne_key hh.ok hd 0) (ne_key hh.ok hj 0) f0
  have m1 := keep4 _ _ (ne_key hh.ok hd 1) (ne_key hh.ok hj 1) f1
  have mn := keep4 _ _ nkn njn hn3
  have md : G4.get kd = some (.row true 2 [[.str (bs ++ wrapT T), .int .i64 ((n + (wrapT T).length : Nat) : Int)]]) := by rw [hG, Heap.get_set, if_neg (Ne.symm nkj), Heap.get_set, if_pos rfl]
  have mj : G4.get kj = some (.row true 2 [[.ptr kd 0, .int .i64 ((m + 1 : Nat) : Int)]]) := by rw [hG, Heap.get_set, if_pos rfl]
  have kp4 : Kp [kd, kj, kh] G G4 := ⟨fun j b hj' hb => keep4 _ _ (by rintro rfl; simp at hj') (by rintro rfl; simp at hj') (kp3.keep j b List.not_mem_nil hb), by rw [hG]; exact Nat.le_trans kp3.le (by rw [Heap.nx_set, Heap.nx_set, Heap.nx_ext, Heap.toNat_key]; exact Nat.le_add_right _ _)⟩
  have n3 : ∀ j ∈ [kd, kj, kh], ∀ rows, G.get j ≠ some (.row true 3 rows) := fun j hm rows e => by
    simp only [List.mem_cons, List.not_mem_nil, or_false] at hm
    rcases hm with rfl | rfl | rfl
    · rw [hd] at e; cases e
    · rw [hj] at e; cases e
    · rw [hh.row] at e; cases e
  have hw4 : okW w G4 := hw.keep kp4 n3
  have v0 := fun L => Heap.get_ext_old hh4.ok m0 L
  have v1 := fun L => Heap.get_ext_old hh4.ok m1 L
  have vn := fun L => Heap.get_ext_old hh4.ok mn L
  clear hG
  obtain ⟨X, hx, hx2, hx3⟩ := f44_askE D (hh4.ext []) hR (hw4.ext hh4.ok _)
  obtain ⟨_, G5, he, rfl, ⟨lv5, t, ht5, hPt⟩, hnx5⟩ := EC_ex (R := askR kh av t0) hx ⟨rfl, hx2, hx3⟩
  simp only [reqL, opL, List.cons_append, List.nil_append] at he
  have w1 := hnx5.keep _ _ (ne_key hh.ok hh.row 1) (v1 [])
  have wd := hnx5.keep _ _ (Ne.symm nkh) (Heap.get_ext_old hh4.ok md [])
  have wj := hnx5.keep _ _ (Ne.symm njh) (Heap.get_ext_old hh4.ok mj [])
  simp only [zA] at w1
  have s1 : ∀ b (α : Type) (c' : Heap → α), G5.setC (G.key 1) b c' = c' (G5.set (G.key 1) b) := fun b α c' => by
    have := Heap.setC_here ht5.ok w1 b [] c'
    rwa [Heap.ext_nil, Heap.ext_nil] at this
  have k1 : ∀ b, (G5.set (G.key 1) b).get (G.key 1) = some b := fun b => by rw [Heap.get_set, if_pos rfl]
  refine WW.nil ?_
  simp only [go_sem, zA, v0, v1, vn, he, w1, s1, k1]
  have oo : ∀ b, (G5.set (G.key 1) b).ok := fun b => Heap.ok_set ht5.ok w1
  have kp5 : ∀ b, Kp [kd, kj, kh] G (G5.set (G.key 1) b) := fun b => ⟨fun j c hj' hb => by
    rw [Heap.get_set, if_neg fun e => ne_key hh.ok hb 1 e.symm]
    refine hnx5.keep j c (by rintro rfl; simp at hj') ?_
    rw [Heap.ext_nil]
    exact kp4.keep j c hj' hb, Nat.le_trans kp4.le (by rw [Heap.nx_set]; have := hnx5.le; rwa [Heap.ext_nil] at this)⟩
  refine ⟨?_, ?_, ⟨lv5, t, ht5.cell w1 _, hPt⟩, kp5 _⟩
  · rw [Heap.get_set, if_neg fun e => ne_key hh.ok hd 1 e.symm]; exact wd
  · rw [Heap.get_set, if_neg fun e => ne_key hh.ok hj 1 e.symm]; exact wj
end
end Go.Proofs
/- Answers that wait: walked. -/

set_option linter.all false
set_option maxRecDepth 100000
namespace Go.Proofs
open Go Go.Ev
variable {H : Heap}
/-- no block of a hold -/
structure Foreign (b : Blk) : Prop where
  no : ∀ wr e rows, b = .row wr e rows → e ≠ 4 ∧ e ≠ 5 ∧ e ≠ 6
  gn : ∀ wr rows, b = .row wr 2 rows → ∀ r ∈ rows, ∀ g : Gn, r ≠ g.enc
  sh : ∀ wr rows, b = .row wr 8 rows → ∀ r ∈ rows, ∀ s : Sh, r ≠ s.enc
section
variable {G G' : Heap} {ks : List K}
theorem arr_kp {e : Nat} {v : AV} {xs : List (List AV)} (h : Arr G e v xs) (hk : Kp ks G G') (hx : ∀ j ∈ ks, ∀ wr rows, G.get j = some (.row wr e rows) → ∀ r ∈ rows, r ∉ xs) : Arr G' e v xs := by
  rcases h with g | ⟨c, off, ex, cap, hv, hc, g⟩
  · exact .inl g
  · refine .inr ⟨c, off, ex, cap, hv, Nat.lt_of_lt_of_le hc hk.le, fun hn => ?_⟩
    obtain ⟨r, wr', rows', h1, h2, h3⟩ := g hn
    refine ⟨r, wr', rows', h1, hk.keep c _ (fun hm => ?_) h2, h3⟩
    cases xs with
    | nil => exact hn rfl
    | cons x xs =>
      have hm2 : x ∈ (rows'.drop r).take (x :: xs).length := by rw [h3]; exact List.mem_cons_self
      exact hx c hm wr' rows' h2 x (List.mem_of_mem_drop (List.mem_of_mem_take hm2)) List.mem_cons_self
theorem isHd.kp {k : K} {lv gv : AV} {hs : List Sh} {gs : List Gn} (h : isHd G k lv gv hs gs) (hk : Kp ks G G') (hok : G'.ok) (hf : ∀ j ∈ ks, j ≠ k ∧ ∀ b, G.get j = some b → Foreign b) : isHd G' k lv gv hs gs := by
  have h3 : ∀ {e : Nat} {v : AV} {xs : List (List AV)}, Arr G e v xs → e = 4 ∨ e = 5 ∨ e = 6 → Arr G' e v xs := fun hA he => arr_kp hA hk fun j hj wr rows hg r hr hm => by
    have := ((hf j hj).2 _ hg).no wr _ rows rfl
    omega
  refine ⟨hok, hk.keep _ _ (fun hm => (hf k hm).1 rfl) h.row, arr_kp h.l hk fun j hj wr rows hg r hr hm => ?_, arr_kp h.g hk fun j hj wr rows hg r hr hm => ?_, fun s hs => ?_, h.small, h.few⟩
  · obtain ⟨s, _, rfl⟩ := List.mem_map.1 hm
    exact ((hf j hj).2 _ hg).sh wr rows rfl _ hr s rfl
  · obtain ⟨s, _, rfl⟩ := List.mem_map.1 hm
    exact ((hf j hj).2 _ hg).gn wr rows rfl _ hr s rfl
  · have hs' := h.each s hs
    exact ⟨h3 hs'.c (by simp), h3 hs'.e (by simp), h3 hs'.d (by simp), bareL.ok (h.small s hs).b _, hs'.cl, hs'.el, hs'.dl⟩
theorem foreign_wide {wr : Bool} {e : Nat} {rows : List (List AV)} (h : 8 < e) : Foreign (.row wr e rows) := by
  refine ⟨fun _ _ _ e => ?_, fun _ _ e => ?_, fun _ _ e => ?_⟩ <;> cases e <;> omega
theorem foreign_node {wr : Bool} {a : AV} {k1 : K} {o1 : Nat} {l : List AV} : Foreign (.row wr 8 [a :: .ptr k1 o1 :: l]) := by
  refine ⟨fun _ _ _ e => ?_, fun _ _ e => ?_, fun _ _ e => ?_⟩ <;> cases e
  · decide
  · intro r hr s e
    rw [List.mem_singleton.1 hr] at e
    simp [Sh.enc] at e
theorem Kp.trans {A B C : Heap} (h : Kp ks A B) (g : Kp ks B C) : Kp ks A C := ⟨fun j b hj hb => g.keep j b hj (h.keep j b hj hb), Nat.le_trans h.le g.le⟩
end
section
variable {G : Heap} {kn kw : K}
/-- one more put behind a list that was there before -/
theorem appQ_old (hok : G.ok) {n : Nat} {x : List AV} {xs : List (List AV)} (hw : G.get kw = some (.row true 24 (x :: xs))) (hn : xs.length = n) {L : List Blk} {j : Nat} {wr ex : Bool} {cap : Nat} {y : List AV} (hj : L[j]? = some (.row wr 24 [y])) (hN : n < 100000) :
    appQ 24 328 (some (outV kw 24 (n + 1))) (some (.slice (G.key j) 0 1 24 ex cap)) (G.ext L) = .val (.slice ((G.set kw .dead).key L.length) 0 (n + 2) 24 false (n + 2)) ((G.set kw .dead).ext (L ++ [.row true 24 (x :: xs ++ [y])])) := by
  show appR 24 328 (.c _) (.c _) .lf (G.ext L) = _
  subst hn
  have hjl := (List.getElem?_eq_some_iff.1 hj).1
  have hg := Heap.get_ext_old hok hw L
  have hb1 : (2 * ((xs.length + 1) + 1) + 192) * 328 ≤ 281474976710656 := Nat.le_trans (Nat.mul_le_mul_right _ (show _ ≤ 300000 by omega)) (by decide)
  have hs := fun (α : Type) (c : Heap → α) => Heap.setC_here hok hw .dead L c
  unfold appR
  show withX _ (.c (.slice kw 0 (xs.length + 1) 24 false (xs.length + 1))) _ _ = _
  simp only [go_sem, withX, evX, Heap.get_ext_key _ _ _ hjl, hg, hj, List.drop_zero, List.take_succ_cons, List.take_zero, List.length_cons, List.length_nil, Nat.zero_mod, Nat.zero_div, Nat.reduceAdd, Nat.reduceSub, Nat.reduceMul, Nat.reduceDiv, Nat.reduceMod, Nat.reduceEqDiff, Nat.reduceLeDiff, Nat.reduceLT, reduceIte, List.take_length, List.cons_append]
  rw [if_pos (Nat.le_refl _), if_neg (by omega), if_pos hb1, hs, Heap.addC_ext]
  rfl
theorem says_end {D : Heap} {ks : List K} {c : Blk} (hdo : D.ok) (hdk : D.get kn = some c) (hD : Kp ks G D) (hkn : kn ∈ ks) (hks : ∀ j ∈ ks, ∃ b, G.get j = some b) (hGo : G.ok) {L : List Blk} {i : Nat} {r : Blk} (hL : L[i]? = some r) (b : Blk) :
    ((D.set kn b).ext L).get kn = some b ∧ ((D.set kn b).ext L).get (D.key i) = some r ∧ ((D.set kn b).ext L).ok ∧ Kp ks G ((D.set kn b).ext L) ∧ D.key i ∉ ks := by
  have hil := (List.getElem?_eq_some_iff.1 hL).1
  refine ⟨Heap.get_set_here hdo hdk b L, (Heap.get_key_set hil).trans hL, Heap.ok_ext (Heap.ok_set hdo hdk) L, ⟨fun j d hj hd => Heap.get_set_there hdo (hD.keep j d hj hd) (by rintro rfl; exact hj hkn) b L, Nat.le_trans hD.le (by rw [Heap.nx_ext, Heap.toNat_key, Heap.nx_set]; exact Nat.le_add_right _ _)⟩, fun hm => ?_⟩
  obtain ⟨d, hd⟩ := hks _ hm
  have h1 := hGo _ _ hd
  have h2 := hD.le
  rw [Heap.toNat_key] at h1
  omega
theorem f85_more (hok : G.ok) {x0 kd : Int} {d1 d2 d3 x5 x6 x7 : AV} {n : Nat} {x : List AV} {xs : List (List AV)} (hn : G.get kn = some (.row true 8 [[.int .i64 x0, d1, d2, d3, outV kw 24 (n + 1), x5, x6, x7]])) (hw : G.get kw = some (.row true 24 (x :: xs))) (hl : xs.length = n) (hN : n < 100000) (t1 t3 : Int) (t0 t2 t4 t5 t6 t7 t8 t9 t10 t11 t12 t13 t14 t15 t16 t17 t18 t19 t20 t21 t22 t23 l0 l1 l2 l3 l4 l5 l6 l7 l8 l9 l10 l11 l12 l13 l14 l15 l16 l17 l18 l19 l20 l21 l22 l23 : AV) :
    FnOk Tryz.prog 85 [.ptr kn 0, .agg [t0, .int .i64 t1, t2, .int .i64 t3, t4, t5, t6, t7, t8, t9, t10, t11, t12, t13, t14, t15, t16, t17, t18, t19, t20, t21, t22, t23], .int .i64 kd, .agg [l0, l1, l2, l3, l4, l5, l6, l7, l8, l9, l10, l11, l12, l13, l14, l15, l16, l17, l18, l19, l20, l21, l22, l23]] G fun r G' => r = .tup [] ∧ (∃ kw', kw' ∉ [kn, kw] ∧ G'.get kn = some (.row true 8 [[.int .i64 x0, d1, d2, d3, outV kw' 24 (n + 2), x5, x6, x7]]) ∧ G'.get kw' = some (.row true 24 (x :: xs ++ [[.int .i64 kd, .int .i64 x0, .int .i64 t1, .int .i64 t3, l4, l5, l6, l7, l8, l9, l10, l11, l12, l13, l14, l15, l16, l17, l18, l19, l20, l21, l22, l23]]))) ∧ G'.ok ∧ Kp [kn, kw] G G' := by
  refine FnOk.of_WW Tryz.func85 rfl C85ok R85ok E0 good_E0 ?_
  have hn' := fun L => Heap.get_ext_old hok hn L
  have ha : ∀ (L : List Blk) (y : List AV), L[2]? = some (.row true 24 [y]) → appQ 24 328 (some (.slice kw 0 (n + 1) 24 false (n + 1))) (some (.slice (G.key 2) 0 1 24 true 1)) (G.ext L) = .val (.slice ((G.set kw .dead).key L.length) 0 (n + 2) 24 false (n + 2)) ((G.set kw .dead).ext (L ++ [.row true 24 (x :: xs ++ [y])])) := fun L y hj => appQ_old hok hw hl (ex := true) (cap := 1) hj hN
  have hne : kw ≠ kn := by rintro rfl; rw [hw] at hn; cases hn
  have hdk : (G.set kw .dead).get kn = some (.row true 8 [[.int .i64 x0, d1, d2, d3, outV kw 24 (n + 1), x5, x6, x7]]) := by rw [Heap.get_set, if_neg hne]; exact hn
  have hdo : (G.set kw .dead).ok := Heap.ok_set hok hw
  have hn2 := fun L => Heap.get_ext_old hdo hdk L
  have hs2 := fun b (l : List Blk) (α : Type) (c' : Heap → α) => Heap.setC_here hdo hdk b l c'
  simp only [go_sem, ↓appR_hide, C85, hn']
  rw [ha _ _ rfl]
  simp only [go_sem, hn2, hs2]
  have hD : Kp [kn, kw] G (G.set kw .dead) := ⟨fun j d hj hd => by rw [Heap.get_set, if_neg (by rintro rfl; simp at hj)]; exact hd, Nat.le_refl _⟩
  obtain ⟨e1, e2, e3, e4, e5⟩ := says_end hdo hdk hD (by simp) (by intro j hj; simp only [List.mem_cons, List.not_mem_nil, or_false] at hj; rcases hj with rfl | rfl <;> first | exact ⟨_, hn⟩ | exact ⟨_, hw⟩) hok (L := [.row true 24 [[t0, .int .i64 t1, t2, .int .i64 t3, t4, t5, t6, t7, t8, t9, t10, t11, t12, t13, t14, t15, t16, t17, t18, t19, t20, t21, t22, t23]], .row true 24 [[.int .i64 kd, .int .i64 x0, .int .i64 t1, .int .i64 t3, l4, l5, l6, l7, l8, l9, l10, l11, l12, l13, l14, l15, l16, l17, l18, l19, l20, l21, l22, l23]], .row true 24 [[.int .i64 kd, .int .i64 x0, .int .i64 t1, .int .i64 t3, l4, l5, l6, l7, l8, l9, l10, l11, l12, l13, l14, l15, l16, l17, l18, l19, l20, l21, l22, l23]], .row true 24 (x :: (xs ++ [[.int .i64 kd, .int .i64 x0, .int .i64 t1, .int .i64 t3, l4, l5, l6, l7, l8, l9, l10, l11, l12, l13, l14, l15, l16, l17, l18, l19, l20, l21, l22, l23]]))]) (i := 3) rfl (.row true 8 [[.int .i64 x0, d1, d2, d3, .slice (G.key 3) 0 (n + 2) 24 false (n + 2), x5, x6, x7]])
  exact ⟨⟨_, e5, e1, e2⟩, e3, e4⟩
theorem f85_first (hok : G.ok) {x0 kd : Int} {d1 d2 d3 x5 x6 x7 : AV} (hn : G.get kn = some (.row true 8 [[.int .i64 x0, d1, d2, d3, .nils, x5, x6, x7]])) (t1 t3 : Int) (t0 t2 t4 t5 t6 t7 t8 t9 t10 t11 t12 t13 t14 t15 t16 t17 t18 t19 t20 t21 t22 t23 l0 l1 l2 l3 l4 l5 l6 l7 l8 l9 l10 l11 l12 l13 l14 l15 l16 l17 l18 l19 l20 l21 l22 l23 : AV) :
    FnOk Tryz.prog 85 [.ptr kn 0, .agg [t0, .int .i64 t1, t2, .int .i64 t3, t4, t5, t6, t7, t8, t9, t10, t11, t12, t13, t14, t15, t16, t17, t18, t19, t20, t21, t22, t23], .int .i64 kd, .agg [l0, l1, l2, l3, l4, l5, l6, l7, l8, l9, l10, l11, l12, l13, l14, l15, l16, l17, l18, l19, l20, l21, l22, l23]] G fun r G' => r = .tup [] ∧ (∃ kw', kw' ∉ [kn] ∧ G'.get kn = some (.row true 8 [[.int .i64 x0, d1, d2, d3, outV kw' 24 1, x5, x6, x7]]) ∧ G'.get kw' = some (.row true 24 [[.int .i64 kd, .int .i64 x0, .int .i64 t1, .int .i64 t3, l4, l5, l6, l7, l8, l9, l10, l11, l12, l13, l14, l15, l16, l17, l18, l19, l20, l21, l22, l23]])) ∧ G'.ok ∧ Kp [kn] G G' := by
  refine FnOk.of_WW Tryz.func85 rfl C85ok R85ok E0 good_E0 ?_
  have hn' := fun L => Heap.get_ext_old hok hn L
  have hs2 := fun b (l : List Blk) (α : Type) (c' : Heap → α) => Heap.setC_here hok hn b l c'
  simp only [go_sem, C85, hn', hs2]
  obtain ⟨e1, e2, e3, e4, e5⟩ := says_end (ks := [kn]) hok hn ⟨fun j d hj hd => hd, Nat.le_refl _⟩ (by simp) (by intro j hj; rw [List.mem_singleton.1 hj]; exact ⟨_, hn⟩) hok (L := [.row true 24 [[t0, .int .i64 t1, t2, .int .i64 t3, t4, t5, t6, t7, t8, t9, t10, t11, t12, t13, t14, t15, t16, t17, t18, t19, t20, t21, t22, t23]], .row true 24 [[.int .i64 kd, .int .i64 x0, .int .i64 t1, .int .i64 t3, l4, l5, l6, l7, l8, l9, l10, l11, l12, l13, l14, l15, l16, l17, l18, l19, l20, l21, l22, l23]], .row true 24 [[.int .i64 kd, .int .i64 x0, .int .i64 t1, .int .i64 t3, l4, l5, l6, l7, l8, l9, l10, l11, l12, l13, l14, l15, l16, l17, l18, l19, l20, l21, l22, l23]], .row true 24 [[.int .i64 kd, .int .i64 x0, .int .i64 t1, .int .i64 t3, l4, l5, l6, l7, l8, l9, l10, l11, l12, l13, l14, l15, l16, l17, l18, l19, l20, l21, l22, l23]]]) (i := 3) rfl (.row true 8 [[.int .i64 x0, d1, d2, d3, .slice (G.key 3) 0 1 24 false 1, x5, x6, x7]])
  exact ⟨⟨_, e5, e1, e2⟩, e3, e4⟩
end
end Go.Proofs
/- The laid-out code of the functions that are walked. -/

set_option linter.all false
set_option maxRecDepth 100000
namespace Go.Proofs
open Go Go.Ev K
@[go_sem] theorem call27 (a H) : callC Tryz.prog 27 a H = .call 27 a := callC_ok (by kernel_rfl) a H
@[go_sem] theorem call68 (a H) : callC Tryz.prog 68 a H = .call 68 a := callC_ok (by kernel_rfl) a H
noncomputable def C28 := mkC Tryz.prog Tryz.f28 93
theorem C28ok : CCok Tryz.prog Tryz.f28 93 C28 := mkC_ok _
@[go_sem] theorem call28 (a H) : callC Tryz.prog 28 a H = .call 28 a := callC_ok (by kernel_rfl) a H
theorem R28ok : resKs Tryz.prog Tryz.f28.results.toList = some [] := by kernel_rfl
noncomputable def C7 := mkC Tryz.prog Tryz.f7 53
theorem C7ok : CCok Tryz.prog Tryz.f7 53 C7 := mkC_ok _
@[go_sem] theorem call7 (a H) : callC Tryz.prog 7 a H = .call 7 a := callC_ok (by kernel_rfl) a H
theorem R7ok : resKs Tryz.prog Tryz.f7.results.toList = some [] := by kernel_rfl
noncomputable def C29 := mkC Tryz.prog Tryz.f29 73
theorem C29ok : CCok Tryz.prog Tryz.f29 73 C29 := mkC_ok _
@[go_sem] theorem call29 (a H) : callC Tryz.prog 29 a H = .call 29 a := callC_ok (by kernel_rfl) a H
theorem R29ok : resKs Tryz.prog Tryz.f29.results.toList = some [] := by kernel_rfl
noncomputable def C8 := mkC Tryz.prog Tryz.f8 13
theorem C8ok : CCok Tryz.prog Tryz.f8 13 C8 := mkC_ok _
@[go_sem] theorem call8 (a H) : callC Tryz.prog 8 a H = .call 8 a := callC_ok (by kernel_rfl) a H
theorem R8ok : resKs Tryz.prog Tryz.f8.results.toList = some [RK.cell z.i.i true 24] := by kernel_rfl
noncomputable def C17 := mkC Tryz.prog Tryz.f17 8
theorem C17ok : CCok Tryz.prog Tryz.f17 8 C17 := mkC_ok _
@[go_sem] theorem call17 (a H) : callC Tryz.prog 17 a H = .call 17 a := callC_ok (by kernel_rfl) a H
theorem R17ok : resKs Tryz.prog Tryz.f17.results.toList = some [RK.cell z.o.i true 6] := by kernel_rfl
@[go_sem] theorem call6 (a H) : callC Tryz.prog 6 a H = .call 6 a := callC_ok (by kernel_rfl) a H
end Go.Proofs
/- Answers that wait, asked: walked. -/


set_option linter.all false
set_option maxRecDepth 100000
namespace Go.Proofs
open Go Go.Ev
variable {H : Heap}
/-- the answers that wait -/
def isWt (G : Heap) (wv : AV) (ws : List (List AV)) : Prop := (ws = [] ∧ wv = .nils) ∨ ∃ kw, ws ≠ [] ∧ wv = outV kw 24 ws.length ∧ G.get kw = some (.row true 24 ws)
/-- where they lie -/
def wk : AV → List K
  | .slice k _ _ _ _ _ => [k]
  | _ => []
section
variable {G : Heap} {kn : K}
theorem f85_ok (hok : G.ok) {x0 kd : Int} {d1 d2 d3 wv x5 x6 x7 : AV} {ws : List (List AV)} (hn : G.get kn = some (.row true 8 [[.int .i64 x0, d1, d2, d3, wv, x5, x6, x7]])) (hw : isWt G wv ws) (hN : ws.length < 100000) (t1 t3 : Int) (t0 t2 t4 t5 t6 t7 t8 t9 t10 t11 t12 t13 t14 t15 t16 t17 t18 t19 t20 t21 t22 t23 l0 l1 l2 l3 l4 l5 l6 l7 l8 l9 l10 l11 l12 l13 l14 l15 l16 l17 l18 l19 l20 l21 l22 l23 : AV) :
    FnOk Tryz.prog 85 [.ptr kn 0, .agg [t0, .int .i64 t1, t2, .int .i64 t3, t4, t5, t6, t7, t8, t9, t10, t11, t12, t13, t14, t15, t16, t17, t18, t19, t20, t21, t22, t23], .int .i64 kd, .agg [l0, l1, l2, l3, l4, l5, l6, l7, l8, l9, l10, l11, l12, l13, l14, l15, l16, l17, l18, l19, l20, l21, l22, l23]] G fun r G' => r = .tup [] ∧ (∃ wv', G'.get kn = some (.row true 8 [[.int .i64 x0, d1, d2, d3, wv', x5, x6, x7]]) ∧ isWt G' wv' (ws ++ [[.int .i64 kd, .int .i64 x0, .int .i64 t1, .int .i64 t3, l4, l5, l6, l7, l8, l9, l10, l11, l12, l13, l14, l15, l16, l17, l18, l19, l20, l21, l22, l23]])) ∧ G'.ok ∧ Kp (kn :: wk wv) G G' := by
  rcases hw with ⟨rfl, rfl⟩ | ⟨kw, hne, rfl, hw⟩
  · refine (f85_first hok hn t1 t3 t0 t2 t4 t5 t6 t7 t8 t9 t10 t11 t12 t13 t14 t15 t16 t17 t18 t19 t20 t21 t22 t23 l0 l1 l2 l3 l4 l5 l6 l7 l8 l9 l10 l11 l12 l13 l14 l15 l16 l17 l18 l19 l20 l21 l22 l23).mono ?_
    rintro r G' ⟨rfl, ⟨kw', _, h1, h2⟩, h3, h4⟩
    exact ⟨rfl, ⟨_, h1, .inr ⟨kw', by simp, rfl, h2⟩⟩, h3, h4⟩
  · obtain ⟨x, xs, rfl⟩ : ∃ x xs, ws = x :: xs := by
      cases ws with
      | nil => exact absurd rfl hne
      | cons x xs => exact ⟨x, xs, rfl⟩
    refine (f85_more hok hn hw rfl (by simp at hN; omega) t1 t3 t0 t2 t4 t5 t6 t7 t8 t9 t10 t11 t12 t13 t14 t15 t16 t17 t18 t19 t20 t21 t22 t23 l0 l1 l2 l3 l4 l5 l6 l7 l8 l9 l10 l11 l12 l13 l14 l15 l16 l17 l18 l19 l20 l21 l22 l23).mono ?_
    rintro r G' ⟨rfl, ⟨kw', _, h1, h2⟩, h3, h4⟩
    refine ⟨rfl, ⟨_, h1, .inr ⟨kw', by simp, ?_, h2⟩⟩, h3, h4⟩
    simp only [List.length_append, List.length_cons, List.length_nil]
theorem Kp.ext {ks : List K} (hok : G.ok) (L : List Blk) : Kp ks G (G.ext L) := ⟨fun j b _ hb => Heap.get_ext_old hok hb L, by rw [Heap.nx_ext, Heap.toNat_key]; exact Nat.le_add_right _ _⟩
theorem f81_none (hok : G.ok) {x0 : Int} {d1 d2 d3 wv x5 x6 x7 : AV} {ws : List (List AV)} (hn : G.get kn = some (.row true 8 [[.int .i64 x0, d1, d2, d3, wv, x5, x6, x7]])) (hw : isWt G wv ws) (hN : ws.length < 100000) (t1 t3 : Int) (t0 t2 t4 t5 t6 t7 t8 t9 t10 t11 t12 t13 t14 t15 t16 t17 t18 t19 t20 t21 t22 t23 a0 a1 a2 a3 : AV) :
    FnOk Tryz.prog 81 [.ptr kn 0, .agg [t0, .int .i64 t1, t2, .int .i64 t3, t4, t5, t6, t7, t8, t9, t10, t11, t12, t13, t14, t15, t16, t17, t18, t19, t20, t21, t22, t23], .agg [a0, a1, a2, a3], .nili] G fun r G' => r = .tup [] ∧ (∃ wv', G'.get kn = some (.row true 8 [[.int .i64 x0, d1, d2, d3, wv', x5, x6, x7]]) ∧ isWt G' wv' (ws ++ [[.int .i64 2, .int .i64 x0, .int .i64 t1, .int .i64 t3, .int .i64 0, .int .i64 0, .int .i64 0, .int .i64 0, .int .i64 0, .str [], .str [], .str [], .int .i64 0, .nils, a0, a1, a2, a3, .str [], .str [], .nils, .nils, .nils, .str []]])) ∧ G'.ok ∧ Kp (kn :: wk wv) G G' := by
  refine FnOk.of_WW Tryz.func81 rfl C81ok R81ok E0 good_E0 ?_
  simp only [go_sem, C81]
  refine CL.of (f65_ok none 17) ?_
  rintro _ G' ⟨rfl, hG⟩; rw [hG]; clear hG
  have hw' : ∀ L, isWt (G.ext L) wv ws := fun L => by
    rcases hw with h | ⟨kw, h1, h2, h3⟩
    · exact .inl h
    · exact .inr ⟨kw, h1, h2, Heap.get_ext_old hok h3 L⟩
  simp only [go_sem]
  refine CL.of (f85_ok (Heap.ok_ext hok _) (Heap.get_ext_old hok hn _) (hw' _) hN t1 t3 _ _ _ _ _ _ _ _ _ _ _ _ _ _ _ _ _ _ _ _ _ _ _ _ _ _ _ _ _ _ _ _ _ _ _ _ _ _ _ _ _ _ _ _ _ _) ?_
  rintro _ G' ⟨rfl, h1, h2, h3⟩
  simp only [go_sem]
  exact ⟨h1, h2, (Kp.ext hok _).trans h3⟩
end
/-- a node of one shard -/
structure isNd (G : Heap) (kn kd kj kh : K) (bs : List Nat) (n m : Nat) (ws : List (List AV)) (x5 x6 x7 : AV) (s : Sh) : Prop where
  ok : G.ok
  row : ∃ wv, G.get kn = some (.row true 8 [[.int .i64 0, .ptr kd 0, .ptr kj 0, .ptr kh 0, wv, x5, x6, x7]]) ∧ isWt G wv ws
  disk : G.get kd = some (.row true 2 [[.str bs, .int .i64 n]])
  jour : G.get kj = some (.row true 2 [[.ptr kd 0, .int .i64 m]])
  hold : ∃ lv, isHd G kh lv .nils [s] []
section
variable {G : Heap} {kn kd kj kh : K}
end
end Go.Proofs
/- errors.As, where the error is a number and another type is asked for: by its contract. -/

set_option linter.all false
namespace Go.Proofs
open Go.RowKit Go.Extern.Stop Go.Stop Go.Extern
theorem Tryz.as_valueOfB (t : Addr) (w : World) : (ReflectliteValue.unpack (.iface 210 (.pointer (some t)))).run Tryz.prog w
    = .ok (.agg #[.pointer (some ⟨2, 210, none⟩), .pointer (some ⟨w.heap.size, 0, none⟩), .int .u64 150]) (w.alloc (.cells #[.pointer (some t)] 210)) := by kernel_rfl
theorem Tryz.as_typeB (a : Addr) (w : World) : (ReflectliteValue.methodAny (ReflectliteValue.valueError "reflectlite.Value.Type" 0) (fun t _ _ _ => ReflectliteType.toType t) #[.agg #[.pointer (some ⟨2, 210, none⟩), .pointer (some a), .int .u64 150]]).run Tryz.prog w
    = .ok (.iface 251 (.agg #[.pointer (some ⟨2, 210, none⟩)])) w := by kernel_rfl
theorem Tryz.as_kindB (w : World) : ((ReflectliteType.abiMethod fun t => (fun a : Nat => Value.int IntKind.u8 (a : Int)) <$> Rtype.kind t) #[.pointer (some ⟨2, 210, none⟩)]).run Tryz.prog w = .ok (.int .u8 22) w := by kernel_rfl
theorem Tryz.as_kindS (w : World) : ((ReflectliteType.abiMethod fun t => (fun a : Nat => Value.int IntKind.u8 (a : Int)) <$> Rtype.kind t) #[.pointer (some ⟨2, 129, none⟩)]).run Tryz.prog w = .ok (.int .u8 25) w := by kernel_rfl
theorem Tryz.as_partsB (a : Addr) (w : World) : (ReflectliteValue.parts (.agg #[.pointer (some ⟨2, 210, none⟩), .pointer (some a), .int .u64 150])).run Tryz.prog w = .ok (some (210, a, 150)) w := by kernel_rfl
theorem Tryz.as_isNilB (a p : Addr) (W : World) (ha : W.cell? a = some (.pointer (some p))) :
    (ReflectliteValue.method (ReflectliteValue.valueError "reflectlite.Value.IsNil" 0) ReflectliteValue.isNil #[.agg #[.pointer (some ⟨2, 210, none⟩), .pointer (some a), .int .u64 150]]).run Tryz.prog W = .ok (.bool false) W := by
  rw [rlm]
  simp only [Sem.run_bind, Tryz.as_partsB, Result.andThen]
  simp [ReflectliteValue.isNil, loadVar, isAgg, underlying, Tryz.underlying210, ha, Result.andThen]
theorem Tryz.as_elemB (w : World) : (ReflectliteType.method ReflectliteType.elem #[.agg #[.pointer (some ⟨2, 210, none⟩)]]).run Tryz.prog w = .ok (.iface 251 (.agg #[.pointer (some ⟨2, 129, none⟩)])) w := by kernel_rfl
theorem Tryz.as_implementsS (w : World) : (ReflectliteType.relation "Implements" ReflectliteType.implements_ #[.agg #[.pointer (some ⟨2, 129, none⟩)], .iface 251 (.agg #[.pointer (some ⟨2, 68, none⟩)])]).run Tryz.prog w = .ok (.bool true) w := by kernel_rfl
theorem Tryz.as_assignableS (w : World) : (ReflectliteType.relation "AssignableTo" ReflectliteType.assignableTo #[.agg #[.pointer (some ⟨2, 125, none⟩)], .iface 251 (.agg #[.pointer (some ⟨2, 129, none⟩)])]).run Tryz.prog w = .ok (.bool false) w := by kernel_rfl
theorem Tryz.noAs (v : Value) (xT : TypeId) (w : World) : (Instr.typeAssert (.iface 125 v) xT 292 true).run Tryz.prog w = .ok (.tuple #[.nilIface, .bool false]) w := run_typeAssert_lacksB Tryz.underlying292 (by kernel_rfl) (by kernel_rfl) v xT w
set_option maxHeartbeats 4000000 in
theorem as_miss (e : Int) (t : Addr) (w : World) (hg : w.cell? ⟨0, 0, none⟩ = some (.iface 251 (.agg #[.pointer (some ⟨2, 68, none⟩)]))) :
    Calls Tryz.prog 113 #[.iface 125 (.int .i64 e), .iface 210 (.pointer (some t))] w fun ev w' => ev = .returned (.bool false) ∧ w' = (((w.alloc (.cells #[.pointer (some t)] 210)).alloc (.cells #[.pointer (some ⟨2, 210, none⟩), .pointer (some ⟨w.heap.size, 0, none⟩), .int .u64 150] 235)).alloc (.cells #[.pointer (some ⟨2, 210, none⟩), .pointer (some ⟨w.heap.size, 0, none⟩), .int .u64 150] 235)) := by
  have h6 := @run_callFunc_extern Tryz.prog 179 _ (fun args => ReflectliteValue.unpack (args.getD 0 (.tuple #[]))) Tryz.func179 (by kernel_rfl) (by kernel_rfl) (by kernel_rfl) (by kernel_rfl)
  have h7 := @run_callFunc_extern Tryz.prog 180 _ (ReflectliteValue.methodAny (ReflectliteValue.valueError "reflectlite.Value.Type" 0) (fun t _ _ _ => ReflectliteType.toType t)) Tryz.func180 (by kernel_rfl) (by kernel_rfl) (by kernel_rfl) (by kernel_rfl)
  have h8 := @run_callFunc_extern Tryz.prog 181 _ (ReflectliteValue.method (ReflectliteValue.valueError "reflectlite.Value.IsNil" 0) ReflectliteValue.isNil) Tryz.func181 (by kernel_rfl) (by kernel_rfl) (by kernel_rfl) (by kernel_rfl)
  have h27 := @run_callFunc_extern Tryz.prog 321 _ (ReflectliteType.abiMethod fun t => do pure (.int .u8 (← Rtype.kind t))) Tryz.func321 (by kernel_rfl) (by kernel_rfl) (by kernel_rfl) (by kernel_rfl)
  have h37 := @run_callFunc_extern Tryz.prog 333 _ (ReflectliteType.method ReflectliteType.elem) Tryz.func333 (by kernel_rfl) (by kernel_rfl) (by kernel_rfl) (by kernel_rfl)
  have h38 := @run_callFunc_extern Tryz.prog 334 _ (ReflectliteType.relation "Implements" ReflectliteType.implements_) Tryz.func334 (by kernel_rfl) (by kernel_rfl) (by kernel_rfl) (by kernel_rfl)
  have h10 := @run_callFunc_extern Tryz.prog 137 _ ReflectliteType.typeOf Tryz.func137 (by kernel_rfl) (by kernel_rfl) (by kernel_rfl) (by kernel_rfl)
  have h35 := @run_callFunc_extern Tryz.prog 331 _ (ReflectliteType.relation "AssignableTo" ReflectliteType.assignableTo) Tryz.func331 (by kernel_rfl) (by kernel_rfl) (by kernel_rfl) (by kernel_rfl)
  have tO := Tryz.as_typeOf25
  have mA := Tryz.as_methodAssignableTo
  have a25 := Tryz.as_assignableS
  have f6 := Tryz.as_valueOfB
  have f7 := Tryz.as_typeB
  have mK := Tryz.as_methodKind
  have mE := Tryz.as_methodElem
  have mI := Tryz.as_methodImplements
  have k27 := Tryz.as_kindB
  have k25 := Tryz.as_kindS
  have e27 := Tryz.as_elemB
  have i25 := Tryz.as_implementsS
  have n1 := Tryz.noAs
  have n2 := Tryz.noUnwrap
  have n3 := Tryz.noUnwraps
  have n8 := Tryz.as_isNilB ⟨w.heap.size, 0, none⟩ t ((w.alloc (.cells #[.pointer (some t)] 210)).alloc (.cells #[.pointer (some ⟨2, 210, none⟩), .pointer (some ⟨w.heap.size, 0, none⟩), .int .u64 150] 235)) (by simp)
  have hlt : 0 < w.heap.size := by
    rcases Nat.eq_zero_or_pos w.heap.size with h0 | h
    · simp [World.cell?, h0] at hg
    · exact h
  have hg2 : ((w.alloc (.cells #[.pointer (some t)] 210)).alloc (.cells #[.pointer (some ⟨2, 210, none⟩), .pointer (some ⟨w.heap.size, 0, none⟩), .int .u64 150] 235)).cell? ⟨0, 0, none⟩ = some (.iface 251 (.agg #[.pointer (some ⟨2, 68, none⟩)])) := by
    rw [World.cell?_alloc_lt _ _ ⟨0, 0, none⟩ (by simp), World.cell?_alloc_lt _ _ ⟨0, 0, none⟩ hlt]; exact hg
  go_enter Tryz.func113, Tryz.ntmps113
  go_wp2
  refine wp_loop_rounds 1 ?_
  rw [rounds_succ]
  go_wp2
  go_ret
  exact ⟨rfl, rfl⟩
end Go.Proofs
/- The functions whose answers are known: slices.Insert, errors.Is, errors.As. -/


set_option linter.all false
set_option maxRecDepth 100000
namespace Go.Proofs
open Go Go.Ev
variable {H : Heap}
theorem ins183 : InsFn Tryz.prog 201 6 72 [.int .i64 0, .int .i64 0, .int .i64 0, .str [], .int .i64 0, .nils] := ⟨⟨Tryz.f201, 241, 242, Tryz.func201, by kernel_rfl, by kernel_rfl, by kernel_rfl, by kernel_rfl⟩, rfl, by decide⟩
theorem ins275 : InsFn Tryz.prog 296 5 56 [.str [], .str [], .int .i64 0, .bool false, .int .i64 0] := ⟨⟨Tryz.f296, 302, 303, Tryz.func296, by kernel_rfl, by kernel_rfl, by kernel_rfl, by kernel_rfl⟩, rfl, by decide⟩
theorem num_inv {φ : Phi} {n : Int} {v : Value} (h : VRel Tryz.prog φ (.iface 125 (.int .i64 n)) v) : v = .iface 125 (.int .i64 n) := by
  cases h with | iface _ _ v' h => cases h; rfl
theorem nil_inv {φ : Phi} {v : Value} (h : VRel Tryz.prog φ .nili v) : v = .nilIface := by cases h; rfl
theorem b1 {α : Type} {a b : Nat} {x : Option α} {y : α} (e : bif' (Nat.beq a b) x none = some y) : a = b ∧ x = some y := by
  cases hb : Nat.beq a b with
  | true => rw [hb] at e; exact ⟨Nat.eq_of_beq_eq_true hb, e⟩
  | false => rw [hb] at e; cases e
theorem is_ok (args : List AV) (H : Heap) (v : AV) (G : Heap) (h : isA 125 args H = some (.ok v G)) : FnOk Tryz.prog 65 args H fun v' G' => v' = v ∧ G' = G := by
  unfold isA at h
  split at h
  case h_3 => cases h
  · obtain ⟨rfl, h⟩ := b1 h
    cases h
    refine FnOk.of_calls fun φ w args' ha hw => ?_
    obtain ⟨x, y, rfl, h1, h2⟩ := two_args ha
    obtain rfl := nil_inv h1
    obtain rfl := num_inv h2
    refine (is_nil _ w).mono ?_
    rintro e w' ⟨rfl, rfl⟩
    exact ⟨⟨_, rfl, .bool _⟩, Grows.refl _⟩
  · obtain ⟨q1, g1⟩ := b1 h
    obtain ⟨q2, g2⟩ := b1 g1
    rw [eqI_eq] at g2
    cases g2
    rw [q1, q2]
    refine FnOk.of_calls fun φ w args' ha hw => ?_
    obtain ⟨x, y, rfl, h1, h2⟩ := two_args ha
    obtain rfl := num_inv h1
    obtain rfl := num_inv h2
    refine (is_num _ _ w).mono ?_
    rintro e w' ⟨rfl, rfl⟩
    refine ⟨⟨_, rfl, ?_⟩, Grows.refl _⟩
    exact .bool _
theorem as_ok (args : List AV) (H : Heap) (v : AV) (G : Heap) (h : asA 125 176 210 args H = some (.ok v G)) : FnOk Tryz.prog 113 args H fun v' G' => v' = v ∧ G' = G := by
  unfold asA at h
  split at h
  case h_3 => cases h
  · cases h
    refine FnOk.of_calls fun φ w args' ha hw => ?_
    obtain ⟨x, y, rfl, h1, h2⟩ := two_args ha
    obtain rfl := nil_inv h1
    refine (as_nil y w).mono ?_
    rintro e w' ⟨rfl, rfl⟩
    exact ⟨⟨_, rfl, .bool _⟩, Grows.refl _⟩
  · rename_i t1 n t2 k
    obtain ⟨q1, h⟩ := b1 h
    rw [q1]
    cases hb : Nat.beq t2 210 with
    | true =>
      rw [hb] at h
      cases h
      obtain rfl := Nat.eq_of_beq_eq_true hb
      refine FnOk.of_calls fun φ w args' ha hw => ?_
      obtain ⟨x, y, rfl, h1, h2⟩ := two_args ha
      obtain rfl := num_inv h1
      cases h2 with
      | iface _ _ u' h2 =>
        cases h2 with
        | ptr _ _ a ha2 =>
          refine (as_miss n ⟨a.b, a.o + 0, none⟩ w (hw.rom 0 _ (List.mem_singleton.2 rfl)).1).mono ?_
          rintro e w' ⟨rfl, rfl⟩
          exact ⟨⟨_, rfl, .bool _⟩, (((Grows.alloc _ _).trans (Grows.alloc _ _)).trans (Grows.alloc _ _))⟩
    | false =>
      rw [hb, bif_false] at h
      obtain ⟨q2, h⟩ := b1 h
      rw [q2]
      split at h
      case h_2 => cases h
      rename_i x hk
      rw [Heap.setC_eq] at h
      cases h
      refine FnOk.of_calls_set (y' := .int .i64 n) hk (fun φ => .int _ _) rfl (fun φ => ⟨_, .bool _⟩) fun φ w args' ha hw => ?_
      obtain ⟨v, u, rfl, h1, h2⟩ := two_args ha
      obtain rfl := num_inv h1
      cases h2 with
      | iface _ _ u' h2 =>
        cases h2 with
        | ptr _ _ a ha2 =>
          refine ⟨a, ha2, fun old ho hf => ?_⟩
          refine (as_hit n ⟨a.b, a.o, none⟩ old w (hw.rom 0 _ (List.mem_singleton.2 rfl)).1 ho hf).mono ?_
          rintro e w' ⟨rfl, rfl⟩
          exact ⟨⟨_, rfl, .bool _⟩, _, (((Grows.alloc _ _).trans (Grows.alloc _ _)).trans (Grows.alloc _ _)).trans (Grows.alloc _ _), rfl⟩
/-- what is known beforehand -/
noncomputable def XK : Orc := orX 201 (insA 6 72) (orX 296 (insA 5 56) (orX 65 (isA 125) (orX 113 (asA 125 176 210) X0)))
theorem good_XK : GoodX Tryz.prog XK := good_orX (insA_sound ins183) (good_orX (insA_sound ins275) (good_orX is_ok (good_orX as_ok good_X0)))
end Go.Proofs
/- The known example: reckoned. -/

set_option linter.all false
set_option maxRecDepth 100000
namespace Go.Proofs
open Go Go.Ev
variable {H : Heap}
theorem known_run : Go.Ev.okB (evFn Tryz.prog XK 100000 5 [] hp0) = true := by kernel_rfl
theorem known_ok : FnOk Tryz.prog 5 [] H fun r G => r = .bool true ∧ G = H := FnOk.lift0 rfl rfl (FnOk.of_evB good_XK known_run)
noncomputable def kA (args : List AV) (H : Heap) : Option RC := match args with
  | [] => some (.ok (.bool true) H)
  | _ => none
theorem kA_ok (args : List AV) (H : Heap) (v : AV) (G : Heap) (h : kA args H = some (.ok v G)) : FnOk Tryz.prog 5 args H fun v' G' => v' = v ∧ G' = G := by
  unfold kA at h
  split at h
  · cases h; exact known_ok
  · cases h
/-- the known example is known, too -/
noncomputable def XL : Orc := orX 5 kA XK
theorem good_XL : GoodX Tryz.prog XL := good_orX kA_ok good_XK
end Go.Proofs
/- Letters, records of a put: reckoned. -/


set_option linter.all false
set_option maxRecDepth 100000
namespace Go.Proofs
open Go Go.Ev
variable {H : Heap}
/-- a session's letter that asks for a put of a byte under a byte -/
def askL (s id b v : Nat) : List AV := [.int .i64 1, .int .i64 (200 + (s : Int)), .int .i64 0, .int .i64 id, .int .i64 0, .int .i64 0, .int .i64 0, .int .i64 0, .int .i64 2, .str [b], .str [], .str [v], .int .i64 0, .nils, .int .i64 0, .str [], .int .i64 0, .nils, .str [], .str [], .nils, .nils, .nils, .str []]
/-- its record -/
def recL (s id b v : Nat) : List AV := [.int .i64 2, .int .i64 s, .int .i64 id, .int .i64 0, .int .i64 0, .int .i64 0, .int .i64 2, .str [b], .str [], .str [v], .int .i64 0, .nils, .str [], .str [], .nils, .nils]
/-- its bytes -/
def recT (s id b v : Nat) : List Nat := [2, s, id, 0, 0, 0, 2, 1, b, 0, 1, v, 0, 0, 0, 0, 0, 0]
noncomputable def EK : FuncId → List AV → Heap → RC := evFn Tryz.prog XL 100000
theorem ask_run (b v : Nat) : (allN 3 fun s => allN 31 fun i => isR (EK 27 [.agg (askL s (i + 1) b v)] hp0) (.bool true)) = true := by kernel_rfl
theorem letter_ask {s id : Nat} (hs : s < 3) (h0 : 0 < id) (h1 : id < 32) (b v : Nat) : FnOk Tryz.prog 27 [.agg (askL s id b v)] H fun r G => r = .bool true ∧ G = H := by
  obtain ⟨i, rfl⟩ : ∃ i, id = i + 1 := ⟨id - 1, by omega⟩
  exact FnOk.of_ev1 good_XL rfl rfl (allN2 (ask_run b v) s hs i (by omega))
end Go.Proofs
