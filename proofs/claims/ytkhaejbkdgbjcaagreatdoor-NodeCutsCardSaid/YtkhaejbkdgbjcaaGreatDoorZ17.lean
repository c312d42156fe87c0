/- A call reckoned in a small memory is so in a large one that holds it, under other names. -/
import Derived.Test.YtkhaejbkdgbjcaaGreatDoorZ16
import Derived.Test.YtkhaejbkdgbjcaaGreatDoorProg
import Derived.KernelRfl
set_option linter.all false
set_option maxRecDepth 100000
namespace Go.Ev
variable {P : Program} {φ ψ : Phi} {H G : Heap} {w u : World}

/-! ### Names changed, forwards -/
mutual
theorem VRel.fwd {ρ : K → K} (hρ : ∀ k a, φ k = some a → ψ (ρ k) = some a) : ∀ {v : AV} {v' : Value}, VRel P φ v v' → VRel P ψ (v.ren ρ) v'
  | _, _, .bool b => by rw [AV.ren]; exact .bool b
  | _, _, .int k n => by rw [AV.ren]; exact .int k n
  | _, _, .str l s e => by rw [AV.ren]; exact .str l s e
  | _, _, .nilp => by rw [AV.ren]; exact .nilp
  | _, _, .ptr k off a e => by rw [AV.ren]; exact .ptr _ off a (hρ k a e)
  | _, _, .nils => by rw [AV.ren]; exact .nils
  | _, _, .slice k off len esz ex cap a c e hx hc hl hn => by rw [AV.ren]; exact .slice _ off len esz ex cap a c (hρ k a e) hx hc hl hn
  | _, _, .sliceE k off esz ex a x e => by rw [AV.ren]; exact .sliceE _ off esz ex a x (hρ k a e)
  | _, _, .fn f a b c d h1 h2 => by rw [AV.ren]; exact .fn f _ _ c d (VRels.fwd hρ h1) (VRels.fwd hρ h2)
  | _, _, .nilf => by rw [AV.ren]; exact .nilf
  | _, _, .iface t v v' e => by rw [AV.ren]; exact .iface t _ v' (VRel.fwd hρ e)
  | _, _, .nili => by rw [AV.ren]; exact .nili
  | _, _, .agg l c e h1 => by rw [AV.ren]; exact .agg _ c (VRels.fwd hρ e) h1
  | _, _, .tup l c e => by rw [AV.ren]; exact .tup _ c (VRels.fwd hρ e)
  | _, _, .nilm => by rw [AV.ren]; exact .nilm
  | _, _, .map k a e => by rw [AV.ren]; exact .map _ a (hρ k a e)
  | _, _, .typ t => by rw [AV.ren]; exact .typ t
  | _, _, .any v h => by rw [AV.ren]; exact .any v h
  | _, _, .geq n m h => by rw [AV.ren]; exact .geq n m h
theorem VRels.fwd {ρ : K → K} (hρ : ∀ k a, φ k = some a → ψ (ρ k) = some a) : ∀ {l : List AV} {l' : List Value}, VRels P φ l l' → VRels P ψ (AV.rens ρ l) l'
  | _, _, .nil => by rw [AV.rens]; exact .nil
  | _, _, .cons v l v' l' a b => by rw [AV.rens]; exact .cons _ _ _ _ (VRel.fwd hρ a) (VRels.fwd hρ b)
end
theorem ERel.fwd {ρ : K → K} (hρ : ∀ k a, φ k = some a → ψ (ρ k) = some a) : ∀ {l : List (AV × AV)} {l' : List MapEntry}, ERel P φ l l' → ERel P ψ (l.map fun p => (p.1.ren ρ, p.2.ren ρ)) l'
  | _, _, .nil => .nil
  | _, _, .cons k v l e l' hk hv hl => .cons _ _ _ e l' (hk.fwd hρ) (hv.fwd hρ) (ERel.fwd hρ hl)
theorem BlkRel.fwd {ρ : K → K} (hρ : ∀ k a, φ k = some a → ψ (ρ k) = some a) {at_ : At} : ∀ {b : Blk}, BlkRel P φ w at_ b → BlkRel P ψ w at_ (b.ren ρ)
  | .dead, _ => trivial
  | .row wr esz rows, h => by
    have h : RowRel P φ w at_ wr esz rows := h
    obtain ⟨hp, hl, pre, vs, post, e, lo, hi, h1, h2, h3, h4, h5, h6⟩ := h
    show RowRel P ψ w at_ wr esz (rows.map (AV.rens ρ))
    refine ⟨hp, fun r hr => ?_, pre, vs, post, e, lo, hi, h1, h2, h3, h4, ?_, h6⟩
    · obtain ⟨x, hx, rfl⟩ := List.mem_map.1 hr
      rw [AV.rens_length]; exact hl _ hx
    · rw [← AV.rens_flatten]; exact h5.fwd hρ
  | .map es, h => by
    obtain ⟨c, clock, h1, h2⟩ := h
    exact ⟨c, clock, h1, h2.fwd hρ⟩

/-! ### What is named is there -/
mutual
def AV.keys : AV → List K
  | .ptr k _ => [k]
  | .slice k _ _ _ _ _ => [k]
  | .fn _ a c => AV.keyss a ++ AV.keyss c
  | .iface _ v => AV.keys v
  | .agg l => AV.keyss l
  | .tup l => AV.keyss l
  | .map k => [k]
  | _ => []
def AV.keyss : List AV → List K
  | [] => []
  | v :: l => AV.keys v ++ AV.keyss l
end
mutual
theorem VRel.keys_some : ∀ {v : AV} {v' : Value}, VRel P φ v v' → ∀ k ∈ v.keys, φ k ≠ none
  | _, _, .ptr k off a e => fun j hj => by rw [AV.keys, List.mem_singleton] at hj; subst hj; rw [e]; simp
  | _, _, .slice k off len esz ex cap a c e hx hc hl hn => fun j hj => by rw [AV.keys, List.mem_singleton] at hj; subst hj; rw [e]; simp
  | _, _, .sliceE k off esz ex a x e => fun j hj => by rw [AV.keys, List.mem_singleton] at hj; subst hj; rw [e]; simp
  | _, _, .fn f a b c d h1 h2 => fun j hj => by
    rw [AV.keys, List.mem_append] at hj
    rcases hj with hj | hj
    · exact VRels.keys_some h1 j hj
    · exact VRels.keys_some h2 j hj
  | _, _, .iface t v v' e => fun j hj => by rw [AV.keys] at hj; exact VRel.keys_some e j hj
  | _, _, .agg l c e h1 => fun j hj => by rw [AV.keys] at hj; exact VRels.keys_some e j hj
  | _, _, .tup l c e => fun j hj => by rw [AV.keys] at hj; exact VRels.keys_some e j hj
  | _, _, .map k a e => fun j hj => by rw [AV.keys, List.mem_singleton] at hj; subst hj; rw [e]; simp
  | _, _, .bool b => fun j hj => by simp [AV.keys] at hj
  | _, _, .int k n => fun j hj => by simp [AV.keys] at hj
  | _, _, .str l s e => fun j hj => by simp [AV.keys] at hj
  | _, _, .nilp => fun j hj => by simp [AV.keys] at hj
  | _, _, .nils => fun j hj => by simp [AV.keys] at hj
  | _, _, .nilf => fun j hj => by simp [AV.keys] at hj
  | _, _, .nili => fun j hj => by simp [AV.keys] at hj
  | _, _, .nilm => fun j hj => by simp [AV.keys] at hj
  | _, _, .typ t => fun j hj => by simp [AV.keys] at hj
  | _, _, .any v h => fun j hj => by simp [AV.keys] at hj
  | _, _, .geq n m h => fun j hj => by simp [AV.keys] at hj
theorem VRels.keys_some : ∀ {l : List AV} {l' : List Value}, VRels P φ l l' → ∀ k ∈ AV.keyss l, φ k ≠ none
  | _, _, .nil => fun j hj => by simp [AV.keyss] at hj
  | _, _, .cons v l v' l' a b => fun j hj => by
    rw [AV.keyss, List.mem_append] at hj
    rcases hj with hj | hj
    · exact VRel.keys_some a j hj
    · exact VRels.keys_some b j hj
end
def Blk.keys : Blk → List K
  | .row _ _ rows => AV.keyss rows.flatten
  | _ => []
theorem BlkRel.keys_some {at_ : At} {b : Blk} (h : BlkRel P φ w at_ b) : ∀ k ∈ b.keys, φ k ≠ none := by
  cases b with
  | dead => intro k hk; cases hk
  | row wr esz rows =>
    obtain ⟨hp, hl, pre, vs, post, e, lo, hi, h1, h2, h3, h4, h5, h6⟩ := (h : RowRel P φ w at_ wr esz rows)
    exact h5.keys_some
  | map es => intro k hk; cases hk
noncomputable def memK (k : K) (l : List K) : Bool := List.rec (motive := fun _ => Bool) false (fun x _ ih => bif' (K.beq k x) true ih) l
theorem memK_mem {k : K} : ∀ {l : List K}, memK k l = true → k ∈ l
  | x :: l, h => by
    have h : bif' (K.beq k x) true (memK k l) = true := h
    cases hb : K.beq k x with
    | true => rw [(K.beq_iff _ _).1 hb]; exact List.mem_cons_self
    | false => rw [hb] at h; exact List.mem_cons_of_mem _ (memK_mem h)
/-- each block is named by what is asked, or by a block ahead of it -/
noncomputable def reachB (bl : List Blk) : K → List K → Bool :=
  List.rec (motive := fun _ => K → List K → Bool) (fun _ _ => true)
    (fun b _ ih k acc => bif' (Blk.rec (motive := fun _ => Bool) true (fun _ _ _ => memK k acc) (fun _ => memK k acc) b) (ih k.succ (acc ++ b.keys)) false) bl

mutual
theorem AV.ren_congr {ρ σ : K → K} : ∀ {v : AV}, (∀ k ∈ v.keys, ρ k = σ k) → v.ren ρ = v.ren σ
  | .ptr k _, h => by rw [AV.ren, AV.ren, h k (by simp [AV.keys])]
  | .slice k _ _ _ _ _, h => by rw [AV.ren, AV.ren, h k (by simp [AV.keys])]
  | .fn _ a c, h => by
    rw [AV.ren, AV.ren, AV.rens_congr (l := a) fun k hk => h k (by rw [AV.keys]; exact List.mem_append_left _ hk), AV.rens_congr (l := c) fun k hk => h k (by rw [AV.keys]; exact List.mem_append_right _ hk)]
  | .iface _ v, h => by rw [AV.ren, AV.ren, AV.ren_congr (v := v) fun k hk => h k (by rw [AV.keys]; exact hk)]
  | .agg l, h => by rw [AV.ren, AV.ren, AV.rens_congr (l := l) fun k hk => h k (by rw [AV.keys]; exact hk)]
  | .tup l, h => by rw [AV.ren, AV.ren, AV.rens_congr (l := l) fun k hk => h k (by rw [AV.keys]; exact hk)]
  | .map k, h => by rw [AV.ren, AV.ren, h k (by simp [AV.keys])]
  | .bool _, _ => by rw [AV.ren, AV.ren]
  | .int _ _, _ => by rw [AV.ren, AV.ren]
  | .str _, _ => by rw [AV.ren, AV.ren]
  | .nilp, _ => by rw [AV.ren, AV.ren]
  | .nils, _ => by rw [AV.ren, AV.ren]
  | .nilf, _ => by rw [AV.ren, AV.ren]
  | .nili, _ => by rw [AV.ren, AV.ren]
  | .nilm, _ => by rw [AV.ren, AV.ren]
  | .typ _, _ => by rw [AV.ren, AV.ren]
  | .any, _ => by rw [AV.ren, AV.ren]
  | .geq _, _ => by rw [AV.ren, AV.ren]
theorem AV.rens_congr {ρ σ : K → K} : ∀ {l : List AV}, (∀ k ∈ AV.keyss l, ρ k = σ k) → AV.rens ρ l = AV.rens σ l
  | [], _ => by rw [AV.rens, AV.rens]
  | v :: l, h => by
    rw [AV.rens, AV.rens, AV.ren_congr (v := v) fun k hk => h k (by rw [AV.keyss]; exact List.mem_append_left _ hk), AV.rens_congr (l := l) fun k hk => h k (by rw [AV.keyss]; exact List.mem_append_right _ hk)]
end
theorem keyss_flat : ∀ {l : List (List AV)} {r : List AV}, r ∈ l → ∀ k ∈ AV.keyss r, k ∈ AV.keyss l.flatten
  | x :: l, r, hr, k, hk => by
    have e : ∀ a b : List AV, AV.keyss (a ++ b) = AV.keyss a ++ AV.keyss b := fun a b => by
      induction a with
      | nil => simp [AV.keyss]
      | cons v a ih => simp [AV.keyss, ih]
    rw [List.flatten_cons, e, List.mem_append]
    rcases List.mem_cons.1 hr with rfl | hr
    · exact .inl hk
    · exact .inr (keyss_flat hr k hk)
/-- all names in a block -/
def Blk.keysA : Blk → List K
  | .dead => []
  | .row _ _ rows => AV.keyss rows.flatten
  | .map es => AV.keyss (es.map Prod.fst) ++ AV.keyss (es.map Prod.snd)
theorem Blk.ren_congr {ρ σ : K → K} {b : Blk} (h : ∀ k ∈ b.keysA, ρ k = σ k) : b.ren ρ = b.ren σ := by
  cases b with
  | dead => rfl
  | row wr esz rows =>
    show Blk.row wr esz (rows.map (AV.rens ρ)) = Blk.row wr esz (rows.map (AV.rens σ))
    congr 1
    exact List.map_congr_left fun r hr => AV.rens_congr fun k hk => h k (keyss_flat hr k hk)
  | map es =>
    show Blk.map (es.map _) = Blk.map (es.map _)
    congr 1
    refine List.map_congr_left fun p hp => ?_
    have key : ∀ {l : List AV} {v : AV}, v ∈ l → ∀ k ∈ v.keys, k ∈ AV.keyss l := by
      intro l
      induction l with
      | nil => intro v hv; cases hv
      | cons x l ih =>
        intro v hv k hk
        rw [AV.keyss, List.mem_append]
        rcases List.mem_cons.1 hv with rfl | hv
        · exact .inl hk
        · exact .inr (ih hv k hk)
    rw [AV.ren_congr (v := p.1) fun k hk => h k (List.mem_append_left _ (key (List.mem_map_of_mem hp) k hk)), AV.ren_congr (v := p.2) fun k hk => h k (List.mem_append_right _ (key (List.mem_map_of_mem hp) k hk))]

/-! ### The names of a small memory's blocks in a large one -/
def rk (κ : List K) (top k : K) : K := (κ[k.toNat - 1]?).getD top
theorem rk_some {κ : List K} {top k j : K} (h : κ[k.toNat - 1]? = some j) : rk κ top k = j := by unfold rk; rw [h]; rfl
theorem rk_none {κ : List K} {top k : K} (h : κ[k.toNat - 1]? = none) : rk κ top k = top := by unfold rk; rw [h]; rfl
theorem rk_in {κ : List K} {k : K} (h : k.toNat ≤ κ.length) (t t' : K) : rk κ t k = rk κ t' k := by
  have := k.toNat_pos
  have e : κ[k.toNat - 1]? = some (κ[k.toNat - 1]'(by omega)) := List.getElem?_eq_getElem _
  rw [rk_some e, rk_some e]
theorem hp0_key (i : Nat) : (hp0.key i).toNat = i + 1 := by rw [Heap.toNat_key]; show 1 + i = _; omega
theorem get_small (bl : List Blk) (k : K) : (hp0.ext bl).get k = bl[k.toNat - 1]? := by
  have hpos := k.toNat_pos
  have h1 : hp0.nx.toNat = 1 := rfl
  rw [Heap.get_ext, h1, hp0_get]
  split
  · rfl
  · rename_i hn
    rw [List.getElem?_eq_none (by omega)]
theorem nx_small (bl : List Blk) : (hp0.ext bl).nx.toNat = bl.length + 1 := by rw [Heap.nx_ext, hp0_key]
/-- a small memory lies in a large one, under these names -/
structure Fit (H : Heap) (κ : List K) (bl : List Blk) : Prop where
  len : κ.length = bl.length
  nodup : κ.Nodup
  old : ∀ k ∈ κ, k.toNat < H.nx.toNat
  closed : ∀ b ∈ bl, ∀ k ∈ b.keysA, k.toNat ≤ bl.length
  blk : ∀ (i : Nat) (b : Blk) (k : K), bl[i]? = some b → κ[i]? = some k → b.live → H.get k = some (b.ren (rk κ .z))
theorem may_live {b : Blk} (h : b.mayWrite) : b.live := by cases b <;> simp_all [Blk.mayWrite, Blk.live]
section
variable {κ : List K} {bl : List Blk} {top : K}
theorem Fit.ren (h : Fit H κ bl) {b : Blk} (hb : b ∈ bl) (t t' : K) : b.ren (rk κ t) = b.ren (rk κ t') := Blk.ren_congr fun k hk => rk_in (by rw [h.len]; exact h.closed b hb k hk) t t'
theorem Fit.blkT (h : Fit H κ bl) (top : K) (i : Nat) (b : Blk) (k : K) (hb : bl[i]? = some b) (hk : κ[i]? = some k) (hl : b.live) : H.get k = some (b.ren (rk κ top)) := by
  rw [h.ren (List.mem_of_getElem? hb) top .z]
  exact h.blk i b k hb hk hl
theorem Fit.ext (h : Fit H κ bl) (hok : H.ok) (L : List Blk) : Fit (H.ext L) κ bl := by
  have hn : H.nx.toNat ≤ (H.ext L).nx.toNat := by rw [Heap.nx_ext, Heap.toNat_key]; exact Nat.le_add_right _ _
  exact ⟨h.len, h.nodup, fun k hk => Nat.lt_of_lt_of_le (h.old k hk) hn, h.closed, fun i b k hb hk hl => Heap.get_ext_old hok (h.blk i b k hb hk hl) L⟩
/-- it is there still, where its blocks are as they were -/
theorem Fit.keep {H' : Heap} (h : Fit H κ bl) (hn : H.nx.toNat ≤ H'.nx.toNat) (hk : ∀ (i : Nat) (b : Blk) (k : K) (c : Blk), bl[i]? = some b → κ[i]? = some k → b.live → H.get k = some c → H'.get k = some c) : Fit H' κ bl :=
  ⟨h.len, h.nodup, fun k hk => Nat.lt_of_lt_of_le (h.old k hk) hn, h.closed, fun i b k hb hkk hl => hk i b k _ hb hkk hl (h.blk i b k hb hkk hl)⟩
theorem Fit.small (h : Fit H κ bl) (top : K) {k : K} {b : Blk} (hb : (hp0.ext bl).get k = some b) (hl : b.live) : H.get (rk κ top k) = some (b.ren (rk κ top)) := by
  rw [get_small] at hb
  have hi := (List.getElem?_eq_some_iff.1 hb).1
  have hk : κ[k.toNat - 1]? = some (κ[k.toNat - 1]'(by rw [h.len]; exact hi)) := List.getElem?_eq_getElem _
  rw [rk_some hk]
  exact h.blkT top _ _ _ hb hk hl
theorem Fit.vis (h : Fit H κ bl) (ht : H.nx.toNat ≤ top.toNat) (hw : WRel P φ H w) {k : K} {a : At} (ha : φ (rk κ top k) = some a) : k.toNat - 1 < κ.length := by
  by_cases hi : k.toNat - 1 < κ.length
  · exact hi
  · rw [rk_none (List.getElem?_eq_none (by omega))] at ha
    have := hw.dom _ _ ha
    omega
theorem Fit.inj (h : Fit H κ bl) {i j : Nat} {k : K} (hi : κ[i]? = some k) (hj : κ[j]? = some k) : i = j :=
  (List.getElem?_inj (List.getElem?_eq_some_iff.1 hi).1 h.nodup).1 (hi.trans hj.symm)
theorem Fit.own (h : Fit H κ bl) {b : Nat} (ho : Owned (fun k => φ (rk κ top k)) (hp0.ext bl) b) : ∃ (i : Nat) (c : Blk) (k : K) (a : At), bl[i]? = some c ∧ κ[i]? = some k ∧ c.mayWrite ∧ H.get k = some (c.ren (rk κ top)) ∧ φ k = some a ∧ a.b = b := by
  obtain ⟨k, c, a, hg, hm, ha, e⟩ := ho
  have h1 := h.small top hg (may_live hm)
  rw [get_small] at hg
  have hi := (List.getElem?_eq_some_iff.1 hg).1
  have hk : κ[k.toNat - 1]? = some (κ[k.toNat - 1]'(by rw [h.len]; exact hi)) := List.getElem?_eq_getElem _
  have ha : φ (rk κ top k) = some a := ha
  rw [rk_some hk] at ha h1
  exact ⟨_, c, _, a, hg, hk, hm, h1, ha, e⟩
/-- seen as small -/
theorem WRel.small (h : Fit H κ bl) (ht : H.nx.toNat ≤ top.toNat) (hw : WRel P φ H w) : WRel P (fun k => φ (rk κ top k)) (hp0.ext bl) w := by
  refine ⟨⟨fun k a ha => ?_, fun k b hb => ?_, fun k b a hb ha => ?_, fun j k c d x y hjk hc hd hx hy lc ld hxy hm => ?_, fun k a ha => hw.size _ a ha⟩, fun g v hm => ⟨(hw.rom g v hm).1, fun ho => ?_⟩⟩
  · have h1 : k.toNat - 1 < κ.length := h.vis ht hw ha
    rw [h.len] at h1
    have := k.toNat_pos
    rw [nx_small]; omega
  · rw [get_small] at hb
    have := (List.getElem?_eq_some_iff.1 hb).1
    have := k.toNat_pos
    rw [nx_small]; omega
  · cases b with
    | dead => trivial
    | row wr esz rows => exact (hw.blk _ _ a (h.small top hb trivial) ha).ren
    | map es => exact (hw.blk _ _ a (h.small top hb trivial) ha).ren
  · refine hw.inj _ _ _ _ x y (fun e => ?_) (h.small top hc lc) (h.small top hd ld) hx hy (Blk.ren_live.2 lc) (Blk.ren_live.2 ld) hxy (Blk.ren_mayWrite.2 hm)
    have h1 : j.toNat - 1 < κ.length := h.vis ht hw hx
    have h2 : k.toNat - 1 < κ.length := h.vis ht hw hy
    have e1 : κ[j.toNat - 1]? = some (κ[j.toNat - 1]'h1) := List.getElem?_eq_getElem _
    have e2 : κ[k.toNat - 1]? = some (κ[k.toNat - 1]'h2) := List.getElem?_eq_getElem _
    rw [rk_some e1, rk_some e2] at e
    rw [← e] at e2
    have := h.inj e1 e2
    have := j.toNat_pos
    have := k.toNat_pos
    exact hjk (K.toNat_inj (by omega))
  · obtain ⟨i, c, k, a, -, -, h3, h4, h5, h6⟩ := h.own ho
    exact (hw.rom g v hm).2 ⟨k, _, a, h4, Blk.ren_mayWrite.2 h3, h5, h6⟩
end
/-- some blocks are put in the place of others -/
theorem Heap.over (g : K → Option Blk) (H : Heap) : ∀ n, ∃ H' : Heap, H'.nx = H.nx ∧ ∀ k, H'.get k = if k.toNat ≤ n then (g k).orElse (fun _ => H.get k) else H.get k
  | 0 => ⟨H, rfl, fun k => by rw [if_neg]; have := k.toNat_pos; omega⟩
  | n + 1 => by
    obtain ⟨H', h1, h2⟩ := Heap.over g H n
    have hk : (hp0.key n).toNat = n + 1 := hp0_key n
    cases hg : g (hp0.key n) with
    | none =>
      refine ⟨H', h1, fun k => ?_⟩
      rw [h2]
      by_cases h : k.toNat ≤ n
      · rw [if_pos h, if_pos (by omega)]
      · rw [if_neg h]
        by_cases h3 : k.toNat ≤ n + 1
        · obtain rfl : k = hp0.key n := K.toNat_inj (by omega)
          rw [if_pos h3, hg]; rfl
        · rw [if_neg h3]
    | some b =>
      refine ⟨H'.set (hp0.key n) b, h1, fun k => ?_⟩
      rw [Heap.get_set]
      by_cases e : hp0.key n = k
      · subst e
        rw [if_pos rfl, if_pos (by omega), hg]; rfl
      · rw [if_neg e, h2]
        by_cases h : k.toNat ≤ n
        · rw [if_pos h, if_pos (by omega)]
        · rw [if_neg h, if_neg fun h3 => e (K.toNat_inj (by omega))]
theorem Blk.dead_or (b : Blk) : b = .dead ∨ b.live := by cases b <;> simp [Blk.live]
/-- all blocks that live are seen -/
theorem reach_vis {κ : List K} {top : K} : ∀ (l : List Blk) (i : Nat) (k : K) (acc : List K), k.toNat = i + 1 → reachB l k acc = true → (∀ j ∈ acc, φ (rk κ top j) ≠ none) →
    (∀ (j : Nat) (b : Blk), l[j]? = some b → b.live → ∀ a, φ (rk κ top (hp0.key (i + j))) = some a → BlkRel P φ w a (b.ren (rk κ top))) →
    ∀ (j : Nat) (b : Blk), l[j]? = some b → b.live → φ (rk κ top (hp0.key (i + j))) ≠ none
  | [], _, _, _, _, _, _, _, j, b, hj, _ => by simp at hj
  | c :: l, i, k, acc, hk, h, ha, hb, j, b, hj, hl => by
    have h : bif' (Blk.rec (motive := fun _ => Bool) true (fun _ _ _ => memK k acc) (fun _ => memK k acc) c) (reachB l k.succ (acc ++ c.keys)) false = true := h
    have hki : k = hp0.key i := K.toNat_inj (by rw [hk, hp0_key])
    have h1 : (Blk.rec (motive := fun _ => Bool) true (fun _ _ _ => memK k acc) (fun _ => memK k acc) c : Bool) = true ∧ reachB l k.succ (acc ++ c.keys) = true := by
      cases hx : (Blk.rec (motive := fun _ => Bool) true (fun _ _ _ => memK k acc) (fun _ => memK k acc) c : Bool) with
      | true => rw [hx] at h; exact ⟨rfl, h⟩
      | false => rw [hx] at h; cases h
    have hc : c.live → φ (rk κ top (hp0.key i)) ≠ none := fun hcl => by
      rw [← hki]
      refine ha k (memK_mem ?_)
      cases c with
      | dead => exact hcl.elim
      | row wr esz rows => exact h1.1
      | map es => exact h1.1
    cases j with
    | zero =>
      cases hj
      exact hc hl
    | succ j =>
      have hj : l[j]? = some b := hj
      rw [show i + (j + 1) = i + 1 + j by omega]
      refine reach_vis l (i + 1) k.succ (acc ++ c.keys) (by rw [K.toNat_succ, hk]) h1.2 (fun x hx => ?_) (fun j b hj hl a ha => ?_) j b hj hl
      · rcases List.mem_append.1 hx with hx | hx
        · exact ha x hx
        · have hcl : c.live := by cases c with
            | dead => cases hx
            | row _ _ _ => trivial
            | map _ => trivial
          cases hv : φ (rk κ top (hp0.key i)) with
          | none => exact absurd hv (hc hcl)
          | some a => exact (hb 0 c rfl hcl a hv).ren.keys_some x hx
      · have := hb (j + 1) b hj hl
        rw [show i + (j + 1) = i + 1 + j by omega] at this
        exact this a ha
/-- what a small memory turns to, in the large one -/
structure Framed (H : Heap) (κ : List K) (bl : List Blk) (sel : List K) (bl' : List Blk) (G : Heap) (κ' : List K) : Prop where
  fit : Fit G κ' bl'
  stay : ∀ (i : Nat) (k : K), sel[i]? = some k → k.toNat ≤ bl.length → κ'[i]? = κ[k.toNat - 1]?
  keep : ∀ (k : K) (b : Blk), H.get k = some b → (∀ (i : Nat) (c : Blk), bl[i]? = some c → c.live → κ[i]? ≠ some k) → G.get k = some b
  nx : H.nx.toNat ≤ G.nx.toNat
  ok : G.ok
open Classical in
theorem frame_rel {κ sel : List K} {bl bl' : List Blk} {G0 : Heap} (hw : WRel P φ H w) (hF : Fit H κ bl)
    (hvis : ∀ (i : Nat) (b : Blk) (k : K), bl[i]? = some b → b.live → κ[i]? = some k → φ k ≠ none)
    (hW : WRel P ψ G0 u) (hE : Ext (fun k => φ (rk κ H.nx k)) (hp0.ext bl) w ψ G0 u) (hS : Fit G0 sel bl') (hmw : ∀ b ∈ bl', b.live → b.mayWrite)
    (hop : ∀ (i : Nat) (k : K) (b : Blk), sel[i]? = some k → bl[k.toNat - 1]? = some .dead → bl'[i]? = some b → b = .dead) :
    ∃ (χ : Phi) (M : Heap) (κ' : List K), WRel P χ M u ∧ Ext φ H w χ M u ∧ Framed H κ bl sel bl' M κ' ∧ ∀ (k : K) (a : At), k.toNat ≤ bl'.length → ψ (rk sel .z k) = some a → χ (rk κ' .z k) = some a := by
  obtain ⟨m, hm⟩ : ∃ m, m = bl.length := ⟨_, rfl⟩
  obtain ⟨n, hn⟩ : ∃ n, n = bl'.length := ⟨_, rfl⟩
  obtain ⟨S, hSd⟩ : ∃ S : Nat → K, S = fun i => (sel[i]?).getD .z := ⟨_, rfl⟩
  have hSi : ∀ i, i < n → sel[i]? = some (S i) := fun i hi => by
    have : i < sel.length := by rw [hS.len, ← hn]; exact hi
    rw [hSd]; simp only [List.getElem?_eq_getElem this, Option.getD_some]
  obtain ⟨F, hFd⟩ : ∃ F : Nat → K, F = fun i => if (S i).toNat ≤ m then rk κ .z (S i) else H.key i := ⟨_, rfl⟩
  have hFo : ∀ i, (S i).toNat ≤ m → F i = rk κ .z (S i) := fun i h => by rw [hFd]; exact if_pos h
  have hFn : ∀ i, ¬ (S i).toNat ≤ m → F i = H.key i := fun i h => by rw [hFd]; exact if_neg h
  have hSo : ∀ i, (S i).toNat ≤ m → κ[(S i).toNat - 1]? = some (F i) := fun i h => by
    have := (S i).toNat_pos
    have e : κ[(S i).toNat - 1]? = some (κ[(S i).toNat - 1]'(by rw [hF.len]; omega)) := List.getElem?_eq_getElem _
    rw [hFo i h, rk_some e]; exact e
  have hFlt : ∀ i, (S i).toNat ≤ m → (F i).toNat < H.nx.toNat := fun i h => hF.old _ (List.mem_of_getElem? (hSo i h))
  have hinj : ∀ i j, i < n → j < n → F i = F j → i = j := by
    intro i j hi hj e
    by_cases h1 : (S i).toNat ≤ m
    · by_cases h2 : (S j).toNat ≤ m
      · have e1 := hSo i h1
        have e2 := hSo j h2
        rw [← e] at e2
        have e3 := hF.inj e1 e2
        have p1 := (S i).toNat_pos
        have p2 := (S j).toNat_pos
        have e4 : S i = S j := K.toNat_inj (by omega)
        have e5 := hSi i hi
        rw [e4] at e5
        exact hS.inj e5 (hSi j hj)
      · have := hFlt i h1
        rw [e, hFn j h2, Heap.toNat_key] at this
        omega
    · by_cases h2 : (S j).toNat ≤ m
      · have := hFlt j h2
        rw [← e, hFn i h1, Heap.toNat_key] at this
        omega
      · rw [hFn i h1, hFn j h2] at e
        exact Heap.key_inj e
  obtain ⟨κ', hκ⟩ : ∃ κ' : List K, κ' = (List.range n).map F := ⟨_, rfl⟩
  have hκl : κ'.length = n := by rw [hκ, List.length_map, List.length_range]
  have hκi : ∀ i, i < n → κ'[i]? = some (F i) := fun i hi => by rw [hκ, List.getElem?_map, List.getElem?_range hi]; rfl
  have hκb : ∀ i k, κ'[i]? = some k → i < n ∧ k = F i := fun i k h => by
    have hi := (List.getElem?_eq_some_iff.1 h).1
    rw [hκl] at hi
    rw [hκi i hi] at h
    exact ⟨hi, (Option.some.inj h).symm⟩
  -- the blocks that are written over
  obtain ⟨g, hg⟩ : ∃ g : K → Option Blk, g = fun k => if h : ∃ i b, i < n ∧ bl'[i]? = some b ∧ b.live ∧ (S i).toNat ≤ m ∧ F i = k then some (h.choose_spec.choose.ren (rk κ' .z)) else if ∃ (i : Nat) (c : Blk), bl[i]? = some c ∧ c.live ∧ κ[i]? = some k then some .dead else none := ⟨_, rfl⟩
  have hg1 : ∀ i b, i < n → bl'[i]? = some b → b.live → (S i).toNat ≤ m → g (F i) = some (b.ren (rk κ' .z)) := fun i b hi hb hl hs => by
    have h : ∃ i' b', i' < n ∧ bl'[i']? = some b' ∧ b'.live ∧ (S i').toNat ≤ m ∧ F i' = F i := ⟨i, b, hi, hb, hl, hs, rfl⟩
    rw [hg]
    simp only [dif_pos h]
    obtain ⟨h1, h2, h3, h4, h5⟩ := h.choose_spec.choose_spec
    have e2 : bl'[h.choose]? = bl'[i]? := congrArg (fun z => bl'[z]?) (hinj _ _ h1 hi h5)
    have e3 := h2.symm.trans (e2.trans hb)
    exact congrArg (fun z => some (Blk.ren (rk κ' .z) z)) (Option.some.inj e3)
  have hg2 : ∀ k b, g k = some b → (∃ i b', i < n ∧ bl'[i]? = some b' ∧ b'.live ∧ (S i).toNat ≤ m ∧ F i = k ∧ b = b'.ren (rk κ' .z)) ∨ (b = .dead ∧ ∃ (i : Nat) (c : Blk), bl[i]? = some c ∧ c.live ∧ κ[i]? = some k) := fun k b h => by
    rw [hg] at h
    simp only at h
    split at h
    · rename_i hx
      obtain ⟨h1, h2, h3, h4, h5⟩ := hx.choose_spec.choose_spec
      exact .inl ⟨_, _, h1, h2, h3, h4, h5, (Option.some.inj h).symm⟩
    · split at h
      · rename_i hx
        exact .inr ⟨(Option.some.inj h).symm, hx⟩
      · cases h
  have hg3 : ∀ k, g k = none → ∀ (i : Nat) (c : Blk), bl[i]? = some c → c.live → κ[i]? ≠ some k := fun k h i c h1 h2 h3 => by
    rw [hg] at h
    simp only at h
    split at h
    · cases h
    · rw [if_pos ⟨i, c, h1, h2, h3⟩] at h; cases h
  obtain ⟨H', hnx', hget'⟩ := Heap.over g H (H.nx.toNat - 1)
  have hpx := H.nx.toNat_pos
  obtain ⟨M, hM⟩ : ∃ M, M = H'.ext ((List.range n).map fun i => if (S i).toNat ≤ m then Blk.dead else ((bl'[i]?).getD .dead).ren (rk κ' .z)) := ⟨_, rfl⟩
  have hkey : ∀ i, H'.key i = H.key i := fun i => by unfold Heap.key; rw [hnx']
  have hMn : M.nx.toNat = H.nx.toNat + n := by rw [hM, Heap.nx_ext, Heap.toNat_key, hnx', List.length_map, List.length_range]
  have hMo : ∀ k, k.toNat < H.nx.toNat → M.get k = (g k).orElse (fun _ => H.get k) := fun k hk => by
    rw [hM, Heap.get_ext_lt _ _ _ (by rw [hnx']; exact hk), hget', if_pos (by omega)]
  have hMf : ∀ i, i < n → M.get (H.key i) = some (if (S i).toNat ≤ m then Blk.dead else ((bl'[i]?).getD .dead).ren (rk κ' .z)) := fun i hi => by
    rw [hM, ← hkey, Heap.get_ext_key _ _ _ (by rw [List.length_map, List.length_range]; exact hi), List.getElem?_map, List.getElem?_range hi]; rfl
  have hMk : ∀ k b, M.get k = some b → k.toNat < H.nx.toNat ∨ ∃ i, i < n ∧ k = H.key i := fun k b h => by
    by_cases hk : k.toNat < H.nx.toNat
    · exact .inl hk
    · refine .inr ⟨k.toNat - H.nx.toNat, ?_, K.toNat_inj (by rw [Heap.toNat_key]; omega)⟩
      rw [hM, Heap.get_ext, hnx', List.length_map, List.length_range] at h
      split at h
      · omega
      · rw [hget', if_neg (by omega)] at h
        exact absurd (hw.top k b h) hk
  -- a live block of what is new
  have hMN : ∀ i b, i < n → bl'[i]? = some b → b.live → M.get (F i) = some (b.ren (rk κ' .z)) := fun i b hi hb hl => by
    by_cases hs : (S i).toNat ≤ m
    · rw [hMo _ (hFlt i hs), hg1 i b hi hb hl hs]; rfl
    · rw [hFn i hs, hMf i hi, if_neg hs, hb]; rfl
  obtain ⟨χ, hχ⟩ : ∃ χ : Phi, χ = fun k => if k.toNat < H.nx.toNat then φ k else if k.toNat - H.nx.toNat < n then (if (S (k.toNat - H.nx.toNat)).toNat ≤ m then none else ψ (S (k.toNat - H.nx.toNat))) else none := ⟨_, rfl⟩
  have hχo : ∀ k, k.toNat < H.nx.toNat → χ k = φ k := fun k hk => by rw [hχ]; exact if_pos hk
  have hχf : ∀ i, i < n → ¬ (S i).toNat ≤ m → χ (H.key i) = ψ (S i) := fun i hi hs => by
    rw [hχ]; simp only
    rw [Heap.toNat_key, if_neg (by omega), Nat.add_sub_cancel_left, if_pos hi, if_neg hs]
  have hle : φ.le χ := fun k a h => by rw [hχo k (hw.dom k a h)]; exact h
  have hlow : ∀ i, (S i).toNat ≤ m → ψ (S i) = φ (F i) := fun i hs => by
    rw [hE.phi (S i) (by rw [nx_small, ← hm]; omega), hFo i hs]
    show φ (rk κ H.nx (S i)) = φ (rk κ .z (S i))
    rw [rk_in (by rw [hF.len, ← hm]; exact hs) H.nx .z]
  have hχF : ∀ i, i < n → χ (F i) = ψ (S i) := fun i hi => by
    by_cases hs : (S i).toNat ≤ m
    · rw [hχo _ (hFlt i hs), hlow i hs]
    · rw [hFn i hs]; exact hχf i hi hs
  have hρ : ∀ (k : K) (a : At), k.toNat ≤ n → ψ (rk sel .z k) = some a → χ (rk κ' .z k) = some a := fun k a hk h => by
    have := k.toNat_pos
    have hi : k.toNat - 1 < n := by omega
    rw [rk_some (hSi _ hi)] at h
    rw [rk_some (hκi _ hi), hχF _ hi]; exact h
  -- the relation of a new block
  have hfin : Fit M κ' bl' := by
    refine ⟨by rw [hκl, hn], ?_, fun k hk => ?_, hS.closed, fun i b k hb hk hl => ?_⟩
    · rw [hκ]
      refine List.pairwise_map.2 ?_
      refine (List.pairwise_lt_range (n := n)).imp_of_mem fun {a b} ha hb hab e => ?_
      have := hinj a b (List.mem_range.1 ha) (List.mem_range.1 hb) e
      omega
    · rw [hκ] at hk
      obtain ⟨i, hi, rfl⟩ := List.mem_map.1 hk
      have hi := List.mem_range.1 hi
      rw [hMn]
      by_cases hs : (S i).toNat ≤ m
      · have := hFlt i hs; omega
      · rw [hFn i hs, Heap.toNat_key]; omega
    · obtain ⟨hi, rfl⟩ := hκb i k hk
      exact hMN i b hi hb hl
  have hren : ∀ b ∈ bl', ∀ a, BlkRel P ψ u a (b.ren (rk sel .z)) → BlkRel P χ u a (b.ren (rk κ' .z)) := fun b hb a h => by
    have h1 := h
    have t : b.ren (rk sel .z) = b.ren (rk sel G0.nx) := hS.ren hb _ _
    rw [t] at h1
    have h2 := h1.ren
    have t2 : b.ren (rk κ' .z) = b.ren (fun k => rk κ' .z k) := rfl
    refine BlkRel.fwd (φ := fun k => ψ (rk sel G0.nx k)) (fun k a hk => ?_) h2
    have hk : ψ (rk sel G0.nx k) = some a := hk
    by_cases hin : k.toNat ≤ n
    · exact hρ k a hin (by rw [rk_in (by rw [hS.len, ← hn]; exact hin) .z G0.nx]; exact hk)
    · rw [rk_none (List.getElem?_eq_none (by rw [hS.len, ← hn]; omega))] at hk
      exact absurd (hW.dom _ _ hk) (Nat.lt_irrefl _)
  have hold : ∀ k b a, k.toNat < H.nx.toNat → g k = none → H.get k = some b → φ k = some a → b.live → ¬ Owned (fun k => φ (rk κ H.nx k)) (hp0.ext bl) a.b := fun k b a hk hgn hb ha hl ho => by
    obtain ⟨i, c, k', a', h1, h2, h3, h4, h5, h6⟩ := hF.own ho
    exact hw.inj k' k _ b a' a (fun e => hg3 k hgn i c h1 (may_live h3) (by rw [← e]; exact h2)) h4 hb h5 ha (Blk.ren_live.2 (may_live h3)) hl h6 (Blk.ren_mayWrite.2 h3)
  have hownF : ∀ b, Owned (fun k => φ (rk κ H.nx k)) (hp0.ext bl) b → Owned φ H b := fun b ho => by
    obtain ⟨i, c, k', a', h1, h2, h3, h4, h5, h6⟩ := hF.own ho
    exact ⟨k', _, a', h4, Blk.ren_mayWrite.2 h3, h5, h6⟩
  -- each live block of M is new, or as it was
  have hkind : ∀ k b a, M.get k = some b → χ k = some a → b.live → (∃ i b', i < n ∧ bl'[i]? = some b' ∧ b'.live ∧ k = F i ∧ b = b'.ren (rk κ' .z) ∧ ψ (S i) = some a ∧ G0.get (S i) = some (b'.ren (rk sel .z))) ∨ (k.toNat < H.nx.toNat ∧ g k = none ∧ H.get k = some b ∧ φ k = some a) := fun k b a hb ha hl => by
    have fin : ∀ i b', i < n → bl'[i]? = some b' → b'.live → k = F i → b = b'.ren (rk κ' .z) → (∃ i b', i < n ∧ bl'[i]? = some b' ∧ b'.live ∧ k = F i ∧ b = b'.ren (rk κ' .z) ∧ ψ (S i) = some a ∧ G0.get (S i) = some (b'.ren (rk sel .z))) := fun i b' hi hb' hl' e1 e2 =>
      ⟨i, b', hi, hb', hl', e1, e2, by rw [← hχF i hi, ← e1]; exact ha, hS.blk i b' _ hb' (hSi i hi) hl'⟩
    rcases hMk k b hb with hk | ⟨i, hi, rfl⟩
    · rw [hMo k hk] at hb
      cases hgk : g k with
      | none =>
        rw [hgk] at hb
        exact .inr ⟨hk, rfl, hb, by rw [← hχo k hk]; exact ha⟩
      | some c =>
        rw [hgk] at hb
        have hb : some c = some b := hb
        cases hb
        rcases hg2 k b hgk with ⟨i, b', h1, h2, h3, h4, h5, h6⟩ | ⟨rfl, _⟩
        · exact .inl (fin i b' h1 h2 h3 h5.symm h6)
        · exact hl.elim
    · rw [hMf i hi] at hb
      by_cases hs : (S i).toNat ≤ m
      · rw [if_pos hs] at hb; cases hb; exact hl.elim
      · rw [if_neg hs] at hb
        have hbl : bl'[i]? = some (bl'[i]'(by rw [← hn]; exact hi)) := List.getElem?_eq_getElem _
        rw [hbl] at hb
        cases hb
        exact .inl (fin i _ hi hbl (Blk.ren_live.1 hl) (hFn i hs).symm rfl)
  have hin' : ∀ b, b ∈ bl' → True := fun _ _ => trivial
  have h0 : WRel0 P χ M u := by
    refine ⟨fun k a h => ?_, fun k b h => ?_, fun k b a hb ha => ?_, fun j k c d x y hjk hc hd hx hy lc ld hxy hmc => ?_, fun k a h => ?_⟩
    · rw [hMn]
      rw [hχ] at h; simp only at h
      split at h
      · omega
      · split at h
        · omega
        · cases h
    · rw [hMn]
      rcases hMk k b h with hk | ⟨i, hi, rfl⟩
      · omega
      · rw [Heap.toNat_key]; omega
    · rcases Blk.dead_or b with rfl | hl
      · trivial
      rcases hkind k b a hb ha hl with ⟨i, b', h1, h2, h3, h4, h5, h6, h7⟩ | ⟨h1, h2, h3, h4⟩
      · rw [h5]
        exact hren b' (List.mem_of_getElem? h2) a (hW.blk _ _ a h7 h6)
      · exact (BlkRel.congr (hE.keeps _ (hw.size k a h4) (hold k b a h1 h2 h3 h4 hl)) (hw.blk k b a h3 h4)).mono hle
    · rcases hkind j c x hc hx lc with ⟨i, b', h1, h2, h3, h4, h5, h6, h7⟩ | ⟨h1, h2, h3, h4⟩
      · rw [h5] at hmc
        have hmc' := Blk.ren_mayWrite.1 hmc
        rcases hkind k d y hd hy ld with ⟨i2, b2, g1, g2, g3, g4, g5, g6, g7⟩ | ⟨g1, g2, g3, g4⟩
        · have hne : i ≠ i2 := fun e => hjk (by rw [h4, g4, e])
          have hne2 : S i ≠ S i2 := fun e => hne (hS.inj (hSi i h1) (by rw [e]; exact hSi i2 g1))
          exact hW.inj _ _ _ _ x y hne2 h7 g7 h6 g6 (Blk.ren_live.2 h3) (Blk.ren_live.2 g3) hxy (Blk.ren_mayWrite.2 hmc')
        · have ho : Owned ψ G0 y.b := ⟨S i, _, x, h7, Blk.ren_mayWrite.2 hmc', h6, hxy⟩
          exact hold k d y g1 g2 g3 g4 ld (hE.own _ (hw.size k y g4) ho)
      · rcases hkind k d y hd hy ld with ⟨i2, b2, g1, g2, g3, g4, g5, g6, g7⟩ | ⟨g1, g2, g3, g4⟩
        · have ho : Owned ψ G0 x.b := ⟨S i2, _, y, g7, Blk.ren_mayWrite.2 (hmw b2 (List.mem_of_getElem? g2) g3), g6, hxy.symm⟩
          exact hold j c x h1 h2 h3 h4 lc (hE.own _ (hw.size j x h4) ho)
        · exact hw.inj j k c d x y hjk h3 g3 h4 g4 lc ld hxy hmc
    · rw [hχ] at h; simp only at h
      split at h
      · exact Nat.lt_of_lt_of_le (hw.size k a h) hE.size
      · split at h
        · split at h
          · cases h
          · exact hW.size _ a h
        · cases h
  have hext : Ext φ H w χ M u := by
    refine ⟨hχo, by rw [hMn]; omega, hE.size, fun b hb ho => hE.keeps b hb fun h => ho (hownF b h), fun k hk hn => ?_, fun b hb ho => ?_, hE.os, hE.tape, hE.output⟩
    · rw [hMo k hk]
      cases hgk : g k with
      | none => rfl
      | some c =>
        exfalso
        rcases hg2 k c hgk with ⟨i, b', h1, h2, h3, h4, h5, h6⟩ | ⟨_, i, c', h1, h2, h3⟩
        · have hpos := (S i).toNat_pos
          have hbl : bl[(S i).toNat - 1]? = some (bl[(S i).toNat - 1]'(by rw [← hm]; omega)) := List.getElem?_eq_getElem _
          rcases Blk.dead_or (bl[(S i).toNat - 1]'(by rw [← hm]; omega)) with e | hl
          · rw [e] at hbl
            have := hop i (S i) b' (hSi i h1) hbl h2
            subst this
            exact h3
          · exact hvis _ _ _ hbl hl (by rw [hSo i h4, h5]) hn
        · exact hvis i c' k h1 h2 h3 hn
    · obtain ⟨k, c, a, h1, h2, h3, h4⟩ := ho
      rcases hkind k c a h1 h3 (may_live h2) with ⟨i, b', g1, g2, g3, g4, g5, g6, g7⟩ | ⟨g1, g2, g3, g4⟩
      · rw [g5] at h2
        exact hownF b (hE.own b hb ⟨S i, _, a, g7, Blk.ren_mayWrite.2 (Blk.ren_mayWrite.1 h2), g6, h4⟩)
      · exact ⟨k, c, a, g3, h2, g4, h4⟩
  obtain ⟨hWM, hEM⟩ := hw.pack h0 hext
  refine ⟨χ, M, κ', hWM, hEM, ⟨hfin, fun i k h1 h2 => ?_, fun k b h1 h2 => ?_, by rw [hMn]; omega, hWM.top⟩, fun k a hk h => hρ k a (by rw [hn]; exact hk) h⟩
  · have hi : i < n := by rw [hn, ← hS.len]; exact (List.getElem?_eq_some_iff.1 h1).1
    have e : k = S i := by rw [hSi i hi] at h1; exact (Option.some.inj h1).symm
    subst e
    rw [hκi i hi, hSo i (by rw [hm]; exact h2)]
  · have hk := hw.top k b h1
    rw [hMo k hk]
    cases hgk : g k with
    | none => exact h1
    | some c =>
      exfalso
      rcases hg2 k c hgk with ⟨i, b', g1, g2, g3, g4, g5, g6⟩ | ⟨_, i, c', g1, g2, g3⟩
      · have hpos := (S i).toNat_pos
        have hbl : bl[(S i).toNat - 1]? = some (bl[(S i).toNat - 1]'(by rw [← hm]; omega)) := List.getElem?_eq_getElem _
        rcases Blk.dead_or (bl[(S i).toNat - 1]'(by rw [← hm]; omega)) with e | hl
        · rw [e] at hbl
          have := hop i (S i) b' (hSi i g1) hbl g2
          subst this
          exact g3
        · exact h2 _ _ hbl hl (by rw [hSo i g4, g5])
      · exact h2 i c' g1 g2 g3
theorem FnOk.frame {f : FuncId} {args : List AV} {v1 : AV} {κ sel : List K} {bl bl' : List Blk} (h : FnOk P f args (hp0.ext bl) fun v G => v = v1.ren (rk sel .z) ∧ Fit G sel bl') (hF : Fit H κ bl)
    (hr : reachB bl .z (AV.keyss args) = true) (hka : ∀ k ∈ AV.keyss args, k.toNat ≤ bl.length) (hkv : ∀ k ∈ v1.keys, k.toNat ≤ bl'.length) (hmw : ∀ b ∈ bl', b.live → b.mayWrite)
    (hop : ∀ (i : Nat) (k : K) (b : Blk), sel[i]? = some k → bl[k.toNat - 1]? = some .dead → bl'[i]? = some b → b = .dead) :
    FnOk P f (AV.rens (rk κ .z) args) H fun v G => ∃ κ', v = v1.ren (rk κ' .z) ∧ Framed H κ bl sel bl' G κ' := by
  intro φ w args' ha hw
  rw [AV.rens_congr (σ := rk κ H.nx) fun k hk => rk_in (by rw [hF.len]; exact hka k hk) .z H.nx] at ha
  have ha2 := ha.ren
  have hw2 := WRel.small (top := H.nx) hF (Nat.le_refl _) hw
  have hvis : ∀ (i : Nat) (b : Blk) (k : K), bl[i]? = some b → b.live → κ[i]? = some k → φ k ≠ none := fun i b k hb hl hk => by
    have := reach_vis (P := P) (w := w) (φ := φ) (κ := κ) (top := H.nx) bl 0 .z (AV.keyss args) rfl hr (fun j hj => ha2.keys_some j hj) (fun j b hj hl a ha' => by
      rw [Nat.zero_add] at ha'
      have e : (hp0.key j).toNat - 1 = j := by rw [hp0_key]; omega
      have hk : κ[j]? = some (κ[j]'(by rw [hF.len]; exact (List.getElem?_eq_some_iff.1 hj).1)) := List.getElem?_eq_getElem _
      rw [rk_some (by rw [e]; exact hk)] at ha'
      exact hw.blk _ _ a (hF.blkT H.nx j b _ hj hk hl) ha') i b hb hl
    rw [Nat.zero_add, rk_some (j := k) (by rw [hp0_key]; exact hk)] at this
    exact this
  refine (h _ w args' ha2 hw2).mono ?_
  rintro e u ⟨v, G0, ⟨rfl, hS⟩, ψ, v', he, hv, hW, hE⟩
  obtain ⟨χ, M, κ', h1, h2, h3, h4⟩ := frame_rel hw hF hvis hW hE hS hmw hop
  refine ⟨_, M, ⟨κ', rfl, h3⟩, χ, v', he, ?_, h1, h2⟩
  rw [AV.ren_congr (σ := rk sel G0.nx) fun k hk => rk_in (by rw [hS.len]; exact hkv k hk) .z G0.nx] at hv
  refine VRel.fwd (φ := fun k => ψ (rk sel G0.nx k)) (fun k a hk => ?_) hv.ren
  have hk : ψ (rk sel G0.nx k) = some a := hk
  by_cases hin : k.toNat ≤ bl'.length
  · exact h4 k a hin (by rw [rk_in (by rw [hS.len]; exact hin) .z G0.nx]; exact hk)
  · rw [rk_none (List.getElem?_eq_none (by rw [hS.len]; omega))] at hk
    exact absurd (hW.dom _ _ hk) (Nat.lt_irrefl _)

/-! ### What the kernel looks at -/
noncomputable def nodupB (l : List K) : Bool := List.rec (motive := fun _ => Bool) true (fun k l ih => bif' (memK k l) false ih) l
theorem memK_iff {k : K} {l : List K} (h : k ∈ l) : memK k l = true := by
  induction l with
  | nil => cases h
  | cons x l ih =>
    show bif' (K.beq k x) true (memK k l) = true
    cases hb : K.beq k x with
    | true => rfl
    | false =>
      rcases List.mem_cons.1 h with rfl | h
      · rw [(K.beq_iff k k).2 rfl] at hb; cases hb
      · exact ih h
theorem nodupB_ok : ∀ {l : List K}, nodupB l = true → l.Nodup
  | [], _ => List.nodup_nil
  | k :: l, h => by
    have h : bif' (memK k l) false (nodupB l) = true := h
    cases hm : memK k l with
    | true => rw [hm] at h; cases h
    | false =>
      rw [hm] at h
      refine List.nodup_cons.2 ⟨fun hk => ?_, nodupB_ok h⟩
      rw [memK_iff hk] at hm; cases hm
noncomputable def allB {α : Type} (f : α → Bool) (l : List α) : Bool := List.rec (motive := fun _ => Bool) true (fun x _ ih => bif' (f x) ih false) l
theorem allB_ok {α : Type} {f : α → Bool} : ∀ {l : List α}, allB f l = true → ∀ x ∈ l, f x = true
  | y :: l, h, x, hx => by
    have h : bif' (f y) (allB f l) false = true := h
    cases hy : f y with
    | false => rw [hy] at h; cases h
    | true =>
      rw [hy] at h
      rcases List.mem_cons.1 hx with rfl | hx
      · exact hy
      · exact allB_ok h x hx
noncomputable def isDead (b : Blk) : Bool := Blk.rec (motive := fun _ => Bool) true (fun _ _ _ => false) (fun _ => false) b
noncomputable def mayB (b : Blk) : Bool := Blk.rec (motive := fun _ => Bool) true (fun w _ _ => w) (fun _ => true) b
noncomputable def leK (n : Nat) (k : K) : Bool := Nat.ble k.toNat n
noncomputable def chkB (bl bl' : List Blk) (sel : List K) (args : List AV) (v1 : AV) : Bool :=
  bif' (Nat.beq sel.length bl'.length) (bif' (nodupB sel) (bif' (allB (fun b => allB (leK bl'.length) b.keysA) bl') (bif' (allB mayB bl') (bif' (reachB bl .z (AV.keyss args))
    (bif' (allB (leK bl.length) (AV.keyss args)) (bif' (allB (leK bl'.length) v1.keys) (allB (fun p => bif' (Option.rec (motive := fun _ => Bool) false (fun b => isDead b) (bl[p.1.toNat - 1]?)) (isDead p.2) true) (sel.zip bl')) false) false) false) false) false) false) false
/-- what is left: its answer, whether its names are there, its blocks -/
noncomputable def runL (r : RC) (sel : List K) (bl' : List Blk) : Option (AV × Bool × List (Option Blk)) :=
  RC.rec (motive := fun _ => Option (AV × Bool × List (Option Blk))) none (fun v G => some (v, allB (fun k => Nat.blt k.toNat G.nx.toNat) sel, (sel.zip bl').map fun p => bif' (isDead p.2) none (G.get p.1))) r
noncomputable def wantL (sel : List K) (bl' : List Blk) : List (Option Blk) := (sel.zip bl').map fun p => bif' (isDead p.2) none (some (p.2.ren (rk sel .z)))
theorem bif_split {a b : Bool} (h : bif' a b false = true) : a = true ∧ b = true := by cases a <;> simp_all [bif']
theorem FnOk.run {X : Orc} (hX : GoodX P X) {n : Nat} {f : FuncId} {args : List AV} {bl bl' : List Blk} {sel κ : List K} {v1 : AV} (hc : chkB bl bl' sel args v1 = true)
    (hr : runL (evFn P X n f args (hp0.ext bl)) sel bl' = some (v1.ren (rk sel .z), true, wantL sel bl')) (hF : Fit H κ bl) :
    FnOk P f (AV.rens (rk κ .z) args) H fun v G => ∃ κ', v = v1.ren (rk κ' .z) ∧ Framed H κ bl sel bl' G κ' := by
  obtain ⟨c1, hc⟩ := bif_split hc
  obtain ⟨c2, hc⟩ := bif_split hc
  obtain ⟨c3, hc⟩ := bif_split hc
  obtain ⟨c4, hc⟩ := bif_split hc
  obtain ⟨c5, hc⟩ := bif_split hc
  obtain ⟨c6, hc⟩ := bif_split hc
  obtain ⟨c7, c8⟩ := bif_split hc
  have hlen := Nat.eq_of_beq_eq_true c1
  have hmw : ∀ b ∈ bl', b.live → b.mayWrite := fun b hb hl => by
    have := allB_ok c4 b hb
    cases b with
    | dead => exact hl.elim
    | row wr esz rows => exact this
    | map es => trivial
  refine FnOk.frame ?_ hF c5 (fun k hk => Nat.le_of_ble_eq_true (allB_ok c6 k hk)) (fun k hk => Nat.le_of_ble_eq_true (allB_ok c7 k hk)) hmw fun i k b h1 h2 h3 => ?_
  · cases hev : evFn P X n f args (hp0.ext bl) with
    | fail => rw [hev] at hr; cases hr
    | ok v G =>
      rw [hev] at hr
      have hr : some (v, allB (fun k => Nat.blt k.toNat G.nx.toNat) sel, (sel.zip bl').map fun p => bif' (isDead p.2) none (G.get p.1)) = some (v1.ren (rk sel .z), true, wantL sel bl') := hr
      simp only [Option.some.injEq, Prod.mk.injEq] at hr
      obtain ⟨r1, r2, r3⟩ := hr
      refine (FnOk.of_ev hX hev).mono ?_
      rintro v' G' ⟨rfl, rfl⟩
      refine ⟨r1, hlen, nodupB_ok c2, fun k hk => ?_, fun b hb k hk => Nat.le_of_ble_eq_true (allB_ok (allB_ok c3 b hb) k hk), fun i b k hb hk hl => ?_⟩
      · have := allB_ok r2 k hk
        have h2 : Nat.ble (k.toNat + 1) G'.nx.toNat = true := this
        exact Nat.le_of_ble_eq_true h2
      · have hz : (sel.zip bl')[i]? = some (k, b) := by rw [List.getElem?_zip_eq_some]; exact ⟨hk, hb⟩
        have := congrArg (fun l => l[i]?) r3
        simp only [wantL, List.getElem?_map, hz, Option.map_some] at this
        have hd : isDead b = false := by cases b with
          | dead => exact hl.elim
          | row _ _ _ => rfl
          | map _ => rfl
        rw [hd] at this
        exact Option.some.inj this
  · have hz : (sel.zip bl')[i]? = some (k, b) := by rw [List.getElem?_zip_eq_some]; exact ⟨h1, h3⟩
    have := allB_ok c8 (k, b) (List.mem_of_getElem? hz)
    simp only [h2] at this
    have : isDead b = true := this
    cases b with
    | dead => rfl
    | row _ _ _ => cases this
    | map _ => cases this
end Go.Ev
/- Calls in regions that draw their order, behind a call whose memory is told of by what holds in it. -/

set_option linter.all false
namespace Go.Ev
variable {P : Program} {H : Heap}
open Classical in
/-- calls of which something is told, known beforehand: any answer, any memory of which it holds -/
noncomputable def EC (P : Program) (R : FuncId → List AV → Heap → AV → Heap → Prop) : FuncId → List AV → Heap → RC := fun f args H =>
  if h : ∃ v X, FnOk P f args H (fun r G => r = v ∧ G = X) ∧ R f args H v X then .ok h.choose h.choose_spec.choose else .fail
theorem good_EC (P : Program) (R : FuncId → List AV → Heap → AV → Heap → Prop) : Ev.Good P (EC P R) := by
  intro f args H r G he φ w args' ha hw
  refine (?_ : FnOk P f args H fun v' G' => v' = r ∧ G' = G).one φ w args' ha hw
  unfold EC at he
  split at he
  · rename_i h
    have := h.choose_spec.choose_spec.1
    cases he
    exact this
  · cases he
theorem EC_ex {R : FuncId → List AV → Heap → AV → Heap → Prop} {f : FuncId} {args : List AV} {v : AV} {X : Heap} (h1 : FnOk P f args H fun r G => r = v ∧ G = X) (h2 : R f args H v X) : ∃ v X, EC P R f args H = .ok v X ∧ R f args H v X := by
  have h : ∃ v X, FnOk P f args H (fun r G => r = v ∧ G = X) ∧ R f args H v X := ⟨v, X, h1, h2⟩
  exact ⟨_, _, by unfold EC; rw [dif_pos h], h.choose_spec.choose_spec.2⟩
/-- where all is told exactly -/
theorem EC_eq {R : FuncId → List AV → Heap → AV → Heap → Prop} {f : FuncId} {args : List AV} {v : AV} {X : Heap} (h1 : FnOk P f args H fun r G => r = v ∧ G = X) (h2 : R f args H v X) (hu : ∀ v' X', R f args H v' X' → v' = v ∧ X' = X) : EC P R f args H = .ok v X := by
  obtain ⟨v', X', h3, h4⟩ := EC_ex h1 h2
  obtain ⟨rfl, rfl⟩ := hu _ _ h4
  exact h3
end Go.Ev
/- rules that all steps are reckoned with. -/


set_option linter.all false
attribute [go_sem_proc] Nat.reduceAdd Nat.reduceSub Nat.reduceMul Nat.reduceDiv Nat.reduceMod Nat.reduceEqDiff Nat.reduceLeDiff Nat.reduceLT Int.reduceLT Int.reduceLE Int.reduceEq Int.reduceToNat reduceIte reduceCtorEq
attribute [go_sem] List.length_nil List.map_nil List.length_cons List.map_cons List.replicate_succ List.replicate_zero List.set_cons_zero List.set_cons_succ List.take_succ_cons List.take_zero List.take_nil List.length_append List.map_append List.cons_append List.nil_append List.drop_succ_cons List.drop_zero List.append_nil List.getElem?_cons_zero List.getElem?_cons_succ eq_self true_implies not_true_eq_false not_false_eq_true false_implies and_true true_and decide_true decide_false Bool.not_true Bool.not_false
/- Code laid out by reckoning it where it is wanted. -/

set_option linter.all false
set_option maxRecDepth 100000
namespace Go.Ev
open K
theorem K.inj : ∀ {a b : K}, a.toNat = b.toNat → a = b := by
  intro a
  induction a with
  | z => intro b h; cases b <;> simp [K.toNat] at h ⊢ <;> (have := K.toNat_pos ‹K›; omega)
  | o a ih => intro b h; cases b <;> simp [K.toNat] at h ⊢ <;> first | exact ih (by omega) | (have := K.toNat_pos a; omega) | omega
  | i a ih => intro b h; cases b <;> simp [K.toNat] at h ⊢ <;> first | exact ih (by omega) | (have := K.toNat_pos a; omega) | omega
theorem keyOf_o {n : Nat} (h : n % 2 = 1) : keyOf n = (keyOf ((n - 1) / 2)).o := by
  apply K.inj; rw [toNat_keyOf]; show _ = 2 * (keyOf ((n - 1) / 2)).toNat; rw [toNat_keyOf]; omega
theorem keyOf_i {n : Nat} (h : n % 2 = 0) (h0 : ¬ n = 0) : keyOf n = (keyOf (n / 2 - 1)).i := by
  apply K.inj; rw [toNat_keyOf]; show _ = 2 * (keyOf (n / 2 - 1)).toNat + 1; rw [toNat_keyOf]; omega
theorem keyOf_z : keyOf 0 = z := rfl
def CCz (P : Program) (f : Func) (n : Nat) (o : Option CC) : Prop := ∀ c, o = some c → CCok P f n c
theorem CCz.go {P : Program} {f : Func} {n : Nat} {c : CC} (h : CCz P f n (match f.body with | some code => comp P n code | none => none) → CCz P f n (some c)) : CCok P f n c := h (fun _ h => h) _ rfl
/-- code, reckoned where it stands -/
noncomputable def mkC (P : Program) (f : Func) (n : Nat) {c : CC} (h : CCok P f n c := by
  apply CCz.go
  intro h
  conv at h => arg 4; whnf
  simp only [go_sem, Array.reduceGetElem, Nat.reduceSucc, Option.map_some, Option.map_none, cloD, quietOp, allocOp, bif_true, bif_false, isK, Bool.or_true, Bool.or_false, Bool.true_or, Bool.false_or, List.map_cons, List.map_nil, UInt8.reduceToNat, List.append_eq, List.cons_append, List.nil_append] at h
  repeat (conv at h => pattern (lnOf _ _); whnf)
  repeat (conv at h => pattern (ekOf _ _); whnf)
  repeat (conv at h => pattern (plainK _ _); whnf)
  repeat (conv at h => pattern (cvOf _ _ _); whnf)
  repeat (conv at h => pattern (isArr1 _ _); whnf)
  repeat (conv at h => pattern (TypeInfo.size _); whnf)
  repeat (conv at h => pattern (TypeInfo.bytes _); whnf)
  repeat (conv at h => pattern (Field.offset _); whnf)
  simp only [go_sem, Array.reduceGetElem, Nat.reduceSucc, Option.map_some, Option.map_none, cloD, quietOp, allocOp, bif_true, bif_false, isK, Bool.or_true, Bool.or_false, Bool.true_or, Bool.false_or, List.map_cons, List.map_nil, UInt8.reduceToNat, List.append_eq, List.cons_append, List.nil_append, keyOf_z, keyOf_o, keyOf_i, Nat.reduceMod, Nat.reduceDiv, Nat.reduceSub, Nat.reduceEqDiff, not_false_eq_true] at h
  exact h) : CC := c
@[go_sem] theorem mkC_eq {P : Program} {f : Func} {n : Nat} {c : CC} (h : CCok P f n c) : mkC P f n h = c := rfl
theorem mkC_ok {P : Program} {f : Func} {n : Nat} {c : CC} (h : CCok P f n c) : CCok P f n (mkC P f n h) := h
end Go.Ev
/- Kinds of fields of types whose values are compared. -/


set_option linter.all false
set_option maxRecDepth 100000
namespace Go.Proofs
open Go Go.Ev K
@[go_sem] theorem pk26 : plainK Tryz.prog 26 = some [LK.str, LK.str] := by kernel_rfl
@[go_sem] theorem pk162 : plainK Tryz.prog 162 = some [LK.int, LK.int] := by kernel_rfl
@[go_sem] theorem pk104 : plainK Tryz.prog 104 = some [LK.str, LK.str, LK.int, LK.bool, LK.int] := by kernel_rfl
@[go_sem] theorem pk69 : plainK Tryz.prog 69 = some [LK.str, LK.int, LK.str, LK.bool] := by kernel_rfl
@[go_sem] theorem pk196 : plainK Tryz.prog 196 = some [LK.str, LK.str, LK.bool] := by kernel_rfl
@[go_sem] theorem pk171 : plainK Tryz.prog 171 = some [LK.str, LK.str, LK.int] := by kernel_rfl
@[go_sem] theorem pk67 : plainK Tryz.prog 67 = some [LK.str, LK.int] := by kernel_rfl
end Go.Proofs
/- The laid-out code of the functions that are walked. Printed by a program. -/

set_option linter.all false
set_option maxRecDepth 100000
namespace Go.Proofs
open Go Go.Ev K
@[go_sem] theorem call64 (a H) : callC Tryz.prog 64 a H = .call 64 a := callC_ok (by kernel_rfl) a H
noncomputable def C56 := mkC Tryz.prog Tryz.f56 28
theorem C56ok : CCok Tryz.prog Tryz.f56 28 C56 := mkC_ok _
@[go_sem] theorem call56 (a H) : callC Tryz.prog 56 a H = .call 56 a := callC_ok (by kernel_rfl) a H
theorem R56ok : resKs Tryz.prog Tryz.f56.results.toList = some [(RK.tmp z.o.i)] := by kernel_rfl

noncomputable def C112 := mkC Tryz.prog Tryz.f112 23
theorem C112ok : CCok Tryz.prog Tryz.f112 23 C112 := mkC_ok _
@[go_sem] theorem call112 (a H) : callC Tryz.prog 112 a H = .call 112 a := callC_ok (by kernel_rfl) a H
theorem R112ok : resKs Tryz.prog Tryz.f112.results.toList = some [(RK.tmp z.i)] := by kernel_rfl

noncomputable def C114 := mkC Tryz.prog Tryz.f114 8
theorem C114ok : CCok Tryz.prog Tryz.f114 8 C114 := mkC_ok _
@[go_sem] theorem call114 (a H) : callC Tryz.prog 114 a H = .call 114 a := callC_ok (by kernel_rfl) a H
theorem R114ok : resKs Tryz.prog Tryz.f114.results.toList = some [(RK.tmp z.i)] := by kernel_rfl

noncomputable def C24 := mkC Tryz.prog Tryz.f24 53
theorem C24ok : CCok Tryz.prog Tryz.f24 53 C24 := mkC_ok _
@[go_sem] theorem call24 (a H) : callC Tryz.prog 24 a H = .call 24 a := callC_ok (by kernel_rfl) a H
theorem R24ok : resKs Tryz.prog Tryz.f24.results.toList = some [(RK.tmp z.i)] := by kernel_rfl

noncomputable def C81 := mkC Tryz.prog Tryz.f81 45
theorem C81ok : CCok Tryz.prog Tryz.f81 45 C81 := mkC_ok _
@[go_sem] theorem call81 (a H) : callC Tryz.prog 81 a H = .call 81 a := callC_ok (by kernel_rfl) a H
theorem R81ok : resKs Tryz.prog Tryz.f81.results.toList = some [(RK.cell z.o.o.i true 8), (RK.cell z.o.i.o true 4), (RK.tmp z.o.i.i)] := by kernel_rfl

noncomputable def C57 := mkC Tryz.prog Tryz.f57 23
theorem C57ok : CCok Tryz.prog Tryz.f57 23 C57 := mkC_ok _
@[go_sem] theorem call57 (a H) : callC Tryz.prog 57 a H = .call 57 a := callC_ok (by kernel_rfl) a H
theorem R57ok : resKs Tryz.prog Tryz.f57.results.toList = some [(RK.tmp z.i)] := by kernel_rfl

noncomputable def C117 := mkC Tryz.prog Tryz.f117 10
theorem C117ok : CCok Tryz.prog Tryz.f117 10 C117 := mkC_ok _
@[go_sem] theorem call117 (a H) : callC Tryz.prog 117 a H = .call 117 a := callC_ok (by kernel_rfl) a H
theorem R117ok : resKs Tryz.prog Tryz.f117.results.toList = some [(RK.tmp z.i)] := by kernel_rfl

noncomputable def C130 := mkC Tryz.prog Tryz.f130 65
theorem C130ok : CCok Tryz.prog Tryz.f130 65 C130 := mkC_ok _
@[go_sem] theorem call130 (a H) : callC Tryz.prog 130 a H = .call 130 a := callC_ok (by kernel_rfl) a H
theorem R130ok : resKs Tryz.prog Tryz.f130.results.toList = some [(RK.tmp z.i)] := by kernel_rfl

noncomputable def C124 := mkC Tryz.prog Tryz.f124 47
theorem C124ok : CCok Tryz.prog Tryz.f124 47 C124 := mkC_ok _
@[go_sem] theorem call124 (a H) : callC Tryz.prog 124 a H = .call 124 a := callC_ok (by kernel_rfl) a H
theorem R124ok : resKs Tryz.prog Tryz.f124.results.toList = some [(RK.tmp z.i)] := by kernel_rfl

@[go_sem] theorem call106 (a H) : callC Tryz.prog 106 a H = .call 106 a := callC_ok (by kernel_rfl) a H
@[go_sem] theorem call107 (a H) : callC Tryz.prog 107 a H = .call 107 a := callC_ok (by kernel_rfl) a H
@[go_sem] theorem call108 (a H) : callC Tryz.prog 108 a H = .call 108 a := callC_ok (by kernel_rfl) a H
@[go_sem] theorem call109 (a H) : callC Tryz.prog 109 a H = .call 109 a := callC_ok (by kernel_rfl) a H
noncomputable def C55 := mkC Tryz.prog Tryz.f55 10
theorem C55ok : CCok Tryz.prog Tryz.f55 10 C55 := mkC_ok _
@[go_sem] theorem call55 (a H) : callC Tryz.prog 55 a H = .call 55 a := callC_ok (by kernel_rfl) a H
theorem R55ok : resKs Tryz.prog Tryz.f55.results.toList = some [(RK.tmp z.o.o)] := by kernel_rfl

noncomputable def C58 := mkC Tryz.prog Tryz.f58 9
theorem C58ok : CCok Tryz.prog Tryz.f58 9 C58 := mkC_ok _
@[go_sem] theorem call58 (a H) : callC Tryz.prog 58 a H = .call 58 a := callC_ok (by kernel_rfl) a H
theorem R58ok : resKs Tryz.prog Tryz.f58.results.toList = some [(RK.tmp z.o.i)] := by kernel_rfl

noncomputable def C59 := mkC Tryz.prog Tryz.f59 37
theorem C59ok : CCok Tryz.prog Tryz.f59 37 C59 := mkC_ok _
@[go_sem] theorem call59 (a H) : callC Tryz.prog 59 a H = .call 59 a := callC_ok (by kernel_rfl) a H
theorem R59ok : resKs Tryz.prog Tryz.f59.results.toList = some [(RK.tmp z.o.i)] := by kernel_rfl

noncomputable def C60 := mkC Tryz.prog Tryz.f60 51
theorem C60ok : CCok Tryz.prog Tryz.f60 51 C60 := mkC_ok _
@[go_sem] theorem call60 (a H) : callC Tryz.prog 60 a H = .call 60 a := callC_ok (by kernel_rfl) a H
theorem R60ok : resKs Tryz.prog Tryz.f60.results.toList = some [(RK.tmp z.i)] := by kernel_rfl

noncomputable def C137 := mkC Tryz.prog Tryz.f137 43
theorem C137ok : CCok Tryz.prog Tryz.f137 43 C137 := mkC_ok _
@[go_sem] theorem call137 (a H) : callC Tryz.prog 137 a H = .call 137 a := callC_ok (by kernel_rfl) a H
theorem R137ok : resKs Tryz.prog Tryz.f137.results.toList = some [(RK.cell z.i.i true 4), (RK.tmp z.o.o.o)] := by kernel_rfl

noncomputable def C138 := mkC Tryz.prog Tryz.f138 61
theorem C138ok : CCok Tryz.prog Tryz.f138 61 C138 := mkC_ok _
@[go_sem] theorem call138 (a H) : callC Tryz.prog 138 a H = .call 138 a := callC_ok (by kernel_rfl) a H
theorem R138ok : resKs Tryz.prog Tryz.f138.results.toList = some [(RK.cell z.o.i true 8), (RK.cell z.i.o true 4)] := by kernel_rfl

noncomputable def C82 := mkC Tryz.prog Tryz.f82 11
theorem C82ok : CCok Tryz.prog Tryz.f82 11 C82 := mkC_ok _
@[go_sem] theorem call82 (a H) : callC Tryz.prog 82 a H = .call 82 a := callC_ok (by kernel_rfl) a H
theorem R82ok : resKs Tryz.prog Tryz.f82.results.toList = some [(RK.tmp z.i)] := by kernel_rfl

noncomputable def C139 := mkC Tryz.prog Tryz.f139 57
theorem C139ok : CCok Tryz.prog Tryz.f139 57 C139 := mkC_ok _
@[go_sem] theorem call139 (a H) : callC Tryz.prog 139 a H = .call 139 a := callC_ok (by kernel_rfl) a H
theorem R139ok : resKs Tryz.prog Tryz.f139.results.toList = some [(RK.tmp z.o.i)] := by kernel_rfl

noncomputable def C173 := mkC Tryz.prog Tryz.f173 50
theorem C173ok : CCok Tryz.prog Tryz.f173 50 C173 := mkC_ok _
@[go_sem] theorem call173 (a H) : callC Tryz.prog 173 a H = .call 173 a := callC_ok (by kernel_rfl) a H
theorem R173ok : resKs Tryz.prog Tryz.f173.results.toList = some [(RK.tmp z.i)] := by kernel_rfl

noncomputable def C171 := mkC Tryz.prog Tryz.f171 40
theorem C171ok : CCok Tryz.prog Tryz.f171 40 C171 := mkC_ok _
@[go_sem] theorem call171 (a H) : callC Tryz.prog 171 a H = .call 171 a := callC_ok (by kernel_rfl) a H
theorem R171ok : resKs Tryz.prog Tryz.f171.results.toList = some [(RK.tmp z.i)] := by kernel_rfl

noncomputable def C118 := mkC Tryz.prog Tryz.f118 19
theorem C118ok : CCok Tryz.prog Tryz.f118 19 C118 := mkC_ok _
@[go_sem] theorem call118 (a H) : callC Tryz.prog 118 a H = .call 118 a := callC_ok (by kernel_rfl) a H
theorem R118ok : resKs Tryz.prog Tryz.f118.results.toList = some [(RK.tmp z.o.i)] := by kernel_rfl

noncomputable def C119 := mkC Tryz.prog Tryz.f119 31
theorem C119ok : CCok Tryz.prog Tryz.f119 31 C119 := mkC_ok _
@[go_sem] theorem call119 (a H) : callC Tryz.prog 119 a H = .call 119 a := callC_ok (by kernel_rfl) a H
theorem R119ok : resKs Tryz.prog Tryz.f119.results.toList = some [(RK.tmp z.i)] := by kernel_rfl

noncomputable def C120 := mkC Tryz.prog Tryz.f120 22
theorem C120ok : CCok Tryz.prog Tryz.f120 22 C120 := mkC_ok _
@[go_sem] theorem call120 (a H) : callC Tryz.prog 120 a H = .call 120 a := callC_ok (by kernel_rfl) a H
theorem R120ok : resKs Tryz.prog Tryz.f120.results.toList = some [(RK.cell z.o.i true 5), (RK.tmp z.i.o)] := by kernel_rfl

noncomputable def C121 := mkC Tryz.prog Tryz.f121 12
theorem C121ok : CCok Tryz.prog Tryz.f121 12 C121 := mkC_ok _
@[go_sem] theorem call121 (a H) : callC Tryz.prog 121 a H = .call 121 a := callC_ok (by kernel_rfl) a H
theorem R121ok : resKs Tryz.prog Tryz.f121.results.toList = some [(RK.tmp z.i)] := by kernel_rfl

noncomputable def C122 := mkC Tryz.prog Tryz.f122 8
theorem C122ok : CCok Tryz.prog Tryz.f122 8 C122 := mkC_ok _
@[go_sem] theorem call122 (a H) : callC Tryz.prog 122 a H = .call 122 a := callC_ok (by kernel_rfl) a H
theorem R122ok : resKs Tryz.prog Tryz.f122.results.toList = some [(RK.tmp z.o.o)] := by kernel_rfl

noncomputable def C123 := mkC Tryz.prog Tryz.f123 54
theorem C123ok : CCok Tryz.prog Tryz.f123 54 C123 := mkC_ok _
@[go_sem] theorem call123 (a H) : callC Tryz.prog 123 a H = .call 123 a := callC_ok (by kernel_rfl) a H
theorem R123ok : resKs Tryz.prog Tryz.f123.results.toList = some [(RK.tmp z.o.i)] := by kernel_rfl

noncomputable def C178 := mkC Tryz.prog Tryz.f178 28
theorem C178ok : CCok Tryz.prog Tryz.f178 28 C178 := mkC_ok _
@[go_sem] theorem call178 (a H) : callC Tryz.prog 178 a H = .call 178 a := callC_ok (by kernel_rfl) a H
theorem R178ok : resKs Tryz.prog Tryz.f178.results.toList = some [(RK.cell z.o.o.i true 8), (RK.cell z.o.i.o true 4)] := by kernel_rfl

end Go.Proofs
/- The laid-out code of the functions that are walked. Printed by a program. -/

set_option linter.all false
set_option maxRecDepth 100000
namespace Go.Proofs
open Go Go.Ev K
@[go_sem] theorem call183 (a H) : callC Tryz.prog 183 a H = .call 183 a := callC_ok (by kernel_rfl) a H
noncomputable def C219 := mkC Tryz.prog Tryz.f219 61
theorem C219ok : CCok Tryz.prog Tryz.f219 61 C219 := mkC_ok _
@[go_sem] theorem call219 (a H) : callC Tryz.prog 219 a H = .call 219 a := callC_ok (by kernel_rfl) a H
theorem R219ok : resKs Tryz.prog Tryz.f219.results.toList = some [(RK.tmp z.i.i), (RK.tmp z.o.o.o)] := by kernel_rfl

noncomputable def C211 := mkC Tryz.prog Tryz.f211 23
theorem C211ok : CCok Tryz.prog Tryz.f211 23 C211 := mkC_ok _
@[go_sem] theorem call211 (a H) : callC Tryz.prog 211 a H = .call 211 a := callC_ok (by kernel_rfl) a H
theorem R211ok : resKs Tryz.prog Tryz.f211.results.toList = some [(RK.tmp z.i)] := by kernel_rfl

noncomputable def C212 := mkC Tryz.prog Tryz.f212 9
theorem C212ok : CCok Tryz.prog Tryz.f212 9 C212 := mkC_ok _
@[go_sem] theorem call212 (a H) : callC Tryz.prog 212 a H = .call 212 a := callC_ok (by kernel_rfl) a H
theorem R212ok : resKs Tryz.prog Tryz.f212.results.toList = some [(RK.tmp z.o.i)] := by kernel_rfl

noncomputable def C169 := mkC Tryz.prog Tryz.f169 24
theorem C169ok : CCok Tryz.prog Tryz.f169 24 C169 := mkC_ok _
@[go_sem] theorem call169 (a H) : callC Tryz.prog 169 a H = .call 169 a := callC_ok (by kernel_rfl) a H
theorem R169ok : resKs Tryz.prog Tryz.f169.results.toList = some [(RK.tmp z.i)] := by kernel_rfl

noncomputable def C170 := mkC Tryz.prog Tryz.f170 31
theorem C170ok : CCok Tryz.prog Tryz.f170 31 C170 := mkC_ok _
@[go_sem] theorem call170 (a H) : callC Tryz.prog 170 a H = .call 170 a := callC_ok (by kernel_rfl) a H
theorem R170ok : resKs Tryz.prog Tryz.f170.results.toList = some [(RK.tmp z.o.o.i)] := by kernel_rfl

noncomputable def C214 := mkC Tryz.prog Tryz.f214 57
theorem C214ok : CCok Tryz.prog Tryz.f214 57 C214 := mkC_ok _
@[go_sem] theorem call214 (a H) : callC Tryz.prog 214 a H = .call 214 a := callC_ok (by kernel_rfl) a H
theorem R214ok : resKs Tryz.prog Tryz.f214.results.toList = some [(RK.cell z.o.o.i true 8), (RK.cell z.o.i.o true 5), (RK.tmp z.o.i.i)] := by kernel_rfl

@[go_sem] theorem call215 (a H) : callC Tryz.prog 215 a H = .call 215 a := callC_ok (by kernel_rfl) a H
noncomputable def C254 := mkC Tryz.prog Tryz.f254 19
theorem C254ok : CCok Tryz.prog Tryz.f254 19 C254 := mkC_ok _
@[go_sem] theorem call254 (a H) : callC Tryz.prog 254 a H = .call 254 a := callC_ok (by kernel_rfl) a H
theorem R254ok : resKs Tryz.prog Tryz.f254.results.toList = some [(RK.tmp z.o.i)] := by kernel_rfl

noncomputable def C255 := mkC Tryz.prog Tryz.f255 19
theorem C255ok : CCok Tryz.prog Tryz.f255 19 C255 := mkC_ok _
@[go_sem] theorem call255 (a H) : callC Tryz.prog 255 a H = .call 255 a := callC_ok (by kernel_rfl) a H
theorem R255ok : resKs Tryz.prog Tryz.f255.results.toList = some [(RK.cell z.o.i true 5), (RK.cell z.i.o true 4), (RK.tmp z.i.i)] := by kernel_rfl

noncomputable def C257 := mkC Tryz.prog Tryz.f257 20
theorem C257ok : CCok Tryz.prog Tryz.f257 20 C257 := mkC_ok _
@[go_sem] theorem call257 (a H) : callC Tryz.prog 257 a H = .call 257 a := callC_ok (by kernel_rfl) a H
theorem R257ok : resKs Tryz.prog Tryz.f257.results.toList = some [(RK.tmp z.o.o.i), (RK.tmp z.o.i.o)] := by kernel_rfl

noncomputable def C258 := mkC Tryz.prog Tryz.f258 53
theorem C258ok : CCok Tryz.prog Tryz.f258 53 C258 := mkC_ok _
@[go_sem] theorem call258 (a H) : callC Tryz.prog 258 a H = .call 258 a := callC_ok (by kernel_rfl) a H
theorem R258ok : resKs Tryz.prog Tryz.f258.results.toList = some [(RK.tmp z.o.i)] := by kernel_rfl

noncomputable def C274 := mkC Tryz.prog Tryz.f274 31
theorem C274ok : CCok Tryz.prog Tryz.f274 31 C274 := mkC_ok _
@[go_sem] theorem call274 (a H) : callC Tryz.prog 274 a H = .call 274 a := callC_ok (by kernel_rfl) a H
theorem R274ok : resKs Tryz.prog Tryz.f274.results.toList = some [(RK.cell z.i.i true 5), (RK.cell z.o.o.o true 4), (RK.tmp z.o.o.i)] := by kernel_rfl

@[go_sem] theorem call275 (a H) : callC Tryz.prog 275 a H = .call 275 a := callC_ok (by kernel_rfl) a H
end Go.Proofs
/- Small functions of keys, spans, cells, walked. -/

set_option linter.all false
set_option maxRecDepth 100000
namespace Go.Proofs
open Go Go.Ev
variable {H : Heap}
theorem bool_t {p : Prop} [Decidable p] (h : p) : AV.bool true = .bool (decide p) := by rw [decide_eq_true h]
theorem bool_f {p : Prop} [Decidable p] (h : ¬p) : AV.bool false = .bool (decide p) := by rw [decide_eq_false h]
def isKey (k : List Nat) : Prop := ¬ k = [] ∧ (k.length : Int) ≤ 8
instance (k : List Nat) : Decidable (isKey k) := inferInstanceAs (Decidable (_ ∧ _))
theorem f117_ok (k : List Nat) : FnOk Tryz.prog 117 [.str k] H fun v G => v = .bool (decide (isKey k)) ∧ G = H := by
  refine FnOk.of_WW Tryz.func117 rfl C117ok R117ok E0 good_E0 ?_
  simp only [go_sem, C117]
  repeat' (first | apply And.intro | intro _)
  all_goals first | exact Heap.ext_nil H | simp_all [isKey]
def isSpan (f t : List Nat) : Prop := (f.length : Int) ≤ 8 ∧ (t.length : Int) ≤ 8 ∧ (t = [] ∨ ltS f t)
noncomputable instance (f t : List Nat) : Decidable (isSpan f t) := inferInstanceAs (Decidable (_ ∧ _))
theorem f57_ok (f t : List Nat) : FnOk Tryz.prog 57 [.agg [.str f, .str t]] H fun v G => v = .bool (decide (isSpan f t)) ∧ G = H := by
  refine FnOk.drop (R := fun v => v = .bool (decide (isSpan f t))) ?_ (by rintro v rfl ρ; rw [AV.ren])
  refine FnOk.of_WW Tryz.func57 rfl C57ok R57ok E0 good_E0 ?_
  simp only [go_sem, C57, not_leS]
  repeat' (first | apply And.intro | intro _)
  all_goals first | exact ⟨_, rfl⟩ | exact bool_t (by unfold isSpan; grind) | exact bool_f (by unfold isSpan; grind)
def mayBe (k v : List Nat) (n : Int) (d : Bool) : Prop := isKey k ∧ (v.length : Int) ≤ 12 ∧ (d = true → v = []) ∧ 1 ≤ n ∧ n ≤ 1000000000000
instance (k v : List Nat) (n : Int) (d : Bool) : Decidable (mayBe k v n d) := inferInstanceAs (Decidable (_ ∧ _))
theorem f170_ok (f t : List Nat) (v : Int) (d : Bool) : FnOk Tryz.prog 170 [.str f, .str t, .int .i64 v, .bool d] H fun r G => r = .bool (decide (mayBe f t v d)) ∧ G = H := by
  refine FnOk.of_WW Tryz.func170 rfl C170ok R170ok E0 good_E0 ?_
  cases d
  all_goals simp only [go_sem, C170]
  all_goals refine CL.bool (f117_ok _) (fun h1 => ?_) (fun h1 => ?_)
  all_goals simp only [go_sem]
  all_goals repeat' (first | apply And.intro | intro _)
  all_goals first | exact Heap.ext_nil H | exact bool_t (by unfold mayBe; grind) | exact bool_f (by unfold mayBe; grind)

structure Cell where
  key : List Nat
  value : List Nat
  ver : Int
  del : Bool
  floor : Int
  deriving DecidableEq
def Cell.enc (c : Cell) : List AV := [.str c.key, .str c.value, .int .i64 c.ver, .bool c.del, .int .i64 c.floor]
@[go_sem] theorem Cell.rens (ρ : K → K) (c : Cell) : AV.rens ρ c.enc = c.enc := by simp only [Cell.enc, AV.rens, AV.ren]
theorem Cell.map_rens (ρ : K → K) (l : List Cell) : (l.map Cell.enc).map (AV.rens ρ) = l.map Cell.enc := by
  rw [List.map_map]; exact List.map_congr_left fun c _ => Cell.rens ρ c
def has (f t k : List Nat) : Prop := isSpan f t ∧ isKey k ∧ ¬ ltS k f ∧ (t = [] ∨ ltS k t)
noncomputable instance (f t k : List Nat) : Decidable (has f t k) := inferInstanceAs (Decidable (_ ∧ _))
theorem f56_ok (f t k : List Nat) : FnOk Tryz.prog 56 [.agg [.str f, .str t], .str k] H fun v G => v = .bool (decide (has f t k)) ∧ G = H := by
  refine FnOk.drop (R := fun v => v = .bool (decide (has f t k))) ?_ (by rintro v rfl ρ; rw [AV.ren])
  refine FnOk.of_WW Tryz.func56 rfl C56ok R56ok E0 good_E0 ?_
  simp only [go_sem, C56]
  refine CL.bool (f57_ok _ _) (fun h1 => ?_) (fun h1 => ?_)
  all_goals simp only [go_sem]
  · refine CL.bool (f117_ok _) (fun h2 => ?_) (fun h2 => ?_)
    all_goals simp only [go_sem]
    all_goals repeat' (first | apply And.intro | intro _)
    all_goals first | exact ⟨_, rfl⟩ | exact bool_t (by unfold has; grind) | exact bool_f (by unfold has; grind)
  · exact ⟨bool_f (by unfold has; grind), _, rfl⟩
def cellIs (c : Cell) : Prop := mayBe c.key c.value c.ver c.del ∧ 0 ≤ c.floor ∧ c.floor ≤ c.ver
instance (c : Cell) : Decidable (cellIs c) := inferInstanceAs (Decidable (_ ∧ _))
theorem f169_ok (c : Cell) : FnOk Tryz.prog 169 [.agg c.enc] H fun v G => v = .bool (decide (cellIs c)) ∧ G = H := by
  refine FnOk.drop (R := fun v => v = .bool (decide (cellIs c))) ?_ (by rintro v rfl ρ; rw [AV.ren])
  refine FnOk.of_WW Tryz.func169 rfl C169ok R169ok E0 good_E0 ?_
  simp only [go_sem, C169, Cell.enc]
  refine CL.bool (f170_ok _ _ _ _) (fun h1 => ?_) (fun h1 => ?_)
  all_goals simp only [go_sem]
  all_goals repeat' (first | apply And.intro | intro _)
  all_goals first | exact ⟨_, rfl⟩ | exact bool_t (by unfold cellIs; grind) | exact bool_f (by unfold cellIs; grind)
end Go.Proofs
/- index: Get, walked. -/

set_option linter.all false
set_option maxRecDepth 100000
namespace Go.Proofs
open Go Go.Ev
variable {H : Heap}
def Cell.zero : Cell := ⟨[], [], 0, false, 0⟩
def getL (l : List Cell) (key : List Nat) : Cell × Bool := match l with
  | [] => (⟨key, [], 0, false, 0⟩, false)
  | c :: l => if c.key = key then (c, true) else getL l key
theorem getL_at {key : List Nat} : ∀ {l : List Cell} {i : Nat} {c : Cell}, (∀ x ∈ l.take i, x.key ≠ key) → l[i]? = some c → c.key = key → getL l key = (c, true)
  | [], i, c, _, h, _ => by simp at h
  | x :: l, 0, c, _, h, hc => by simp at h; subst h; rw [getL, if_pos hc]
  | x :: l, i + 1, c, hn, h, hc => by
    rw [getL, if_neg (hn x (by simp))]
    exact getL_at (i := i) (fun y hy => hn y (by simp [hy])) (by simpa using h) hc
theorem getL_none {key : List Nat} : ∀ {l : List Cell}, (∀ x ∈ l, x.key ≠ key) → getL l key = (⟨key, [], 0, false, 0⟩, false)
  | [], _ => rfl
  | x :: l, h => by rw [getL, if_neg (h x (by simp))]; exact getL_none fun y hy => h y (by simp [hy])
theorem take_all {α : Type} {l : List α} {i : Nat} (h : l.length ≤ i) : l.take i = l := List.take_of_length_le h
theorem take_next {α : Type} {l : List α} {i : Nat} {c : α} (h : l[i]? = some c) : l.take (i + 1) = l.take i ++ [c] := by
  rw [List.take_succ, h]; rfl


theorem f120_ok {v : AV} {l : List Cell} (hA : Arr H 5 v (l.map Cell.enc)) (hl : l.length < 4294967296) (key : List Nat) :
    FnOk Tryz.prog 120 [v, .str key] H fun r G => r = .tup [.agg (getL l key).1.enc, .bool (getL l key).2] ∧ G = H := by
  refine FnOk.assume fun hok => ?_
  refine FnOk.drop (R := fun r => r = .tup [.agg (getL l key).1.enc, .bool (getL l key).2]) ?_ (by rintro v rfl ρ; simp only [AV.ren, AV.rens, Cell.rens])
  refine FnOk.of_WW Tryz.func120 rfl C120ok R120ok E0 good_E0 ?_
  rcases hA.forms with ⟨rfl, hnil⟩ | ⟨k, off, ex, cap, rfl, hrho⟩
  · have hn0 : l.length = 0 := by simpa using hnil
    simp only [go_sem, C120]
    refine LL.st good_E0 (fun i : Nat => l.length - i) (fun i => i ≤ l.length ∧ ∀ x ∈ l.take i, x.key ≠ key)
      (fun i => [(.o .z, .str key), (.i (.o .z), .ptr (H.key 0) 0), (.i (.o (.o .z)), .nils), (.o (.i (.o .z)), .int .i64 l.length), (.i (.i (.o .z)), .int .i64 i)])
      (fun i => [.row true 5 [[.str [], .str [], .int .i64 0, .bool false, .int .i64 0]]]) ?_ 0 (σ := [0]) (Wk.mk' rfl (by decide) (by simp only [go_sem, List.length_map, hn0]) (by simp only [go_sem, List.length_map, hn0])) ⟨by omega, by simp⟩
    rintro i ⟨hi, hno⟩
    by_cases hlt : i < l.length
    · exact absurd hlt (by omega)
    · have hci : ¬ (i : Int) < (l.length : Int) := by omega
      have := getL_none (l := l) (key := key) (by rw [take_all (by omega)] at hno; exact hno)
      simp only [go_sem, hci]
      rw [this]
      exact ⟨rfl, _, rfl⟩
  · have hn0 : True := trivial
    simp only [go_sem, C120]
    refine LL.st good_E0 (fun i : Nat => l.length - i) (fun i => i ≤ l.length ∧ ∀ x ∈ l.take i, x.key ≠ key)
      (fun i => [(.o .z, .str key), (.i (.o .z), .ptr (H.key 0) 0), (.i (.o (.o .z)), .slice k off (l.map Cell.enc).length 5 ex cap), (.o (.i (.o .z)), .int .i64 l.length), (.i (.i (.o .z)), .int .i64 i)])
      (fun i => [.row true 5 [[.str [], .str [], .int .i64 0, .bool false, .int .i64 0]]]) ?_ 0 (σ := [0]) (Wk.mk' rfl (by decide) (by simp only [go_sem, List.length_map, hrho]) (by simp only [go_sem, List.length_map, hrho])) ⟨by omega, by simp⟩
    rintro i ⟨hi, hno⟩
    by_cases hlt : i < l.length
    · obtain ⟨kk, r, ex', cap', wr, rows, hv, hk, hg, _, hat⟩ := hA.pick (j := i) (by simpa using hlt)
      have hrow := hat i (by simpa using hlt)
      have hgo := Heap.get_ext_old hok hg
      have hw := wrap_succ (n := i) (by omega)
      have hci : (i : Int) < (l.length : Int) := by omega
      have hsi : i + 1 ≤ l.length := by omega
      cases hv
      simp only [go_sem, List.length_map, hw, hgo, hrow, hci, hsi, List.getElem?_eq_getElem hlt, Cell.enc]
      have hget : l[i]? = some l[i] := List.getElem?_eq_getElem hlt
      refine ⟨fun he => ?_, fun he => ?_⟩
      · have := getL_at hno hget he
        rw [this]
        exact ⟨rfl, _, rfl⟩
      · refine ⟨i + 1, by show l.length - (i + 1) < l.length - i; omega, ⟨by omega, ?_⟩, _, [0], rfl, Wk.mk' rfl (by decide) (by simp only [go_sem, hrho, List.length_map]) (by simp only [go_sem, hrho, List.length_map])⟩
        rw [take_next hget]
        intro x hx
        rcases List.mem_append.1 hx with h | h
        · exact hno x h
        · simp only [List.mem_singleton] at h; subst h; exact he
    · have hci : ¬ (i : Int) < (l.length : Int) := by omega
      have := getL_none (l := l) (key := key) (by rw [take_all (by omega)] at hno; exact hno)
      simp only [go_sem, hci]
      rw [this]
      exact ⟨rfl, _, rfl⟩
end Go.Proofs
/- index: loops that only read, walked. -/

set_option linter.all false
set_option maxRecDepth 100000
namespace Go.Proofs
open Go Go.Ev
variable {H : Heap}

def few (l : List Cell) : Prop := (∀ c ∈ l, (c.key.length : Int) ≤ 20 ∧ (c.value.length : Int) ≤ 40) ∧ (l.length : Int) ≤ 30
instance (l : List Cell) : Decidable (few l) := inferInstanceAs (Decidable (_ ∧ _))

end Go.Proofs
/- index: the order of cells, walked. -/

set_option linter.all false
set_option maxRecDepth 100000
namespace Go.Proofs
open Go Go.Ev
variable {H : Heap}

def okAt (l : List Cell) (j : Nat) : Prop := ∃ c, l[j]? = some c ∧ cellIs c ∧ (0 < j → ∃ d, l[j - 1]? = some d ∧ ltS d.key c.key)
def isIdx (l : List Cell) : Prop := ∀ j, j < l.length → okAt l j
noncomputable instance (l : List Cell) : Decidable (isIdx l) := Classical.propDecidable _

theorem f119_ok {v : AV} {l : List Cell} (hA : Arr H 5 v (l.map Cell.enc)) (hl : l.length < 4294967296) :
    FnOk Tryz.prog 119 [v] H fun r G => r = .bool (decide (isIdx l)) ∧ G = H := by
  refine FnOk.assume fun hok => ?_
  refine FnOk.drop (R := fun r => r = .bool (decide (isIdx l))) ?_ (by rintro v rfl ρ; rw [AV.ren])
  refine FnOk.of_WW Tryz.func119 rfl C119ok R119ok E0 good_E0 ?_
  rcases hA.forms with ⟨rfl, hnil⟩ | ⟨k, off, ex, cap, rfl, hrho⟩
  · have hn0 : l.length = 0 := by simpa using hnil
    simp only [go_sem, C119]
    refine LL.st good_E0 (fun i : Nat => l.length - i) (fun i => i ≤ l.length ∧ ∀ j, j < i → okAt l j)
      (fun i => [(.z, .nils), ((.o (.i .z)), .nils), ((.i (.i .z)), .int .i64 l.length), ((.o (.o (.o .z))), .int .i64 i)])
      (fun i => []) ?_ 0 (σ := []) (Wk.mk' rfl (by decide) (by simp only [go_sem, List.length_map, hn0]) (by simp only [go_sem, List.length_map, hn0])) ⟨by omega, by simp⟩
    rintro i ⟨hi, hno⟩
    by_cases hlt : i < l.length
    · exact absurd hlt (by omega)
    · have hci : ¬ (i : Int) < (l.length : Int) := by omega
      simp only [go_sem, List.length_map, hci, show ¬ (i : Int) < 0 by omega]
      exact ⟨bool_t fun j hj => hno j (by omega), _, rfl⟩
  · simp only [go_sem, C119]
    refine LL.st good_E0 (fun i : Nat => l.length - i) (fun i => i ≤ l.length ∧ ∀ j, j < i → okAt l j)
      (fun i => [(.z, .slice k off (l.map Cell.enc).length 5 ex cap), ((.o (.i .z)), .slice k off (l.map Cell.enc).length 5 ex cap), ((.i (.i .z)), .int .i64 l.length), ((.o (.o (.o .z))), .int .i64 i)])
      (fun i => []) ?_ 0 (σ := []) (Wk.mk' rfl (by decide) (by simp only [go_sem, List.length_map, hrho]) (by simp only [go_sem, List.length_map, hrho])) ⟨by omega, by simp⟩
    rintro i ⟨hi, hno⟩
    by_cases hlt : i < l.length
    · obtain ⟨kk, r, ex', cap', wr, rows, hv, hk, hg, _, hat⟩ := hA.pick (j := i) (by simpa using hlt)
      have hrow := hat i (by simpa using hlt)
      have hgo := Heap.get_ext_old hok hg
      have hw := wrap_succ (n := i) (by omega)
      have hci : (i : Int) < (l.length : Int) := by omega
      have hsi : i + 1 ≤ l.length := by omega
      have hget : l[i]? = some l[i] := List.getElem?_eq_getElem hlt
      cases hv
      have hbad : ¬ okAt l i → ¬ isIdx l := fun h g => h (g i hlt)
      simp only [go_sem, List.length_map, hw, hgo, hrow, hci, hsi, List.getElem?_eq_getElem hlt, Cell.enc]
      refine CL.bool (f169_ok l[i]) (fun h1 => ?_) (fun h1 => ?_)
      · rcases Nat.eq_zero_or_pos i with h0 | h0
        · subst h0
          have hw0 : IntKind.i64.wrap (0 + 1) = ((0 + 1 : Nat) : Int) := rfl
          simp only [go_sem, List.length_map, hw, hgo, hrow, hci, hsi, List.getElem?_eq_getElem hlt, Cell.enc, Int.lt_irrefl, Int.ofNat_zero, hw0]
          refine ⟨0 + 1, by show l.length - (0 + 1) < l.length - 0; omega, ?_, _, [], rfl, Wk.mk' rfl (by decide) (by simp only [go_sem, hrho, List.length_map]) (by simp only [go_sem, hrho, List.length_map])⟩
          refine ⟨by omega, fun j hj => ?_⟩
          obtain rfl : j = 0 := by omega
          exact ⟨_, hget, h1, fun h => absurd h (by omega)⟩
        · obtain ⟨j, rfl⟩ : ∃ j, i = j + 1 := ⟨i - 1, by omega⟩
          have hrow' := hat j (by simp only [List.length_map]; omega)
          have hp : IntKind.i64.wrap (((j + 1 : Nat) : Int) - 1) = (j : Int) := by rw [wrap_i64 (by omega) (by omega)]; omega
          have hpos : (0 : Int) < ((j + 1 : Nat) : Int) := by omega
          have hltj : (j : Int) < (l.length : Int) := by omega
          have hsj : j + 1 ≤ l.length := by omega
          have hgetj : l[j]? = some l[j] := List.getElem?_eq_getElem (by omega)
          simp only [go_sem, List.length_map, hw, hgo, hrow, hci, hsi, List.getElem?_eq_getElem hlt, Cell.enc, hrow', hp, hpos, hltj, hsj, hgetj]
          refine ⟨fun h2 => ⟨bool_f (hbad ?_), _, rfl⟩, fun h2 => ?_⟩
          · rintro ⟨c, hc, _, hlt'⟩
            obtain ⟨d, hd, hlt'⟩ := hlt' (by omega)
            rw [hget] at hc
            rw [Nat.add_sub_cancel, hgetj] at hd
            cases hc; cases hd
            exact h2 hlt'
          · refine ⟨(j + 1) + 1, by show l.length - ((j + 1) + 1) < l.length - (j + 1); omega, ?_, _, [], rfl, Wk.mk' rfl (by decide) (by simp only [go_sem, hrho, List.length_map]) (by simp only [go_sem, hrho, List.length_map])⟩
            refine ⟨by omega, fun x hx => ?_⟩
            rcases Nat.lt_or_ge x (j + 1) with g | g
            · exact hno x g
            · obtain rfl : x = j + 1 := by omega
              exact ⟨_, hget, h1, fun _ => ⟨_, hgetj, Classical.not_not.1 h2⟩⟩
      · simp only [go_sem, List.length_map, hw, hgo, hrow, hci, hsi, List.getElem?_eq_getElem hlt, Cell.enc]
        exact ⟨bool_f (hbad (by rintro ⟨c, hc, h, _⟩; rw [hget] at hc; cases hc; exact h1 h)), _, rfl⟩
    · have hci : ¬ (i : Int) < (l.length : Int) := by omega
      simp only [go_sem, List.length_map, hci]
      exact ⟨bool_t fun j hj => hno j (by omega), _, rfl⟩

end Go.Proofs
/- index: the cells of a span, walked. -/


set_option linter.all false
set_option maxRecDepth 100000
namespace Go.Proofs
open Go Go.Ev
variable {H : Heap}

noncomputable def withinL (f t : List Nat) (l : List Cell) : List Cell := l.filter fun c => decide (has f t c.key)
end Go.Proofs
/- index: the rows of a span, walked. -/

set_option linter.all false
set_option maxRecDepth 100000
namespace Go.Proofs
open Go Go.Ev
variable {H : Heap}

def there (c : Cell) : Prop := 0 < c.ver ∧ c.del = false
instance (c : Cell) : Decidable (there c) := inferInstanceAs (Decidable (_ ∧ _))
def Cell.row (c : Cell) : List AV := [.str c.key, .str c.value, .int .i64 c.ver]
end Go.Proofs
/- index: a cell put in its place, walked. -/


set_option linter.all false
set_option maxRecDepth 100000
namespace Go.Proofs
open Go Go.Ev
variable {H : Heap}

theorem clo50 : CloFn Tryz.prog 106 5 56 [.str [], .str [], .int .i64 0, .bool false, .int .i64 0] := ⟨⟨Tryz.f106, Tryz.func106, by kernel_rfl, by kernel_rfl⟩, rfl, by decide⟩
theorem ins51 : InsFn Tryz.prog 275 5 56 [.str [], .str [], .int .i64 0, .bool false, .int .i64 0] := ⟨⟨Tryz.f275, 281, 282, Tryz.func275, by kernel_rfl, by kernel_rfl, by kernel_rfl, by kernel_rfl⟩, rfl, by decide⟩
/-- the cell c put among the cells l -/
noncomputable def withL (l : List Cell) (c : Cell) : List Cell :=
  match l with
  | [] => [c]
  | d :: l => if ltS d.key c.key then d :: withL l c else if d.key = c.key then c :: l else c :: d :: l
theorem withL_at : ∀ (l : List Cell) (c : Cell) (i : Nat), (∀ j d, j < i → l[j]? = some d → ltS d.key c.key) → i ≤ l.length →
    (∀ d, l[i]? = some d → ¬ ltS d.key c.key) → withL l c = l.take i ++ c :: (match l[i]? with | none => [] | some d => if d.key = c.key then l.drop (i + 1) else l.drop i)
  | [], c, i, _, hi, _ => by
    obtain rfl : i = 0 := by simpa using hi
    rfl
  | d :: l, c, 0, _, _, h => by
    have := h d rfl
    simp [withL, this]
    split <;> rfl
  | d :: l, c, i + 1, h, hi, h2 => by
    have h1 := h 0 d (by omega) rfl
    have ih := withL_at l c i (fun j e hj he => h (j + 1) e (by omega) (by simpa using he)) (by simpa using hi) (fun e he => h2 e (by simpa using he))
    simp only [withL, h1, if_true, ih, List.take_succ_cons, List.cons_append, List.getElem?_cons_succ, List.drop_succ_cons]

noncomputable def withC (l : List Cell) (c : Cell) : List Cell := if cellIs c then withL l c else l
/-- a slice handed back that is nil only where the given one is -/
def frV (v : AV) (k : K) (esz n : Nat) : AV := match v with | .nils => outV k esz n | _ => .slice k 0 n esz false n
def frL (v : AV) (esz : Nat) (xs : List (List AV)) : List Blk := match v with | .nils => outL esz xs | _ => [.row true esz xs]

theorem f258_nil {c : Cell} : FnOk Tryz.prog 258 [.nils, .agg c.enc] H fun r G => r = frV (.nils) H.nx 5 (withC [] c).length ∧ G = H.ext (frL (.nils) 5 ((withC [] c).map Cell.enc)) := by
  refine FnOk.assume fun hok => ?_
  by_cases hc : cellIs c
  · rw [withC, if_pos hc]
    refine FnOk.drop1 (esz := 5) (n := 1) (ex := false) (cap := 1) (b := .row true 5 [c.enc]) ?_ (fun ρ => by simp only [Blk.ren, List.map_cons, List.map_nil, Cell.rens])
    refine FnOk.of_WW Tryz.func258 rfl C258ok R258ok E0 good_E0 ?_
    simp only [go_sem, C258, Cell.enc]
    refine CL.of (clone_nil clo50) ?_
    rintro _ _ ⟨rfl, rfl⟩
    simp only [go_sem, Cell.enc]
    refine CL.bool (f169_ok c) (fun h1 => ?_) (fun h1 => absurd hc h1)
    simp only [go_sem]
    refine LL.st good_E0 (fun i : Nat => 0) (fun i => True)
      (fun i => [((.o (.o .z)), .ptr (H.key 0) 0), ((.o (.i .z)), .nils), ((.i (.i .z)), .int .i64 0)])
      (fun i => [.row true 5 [c.enc]]) ?_ 0 (σ := [0]) (Wk.mk' rfl (by decide) (by simp only [go_sem, Cell.enc]) (by simp only [go_sem, Cell.enc])) trivial
    rintro i -
    simp only [go_sem, Cell.enc]
    refine CL.of (insert_nil ins51 (x := c.enc) (wr := true) (by rw [Heap.get_ext_key _ _ _ (by simp)]; rfl) (by decide)) ?_
    rintro _ _ ⟨rfl, rfl⟩
    simp only [go_sem]
    exact ⟨_, 2, rfl, rfl, rfl⟩
  · rw [withC, if_neg hc]
    refine (FnOk.drop (R := fun r => r = .nils) ?_ (by rintro v rfl ρ; rw [AV.ren])).mono (by rintro v G ⟨rfl, rfl⟩; exact ⟨rfl, (Heap.ext_nil _).symm⟩)
    refine FnOk.of_WW Tryz.func258 rfl C258ok R258ok E0 good_E0 ?_
    simp only [go_sem, C258, Cell.enc]
    refine CL.of (clone_nil clo50) ?_
    rintro _ _ ⟨rfl, rfl⟩
    simp only [go_sem, Cell.enc]
    refine CL.bool (f169_ok c) (fun h1 => absurd h1 hc) (fun h1 => ?_)
    simp only [go_sem]
    exact ⟨_, rfl⟩

theorem f258_zero {c : Cell} {k : K} {off : Nat} {ex : Bool} {cap : Nat} : FnOk Tryz.prog 258 [.slice k off 0 5 ex cap, .agg c.enc] H fun r G => r = frV (.slice k off 0 5 ex cap) H.nx 5 (withC [] c).length ∧ G = H.ext (frL (.slice k off 0 5 ex cap) 5 ((withC [] c).map Cell.enc)) := by
  refine FnOk.assume fun hok => ?_
  by_cases hc : cellIs c
  · rw [withC, if_pos hc]
    refine FnOk.drop1 (esz := 5) (n := 1) (ex := false) (cap := 1) (b := .row true 5 [c.enc]) ?_ (fun ρ => by simp only [Blk.ren, List.map_cons, List.map_nil, Cell.rens])
    refine FnOk.of_WW Tryz.func258 rfl C258ok R258ok E0 good_E0 ?_
    simp only [go_sem, C258, Cell.enc]
    refine CL.of (clone_zero clo50) ?_
    rintro _ _ ⟨rfl, rfl⟩
    simp only [go_sem, Cell.enc]
    refine CL.bool (f169_ok c) (fun h1 => ?_) (fun h1 => absurd hc h1)
    simp only [go_sem]
    refine LL.st good_E0 (fun i : Nat => 0) (fun i => True)
      (fun i => [((.o (.o .z)), .ptr (H.key 0) 0), ((.o (.i .z)), .slice (H.key 1) 0 0 5 true 0), ((.i (.i .z)), .int .i64 0)])
      (fun i => [.row true 5 [c.enc], .row true 5 []]) ?_ 0 (σ := [0, 1]) (Wk.mk' rfl (by decide) (by simp only [go_sem, Cell.enc]) (by simp only [go_sem, Cell.enc])) trivial
    rintro i -
    simp only [go_sem, Cell.enc]
    refine CL.of (insert_zero ins51 (x := c.enc) (wr := true) (by rw [Heap.get_ext_key _ _ _ (by simp)]; rfl) (by rw [Heap.get_ext_key _ _ _ (by simp)]; rfl) (by decide)) ?_
    rintro _ _ ⟨rfl, rfl⟩
    simp only [go_sem]
    exact ⟨_, 3, rfl, rfl, rfl⟩
  · rw [withC, if_neg hc]
    refine FnOk.loose (FnOk.drop1 (esz := 5) (n := 0) (ex := true) (cap := 0) (b := .row true 5 []) ?_ (fun ρ => rfl))
    refine FnOk.of_WW Tryz.func258 rfl C258ok R258ok E0 good_E0 ?_
    simp only [go_sem, C258, Cell.enc]
    refine CL.of (clone_zero clo50) ?_
    rintro _ _ ⟨rfl, rfl⟩
    simp only [go_sem, Cell.enc]
    refine CL.bool (f169_ok c) (fun h1 => absurd h1 hc) (fun h1 => ?_)
    simp only [go_sem]
    exact ⟨_, 1, rfl, rfl, rfl⟩

theorem f258_arr {c : Cell} {l : List Cell} {k : K} {off : Nat} {ex : Bool} {cap : Nat} (hA : Arr H 5 (.slice k off (l.map Cell.enc).length 5 ex cap) (l.map Cell.enc)) (h0 : 0 < l.length) (hl : l.length < 4294967295) :
    FnOk Tryz.prog 258 [.slice k off (l.map Cell.enc).length 5 ex cap, .agg c.enc] H fun r G => r = .slice H.nx 0 (withC l c).length 5 false (withC l c).length ∧ G = H.ext [.row true 5 ((withC l c).map Cell.enc)] := by
  refine FnOk.assume fun hok => ?_
  have hmb : (2 * (l.map Cell.enc).length + 192) * 56 ≤ 281474976710656 := by rw [List.length_map]; omega
  have hclo := clone_any clo50 (hA.ext [.row true 5 [c.enc]]) hmb (Cell.map_rens · l)
  refine FnOk.drop1 (esz := 5) (n := (withC l c).length) (ex := false) (cap := (withC l c).length) (b := .row true 5 ((withC l c).map Cell.enc)) ?_ (fun ρ => by rw [Blk.ren, Cell.map_rens])
  refine FnOk.of_WW Tryz.func258 rfl C258ok R258ok E0 good_E0 ?_
  simp only [go_sem, C258, Cell.enc]
  simp only [Cell.enc, List.length_map] at hclo
  refine CL.of hclo ?_
  rintro v G (⟨rfl, hn, rfl⟩ | ⟨rfl, rfl⟩)
  · exact absurd (congrArg List.length hn) (by rw [List.length_map, List.length_nil]; omega)
  have hins : ∀ i ≤ l.length, _ := fun i (hi : i ≤ l.length) => insert_own (H := H.ext [.row true 5 [c.enc], .row true 5 (l.map Cell.enc), .row true 5 [c.enc]]) ins51 (kv := H.key 2) (k := H.key 1) (x := c.enc) (i := i) (rows := l.map Cell.enc) (fun e => absurd (congrArg K.toNat e) (by rw [Heap.toNat_key, Heap.toNat_key]; omega)) (by rw [Heap.get_ext_key _ _ _ (by simp)]; rfl) (by rw [Heap.get_ext_key _ _ _ (by simp)]; rfl) (by rw [List.length_map]; omega) (by rw [List.length_map]; omega) (by rw [List.length_map]; omega) (by rw [List.length_map]; omega)
  simp only [Cell.enc, List.length_map] at hins
  simp only [go_sem, List.length_map]
  refine CL.bool (f169_ok c) (fun h1 => ?_) (fun h1 => ?_)
  · simp only [go_sem]
    rw [withC, if_pos h1]
    refine LL.st good_E0 (fun i : Nat => l.length - i) (fun i => i ≤ l.length ∧ ∀ j d, j < i → l[j]? = some d → ltS d.key c.key)
      (fun i => [((.o (.o .z)), .ptr (H.key 0) 0), ((.o (.i .z)), .slice (H.key 1) 0 l.length 5 false l.length), ((.i (.i .z)), .int .i64 i)])
      (fun i => [.row true 5 [c.enc], .row true 5 (l.map Cell.enc)]) ?_ 0 (σ := [0, 1]) (Wk.mk' rfl (by decide) (by simp only [go_sem, Cell.enc, Cell.map_rens]) (by simp only [go_sem, Cell.enc, Cell.map_rens])) ⟨by omega, by intro j d h; omega⟩
    rintro i ⟨hi, hno⟩
    have hins := hins i hi
    by_cases hlt : i < l.length
    · have hw := wrap_succ (n := i) (by omega)
      have hci : (i : Int) < (l.length : Int) := by omega
      have hsi : i + 1 ≤ l.length := by omega
      have hget : l[i]? = some l[i] := List.getElem?_eq_getElem hlt
      have hmi : (l.map Cell.enc)[i]? = some l[i].enc := by rw [List.getElem?_map, hget]; rfl
      simp only [go_sem, hw, hci, hsi, hmi, hget, Cell.enc]
      refine ⟨fun h2 => ?_, fun h2 => ?_⟩
      · refine ⟨i + 1, by show l.length - (i + 1) < l.length - i; omega, ⟨by omega, ?_⟩, _, [0, 1], rfl, Wk.mk' rfl (by decide) (by simp only [go_sem, List.length_map, Cell.map_rens]) (by simp only [go_sem, List.length_map, Cell.map_rens])⟩
        intro j d hj hd
        rcases Nat.lt_or_ge j i with g | g
        · exact hno j d g hd
        · obtain rfl : j = i := by omega
          rw [hget] at hd; cases hd; exact h2
      · have hwl := withL_at l c i hno hi (fun d hd => by rw [hget] at hd; cases hd; exact h2)
        rw [hget] at hwl
        refine ⟨fun h3 => ?_, fun h3 => ?_⟩
        · rw [hwl]
          simp only [h3, if_true]
          have hlen : (List.take i l ++ c :: List.drop (i + 1) l).length = l.length := by rw [List.length_append, List.length_take, List.length_cons, List.length_drop]; omega
          rw [hlen]
          refine ⟨_, 1, rfl, rfl, ?_⟩
          rw [List.map_append, List.map_cons, List.map_take, List.map_drop]
          rw [show [AV.str c.key, AV.str c.value, AV.int .i64 c.ver, AV.bool c.del, AV.int .i64 c.floor] = c.enc from rfl, List.set_eq_take_append_cons_drop, if_pos (by rw [List.length_map]; exact hlt)]
          rfl
        · refine CL.of hins ?_
          rintro _ _ ⟨rfl, rfl⟩
          simp only [go_sem, List.length_map]
          rw [hwl]
          simp only [h3, if_false]
          have hlen : (List.take i l ++ c :: List.drop i l).length = l.length + 1 := by rw [List.length_append, List.length_take, List.length_cons, List.length_drop]; omega
          rw [hlen, Heap.set_ext_key _ _ _ _ (by simp), Heap.ext_append]
          refine ⟨_, 3, rfl, rfl, ?_⟩
          rw [List.map_append, List.map_cons]
          first | rw [List.map_take, List.map_drop] | rw [List.map_take, List.map_nil]
          rfl
    · have hci : ¬ (i : Int) < (l.length : Int) := by omega
      have hin : i = l.length := by omega
      have hnone : l[i]? = none := List.getElem?_eq_none (by omega)
      have hwl := withL_at l c i hno hi (fun d hd => by rw [hnone] at hd; cases hd)
      rw [hnone] at hwl
      simp only [go_sem, List.length_map, hci, Cell.enc]
      refine CL.of hins ?_
      rintro _ _ ⟨rfl, rfl⟩
      simp only [go_sem, List.length_map]
      rw [hwl]
      have hlen : (List.take i l ++ [c]).length = l.length + 1 := by rw [List.length_append, List.length_take, List.length_cons, List.length_nil]; omega
      have hdr : List.drop i (l.map Cell.enc) = [] := List.drop_of_length_le (by rw [List.length_map]; omega)
      simp only [hdr]
      rw [hlen, Heap.set_ext_key _ _ _ _ (by simp), Heap.ext_append]
      refine ⟨_, 3, rfl, rfl, ?_⟩
      rw [List.map_append, List.map_cons]
      first | rw [List.map_take, List.map_drop] | rw [List.map_take, List.map_nil]
      rfl
  · simp only [go_sem]
    rw [withC, if_neg h1]
    exact ⟨_, 1, rfl, rfl, rfl⟩

end Go.Proofs
/- index: the reference way to put a cell in its place, walked. -/

set_option linter.all false
set_option maxRecDepth 100000
namespace Go.Proofs
open Go Go.Ev
variable {H : Heap}

theorem f258_ok {v : AV} {l : List Cell} (hA : Arr H 5 v (l.map Cell.enc)) (hl : l.length < 4294967295) (c : Cell) :
    FnOk Tryz.prog 258 [v, .agg c.enc] H fun r G => r = frV v H.nx 5 (withC l c).length ∧ G = H.ext (frL v 5 ((withC l c).map Cell.enc)) := by
  rcases hA.forms with ⟨rfl, hnil⟩ | ⟨k, off, ex, cap, rfl, _⟩
  · obtain rfl : l = [] := List.map_eq_nil_iff.1 hnil
    exact f258_nil
  · rcases Nat.eq_zero_or_pos l.length with h0 | h0
    · obtain rfl := List.length_eq_zero_iff.1 h0
      exact f258_zero
    · exact f258_arr hA h0 hl
noncomputable def stepW (c : Cell) (s : List Cell × Bool) (d : Cell) : List Cell × Bool :=
  let s' := if s.2 = false ∧ ¬ ltS d.key c.key then (s.1 ++ [c], true) else s
  (if d.key = c.key then s'.1 else s'.1 ++ [d], s'.2)
noncomputable def runW (c : Cell) (l : List Cell) : List Cell × Bool := l.foldl (stepW c) ([], false)
noncomputable def refW (l : List Cell) (c : Cell) : List Cell := if (runW c l).2 then (runW c l).1 else (runW c l).1 ++ [c]
end Go.Proofs
/- index: the law that both ways tell the same, walked. -/

set_option linter.all false
set_option maxRecDepth 100000
namespace Go.Proofs
open Go Go.Ev
variable {H : Heap}

theorem filter_all {c : Cell} : ∀ (l : List Cell) (a : List Cell), (∀ d ∈ l, d.key ≠ c.key) → l.foldl (stepW c) (a, true) = (a ++ l, true)
  | [], a, _ => by simp
  | d :: l, a, h => by
    have h1 := h d (by simp)
    rw [List.foldl_cons, show stepW c (a, true) d = (a ++ [d], true) by simp [stepW, h1], filter_all l _ fun x hx => h x (by simp [hx])]
    simp
theorem fold_withL {c : Cell} : ∀ (l : List Cell) (a : List Cell), List.Pairwise (fun x y => ltS x.key y.key) l → (if (l.foldl (stepW c) (a, false)).2 then (l.foldl (stepW c) (a, false)).1 else (l.foldl (stepW c) (a, false)).1 ++ [c]) = a ++ withL l c
  | [], a, _ => by simp [withL]
  | d :: l, a, h => by
    rw [List.pairwise_cons] at h
    rw [List.foldl_cons, withL]
    by_cases h1 : ltS d.key c.key
    · have hne : d.key ≠ c.key := fun e => ltS_irrefl _ (e ▸ h1)
      rw [show stepW c (a, false) d = (a ++ [d], false) by simp [stepW, h1, hne], fold_withL l _ h.2, if_pos h1]
      simp
    · rw [if_neg h1]
      by_cases h2 : d.key = c.key
      · rw [show stepW c (a, false) d = (a ++ [c], true) by simp [stepW, h2, ltS_irrefl], filter_all l _ (fun x hx e => ltS_irrefl _ (show ltS c.key c.key by have := h.1 x hx; rw [e, h2] at this; exact this)), if_pos h2]
        simp
      · have h3 : ltS c.key d.key := by rcases ltS_tri d.key c.key with g | g | g; exact absurd g h1; exact absurd g h2; exact g
        rw [show stepW c (a, false) d = (a ++ [c] ++ [d], true) by simp [stepW, h1, h2], filter_all l _ (fun x hx e => ltS_irrefl _ (show ltS c.key c.key by have := ltS_trans h3 (h.1 x hx); rw [e] at this; exact this)), if_neg h2]
        simp
theorem isIdx_pair {l : List Cell} (h : isIdx l) : List.Pairwise (fun x y => ltS x.key y.key) l := by
  have key : ∀ (n i : Nat) (c d : Cell), l[i]? = some c → l[i + n + 1]? = some d → ltS c.key d.key := by
    intro n
    induction n with
    | zero =>
      intro i c d hc hd
      obtain ⟨d', h1, _, h2⟩ := h (i + 1) (List.getElem?_eq_some_iff.1 hd).1
      rw [show i + 0 + 1 = i + 1 from rfl, h1] at hd; cases hd
      obtain ⟨c', h3, h4⟩ := h2 (by omega)
      rw [Nat.add_sub_cancel, hc] at h3; cases h3
      exact h4
    | succ n ih =>
      intro i c d hc hd
      have hi := (List.getElem?_eq_some_iff.1 hd).1
      obtain ⟨e, he⟩ : ∃ e, l[i + 1]? = some e := ⟨_, List.getElem?_eq_getElem (by omega)⟩
      obtain ⟨e', h1, _, h2⟩ := h (i + 1) (by omega)
      rw [he] at h1; cases h1
      obtain ⟨c', h3, h4⟩ := h2 (by omega)
      rw [Nat.add_sub_cancel, hc] at h3; cases h3
      exact ltS_trans h4 (ih (i + 1) e d he (by rw [← hd]; congr 1; omega))
  rw [List.pairwise_iff_getElem]
  intro i j hi hj hij
  exact key (j - i - 1) i _ _ (List.getElem?_eq_getElem hi) (by rw [show i + (j - i - 1) + 1 = j by omega]; exact List.getElem?_eq_getElem hj)
theorem refW_eq {l : List Cell} (h : isIdx l) (c : Cell) : refW l c = withL l c := fold_withL l [] (isIdx_pair h)
end Go.Proofs
