/- strings.Join: by the contract of the shelf, in this program. -/
import Derived.Test.YtkhaejbkdgbjcaaGreatDoorZ18
import Derived.Shelf.Strings.OnBuilder
import Derived.KernelRfl
import Derived.Test.YtkhaejbkdgbjcaaGreatDoorProg
set_option linter.all false
set_option maxRecDepth 100000
namespace Go.Proofs
open Go.Shelf
def Tryz.lays156_ren : Go.Shelf.Ren := ⟨fun | 156 => 186 | 165 => 222 | 166 => 223 | 169 => 224 | 240 => 261 | 241 => 262 | 276 => 277 | 277 => 278 | n => n, fun | 31 => 54 | 9 => 9 | 3 => 3 | 4 => 4 | 0 => 0 | 20 => 20 | 72 => 303 | 76 => 304 | 70 => 301 | 37 => 47 | 75 => 72 | 127 => 338 | 164 => 222 | 5 => 5 | 80 => 113 | n => n, fun | n => n⟩
theorem Tryz.lays156 : Go.Proofs.Lays.n156 Tryz.prog Tryz.lays156_ren := {
  mixed := by kernel_rfl
  f156 := Tryz.func186.trans (congrArg some (by kernel_rfl))
  f165 := Tryz.func222.trans (congrArg some (by kernel_rfl))
  f166 := Tryz.func223.trans (congrArg some (by kernel_rfl))
  f169 := Tryz.func224.trans (congrArg some (by kernel_rfl))
  f240 := Tryz.func261.trans (congrArg some (by kernel_rfl))
  f241 := Tryz.func262.trans (congrArg some (by kernel_rfl))
  f276 := Tryz.func277.trans (congrArg some (by kernel_rfl))
  f277 := Tryz.func278.trans (congrArg some (by kernel_rfl))
  t0 := Tryz.underlying0
  a0 := Tryz.isAgg0
  z0 := Tryz.sizeOf0
  v0 := Tryz.zeroValue0
  t3 := Tryz.underlying3
  a3 := Tryz.isAgg3
  z3 := Tryz.sizeOf3
  v3 := Tryz.zeroValue3
  t4 := Tryz.underlying4
  a4 := Tryz.isAgg4
  z4 := Tryz.sizeOf4
  v4 := Tryz.zeroValue4
  t9 := Tryz.underlying9
  a9 := Tryz.isAgg9
  z9 := Tryz.sizeOf9
  v9 := Tryz.zeroValue9
  t20 := Tryz.underlying20
  a20 := Tryz.isAgg20
  z20 := Tryz.sizeOf20
  v20 := Tryz.zeroValue20
  t31 := Tryz.underlying54
  a31 := Tryz.isAgg54
  z31 := Tryz.sizeOf54
  v31 := Tryz.zeroValue54
  t37 := Tryz.underlying47
  a37 := Tryz.isAgg47
  z37 := Tryz.sizeOf47
  v37 := Tryz.zeroValue47
  t70 := Tryz.underlying301
  a70 := Tryz.isAgg301
  z70 := Tryz.sizeOf301
  v70 := Tryz.zeroValue301
  t72 := Tryz.underlying303
  a72 := Tryz.isAgg303
  z72 := Tryz.sizeOf303
  v72 := Tryz.zeroValue303
  t75 := Tryz.underlying72
  a75 := Tryz.isAgg72
  z75 := Tryz.sizeOf72
  v75 := Tryz.zeroValue72
  t76 := Tryz.underlying304
  a76 := Tryz.isAgg304
  z76 := Tryz.sizeOf304
  v76 := Tryz.zeroValue304
  t127 := Tryz.underlying338
  a127 := Tryz.isAgg338
  z127 := Tryz.sizeOf338
  v127 := Tryz.zeroValue338
  t164 := Tryz.underlying222
  a164 := Tryz.isAgg222
  z164 := Tryz.sizeOf222
  v164 := Tryz.zeroValue222 }
theorem Tryz.Builder_Extra_156 : Builder.Extra Tryz.prog Tryz.lays156_ren := {
  sizeBuilder := by kernel_rfl
  liesBuilder := by kernel_rfl
  t5 := Tryz.underlying5
  a5 := Tryz.isAgg5
  z5 := Tryz.sizeOf5
  v5 := Tryz.zeroValue5
  infoByte := by kernel_rfl
  cellsByte := by kernel_rfl
  sizeByte := by kernel_rfl
  neB5 := by decide }
open Go.RowKit in
theorem Tryz.strings_Join (bk o c : Nat) (xs : List ByteArray) (sep : ByteArray) (w : World) (hcells : ∀ (j : Nat) x, xs[j]? = some x → w.cell? ⟨bk, o + j, none⟩ = some (.string x)) (hbk : bk < w.heap.size) (hN : xs.length ≤ 140737488355328) (hcap : xs.length ≤ c) (hlen : (Lib.join (xs.map (·.data.toList)) sep.data.toList).length ≤ 140737488355328) :
    Calls Tryz.prog 186 #[.slice (some ⟨bk, o, none⟩) xs.length c, .string sep] w fun e w' => e = .returned (.string ⟨(Lib.join (xs.map (·.data.toList)) sep.data.toList).toArray⟩) ∧ Below w.heap.size w w' := Any.strings_Join Tryz.lays156 Tryz.Builder_Extra_156 bk o c xs sep w hcells hbk hN hcap hlen
end Go.Proofs
/- strings.Join without a separator, in the evaluator's words. -/



set_option linter.all false
set_option maxRecDepth 100000
namespace Go.Proofs
open Go Go.Ev
variable {H : Heap}
/-- strings laid in cells -/
theorem strs_at {φ : Phi} : ∀ {ls : List (List Nat)} {vs : List Value}, VRels Tryz.prog φ (ls.map AV.str) vs → ∃ xs : List ByteArray, vs = xs.map Value.string ∧ xs.map (fun x => x.data.toList.map (·.toNat)) = ls
  | [], _, h => by cases h; exact ⟨[], rfl, rfl⟩
  | l :: ls, _, h => by
    cases h with
    | cons _ _ v vs h1 h2 =>
      obtain ⟨xs, rfl, h3⟩ := strs_at h2
      cases h1 with
      | str _ s hs => exact ⟨s :: xs, rfl, by rw [List.map_cons, hs, h3]⟩
theorem flat_strs : ∀ ls : List (List Nat), (ls.map fun s => [AV.str s]).flatten = ls.map AV.str
  | [] => rfl
  | s :: ls => by rw [List.map_cons, List.flatten_cons, flat_strs ls]; rfl
theorem join_flat : ∀ L : List (List UInt8), (Lib.join L []).map (·.toNat) = (L.map (·.map (·.toNat))).flatten
  | [] => rfl
  | x :: r => by
    rw [Lib.join_cons, List.map_append, List.map_cons, List.flatten_cons]
    congr 1
    unfold Lib.joinTail
    simp only [List.nil_append, List.map_id']
    rw [List.map_flatten]
theorem f186_ok {v : AV} {ls : List (List Nat)} (hA : Arr H 1 v (ls.map fun s => [.str s])) (hne : ls ≠ []) (hn : ls.length < 100000) (hl : ls.flatten.length < 1000000) : FnOk Tryz.prog 186 [v, .str []] H fun r G => r = .str ls.flatten ∧ G = H := by
  refine FnOk.of_calls fun φ w args' ha hw => ?_
  obtain ⟨x, y, rfl, h1, h2⟩ := two_args ha
  rcases hA with ⟨_, e⟩ | ⟨k, off, ex, cap, rfl, hk, hg⟩
  · rw [List.map_eq_nil_iff] at e; exact absurd e hne
  · obtain ⟨r, wr, rows, h3, h4, h5⟩ := hg (by simpa using hne)
    rw [List.length_map] at h1 h5
    cases h2 with
    | str _ sep hsep =>
    have hsp : sep = ⟨#[]⟩ := by
      have : sep.data.toList = [] := by simpa using hsep
      cases sep with | mk d => cases d with | mk l => simp at this; subst this; rfl
    subst hsp
    have fin : ∀ (a : At) (c : Nat), φ k = some a → ls.length ≤ c → Calls Tryz.prog 186 #[.slice (some ⟨a.b, a.o + off, none⟩) ls.length c, .string ⟨#[]⟩] w fun e u => (∃ v', e = .returned v' ∧ VRel Tryz.prog φ (.str ls.flatten) v') ∧ Grows w u := by
      intro a c hφ hc
      obtain ⟨hp, hrl, pre, vs, post, e, lo, hi, g1, g2, g3, _, g5, g6⟩ := (hw.blk k _ a h4 hφ : RowRel Tryz.prog φ w a wr 1 rows)
      have hrows : ((rows.flatten.drop off).take ls.length) = ls.map AV.str := by
        have hf : ∀ l : List (List AV), (∀ x ∈ l, x.length = 1) → ∀ n, (l.drop n).flatten = l.flatten.drop n ∧ (l.take n).flatten = l.flatten.take n := by
          intro l
          induction l with
          | nil => intro _ n; simp
          | cons x l ih =>
            intro hx n
            obtain ⟨y, rfl⟩ := List.length_eq_one_iff.1 (hx x (by simp))
            have ih' := ih fun z hz => hx z (by simp [hz])
            cases n with
            | zero => simp
            | succ n =>
              obtain ⟨i1, i2⟩ := ih' n
              exact ⟨by simpa using i1, by simp [i2]⟩
        have ho : off = r := by rw [h3]; omega
        rw [ho, ← (hf rows hrl r).1, ← (hf (rows.drop r) (fun x hx => hrl x (List.mem_of_mem_drop hx)) ls.length).2, h5]
        exact flat_strs ls
      have hvs := (g5.drop off).take ls.length
      rw [hrows] at hvs
      obtain ⟨xs, hx1, hx2⟩ := strs_at hvs
      have hxl : xs.length = ls.length := by rw [← hx2, List.length_map]
      have hcells : ∀ (j : Nat) x, xs[j]? = some x → w.cell? ⟨a.b, a.o + off + j, none⟩ = some (.string x) := by
        intro j x hj
        have hj2 : ((vs.drop off).take ls.length)[j]? = some (.string x) := by rw [hx1, List.getElem?_map, hj]; rfl
        have hjl : j < ls.length := by rw [← hxl]; exact (List.getElem?_eq_some_iff.1 hj).1
        rw [List.getElem?_take_of_lt hjl, List.getElem?_drop] at hj2
        have hv : (pre ++ vs ++ post)[a.o + off + j]? = some (.string x) := by
          rw [List.append_assoc, List.getElem?_append_right (by omega), List.getElem?_append_left (by have := (List.getElem?_eq_some_iff.1 hj2).1; omega)]
          rw [← hj2]; congr 1; omega
        unfold World.cell?
        simp only [g1]
        simpa using hv
      have hj := Tryz.strings_Join a.b (a.o + off) c xs ⟨#[]⟩ w hcells (hw.size k a hφ) (by omega) (by omega) (by
        have := congrArg List.length (join_flat (xs.map (·.data.toList)))
        rw [List.length_map] at this
        rw [this, List.map_map]
        have e2 : xs.map ((fun x : List UInt8 => x.map (·.toNat)) ∘ fun x => x.data.toList) = ls := hx2
        rw [e2]
        omega)
      rw [hxl] at hj
      refine hj.mono ?_
      rintro e u ⟨rfl, hB⟩
      refine ⟨⟨_, rfl, .str _ _ ?_⟩, ⟨hB.size, hB.block, hB.os, hB.tape, hB.output⟩⟩
      show (Lib.join (xs.map (·.data.toList)) []).map (·.toNat) = _
      rw [join_flat, List.map_map]
      exact congrArg List.flatten hx2
    have h1 : ∃ n, n = ls.length ∧ VRel Tryz.prog φ (.slice k off n 1 ex cap) x := ⟨_, rfl, h1⟩
    obtain ⟨n, hnl, h1⟩ := h1
    cases h1 with
    | slice _ _ _ _ _ _ a c hφ hx hc hlc hn2 => rw [hnl]; exact fin a c hφ (by omega)
    | sliceE _ _ _ _ a x hφ => exact absurd (List.length_eq_zero_iff.1 hnl.symm) hne
end Go.Proofs
/- A call reckoned in a small memory is so in a large one that holds it, under other names. -/


set_option linter.all false
set_option maxRecDepth 100000
namespace Go.Ev
variable {P : Program} {φ ψ : Phi} {H G : Heap} {w u : World}

/-! ### Names changed, forwards -/
mutual
theorem VRel.fwd {ρ : K → K} (hρ : ∀ k a, φ k = some a → ψ (ρ k) = some a) : ∀ {v : AV} {v' : Value}, VRel P φ v v' → VRel P ψ (v.ren ρ) v'
  | _, _, .bool b => by rw [AV.ren]; exact .bool b
  | _, _, .int k n => by rw [AV.ren]; exact .int k n
  | _, _, .str l s e => by rw [AV.ren]; exact .str l s e
  | _, _, .nilp => by rw [AV.ren]; exact .nilp
  | _, _, .ptr k off a e => by rw [AV.ren]; exact .ptr _ off a (hρ k a e)
  | _, _, .nils => by rw [AV.ren]; exact .nils
  | _, _, .slice k off len esz ex cap a c e hx hc hl hn => by rw [AV.ren]; exact .slice _ off len esz ex cap a c (hρ k a e) hx hc hl hn
  | _, _, .sliceE k off esz ex a x e => by rw [AV.ren]; exact .sliceE _ off esz ex a x (hρ k a e)
  | _, _, .fn f a b c d h1 h2 => by rw [AV.ren]; exact .fn f _ _ c d (VRels.fwd hρ h1) (VRels.fwd hρ h2)
  | _, _, .nilf => by rw [AV.ren]; exact .nilf
  | _, _, .iface t v v' e => by rw [AV.ren]; exact .iface t _ v' (VRel.fwd hρ e)
  | _, _, .nili => by rw [AV.ren]; exact .nili
  | _, _, .agg l c e h1 => by rw [AV.ren]; exact .agg _ c (VRels.fwd hρ e) h1
  | _, _, .tup l c e => by rw [AV.ren]; exact .tup _ c (VRels.fwd hρ e)
  | _, _, .nilm => by rw [AV.ren]; exact .nilm
  | _, _, .map k a e => by rw [AV.ren]; exact .map _ a (hρ k a e)
  | _, _, .typ t => by rw [AV.ren]; exact .typ t
  | _, _, .any v h => by rw [AV.ren]; exact .any v h
  | _, _, .geq n m h => by rw [AV.ren]; exact .geq n m h
theorem VRels.fwd {ρ : K → K} (hρ : ∀ k a, φ k = some a → ψ (ρ k) = some a) : ∀ {l : List AV} {l' : List Value}, VRels P φ l l' → VRels P ψ (AV.rens ρ l) l'
  | _, _, .nil => by rw [AV.rens]; exact .nil
  | _, _, .cons v l v' l' a b => by rw [AV.rens]; exact .cons _ _ _ _ (VRel.fwd hρ a) (VRels.fwd hρ b)
end
theorem ERel.fwd {ρ : K → K} (hρ : ∀ k a, φ k = some a → ψ (ρ k) = some a) : ∀ {l : List (AV × AV)} {l' : List MapEntry}, ERel P φ l l' → ERel P ψ (l.map fun p => (p.1.ren ρ, p.2.ren ρ)) l'
  | _, _, .nil => .nil
  | _, _, .cons k v l e l' hk hv hl => .cons _ _ _ e l' (hk.fwd hρ) (hv.fwd hρ) (ERel.fwd hρ hl)
theorem BlkRel.fwd {ρ : K → K} (hρ : ∀ k a, φ k = some a → ψ (ρ k) = some a) {at_ : At} : ∀ {b : Blk}, BlkRel P φ w at_ b → BlkRel P ψ w at_ (b.ren ρ)
  | .dead, _ => trivial
  | .row wr esz rows, h => by
    have h : RowRel P φ w at_ wr esz rows := h
    obtain ⟨hp, hl, pre, vs, post, e, lo, hi, h1, h2, h3, h4, h5, h6⟩ := h
    show RowRel P ψ w at_ wr esz (rows.map (AV.rens ρ))
    refine ⟨hp, fun r hr => ?_, pre, vs, post, e, lo, hi, h1, h2, h3, h4, ?_, h6⟩
    · obtain ⟨x, hx, rfl⟩ := List.mem_map.1 hr
      rw [AV.rens_length]; exact hl _ hx
    · rw [← AV.rens_flatten]; exact h5.fwd hρ
  | .map es, h => by
    obtain ⟨c, clock, h1, h2⟩ := h
    exact ⟨c, clock, h1, h2.fwd hρ⟩

/-! ### What is named is there -/
mutual
def AV.keys : AV → List K
  | .ptr k _ => [k]
  | .slice k _ _ _ _ _ => [k]
  | .fn _ a c => AV.keyss a ++ AV.keyss c
  | .iface _ v => AV.keys v
  | .agg l => AV.keyss l
  | .tup l => AV.keyss l
  | .map k => [k]
  | _ => []
def AV.keyss : List AV → List K
  | [] => []
  | v :: l => AV.keys v ++ AV.keyss l
end
mutual
theorem VRel.keys_some : ∀ {v : AV} {v' : Value}, VRel P φ v v' → ∀ k ∈ v.keys, φ k ≠ none
  | _, _, .ptr k off a e => fun j hj => by rw [AV.keys, List.mem_singleton] at hj; subst hj; rw [e]; simp
  | _, _, .slice k off len esz ex cap a c e hx hc hl hn => fun j hj => by rw [AV.keys, List.mem_singleton] at hj; subst hj; rw [e]; simp
  | _, _, .sliceE k off esz ex a x e => fun j hj => by rw [AV.keys, List.mem_singleton] at hj; subst hj; rw [e]; simp
  | _, _, .fn f a b c d h1 h2 => fun j hj => by
    rw [AV.keys, List.mem_append] at hj
    rcases hj with hj | hj
    · exact VRels.keys_some h1 j hj
    · exact VRels.keys_some h2 j hj
  | _, _, .iface t v v' e => fun j hj => by rw [AV.keys] at hj; exact VRel.keys_some e j hj
  | _, _, .agg l c e h1 => fun j hj => by rw [AV.keys] at hj; exact VRels.keys_some e j hj
  | _, _, .tup l c e => fun j hj => by rw [AV.keys] at hj; exact VRels.keys_some e j hj
  | _, _, .map k a e => fun j hj => by rw [AV.keys, List.mem_singleton] at hj; subst hj; rw [e]; simp
  | _, _, .bool b => fun j hj => by simp [AV.keys] at hj
  | _, _, .int k n => fun j hj => by simp [AV.keys] at hj
  | _, _, .str l s e => fun j hj => by simp [AV.keys] at hj
  | _, _, .nilp => fun j hj => by simp [AV.keys] at hj
  | _, _, .nils => fun j hj => by simp [AV.keys] at hj
  | _, _, .nilf => fun j hj => by simp [AV.keys] at hj
  | _, _, .nili => fun j hj => by simp [AV.keys] at hj
  | _, _, .nilm => fun j hj => by simp [AV.keys] at hj
  | _, _, .typ t => fun j hj => by simp [AV.keys] at hj
  | _, _, .any v h => fun j hj => by simp [AV.keys] at hj
  | _, _, .geq n m h => fun j hj => by simp [AV.keys] at hj
theorem VRels.keys_some : ∀ {l : List AV} {l' : List Value}, VRels P φ l l' → ∀ k ∈ AV.keyss l, φ k ≠ none
  | _, _, .nil => fun j hj => by simp [AV.keyss] at hj
  | _, _, .cons v l v' l' a b => fun j hj => by
    rw [AV.keyss, List.mem_append] at hj
    rcases hj with hj | hj
    · exact VRel.keys_some a j hj
    · exact VRels.keys_some b j hj
end
def Blk.keys : Blk → List K
  | .row _ _ rows => AV.keyss rows.flatten
  | _ => []
theorem BlkRel.keys_some {at_ : At} {b : Blk} (h : BlkRel P φ w at_ b) : ∀ k ∈ b.keys, φ k ≠ none := by
  cases b with
  | dead => intro k hk; cases hk
  | row wr esz rows =>
    obtain ⟨hp, hl, pre, vs, post, e, lo, hi, h1, h2, h3, h4, h5, h6⟩ := (h : RowRel P φ w at_ wr esz rows)
    exact h5.keys_some
  | map es => intro k hk; cases hk
noncomputable def memK (k : K) (l : List K) : Bool := List.rec (motive := fun _ => Bool) false (fun x _ ih => bif' (K.beq k x) true ih) l
theorem memK_mem {k : K} : ∀ {l : List K}, memK k l = true → k ∈ l
  | x :: l, h => by
    have h : bif' (K.beq k x) true (memK k l) = true := h
    cases hb : K.beq k x with
    | true => rw [(K.beq_iff _ _).1 hb]; exact List.mem_cons_self
    | false => rw [hb] at h; exact List.mem_cons_of_mem _ (memK_mem h)
/-- each block is named by what is asked, or by a block ahead of it -/
noncomputable def reachB (bl : List Blk) : K → List K → Bool :=
  List.rec (motive := fun _ => K → List K → Bool) (fun _ _ => true)
    (fun b _ ih k acc => bif' (Blk.rec (motive := fun _ => Bool) true (fun _ _ _ => memK k acc) (fun _ => memK k acc) b) (ih k.succ (acc ++ b.keys)) false) bl

mutual
theorem AV.ren_congr {ρ σ : K → K} : ∀ {v : AV}, (∀ k ∈ v.keys, ρ k = σ k) → v.ren ρ = v.ren σ
  | .ptr k _, h => by rw [AV.ren, AV.ren, h k (by simp [AV.keys])]
  | .slice k _ _ _ _ _, h => by rw [AV.ren, AV.ren, h k (by simp [AV.keys])]
  | .fn _ a c, h => by
    rw [AV.ren, AV.ren, AV.rens_congr (l := a) fun k hk => h k (by rw [AV.keys]; exact List.mem_append_left _ hk), AV.rens_congr (l := c) fun k hk => h k (by rw [AV.keys]; exact List.mem_append_right _ hk)]
  | .iface _ v, h => by rw [AV.ren, AV.ren, AV.ren_congr (v := v) fun k hk => h k (by rw [AV.keys]; exact hk)]
  | .agg l, h => by rw [AV.ren, AV.ren, AV.rens_congr (l := l) fun k hk => h k (by rw [AV.keys]; exact hk)]
  | .tup l, h => by rw [AV.ren, AV.ren, AV.rens_congr (l := l) fun k hk => h k (by rw [AV.keys]; exact hk)]
  | .map k, h => by rw [AV.ren, AV.ren, h k (by simp [AV.keys])]
  | .bool _, _ => by rw [AV.ren, AV.ren]
  | .int _ _, _ => by rw [AV.ren, AV.ren]
  | .str _, _ => by rw [AV.ren, AV.ren]
  | .nilp, _ => by rw [AV.ren, AV.ren]
  | .nils, _ => by rw [AV.ren, AV.ren]
  | .nilf, _ => by rw [AV.ren, AV.ren]
  | .nili, _ => by rw [AV.ren, AV.ren]
  | .nilm, _ => by rw [AV.ren, AV.ren]
  | .typ _, _ => by rw [AV.ren, AV.ren]
  | .any, _ => by rw [AV.ren, AV.ren]
  | .geq _, _ => by rw [AV.ren, AV.ren]
theorem AV.rens_congr {ρ σ : K → K} : ∀ {l : List AV}, (∀ k ∈ AV.keyss l, ρ k = σ k) → AV.rens ρ l = AV.rens σ l
  | [], _ => by rw [AV.rens, AV.rens]
  | v :: l, h => by
    rw [AV.rens, AV.rens, AV.ren_congr (v := v) fun k hk => h k (by rw [AV.keyss]; exact List.mem_append_left _ hk), AV.rens_congr (l := l) fun k hk => h k (by rw [AV.keyss]; exact List.mem_append_right _ hk)]
end
theorem keyss_flat : ∀ {l : List (List AV)} {r : List AV}, r ∈ l → ∀ k ∈ AV.keyss r, k ∈ AV.keyss l.flatten
  | x :: l, r, hr, k, hk => by
    have e : ∀ a b : List AV, AV.keyss (a ++ b) = AV.keyss a ++ AV.keyss b := fun a b => by
      induction a with
      | nil => simp [AV.keyss]
      | cons v a ih => simp [AV.keyss, ih]
    rw [List.flatten_cons, e, List.mem_append]
    rcases List.mem_cons.1 hr with rfl | hr
    · exact .inl hk
    · exact .inr (keyss_flat hr k hk)
/-- all names in a block -/
def Blk.keysA : Blk → List K
  | .dead => []
  | .row _ _ rows => AV.keyss rows.flatten
  | .map es => AV.keyss (es.map Prod.fst) ++ AV.keyss (es.map Prod.snd)
theorem Blk.ren_congr {ρ σ : K → K} {b : Blk} (h : ∀ k ∈ b.keysA, ρ k = σ k) : b.ren ρ = b.ren σ := by
  cases b with
  | dead => rfl
  | row wr esz rows =>
    show Blk.row wr esz (rows.map (AV.rens ρ)) = Blk.row wr esz (rows.map (AV.rens σ))
    congr 1
    exact List.map_congr_left fun r hr => AV.rens_congr fun k hk => h k (keyss_flat hr k hk)
  | map es =>
    show Blk.map (es.map _) = Blk.map (es.map _)
    congr 1
    refine List.map_congr_left fun p hp => ?_
    have key : ∀ {l : List AV} {v : AV}, v ∈ l → ∀ k ∈ v.keys, k ∈ AV.keyss l := by
      intro l
      induction l with
      | nil => intro v hv; cases hv
      | cons x l ih =>
        intro v hv k hk
        rw [AV.keyss, List.mem_append]
        rcases List.mem_cons.1 hv with rfl | hv
        · exact .inl hk
        · exact .inr (ih hv k hk)
    rw [AV.ren_congr (v := p.1) fun k hk => h k (List.mem_append_left _ (key (List.mem_map_of_mem hp) k hk)), AV.ren_congr (v := p.2) fun k hk => h k (List.mem_append_right _ (key (List.mem_map_of_mem hp) k hk))]

/-! ### The names of a small memory's blocks in a large one -/
def rk (κ : List K) (top k : K) : K := (κ[k.toNat - 1]?).getD top
theorem rk_some {κ : List K} {top k j : K} (h : κ[k.toNat - 1]? = some j) : rk κ top k = j := by unfold rk; rw [h]; rfl
theorem rk_none {κ : List K} {top k : K} (h : κ[k.toNat - 1]? = none) : rk κ top k = top := by unfold rk; rw [h]; rfl
theorem rk_in {κ : List K} {k : K} (h : k.toNat ≤ κ.length) (t t' : K) : rk κ t k = rk κ t' k := by
  have := k.toNat_pos
  have e : κ[k.toNat - 1]? = some (κ[k.toNat - 1]'(by omega)) := List.getElem?_eq_getElem _
  rw [rk_some e, rk_some e]
theorem hp0_key (i : Nat) : (hp0.key i).toNat = i + 1 := by rw [Heap.toNat_key]; show 1 + i = _; omega
theorem get_small (bl : List Blk) (k : K) : (hp0.ext bl).get k = bl[k.toNat - 1]? := by
  have hpos := k.toNat_pos
  have h1 : hp0.nx.toNat = 1 := rfl
  rw [Heap.get_ext, h1, hp0_get]
  split
  · rfl
  · rename_i hn
    rw [List.getElem?_eq_none (by omega)]
theorem nx_small (bl : List Blk) : (hp0.ext bl).nx.toNat = bl.length + 1 := by rw [Heap.nx_ext, hp0_key]
/-- a small memory lies in a large one, under these names -/
structure Fit (H : Heap) (κ : List K) (bl : List Blk) : Prop where
  len : κ.length = bl.length
  nodup : κ.Nodup
  old : ∀ k ∈ κ, k.toNat < H.nx.toNat
  closed : ∀ b ∈ bl, ∀ k ∈ b.keysA, k.toNat ≤ bl.length
  blk : ∀ (i : Nat) (b : Blk) (k : K), bl[i]? = some b → κ[i]? = some k → b.live → H.get k = some (b.ren (rk κ .z))
theorem may_live {b : Blk} (h : b.mayWrite) : b.live := by cases b <;> simp_all [Blk.mayWrite, Blk.live]
section
variable {κ : List K} {bl : List Blk} {top : K}
theorem Fit.ren (h : Fit H κ bl) {b : Blk} (hb : b ∈ bl) (t t' : K) : b.ren (rk κ t) = b.ren (rk κ t') := Blk.ren_congr fun k hk => rk_in (by rw [h.len]; exact h.closed b hb k hk) t t'
theorem Fit.blkT (h : Fit H κ bl) (top : K) (i : Nat) (b : Blk) (k : K) (hb : bl[i]? = some b) (hk : κ[i]? = some k) (hl : b.live) : H.get k = some (b.ren (rk κ top)) := by
  rw [h.ren (List.mem_of_getElem? hb) top .z]
  exact h.blk i b k hb hk hl
theorem Fit.ext (h : Fit H κ bl) (hok : H.ok) (L : List Blk) : Fit (H.ext L) κ bl := by
  have hn : H.nx.toNat ≤ (H.ext L).nx.toNat := by rw [Heap.nx_ext, Heap.toNat_key]; exact Nat.le_add_right _ _
  exact ⟨h.len, h.nodup, fun k hk => Nat.lt_of_lt_of_le (h.old k hk) hn, h.closed, fun i b k hb hk hl => Heap.get_ext_old hok (h.blk i b k hb hk hl) L⟩
/-- it is there still, where its blocks are as they were -/
theorem Fit.keep {H' : Heap} (h : Fit H κ bl) (hn : H.nx.toNat ≤ H'.nx.toNat) (hk : ∀ (i : Nat) (b : Blk) (k : K) (c : Blk), bl[i]? = some b → κ[i]? = some k → b.live → H.get k = some c → H'.get k = some c) : Fit H' κ bl :=
  ⟨h.len, h.nodup, fun k hk => Nat.lt_of_lt_of_le (h.old k hk) hn, h.closed, fun i b k hb hkk hl => hk i b k _ hb hkk hl (h.blk i b k hb hkk hl)⟩
theorem Fit.small (h : Fit H κ bl) (top : K) {k : K} {b : Blk} (hb : (hp0.ext bl).get k = some b) (hl : b.live) : H.get (rk κ top k) = some (b.ren (rk κ top)) := by
  rw [get_small] at hb
  have hi := (List.getElem?_eq_some_iff.1 hb).1
  have hk : κ[k.toNat - 1]? = some (κ[k.toNat - 1]'(by rw [h.len]; exact hi)) := List.getElem?_eq_getElem _
  rw [rk_some hk]
  exact h.blkT top _ _ _ hb hk hl
theorem Fit.vis (h : Fit H κ bl) (ht : H.nx.toNat ≤ top.toNat) (hw : WRel P φ H w) {k : K} {a : At} (ha : φ (rk κ top k) = some a) : k.toNat - 1 < κ.length := by
  by_cases hi : k.toNat - 1 < κ.length
  · exact hi
  · rw [rk_none (List.getElem?_eq_none (by omega))] at ha
    have := hw.dom _ _ ha
    omega
theorem Fit.inj (h : Fit H κ bl) {i j : Nat} {k : K} (hi : κ[i]? = some k) (hj : κ[j]? = some k) : i = j :=
  (List.getElem?_inj (List.getElem?_eq_some_iff.1 hi).1 h.nodup).1 (hi.trans hj.symm)
theorem Fit.own (h : Fit H κ bl) {b : Nat} (ho : Owned (fun k => φ (rk κ top k)) (hp0.ext bl) b) : ∃ (i : Nat) (c : Blk) (k : K) (a : At), bl[i]? = some c ∧ κ[i]? = some k ∧ c.mayWrite ∧ H.get k = some (c.ren (rk κ top)) ∧ φ k = some a ∧ a.b = b := by
  obtain ⟨k, c, a, hg, hm, ha, e⟩ := ho
  have h1 := h.small top hg (may_live hm)
  rw [get_small] at hg
  have hi := (List.getElem?_eq_some_iff.1 hg).1
  have hk : κ[k.toNat - 1]? = some (κ[k.toNat - 1]'(by rw [h.len]; exact hi)) := List.getElem?_eq_getElem _
  have ha : φ (rk κ top k) = some a := ha
  rw [rk_some hk] at ha h1
  exact ⟨_, c, _, a, hg, hk, hm, h1, ha, e⟩
/-- seen as small -/
theorem WRel.small (h : Fit H κ bl) (ht : H.nx.toNat ≤ top.toNat) (hw : WRel P φ H w) : WRel P (fun k => φ (rk κ top k)) (hp0.ext bl) w := by
  refine ⟨⟨fun k a ha => ?_, fun k b hb => ?_, fun k b a hb ha => ?_, fun j k c d x y hjk hc hd hx hy lc ld hxy hm => ?_, fun k a ha => hw.size _ a ha⟩, fun g v hm => ⟨(hw.rom g v hm).1, fun ho => ?_⟩⟩
  · have h1 : k.toNat - 1 < κ.length := h.vis ht hw ha
    rw [h.len] at h1
    have := k.toNat_pos
    rw [nx_small]; omega
  · rw [get_small] at hb
    have := (List.getElem?_eq_some_iff.1 hb).1
    have := k.toNat_pos
    rw [nx_small]; omega
  · cases b with
    | dead => trivial
    | row wr esz rows => exact (hw.blk _ _ a (h.small top hb trivial) ha).ren
    | map es => exact (hw.blk _ _ a (h.small top hb trivial) ha).ren
  · refine hw.inj _ _ _ _ x y (fun e => ?_) (h.small top hc lc) (h.small top hd ld) hx hy (Blk.ren_live.2 lc) (Blk.ren_live.2 ld) hxy (Blk.ren_mayWrite.2 hm)
    have h1 : j.toNat - 1 < κ.length := h.vis ht hw hx
    have h2 : k.toNat - 1 < κ.length := h.vis ht hw hy
    have e1 : κ[j.toNat - 1]? = some (κ[j.toNat - 1]'h1) := List.getElem?_eq_getElem _
    have e2 : κ[k.toNat - 1]? = some (κ[k.toNat - 1]'h2) := List.getElem?_eq_getElem _
    rw [rk_some e1, rk_some e2] at e
    rw [← e] at e2
    have := h.inj e1 e2
    have := j.toNat_pos
    have := k.toNat_pos
    exact hjk (K.toNat_inj (by omega))
  · obtain ⟨i, c, k, a, -, -, h3, h4, h5, h6⟩ := h.own ho
    exact (hw.rom g v hm).2 ⟨k, _, a, h4, Blk.ren_mayWrite.2 h3, h5, h6⟩
end
/-- some blocks are put in the place of others -/
theorem Heap.over (g : K → Option Blk) (H : Heap) : ∀ n, ∃ H' : Heap, H'.nx = H.nx ∧ ∀ k, H'.get k = if k.toNat ≤ n then (g k).orElse (fun _ => H.get k) else H.get k
  | 0 => ⟨H, rfl, fun k => by rw [if_neg]; have := k.toNat_pos; omega⟩
  | n + 1 => by
    obtain ⟨H', h1, h2⟩ := Heap.over g H n
    have hk : (hp0.key n).toNat = n + 1 := hp0_key n
    cases hg : g (hp0.key n) with
    | none =>
      refine ⟨H', h1, fun k => ?_⟩
      rw [h2]
      by_cases h : k.toNat ≤ n
      · rw [if_pos h, if_pos (by omega)]
      · rw [if_neg h]
        by_cases h3 : k.toNat ≤ n + 1
        · obtain rfl : k = hp0.key n := K.toNat_inj (by omega)
          rw [if_pos h3, hg]; rfl
        · rw [if_neg h3]
    | some b =>
      refine ⟨H'.set (hp0.key n) b, h1, fun k => ?_⟩
      rw [Heap.get_set]
      by_cases e : hp0.key n = k
      · subst e
        rw [if_pos rfl, if_pos (by omega), hg]; rfl
      · rw [if_neg e, h2]
        by_cases h : k.toNat ≤ n
        · rw [if_pos h, if_pos (by omega)]
        · rw [if_neg h, if_neg fun h3 => e (K.toNat_inj (by omega))]
theorem Blk.dead_or (b : Blk) : b = .dead ∨ b.live := by cases b <;> simp [Blk.live]
/-- all blocks that live are seen -/
theorem reach_vis {κ : List K} {top : K} : ∀ (l : List Blk) (i : Nat) (k : K) (acc : List K), k.toNat = i + 1 → reachB l k acc = true → (∀ j ∈ acc, φ (rk κ top j) ≠ none) →
    (∀ (j : Nat) (b : Blk), l[j]? = some b → b.live → ∀ a, φ (rk κ top (hp0.key (i + j))) = some a → BlkRel P φ w a (b.ren (rk κ top))) →
    ∀ (j : Nat) (b : Blk), l[j]? = some b → b.live → φ (rk κ top (hp0.key (i + j))) ≠ none
  | [], _, _, _, _, _, _, _, j, b, hj, _ => by simp at hj
  | c :: l, i, k, acc, hk, h, ha, hb, j, b, hj, hl => by
    have h : bif' (Blk.rec (motive := fun _ => Bool) true (fun _ _ _ => memK k acc) (fun _ => memK k acc) c) (reachB l k.succ (acc ++ c.keys)) false = true := h
    have hki : k = hp0.key i := K.toNat_inj (by rw [hk, hp0_key])
    have h1 : (Blk.rec (motive := fun _ => Bool) true (fun _ _ _ => memK k acc) (fun _ => memK k acc) c : Bool) = true ∧ reachB l k.succ (acc ++ c.keys) = true := by
      cases hx : (Blk.rec (motive := fun _ => Bool) true (fun _ _ _ => memK k acc) (fun _ => memK k acc) c : Bool) with
      | true => rw [hx] at h; exact ⟨rfl, h⟩
      | false => rw [hx] at h; cases h
    have hc : c.live → φ (rk κ top (hp0.key i)) ≠ none := fun hcl => by
      rw [← hki]
      refine ha k (memK_mem ?_)
      cases c with
      | dead => exact hcl.elim
      | row wr esz rows => exact h1.1
      | map es => exact h1.1
    cases j with
    | zero =>
      cases hj
      exact hc hl
    | succ j =>
      have hj : l[j]? = some b := hj
      rw [show i + (j + 1) = i + 1 + j by omega]
      refine reach_vis l (i + 1) k.succ (acc ++ c.keys) (by rw [K.toNat_succ, hk]) h1.2 (fun x hx => ?_) (fun j b hj hl a ha => ?_) j b hj hl
      · rcases List.mem_append.1 hx with hx | hx
        · exact ha x hx
        · have hcl : c.live := by cases c with
            | dead => cases hx
            | row _ _ _ => trivial
            | map _ => trivial
          cases hv : φ (rk κ top (hp0.key i)) with
          | none => exact absurd hv (hc hcl)
          | some a => exact (hb 0 c rfl hcl a hv).ren.keys_some x hx
      · have := hb (j + 1) b hj hl
        rw [show i + (j + 1) = i + 1 + j by omega] at this
        exact this a ha
/-- what a small memory turns to, in the large one -/
structure Framed (H : Heap) (κ : List K) (bl : List Blk) (sel : List K) (bl' : List Blk) (G : Heap) (κ' : List K) : Prop where
  fit : Fit G κ' bl'
  stay : ∀ (i : Nat) (k : K), sel[i]? = some k → k.toNat ≤ bl.length → κ'[i]? = κ[k.toNat - 1]?
  keep : ∀ (k : K) (b : Blk), H.get k = some b → (∀ (i : Nat) (c : Blk), bl[i]? = some c → c.live → κ[i]? ≠ some k) → G.get k = some b
  nx : H.nx.toNat ≤ G.nx.toNat
  ok : G.ok
  src : ∀ k ∈ κ', k ∈ κ ∨ H.nx.toNat ≤ k.toNat
open Classical in
theorem frame_rel {κ sel : List K} {bl bl' : List Blk} {G0 : Heap} (hw : WRel P φ H w) (hF : Fit H κ bl)
    (hvis : ∀ (i : Nat) (b : Blk) (k : K), bl[i]? = some b → b.live → κ[i]? = some k → φ k ≠ none)
    (hW : WRel P ψ G0 u) (hE : Ext (fun k => φ (rk κ H.nx k)) (hp0.ext bl) w ψ G0 u) (hS : Fit G0 sel bl') (hmw : ∀ b ∈ bl', b.live → b.mayWrite)
    (hop : ∀ (i : Nat) (k : K) (b : Blk), sel[i]? = some k → bl[k.toNat - 1]? = some .dead → bl'[i]? = some b → b = .dead) :
    ∃ (χ : Phi) (M : Heap) (κ' : List K), WRel P χ M u ∧ Ext φ H w χ M u ∧ Framed H κ bl sel bl' M κ' ∧ ∀ (k : K) (a : At), k.toNat ≤ bl'.length → ψ (rk sel .z k) = some a → χ (rk κ' .z k) = some a := by
  obtain ⟨m, hm⟩ : ∃ m, m = bl.length := ⟨_, rfl⟩
  obtain ⟨n, hn⟩ : ∃ n, n = bl'.length := ⟨_, rfl⟩
  obtain ⟨S, hSd⟩ : ∃ S : Nat → K, S = fun i => (sel[i]?).getD .z := ⟨_, rfl⟩
  have hSi : ∀ i, i < n → sel[i]? = some (S i) := fun i hi => by
    have : i < sel.length := by rw [hS.len, ← hn]; exact hi
    rw [hSd]; simp only [List.getElem?_eq_getElem this, Option.getD_some]
  obtain ⟨F, hFd⟩ : ∃ F : Nat → K, F = fun i => if (S i).toNat ≤ m then rk κ .z (S i) else H.key i := ⟨_, rfl⟩
  have hFo : ∀ i, (S i).toNat ≤ m → F i = rk κ .z (S i) := fun i h => by rw [hFd]; exact if_pos h
  have hFn : ∀ i, ¬ (S i).toNat ≤ m → F i = H.key i := fun i h => by rw [hFd]; exact if_neg h
  have hSo : ∀ i, (S i).toNat ≤ m → κ[(S i).toNat - 1]? = some (F i) := fun i h => by
    have := (S i).toNat_pos
    have e : κ[(S i).toNat - 1]? = some (κ[(S i).toNat - 1]'(by rw [hF.len]; omega)) := List.getElem?_eq_getElem _
    rw [hFo i h, rk_some e]; exact e
  have hFlt : ∀ i, (S i).toNat ≤ m → (F i).toNat < H.nx.toNat := fun i h => hF.old _ (List.mem_of_getElem? (hSo i h))
  have hinj : ∀ i j, i < n → j < n → F i = F j → i = j := by
    intro i j hi hj e
    by_cases h1 : (S i).toNat ≤ m
    · by_cases h2 : (S j).toNat ≤ m
      · have e1 := hSo i h1
        have e2 := hSo j h2
        rw [← e] at e2
        have e3 := hF.inj e1 e2
        have p1 := (S i).toNat_pos
        have p2 := (S j).toNat_pos
        have e4 : S i = S j := K.toNat_inj (by omega)
        have e5 := hSi i hi
        rw [e4] at e5
        exact hS.inj e5 (hSi j hj)
      · have := hFlt i h1
        rw [e, hFn j h2, Heap.toNat_key] at this
        omega
    · by_cases h2 : (S j).toNat ≤ m
      · have := hFlt j h2
        rw [← e, hFn i h1, Heap.toNat_key] at this
        omega
      · rw [hFn i h1, hFn j h2] at e
        exact Heap.key_inj e
  obtain ⟨κ', hκ⟩ : ∃ κ' : List K, κ' = (List.range n).map F := ⟨_, rfl⟩
  have hκl : κ'.length = n := by rw [hκ, List.length_map, List.length_range]
  have hκi : ∀ i, i < n → κ'[i]? = some (F i) := fun i hi => by rw [hκ, List.getElem?_map, List.getElem?_range hi]; rfl
  have hκb : ∀ i k, κ'[i]? = some k → i < n ∧ k = F i := fun i k h => by
    have hi := (List.getElem?_eq_some_iff.1 h).1
    rw [hκl] at hi
    rw [hκi i hi] at h
    exact ⟨hi, (Option.some.inj h).symm⟩
  -- the blocks that are written over
  obtain ⟨g, hg⟩ : ∃ g : K → Option Blk, g = fun k => if h : ∃ i b, i < n ∧ bl'[i]? = some b ∧ b.live ∧ (S i).toNat ≤ m ∧ F i = k then some (h.choose_spec.choose.ren (rk κ' .z)) else if ∃ (i : Nat) (c : Blk), bl[i]? = some c ∧ c.live ∧ κ[i]? = some k then some .dead else none := ⟨_, rfl⟩
  have hg1 : ∀ i b, i < n → bl'[i]? = some b → b.live → (S i).toNat ≤ m → g (F i) = some (b.ren (rk κ' .z)) := fun i b hi hb hl hs => by
    have h : ∃ i' b', i' < n ∧ bl'[i']? = some b' ∧ b'.live ∧ (S i').toNat ≤ m ∧ F i' = F i := ⟨i, b, hi, hb, hl, hs, rfl⟩
    rw [hg]
    simp only [dif_pos h]
    obtain ⟨h1, h2, h3, h4, h5⟩ := h.choose_spec.choose_spec
    have e2 : bl'[h.choose]? = bl'[i]? := congrArg (fun z => bl'[z]?) (hinj _ _ h1 hi h5)
    have e3 := h2.symm.trans (e2.trans hb)
    exact congrArg (fun z => some (Blk.ren (rk κ' .z) z)) (Option.some.inj e3)
  have hg2 : ∀ k b, g k = some b → (∃ i b', i < n ∧ bl'[i]? = some b' ∧ b'.live ∧ (S i).toNat ≤ m ∧ F i = k ∧ b = b'.ren (rk κ' .z)) ∨ (b = .dead ∧ ∃ (i : Nat) (c : Blk), bl[i]? = some c ∧ c.live ∧ κ[i]? = some k) := fun k b h => by
    rw [hg] at h
    simp only at h
    split at h
    · rename_i hx
      obtain ⟨h1, h2, h3, h4, h5⟩ := hx.choose_spec.choose_spec
      exact .inl ⟨_, _, h1, h2, h3, h4, h5, (Option.some.inj h).symm⟩
    · split at h
      · rename_i hx
        exact .inr ⟨(Option.some.inj h).symm, hx⟩
      · cases h
  have hg3 : ∀ k, g k = none → ∀ (i : Nat) (c : Blk), bl[i]? = some c → c.live → κ[i]? ≠ some k := fun k h i c h1 h2 h3 => by
    rw [hg] at h
    simp only at h
    split at h
    · cases h
    · rw [if_pos ⟨i, c, h1, h2, h3⟩] at h; cases h
  obtain ⟨H', hnx', hget'⟩ := Heap.over g H (H.nx.toNat - 1)
  have hpx := H.nx.toNat_pos
  obtain ⟨M, hM⟩ : ∃ M, M = H'.ext ((List.range n).map fun i => if (S i).toNat ≤ m then Blk.dead else ((bl'[i]?).getD .dead).ren (rk κ' .z)) := ⟨_, rfl⟩
  have hkey : ∀ i, H'.key i = H.key i := fun i => by unfold Heap.key; rw [hnx']
  have hMn : M.nx.toNat = H.nx.toNat + n := by rw [hM, Heap.nx_ext, Heap.toNat_key, hnx', List.length_map, List.length_range]
  have hMo : ∀ k, k.toNat < H.nx.toNat → M.get k = (g k).orElse (fun _ => H.get k) := fun k hk => by
    rw [hM, Heap.get_ext_lt _ _ _ (by rw [hnx']; exact hk), hget', if_pos (by omega)]
  have hMf : ∀ i, i < n → M.get (H.key i) = some (if (S i).toNat ≤ m then Blk.dead else ((bl'[i]?).getD .dead).ren (rk κ' .z)) := fun i hi => by
    rw [hM, ← hkey, Heap.get_ext_key _ _ _ (by rw [List.length_map, List.length_range]; exact hi), List.getElem?_map, List.getElem?_range hi]; rfl
  have hMk : ∀ k b, M.get k = some b → k.toNat < H.nx.toNat ∨ ∃ i, i < n ∧ k = H.key i := fun k b h => by
    by_cases hk : k.toNat < H.nx.toNat
    · exact .inl hk
    · refine .inr ⟨k.toNat - H.nx.toNat, ?_, K.toNat_inj (by rw [Heap.toNat_key]; omega)⟩
      rw [hM, Heap.get_ext, hnx', List.length_map, List.length_range] at h
      split at h
      · omega
      · rw [hget', if_neg (by omega)] at h
        exact absurd (hw.top k b h) hk
  -- a live block of what is new
  have hMN : ∀ i b, i < n → bl'[i]? = some b → b.live → M.get (F i) = some (b.ren (rk κ' .z)) := fun i b hi hb hl => by
    by_cases hs : (S i).toNat ≤ m
    · rw [hMo _ (hFlt i hs), hg1 i b hi hb hl hs]; rfl
    · rw [hFn i hs, hMf i hi, if_neg hs, hb]; rfl
  obtain ⟨χ, hχ⟩ : ∃ χ : Phi, χ = fun k => if k.toNat < H.nx.toNat then φ k else if k.toNat - H.nx.toNat < n then (if (S (k.toNat - H.nx.toNat)).toNat ≤ m then none else ψ (S (k.toNat - H.nx.toNat))) else none := ⟨_, rfl⟩
  have hχo : ∀ k, k.toNat < H.nx.toNat → χ k = φ k := fun k hk => by rw [hχ]; exact if_pos hk
  have hχf : ∀ i, i < n → ¬ (S i).toNat ≤ m → χ (H.key i) = ψ (S i) := fun i hi hs => by
    rw [hχ]; simp only
    rw [Heap.toNat_key, if_neg (by omega), Nat.add_sub_cancel_left, if_pos hi, if_neg hs]
  have hle : φ.le χ := fun k a h => by rw [hχo k (hw.dom k a h)]; exact h
  have hlow : ∀ i, (S i).toNat ≤ m → ψ (S i) = φ (F i) := fun i hs => by
    rw [hE.phi (S i) (by rw [nx_small, ← hm]; omega), hFo i hs]
    show φ (rk κ H.nx (S i)) = φ (rk κ .z (S i))
    rw [rk_in (by rw [hF.len, ← hm]; exact hs) H.nx .z]
  have hχF : ∀ i, i < n → χ (F i) = ψ (S i) := fun i hi => by
    by_cases hs : (S i).toNat ≤ m
    · rw [hχo _ (hFlt i hs), hlow i hs]
    · rw [hFn i hs]; exact hχf i hi hs
  have hρ : ∀ (k : K) (a : At), k.toNat ≤ n → ψ (rk sel .z k) = some a → χ (rk κ' .z k) = some a := fun k a hk h => by
    have := k.toNat_pos
    have hi : k.toNat - 1 < n := by omega
    rw [rk_some (hSi _ hi)] at h
    rw [rk_some (hκi _ hi), hχF _ hi]; exact h
  -- the relation of a new block
  have hfin : Fit M κ' bl' := by
    refine ⟨by rw [hκl, hn], ?_, fun k hk => ?_, hS.closed, fun i b k hb hk hl => ?_⟩
    · rw [hκ]
      refine List.pairwise_map.2 ?_
      refine (List.pairwise_lt_range (n := n)).imp_of_mem fun {a b} ha hb hab e => ?_
      have := hinj a b (List.mem_range.1 ha) (List.mem_range.1 hb) e
      omega
    · rw [hκ] at hk
      obtain ⟨i, hi, rfl⟩ := List.mem_map.1 hk
      have hi := List.mem_range.1 hi
      rw [hMn]
      by_cases hs : (S i).toNat ≤ m
      · have := hFlt i hs; omega
      · rw [hFn i hs, Heap.toNat_key]; omega
    · obtain ⟨hi, rfl⟩ := hκb i k hk
      exact hMN i b hi hb hl
  have hren : ∀ b ∈ bl', ∀ a, BlkRel P ψ u a (b.ren (rk sel .z)) → BlkRel P χ u a (b.ren (rk κ' .z)) := fun b hb a h => by
    have h1 := h
    have t : b.ren (rk sel .z) = b.ren (rk sel G0.nx) := hS.ren hb _ _
    rw [t] at h1
    have h2 := h1.ren
    have t2 : b.ren (rk κ' .z) = b.ren (fun k => rk κ' .z k) := rfl
    refine BlkRel.fwd (φ := fun k => ψ (rk sel G0.nx k)) (fun k a hk => ?_) h2
    have hk : ψ (rk sel G0.nx k) = some a := hk
    by_cases hin : k.toNat ≤ n
    · exact hρ k a hin (by rw [rk_in (by rw [hS.len, ← hn]; exact hin) .z G0.nx]; exact hk)
    · rw [rk_none (List.getElem?_eq_none (by rw [hS.len, ← hn]; omega))] at hk
      exact absurd (hW.dom _ _ hk) (Nat.lt_irrefl _)
  have hold : ∀ k b a, k.toNat < H.nx.toNat → g k = none → H.get k = some b → φ k = some a → b.live → ¬ Owned (fun k => φ (rk κ H.nx k)) (hp0.ext bl) a.b := fun k b a hk hgn hb ha hl ho => by
    obtain ⟨i, c, k', a', h1, h2, h3, h4, h5, h6⟩ := hF.own ho
    exact hw.inj k' k _ b a' a (fun e => hg3 k hgn i c h1 (may_live h3) (by rw [← e]; exact h2)) h4 hb h5 ha (Blk.ren_live.2 (may_live h3)) hl h6 (Blk.ren_mayWrite.2 h3)
  have hownF : ∀ b, Owned (fun k => φ (rk κ H.nx k)) (hp0.ext bl) b → Owned φ H b := fun b ho => by
    obtain ⟨i, c, k', a', h1, h2, h3, h4, h5, h6⟩ := hF.own ho
    exact ⟨k', _, a', h4, Blk.ren_mayWrite.2 h3, h5, h6⟩
  -- each live block of M is new, or as it was
  have hkind : ∀ k b a, M.get k = some b → χ k = some a → b.live → (∃ i b', i < n ∧ bl'[i]? = some b' ∧ b'.live ∧ k = F i ∧ b = b'.ren (rk κ' .z) ∧ ψ (S i) = some a ∧ G0.get (S i) = some (b'.ren (rk sel .z))) ∨ (k.toNat < H.nx.toNat ∧ g k = none ∧ H.get k = some b ∧ φ k = some a) := fun k b a hb ha hl => by
    have fin : ∀ i b', i < n → bl'[i]? = some b' → b'.live → k = F i → b = b'.ren (rk κ' .z) → (∃ i b', i < n ∧ bl'[i]? = some b' ∧ b'.live ∧ k = F i ∧ b = b'.ren (rk κ' .z) ∧ ψ (S i) = some a ∧ G0.get (S i) = some (b'.ren (rk sel .z))) := fun i b' hi hb' hl' e1 e2 =>
      ⟨i, b', hi, hb', hl', e1, e2, by rw [← hχF i hi, ← e1]; exact ha, hS.blk i b' _ hb' (hSi i hi) hl'⟩
    rcases hMk k b hb with hk | ⟨i, hi, rfl⟩
    · rw [hMo k hk] at hb
      cases hgk : g k with
      | none =>
        rw [hgk] at hb
        exact .inr ⟨hk, rfl, hb, by rw [← hχo k hk]; exact ha⟩
      | some c =>
        rw [hgk] at hb
        have hb : some c = some b := hb
        cases hb
        rcases hg2 k b hgk with ⟨i, b', h1, h2, h3, h4, h5, h6⟩ | ⟨rfl, _⟩
        · exact .inl (fin i b' h1 h2 h3 h5.symm h6)
        · exact hl.elim
    · rw [hMf i hi] at hb
      by_cases hs : (S i).toNat ≤ m
      · rw [if_pos hs] at hb; cases hb; exact hl.elim
      · rw [if_neg hs] at hb
        have hbl : bl'[i]? = some (bl'[i]'(by rw [← hn]; exact hi)) := List.getElem?_eq_getElem _
        rw [hbl] at hb
        cases hb
        exact .inl (fin i _ hi hbl (Blk.ren_live.1 hl) (hFn i hs).symm rfl)
  have hin' : ∀ b, b ∈ bl' → True := fun _ _ => trivial
  have h0 : WRel0 P χ M u := by
    refine ⟨fun k a h => ?_, fun k b h => ?_, fun k b a hb ha => ?_, fun j k c d x y hjk hc hd hx hy lc ld hxy hmc => ?_, fun k a h => ?_⟩
    · rw [hMn]
      rw [hχ] at h; simp only at h
      split at h
      · omega
      · split at h
        · omega
        · cases h
    · rw [hMn]
      rcases hMk k b h with hk | ⟨i, hi, rfl⟩
      · omega
      · rw [Heap.toNat_key]; omega
    · rcases Blk.dead_or b with rfl | hl
      · trivial
      rcases hkind k b a hb ha hl with ⟨i, b', h1, h2, h3, h4, h5, h6, h7⟩ | ⟨h1, h2, h3, h4⟩
      · rw [h5]
        exact hren b' (List.mem_of_getElem? h2) a (hW.blk _ _ a h7 h6)
      · exact (BlkRel.congr (hE.keeps _ (hw.size k a h4) (hold k b a h1 h2 h3 h4 hl)) (hw.blk k b a h3 h4)).mono hle
    · rcases hkind j c x hc hx lc with ⟨i, b', h1, h2, h3, h4, h5, h6, h7⟩ | ⟨h1, h2, h3, h4⟩
      · rw [h5] at hmc
        have hmc' := Blk.ren_mayWrite.1 hmc
        rcases hkind k d y hd hy ld with ⟨i2, b2, g1, g2, g3, g4, g5, g6, g7⟩ | ⟨g1, g2, g3, g4⟩
        · have hne : i ≠ i2 := fun e => hjk (by rw [h4, g4, e])
          have hne2 : S i ≠ S i2 := fun e => hne (hS.inj (hSi i h1) (by rw [e]; exact hSi i2 g1))
          exact hW.inj _ _ _ _ x y hne2 h7 g7 h6 g6 (Blk.ren_live.2 h3) (Blk.ren_live.2 g3) hxy (Blk.ren_mayWrite.2 hmc')
        · have ho : Owned ψ G0 y.b := ⟨S i, _, x, h7, Blk.ren_mayWrite.2 hmc', h6, hxy⟩
          exact hold k d y g1 g2 g3 g4 ld (hE.own _ (hw.size k y g4) ho)
      · rcases hkind k d y hd hy ld with ⟨i2, b2, g1, g2, g3, g4, g5, g6, g7⟩ | ⟨g1, g2, g3, g4⟩
        · have ho : Owned ψ G0 x.b := ⟨S i2, _, y, g7, Blk.ren_mayWrite.2 (hmw b2 (List.mem_of_getElem? g2) g3), g6, hxy.symm⟩
          exact hold j c x h1 h2 h3 h4 lc (hE.own _ (hw.size j x h4) ho)
        · exact hw.inj j k c d x y hjk h3 g3 h4 g4 lc ld hxy hmc
    · rw [hχ] at h; simp only at h
      split at h
      · exact Nat.lt_of_lt_of_le (hw.size k a h) hE.size
      · split at h
        · split at h
          · cases h
          · exact hW.size _ a h
        · cases h
  have hext : Ext φ H w χ M u := by
    refine ⟨hχo, by rw [hMn]; omega, hE.size, fun b hb ho => hE.keeps b hb fun h => ho (hownF b h), fun k hk hn => ?_, fun b hb ho => ?_, hE.os, hE.tape, hE.output⟩
    · rw [hMo k hk]
      cases hgk : g k with
      | none => rfl
      | some c =>
        exfalso
        rcases hg2 k c hgk with ⟨i, b', h1, h2, h3, h4, h5, h6⟩ | ⟨_, i, c', h1, h2, h3⟩
        · have hpos := (S i).toNat_pos
          have hbl : bl[(S i).toNat - 1]? = some (bl[(S i).toNat - 1]'(by rw [← hm]; omega)) := List.getElem?_eq_getElem _
          rcases Blk.dead_or (bl[(S i).toNat - 1]'(by rw [← hm]; omega)) with e | hl
          · rw [e] at hbl
            have := hop i (S i) b' (hSi i h1) hbl h2
            subst this
            exact h3
          · exact hvis _ _ _ hbl hl (by rw [hSo i h4, h5]) hn
        · exact hvis i c' k h1 h2 h3 hn
    · obtain ⟨k, c, a, h1, h2, h3, h4⟩ := ho
      rcases hkind k c a h1 h3 (may_live h2) with ⟨i, b', g1, g2, g3, g4, g5, g6, g7⟩ | ⟨g1, g2, g3, g4⟩
      · rw [g5] at h2
        exact hownF b (hE.own b hb ⟨S i, _, a, g7, Blk.ren_mayWrite.2 (Blk.ren_mayWrite.1 h2), g6, h4⟩)
      · exact ⟨k, c, a, g3, h2, g4, h4⟩
  obtain ⟨hWM, hEM⟩ := hw.pack h0 hext
  refine ⟨χ, M, κ', hWM, hEM, ⟨hfin, fun i k h1 h2 => ?_, fun k b h1 h2 => ?_, by rw [hMn]; omega, hWM.top, fun k hk => ?_⟩, fun k a hk h => hρ k a (by rw [hn]; exact hk) h⟩
  · have hi : i < n := by rw [hn, ← hS.len]; exact (List.getElem?_eq_some_iff.1 h1).1
    have e : k = S i := by rw [hSi i hi] at h1; exact (Option.some.inj h1).symm
    subst e
    rw [hκi i hi, hSo i (by rw [hm]; exact h2)]
  · have hk := hw.top k b h1
    rw [hMo k hk]
    cases hgk : g k with
    | none => exact h1
    | some c =>
      exfalso
      rcases hg2 k c hgk with ⟨i, b', g1, g2, g3, g4, g5, g6⟩ | ⟨_, i, c', g1, g2, g3⟩
      · have hpos := (S i).toNat_pos
        have hbl : bl[(S i).toNat - 1]? = some (bl[(S i).toNat - 1]'(by rw [← hm]; omega)) := List.getElem?_eq_getElem _
        rcases Blk.dead_or (bl[(S i).toNat - 1]'(by rw [← hm]; omega)) with e | hl
        · rw [e] at hbl
          have := hop i (S i) b' (hSi i g1) hbl g2
          subst this
          exact g3
        · exact h2 _ _ hbl hl (by rw [hSo i g4, g5])
      · exact h2 i c' g1 g2 g3
  · rw [hκ] at hk
    obtain ⟨i, hi, rfl⟩ := List.mem_map.1 hk
    by_cases hs : (S i).toNat ≤ m
    · exact .inl (List.mem_of_getElem? (hSo i hs))
    · exact .inr (by rw [hFn i hs, Heap.toNat_key]; omega)
theorem FnOk.frame {f : FuncId} {args : List AV} {v1 : AV} {κ sel : List K} {bl bl' : List Blk} (h : FnOk P f args (hp0.ext bl) fun v G => v = v1.ren (rk sel .z) ∧ Fit G sel bl') (hF : Fit H κ bl)
    (hr : reachB bl .z (AV.keyss args) = true) (hka : ∀ k ∈ AV.keyss args, k.toNat ≤ bl.length) (hkv : ∀ k ∈ v1.keys, k.toNat ≤ bl'.length) (hmw : ∀ b ∈ bl', b.live → b.mayWrite)
    (hop : ∀ (i : Nat) (k : K) (b : Blk), sel[i]? = some k → bl[k.toNat - 1]? = some .dead → bl'[i]? = some b → b = .dead) :
    FnOk P f (AV.rens (rk κ .z) args) H fun v G => ∃ κ', v = v1.ren (rk κ' .z) ∧ Framed H κ bl sel bl' G κ' := by
  intro φ w args' ha hw
  rw [AV.rens_congr (σ := rk κ H.nx) fun k hk => rk_in (by rw [hF.len]; exact hka k hk) .z H.nx] at ha
  have ha2 := ha.ren
  have hw2 := WRel.small (top := H.nx) hF (Nat.le_refl _) hw
  have hvis : ∀ (i : Nat) (b : Blk) (k : K), bl[i]? = some b → b.live → κ[i]? = some k → φ k ≠ none := fun i b k hb hl hk => by
    have := reach_vis (P := P) (w := w) (φ := φ) (κ := κ) (top := H.nx) bl 0 .z (AV.keyss args) rfl hr (fun j hj => ha2.keys_some j hj) (fun j b hj hl a ha' => by
      rw [Nat.zero_add] at ha'
      have e : (hp0.key j).toNat - 1 = j := by rw [hp0_key]; omega
      have hk : κ[j]? = some (κ[j]'(by rw [hF.len]; exact (List.getElem?_eq_some_iff.1 hj).1)) := List.getElem?_eq_getElem _
      rw [rk_some (by rw [e]; exact hk)] at ha'
      exact hw.blk _ _ a (hF.blkT H.nx j b _ hj hk hl) ha') i b hb hl
    rw [Nat.zero_add, rk_some (j := k) (by rw [hp0_key]; exact hk)] at this
    exact this
  refine (h _ w args' ha2 hw2).mono ?_
  rintro e u ⟨v, G0, ⟨rfl, hS⟩, ψ, v', he, hv, hW, hE⟩
  obtain ⟨χ, M, κ', h1, h2, h3, h4⟩ := frame_rel hw hF hvis hW hE hS hmw hop
  refine ⟨_, M, ⟨κ', rfl, h3⟩, χ, v', he, ?_, h1, h2⟩
  rw [AV.ren_congr (σ := rk sel G0.nx) fun k hk => rk_in (by rw [hS.len]; exact hkv k hk) .z G0.nx] at hv
  refine VRel.fwd (φ := fun k => ψ (rk sel G0.nx k)) (fun k a hk => ?_) hv.ren
  have hk : ψ (rk sel G0.nx k) = some a := hk
  by_cases hin : k.toNat ≤ bl'.length
  · exact h4 k a hin (by rw [rk_in (by rw [hS.len]; exact hin) .z G0.nx]; exact hk)
  · rw [rk_none (List.getElem?_eq_none (by rw [hS.len]; omega))] at hk
    exact absurd (hW.dom _ _ hk) (Nat.lt_irrefl _)

/-! ### What the kernel looks at -/
noncomputable def nodupB (l : List K) : Bool := List.rec (motive := fun _ => Bool) true (fun k l ih => bif' (memK k l) false ih) l
theorem memK_iff {k : K} {l : List K} (h : k ∈ l) : memK k l = true := by
  induction l with
  | nil => cases h
  | cons x l ih =>
    show bif' (K.beq k x) true (memK k l) = true
    cases hb : K.beq k x with
    | true => rfl
    | false =>
      rcases List.mem_cons.1 h with rfl | h
      · rw [(K.beq_iff k k).2 rfl] at hb; cases hb
      · exact ih h
theorem nodupB_ok : ∀ {l : List K}, nodupB l = true → l.Nodup
  | [], _ => List.nodup_nil
  | k :: l, h => by
    have h : bif' (memK k l) false (nodupB l) = true := h
    cases hm : memK k l with
    | true => rw [hm] at h; cases h
    | false =>
      rw [hm] at h
      refine List.nodup_cons.2 ⟨fun hk => ?_, nodupB_ok h⟩
      rw [memK_iff hk] at hm; cases hm
noncomputable def allB {α : Type} (f : α → Bool) (l : List α) : Bool := List.rec (motive := fun _ => Bool) true (fun x _ ih => bif' (f x) ih false) l
theorem allB_ok {α : Type} {f : α → Bool} : ∀ {l : List α}, allB f l = true → ∀ x ∈ l, f x = true
  | y :: l, h, x, hx => by
    have h : bif' (f y) (allB f l) false = true := h
    cases hy : f y with
    | false => rw [hy] at h; cases h
    | true =>
      rw [hy] at h
      rcases List.mem_cons.1 hx with rfl | hx
      · exact hy
      · exact allB_ok h x hx
noncomputable def isDead (b : Blk) : Bool := Blk.rec (motive := fun _ => Bool) true (fun _ _ _ => false) (fun _ => false) b
noncomputable def mayB (b : Blk) : Bool := Blk.rec (motive := fun _ => Bool) true (fun w _ _ => w) (fun _ => true) b
noncomputable def leK (n : Nat) (k : K) : Bool := Nat.ble k.toNat n
noncomputable def chkB (bl bl' : List Blk) (sel : List K) (args : List AV) (v1 : AV) : Bool :=
  bif' (Nat.beq sel.length bl'.length) (bif' (nodupB sel) (bif' (allB (fun b => allB (leK bl'.length) b.keysA) bl') (bif' (allB mayB bl') (bif' (reachB bl .z (AV.keyss args))
    (bif' (allB (leK bl.length) (AV.keyss args)) (bif' (allB (leK bl'.length) v1.keys) (allB (fun p => bif' (Option.rec (motive := fun _ => Bool) false (fun b => isDead b) (bl[p.1.toNat - 1]?)) (isDead p.2) true) (sel.zip bl')) false) false) false) false) false) false) false
/-- what is left: its answer, whether its names are there, its blocks -/
noncomputable def runL (r : RC) (sel : List K) (bl' : List Blk) : Option (AV × Bool × List (Option Blk)) :=
  RC.rec (motive := fun _ => Option (AV × Bool × List (Option Blk))) none (fun v G => some (v, allB (fun k => Nat.blt k.toNat G.nx.toNat) sel, (sel.zip bl').map fun p => bif' (isDead p.2) none (G.get p.1))) r
noncomputable def wantL (sel : List K) (bl' : List Blk) : List (Option Blk) := (sel.zip bl').map fun p => bif' (isDead p.2) none (some (p.2.ren (rk sel .z)))
theorem bif_split {a b : Bool} (h : bif' a b false = true) : a = true ∧ b = true := by cases a <;> simp_all [bif']
theorem FnOk.run {X : Orc} (hX : GoodX P X) {n : Nat} {f : FuncId} {args : List AV} {bl bl' : List Blk} {sel κ : List K} {v1 : AV} (hc : chkB bl bl' sel args v1 = true)
    (hr : runL (evFn P X n f args (hp0.ext bl)) sel bl' = some (v1.ren (rk sel .z), true, wantL sel bl')) (hF : Fit H κ bl) :
    FnOk P f (AV.rens (rk κ .z) args) H fun v G => ∃ κ', v = v1.ren (rk κ' .z) ∧ Framed H κ bl sel bl' G κ' := by
  obtain ⟨c1, hc⟩ := bif_split hc
  obtain ⟨c2, hc⟩ := bif_split hc
  obtain ⟨c3, hc⟩ := bif_split hc
  obtain ⟨c4, hc⟩ := bif_split hc
  obtain ⟨c5, hc⟩ := bif_split hc
  obtain ⟨c6, hc⟩ := bif_split hc
  obtain ⟨c7, c8⟩ := bif_split hc
  have hlen := Nat.eq_of_beq_eq_true c1
  have hmw : ∀ b ∈ bl', b.live → b.mayWrite := fun b hb hl => by
    have := allB_ok c4 b hb
    cases b with
    | dead => exact hl.elim
    | row wr esz rows => exact this
    | map es => trivial
  refine FnOk.frame ?_ hF c5 (fun k hk => Nat.le_of_ble_eq_true (allB_ok c6 k hk)) (fun k hk => Nat.le_of_ble_eq_true (allB_ok c7 k hk)) hmw fun i k b h1 h2 h3 => ?_
  · cases hev : evFn P X n f args (hp0.ext bl) with
    | fail => rw [hev] at hr; cases hr
    | ok v G =>
      rw [hev] at hr
      have hr : some (v, allB (fun k => Nat.blt k.toNat G.nx.toNat) sel, (sel.zip bl').map fun p => bif' (isDead p.2) none (G.get p.1)) = some (v1.ren (rk sel .z), true, wantL sel bl') := hr
      simp only [Option.some.injEq, Prod.mk.injEq] at hr
      obtain ⟨r1, r2, r3⟩ := hr
      refine (FnOk.of_ev hX hev).mono ?_
      rintro v' G' ⟨rfl, rfl⟩
      refine ⟨r1, hlen, nodupB_ok c2, fun k hk => ?_, fun b hb k hk => Nat.le_of_ble_eq_true (allB_ok (allB_ok c3 b hb) k hk), fun i b k hb hk hl => ?_⟩
      · have := allB_ok r2 k hk
        have h2 : Nat.ble (k.toNat + 1) G'.nx.toNat = true := this
        exact Nat.le_of_ble_eq_true h2
      · have hz : (sel.zip bl')[i]? = some (k, b) := by rw [List.getElem?_zip_eq_some]; exact ⟨hk, hb⟩
        have := congrArg (fun l => l[i]?) r3
        simp only [wantL, List.getElem?_map, hz, Option.map_some] at this
        have hd : isDead b = false := by cases b with
          | dead => exact hl.elim
          | row _ _ _ => rfl
          | map _ => rfl
        rw [hd] at this
        exact Option.some.inj this
  · have hz : (sel.zip bl')[i]? = some (k, b) := by rw [List.getElem?_zip_eq_some]; exact ⟨h1, h3⟩
    have := allB_ok c8 (k, b) (List.mem_of_getElem? hz)
    simp only [h2] at this
    have : isDead b = true := this
    cases b with
    | dead => rfl
    | row _ _ _ => cases this
    | map _ => cases this
end Go.Ev
/- Calls in regions that draw their order, behind a call whose memory is told of by what holds in it. -/

set_option linter.all false
namespace Go.Ev
variable {P : Program} {H : Heap}
open Classical in
/-- calls of which something is told, known beforehand: any answer, any memory of which it holds -/
noncomputable def EC (P : Program) (R : FuncId → List AV → Heap → AV → Heap → Prop) : FuncId → List AV → Heap → RC := fun f args H =>
  if h : ∃ v X, FnOk P f args H (fun r G => r = v ∧ G = X) ∧ R f args H v X then .ok h.choose h.choose_spec.choose else .fail
theorem good_EC (P : Program) (R : FuncId → List AV → Heap → AV → Heap → Prop) : Ev.Good P (EC P R) := by
  intro f args H r G he φ w args' ha hw
  refine (?_ : FnOk P f args H fun v' G' => v' = r ∧ G' = G).one φ w args' ha hw
  unfold EC at he
  split at he
  · rename_i h
    have := h.choose_spec.choose_spec.1
    cases he
    exact this
  · cases he
theorem EC_ex {R : FuncId → List AV → Heap → AV → Heap → Prop} {f : FuncId} {args : List AV} {v : AV} {X : Heap} (h1 : FnOk P f args H fun r G => r = v ∧ G = X) (h2 : R f args H v X) : ∃ v X, EC P R f args H = .ok v X ∧ R f args H v X := by
  have h : ∃ v X, FnOk P f args H (fun r G => r = v ∧ G = X) ∧ R f args H v X := ⟨v, X, h1, h2⟩
  exact ⟨_, _, by unfold EC; rw [dif_pos h], h.choose_spec.choose_spec.2⟩
/-- where all is told exactly -/
theorem EC_eq {R : FuncId → List AV → Heap → AV → Heap → Prop} {f : FuncId} {args : List AV} {v : AV} {X : Heap} (h1 : FnOk P f args H fun r G => r = v ∧ G = X) (h2 : R f args H v X) (hu : ∀ v' X', R f args H v' X' → v' = v ∧ X' = X) : EC P R f args H = .ok v X := by
  obtain ⟨v', X', h3, h4⟩ := EC_ex h1 h2
  obtain ⟨rfl, rfl⟩ := hu _ _ h4
  exact h3
end Go.Ev
/- Answers that wait, told exactly: walked. -/

set_option linter.all false
set_option maxRecDepth 100000
namespace Go.Proofs
open Go Go.Ev
variable {H : Heap}
section
variable {G : Heap} {kn kw : K}
theorem f84_moreE (hok : G.ok) {x0 kd : Int} {d1 d2 d3 x5 x6 x7 : AV} {n : Nat} {x : List AV} {xs : List (List AV)} (hn : G.get kn = some (.row true 8 [[.int .i64 x0, d1, d2, d3, outV kw 24 (n + 1), x5, x6, x7]])) (hw : G.get kw = some (.row true 24 (x :: xs))) (hl : xs.length = n) (hN : n < 100000) (t1 t3 : Int) (t0 t2 t4 t5 t6 t7 t8 t9 t10 t11 t12 t13 t14 t15 t16 t17 t18 t19 t20 t21 t22 t23 l0 l1 l2 l3 l4 l5 l6 l7 l8 l9 l10 l11 l12 l13 l14 l15 l16 l17 l18 l19 l20 l21 l22 l23 : AV) :
    ∃ X, FnOk Tryz.prog 84 [.ptr kn 0, .agg [t0, .int .i64 t1, t2, .int .i64 t3, t4, t5, t6, t7, t8, t9, t10, t11, t12, t13, t14, t15, t16, t17, t18, t19, t20, t21, t22, t23], .int .i64 kd, .agg [l0, l1, l2, l3, l4, l5, l6, l7, l8, l9, l10, l11, l12, l13, l14, l15, l16, l17, l18, l19, l20, l21, l22, l23]] G (fun r G' => r = .tup [] ∧ G' = X) ∧ (∃ kw', kw' ∉ [kn, kw] ∧ X.get kn = some (.row true 8 [[.int .i64 x0, d1, d2, d3, outV kw' 24 (n + 2), x5, x6, x7]]) ∧ X.get kw' = some (.row true 24 (x :: xs ++ [[.int .i64 kd, .int .i64 x0, .int .i64 t1, .int .i64 t3, l4, l5, l6, l7, l8, l9, l10, l11, l12, l13, l14, l15, l16, l17, l18, l19, l20, l21, l22, l23]]))) ∧ X.ok ∧ Kp [kn, kw] G X := by
  have hne : kw ≠ kn := by rintro rfl; rw [hw] at hn; cases hn
  have hdk : (G.set kw .dead).get kn = some (.row true 8 [[.int .i64 x0, d1, d2, d3, outV kw 24 (n + 1), x5, x6, x7]]) := by rw [Heap.get_set, if_neg hne]; exact hn
  have hdo : (G.set kw .dead).ok := Heap.ok_set hok hw
  have hD : Kp [kn, kw] G (G.set kw .dead) := ⟨fun j d hj hd => by rw [Heap.get_set, if_neg (by rintro rfl; simp at hj)]; exact hd, Nat.le_refl _⟩
  obtain ⟨e1, e2, e3, e4, e5⟩ := says_end hdo hdk hD (by simp) (by intro j hj; simp only [List.mem_cons, List.not_mem_nil, or_false] at hj; rcases hj with rfl | rfl <;> first | exact ⟨_, hn⟩ | exact ⟨_, hw⟩) hok (L := [.row true 24 [[t0, .int .i64 t1, t2, .int .i64 t3, t4, t5, t6, t7, t8, t9, t10, t11, t12, t13, t14, t15, t16, t17, t18, t19, t20, t21, t22, t23]], .row true 24 [[.int .i64 kd, .int .i64 x0, .int .i64 t1, .int .i64 t3, l4, l5, l6, l7, l8, l9, l10, l11, l12, l13, l14, l15, l16, l17, l18, l19, l20, l21, l22, l23]], .row true 24 [[.int .i64 kd, .int .i64 x0, .int .i64 t1, .int .i64 t3, l4, l5, l6, l7, l8, l9, l10, l11, l12, l13, l14, l15, l16, l17, l18, l19, l20, l21, l22, l23]], .row true 24 (x :: (xs ++ [[.int .i64 kd, .int .i64 x0, .int .i64 t1, .int .i64 t3, l4, l5, l6, l7, l8, l9, l10, l11, l12, l13, l14, l15, l16, l17, l18, l19, l20, l21, l22, l23]]))]) (i := 3) rfl (.row true 8 [[.int .i64 x0, d1, d2, d3, .slice (G.key 3) 0 (n + 2) 24 false (n + 2), x5, x6, x7]])
  refine ⟨_, ?_, ⟨_, e5, e1, e2⟩, e3, e4⟩
  refine FnOk.of_WW Tryz.func84 rfl C84ok R84ok E0 good_E0 ?_
  have hn' := fun L => Heap.get_ext_old hok hn L
  have ha : ∀ (L : List Blk) (y : List AV), L[2]? = some (.row true 24 [y]) → appQ 24 328 (some (.slice kw 0 (n + 1) 24 false (n + 1))) (some (.slice (G.key 2) 0 1 24 true 1)) (G.ext L) = .val (.slice ((G.set kw .dead).key L.length) 0 (n + 2) 24 false (n + 2)) ((G.set kw .dead).ext (L ++ [.row true 24 (x :: xs ++ [y])])) := fun L y hj => appQ_old hok hw hl (ex := true) (cap := 1) hj hN
  have hn2 := fun L => Heap.get_ext_old hdo hdk L
  have hs2 := fun b (l : List Blk) (α : Type) (c' : Heap → α) => Heap.setC_here hdo hdk b l c'
  simp only [go_sem, ↓appR_hide, C84, hn']
  rw [ha _ _ rfl]
  simp only [go_sem, hn2, hs2]
theorem f84_firstE (hok : G.ok) {x0 kd : Int} {d1 d2 d3 x5 x6 x7 : AV} (hn : G.get kn = some (.row true 8 [[.int .i64 x0, d1, d2, d3, .nils, x5, x6, x7]])) (t1 t3 : Int) (t0 t2 t4 t5 t6 t7 t8 t9 t10 t11 t12 t13 t14 t15 t16 t17 t18 t19 t20 t21 t22 t23 l0 l1 l2 l3 l4 l5 l6 l7 l8 l9 l10 l11 l12 l13 l14 l15 l16 l17 l18 l19 l20 l21 l22 l23 : AV) :
    ∃ X, FnOk Tryz.prog 84 [.ptr kn 0, .agg [t0, .int .i64 t1, t2, .int .i64 t3, t4, t5, t6, t7, t8, t9, t10, t11, t12, t13, t14, t15, t16, t17, t18, t19, t20, t21, t22, t23], .int .i64 kd, .agg [l0, l1, l2, l3, l4, l5, l6, l7, l8, l9, l10, l11, l12, l13, l14, l15, l16, l17, l18, l19, l20, l21, l22, l23]] G (fun r G' => r = .tup [] ∧ G' = X) ∧ (∃ kw', kw' ∉ [kn] ∧ X.get kn = some (.row true 8 [[.int .i64 x0, d1, d2, d3, outV kw' 24 1, x5, x6, x7]]) ∧ X.get kw' = some (.row true 24 [[.int .i64 kd, .int .i64 x0, .int .i64 t1, .int .i64 t3, l4, l5, l6, l7, l8, l9, l10, l11, l12, l13, l14, l15, l16, l17, l18, l19, l20, l21, l22, l23]])) ∧ X.ok ∧ Kp [kn] G X := by
  obtain ⟨e1, e2, e3, e4, e5⟩ := says_end (ks := [kn]) hok hn ⟨fun j d hj hd => hd, Nat.le_refl _⟩ (by simp) (by intro j hj; rw [List.mem_singleton.1 hj]; exact ⟨_, hn⟩) hok (L := [.row true 24 [[t0, .int .i64 t1, t2, .int .i64 t3, t4, t5, t6, t7, t8, t9, t10, t11, t12, t13, t14, t15, t16, t17, t18, t19, t20, t21, t22, t23]], .row true 24 [[.int .i64 kd, .int .i64 x0, .int .i64 t1, .int .i64 t3, l4, l5, l6, l7, l8, l9, l10, l11, l12, l13, l14, l15, l16, l17, l18, l19, l20, l21, l22, l23]], .row true 24 [[.int .i64 kd, .int .i64 x0, .int .i64 t1, .int .i64 t3, l4, l5, l6, l7, l8, l9, l10, l11, l12, l13, l14, l15, l16, l17, l18, l19, l20, l21, l22, l23]], .row true 24 [[.int .i64 kd, .int .i64 x0, .int .i64 t1, .int .i64 t3, l4, l5, l6, l7, l8, l9, l10, l11, l12, l13, l14, l15, l16, l17, l18, l19, l20, l21, l22, l23]]]) (i := 3) rfl (.row true 8 [[.int .i64 x0, d1, d2, d3, .slice (G.key 3) 0 1 24 false 1, x5, x6, x7]])
  refine ⟨_, ?_, ⟨_, e5, e1, e2⟩, e3, e4⟩
  refine FnOk.of_WW Tryz.func84 rfl C84ok R84ok E0 good_E0 ?_
  have hn' := fun L => Heap.get_ext_old hok hn L
  have hs2 := fun b (l : List Blk) (α : Type) (c' : Heap → α) => Heap.setC_here hok hn b l c'
  simp only [go_sem, C84, hn', hs2]
theorem f84_E (hok : G.ok) {x0 kd : Int} {d1 d2 d3 wv x5 x6 x7 : AV} {ws : List (List AV)} (hn : G.get kn = some (.row true 8 [[.int .i64 x0, d1, d2, d3, wv, x5, x6, x7]])) (hw : isWt G wv ws) (hN : ws.length < 100000) (t1 t3 : Int) (t0 t2 t4 t5 t6 t7 t8 t9 t10 t11 t12 t13 t14 t15 t16 t17 t18 t19 t20 t21 t22 t23 l0 l1 l2 l3 l4 l5 l6 l7 l8 l9 l10 l11 l12 l13 l14 l15 l16 l17 l18 l19 l20 l21 l22 l23 : AV) :
    ∃ X, FnOk Tryz.prog 84 [.ptr kn 0, .agg [t0, .int .i64 t1, t2, .int .i64 t3, t4, t5, t6, t7, t8, t9, t10, t11, t12, t13, t14, t15, t16, t17, t18, t19, t20, t21, t22, t23], .int .i64 kd, .agg [l0, l1, l2, l3, l4, l5, l6, l7, l8, l9, l10, l11, l12, l13, l14, l15, l16, l17, l18, l19, l20, l21, l22, l23]] G (fun r G' => r = .tup [] ∧ G' = X) ∧ (∃ wv', X.get kn = some (.row true 8 [[.int .i64 x0, d1, d2, d3, wv', x5, x6, x7]]) ∧ isWt X wv' (ws ++ [[.int .i64 kd, .int .i64 x0, .int .i64 t1, .int .i64 t3, l4, l5, l6, l7, l8, l9, l10, l11, l12, l13, l14, l15, l16, l17, l18, l19, l20, l21, l22, l23]])) ∧ X.ok ∧ Kp (kn :: wk wv) G X := by
  rcases hw with ⟨rfl, rfl⟩ | ⟨kw, hne, rfl, hw⟩
  · obtain ⟨X, h0, ⟨kw', _, h1, h2⟩, h3, h4⟩ := f84_firstE hok hn (kd := kd) t1 t3 t0 t2 t4 t5 t6 t7 t8 t9 t10 t11 t12 t13 t14 t15 t16 t17 t18 t19 t20 t21 t22 t23 l0 l1 l2 l3 l4 l5 l6 l7 l8 l9 l10 l11 l12 l13 l14 l15 l16 l17 l18 l19 l20 l21 l22 l23
    exact ⟨X, h0, ⟨_, h1, .inr ⟨kw', by simp, rfl, h2⟩⟩, h3, h4⟩
  · obtain ⟨x, xs, rfl⟩ : ∃ x xs, ws = x :: xs := by
      cases ws with
      | nil => exact absurd rfl hne
      | cons x xs => exact ⟨x, xs, rfl⟩
    obtain ⟨X, h0, ⟨kw', _, h1, h2⟩, h3, h4⟩ := f84_moreE hok hn hw rfl (by simp at hN; omega) (kd := kd) t1 t3 t0 t2 t4 t5 t6 t7 t8 t9 t10 t11 t12 t13 t14 t15 t16 t17 t18 t19 t20 t21 t22 t23 l0 l1 l2 l3 l4 l5 l6 l7 l8 l9 l10 l11 l12 l13 l14 l15 l16 l17 l18 l19 l20 l21 l22 l23
    refine ⟨X, h0, ⟨_, h1, .inr ⟨kw', by simp, ?_, h2⟩⟩, h3, h4⟩
    simp only [List.length_append, List.length_cons, List.length_nil]
end
end Go.Proofs
/- NodeCuts: letters that cut, join: walked. -/


set_option linter.all false
set_option maxRecDepth 100000
namespace Go.Proofs
open Go Go.Ev
variable {H : Heap}
theorem broken_nil : FnOk Tryz.prog 93 [.nili] H fun r G => r = .bool false ∧ G = H := FnOk.of_ev1 good_XL rfl rfl (show isR (EK 93 [.nili] hp0) (.bool false) = true by kernel_rfl)
/-- a node's row -/
def nRow (kd kj kh : K) (wv x5 x6 x7 : AV) : Blk := .row true 8 [[.int .i64 0, .ptr kd 0, .ptr kj 0, .ptr kh 0, wv, x5, x6, x7]]
section
variable {G : Heap} {kn kd kj kh : K}
theorem Kp.of_ext {ks : List K} {G X : Heap} {L : List Blk} (hok : G.ok) (h : Kp ks (G.ext L) X) : Kp ks G X :=
  ⟨fun j b hj hb => h.keep j b hj (Heap.get_ext_old hok hb L), Nat.le_trans (by rw [Heap.nx_ext, Heap.toNat_key]; exact Nat.le_add_right _ _) h.le⟩
end
end Go.Proofs
/- The laid-out code of the functions that are walked. -/

set_option linter.all false
set_option maxRecDepth 100000
namespace Go.Proofs
open Go Go.Ev K
@[go_sem] theorem call3 (a H) : callC Tryz.prog 3 a H = .call 3 a := callC_ok (by kernel_rfl) a H
noncomputable def C4 := mkC Tryz.prog Tryz.f4 159
theorem C4ok : CCok Tryz.prog Tryz.f4 159 C4 := mkC_ok _
@[go_sem] theorem call4 (a H) : callC Tryz.prog 4 a H = .call 4 a := callC_ok (by kernel_rfl) a H
theorem R4ok : resKs Tryz.prog Tryz.f4.results.toList = some [RK.tmp z.i.i] := by kernel_rfl
noncomputable def C144 := mkC Tryz.prog Tryz.f144 5
theorem C144ok : CCok Tryz.prog Tryz.f144 5 C144 := mkC_ok _
@[go_sem] theorem call144 (a H) : callC Tryz.prog 144 a H = .call 144 a := callC_ok (by kernel_rfl) a H
theorem R144ok : resKs Tryz.prog Tryz.f144.results.toList = some [RK.tmp z.i] := by kernel_rfl
end Go.Proofs
/- Pieces that came, joined: walked. -/




set_option linter.all false
set_option maxRecDepth 100000
namespace Go.Proofs
open Go Go.Ev
variable {H : Heap}
/-- pieces by their numbers -/
def encM (es : List (Int × List Nat)) : List (AV × AV) := es.map fun p => (.int .i64 p.1, .str p.2)
def findM : List (Int × List Nat) → Int → Option (List Nat)
  | [], _ => none
  | p :: es, a => if a = p.1 then some p.2 else findM es a
def insM : List (Int × List Nat) → Int → List Nat → List (Int × List Nat)
  | [], a, d => [(a, d)]
  | p :: es, a, d => if a = p.1 then (a, d) :: es else p :: insM es a d
theorem mfC_enc {β : Type} (a : Int) (f : β) (c : Option AV → β) : ∀ es, mfC .int (.int .i64 a) (encM es) f c = c ((findM es a).map AV.str)
  | [] => by rw [show encM [] = [] from rfl, mfC_nil]; rfl
  | (b, d) :: es => by
    rw [show encM ((b, d) :: es) = (.int .i64 b, .str d) :: encM es from rfl, mfC_int]
    unfold findM
    by_cases h : a = b
    · rw [if_pos h, if_pos h]; rfl
    · rw [if_neg h, if_neg h]; exact mfC_enc a f c es
theorem mpC_enc {β : Type} (a : Int) (d : List Nat) (f : β) : ∀ es (c : List (AV × AV) → β), mpC .int (.int .i64 a) (.str d) f (encM es) c = c (encM (insM es a d))
  | [], c => by rw [show encM [] = [] from rfl, mpC_nil]; rfl
  | (b, e) :: es, c => by
    rw [show encM ((b, e) :: es) = (.int .i64 b, .str e) :: encM es from rfl, mpC_int]
    unfold insM
    by_cases h : a = b
    · rw [if_pos h, if_pos h]; rfl
    · rw [if_neg h, if_neg h]; exact mpC_enc a d f es _
theorem findM_ins (a b : Int) (d : List Nat) : ∀ es, findM (insM es a d) b = if b = a then some d else findM es b
  | [] => by unfold insM findM; rfl
  | (x, e) :: es => by
    have ih := findM_ins a b d es
    unfold insM
    by_cases h : a = x
    · subst h
      rw [if_pos rfl]
      simp only [findM]
      by_cases h2 : b = a <;> simp [h2]
    · rw [if_neg h]
      simp only [findM]
      rw [ih]
      by_cases h2 : b = x
      · subst h2
        rw [if_pos rfl, if_neg (fun e => h e.symm), if_pos rfl]
      · rw [if_neg h2, if_neg h2]
theorem f144_ok {v : AV} {ls : List (List Nat)} (hA : Arr H 1 v (ls.map fun s => [.str s])) (hne : ls ≠ []) (hn : ls.length < 100000) (hl : ls.flatten.length < 1000000) : FnOk Tryz.prog 144 [v] H fun r G => r = .str ls.flatten ∧ G = H := by
  refine FnOk.of_WW Tryz.func144 rfl C144ok R144ok E0 good_E0 ?_
  simp only [go_sem, C144]
  refine CL.of (f186_ok hA hne hn hl) ?_
  rintro _ G' ⟨rfl, hG⟩; rw [hG]; clear hG
  simp only [go_sem]
  rfl
/-- the letter that lets pieces be put in -/
def inL (n : Int) : List AV := [.int .i64 13, .int .i64 100, .int .i64 0, .int .i64 1, .int .i64 2, .int .i64 n, .int .i64 0, .int .i64 0, .int .i64 0, .str [], .str [], .str [], .int .i64 0, .nils, .int .i64 0, .str [], .int .i64 0, .nils, .str [], .str [], .nils, .nils, .nils, .str []]
/-- a node's row with what it was sent -/
def nRowP (kd kj kh : K) (wv : AV) (km : K) : Blk := nRow kd kj kh wv (.int .i64 1) (.int .i64 2) (.map km)
theorem f92_ok {kn kd kj kh km : K} {wv : AV} {es : List (Int × List Nat)} {ls : List (List Nat)} (hn : H.get kn = some (nRowP kd kj kh wv km)) (hm : H.get km = some (.map (encM es))) (hf : ∀ (i : Nat) (d : List Nat), ls[i]? = some d → findM es (i : Int) = some d) (hne : ls ≠ []) (hln : ls.length ≤ 1000) (hl : ls.flatten.length < 1000000) :
    FnOk Tryz.prog 92 [.ptr kn 0, .agg (inL ls.length)] H fun r G => r = .tup [.str ls.flatten, .bool true] ∧ G = H := by
  refine FnOk.assume fun hok => ?_
  refine FnOk.drop (R := fun r => r = .tup [.str ls.flatten, .bool true]) ?_ (by rintro v rfl ρ; simp only [AV.ren, AV.rens])
  refine FnOk.of_WW Tryz.func92 rfl C92ok R92ok E0 good_E0 ?_
  have hn' := fun L => Heap.get_ext_old hok hn L
  have hm' := fun L => Heap.get_ext_old hok hm L
  simp only [nRowP, nRow] at hn'
  have hpos : 0 < ls.length := List.length_pos_iff.2 hne
  have hrk : ∀ top σ, rho H top σ kn = kn := fun _ _ => rho_old (hok _ _ hn)
  have hrs : ∀ (ρ : K → K) (l : List (List Nat)), (l.map fun s => [AV.str s]).map (AV.rens ρ) = l.map fun s => [AV.str s] := fun ρ l => by
    rw [List.map_map]; exact List.map_congr_left fun s _ => by simp only [Function.comp, AV.rens, AV.ren]
  have c1 : ((ls.length : Int) < 1) = False := eq_false (by omega)
  have c2 : ((1000 : Int) < (ls.length : Int)) = False := eq_false (by omega)
  simp only [go_sem, C92, inL, hn', c1, c2]
  refine LL.st good_E0 (fun i : Nat => ls.length - i) (fun i => i ≤ ls.length)
    (fun i => [(K.z, .ptr kn 0), (K.z.i.i, outV (H.key 0) 1 i), (K.z.o.i.o.i.i, .int .i64 ls.length), (K.z.o.i.i.o.o, .int .i64 i)]) (fun i => [outB 1 ((ls.take i).map fun s => [.str s])]) ?_ 0 (σ := [0]) (Wk.of rfl (by decide) (by simp only [go_sem, hrk]; first | done | rfl | trace_state) (by simp only [go_sem, List.take_zero, List.map_nil]; first | done | trace_state)) (Nat.zero_le _)
  intro i hi
  have w1 : IntKind.i64.wrap ((i : Int) + 1) = ((i + 1 : Nat) : Int) := by rw [wrap_i64 (by omega) (by omega)]; omega
  by_cases hlt : i < ls.length
  · have hci : (i : Int) < (ls.length : Int) := by omega
    have hget : ls[i]? = some ls[i] := List.getElem?_eq_getElem hlt
    have hfi := hf i _ hget
    have htl : (ls.take i).length = i := by rw [List.length_take]; omega
    simp only [go_sem, ↓appR_hide, hci, hn', hm', mfC_enc, hfi, Option.map_some]
    refine RW_app _ [.str ls[i]] rfl (by rw [List.length_map, htl]) rfl (okBig_le (by omega) (by decide)) ?_
    have hs : (ls.take i).map (fun s => [AV.str s]) ++ [[.str ls[i]]] = (ls.take (i + 1)).map fun s => [AV.str s] := by
      rw [List.take_add_one, hget, List.map_append]; rfl
    rw [hs]
    simp only [go_sem, w1]
    exact ⟨i + 1, by show ls.length - (i + 1) < ls.length - i; omega, hlt, _, [2], rfl, Wk.of rfl (by decide) (by simp only [go_sem, outV_ren', hrk]; first | done | rfl | trace_state) (by simp only [go_sem, ↓outB_ren', hrs, implies_true])⟩
  · obtain rfl : i = ls.length := by omega
    have hci : ¬ (ls.length : Int) < (ls.length : Int) := by omega
    simp only [go_sem, hci]
    have hlm : (ls.map fun s => [AV.str s]).length = ls.length := List.length_map ..
    have hArr : Arr (H.ext [outB 1 ((ls.take ls.length).map fun s => [AV.str s])]) 1 (outV (H.key 0) 1 ls.length) (ls.map fun s => [.str s]) := by
      rw [List.take_length, outB_pos (by rw [hlm]; exact hpos)]
      obtain ⟨n, hn0⟩ : ∃ n, ls.length = n + 1 := ⟨ls.length - 1, by omega⟩
      have hk : (H.ext [Blk.row true 1 (ls.map fun s => [AV.str s])]).get (H.key 0) = some (.row true 1 (ls.map fun s => [AV.str s])) := get_lit rfl
      refine .inr ⟨H.key 0, 0, false, ls.length, ?_, (Heap.ok_ext hok _) _ _ hk, fun _ => ⟨0, true, _, rfl, hk, by rw [List.drop_zero, List.take_length]⟩⟩
      rw [hlm, hn0]; rfl
    refine CL.of (f144_ok hArr hne (by omega) hl) ?_
    rintro _ G' ⟨rfl, hG⟩; rw [hG]; clear hG
    simp only [go_sem]
    first | done | exact ⟨_, rfl⟩ | trace_state
end Go.Proofs
/- letter.Is of letters that push: walked. -/


set_option linter.all false
set_option maxRecDepth 100000
namespace Go.Proofs
open Go Go.Ev
variable {H : Heap}
/-- a letter of the mover: its kind, numbers, data -/
def mvL (k a b c : Int) (d : List Nat) : List AV := [.int .i64 k, .int .i64 100, .int .i64 0, .int .i64 a, .int .i64 b, .int .i64 c, .int .i64 0, .int .i64 0, .int .i64 0, .str [], .str [], .str [], .int .i64 0, .nils, .int .i64 0, .str [], .int .i64 0, .nils, .str [], .str [], .nils, .nils, .nils, .str d]
theorem f68_mv (k : Nat) (hk : k = 11 ∨ k = 13) (a b c : Int) (d : List Nat) : FnOk Tryz.prog 68 [.agg (mvL k a b c d)] H fun r G => r = .bool true ∧ G = H := by
  rcases hk with rfl | rfl
  · exact FnOk.of_ev1 good_XL rfl rfl (show isR (EK 68 [.agg (mvL (11 : Nat) a b c d)] hp0) (.bool true) = true by kernel_rfl)
  · exact FnOk.of_ev1 good_XL rfl rfl (show isR (EK 68 [.agg (mvL (13 : Nat) a b c d)] hp0) (.bool true) = true by kernel_rfl)
theorem f69_mover : FnOk Tryz.prog 69 [.int .i64 100] H fun r G => r = .bool true ∧ G = H := FnOk.of_ev1 good_XL rfl rfl (show isR (EK 69 [.int .i64 100] hp0) (.bool true) = true by kernel_rfl)
theorem f57_all : FnOk Tryz.prog 57 [.agg [.str [], .str []]] H fun r G => r = .bool true ∧ G = H := FnOk.of_ev1 good_XL rfl rfl (show isR (EK 57 [.agg [.str [], .str []]] hp0) (.bool true) = true by kernel_rfl)
theorem f71_none : FnOk Tryz.prog 71 [.nils] H fun r G => r = .bool true ∧ G = H := FnOk.of_ev1 good_XL rfl rfl (show isR (EK 71 [.nils] hp0) (.bool true) = true by kernel_rfl)
theorem f30_mv {k : Nat} (hk : k = 11 ∨ k = 13) {a b c : Int} (ha : okI a) (hb : okI b) (hc : okI c) {d : List Nat} (hd : d.length ≤ 255) : FnOk Tryz.prog 30 [.agg (mvL k a b c d)] H fun r G => r = .bool true ∧ G = H := by
  refine FnOk.assume fun hok => ?_
  refine FnOk.drop (R := fun r => r = .bool true) ?_ (by rintro v rfl ρ; rw [AV.ren])
  refine FnOk.of_WW Tryz.func30 rfl C30ok R30ok E0 good_E0 ?_
  have e68 := fun H => f68_mv (H := H) k hk a b c d
  have h00 : okI 0 := ⟨by decide, by decide⟩
  have e0 : (H.ext [.row true 24 [mvL k a b c d]]).get (H.key 0) = some (.row true 24 [mvL k a b c d]) := get_lit rfl
  simp only [mvL] at e0 e68
  have hl : ((255 : Int) < (d.length : Int)) = False := eq_false (by omega)
  simp only [go_sem, C30, mvL]
  refine CL.of (e68 _) ?_
  rintro _ G' ⟨rfl, hG⟩; rw [hG]; clear hG
  simp only [go_sem]
  refine CL.of f69_mover ?_
  rintro _ G' ⟨rfl, hG⟩; rw [hG]; clear hG
  simp only [go_sem]
  refine CL.of f69_ok0 ?_
  rintro _ G' ⟨rfl, hG⟩; rw [hG]; clear hG
  simp only [go_sem]
  refine ⟨by simp, CL.of (f70_none e0 ha hb hc h00 h00) ?_⟩
  rintro _ G' ⟨rfl, hG⟩; rw [hG]; clear hG
  simp only [go_sem, hl]
  refine CL.of f57_all ?_
  rintro _ G' ⟨rfl, hG⟩; rw [hG]; clear hG
  simp only [go_sem]
  refine CL.of f71_none ?_
  rintro _ G' ⟨rfl, hG⟩; rw [hG]; clear hG
  simp only [go_sem]
  refine CL.of (f72_nil _) ?_
  rintro _ G' ⟨rfl, hG⟩; rw [hG]; clear hG
  simp only [go_sem]
  refine CL.of (f75_nil _) ?_
  rintro _ G' ⟨rfl, hG⟩; rw [hG]; clear hG
  simp only [go_sem]
  first | exact ⟨_, rfl⟩ | exact ⟨rfl, _, rfl⟩ | trace_state
end Go.Proofs
/- Pieces pushed: walked. -/


set_option linter.all false
set_option maxRecDepth 100000
namespace Go.Proofs
open Go Go.Ev
section
variable {M : Heap} {kn kd kj kh km : K}
/-- what is said to a piece -/
def pushedL (j : Int) : List AV := [.int .i64 12, .int .i64 0, .int .i64 100, .int .i64 1, .int .i64 2, .int .i64 j, .int .i64 0, .int .i64 0, .int .i64 0, .str [], .str [], .str [], .int .i64 0, .nils, .int .i64 0, .str [], .int .i64 0, .nils, .str [], .str [], .nils, .nils, .nils, .str []]
theorem f35_same {wv : AV} {ws : List (List AV)} {es : List (Int × List Nat)} {j : Int} {d : List Nat} (hj : j < 1000) (hok : M.ok) (hn : M.get kn = some (nRowP kd kj kh wv km)) (hm : M.get km = some (.map (encM es))) (hw : isWt M wv ws) (hN : ws.length < 100000) :
    FnOk Tryz.prog 35 [.ptr kn 0, .agg (mvL 11 1 2 j d)] M fun r G => r = .tup [] ∧ (∃ wv', G.get kn = some (nRowP kd kj kh wv' km) ∧ isWt G wv' (ws ++ [pushedL j])) ∧ G.get km = some (.map (encM (insM es j d))) ∧ G.ok ∧ Kp (kn :: km :: wk wv) M G := by
  have hne : km ≠ kn := by rintro rfl; rw [hn] at hm; cases hm
  obtain ⟨M1, hM1⟩ : ∃ M1, M1 = M.set km (.map (encM (insM es j d))) := ⟨_, rfl⟩
  have ok1 : M1.ok := by rw [hM1]; exact Heap.ok_set hok hm
  have n1 : M1.get kn = some (nRowP kd kj kh wv km) := by rw [hM1, Heap.get_set, if_neg hne]; exact hn
  have m1 : M1.get km = some (.map (encM (insM es j d))) := by rw [hM1, Heap.get_set, if_pos rfl]
  have w1 : isWt M1 wv ws := by
    rcases hw with e | ⟨kw, a1, a2, a3⟩
    · exact .inl e
    · refine .inr ⟨kw, a1, a2, ?_⟩
      rw [hM1, Heap.get_set, if_neg ?_]
      · exact a3
      · rintro rfl; rw [a3] at hm; cases hm
  have hn' := fun L => Heap.get_ext_old hok hn L
  have hm' := fun L => Heap.get_ext_old hok hm L
  have gn1 := fun L => Heap.get_ext_old ok1 n1 L
  have hs := fun b (l : List Blk) (α : Type) (c' : Heap → α) => Heap.setC_here hok hm b l c'
  simp only [nRowP, nRow] at hn' gn1
  have hjf : ((1000 : Int) ≤ j) = False := eq_false (by omega)
  obtain ⟨L0, hL0⟩ : ∃ L0, L0 = [Blk.row true 24 [mvL 11 1 2 j d], .row true 1 [[.int .i64 2], [.int .i64 j]]] := ⟨_, rfl⟩
  have c85 := f85_two (H := M1.ext L0) 2 j (k := M1.key 1) (ex := true) (cap := 2) (by rw [hL0]; exact get_lit rfl)
  obtain ⟨X, c84, ⟨wv', x1, x2⟩, x3, x4⟩ := f84_E (Heap.ok_ext ok1 L0) (kd := 12) (Heap.get_ext_old ok1 n1 L0) (w1.ext ok1 L0) hN 100 1 (.int .i64 11) (.int .i64 0) (.int .i64 2) (.int .i64 j) (.int .i64 0) (.int .i64 0) (.int .i64 0) (.str []) (.str []) (.str []) (.int .i64 0) .nils (.int .i64 0) (.str []) (.int .i64 0) .nils (.str []) (.str []) .nils .nils .nils (.str d) (.int .i64 0) (.int .i64 0) (.int .i64 0) (.int .i64 0) (.int .i64 2) (.int .i64 j) (.int .i64 0) (.int .i64 0) (.int .i64 0) (.str []) (.str []) (.str []) (.int .i64 0) .nils (.int .i64 0) (.str []) (.int .i64 0) .nils (.str []) (.str []) .nils .nils .nils (.str [])
  obtain ⟨E, hE, e1, e2⟩ := two_calls (f := 85) (g := 84) (by decide) c85 c84
  rw [hL0] at e1 e2
  subst hM1
  simp only [mvL, numL, Heap.key_set] at e1 e2
  refine FnOk.of_WW Tryz.func35 rfl C35ok R35ok E hE ?_
  simp only [go_sem, C35, mvL, hn', hm', hjf, mpC_enc, hs, gn1, e1, e2]
  have hkw : km ∉ kn :: wk wv := fun h => by
    rcases List.mem_cons.1 h with e | h
    · exact hne e
    · rcases hw with ⟨_, rfl⟩ | ⟨kw, a1, rfl, a3⟩
      · cases h
      · cases ws with
        | nil => exact a1 rfl
        | cons w ws => rw [List.mem_singleton.1 h, a3] at hm; cases hm
  refine ⟨⟨wv', x1, x2⟩, x4.keep _ _ hkw (Heap.get_ext_old ok1 m1 L0), x3, ⟨fun i b hi hb => x4.keep i b (fun h => hi ?_) (Heap.get_ext_old ok1 ?_ L0), Nat.le_trans ?_ x4.le⟩⟩
  · rcases List.mem_cons.1 h with rfl | h
    · exact List.mem_cons_self
    · exact List.mem_cons_of_mem _ (List.mem_cons_of_mem _ h)
  · rw [Heap.get_set, if_neg (by rintro rfl; simp at hi)]; exact hb
  · rw [Heap.nx_ext, Heap.toNat_key]; exact Nat.le_add_right _ _
theorem f35_reset {wv : AV} {ws : List (List AV)} {x7 : AV} {j : Int} {d : List Nat} (hj : j < 1000) (hok : M.ok) (hn : M.get kn = some (nRow kd kj kh wv (.int .i64 0) (.int .i64 0) x7)) (hw : isWt M wv ws) (hN : ws.length < 100000) :
    FnOk Tryz.prog 35 [.ptr kn 0, .agg (mvL 11 1 2 j d)] M fun r G => r = .tup [] ∧ (∃ wv' km', G.get kn = some (nRowP kd kj kh wv' km') ∧ isWt G wv' (ws ++ [pushedL j]) ∧ G.get km' = some (.map (encM [(j, d)])) ∧ M.nx.toNat ≤ km'.toNat) ∧ G.ok ∧ Kp (kn :: wk wv) M G := by
  obtain ⟨M1, hM1⟩ : ∃ M1, M1 = M.set kn (nRowP kd kj kh wv (M.key 1)) := ⟨_, rfl⟩
  have ok1 : M1.ok := by rw [hM1]; exact Heap.ok_set hok hn
  have n1 : M1.get kn = some (nRowP kd kj kh wv (M.key 1)) := by rw [hM1, Heap.get_set, if_pos rfl]
  have hkl : ∀ k ∈ kn :: wk wv, k.toNat < M.nx.toNat := fun k hk => by
    rcases List.mem_cons.1 hk with rfl | hk
    · exact hok _ _ hn
    · rcases hw with ⟨_, rfl⟩ | ⟨kw, a1, rfl, a3⟩
      · cases hk
      · cases ws with
        | nil => cases hk
        | cons w ws => rw [List.mem_singleton.1 hk]; exact hok _ _ a3
  have w1 : isWt M1 wv ws := by
    rcases hw with e | ⟨kw, a1, a2, a3⟩
    · exact .inl e
    · refine .inr ⟨kw, a1, a2, ?_⟩
      rw [hM1, Heap.get_set, if_neg ?_]
      · exact a3
      · rintro rfl; rw [a3] at hn; unfold nRow at hn; injection Option.some.inj hn with _ e _; cases e
  obtain ⟨L0, hL0⟩ : ∃ L0, L0 = [Blk.row true 24 [mvL 11 1 2 j d], .map [(.int .i64 j, .str d)], .row true 1 [[.int .i64 2], [.int .i64 j]]] := ⟨_, rfl⟩
  have c85 := f85_two (H := M1.ext L0) 2 j (k := M1.key 2) (ex := true) (cap := 2) (by rw [hL0]; exact get_lit rfl)
  obtain ⟨X, c84, ⟨wv', x1, x2⟩, x3, x4⟩ := f84_E (Heap.ok_ext ok1 L0) (kd := 12) (Heap.get_ext_old ok1 n1 L0) (w1.ext ok1 L0) hN 100 1 (.int .i64 11) (.int .i64 0) (.int .i64 2) (.int .i64 j) (.int .i64 0) (.int .i64 0) (.int .i64 0) (.str []) (.str []) (.str []) (.int .i64 0) .nils (.int .i64 0) (.str []) (.int .i64 0) .nils (.str []) (.str []) .nils .nils .nils (.str d) (.int .i64 0) (.int .i64 0) (.int .i64 0) (.int .i64 0) (.int .i64 2) (.int .i64 j) (.int .i64 0) (.int .i64 0) (.int .i64 0) (.str []) (.str []) (.str []) (.int .i64 0) .nils (.int .i64 0) (.str []) (.int .i64 0) .nils (.str []) (.str []) .nils .nils .nils (.str [])
  have m1 : (M1.ext L0).get (M.key 1) = some (.map [(.int .i64 j, .str d)]) := by
    have e : M1.key 1 = M.key 1 := by rw [hM1]; rfl
    rw [← e, hL0]; exact get_lit rfl
  obtain ⟨E, hE, e1, e2⟩ := two_calls (f := 85) (g := 84) (by decide) c85 c84
  rw [hL0] at e1 e2
  have x5 : Kp (kn :: wk wv) M X := ⟨fun i b hi hb => x4.keep i b hi (Heap.get_ext_old ok1 (by
    rw [hM1, Heap.get_set, if_neg (by rintro rfl; simp at hi)]; exact hb) L0), Nat.le_trans (by rw [Heap.nx_ext, Heap.toNat_key, hM1, Heap.nx_set]; exact Nat.le_add_right _ _) x4.le⟩
  have xm : X.get (M.key 1) = some (.map (encM [(j, d)])) := x4.keep _ _ (fun h => by
    have := hkl _ h
    rw [Heap.toNat_key] at this
    omega) m1
  subst hM1
  simp only [mvL, numL, nRowP, nRow, Heap.key_set] at e1 e2
  have hn' := fun L => Heap.get_ext_old hok hn L
  have hjf : ((1000 : Int) ≤ j) = False := eq_false (by omega)
  have hs := fun b (l : List Blk) (α : Type) (c' : Heap → α) => Heap.setC_here hok hn b l c'
  have hs2 := fun b d (l : List Blk) (α : Type) (c' : Heap → α) => Heap.setC_set_here hok hn b d l c'
  have hg2 := fun b (l : List Blk) => Heap.get_set_here hok hn b l
  simp only [nRow] at hn'
  refine FnOk.of_WW Tryz.func35 rfl C35ok R35ok E hE ?_
  simp only [go_sem, C35, mvL, hn', hjf, hs, hs2, hg2, e1, e2]
  exact ⟨⟨wv', M.key 1, x1, x2, xm, by rw [Heap.toNat_key]; omega⟩, x3, x5⟩
end
end Go.Proofs
/- The epoch of what is gone: walked. -/


set_option linter.all false
set_option maxRecDepth 100000
namespace Go.Proofs
open Go Go.Ev
variable {H : Heap}
def goneL : List Gn → Int → Int
  | [], _ => 0
  | g :: l, id => if g.id = id then g.ep else goneL l id
theorem f91_ok {k : K} {wr : Bool} {lv gv : AV} {gs : List Gn} (hk : H.get k = some (.row wr 2 [[lv, gv]])) (hA : Arr H 2 gv (gs.map Gn.enc)) (hl : gs.length < 100000) (id : Int) : FnOk Tryz.prog 91 [.ptr k 0, .int .i64 id] H fun r G => r = .int .i64 (goneL gs id) ∧ G = H := by
  refine FnOk.assume fun hok => ?_
  refine FnOk.drop (R := fun r => r = .int .i64 (goneL gs id)) ?_ (by rintro v rfl ρ; simp only [AV.ren])
  refine FnOk.of_WW Tryz.func91 rfl C91ok R91ok E0 good_E0 ?_
  have hk' := fun L => Heap.get_ext_old hok hk L
  have hlen := fun G => hA.len G
  simp only [List.length_map] at hlen
  simp only [go_sem, C91, hk', hlen]
  refine LL.sth good_E0 (fun i : Nat => gs.length - i) (fun i M => ∃ L, M = H.ext L ∧ goneL (gs.drop i) id = goneL gs id ∧ i ≤ gs.length)
    (fun i => [(K.z.o, .int .i64 id), (K.z.o.i.i, gv), (K.z.i.o.o, .int .i64 gs.length), (K.z.i.o.i, .int .i64 i)]) ?_ 0 ⟨[], (Heap.ext_nil H).symm, rfl, Nat.zero_le _⟩ (Slots.all (by simp only [go_sem]; first | done | rfl | trace_state))
  rintro i M ⟨L, hM, hi, hle⟩
  have w1 : IntKind.i64.wrap ((i : Int) + 1) = ((i + 1 : Nat) : Int) := by rw [wrap_i64 (by omega) (by omega)]; omega
  simp only [go_sem, hlen]
  refine ⟨fun hlt => ?_, fun hge => ?_⟩
  · have hlt' : i < gs.length := by omega
    obtain ⟨kk, r, ex, cap, wr2, rows, hv, -, hgo, hrow⟩ := hA.at hok (j := i) (by rw [List.length_map]; exact hlt')
    simp only [List.length_map, List.getElem_map] at hv hrow
    have hsi : i + 1 ≤ gs.length := hlt'
    have hd : gs.drop i = gs[i] :: gs.drop (i + 1) := List.drop_eq_getElem_cons hlt'
    have hgo2 : ∀ L', (M.ext L').get kk = some (.row wr2 2 rows) := fun L' => by rw [hM, Heap.ext_append]; exact hgo _
    have hgo0 := hgo2 []
    rw [Heap.ext_nil] at hgo0
    simp only [go_sem, hv, hsi, hgo2, hgo0, hrow, Gn.enc, w1]
    refine ⟨fun he => ?_, fun he => ?_⟩
    · rw [← hi, hd, goneL, if_pos he]
      exact ⟨rfl, L ++ [_], by rw [hM, Heap.ext_append]⟩
    · rw [hd, goneL, if_neg he] at hi
      refine ⟨i + 1, by show gs.length - (i + 1) < gs.length - i; omega, ⟨L ++ [_], by rw [hM, Heap.ext_append], hi, hsi⟩, Slots.all (by simp only [go_sem, hv]; first | done | rfl | trace_state)⟩
  · have : i = gs.length := by omega
    subst this
    rw [List.drop_length] at hi
    simp only [go_sem, ← hi, goneL]
    exact ⟨L, hM⟩
end Go.Proofs
/- Pieces put in: walked. -/



set_option linter.all false
set_option maxRecDepth 100000
namespace Go.Proofs
open Go Go.Ev
section
variable {M : Heap} {kn kd kj kh km : K}
/-- its record -/
def instR (d : List Nat) : List AV := [.int .i64 5, .int .i64 1, .int .i64 2, .int .i64 0, .int .i64 0, .int .i64 0, .int .i64 0, .str [], .str [], .str [], .int .i64 0, .nils, .str [], .str d, .nils, .nils]
/-- what is said -/
def instL (h : Int) : List AV := [.int .i64 14, .int .i64 0, .int .i64 100, .int .i64 1, .int .i64 2, .int .i64 h, .int .i64 0, .int .i64 0, .int .i64 0, .str [], .str [], .str [], .int .i64 0, .nils, .int .i64 0, .str [], .int .i64 0, .nils, .str [], .str [], .nils, .nils, .nils, .str []]
/-- what is told of the calls -/
def instRel (kn kd kj kh km : K) (wv : AV) (ws : List (List AV)) (h : Int) (f : FuncId) (args : List AV) (H : Heap) (v : AV) (X : Heap) : Prop :=
  match f with
  | 15 => v = .tup [.agg zS, .bool false] ∧ X = H
  | 91 => v = .int .i64 0 ∧ X = H
  | 85 => v = .agg (numL 2 h 0) ∧ X = H
  | 84 => v = .tup [] ∧ (∃ wv', X.get kn = some (nRowP kd kj kh wv' km) ∧ isWt X wv' (ws ++ [instL h])) ∧ X.ok ∧ Kp (kn :: wk wv) H X
  | _ => False
theorem empty_hd (hok : M.ok) (hh : M.get kh = some (.row true 2 [[.nils, .nils]])) : isHd M kh .nils .nils [] [] := ⟨hok, hh, .inl ⟨rfl, rfl⟩, .inl ⟨rfl, rfl⟩, by simp, by simp, by simp⟩
theorem f36_in {Φ : Heap → Prop} {wv : AV} {ws : List (List AV)} {es : List (Int × List Nat)} {ls : List (List Nat)} (hok : M.ok) (hn : M.get kn = some (nRowP kd kj kh wv km)) (hh : M.get kh = some (.row true 2 [[.nils, .nils]])) (hw : isWt M wv ws) (hN : ws.length < 100000)
    (hm : M.get km = some (.map (encM es))) (hf : ∀ (i : Nat) (d : List Nat), ls[i]? = some d → findM es (i : Int) = some d) (hne : ls ≠ []) (hln : ls.length ≤ 1000) (hl : ls.flatten.length < 1000000)
    (hrec : ∀ L : List Blk, FnOk Tryz.prog 28 [.ptr kn 0, .agg (instR ls.flatten)] (M.ext L) fun r G' => r = .tup [.agg zA, .nili] ∧ Φ G' ∧ ∀ (i : Nat) (b : Blk), L[i]? = some b → G'.get (M.key i) = some b)
    (hΦ : ∀ G', Φ G' → G'.ok ∧ G'.get kn = some (nRowP kd kj kh wv km) ∧ isWt G' wv ws) :
    FnOk Tryz.prog 36 [.ptr kn 0, .agg (inL ls.length)] M fun r G' => r = .tup [] ∧ ∃ G1, Φ G1 ∧ (∃ wv', G'.get kn = some (nRowP kd kj kh wv' km) ∧ isWt G' wv' (ws ++ [instL 0])) ∧ G'.ok ∧ Kp (kn :: wk wv) G1 G' := by
  have hn' := fun L => Heap.get_ext_old hok hn L
  simp only [nRowP, nRow] at hn'
  have c15 := fun L => EC_eq (R := instRel kn kd kj kh km wv ws 0) (f15_no ((empty_hd hok hh).ext L) 1 rfl) ⟨rfl, rfl⟩ (fun _ _ h => h)
  have c91 := fun L => EC_eq (R := instRel kn kd kj kh km wv ws 0) (f91_ok (H := M.ext L) (gs := []) (Heap.get_ext_old hok hh L) (.inl ⟨rfl, rfl⟩) (by decide) 1) ⟨rfl, rfl⟩ (fun _ _ h => h)
  have c92 := fun L => f92_ok (H := M.ext L) (Heap.get_ext_old hok hn L) (Heap.get_ext_old hok hm L) hf hne hln hl
  simp only [zS] at c15
  simp only [inL] at c92
  refine FnOk.of_WW Tryz.func36 rfl C36ok R36ok (EC Tryz.prog (instRel kn kd kj kh km wv ws 0)) (good_EC _ _) ?_
  have g91 : goneL [] 1 = 0 := rfl
  simp only [g91] at c91
  simp only [go_sem, C36, inL, hn', c15, c91]
  refine CL.of (c92 _) ?_
  rintro _ G' ⟨rfl, hG⟩; rw [hG]; clear hG
  simp only [go_sem, hn']
  refine CL.of (hrec _) ?_
  rintro _ G1 ⟨rfl, hΦ1, hk⟩
  obtain ⟨ok1, n1, w1⟩ := hΦ G1 hΦ1
  have g0 := fun L => Heap.get_ext_old ok1 (hk 0 _ rfl) L
  have gn := fun L => Heap.get_ext_old ok1 n1 L
  simp only [nRowP, nRow] at gn
  refine WW.nil ?_
  simp only [go_sem, zA, g0, gn]
  refine CL.of broken_nil ?_
  rintro _ G' ⟨rfl, hG⟩; rw [hG]; clear hG
  have c85 := EC_eq (R := instRel kn kd kj kh km wv ws 0) (f85_two (H := G1.ext [Blk.row true 4 [[.int .i64 0, .str [], .int .i64 0, .nils]], .row true 1 [[.int .i64 2], [.int .i64 0]]]) 2 0 (k := G1.key 1) (ex := true) (cap := 2) (get_lit rfl)) ⟨rfl, rfl⟩ (fun _ _ h => h)
  have c84 : ∀ L : List Blk, ∃ v X, EC Tryz.prog (instRel kn kd kj kh km wv ws 0) 84 [.ptr kn 0, .agg (inL ls.length), .int .i64 14, .agg (numL 2 0 0)] (G1.ext L) = .ok v X ∧ instRel kn kd kj kh km wv ws 0 84 [.ptr kn 0, .agg (inL ls.length), .int .i64 14, .agg (numL 2 0 0)] (G1.ext L) v X := fun L => by
    obtain ⟨X, x1, x2⟩ := f84_E (Heap.ok_ext ok1 L) (kd := 14) (gn L) (w1.ext ok1 L) hN 100 1 (.int .i64 13) (.int .i64 0) (.int .i64 2) (.int .i64 ls.length) (.int .i64 0) (.int .i64 0) (.int .i64 0) (.str []) (.str []) (.str []) (.int .i64 0) .nils (.int .i64 0) (.str []) (.int .i64 0) .nils (.str []) (.str []) .nils .nils .nils (.str []) (.int .i64 0) (.int .i64 0) (.int .i64 0) (.int .i64 0) (.int .i64 2) (.int .i64 0) (.int .i64 0) (.int .i64 0) (.int .i64 0) (.str []) (.str []) (.str []) (.int .i64 0) .nils (.int .i64 0) (.str []) (.int .i64 0) .nils (.str []) (.str []) .nils .nils .nils (.str [])
    exact EC_ex (R := instRel kn kd kj kh km wv ws 0) x1 ⟨rfl, x2⟩
  obtain ⟨_, X, x1, rfl, x2, x3, x4⟩ := c84 [Blk.row true 4 [zA], .row true 1 [[.int .i64 2], [.int .i64 0]]]
  simp only [zA, inL, numL] at x1
  simp only [numL] at c85
  simp only [go_sem, zA, g0, gn, c85, x1]
  exact ⟨G1, hΦ1, x2, x3, x4.of_ext ok1⟩
theorem f92_not {kn kd kj kh km : K} {wv : AV} {es : List (Int × List Nat)} {n : Nat} (hn : M.get kn = some (nRowP kd kj kh wv km)) (hm : M.get km = some (.map (encM es))) (hf : ∃ i : Nat, i < n ∧ findM es (i : Int) = none) (hln : n ≤ 1000) :
    FnOk Tryz.prog 92 [.ptr kn 0, .agg (inL n)] M fun r G => r = .tup [.str [], .bool false] ∧ G = M := by
  refine FnOk.assume fun hok => ?_
  refine FnOk.drop (R := fun r => r = .tup [.str [], .bool false]) ?_ (by rintro v rfl ρ; simp only [AV.ren, AV.rens])
  refine FnOk.of_WW Tryz.func92 rfl C92ok R92ok E0 good_E0 ?_
  have hn' := fun L => Heap.get_ext_old hok hn L
  have hm' := fun L => Heap.get_ext_old hok hm L
  simp only [nRowP, nRow] at hn'
  obtain ⟨q, hq, hfq⟩ := hf
  have hrk : ∀ top σ, rho M top σ kn = kn := fun _ _ => rho_old (hok _ _ hn)
  have hrs : ∀ (ρ : K → K) (l : List (List Nat)), (l.map fun s => [AV.str s]).map (AV.rens ρ) = l.map fun s => [AV.str s] := fun ρ l => by
    rw [List.map_map]; exact List.map_congr_left fun s _ => by simp only [Function.comp, AV.rens, AV.ren]
  have c1 : ((n : Int) < 1) = False := eq_false (by omega)
  have c2 : ((1000 : Int) < (n : Int)) = False := eq_false (by omega)
  simp only [go_sem, C92, inL, hn', c1, c2]
  refine LL.st good_E0 (fun s : Nat × List (List Nat) => n - s.1) (fun s => s.1 ≤ q ∧ s.2.length = s.1)
    (fun s => [(K.z, .ptr kn 0), (K.z.i.i, outV (M.key 0) 1 s.1), (K.z.o.i.o.i.i, .int .i64 n), (K.z.o.i.i.o.o, .int .i64 s.1)]) (fun s => [outB 1 (s.2.map fun s => [.str s])]) ?_ (0, []) (σ := [0]) (Wk.of rfl (by decide) (by simp only [go_sem, hrk]; first | done | rfl | trace_state) (by simp only [go_sem, List.map_nil]; first | done | trace_state)) ⟨Nat.zero_le _, rfl⟩
  rintro ⟨i, acc⟩ ⟨hi, hacc⟩
  simp only at hi hacc
  have w1 : IntKind.i64.wrap ((i : Int) + 1) = ((i + 1 : Nat) : Int) := by rw [wrap_i64 (by omega) (by omega)]; omega
  have hci : (i : Int) < (n : Int) := by omega
  cases hfi : findM es (i : Int) with
  | none =>
    simp only [go_sem, ↓appR_hide, hci, hn', hm', mfC_enc, hfi, Option.map_none]
    first | done | exact ⟨_, rfl⟩ | trace_state
  | some d =>
    have hiq : i ≠ q := fun e => by rw [e, hfq] at hfi; cases hfi
    simp only [go_sem, ↓appR_hide, hci, hn', hm', mfC_enc, hfi, Option.map_some]
    refine RW_app _ [.str d] rfl (by rw [List.length_map, hacc]) rfl (okBig_le (by omega) (by decide)) ?_
    have hs : acc.map (fun s => [AV.str s]) ++ [[.str d]] = (acc ++ [d]).map fun s => [AV.str s] := by rw [List.map_append]; rfl
    rw [hs]
    simp only [go_sem, w1]
    exact ⟨(i + 1, acc ++ [d]), by show n - (i + 1) < n - i; omega, ⟨by show i + 1 ≤ q; omega, by show (acc ++ [d]).length = i + 1; rw [List.length_append, hacc]; rfl⟩, _, [2], rfl, Wk.of rfl (by decide) (by simp only [go_sem, outV_ren', hrk]; first | done | rfl | trace_state) (by simp only [go_sem, ↓outB_ren', hrs, implies_true])⟩
theorem f36_not {wv : AV} {ws : List (List AV)} {n : Nat} {x5 x6 x7 : AV} (hok : M.ok) (hn : M.get kn = some (nRow kd kj kh wv x5 x6 x7)) (hh : M.get kh = some (.row true 2 [[.nils, .nils]])) (hw : isWt M wv ws) (hN : ws.length < 100000)
    (h92 : ∀ L, FnOk Tryz.prog 92 [.ptr kn 0, .agg (inL n)] (M.ext L) fun r G => r = .tup [.str [], .bool false] ∧ G = M.ext L) :
    FnOk Tryz.prog 36 [.ptr kn 0, .agg (inL n)] M fun r G' => r = .tup [] ∧ (∃ wv', G'.get kn = some (nRow kd kj kh wv' x5 x6 x7) ∧ isWt G' wv' (ws ++ [instL 1])) ∧ G'.ok ∧ Kp (kn :: wk wv) M G' := by
  have hn' := fun L => Heap.get_ext_old hok hn L
  simp only [nRow] at hn'
  obtain ⟨L1, hL1⟩ : ∃ L1, L1 = [Blk.row true 24 [inL n], .row true 8 [zS]] := ⟨_, rfl⟩
  obtain ⟨L2, hL2⟩ : ∃ L2, L2 = [Blk.row true 24 [inL n], .row true 8 [zS], .row true 1 [[.int .i64 2], [.int .i64 1]]] := ⟨_, rfl⟩
  have c15 := f15_no ((empty_hd hok hh).ext L1) 1 rfl
  have c91 := f91_ok (H := M.ext L1) (gs := []) (Heap.get_ext_old hok hh L1) (.inl ⟨rfl, rfl⟩) (by decide) 1
  have c85 := f85_two (H := M.ext L2) 2 1 (k := M.key 2) (ex := true) (cap := 2) (by rw [hL2]; exact get_lit rfl)
  obtain ⟨X, c84, ⟨wv', x1, x2⟩, x3, x4⟩ := f84_E (Heap.ok_ext hok L2) (kd := 14) (Heap.get_ext_old hok hn L2) (hw.ext hok L2) hN 100 1 (.int .i64 13) (.int .i64 0) (.int .i64 2) (.int .i64 n) (.int .i64 0) (.int .i64 0) (.int .i64 0) (.str []) (.str []) (.str []) (.int .i64 0) .nils (.int .i64 0) (.str []) (.int .i64 0) .nils (.str []) (.str []) .nils .nils .nils (.str []) (.int .i64 0) (.int .i64 0) (.int .i64 0) (.int .i64 0) (.int .i64 2) (.int .i64 1) (.int .i64 0) (.int .i64 0) (.int .i64 0) (.str []) (.str []) (.str []) (.int .i64 0) .nils (.int .i64 0) (.str []) (.int .i64 0) .nils (.str []) (.str []) .nils .nils .nils (.str [])
  obtain ⟨E, hE, e1, e2, e3, e4⟩ : ∃ E : FuncId → List AV → Heap → RC, Ev.Good Tryz.prog E ∧ E 15 _ _ = _ ∧ E 91 _ _ = _ ∧ E 85 _ _ = _ ∧ E 84 _ _ = _ :=
    ⟨withE (withE (withE (withE E0 15 _ _ _ _) 91 _ _ _ _) 85 _ _ _ _) 84 _ _ _ _, good_withE (good_withE (good_withE (good_withE good_E0 c15) c91) c85) c84,
      by rw [withE_ne (by decide), withE_ne (by decide), withE_ne (by decide), withE_eq], by rw [withE_ne (by decide), withE_ne (by decide), withE_eq], by rw [withE_ne (by decide), withE_eq], withE_eq ..⟩
  have g91 : goneL [] 1 = 0 := rfl
  rw [hL1] at e1 e2
  rw [hL2] at e3 e4
  simp only [inL, zS, numL, g91] at e1 e2 e3 e4
  simp only [inL] at h92
  refine FnOk.of_WW Tryz.func36 rfl C36ok R36ok E hE ?_
  simp only [go_sem, C36, inL, hn', e1, e2]
  refine CL.of (h92 _) ?_
  rintro _ G' ⟨rfl, hG⟩; rw [hG]; clear hG
  simp only [go_sem, hn', e3, e4]
  exact ⟨⟨wv', x1, x2⟩, x3, x4.of_ext hok⟩
end
end Go.Proofs
