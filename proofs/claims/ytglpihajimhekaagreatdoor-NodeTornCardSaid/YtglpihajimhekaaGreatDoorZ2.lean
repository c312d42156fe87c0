/- part. -/
import Derived.Test.YtglpihajimhekaaGreatDoorZ1
import Derived.Orders
namespace Go.Ev
inductive AV where
 | bool (b : Bool)
 | int (k : IntKind) (n : Int)
 | str (l : List Nat)
 | nilp
 | ptr (k : K) (off : Nat)
 | nils
 | slice (k : K) (off len esz : Nat) (ex : Bool) (cap : Nat)
 | fn (f : Fn) (first caps : List AV)
 | nilf
 | iface (t : TypeId) (v : AV)
 | nili
 | agg (l : List AV)
 | tup (l : List AV)
 | nilm
 | map (k : K)
 | typ (t : TypeId)
 | any
 | geq (n : Nat)
inductive Blk where
 | dead
 | row (w : Bool) (esz : Nat) (rows : List (List AV))
 | map (es : List (AV × AV))
inductive Heap where
 | mk (nx : K) (t : Tr Blk)
namespace Heap
noncomputable def nx (H : Heap) : K := Heap.rec (motive := fun _ => K) (fun n _ => n) H
noncomputable def t (H : Heap) : Tr Blk := Heap.rec (motive := fun _ => Tr Blk) (fun _ t => t) H
noncomputable def get (H : Heap) (k : K) : Option Blk := H.t.get k
noncomputable def set (H : Heap) (k : K) (b : Blk) : Heap := .mk H.nx (H.t.set k (some b))
noncomputable def add (H : Heap) (b : Blk) : Heap := .mk H.nx.succ (H.t.set H.nx (some b))
noncomputable def setC {α : Type} (H : Heap) (k : K) (b : Blk) (c : Heap → α) : α :=
 Heap.rec (motive := fun _ => α) (fun n t => t.setC k (some b) fun t => c (.mk n t)) H
noncomputable def addC {α : Type} (H : Heap) (b : Blk) (c : K → Heap → α) : α :=
 Heap.rec (motive := fun _ => α) (fun n t => n.succC fun m => t.setC n (some b) fun t => c n (.mk m t)) H
theorem setC_eq {α : Type} (H : Heap) (k : K) (b : Blk) (c : Heap → α) : H.setC k b c = c (H.set k b) := by
 cases H with | mk n t => show t.setC k (some b) (fun t => c (.mk n t)) = _; rw [Tr.setC_eq]; rfl
theorem addC_eq {α : Type} (H : Heap) (b : Blk) (c : K → Heap → α) : H.addC b c = c H.nx (H.add b) := by
 cases H with | mk n t => show n.succC (fun m => t.setC n (some b) fun t => c n (.mk m t)) = _; rw [K.succC_eq, Tr.setC_eq]; rfl
theorem nx_set (H : Heap) (k : K) (b : Blk) : (H.set k b).nx = H.nx := rfl
theorem nx_add (H : Heap) (b : Blk) : (H.add b).nx = H.nx.succ := rfl
theorem get_set (H : Heap) (k j : K) (b : Blk) : (H.set k b).get j = if k = j then some b else H.get j := Tr.get_set _ _ _ _
theorem get_add (H : Heap) (j : K) (b : Blk) : (H.add b).get j = if H.nx = j then some b else H.get j := Tr.get_set _ _ _ _
end Heap
structure At where
 b : Nat
 o : Nat
 n : Nat
abbrev Phi := K → Option At
mutual
inductive VRel (P : Program) (φ : Phi) : AV → Value → Prop
 | bool (b : Bool) : VRel P φ (.bool b) (.bool b)
 | int (k : IntKind) (n : Int) : VRel P φ (.int k n) (.int k n)
 | str (l : List Nat) (s : ByteArray) (h : s.data.toList.map (·.toNat) = l) : VRel P φ (.str l) (.string s)
 | nilp : VRel P φ .nilp (.pointer none)
 | ptr (k : K) (off : Nat) (a : At) (h : φ k = some a) : VRel P φ (.ptr k off) (.pointer (some ⟨a.b, a.o + off, none⟩))
 | nils : VRel P φ .nils (.slice none 0 0)
 | slice (k : K) (off len esz : Nat) (ex : Bool) (cap : Nat) (a : At) (c : Nat) (h : φ k = some a) (hx : ex = true → cap = c) (hc : cap ≤ c) (hl : len ≤ cap) (hn : a.o + off + c * esz ≤ a.n) :
   VRel P φ (.slice k off len esz ex cap) (.slice (some ⟨a.b, a.o + off, none⟩) len c)
 | sliceE (k : K) (off esz : Nat) (ex : Bool) (a : At) (x : Addr) (h : φ k = some a) :
   VRel P φ (.slice k off 0 esz ex 0) (.slice (some x) 0 0)
 | fn (f : Fn) (first caps : List AV) (first' caps' : Array Value) (h1 : VRels P φ first first'.toList) (h2 : VRels P φ caps caps'.toList) :
   VRel P φ (.fn f first caps) (.func f first' caps')
 | nilf : VRel P φ .nilf .nilFunc
 | iface (t : TypeId) (v : AV) (v' : Value) (h : VRel P φ v v') : VRel P φ (.iface t v) (.iface t v')
 | nili : VRel P φ .nili .nilIface
 | agg (l : List AV) (c : Array Value) (h : VRels P φ l c.toList) (h1 : ∀ v ∈ c.toList, v.oneCell' = true) : VRel P φ (.agg l) (.agg c)
 | tup (l : List AV) (c : Array Value) (h : VRels P φ l c.toList) : VRel P φ (.tup l) (.tuple c)
 | nilm : VRel P φ .nilm (.map none)
 | map (k : K) (a : At) (h : φ k = some a) : VRel P φ (.map k) (.map (some a.b))
 | typ (t : TypeId) : VRel P φ (.typ t) (typeHandle P t)
 | any (v : Value) (h : v.oneCell' = true) : VRel P φ .any v
 | geq (n : Nat) (m : Int) (h : (n : Int) ≤ m) : VRel P φ (.geq n) (.int .i64 m)
inductive VRels (P : Program) (φ : Phi) : List AV → List Value → Prop
 | nil : VRels P φ [] []
 | cons (v : AV) (l : List AV) (v' : Value) (l' : List Value) (h : VRel P φ v v') (hs : VRels P φ l l') : VRels P φ (v :: l) (v' :: l')
end
def Phi.le (φ ψ : Phi) : Prop := ∀ k a, φ k = some a → ψ k = some a
mutual
theorem VRel.mono {P : Program} {φ ψ : Phi} (h : φ.le ψ) : ∀ {v : AV} {v' : Value}, VRel P φ v v' → VRel P ψ v v'
 | _, _, .bool b => .bool b
 | _, _, .int k n => .int k n
 | _, _, .str l s e => .str l s e
 | _, _, .nilp => .nilp
 | _, _, .ptr k off a e => .ptr k off a (h _ _ e)
 | _, _, .nils => .nils
 | _, _, .slice k off len esz ex cap a c e hx hc hl hn => .slice k off len esz ex cap a c (h _ _ e) hx hc hl hn
 | _, _, .sliceE k off esz ex a x e => .sliceE k off esz ex a x (h _ _ e)
 | _, _, .fn f a b c d h1 h2 => .fn f a b c d (VRels.mono h h1) (VRels.mono h h2)
 | _, _, .nilf => .nilf
 | _, _, .iface t v v' e => .iface t v v' (VRel.mono h e)
 | _, _, .nili => .nili
 | _, _, .agg l c e h1 => .agg l c (VRels.mono h e) h1
 | _, _, .tup l c e => .tup l c (VRels.mono h e)
 | _, _, .nilm => .nilm
 | _, _, .map k a e => .map k a (h _ _ e)
 | _, _, .typ t => .typ t
 | _, _, .any v h => .any v h
 | _, _, .geq n m h => .geq n m h
theorem VRels.mono {P : Program} {φ ψ : Phi} (h : φ.le ψ) : ∀ {l : List AV} {l' : List Value}, VRels P φ l l' → VRels P ψ l l'
 | _, _, .nil => .nil
 | _, _, .cons v l v' l' a b => .cons v l v' l' (VRel.mono h a) (VRels.mono h b)
end
namespace VRels
variable {P : Program} {φ : Phi}
theorem length : ∀ {l : List AV} {l' : List Value}, VRels P φ l l' → l.length = l'.length
 | _, _, .nil => rfl
 | _, _, .cons _ _ _ _ _ h => by simp [length h]
theorem append : ∀ {a b : List AV} {a' b' : List Value}, VRels P φ a a' → VRels P φ b b' → VRels P φ (a ++ b) (a' ++ b')
 | _, _, _, _, .nil, h => h
 | _, _, _, _, .cons v l v' l' hv hl, h => .cons v _ v' _ hv (append hl h)
theorem take : ∀ (n : Nat) {l : List AV} {l' : List Value}, VRels P φ l l' → VRels P φ (l.take n) (l'.take n)
 | 0, _, _, _ => by simpa using VRels.nil
 | n + 1, _, _, .nil => by simpa using VRels.nil
 | n + 1, _, _, .cons v l v' l' hv hl => .cons v _ v' _ hv (take n hl)
theorem drop : ∀ (n : Nat) {l : List AV} {l' : List Value}, VRels P φ l l' → VRels P φ (l.drop n) (l'.drop n)
 | 0, _, _, h => by simpa using h
 | n + 1, _, _, .nil => by simpa using VRels.nil
 | n + 1, _, _, .cons v l v' l' hv hl => by simpa using drop n hl
theorem nth : ∀ (n : Nat) {l : List AV} {l' : List Value} {v : AV}, VRels P φ l l' → l[n]? = some v → ∃ v', l'[n]? = some v' ∧ VRel P φ v v'
 | _, _, _, _, .nil, h => by simp at h
 | 0, _, _, _, .cons v l v' l' hv _, h => by simp at h; subst h; exact ⟨v', rfl, hv⟩
 | n + 1, _, _, _, .cons v l v' l' _ hl, h => by simpa using nth n hl (by simpa using h)
theorem one {v : AV} {v' : Value} (h : VRel P φ v v') : VRels P φ [v] [v'] := .cons _ _ _ _ h .nil
end VRels
noncomputable def AV.one (v : AV) : Bool :=
 AV.rec (motive_1 := fun _ => Bool) (motive_2 := fun _ => Unit) (fun _ => true) (fun _ _ => true) (fun _ => true) true (fun _ _ => true) true (fun _ _ _ _ _ _ => true) (fun _ _ _ _ _ => true) true (fun _ _ _ => true) true (fun _ _ => false) (fun _ _ => false) true (fun _ => true) (fun _ => true) true (fun _ => true) () (fun _ _ _ _ => ()) v
theorem VRel.one {P : Program} {φ : Phi} {v : AV} {v' : Value} (h : VRel P φ v v') : v'.oneCell' = v.one := by
 cases h <;> first | rfl | assumption
structure RowRel (P : Program) (φ : Phi) (w : World) (a : At) (wr : Bool) (esz : Nat) (rows : List (List AV)) : Prop where
 pos : 0 < esz
 len : ∀ r ∈ rows, r.length = esz
 there : ∃ (pre vs post : List Value) (e : TypeId) (lo hi : Nat), w.heap[a.b]? = some (.cells (pre ++ vs ++ post).toArray e (lo, hi)) ∧ pre.length = a.o ∧
  (pre ++ vs ++ post).length = a.n ∧ (wr = true → hi ≤ lo ∨ (a.n ≤ lo ∧ esz = 1)) ∧ VRels P φ rows.flatten vs ∧ (∀ v ∈ vs, v.oneCell' = true) ∧ (wr = true → ∀ v ∈ post, v.oneCell' = true)
inductive ERel (P : Program) (φ : Phi) : List (AV × AV) → List MapEntry → Prop
 | nil : ERel P φ [] []
 | cons (k v : AV) (l : List (AV × AV)) (e : MapEntry) (l' : List MapEntry) (hk : VRel P φ k e.key) (hv : VRel P φ v e.val) (h : ERel P φ l l') : ERel P φ ((k, v) :: l) (e :: l')
theorem ERel.mono {P : Program} {φ ψ : Phi} (h : φ.le ψ) : ∀ {l : List (AV × AV)} {l' : List MapEntry}, ERel P φ l l' → ERel P ψ l l'
 | _, _, .nil => .nil
 | _, _, .cons k v l e l' hk hv hl => .cons k v l e l' (hk.mono h) (hv.mono h) (ERel.mono h hl)
def Blk.live : Blk → Prop
 | .dead => False
 | _ => True
def Blk.mayWrite : Blk → Prop
 | .dead => False
 | .row w _ _ => w = true
 | .map _ => True
def BlkRel (P : Program) (φ : Phi) (w : World) (a : At) : Blk → Prop
 | .dead => True
 | .row wr esz rows => RowRel P φ w a wr esz rows
 | .map es => ∃ c clock, w.heap[a.b]? = some (.map c clock) ∧ ERel P φ es c.toList
def Owned (φ : Phi) (H : Heap) (b : Nat) : Prop := ∃ k c a, H.get k = some c ∧ c.mayWrite ∧ φ k = some a ∧ a.b = b
structure WRel0 (P : Program) (φ : Phi) (H : Heap) (w : World) : Prop where
 dom : ∀ k a, φ k = some a → k.toNat < H.nx.toNat
 top : ∀ k b, H.get k = some b → k.toNat < H.nx.toNat
 blk : ∀ k b a, H.get k = some b → φ k = some a → BlkRel P φ w a b
 inj : ∀ j k c d x y, j ≠ k → H.get j = some c → H.get k = some d → φ j = some x → φ k = some y → c.live → d.live → x.b = y.b → ¬ c.mayWrite
 size : ∀ k a, φ k = some a → a.b < w.heap.size
def RomAt (φ : Phi) (H : Heap) (w : World) : Prop := ∀ g v, (g, v) ∈ romOf → w.cell? ⟨g, 0, none⟩ = some v ∧ ¬ Owned φ H g
structure WRel (P : Program) (φ : Phi) (H : Heap) (w : World) : Prop extends WRel0 P φ H w where
 rom : RomAt φ H w
structure Ext (φ : Phi) (H : Heap) (w : World) (ψ : Phi) (G : Heap) (u : World) : Prop where
 phi : ∀ k, k.toNat < H.nx.toNat → ψ k = φ k
 nx : H.nx.toNat ≤ G.nx.toNat
 size : w.heap.size ≤ u.heap.size
 keeps : ∀ b, b < w.heap.size → ¬ Owned φ H b → u.heap[b]? = w.heap[b]?
 hidden : ∀ k, k.toNat < H.nx.toNat → φ k = none → G.get k = H.get k
 own : ∀ b, b < w.heap.size → Owned ψ G b → Owned φ H b
 os : u.os = w.os
 tape : u.tape = w.tape
 output : u.output = w.output
theorem Ext.refl (φ : Phi) (H : Heap) (w : World) : Ext φ H w φ H w :=
 ⟨fun _ _ => rfl, Nat.le_refl _, Nat.le_refl _, fun _ _ _ => rfl, fun _ _ _ => rfl, fun _ _ h => h, rfl, rfl, rfl⟩
theorem Ext.trans {φ ψ χ : Phi} {H G J : Heap} {w u v : World} (a : Ext φ H w ψ G u) (b : Ext ψ G u χ J v) : Ext φ H w χ J v where
 phi k h := by rw [b.phi k (Nat.lt_of_lt_of_le h a.nx), a.phi k h]
 nx := Nat.le_trans a.nx b.nx
 size := Nat.le_trans a.size b.size
 keeps x hx ho := by rw [b.keeps x (Nat.lt_of_lt_of_le hx a.size) (fun h => ho (a.own x hx h)), a.keeps x hx ho]
 hidden k hk hn := by rw [b.hidden k (Nat.lt_of_lt_of_le hk a.nx) (by rw [a.phi k hk, hn]), a.hidden k hk hn]
 own x hx h := a.own x hx (b.own x (Nat.lt_of_lt_of_le hx a.size) h)
 os := b.os.trans a.os
 tape := b.tape.trans a.tape
 output := b.output.trans a.output
theorem cell_in {w : World} {g : Nat} {v : Value} (h : w.cell? ⟨g, 0, none⟩ = some v) : g < w.heap.size := by
 unfold World.cell? at h
 rcases hh : w.heap[g]? with _ | z
 ·simp only [hh] at h; cases h
 ·exact (Array.getElem?_eq_some_iff.1 hh).1
theorem Ext.rom {φ ψ : Phi} {H G : Heap} {w u : World} (he : Ext φ H w ψ G u) (h : RomAt φ H w) : RomAt ψ G u := by
 intro g v hm
 obtain ⟨h1, h2⟩ := h g v hm
 have hlt := cell_in h1
 refine ⟨?_, fun ho => h2 (he.own g hlt ho)⟩
 unfold World.cell? at h1 ⊢
 rw [he.keeps g hlt h2]
 exact h1
theorem WRel.pack {P : Program} {φ ψ : Phi} {H G : Heap} {w u : World} (hw : WRel P φ H w) (h0 : WRel0 P ψ G u) (he : Ext φ H w ψ G u) : WRel P ψ G u ∧ Ext φ H w ψ G u := ⟨⟨h0, he.rom hw.rom⟩, he⟩
theorem Ext.le {P : Program} {φ ψ : Phi} {H G : Heap} {w u : World} (a : Ext φ H w ψ G u) (h : WRel P φ H w) : φ.le ψ :=
 fun k x hk => by rw [a.phi k (h.dom k x hk)]; exact hk
theorem WRel.drew {P : Program} {φ : Phi} {H : Heap} {w : World} (h : WRel P φ H w) (n : Nat) : WRel P φ H { w with drawn := n } :=
 ⟨⟨h.dom, h.top, fun k b a hk hp => by
  have := h.blk k b a hk hp
  cases b with
  | dead => trivial
  | row wr esz rows => exact ⟨this.pos, this.len, this.there⟩
  | map es => exact this, h.inj, h.size⟩, h.rom⟩
theorem Ext.drew0 {φ ψ : Phi} {H G : Heap} {w u : World} (n : Nat) (a : Ext φ H { w with drawn := n } ψ G u) : Ext φ H w ψ G u :=
 ⟨a.phi, a.nx, a.size, a.keeps, a.hidden, a.own, a.os, a.tape, a.output⟩
end Go.Ev
