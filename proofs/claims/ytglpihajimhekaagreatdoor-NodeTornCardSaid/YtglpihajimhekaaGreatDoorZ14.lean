/- part. -/
import Derived.Test.YtglpihajimhekaaGreatDoorZ13
import Derived.ProofKit
set_option linter.all false
namespace Go.Ev
open Go.ChangeShapes Go.WideShapes Go.RowKit
variable {P : Program} {H : Heap}
theorem kept_of_heap {W W' : World} (h1 : W'.os = W.os) (h2 : W'.output = W.output) (h : ∀ b, b < W.heap.size → W'.heap[b]? = W.heap[b]?) (may : MemPlace → Prop) : W.keptBut W' may := by
 refine ⟨h1, h2, fun i hi => ?_⟩
 rw [h i hi]
 split
 ·rename_i e1 e2
  rw [e1] at e2; cases e2
  exact ⟨rfl, rfl, rfl, fun _ _ => rfl⟩
 ·rename_i e1 e2
  rw [e1] at e2; cases e2
  exact .inr ⟨rfl, rfl⟩
 ·rfl
theorem trodAll_below {HH : Type} {enc : TypeId × Value → HH} (hl : laidOutB P = true) {W W' : World} (hb : Below W.heap.size W W') : ∀ {ts : List TypeId} {vs : List Value} {ds : List (DataW HH)} {ps : List MemPlace},
  (∀ t ∈ ts, P.readableRec t = true ∧ t < P.types.size) → DataW.TrodAll enc P W 0 (fun _ => true) true ts vs ds ps → (∀ x ∈ ps, x.block < W.heap.size) →
  DataW.TrodAll enc P W' 0 (fun b => decide (b < W.heap.size)) true ts vs ds ps
 | [], [], [], ps, _, h, _ => h
 | t :: ts, v :: vs, d :: ds, ps, hr, ⟨p, q, h1, h2, e⟩, hlt => by
  subst e
  exact ⟨p, q, Below.trod hl (hr t (by simp)).1 (hr t (by simp)).2 h1 hb (fun x hx => hlt x (by simp [hx])), trodAll_below hl hb (fun t ht => hr t (by simp [ht])) h2 (fun x hx => hlt x (by simp [hx])), rfl⟩
 | [], _ :: _, _, _, _, h, _ => absurd h (by simp [DataW.TrodAll])
 | [], [], _ :: _, _, _, h, _ => absurd h (by simp [DataW.TrodAll])
 | _ :: _, [], _, _, _, h, _ => absurd h (by simp [DataW.TrodAll])
 | _ :: _, _ :: _, [], _, _, h, _ => absurd h (by simp [DataW.TrodAll])
theorem law_calls {HH : Type} {enc : TypeId × Value → HH} {f : FuncId} {fn : Func} {s : ChangeSpec} {apart : Bool} {W : World} {args : Array Value} {ds gs : List (DataW HH)} {before : List MemPlace} {tb : TypeId}
  (hl : laidOutB P = true) (hr : ∀ t ∈ fn.params.toList, P.readableRec t = true ∧ t < P.types.size) (hres : fn.resultTypes = #[tb]) (htb : P.underlying tb = some .bool)
  (hv0 : s.vars = []) (h1 : (s.fn HH ds).results = [.lit (.bool true)]) (h2 : (s.fn HH ds).args = ds) (h3 : (s.fn HH ds).vars = [])
  (hW : DataW.Whole enc P fn.params.toList s.vars apart W args.toList ds gs before)
  {φ : Phi} {avs : List AV} (hw : WRel P φ H W) (ha : VRels P φ avs args.toList) (hown : ∀ k b, H.get k = some b → ¬ b.mayWrite)
  (hok : FnOk P f avs H fun v G => v = .bool true ∧ G = H) :
  Calls P f args W fun e W' => ∃ v, e = .returned v ∧ s.post enc P fn apart true false false W args v W' := by
 refine (hok φ W args ha hw).mono ?_
 rintro e W' ⟨v, G, ⟨rfl, rfl⟩, ψ, v', he, hv, hw', hext⟩
 cases hv
 refine ⟨_, he, ?_⟩
 have hheap : ∀ b, b < W.heap.size → W'.heap[b]? = W.heap[b]? := fun b hb => hext.keeps b hb (by
  rintro ⟨k, c, a, hc, hm, _⟩
  exact hown k c hc hm)
 have hbelow : Below W.heap.size W W' := ⟨hext.os, hext.tape, hext.output, hext.size, hheap⟩
 have hW0 := hW
 obtain ⟨p, q, hA, hV, rfl, hz, hn⟩ := hW
 rw [hv0] at hV
 obtain ⟨rfl, rfl⟩ := trodVars_none hV
 have hlt : ∀ x ∈ p, x.block < W.heap.size := fun x hx => hW0.lt x (by simp [hx])
 refine ⟨ds, [], p ++ [], [], p, [], hW0, ?_, ?_, ?_, kept_of_heap hext.os hext.output hheap _, fun h => by cases h⟩
 ·rw [List.append_nil, h1, hres]
  exact trodAll_mk1 (shut_bool htb true)
 ·rw [List.append_nil, h2]
  exact trodAll_below hl hbelow hr hA hlt
 ·rw [List.append_nil, h3, hv0]
  rfl
end Go.Ev
