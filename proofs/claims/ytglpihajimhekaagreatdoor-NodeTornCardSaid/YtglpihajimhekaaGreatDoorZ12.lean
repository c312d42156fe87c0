/- part. -/
import Derived.Test.YtglpihajimhekaaGreatDoorZ11
import Derived.Attr
namespace Go.Ev
section
variable {β : Type}
@[congr] theorem asBoolC_congr {v u : AV} {f : β} {c : Bool → β} (h : v = u) : asBoolC v f c = asBoolC u f c := by rw [h]
@[go_sem] theorem asBoolC_bool (b : Bool) (f : β) (c : Bool → β) : asBoolC (.bool b) f c = c b := nrf rfl
@[go_sem] theorem asBoolC_int (k : IntKind) (n : Int) (f : β) (c : Bool → β) : asBoolC (.int k n) f c = f := nrf rfl
@[go_sem] theorem asBoolC_str (l : List Nat) (f : β) (c : Bool → β) : asBoolC (.str l) f c = f := nrf rfl
@[go_sem] theorem asBoolC_nilp  (f : β) (c : Bool → β) : asBoolC (.nilp) f c = f := nrf rfl
@[go_sem] theorem asBoolC_ptr (k : K) (o : Nat) (f : β) (c : Bool → β) : asBoolC (.ptr k o) f c = f := nrf rfl
@[go_sem] theorem asBoolC_nils  (f : β) (c : Bool → β) : asBoolC (.nils) f c = f := nrf rfl
@[go_sem] theorem asBoolC_slice (k : K) (o n e : Nat) (x : Bool) (m : Nat) (f : β) (c : Bool → β) : asBoolC (.slice k o n e x m) f c = f := nrf rfl
@[go_sem] theorem asBoolC_fn (g : Fn) (a b : List AV) (f : β) (c : Bool → β) : asBoolC (.fn g a b) f c = f := nrf rfl
@[go_sem] theorem asBoolC_nilf  (f : β) (c : Bool → β) : asBoolC (.nilf) f c = f := nrf rfl
@[go_sem] theorem asBoolC_iface (t : TypeId) (v : AV) (f : β) (c : Bool → β) : asBoolC (.iface t v) f c = f := nrf rfl
@[go_sem] theorem asBoolC_nili  (f : β) (c : Bool → β) : asBoolC (.nili) f c = f := nrf rfl
@[go_sem] theorem asBoolC_agg (l : List AV) (f : β) (c : Bool → β) : asBoolC (.agg l) f c = f := nrf rfl
@[go_sem] theorem asBoolC_tup (l : List AV) (f : β) (c : Bool → β) : asBoolC (.tup l) f c = f := nrf rfl
@[go_sem] theorem asBoolC_nilm  (f : β) (c : Bool → β) : asBoolC (.nilm) f c = f := nrf rfl
@[go_sem] theorem asBoolC_map (k : K) (f : β) (c : Bool → β) : asBoolC (.map k) f c = f := nrf rfl
@[go_sem] theorem asBoolC_typ (t : TypeId) (f : β) (c : Bool → β) : asBoolC (.typ t) f c = f := nrf rfl
@[go_sem] theorem asBoolC_any  (f : β) (c : Bool → β) : asBoolC (.any) f c = f := nrf rfl
@[go_sem] theorem asBoolC_geq (n : Nat) (f : β) (c : Bool → β) : asBoolC (.geq n) f c = f := nrf rfl
@[congr] theorem asIntC_congr {v u : AV} {f : β} {c : IntKind → Int → β} (h : v = u) : asIntC v f c = asIntC u f c := by rw [h]
@[go_sem] theorem asIntC_bool (b : Bool) (f : β) (c : IntKind → Int → β) : asIntC (.bool b) f c = f := nrf rfl
@[go_sem] theorem asIntC_int (k : IntKind) (n : Int) (f : β) (c : IntKind → Int → β) : asIntC (.int k n) f c = c k n := nrf rfl
@[go_sem] theorem asIntC_str (l : List Nat) (f : β) (c : IntKind → Int → β) : asIntC (.str l) f c = f := nrf rfl
@[go_sem] theorem asIntC_nilp  (f : β) (c : IntKind → Int → β) : asIntC (.nilp) f c = f := nrf rfl
@[go_sem] theorem asIntC_ptr (k : K) (o : Nat) (f : β) (c : IntKind → Int → β) : asIntC (.ptr k o) f c = f := nrf rfl
@[go_sem] theorem asIntC_nils  (f : β) (c : IntKind → Int → β) : asIntC (.nils) f c = f := nrf rfl
@[go_sem] theorem asIntC_slice (k : K) (o n e : Nat) (x : Bool) (m : Nat) (f : β) (c : IntKind → Int → β) : asIntC (.slice k o n e x m) f c = f := nrf rfl
@[go_sem] theorem asIntC_fn (g : Fn) (a b : List AV) (f : β) (c : IntKind → Int → β) : asIntC (.fn g a b) f c = f := nrf rfl
@[go_sem] theorem asIntC_nilf  (f : β) (c : IntKind → Int → β) : asIntC (.nilf) f c = f := nrf rfl
@[go_sem] theorem asIntC_iface (t : TypeId) (v : AV) (f : β) (c : IntKind → Int → β) : asIntC (.iface t v) f c = f := nrf rfl
@[go_sem] theorem asIntC_nili  (f : β) (c : IntKind → Int → β) : asIntC (.nili) f c = f := nrf rfl
@[go_sem] theorem asIntC_agg (l : List AV) (f : β) (c : IntKind → Int → β) : asIntC (.agg l) f c = f := nrf rfl
@[go_sem] theorem asIntC_tup (l : List AV) (f : β) (c : IntKind → Int → β) : asIntC (.tup l) f c = f := nrf rfl
@[go_sem] theorem asIntC_nilm  (f : β) (c : IntKind → Int → β) : asIntC (.nilm) f c = f := nrf rfl
@[go_sem] theorem asIntC_map (k : K) (f : β) (c : IntKind → Int → β) : asIntC (.map k) f c = f := nrf rfl
@[go_sem] theorem asIntC_typ (t : TypeId) (f : β) (c : IntKind → Int → β) : asIntC (.typ t) f c = f := nrf rfl
@[go_sem] theorem asIntC_any  (f : β) (c : IntKind → Int → β) : asIntC (.any) f c = f := nrf rfl
@[go_sem] theorem asIntC_geq (n : Nat) (f : β) (c : IntKind → Int → β) : asIntC (.geq n) f c = f := nrf rfl
@[congr] theorem asStrC_congr {v u : AV} {f : β} {c : List Nat → β} (h : v = u) : asStrC v f c = asStrC u f c := by rw [h]
@[go_sem] theorem asStrC_bool (b : Bool) (f : β) (c : List Nat → β) : asStrC (.bool b) f c = f := nrf rfl
@[go_sem] theorem asStrC_int (k : IntKind) (n : Int) (f : β) (c : List Nat → β) : asStrC (.int k n) f c = f := nrf rfl
@[go_sem] theorem asStrC_str (l : List Nat) (f : β) (c : List Nat → β) : asStrC (.str l) f c = c l := nrf rfl
@[go_sem] theorem asStrC_nilp  (f : β) (c : List Nat → β) : asStrC (.nilp) f c = f := nrf rfl
@[go_sem] theorem asStrC_ptr (k : K) (o : Nat) (f : β) (c : List Nat → β) : asStrC (.ptr k o) f c = f := nrf rfl
@[go_sem] theorem asStrC_nils  (f : β) (c : List Nat → β) : asStrC (.nils) f c = f := nrf rfl
@[go_sem] theorem asStrC_slice (k : K) (o n e : Nat) (x : Bool) (m : Nat) (f : β) (c : List Nat → β) : asStrC (.slice k o n e x m) f c = f := nrf rfl
@[go_sem] theorem asStrC_fn (g : Fn) (a b : List AV) (f : β) (c : List Nat → β) : asStrC (.fn g a b) f c = f := nrf rfl
@[go_sem] theorem asStrC_nilf  (f : β) (c : List Nat → β) : asStrC (.nilf) f c = f := nrf rfl
@[go_sem] theorem asStrC_iface (t : TypeId) (v : AV) (f : β) (c : List Nat → β) : asStrC (.iface t v) f c = f := nrf rfl
@[go_sem] theorem asStrC_nili  (f : β) (c : List Nat → β) : asStrC (.nili) f c = f := nrf rfl
@[go_sem] theorem asStrC_agg (l : List AV) (f : β) (c : List Nat → β) : asStrC (.agg l) f c = f := nrf rfl
@[go_sem] theorem asStrC_tup (l : List AV) (f : β) (c : List Nat → β) : asStrC (.tup l) f c = f := nrf rfl
@[go_sem] theorem asStrC_nilm  (f : β) (c : List Nat → β) : asStrC (.nilm) f c = f := nrf rfl
@[go_sem] theorem asStrC_map (k : K) (f : β) (c : List Nat → β) : asStrC (.map k) f c = f := nrf rfl
@[go_sem] theorem asStrC_typ (t : TypeId) (f : β) (c : List Nat → β) : asStrC (.typ t) f c = f := nrf rfl
@[go_sem] theorem asStrC_any  (f : β) (c : List Nat → β) : asStrC (.any) f c = f := nrf rfl
@[go_sem] theorem asStrC_geq (n : Nat) (f : β) (c : List Nat → β) : asStrC (.geq n) f c = f := nrf rfl
@[congr] theorem asPtrC_congr {v u : AV} {f : β} {c : K → Nat → β} (h : v = u) : asPtrC v f c = asPtrC u f c := by rw [h]
@[go_sem] theorem asPtrC_bool (b : Bool) (f : β) (c : K → Nat → β) : asPtrC (.bool b) f c = f := nrf rfl
@[go_sem] theorem asPtrC_int (k : IntKind) (n : Int) (f : β) (c : K → Nat → β) : asPtrC (.int k n) f c = f := nrf rfl
@[go_sem] theorem asPtrC_str (l : List Nat) (f : β) (c : K → Nat → β) : asPtrC (.str l) f c = f := nrf rfl
@[go_sem] theorem asPtrC_nilp  (f : β) (c : K → Nat → β) : asPtrC (.nilp) f c = f := nrf rfl
@[go_sem] theorem asPtrC_ptr (k : K) (o : Nat) (f : β) (c : K → Nat → β) : asPtrC (.ptr k o) f c = c k o := nrf rfl
@[go_sem] theorem asPtrC_nils  (f : β) (c : K → Nat → β) : asPtrC (.nils) f c = f := nrf rfl
@[go_sem] theorem asPtrC_slice (k : K) (o n e : Nat) (x : Bool) (m : Nat) (f : β) (c : K → Nat → β) : asPtrC (.slice k o n e x m) f c = f := nrf rfl
@[go_sem] theorem asPtrC_fn (g : Fn) (a b : List AV) (f : β) (c : K → Nat → β) : asPtrC (.fn g a b) f c = f := nrf rfl
@[go_sem] theorem asPtrC_nilf  (f : β) (c : K → Nat → β) : asPtrC (.nilf) f c = f := nrf rfl
@[go_sem] theorem asPtrC_iface (t : TypeId) (v : AV) (f : β) (c : K → Nat → β) : asPtrC (.iface t v) f c = f := nrf rfl
@[go_sem] theorem asPtrC_nili  (f : β) (c : K → Nat → β) : asPtrC (.nili) f c = f := nrf rfl
@[go_sem] theorem asPtrC_agg (l : List AV) (f : β) (c : K → Nat → β) : asPtrC (.agg l) f c = f := nrf rfl
@[go_sem] theorem asPtrC_tup (l : List AV) (f : β) (c : K → Nat → β) : asPtrC (.tup l) f c = f := nrf rfl
@[go_sem] theorem asPtrC_nilm  (f : β) (c : K → Nat → β) : asPtrC (.nilm) f c = f := nrf rfl
@[go_sem] theorem asPtrC_map (k : K) (f : β) (c : K → Nat → β) : asPtrC (.map k) f c = f := nrf rfl
@[go_sem] theorem asPtrC_typ (t : TypeId) (f : β) (c : K → Nat → β) : asPtrC (.typ t) f c = f := nrf rfl
@[go_sem] theorem asPtrC_any  (f : β) (c : K → Nat → β) : asPtrC (.any) f c = f := nrf rfl
@[go_sem] theorem asPtrC_geq (n : Nat) (f : β) (c : K → Nat → β) : asPtrC (.geq n) f c = f := nrf rfl
@[congr] theorem asSliceC_congr {v u : AV} {f : β} {d : β} {c : K → Nat → Nat → Nat → Bool → Nat → β} (h : v = u) : asSliceC v f d c = asSliceC u f d c := by rw [h]
@[go_sem] theorem asSliceC_bool (b : Bool) (f : β) (d : β) (c : K → Nat → Nat → Nat → Bool → Nat → β) : asSliceC (.bool b) f d c = f := nrf rfl
@[go_sem] theorem asSliceC_int (k : IntKind) (n : Int) (f : β) (d : β) (c : K → Nat → Nat → Nat → Bool → Nat → β) : asSliceC (.int k n) f d c = f := nrf rfl
@[go_sem] theorem asSliceC_str (l : List Nat) (f : β) (d : β) (c : K → Nat → Nat → Nat → Bool → Nat → β) : asSliceC (.str l) f d c = f := nrf rfl
@[go_sem] theorem asSliceC_nilp  (f : β) (d : β) (c : K → Nat → Nat → Nat → Bool → Nat → β) : asSliceC (.nilp) f d c = f := nrf rfl
@[go_sem] theorem asSliceC_ptr (k : K) (o : Nat) (f : β) (d : β) (c : K → Nat → Nat → Nat → Bool → Nat → β) : asSliceC (.ptr k o) f d c = f := nrf rfl
@[go_sem] theorem asSliceC_nils  (f : β) (d : β) (c : K → Nat → Nat → Nat → Bool → Nat → β) : asSliceC (.nils) f d c = d := nrf rfl
@[go_sem] theorem asSliceC_slice (k : K) (o n e : Nat) (x : Bool) (m : Nat) (f : β) (d : β) (c : K → Nat → Nat → Nat → Bool → Nat → β) : asSliceC (.slice k o n e x m) f d c = c k o n e x m := nrf rfl
@[go_sem] theorem asSliceC_fn (g : Fn) (a b : List AV) (f : β) (d : β) (c : K → Nat → Nat → Nat → Bool → Nat → β) : asSliceC (.fn g a b) f d c = f := nrf rfl
@[go_sem] theorem asSliceC_nilf  (f : β) (d : β) (c : K → Nat → Nat → Nat → Bool → Nat → β) : asSliceC (.nilf) f d c = f := nrf rfl
@[go_sem] theorem asSliceC_iface (t : TypeId) (v : AV) (f : β) (d : β) (c : K → Nat → Nat → Nat → Bool → Nat → β) : asSliceC (.iface t v) f d c = f := nrf rfl
@[go_sem] theorem asSliceC_nili  (f : β) (d : β) (c : K → Nat → Nat → Nat → Bool → Nat → β) : asSliceC (.nili) f d c = f := nrf rfl
@[go_sem] theorem asSliceC_agg (l : List AV) (f : β) (d : β) (c : K → Nat → Nat → Nat → Bool → Nat → β) : asSliceC (.agg l) f d c = f := nrf rfl
@[go_sem] theorem asSliceC_tup (l : List AV) (f : β) (d : β) (c : K → Nat → Nat → Nat → Bool → Nat → β) : asSliceC (.tup l) f d c = f := nrf rfl
@[go_sem] theorem asSliceC_nilm  (f : β) (d : β) (c : K → Nat → Nat → Nat → Bool → Nat → β) : asSliceC (.nilm) f d c = f := nrf rfl
@[go_sem] theorem asSliceC_map (k : K) (f : β) (d : β) (c : K → Nat → Nat → Nat → Bool → Nat → β) : asSliceC (.map k) f d c = f := nrf rfl
@[go_sem] theorem asSliceC_typ (t : TypeId) (f : β) (d : β) (c : K → Nat → Nat → Nat → Bool → Nat → β) : asSliceC (.typ t) f d c = f := nrf rfl
@[go_sem] theorem asSliceC_any  (f : β) (d : β) (c : K → Nat → Nat → Nat → Bool → Nat → β) : asSliceC (.any) f d c = f := nrf rfl
@[go_sem] theorem asSliceC_geq (n : Nat) (f : β) (d : β) (c : K → Nat → Nat → Nat → Bool → Nat → β) : asSliceC (.geq n) f d c = f := nrf rfl
@[congr] theorem asAggC_congr {v u : AV} {f : β} {c : List AV → β} (h : v = u) : asAggC v f c = asAggC u f c := by rw [h]
@[go_sem] theorem asAggC_bool (b : Bool) (f : β) (c : List AV → β) : asAggC (.bool b) f c = f := nrf rfl
@[go_sem] theorem asAggC_int (k : IntKind) (n : Int) (f : β) (c : List AV → β) : asAggC (.int k n) f c = f := nrf rfl
@[go_sem] theorem asAggC_str (l : List Nat) (f : β) (c : List AV → β) : asAggC (.str l) f c = f := nrf rfl
@[go_sem] theorem asAggC_nilp  (f : β) (c : List AV → β) : asAggC (.nilp) f c = f := nrf rfl
@[go_sem] theorem asAggC_ptr (k : K) (o : Nat) (f : β) (c : List AV → β) : asAggC (.ptr k o) f c = f := nrf rfl
@[go_sem] theorem asAggC_nils  (f : β) (c : List AV → β) : asAggC (.nils) f c = f := nrf rfl
@[go_sem] theorem asAggC_slice (k : K) (o n e : Nat) (x : Bool) (m : Nat) (f : β) (c : List AV → β) : asAggC (.slice k o n e x m) f c = f := nrf rfl
@[go_sem] theorem asAggC_fn (g : Fn) (a b : List AV) (f : β) (c : List AV → β) : asAggC (.fn g a b) f c = f := nrf rfl
@[go_sem] theorem asAggC_nilf  (f : β) (c : List AV → β) : asAggC (.nilf) f c = f := nrf rfl
@[go_sem] theorem asAggC_iface (t : TypeId) (v : AV) (f : β) (c : List AV → β) : asAggC (.iface t v) f c = f := nrf rfl
@[go_sem] theorem asAggC_nili  (f : β) (c : List AV → β) : asAggC (.nili) f c = f := nrf rfl
@[go_sem] theorem asAggC_agg (l : List AV) (f : β) (c : List AV → β) : asAggC (.agg l) f c = c l := nrf rfl
@[go_sem] theorem asAggC_tup (l : List AV) (f : β) (c : List AV → β) : asAggC (.tup l) f c = f := nrf rfl
@[go_sem] theorem asAggC_nilm  (f : β) (c : List AV → β) : asAggC (.nilm) f c = f := nrf rfl
@[go_sem] theorem asAggC_map (k : K) (f : β) (c : List AV → β) : asAggC (.map k) f c = f := nrf rfl
@[go_sem] theorem asAggC_typ (t : TypeId) (f : β) (c : List AV → β) : asAggC (.typ t) f c = f := nrf rfl
@[go_sem] theorem asAggC_any  (f : β) (c : List AV → β) : asAggC (.any) f c = f := nrf rfl
@[go_sem] theorem asAggC_geq (n : Nat) (f : β) (c : List AV → β) : asAggC (.geq n) f c = f := nrf rfl
@[congr] theorem asTupC_congr {v u : AV} {f : β} {c : List AV → β} (h : v = u) : asTupC v f c = asTupC u f c := by rw [h]
@[go_sem] theorem asTupC_bool (b : Bool) (f : β) (c : List AV → β) : asTupC (.bool b) f c = f := nrf rfl
@[go_sem] theorem asTupC_int (k : IntKind) (n : Int) (f : β) (c : List AV → β) : asTupC (.int k n) f c = f := nrf rfl
@[go_sem] theorem asTupC_str (l : List Nat) (f : β) (c : List AV → β) : asTupC (.str l) f c = f := nrf rfl
@[go_sem] theorem asTupC_nilp  (f : β) (c : List AV → β) : asTupC (.nilp) f c = f := nrf rfl
@[go_sem] theorem asTupC_ptr (k : K) (o : Nat) (f : β) (c : List AV → β) : asTupC (.ptr k o) f c = f := nrf rfl
@[go_sem] theorem asTupC_nils  (f : β) (c : List AV → β) : asTupC (.nils) f c = f := nrf rfl
@[go_sem] theorem asTupC_slice (k : K) (o n e : Nat) (x : Bool) (m : Nat) (f : β) (c : List AV → β) : asTupC (.slice k o n e x m) f c = f := nrf rfl
@[go_sem] theorem asTupC_fn (g : Fn) (a b : List AV) (f : β) (c : List AV → β) : asTupC (.fn g a b) f c = f := nrf rfl
@[go_sem] theorem asTupC_nilf  (f : β) (c : List AV → β) : asTupC (.nilf) f c = f := nrf rfl
@[go_sem] theorem asTupC_iface (t : TypeId) (v : AV) (f : β) (c : List AV → β) : asTupC (.iface t v) f c = f := nrf rfl
@[go_sem] theorem asTupC_nili  (f : β) (c : List AV → β) : asTupC (.nili) f c = f := nrf rfl
@[go_sem] theorem asTupC_agg (l : List AV) (f : β) (c : List AV → β) : asTupC (.agg l) f c = f := nrf rfl
@[go_sem] theorem asTupC_tup (l : List AV) (f : β) (c : List AV → β) : asTupC (.tup l) f c = c l := nrf rfl
@[go_sem] theorem asTupC_nilm  (f : β) (c : List AV → β) : asTupC (.nilm) f c = f := nrf rfl
@[go_sem] theorem asTupC_map (k : K) (f : β) (c : List AV → β) : asTupC (.map k) f c = f := nrf rfl
@[go_sem] theorem asTupC_typ (t : TypeId) (f : β) (c : List AV → β) : asTupC (.typ t) f c = f := nrf rfl
@[go_sem] theorem asTupC_any  (f : β) (c : List AV → β) : asTupC (.any) f c = f := nrf rfl
@[go_sem] theorem asTupC_geq (n : Nat) (f : β) (c : List AV → β) : asTupC (.geq n) f c = f := nrf rfl
@[congr] theorem asFnC_congr {v u : AV} {f : β} {c : Fn → List AV → List AV → β} (h : v = u) : asFnC v f c = asFnC u f c := by rw [h]
@[go_sem] theorem asFnC_bool (b : Bool) (f : β) (c : Fn → List AV → List AV → β) : asFnC (.bool b) f c = f := nrf rfl
@[go_sem] theorem asFnC_int (k : IntKind) (n : Int) (f : β) (c : Fn → List AV → List AV → β) : asFnC (.int k n) f c = f := nrf rfl
@[go_sem] theorem asFnC_str (l : List Nat) (f : β) (c : Fn → List AV → List AV → β) : asFnC (.str l) f c = f := nrf rfl
@[go_sem] theorem asFnC_nilp  (f : β) (c : Fn → List AV → List AV → β) : asFnC (.nilp) f c = f := nrf rfl
@[go_sem] theorem asFnC_ptr (k : K) (o : Nat) (f : β) (c : Fn → List AV → List AV → β) : asFnC (.ptr k o) f c = f := nrf rfl
@[go_sem] theorem asFnC_nils  (f : β) (c : Fn → List AV → List AV → β) : asFnC (.nils) f c = f := nrf rfl
@[go_sem] theorem asFnC_slice (k : K) (o n e : Nat) (x : Bool) (m : Nat) (f : β) (c : Fn → List AV → List AV → β) : asFnC (.slice k o n e x m) f c = f := nrf rfl
@[go_sem] theorem asFnC_fn (g : Fn) (a b : List AV) (f : β) (c : Fn → List AV → List AV → β) : asFnC (.fn g a b) f c = c g a b := nrf rfl
@[go_sem] theorem asFnC_nilf  (f : β) (c : Fn → List AV → List AV → β) : asFnC (.nilf) f c = f := nrf rfl
@[go_sem] theorem asFnC_iface (t : TypeId) (v : AV) (f : β) (c : Fn → List AV → List AV → β) : asFnC (.iface t v) f c = f := nrf rfl
@[go_sem] theorem asFnC_nili  (f : β) (c : Fn → List AV → List AV → β) : asFnC (.nili) f c = f := nrf rfl
@[go_sem] theorem asFnC_agg (l : List AV) (f : β) (c : Fn → List AV → List AV → β) : asFnC (.agg l) f c = f := nrf rfl
@[go_sem] theorem asFnC_tup (l : List AV) (f : β) (c : Fn → List AV → List AV → β) : asFnC (.tup l) f c = f := nrf rfl
@[go_sem] theorem asFnC_nilm  (f : β) (c : Fn → List AV → List AV → β) : asFnC (.nilm) f c = f := nrf rfl
@[go_sem] theorem asFnC_map (k : K) (f : β) (c : Fn → List AV → List AV → β) : asFnC (.map k) f c = f := nrf rfl
@[go_sem] theorem asFnC_typ (t : TypeId) (f : β) (c : Fn → List AV → List AV → β) : asFnC (.typ t) f c = f := nrf rfl
@[go_sem] theorem asFnC_any  (f : β) (c : Fn → List AV → List AV → β) : asFnC (.any) f c = f := nrf rfl
@[go_sem] theorem asFnC_geq (n : Nat) (f : β) (c : Fn → List AV → List AV → β) : asFnC (.geq n) f c = f := nrf rfl
@[congr] theorem asIfaceC_congr {v u : AV} {f : β} {c : TypeId → AV → β} {d : β} (h : v = u) : asIfaceC v f c d = asIfaceC u f c d := by rw [h]
@[go_sem] theorem asIfaceC_bool (b : Bool) (f : β) (c : TypeId → AV → β) (d : β) : asIfaceC (.bool b) f c d = f := nrf rfl
@[go_sem] theorem asIfaceC_int (k : IntKind) (n : Int) (f : β) (c : TypeId → AV → β) (d : β) : asIfaceC (.int k n) f c d = f := nrf rfl
@[go_sem] theorem asIfaceC_str (l : List Nat) (f : β) (c : TypeId → AV → β) (d : β) : asIfaceC (.str l) f c d = f := nrf rfl
@[go_sem] theorem asIfaceC_nilp  (f : β) (c : TypeId → AV → β) (d : β) : asIfaceC (.nilp) f c d = f := nrf rfl
@[go_sem] theorem asIfaceC_ptr (k : K) (o : Nat) (f : β) (c : TypeId → AV → β) (d : β) : asIfaceC (.ptr k o) f c d = f := nrf rfl
@[go_sem] theorem asIfaceC_nils  (f : β) (c : TypeId → AV → β) (d : β) : asIfaceC (.nils) f c d = f := nrf rfl
@[go_sem] theorem asIfaceC_slice (k : K) (o n e : Nat) (x : Bool) (m : Nat) (f : β) (c : TypeId → AV → β) (d : β) : asIfaceC (.slice k o n e x m) f c d = f := nrf rfl
@[go_sem] theorem asIfaceC_fn (g : Fn) (a b : List AV) (f : β) (c : TypeId → AV → β) (d : β) : asIfaceC (.fn g a b) f c d = f := nrf rfl
@[go_sem] theorem asIfaceC_nilf  (f : β) (c : TypeId → AV → β) (d : β) : asIfaceC (.nilf) f c d = f := nrf rfl
@[go_sem] theorem asIfaceC_iface (t : TypeId) (v : AV) (f : β) (c : TypeId → AV → β) (d : β) : asIfaceC (.iface t v) f c d = c t v := nrf rfl
@[go_sem] theorem asIfaceC_nili  (f : β) (c : TypeId → AV → β) (d : β) : asIfaceC (.nili) f c d = d := nrf rfl
@[go_sem] theorem asIfaceC_agg (l : List AV) (f : β) (c : TypeId → AV → β) (d : β) : asIfaceC (.agg l) f c d = f := nrf rfl
@[go_sem] theorem asIfaceC_tup (l : List AV) (f : β) (c : TypeId → AV → β) (d : β) : asIfaceC (.tup l) f c d = f := nrf rfl
@[go_sem] theorem asIfaceC_nilm  (f : β) (c : TypeId → AV → β) (d : β) : asIfaceC (.nilm) f c d = f := nrf rfl
@[go_sem] theorem asIfaceC_map (k : K) (f : β) (c : TypeId → AV → β) (d : β) : asIfaceC (.map k) f c d = f := nrf rfl
@[go_sem] theorem asIfaceC_typ (t : TypeId) (f : β) (c : TypeId → AV → β) (d : β) : asIfaceC (.typ t) f c d = f := nrf rfl
@[go_sem] theorem asIfaceC_any  (f : β) (c : TypeId → AV → β) (d : β) : asIfaceC (.any) f c d = f := nrf rfl
@[go_sem] theorem asIfaceC_geq (n : Nat) (f : β) (c : TypeId → AV → β) (d : β) : asIfaceC (.geq n) f c d = f := nrf rfl
@[congr] theorem asMapC_congr {v u : AV} {f : β} {d : β} {c : K → β} (h : v = u) : asMapC v f d c = asMapC u f d c := by rw [h]
@[go_sem] theorem asMapC_bool (b : Bool) (f : β) (d : β) (c : K → β) : asMapC (.bool b) f d c = f := nrf rfl
@[go_sem] theorem asMapC_int (k : IntKind) (n : Int) (f : β) (d : β) (c : K → β) : asMapC (.int k n) f d c = f := nrf rfl
@[go_sem] theorem asMapC_str (l : List Nat) (f : β) (d : β) (c : K → β) : asMapC (.str l) f d c = f := nrf rfl
@[go_sem] theorem asMapC_nilp  (f : β) (d : β) (c : K → β) : asMapC (.nilp) f d c = f := nrf rfl
@[go_sem] theorem asMapC_ptr (k : K) (o : Nat) (f : β) (d : β) (c : K → β) : asMapC (.ptr k o) f d c = f := nrf rfl
@[go_sem] theorem asMapC_nils  (f : β) (d : β) (c : K → β) : asMapC (.nils) f d c = f := nrf rfl
@[go_sem] theorem asMapC_slice (k : K) (o n e : Nat) (x : Bool) (m : Nat) (f : β) (d : β) (c : K → β) : asMapC (.slice k o n e x m) f d c = f := nrf rfl
@[go_sem] theorem asMapC_fn (g : Fn) (a b : List AV) (f : β) (d : β) (c : K → β) : asMapC (.fn g a b) f d c = f := nrf rfl
@[go_sem] theorem asMapC_nilf  (f : β) (d : β) (c : K → β) : asMapC (.nilf) f d c = f := nrf rfl
@[go_sem] theorem asMapC_iface (t : TypeId) (v : AV) (f : β) (d : β) (c : K → β) : asMapC (.iface t v) f d c = f := nrf rfl
@[go_sem] theorem asMapC_nili  (f : β) (d : β) (c : K → β) : asMapC (.nili) f d c = f := nrf rfl
@[go_sem] theorem asMapC_agg (l : List AV) (f : β) (d : β) (c : K → β) : asMapC (.agg l) f d c = f := nrf rfl
@[go_sem] theorem asMapC_tup (l : List AV) (f : β) (d : β) (c : K → β) : asMapC (.tup l) f d c = f := nrf rfl
@[go_sem] theorem asMapC_nilm  (f : β) (d : β) (c : K → β) : asMapC (.nilm) f d c = d := nrf rfl
@[go_sem] theorem asMapC_map (k : K) (f : β) (d : β) (c : K → β) : asMapC (.map k) f d c = c k := nrf rfl
@[go_sem] theorem asMapC_typ (t : TypeId) (f : β) (d : β) (c : K → β) : asMapC (.typ t) f d c = f := nrf rfl
@[go_sem] theorem asMapC_any  (f : β) (d : β) (c : K → β) : asMapC (.any) f d c = f := nrf rfl
@[go_sem] theorem asMapC_geq (n : Nat) (f : β) (d : β) (c : K → β) : asMapC (.geq n) f d c = f := nrf rfl
@[congr] theorem asTypC_congr {v u : AV} {f : β} {c : TypeId → β} (h : v = u) : asTypC v f c = asTypC u f c := by rw [h]
@[go_sem] theorem asTypC_bool (b : Bool) (f : β) (c : TypeId → β) : asTypC (.bool b) f c = f := nrf rfl
@[go_sem] theorem asTypC_int (k : IntKind) (n : Int) (f : β) (c : TypeId → β) : asTypC (.int k n) f c = f := nrf rfl
@[go_sem] theorem asTypC_str (l : List Nat) (f : β) (c : TypeId → β) : asTypC (.str l) f c = f := nrf rfl
@[go_sem] theorem asTypC_nilp  (f : β) (c : TypeId → β) : asTypC (.nilp) f c = f := nrf rfl
@[go_sem] theorem asTypC_ptr (k : K) (o : Nat) (f : β) (c : TypeId → β) : asTypC (.ptr k o) f c = f := nrf rfl
@[go_sem] theorem asTypC_nils  (f : β) (c : TypeId → β) : asTypC (.nils) f c = f := nrf rfl
@[go_sem] theorem asTypC_slice (k : K) (o n e : Nat) (x : Bool) (m : Nat) (f : β) (c : TypeId → β) : asTypC (.slice k o n e x m) f c = f := nrf rfl
@[go_sem] theorem asTypC_fn (g : Fn) (a b : List AV) (f : β) (c : TypeId → β) : asTypC (.fn g a b) f c = f := nrf rfl
@[go_sem] theorem asTypC_nilf  (f : β) (c : TypeId → β) : asTypC (.nilf) f c = f := nrf rfl
@[go_sem] theorem asTypC_iface (t : TypeId) (v : AV) (f : β) (c : TypeId → β) : asTypC (.iface t v) f c = f := nrf rfl
@[go_sem] theorem asTypC_nili  (f : β) (c : TypeId → β) : asTypC (.nili) f c = f := nrf rfl
@[go_sem] theorem asTypC_agg (l : List AV) (f : β) (c : TypeId → β) : asTypC (.agg l) f c = f := nrf rfl
@[go_sem] theorem asTypC_tup (l : List AV) (f : β) (c : TypeId → β) : asTypC (.tup l) f c = f := nrf rfl
@[go_sem] theorem asTypC_nilm  (f : β) (c : TypeId → β) : asTypC (.nilm) f c = f := nrf rfl
@[go_sem] theorem asTypC_map (k : K) (f : β) (c : TypeId → β) : asTypC (.map k) f c = f := nrf rfl
@[go_sem] theorem asTypC_typ (t : TypeId) (f : β) (c : TypeId → β) : asTypC (.typ t) f c = c t := nrf rfl
@[go_sem] theorem asTypC_any  (f : β) (c : TypeId → β) : asTypC (.any) f c = f := nrf rfl
@[go_sem] theorem asTypC_geq (n : Nat) (f : β) (c : TypeId → β) : asTypC (.geq n) f c = f := nrf rfl
@[congr] theorem asPtrN_congr {v u : AV} {f : β} {d : β} {c : K → Nat → β} (h : v = u) : asPtrN v f d c = asPtrN u f d c := by rw [h]
@[go_sem] theorem asPtrN_bool (b : Bool) (f : β) (d : β) (c : K → Nat → β) : asPtrN (.bool b) f d c = f := nrf rfl
@[go_sem] theorem asPtrN_int (k : IntKind) (n : Int) (f : β) (d : β) (c : K → Nat → β) : asPtrN (.int k n) f d c = f := nrf rfl
@[go_sem] theorem asPtrN_str (l : List Nat) (f : β) (d : β) (c : K → Nat → β) : asPtrN (.str l) f d c = f := nrf rfl
@[go_sem] theorem asPtrN_nilp  (f : β) (d : β) (c : K → Nat → β) : asPtrN (.nilp) f d c = d := nrf rfl
@[go_sem] theorem asPtrN_ptr (k : K) (o : Nat) (f : β) (d : β) (c : K → Nat → β) : asPtrN (.ptr k o) f d c = c k o := nrf rfl
@[go_sem] theorem asPtrN_nils  (f : β) (d : β) (c : K → Nat → β) : asPtrN (.nils) f d c = f := nrf rfl
@[go_sem] theorem asPtrN_slice (k : K) (o n e : Nat) (x : Bool) (m : Nat) (f : β) (d : β) (c : K → Nat → β) : asPtrN (.slice k o n e x m) f d c = f := nrf rfl
@[go_sem] theorem asPtrN_fn (g : Fn) (a b : List AV) (f : β) (d : β) (c : K → Nat → β) : asPtrN (.fn g a b) f d c = f := nrf rfl
@[go_sem] theorem asPtrN_nilf  (f : β) (d : β) (c : K → Nat → β) : asPtrN (.nilf) f d c = f := nrf rfl
@[go_sem] theorem asPtrN_iface (t : TypeId) (v : AV) (f : β) (d : β) (c : K → Nat → β) : asPtrN (.iface t v) f d c = f := nrf rfl
@[go_sem] theorem asPtrN_nili  (f : β) (d : β) (c : K → Nat → β) : asPtrN (.nili) f d c = f := nrf rfl
@[go_sem] theorem asPtrN_agg (l : List AV) (f : β) (d : β) (c : K → Nat → β) : asPtrN (.agg l) f d c = f := nrf rfl
@[go_sem] theorem asPtrN_tup (l : List AV) (f : β) (d : β) (c : K → Nat → β) : asPtrN (.tup l) f d c = f := nrf rfl
@[go_sem] theorem asPtrN_nilm  (f : β) (d : β) (c : K → Nat → β) : asPtrN (.nilm) f d c = f := nrf rfl
@[go_sem] theorem asPtrN_map (k : K) (f : β) (d : β) (c : K → Nat → β) : asPtrN (.map k) f d c = f := nrf rfl
@[go_sem] theorem asPtrN_typ (t : TypeId) (f : β) (d : β) (c : K → Nat → β) : asPtrN (.typ t) f d c = f := nrf rfl
@[go_sem] theorem asPtrN_any  (f : β) (d : β) (c : K → Nat → β) : asPtrN (.any) f d c = f := nrf rfl
@[go_sem] theorem asPtrN_geq (n : Nat) (f : β) (d : β) (c : K → Nat → β) : asPtrN (.geq n) f d c = f := nrf rfl
@[congr] theorem asFnN_congr {v u : AV} {f : β} {c : Fn → List AV → List AV → β} {d : β} (h : v = u) : asFnN v f c d = asFnN u f c d := by rw [h]
@[go_sem] theorem asFnN_bool (b : Bool) (f : β) (c : Fn → List AV → List AV → β) (d : β) : asFnN (.bool b) f c d = f := nrf rfl
@[go_sem] theorem asFnN_int (k : IntKind) (n : Int) (f : β) (c : Fn → List AV → List AV → β) (d : β) : asFnN (.int k n) f c d = f := nrf rfl
@[go_sem] theorem asFnN_str (l : List Nat) (f : β) (c : Fn → List AV → List AV → β) (d : β) : asFnN (.str l) f c d = f := nrf rfl
@[go_sem] theorem asFnN_nilp  (f : β) (c : Fn → List AV → List AV → β) (d : β) : asFnN (.nilp) f c d = f := nrf rfl
@[go_sem] theorem asFnN_ptr (k : K) (o : Nat) (f : β) (c : Fn → List AV → List AV → β) (d : β) : asFnN (.ptr k o) f c d = f := nrf rfl
@[go_sem] theorem asFnN_nils  (f : β) (c : Fn → List AV → List AV → β) (d : β) : asFnN (.nils) f c d = f := nrf rfl
@[go_sem] theorem asFnN_slice (k : K) (o n e : Nat) (x : Bool) (m : Nat) (f : β) (c : Fn → List AV → List AV → β) (d : β) : asFnN (.slice k o n e x m) f c d = f := nrf rfl
@[go_sem] theorem asFnN_fn (g : Fn) (a b : List AV) (f : β) (c : Fn → List AV → List AV → β) (d : β) : asFnN (.fn g a b) f c d = c g a b := nrf rfl
@[go_sem] theorem asFnN_nilf  (f : β) (c : Fn → List AV → List AV → β) (d : β) : asFnN (.nilf) f c d = d := nrf rfl
@[go_sem] theorem asFnN_iface (t : TypeId) (v : AV) (f : β) (c : Fn → List AV → List AV → β) (d : β) : asFnN (.iface t v) f c d = f := nrf rfl
@[go_sem] theorem asFnN_nili  (f : β) (c : Fn → List AV → List AV → β) (d : β) : asFnN (.nili) f c d = f := nrf rfl
@[go_sem] theorem asFnN_agg (l : List AV) (f : β) (c : Fn → List AV → List AV → β) (d : β) : asFnN (.agg l) f c d = f := nrf rfl
@[go_sem] theorem asFnN_tup (l : List AV) (f : β) (c : Fn → List AV → List AV → β) (d : β) : asFnN (.tup l) f c d = f := nrf rfl
@[go_sem] theorem asFnN_nilm  (f : β) (c : Fn → List AV → List AV → β) (d : β) : asFnN (.nilm) f c d = f := nrf rfl
@[go_sem] theorem asFnN_map (k : K) (f : β) (c : Fn → List AV → List AV → β) (d : β) : asFnN (.map k) f c d = f := nrf rfl
@[go_sem] theorem asFnN_typ (t : TypeId) (f : β) (c : Fn → List AV → List AV → β) (d : β) : asFnN (.typ t) f c d = f := nrf rfl
@[go_sem] theorem asFnN_any  (f : β) (c : Fn → List AV → List AV → β) (d : β) : asFnN (.any) f c d = f := nrf rfl
@[go_sem] theorem asFnN_geq (n : Nat) (f : β) (c : Fn → List AV → List AV → β) (d : β) : asFnN (.geq n) f c d = f := nrf rfl
@[congr] theorem asGeqC_congr {v u : AV} {f : β} {c : Nat → β} (h : v = u) : asGeqC v f c = asGeqC u f c := by rw [h]
@[go_sem] theorem asGeqC_bool (b : Bool) (f : β) (c : Nat → β) : asGeqC (.bool b) f c = f := nrf rfl
@[go_sem] theorem asGeqC_int (k : IntKind) (n : Int) (f : β) (c : Nat → β) : asGeqC (.int k n) f c = f := nrf rfl
@[go_sem] theorem asGeqC_str (l : List Nat) (f : β) (c : Nat → β) : asGeqC (.str l) f c = f := nrf rfl
@[go_sem] theorem asGeqC_nilp  (f : β) (c : Nat → β) : asGeqC (.nilp) f c = f := nrf rfl
@[go_sem] theorem asGeqC_ptr (k : K) (o : Nat) (f : β) (c : Nat → β) : asGeqC (.ptr k o) f c = f := nrf rfl
@[go_sem] theorem asGeqC_nils  (f : β) (c : Nat → β) : asGeqC (.nils) f c = f := nrf rfl
@[go_sem] theorem asGeqC_slice (k : K) (o n e : Nat) (x : Bool) (m : Nat) (f : β) (c : Nat → β) : asGeqC (.slice k o n e x m) f c = f := nrf rfl
@[go_sem] theorem asGeqC_fn (g : Fn) (a b : List AV) (f : β) (c : Nat → β) : asGeqC (.fn g a b) f c = f := nrf rfl
@[go_sem] theorem asGeqC_nilf  (f : β) (c : Nat → β) : asGeqC (.nilf) f c = f := nrf rfl
@[go_sem] theorem asGeqC_iface (t : TypeId) (v : AV) (f : β) (c : Nat → β) : asGeqC (.iface t v) f c = f := nrf rfl
@[go_sem] theorem asGeqC_nili  (f : β) (c : Nat → β) : asGeqC (.nili) f c = f := nrf rfl
@[go_sem] theorem asGeqC_agg (l : List AV) (f : β) (c : Nat → β) : asGeqC (.agg l) f c = f := nrf rfl
@[go_sem] theorem asGeqC_tup (l : List AV) (f : β) (c : Nat → β) : asGeqC (.tup l) f c = f := nrf rfl
@[go_sem] theorem asGeqC_nilm  (f : β) (c : Nat → β) : asGeqC (.nilm) f c = f := nrf rfl
@[go_sem] theorem asGeqC_map (k : K) (f : β) (c : Nat → β) : asGeqC (.map k) f c = f := nrf rfl
@[go_sem] theorem asGeqC_typ (t : TypeId) (f : β) (c : Nat → β) : asGeqC (.typ t) f c = f := nrf rfl
@[go_sem] theorem asGeqC_any  (f : β) (c : Nat → β) : asGeqC (.any) f c = f := nrf rfl
@[go_sem] theorem asGeqC_geq (n : Nat) (f : β) (c : Nat → β) : asGeqC (.geq n) f c = c n := nrf rfl
end
end Go.Ev
namespace Go.Ev
variable {P : Program} {φ ψ : Phi} {H : Heap} {T : Tr AV}
section
variable {β : Type}
@[congr] theorem gdC_congr {T U : Tr AV} {gd : Gd} {f y n : β} (h : T = U) : gdC T gd f y n = gdC U gd f y n := by rw [h]
@[congr] theorem bif_congr {b c : Bool} {x y : β} (h : b = c) : bif' b x y = bif' c x y := by rw [h]
@[congr] theorem getsC_congr {T U : Tr AV} {H G : Heap} {l : List RK} {f : β} {c : List AV → β} (h : T = U) (h2 : H = G) : getsC T H l f c = getsC U G l f c := by rw [h, h2]
@[congr] theorem getC_congr {T U : Tr AV} {H G : Heap} {l : RK} {f : β} {c : AV → β} (h : T = U) (h2 : H = G) : getC T H l f c = getC U G l f c := by rw [h, h2]
@[congr] theorem fN_congr {n m : Nat} {c : Nat → β} (h : n = m) : fN n c = fN m c := by rw [h]
@[congr] theorem fB_congr {n m : Bool} {c : Bool → β} (h : n = m) : fB n c = fB m c := by rw [h]
@[congr] theorem fI_congr {n m : Int} {c : Int → β} (h : n = m) : fI n c = fI m c := by rw [h]
attribute [go_sem] fN_eq fB_eq fI_eq natC_eq addC_eq subC_eq mulC_eq quoC_eq remC_eq shlC_eq shrC_eq bitC_eq wrapC_eq appC_eq fL_eq fLN_eq
theorem addC_congr {k : IntKind} {a b a' b' : Int} {c : Int → β} (h : a = a') (h2 : b = b') : addC k a b c = addC k a' b' c := by rw [h, h2]
theorem subC_congr {k : IntKind} {a b a' b' : Int} {c : Int → β} (h : a = a') (h2 : b = b') : subC k a b c = subC k a' b' c := by rw [h, h2]
attribute [congr] addC_congr subC_congr
noncomputable def optC {α : Type} (o : Option α) (f : β) (c : α → β) : β := Option.rec (motive := fun _ => β) f c o
@[congr] theorem optC_congr {α : Type} {o p : Option α} {f : β} {c : α → β} (h : o = p) : optC o f c = optC p f c := by rw [h]
@[go_sem] theorem optC_some {α : Type} (v : α) (f : β) (c : α → β) : optC (some v) f c = c v := nrf rfl
@[go_sem] theorem optC_none {α : Type} (f : β) (c : α → β) : optC none f c = f := nrf rfl
@[go_sem] theorem optC_map {α γ : Type} (o : Option α) (g : α → γ) (f : β) (c : γ → β) : optC (o.map g) f c = optC o f fun v => c (g v) := by cases o <;> rfl
attribute [go_sem] Tr.get_lf Tr.get_z Tr.get_o Tr.get_i Tr.set_lf_z Tr.set_nd_z Tr.set_lf_o Tr.set_lf_i Tr.set_nd_o Tr.set_nd_i
@[go_sem] theorem putT_some (T : Tr AV) (k) (v) (c : Tr AV → β) : putT T (some k) v c = c (T.set k (some v)) := Tr.setC_eq _ _ _ _
@[go_sem] theorem putT_none (T : Tr AV) (v) (c : Tr AV → β) : putT T none v c = c T := nrf rfl
@[congr] theorem withX_congr {T U : Tr AV} {x : X} {f : β} {c : AV → β} (h : T = U) : withX T x f c = withX U x f c := by rw [h]
@[congr] theorem withXs_congr {T U : Tr AV} {x : List X} {f : β} {c : List AV → β} (h : T = U) : withXs T x f c = withXs U x f c := by rw [h]
@[go_sem] theorem withX_t (T : Tr AV) (k) (f : β) (c) : withX T (.t k) f c = optC (T.get k) f c := nrf rfl
@[go_sem] theorem withX_c (T : Tr AV) (v) (f : β) (c) : withX T (.c v) f c = c v := nrf rfl
@[go_sem] theorem withXs_nil (T : Tr AV) (f : β) (c) : withXs T [] f c = c [] := nrf rfl
@[go_sem] theorem withXs_cons (T : Tr AV) (x l) (f : β) (c) : withXs T (x :: l) f c = withX T x f fun v => withXs T l f fun r => c (v :: r) := nrf rfl
@[go_sem] theorem evX_t (T : Tr AV) (k) : evX T (.t k) = T.get k := nrf rfl
@[go_sem] theorem evX_c (T : Tr AV) (v) : evX T (.c v) = some v := nrf rfl
@[go_sem] theorem getsC_nil (T : Tr AV) (H : Heap) (f : β) (c) : getsC T H [] f c = c [] := nrf rfl
@[go_sem] theorem getsC_cons (T : Tr AV) (H : Heap) (k l) (f : β) (c) : getsC T H (k :: l) f c = getC T H k f fun v => getsC T H l f fun r => c (v :: r) := nrf rfl
@[go_sem] theorem getC_tmp (T : Tr AV) (H : Heap) (k) (f : β) (c) : getC T H (.tmp k) f c = optC (T.get k) f c := nrf rfl
@[go_sem] theorem getC_cell (T : Tr AV) (H : Heap) (k b n) (f : β) (c) : getC T H (.cell k b n) f c = optC (T.get k) f fun v => asPtrC v f fun p off => ldV b n p off H f c := nrf rfl
@[go_sem] theorem packC_nil : packC [] = .tup [] := nrf rfl
@[go_sem] theorem packC_one (v : AV) : packC [v] = v := nrf rfl
@[go_sem] theorem packC_two (v u : AV) (l) : packC (v :: u :: l) = .tup (v :: u :: l) := nrf rfl
noncomputable def gdV (want : Bool) (o : Option AV) (f y n : β) : β := optC o f fun v => asBoolC v (asTupC v f fun _ => n) fun b => bif' (eqB b want) y n
@[congr] theorem gdV_congr {want : Bool} {o p : Option AV} {f y n : β} (h : o = p) : gdV want o f y n = gdV want p f y n := by rw [h]
theorem gdC_no (T : Tr AV) (f y n : β) : gdC T .no f y n = y := nrf rfl
@[go_sem ↓] theorem gdC_on (T : Tr AV) (k want) (f y n : β) : gdC T (.on k want) f y n = gdV want (T.get k) f y n := nrf rfl
@[go_sem] theorem gdV_tt (f y n : β) : gdV true (some (.bool true)) f y n = y := nrf rfl
@[go_sem] theorem gdV_tf (f y n : β) : gdV true (some (.bool false)) f y n = n := nrf rfl
@[go_sem] theorem gdV_ft (f y n : β) : gdV false (some (.bool true)) f y n = n := nrf rfl
@[go_sem] theorem gdV_ff (f y n : β) : gdV false (some (.bool false)) f y n = y := nrf rfl
@[go_sem] theorem gdV_tup (w l) (f y n : β) : gdV w (some (.tup l)) f y n = n := nrf rfl
noncomputable def R1.goR (r : R1) (f : β) (c : AV → β) : β := R1.rec (motive := fun _ => β) f (fun v _ => c v) (fun _ _ => f) r
@[congr] theorem R1.goR_congr {r s : R1} {f : β} {c : AV → β} (h : r = s) : R1.goR r f c = R1.goR s f c := by rw [h]
@[go_sem] theorem goR_val (v G) (f : β) (c) : R1.goR (.val v G) f c = c v := nrf rfl
noncomputable def isV (eqv : AV → AV → Bool) (o : Option AV) (v : AV) (f c : β) : β := optC o f fun u => bif' (eqv v u) c f
@[congr] theorem isV_congr {eqv : AV → AV → Bool} {o p : Option AV} {v u : AV} {f c : β} (h : o = p) (h2 : v = u) : isV eqv o v f c = isV eqv p u f c := by rw [h, h2]
@[go_sem] theorem isV_same (v : AV) (f c : β) : isV eqvC (some v) v f c = c := by
 show bif' (eqvC v v) c f = c; rw [eqvC_refl]; rfl
@[go_sem] theorem reC_nil (eqv T H) (f c : β) : reC eqv T H [] f c = c := nrf rfl
@[go_sem] theorem reC_some (eqv T H g k gd re) (f c : β) : reC eqv T H (.mk g (some k) gd :: re) f c = gdC T gd f ((g T H).goR f fun v => isV eqv (T.get k) v f (reC eqv T H re f c)) (isV eqv (T.get k) (.tup []) f (reC eqv T H re f c)) := nrf rfl
@[go_sem] theorem reC_none (eqv T H g gd re) (f c : β) : reC eqv T H (.mk g none gd :: re) f c = gdC T gd f ((g T H).goR f fun _ => reC eqv T H re f c) (reC eqv T H re f c) := nrf rfl
end
section
variable {E : FuncId → List AV → Heap → RC} {N : Nat} {H0 : Heap} {k : List It} {Q : Ex → Tr AV → Heap → Prop}
@[congr] theorem condP_congr {o o' : Option AV} {p q : Prop} (h : o = o') : condP o p q = condP o' p q := by rw [h]
@[go_sem] theorem condP_t (p q : Prop) : condP (some (.bool true)) p q = p := nrf rfl
@[go_sem] theorem condP_f (p q : Prop) : condP (some (.bool false)) p q = q := nrf rfl
attribute [go_sem ↓] WW_nil WW_inB WW_skip WW_exit WW_region WW_regionD WW_loop WW_cond WW_seq WW_block WX_nil WX_inB WX_code WX_reg WX_regD WW_ret WW_reg_nil WW_regD_nil WW_reg WW_regD gdC_no
@[go_sem] theorem putD_some (T : Tr AV) (k) (v) : putD T (some k) v = T.set k (some v) := by show T.setC k (some v) (fun T => T) = _; rw [Tr.setC_eq]
@[go_sem] theorem putD_none (T : Tr AV) (v) : putD T none v = T := nrf rfl
variable (d : Option K) (re : List Rk) (T : Tr AV) (H G : Heap) (v : AV) (r s : R1) (p : Prop) [Decidable p]
@[go_sem] theorem RW_val : RW P E N H0 (.val v G) d k T H Q = WW P E N H0 k (putD T d v) G Q := nrf rfl
@[go_sem] theorem RW_fail : RW P E N H0 .fail d k T H Q = False := nrf rfl
@[go_sem] theorem RW_call (f a) : RW P E N H0 (.call f a) d k T H Q = CL P E N H0 f a d k T H Q := nrf rfl
@[go_sem high] theorem RW_dec : RW P E N H0 (.val (.bool (decide p)) G) d k T H Q = ((p → WW P E N H0 k (putD T d (.bool true)) G Q) ∧ (¬p → WW P E N H0 k (putD T d (.bool false)) G Q)) := by
 rw [RW_val]
 by_cases h : p
 ·simp [h]
 ·simp [h]
@[go_sem] theorem RW_ite : RW P E N H0 (if p then r else s) d k T H Q = ((p → RW P E N H0 r d k T H Q) ∧ (¬p → RW P E N H0 s d k T H Q)) := by
 by_cases h : p <;> simp [h]
@[go_sem high] theorem RW_ite_fail : RW P E N H0 (if p then r else .fail) d k T H Q = (p ∧ RW P E N H0 r d k T H Q) := by
 by_cases h : p <;> simp [h, RW_fail]
@[go_sem] theorem RD_val : RD P E N H0 (.val v G) d re k T H Q = AW P E N H0 re k (putD T d v) G Q := nrf rfl
@[go_sem] theorem RD_fail : RD P E N H0 .fail d re k T H Q = False := nrf rfl
@[go_sem high] theorem RD_dec : RD P E N H0 (.val (.bool (decide p)) G) d re k T H Q = ((p → AW P E N H0 re k (putD T d (.bool true)) G Q) ∧ (¬p → AW P E N H0 re k (putD T d (.bool false)) G Q)) := by
 rw [RD_val]
 by_cases h : p
 ·simp [h]
 ·simp [h]
@[go_sem] theorem RD_ite : RD P E N H0 (if p then r else s) d re k T H Q = ((p → RD P E N H0 r d re k T H Q) ∧ (¬p → RD P E N H0 s d re k T H Q)) := by
 by_cases h : p <;> simp [h]
@[go_sem high] theorem RD_ite_fail : RD P E N H0 (if p then r else .fail) d re k T H Q = (p ∧ RD P E N H0 r d re k T H Q) := by
 by_cases h : p <;> simp [h, RD_fail]
@[go_sem ↓] theorem AW_nil : AW P E N H0 [] k T H Q = WW P E N H0 k T H Q := nrf rfl
@[go_sem ↓] theorem AW_some (g j gd) : AW P E N H0 (.mk g (some j) gd :: re) k T H Q = gdC T gd False ((g T H).goR False fun v => isV eqvC (T.get j) v False (AW P E N H0 re k T H Q)) (isV eqvC (T.get j) (.tup []) False (AW P E N H0 re k T H Q)) := nrf rfl
@[go_sem ↓] theorem AW_none (g gd) : AW P E N H0 (.mk g none gd :: re) k T H Q = gdC T gd False ((g T H).goR False fun _ => AW P E N H0 re k T H Q) (AW P E N H0 re k T H Q) := nrf rfl
end
@[go_sem] theorem ite_prop_false (p : Prop) [Decidable p] (a : Prop) : (if p then a else False) = (p ∧ a) := by by_cases h : p <;> simp [h]
@[go_sem] theorem true_imp (a : Prop) : (True → a) = a := by simp
@[go_sem] theorem not_true' : (¬ True) = False := by simp
@[go_sem] theorem not_false' : (¬ False) = True := by simp
@[go_sem] theorem false_imp (a : Prop) : (False → a) = True := by simp
attribute [go_sem] and_true true_and and_false false_and
section
variable {β : Type}
@[go_sem] theorem natBeq (a b : Nat) : Nat.beq a b = decide (a = b) := by rw [Bool.eq_iff_iff]; simp
@[go_sem] theorem natBle (a b : Nat) : Nat.ble a b = decide (a ≤ b) := by rw [Bool.eq_iff_iff]; simp
@[go_sem] theorem bif_dec (p : Prop) [Decidable p] (x y : β) : bif' (decide p) x y = if p then x else y := by by_cases h : p <;> simp [h, bif_true, bif_false]
attribute [go_sem] bif_true bif_false
@[go_sem] theorem and_dec (p q : Prop) [Decidable p] [Decidable q] : Bool.and (decide p) (decide q) = decide (p ∧ q) := by by_cases h : p <;> by_cases g : q <;> simp [h, g]
@[go_sem] theorem or_dec (p q : Prop) [Decidable p] [Decidable q] : Bool.or (decide p) (decide q) = decide (p ∨ q) := by by_cases h : p <;> by_cases g : q <;> simp [h, g]
@[go_sem] theorem not_dec (p : Prop) [Decidable p] : Bool.not (decide p) = decide (¬p) := by by_cases h : p <;> simp [h]
@[go_sem] theorem b_and_t (b : Bool) : Bool.and b true = b := by simp
@[go_sem] theorem b_t_and (b : Bool) : Bool.and true b = b := by simp
@[go_sem] theorem b_and_f (b : Bool) : Bool.and b false = false := by simp
@[go_sem] theorem b_f_and (b : Bool) : Bool.and false b = false := by simp
@[go_sem] theorem b_or_t (b : Bool) : Bool.or b true = true := by simp
@[go_sem] theorem b_t_or (b : Bool) : Bool.or true b = true := by simp
@[go_sem] theorem b_or_f (b : Bool) : Bool.or b false = b := by simp
@[go_sem] theorem b_f_or (b : Bool) : Bool.or false b = b := by simp
@[go_sem] theorem b_not_t : Bool.not true = false := nrf rfl
@[go_sem] theorem b_not_f : Bool.not false = true := nrf rfl
@[go_sem] theorem eqB_tt : eqB true true = true := nrf rfl
@[go_sem] theorem eqB_tf : eqB true false = false := nrf rfl
@[go_sem] theorem eqB_ft : eqB false true = false := nrf rfl
@[go_sem] theorem eqB_ff : eqB false false = true := nrf rfl
attribute [go_sem] decide_true decide_false ite_true ite_false
@[go_sem] theorem one_bool (b) : AV.one (.bool b) = true := nrf rfl
@[go_sem] theorem one_int (k n) : AV.one (.int k n) = true := nrf rfl
@[go_sem] theorem one_str (l) : AV.one (.str l) = true := nrf rfl
@[go_sem] theorem one_ptr (k o) : AV.one (.ptr k o) = true := nrf rfl
@[go_sem] theorem one_nilp : AV.one .nilp = true := nrf rfl
@[go_sem] theorem one_nils : AV.one .nils = true := nrf rfl
@[go_sem] theorem one_slice (k o n e x m) : AV.one (.slice k o n e x m) = true := nrf rfl
@[go_sem] theorem one_fn (g a b) : AV.one (.fn g a b) = true := nrf rfl
@[go_sem] theorem one_nilf : AV.one .nilf = true := nrf rfl
@[go_sem] theorem one_iface (t v) : AV.one (.iface t v) = true := nrf rfl
@[go_sem] theorem one_nili : AV.one .nili = true := nrf rfl
@[go_sem] theorem one_tup (l) : AV.one (.tup l) = false := nrf rfl
@[go_sem] theorem one_map (k) : AV.one (.map k) = true := nrf rfl
@[go_sem] theorem one_nilm : AV.one .nilm = true := nrf rfl
attribute [go_sem] Int.ofNat_eq_natCast
@[go_sem] theorem kn_i8 : kn .i8 = 0 := nrf rfl
@[go_sem] theorem kn_i16 : kn .i16 = 1 := nrf rfl
@[go_sem] theorem kn_i32 : kn .i32 = 2 := nrf rfl
@[go_sem] theorem kn_i64 : kn .i64 = 3 := nrf rfl
@[go_sem] theorem kn_u8 : kn .u8 = 4 := nrf rfl
@[go_sem] theorem kn_u16 : kn .u16 = 5 := nrf rfl
@[go_sem] theorem kn_u32 : kn .u32 = 6 := nrf rfl
@[go_sem] theorem kn_u64 : kn .u64 = 7 := nrf rfl
@[go_sem] theorem intRec_cast (c : Nat → β) (d : Nat → β) (n : Nat) : Int.rec (motive := fun _ => β) c d (n : Int) = c n := nrf rfl
@[congr] theorem ixC_congr {v u : AV} {f : β} {c : Nat → β} (h : v = u) : ixC v f c = ixC u f c := by rw [h]
@[go_sem] theorem ixC_cast (k) (n : Nat) (f : β) (c) : ixC (.int k (n : Int)) f c = c n := nrf rfl
@[go_sem low] theorem ixC_gen (k) (n : Int) (f : β) (c) : ixC (.int k n) f c = if 0 ≤ n then c n.toNat else f := by
 cases n with
 | ofNat n => have h : (0 : Int) ≤ Int.ofNat n := Int.natCast_nonneg n; rw [if_pos h]; rfl
 | negSucc n => rw [if_neg (by omega)]; rfl
attribute [go_sem] Int.toNat_natCast
@[congr] theorem binV_congr {ek pk lit op} {v u v' u' : AV} {f : β} {c : AV → β} (h : v = v') (h2 : u = u') : binV P ek pk lit op v u f c = binV P ek pk lit op v' u' f c := by rw [h, h2]
section
variable (ek : EK) (pk : Option (List LK)) (lit : Bool) (k : IntKind) (a b : Int) (f : β) (c : AV → β)
theorem binV_int (op : BinOp) (hs : isSh op = false) : binV P ek pk lit op (.int k a) (.int k b) f c = intBin op k a b f c := by
 show bif' (isSh op) (shBin op k a b f c) (bif' (Nat.beq (kn k) (kn k)) (intBin op k a b f c) f) = _
 rw [hs, bif_false, Nat.beq_refl, bif_true]
@[go_sem] theorem bin_add : binV P ek pk lit .add (.int k a) (.int k b) f c = c (.int k (k.wrap (a + b))) := by rw [binV_int _ _ _ _ _ _ _ _ _ rfl]; exact addC_eq _ _ _ _
@[go_sem] theorem bin_sub : binV P ek pk lit .sub (.int k a) (.int k b) f c = c (.int k (k.wrap (a - b))) := by rw [binV_int _ _ _ _ _ _ _ _ _ rfl]; exact subC_eq _ _ _ _
@[go_sem] theorem bin_mul : binV P ek pk lit .mul (.int k a) (.int k b) f c = c (.int k (k.wrap (a * b))) := by rw [binV_int _ _ _ _ _ _ _ _ _ rfl]; exact mulC_eq _ _ _ _
@[go_sem] theorem bin_quo : binV P ek pk lit .quo (.int k a) (.int k b) f c = if b = 0 then f else c (.int k (k.wrap (a.tdiv b))) := by
 rw [binV_int _ _ _ _ _ _ _ _ _ rfl]
 show eqI b 0 (fun z => bif' z f (quoC k a b fun n => c (.int k n))) = _
 rw [eqI_eq, bif_dec, quoC_eq]
@[go_sem] theorem bin_rem : binV P ek pk lit .rem (.int k a) (.int k b) f c = if b = 0 then f else c (.int k (a.tmod b)) := by
 rw [binV_int _ _ _ _ _ _ _ _ _ rfl]
 show eqI b 0 (fun z => bif' z f (remC a b fun n => c (.int k n))) = _
 rw [eqI_eq, bif_dec, remC_eq]
@[go_sem] theorem bin_and : binV P ek pk lit .and (.int k a) (.int k b) f c = c (.int k (k.wrap (BitVec.ofInt k.bits a &&& BitVec.ofInt k.bits b).toNat)) := by rw [binV_int _ _ _ _ _ _ _ _ _ rfl]; exact bitC_eq _ _ _
@[go_sem] theorem bin_or : binV P ek pk lit .or (.int k a) (.int k b) f c = c (.int k (k.wrap (BitVec.ofInt k.bits a ||| BitVec.ofInt k.bits b).toNat)) := by rw [binV_int _ _ _ _ _ _ _ _ _ rfl]; exact bitC_eq _ _ _
@[go_sem] theorem bin_xor : binV P ek pk lit .xor (.int k a) (.int k b) f c = c (.int k (k.wrap (BitVec.ofInt k.bits a ^^^ BitVec.ofInt k.bits b).toNat)) := by rw [binV_int _ _ _ _ _ _ _ _ _ rfl]; exact bitC_eq _ _ _
@[go_sem] theorem bin_eql : binV P ek pk lit .eql (.int k a) (.int k b) f c = c (.bool (decide (a = b))) := by rw [binV_int _ _ _ _ _ _ _ _ _ rfl]; exact eqI_eq _ _ _
@[go_sem] theorem bin_neq : binV P ek pk lit .neq (.int k a) (.int k b) f c = c (.bool (decide (¬ a = b))) := by rw [binV_int _ _ _ _ _ _ _ _ _ rfl, ← not_dec]; exact eqI_eq _ _ _
@[go_sem] theorem bin_lss : binV P ek pk lit .lss (.int k a) (.int k b) f c = c (.bool (decide (a < b))) := by rw [binV_int _ _ _ _ _ _ _ _ _ rfl]; exact ltI_eq _ _ _
@[go_sem] theorem bin_leq : binV P ek pk lit .leq (.int k a) (.int k b) f c = c (.bool (decide (a ≤ b))) := by rw [binV_int _ _ _ _ _ _ _ _ _ rfl]; exact leI_eq _ _ _
@[go_sem] theorem bin_gtr : binV P ek pk lit .gtr (.int k a) (.int k b) f c = c (.bool (decide (b < a))) := by rw [binV_int _ _ _ _ _ _ _ _ _ rfl]; exact ltI_eq _ _ _
@[go_sem] theorem bin_geq : binV P ek pk lit .geq (.int k a) (.int k b) f c = c (.bool (decide (b ≤ a))) := by rw [binV_int _ _ _ _ _ _ _ _ _ rfl]; exact leI_eq _ _ _
variable (j : IntKind) (n : Nat)
@[go_sem] theorem bin_shl : binV P ek pk lit .shl (.int k a) (.int j (n : Int)) f c = c (.int k (k.wrap (a * 2 ^ min n k.bits))) := by
 show shBin .shl k a (Int.ofNat n) f c = _
 show fN (min n k.bits) (fun n => shlC k a n fun n => c (.int k n)) = _
 rw [fN_eq, shlC_eq]
@[go_sem] theorem bin_shr : binV P ek pk lit .shr (.int k a) (.int j (n : Int)) f c = c (.int k (a.fdiv (2 ^ min n k.bits))) := by
 show fN (min n k.bits) (fun n => shrC a n fun n => c (.int k n)) = _
 rw [fN_eq, shrC_eq]
variable (x y : List Nat)
def ltS (x y : List Nat) : Prop := ltL x y = true
noncomputable instance (x y : List Nat) : Decidable (ltS x y) := inferInstanceAs (Decidable (_ = true))
theorem ltL_dec : ltL x y = decide (ltS x y) := by rw [Bool.eq_iff_iff, decide_eq_true_iff]; rfl
@[go_sem] theorem bins_add : binV P ek pk lit .add (.str x) (.str y) f c = if x.length + y.length ≤ 9223372036854775807 then c (.str (x ++ y)) else f := by
 show bif' (Nat.ble (x.length + y.length) 9223372036854775807) (appC x y fun l => c (.str l)) f = _
 rw [natBle, bif_dec, appC_eq]
@[go_sem] theorem bins_eql : binV P ek pk lit .eql (.str x) (.str y) f c = c (.bool (decide (x = y))) := by
 show fB (eqL x y) (fun z => c (.bool z)) = _; rw [fB_eq, eqL_eq]
@[go_sem] theorem bins_neq : binV P ek pk lit .neq (.str x) (.str y) f c = c (.bool (decide (¬ x = y))) := by
 show fB (eqL x y) (fun z => c (.bool (Bool.not z))) = _; rw [fB_eq, eqL_eq, not_dec]
@[go_sem] theorem bins_lss : binV P ek pk lit .lss (.str x) (.str y) f c = c (.bool (decide (ltS x y))) := by
 show fB (ltL x y) (fun z => c (.bool z)) = _; rw [fB_eq, ltL_dec]
@[go_sem] theorem bins_leq : binV P ek pk lit .leq (.str x) (.str y) f c = c (.bool (decide (ltS x y ∨ x = y))) := by
 show fB (Bool.or (ltL x y) (eqL x y)) (fun z => c (.bool z)) = _; rw [fB_eq, ltL_dec, eqL_eq, or_dec]
@[go_sem] theorem bins_gtr : binV P ek pk lit .gtr (.str x) (.str y) f c = c (.bool (decide (¬ (ltS x y ∨ x = y)))) := by
 show fB (Bool.or (ltL x y) (eqL x y)) (fun z => c (.bool (Bool.not z))) = _; rw [fB_eq, ltL_dec, eqL_eq, or_dec, not_dec]
@[go_sem] theorem bins_geq : binV P ek pk lit .geq (.str x) (.str y) f c = c (.bool (decide (¬ ltS x y))) := by
 show fB (ltL x y) (fun z => c (.bool (Bool.not z))) = _; rw [fB_eq, ltL_dec, not_dec]
end
@[go_sem] theorem binR_eq (ek pk lit op) (x y : X) (T : Tr AV) (H : Heap) : binR P ek pk lit op x y T H = withX T x .fail fun v => withX T y .fail fun u => binV P ek pk lit op v u .fail fun r => .val r H := nrf rfl
@[congr] theorem takeC_congr {α : Type} {n m : Nat} {l l' : List α} {f : β} {c : List α → β} (h : n = m) (h2 : l = l') : takeC f n l c = takeC f m l' c := by rw [h, h2]
@[congr] theorem putC_congr {α : Type} {x x' : List α} {n m : Nat} {l l' : List α} {f : β} {c : List α → β} (h0 : x = x') (h : n = m) (h2 : l = l') : putC f x n l c = putC f x' m l' c := by rw [h0, h, h2]
@[congr] theorem readC_congr {esz : Nat} {r r' : List (List AV)} {o o' n n' : Nat} {f : β} {c : List AV → β} (h : r = r') (h2 : o = o') (h3 : n = n') : readC f esz r o n c = readC f esz r' o' n' c := by rw [h, h2, h3]
@[congr] theorem writeC_congr {esz : Nat} {r r' : List (List AV)} {o o' : Nat} {v v' : List AV} {f : β} {c : List (List AV) → β} (h : r = r') (h2 : o = o') (h3 : v = v') : writeC f esz r o v c = writeC f esz r' o' v' c := by rw [h, h2, h3]
@[congr] theorem blkC_congr {H G : Heap} {k j : K} {f : β} {c : Bool → Nat → List (List AV) → β} (h : H = G) (h2 : k = j) : blkC H k f c = blkC G j f c := by rw [h, h2]
@[congr] theorem loadC_congr {H G : Heap} {k j : K} {o o' n : Nat} {f : β} {c : List AV → β} (h : H = G) (h2 : k = j) (h3 : o = o') : loadC H k o n f c = loadC G j o' n f c := by rw [h, h2, h3]
@[congr] theorem ldV_congr {b : Bool} {H G : Heap} {k j : K} {o o' n : Nat} {f : β} {c : AV → β} (h : H = G) (h2 : k = j) (h3 : o = o') : ldV b n k o H f c = ldV b n j o' G f c := by rw [h, h2, h3]
@[congr] theorem rowsC_congr {H G : Heap} {k j : K} {o o' n n' e : Nat} {f : β} {c : Bool → List (List AV) → List (List AV) → β} (h : H = G) (h2 : k = j) (h3 : o = o') (h4 : n = n') : rowsC H k o n e f c = rowsC G j o' n' e f c := by rw [h, h2, h3, h4]
@[congr] theorem srcC_congr {H G : Heap} {e : Nat} {v u : AV} {f : β} {c : Nat → List (List AV) → β} (h : H = G) (h2 : v = u) : srcC H e v f c = srcC G e u f c := by rw [h, h2]
@[congr] theorem hdC_congr {l m : List AV} {f : β} {c : AV → β} (h : l = m) : hdC l f c = hdC m f c := by rw [h]
@[congr] theorem cellsC_congr {v u : AV} {f : β} {c : List AV → β} (h : v = u) : cellsC v f c = cellsC u f c := by rw [h]
@[congr] theorem shapeC_congr {b : Bool} {l m : List AV} {f : β} {c : Nat → List (List AV) → β} (h : l = m) : shapeC b l f c = shapeC b m f c := by rw [h]
@[congr] theorem hAddC_congr {H G : Heap} {b d : Blk} {c : K → Heap → β} (h : H = G) (h2 : b = d) : H.addC b c = G.addC d c := by rw [h, h2]
@[congr] theorem hSetC_congr {H G : Heap} {k j : K} {b d : Blk} {c : Heap → β} (h : H = G) (h2 : k = j) (h3 : b = d) : H.setC k b c = G.setC j d c := by rw [h, h2, h3]
attribute [go_sem] takeC_eq dropL_eq nthL_eq flatL_eq sing_eq repL_eq
@[go_sem] theorem putC_one {α : Type} (f : β) (x : α) (n : Nat) (l : List α) (c) : putC f [x] n l c = if n < l.length then c (l.set n x) else f := by
 rw [putC_eq]
 by_cases h : n < l.length
 ·rw [if_pos (by simp; omega), if_pos h, List.set_eq_take_append_cons_drop, if_pos h]; simp
 ·rw [if_neg (by simp; omega), if_neg h]
@[go_sem low] theorem putC_gen {α : Type} (f : β) (x : List α) (n : Nat) (l : List α) (c) : putC f x n l c = if n + x.length ≤ l.length then c (l.take n ++ x ++ l.drop (n + x.length)) else f := putC_eq _ _ _ _ _
@[go_sem] theorem blkC_some (f : β) (c) (H : Heap) (k : K) : blkC H k f c = optC (H.get k) f fun b => Blk.rec (motive := fun _ => β) f c (fun _ => f) b := nrf rfl
@[go_sem] theorem blkRec_row (f : β) (c : Bool → Nat → List (List AV) → β) (g) (w e r) : Blk.rec (motive := fun _ => β) f c g (.row w e r) = c w e r := nrf rfl
@[go_sem] theorem loadC_def (H : Heap) (k o n) (f : β) (c) : loadC H k o n f c = blkC H k f fun _ esz rows => readC f esz rows o n c := nrf rfl
@[go_sem] theorem ldV_t (H : Heap) (k o n) (f : β) (c) : ldV true n k o H f c = loadC H k o n f fun l => c (.agg l) := nrf rfl
@[go_sem] theorem ldV_f (H : Heap) (k o n) (f : β) (c) : ldV false n k o H f c = loadC H k o 1 f fun l => hdC l f c := nrf rfl
@[go_sem] theorem hdC_cons (v l) (f : β) (c) : hdC (v :: l) f c = c v := nrf rfl
@[go_sem] theorem cellsC_def (v : AV) (f : β) (c) : cellsC v f c = asAggC v (bif' (AV.one v) (c [v]) f) c := nrf rfl
@[go_sem] theorem shapeC_t (l) (f : β) (c) : shapeC true l f c = c 1 (sing l) := nrf rfl
@[go_sem] theorem shapeC_f (l) (f : β) (c) : shapeC false l f c = bif' (Nat.beq l.length 0) f (c l.length [l]) := by unfold shapeC; rw [bif_false, fN_eq]
@[go_sem] theorem readC_box (f : β) (esz : Nat) (row : List AV) (q n : Nat) (c) (hp : q < esz) : readC f esz [row] q n c = bif' (Bool.and (Nat.beq q 0) (Nat.beq n esz)) (c row) (bif' (Nat.ble (q + n) esz) (takeC f n (dropL q row) c) (takeC f n (dropL q row) c)) := by
 unfold readC
 have h1 : q / esz = 0 := Nat.div_eq_of_lt hp
 have h2 : q % esz = q := Nat.mod_eq_of_lt hp
 simp only [fN_eq, h1, h2]
 show bif' (Bool.and (Nat.beq q 0) (Nat.beq n esz)) (c row) (bif' (Nat.ble (q + n) esz) (takeC f n (dropL q row) c) (takeC f n (dropL q (flatL [row])) c)) = _
 rw [show flatL [row] = row by rw [flatL_eq]; simp]
@[go_sem] theorem readC_at (f : β) (esz : Nat) (rows : List (List AV)) (r q n : Nat) (c) (hp : q < esz) (hn : q + n ≤ esz) : readC f esz rows (r * esz + q) n c = optC rows[r]? f fun row => bif' (Bool.and (Nat.beq q 0) (Nat.beq n esz)) (c row) (takeC f n (dropL q row) c) := by
 unfold readC
 have h1 : (r * esz + q) / esz = r := by rw [Nat.mul_comm, Nat.mul_add_div (by omega), Nat.div_eq_of_lt hp]; omega
 have h2 : (r * esz + q) % esz = q := by rw [Nat.mul_comm, Nat.mul_add_mod, Nat.mod_eq_of_lt hp]
 simp only [fN_eq, h1, h2, nthL_eq]
 show optC rows[r]? f _ = _
 congr 1
 funext row
 rw [natBle, decide_eq_true hn, bif_true]
@[go_sem] theorem readC_at0 (f : β) (esz : Nat) (rows : List (List AV)) (r n : Nat) (c) (hp : 0 < esz) (hn : n ≤ esz) : readC f esz rows (r * esz) n c = optC rows[r]? f fun row => bif' (Nat.beq n esz) (c row) (takeC f n row c) := by
 have := readC_at f esz rows r 0 n c hp (by omega)
 rw [Nat.add_zero] at this
 rw [this]
 rfl
@[go_sem] theorem writeC_box (f : β) (esz : Nat) (row vals : List AV) (q : Nat) (c) (hp : q < esz) (hn : q + vals.length ≤ esz) : writeC f esz [row] q vals c = bif' (Bool.and (Nat.beq q 0) (Nat.beq vals.length esz)) (c [vals]) (putC f vals q row fun row => c [row]) := by
 unfold writeC
 have h1 : q / esz = 0 := Nat.div_eq_of_lt hp
 have h2 : q % esz = q := Nat.mod_eq_of_lt hp
 simp only [fN_eq, h1, h2]
 rw [natBle, decide_eq_true hn, bif_true]
 show bif' (Bool.and (Nat.beq q 0) (Nat.beq vals.length esz)) (putC f [vals] 0 [row] c) (putC f vals q row fun row' => putC f [row'] 0 [row] c) = _
 simp only [putC_one, List.length_cons, List.length_nil, Nat.zero_add, Nat.zero_lt_one, if_true, List.set_cons_zero]
@[go_sem] theorem writeC_at (f : β) (esz : Nat) (rows : List (List AV)) (vals : List AV) (r q : Nat) (c) (hp : q < esz) (hn : q + vals.length ≤ esz) : writeC f esz rows (r * esz + q) vals c = optC rows[r]? f fun row => bif' (Bool.and (Nat.beq q 0) (Nat.beq vals.length esz)) (c (rows.set r vals)) (putC f vals q row fun row => c (rows.set r row)) := by
 unfold writeC
 have h1 : (r * esz + q) / esz = r := by rw [Nat.mul_comm, Nat.mul_add_div (by omega), Nat.div_eq_of_lt hp]; omega
 have h2 : (r * esz + q) % esz = q := by rw [Nat.mul_comm, Nat.mul_add_mod, Nat.mod_eq_of_lt hp]
 simp only [fN_eq, h1, h2, nthL_eq]
 rw [natBle, decide_eq_true hn, bif_true]
 cases hr : rows[r]? with
 | none => rfl
 | some row =>
  have hlt : r < rows.length := (List.getElem?_eq_some_iff.1 hr).1
  show bif' _ (putC f [vals] r rows c) (putC f vals q row fun row' => putC f [row'] r rows c) = bif' _ (c (rows.set r vals)) (putC f vals q row fun row => c (rows.set r row))
  simp only [putC_one, if_pos hlt]
@[go_sem] theorem writeC_at0 (f : β) (esz : Nat) (rows : List (List AV)) (vals : List AV) (r : Nat) (c) (hp : 0 < esz) (hn : vals.length ≤ esz) : writeC f esz rows (r * esz) vals c = optC rows[r]? f fun row => bif' (Nat.beq vals.length esz) (c (rows.set r vals)) (putC f vals 0 row fun row => c (rows.set r row)) := by
 have := writeC_at f esz rows vals r 0 c hp (by omega)
 rw [Nat.add_zero] at this
 rw [this]
 rfl
@[go_sem] theorem rowsC_def (H : Heap) (k o n e) (f : β) (c) : rowsC H k o n e f c = blkC H k f fun wr es rows => bif' (Bool.and (Nat.beq es e) (Nat.beq (o % e) 0)) (takeC f n (dropL (o / e) rows) fun r => c wr rows r) f := nrf rfl
@[go_sem] theorem srcC_def (H : Heap) (e v) (f : β) (c) : srcC H e v f c = asSliceC v f (c 0 []) fun k off len es _ _ => bif' (Nat.beq len 0) (c 0 []) (bif' (Nat.beq es e) (rowsC H k off len e f fun _ _ r => c len r) f) := nrf rfl
end
attribute [go_sem] Heap.addC_ext Heap.get_ext_key Heap.setC_ext Heap.ext_append
@[go_sem] theorem newC_def (one l) (H : Heap) : newC one l H = shapeC one l .fail fun esz rows => H.addC (.row true esz rows) fun k G => .val (.ptr k 0) G := nrf rfl
attribute [go_sem] clrR mvR boxR ldR stR stV nilR faR fldR iaS iaA ixR extR mkiR pickR unR lenR goI capR slsR slvR slaR appR apzR cpyR minN_eq buildR bslR callS callX orN_none orN_some okBig mmR
@[go_sem] theorem isS_none : isS none = false := nrf rfl
@[go_sem] theorem isS_some (n) : isS (some n) = true := nrf rfl
section
variable {β : Type}
@[congr] theorem bdC_congr {T U : Tr AV} {x : Option X} {f : β} {c : Option Nat → β} (h : T = U) : bdC T x f c = bdC U x f c := by rw [h]
@[go_sem] theorem bdC_none (T : Tr AV) (f : β) (c) : bdC T none f c = c none := nrf rfl
@[go_sem] theorem bdC_some (T : Tr AV) (x) (f : β) (c) : bdC T (some x) f c = withX T x f fun v => ixC v f fun n => fN n fun n => c (some n) := nrf rfl
@[congr] theorem partC_congr {b : Bool} {n : Nat} {l m : List AV} {o o' : Nat} {f : β} {c : AV → β} (h : l = m) (h2 : o = o') : partC b n l o f c = partC b n m o' f c := by rw [h, h2]
@[go_sem] theorem partC_t (n l o) (f : β) (c) : partC true n l o f c = takeC f n (dropL o l) fun r => c (.agg r) := nrf rfl
@[go_sem] theorem partC_f (n l o) (f : β) (c) : partC false n l o f c = optC (nthL o l) f c := nrf rfl
@[congr] theorem fillC_congr {T U : Tr AV} {ps : List (Nat × Nat × X)} {l m : List AV} {f : β} {c : List AV → β} (h : T = U) (h2 : l = m) : fillC T f ps l c = fillC U f ps m c := by rw [h, h2]
@[go_sem] theorem fillC_nil (T : Tr AV) (l) (f : β) (c) : fillC T f [] l c = c l := nrf rfl
@[go_sem] theorem fillC_cons (T : Tr AV) (p ps l) (f : β) (c) : fillC T f (p :: ps) l c = withX T p.2.2 f fun v => cellsC v f fun r => bif' (Nat.beq r.length p.2.1) (putC f r p.1 l fun l => fillC T f ps l c) f := nrf rfl
@[congr] theorem fillRows_congr {T U : Tr AV} {e : Nat} {ps : List (Nat × X)} {l m : List (List AV)} {f : β} {c : List (List AV) → β} (h : T = U) (h2 : l = m) : fillRows T f e ps l c = fillRows U f e ps m c := by rw [h, h2]
@[go_sem] theorem fillRows_nil (T : Tr AV) (e l) (f : β) (c) : fillRows T f e [] l c = c l := nrf rfl
@[go_sem] theorem fillRows_cons (T : Tr AV) (e p ps l) (f : β) (c) : fillRows T f e (p :: ps) l c = withX T p.2 f fun v => cellsC v f fun r => bif' (Nat.beq r.length e) (putC f [r] p.1 l fun l => fillRows T f e ps l c) f := nrf rfl
end
@[go_sem] theorem lnk_str (f a b d e) : LnK.rec (motive := fun _ => R1) f a b d e .str = a := nrf rfl
@[go_sem] theorem behind_norm (K) (Q) (T : Tr AV) (H : Heap) : behind K Q .norm T H = K T H := nrf rfl
@[go_sem] theorem behind_exit (K) (Q) (n) (T : Tr AV) (H : Heap) : behind K Q (.exit n) T H = Q (.exit n) T H := nrf rfl
@[go_sem] theorem behind_ret (K) (Q) (T : Tr AV) (H : Heap) : behind K Q .ret T H = Q .ret T H := nrf rfl
@[go_sem] theorem outOf_norm (i) (Q) (T : Tr AV) (H : Heap) : outOf i Q .norm T H = Q .norm T H := nrf rfl
@[go_sem] theorem outOf_ret (i) (Q) (T : Tr AV) (H : Heap) : outOf i Q .ret T H = Q .ret T H := nrf rfl
@[go_sem] theorem outOf_exit (i n) (Q) (T : Tr AV) (H : Heap) : outOf i Q (.exit n) T H = if n = i then Q .norm T H else Q (.exit n) T H := nrf rfl
@[go_sem] theorem over_norm : Ex.over .norm = True := nrf rfl
@[go_sem] theorem over_ret : Ex.over .ret = True := nrf rfl
@[congr] theorem behind_congr {K} {Q} {e} {T U : Tr AV} {H G : Heap} (h : T = U) (h2 : H = G) : behind K Q e T H = behind K Q e U G := by rw [h, h2]
@[congr] theorem outOf_congr {i} {Q} {e} {T U : Tr AV} {H G : Heap} (h : T = U) (h2 : H = G) : outOf i Q e T H = outOf i Q e U G := by rw [h, h2]
section
variable {β : Type}
@[congr] theorem argsC_congr {l m : List AV} {k} {T U : Tr AV} {c : Tr AV → β} (h : l = m) (h2 : T = U) : argsC l k T c = argsC m k U c := by rw [h, h2]
@[go_sem] theorem argsC_nil (k) (T : Tr AV) (c : Tr AV → β) : argsC [] k T c = c T := nrf rfl
@[go_sem] theorem argsC_cons (v l k) (T : Tr AV) (c : Tr AV → β) : argsC (v :: l) k T c = argsC l k.succ (T.set k (some v)) c := by
 show T.setC k (some v) (fun T => k.succC fun k => argsC l k T c) = _
 rw [Tr.setC_eq, K.succC_eq]
end
noncomputable def keepR (H : Heap) (r : R1) : R1 := R1.rec (motive := fun _ => R1) .fail (fun v _ => .val v H) (fun _ _ => .fail) r
noncomputable def addR (H : Heap) (r : R1) : R1 := R1.rec (motive := fun _ => R1) .fail (fun v G => optC (G.get H.nx) .fail fun b => H.addC b fun _ G => .val v G) (fun _ _ => .fail) r
@[go_sem] theorem keepH_def (g : Clo) (T : Tr AV) (H : Heap) : keepH g T H = keepR H (g T H) := nrf rfl
@[go_sem] theorem addH_def (g : Clo) (T : Tr AV) (H : Heap) : addH g T H = addR H (g T H) := nrf rfl
@[go_sem] theorem keepR_val (v) (G H : Heap) : keepR H (.val v G) = .val v H := nrf rfl
@[go_sem] theorem keepR_fail (H : Heap) : keepR H .fail = .fail := nrf rfl
@[go_sem] theorem keepR_ite (p : Prop) [Decidable p] (H : Heap) (r s : R1) : keepR H (if p then r else s) = if p then keepR H r else keepR H s := by split <;> rfl
@[go_sem] theorem addR_val (v) (G H : Heap) : addR H (.val v G) = optC (G.get H.nx) .fail fun b => H.addC b fun _ G => .val v G := nrf rfl
@[go_sem] theorem addR_fail (H : Heap) : addR H .fail = .fail := nrf rfl
@[go_sem] theorem addR_ite (p : Prop) [Decidable p] (H : Heap) (r s : R1) : addR H (if p then r else s) = if p then addR H r else addR H s := by split <;> rfl
@[go_sem] theorem goR_ite {β : Type} (p : Prop) [Decidable p] (r s : R1) (f : β) (c) : R1.goR (if p then r else s) f c = if p then R1.goR r f c else R1.goR s f c := by split <;> rfl
@[go_sem] theorem goR_fail {β : Type} (f : β) (c) : R1.goR .fail f c = f := nrf rfl
attribute [go_sem] Heap.nx_ext
attribute [go_sem] K.succ_z K.succ_o K.succ_i
attribute [go_sem] List.length_cons List.length_nil List.nil_append List.cons_append List.drop_succ_cons List.drop_zero List.take_succ_cons List.take_zero List.getElem?_cons_succ List.getElem?_cons_zero List.length_append List.length_map List.set_cons_zero List.set_cons_succ Nat.zero_add Nat.add_zero List.length_set List.getElem?_map Option.map_some Option.map_none List.append_nil List.drop_nil List.take_nil
end Go.Ev
namespace Go.Ev
variable {P : Program} {H : Heap}
@[go_sem] theorem trOf_nil : trOf [] = .lf := nrf rfl
@[go_sem] theorem trOf_cons (p l) : trOf (p :: l) = (trOf l).set p.1 (some p.2) := nrf rfl
attribute [go_sem] AV.ren AV.rens Blk.ren
@[go_sem low] theorem condP_b (b : Bool) (p q : Prop) : condP (some (.bool b)) p q = ((b = true → p) ∧ (b = false → q)) := by cases b <;> simp [condP]
@[go_sem low] theorem gdV_tb (b : Bool) (y n : Prop) : gdV true (some (.bool b)) False y n = ((b = true → y) ∧ (b = false → n)) := by cases b <;> simp [gdV_tt, gdV_tf]
@[go_sem low] theorem gdV_fb (b : Bool) (y n : Prop) : gdV false (some (.bool b)) False y n = ((b = false → y) ∧ (b = true → n)) := by cases b <;> simp [gdV_ft, gdV_ff]
@[go_sem low] theorem RW_bif {E : FuncId → List AV → Heap → RC} {N : Nat} {H0 : Heap} {k : List It} {Q : Ex → Tr AV → Heap → Prop} (d : Option K) (T : Tr AV) (H : Heap) (r s : R1) (b : Bool) : RW P E N H0 (bif' b r s) d k T H Q = ((b = true → RW P E N H0 r d k T H Q) ∧ (b = false → RW P E N H0 s d k T H Q)) := by cases b <;> simp [bif_true, bif_false]
@[go_sem low] theorem RD_bif {E : FuncId → List AV → Heap → RC} {N : Nat} {H0 : Heap} {k : List It} {Q : Ex → Tr AV → Heap → Prop} (d : Option K) (re : List Rk) (T : Tr AV) (H : Heap) (r s : R1) (b : Bool) : RD P E N H0 (bif' b r s) d re k T H Q = ((b = true → RD P E N H0 r d re k T H Q) ∧ (b = false → RD P E N H0 s d re k T H Q)) := by cases b <;> simp [bif_true, bif_false]
@[go_sem] theorem rho_key0 (top j : Nat) (σ : List Nat) : rho H top (j :: σ) (H.key 0) = H.key j := rho_key rfl
@[go_sem] theorem rho_key1 (top i j : Nat) (σ : List Nat) : rho H top (i :: j :: σ) (H.key 1) = H.key j := rho_key rfl
@[go_sem] theorem rho_key2 (top i i2 j : Nat) (σ : List Nat) : rho H top (i :: i2 :: j :: σ) (H.key 2) = H.key j := rho_key rfl
@[go_sem] theorem rho_key3 (top i i2 i3 j : Nat) (σ : List Nat) : rho H top (i :: i2 :: i3 :: j :: σ) (H.key 3) = H.key j := rho_key rfl
@[go_sem] theorem forall_mem_cons' {α : Type} (p : α → Prop) (a : α) (l : List α) : (∀ x ∈ a :: l, p x) = (p a ∧ ∀ x ∈ l, p x) := by simp
@[go_sem] theorem forall_mem_nil' {α : Type} (p : α → Prop) : (∀ x ∈ ([] : List α), p x) = True := by simp
@[go_sem] theorem live_row (w e r) : Blk.live (.row w e r) = True := nrf rfl
@[go_sem] theorem live_dead : Blk.live .dead = False := nrf rfl
attribute [go_sem] List.zip_cons_cons List.zip_nil_left List.zip_nil_right List.map_cons List.map_nil
def Arr (H : Heap) (esz : Nat) (v : AV) (xs : List (List AV)) : Prop :=
 (v = .nils ∧ xs = []) ∨ ∃ k off ex cap, v = .slice k off xs.length esz ex cap ∧ k.toNat < H.nx.toNat ∧
  (xs ≠ [] → ∃ r wr rows, off = r * esz ∧ H.get k = some (.row wr esz rows) ∧ (rows.drop r).take xs.length = xs)
namespace Arr
variable {esz : Nat} {v : AV} {xs : List (List AV)}
theorem pick {H : Heap} (h : Arr H esz v xs) {j : Nat} (hj : j < xs.length) : ∃ k r ex cap wr rows, v = .slice k (r * esz) xs.length esz ex cap ∧ k.toNat < H.nx.toNat ∧ H.get k = some (.row wr esz rows) ∧ (rows.drop r).take xs.length = xs ∧ ∀ j, j < xs.length → rows[r + j]? = xs[j]? := by
 rcases h with ⟨rfl, rfl⟩ | ⟨k, off, ex, cap, rfl, hk, h⟩
 ·simp at hj
 ·obtain ⟨r, wr, rows, rfl, h1, h2⟩ := h (by intro e; rw [e] at hj; simp at hj)
  refine ⟨k, r, ex, cap, wr, rows, rfl, hk, h1, h2, fun j hj => ?_⟩
  have := congrArg (·[j]?) h2
  simp only [List.getElem?_take_of_lt hj, List.getElem?_drop] at this
  exact this
theorem forms {H : Heap} (h : Arr H esz v xs) : (v = .nils ∧ xs = []) ∨ ∃ k off ex cap, v = .slice k off xs.length esz ex cap ∧ ∀ top σ, rho H top σ k = k := by
 rcases h with h | ⟨k, off, ex, cap, h, hk, _⟩
 ·exact .inl h
 ·exact .inr ⟨k, off, ex, cap, h, fun top σ => rho_old hk⟩
theorem ren {H : Heap} (h : Arr H esz v xs) (top : Nat) (σ : List Nat) : v.ren (rho H top σ) = v := by
 rcases h with ⟨rfl, rfl⟩ | ⟨k, off, ex, cap, rfl, hk, h⟩
 ·rw [AV.ren]
 ·rw [AV.ren, rho_old hk]
theorem ext {H : Heap} (h : Arr H esz v xs) (l : List Blk) : Arr (H.ext l) esz v xs := by
 rcases h with ⟨rfl, rfl⟩ | ⟨k, off, ex, cap, rfl, hk, h⟩
 ·exact .inl ⟨rfl, rfl⟩
 ·refine .inr ⟨k, off, ex, cap, rfl, by rw [Heap.nx_ext, Heap.toNat_key]; omega, fun hx => ?_⟩
  obtain ⟨r, wr, rows, h0, h1, h2⟩ := h hx
  exact ⟨r, wr, rows, h0, by rw [Heap.get_ext_lt _ _ _ hk]; exact h1, h2⟩
end Arr
section
variable {β : Type} (pk : Option (List LK)) (lit : Bool) (f : β) (c : AV → β)
@[go_sem] theorem bin_geq1 (ek : EK) (a : Int) (n : Nat) : binV P ek pk lit .gtr (.int .i64 a) (.geq n) f c = if a ≤ (n : Int) then c (.bool false) else f := by
 show leI a (Int.ofNat n) (fun z => bif' z (c (.bool false)) f) = _
 rw [leI_eq, bif_dec]; rfl
@[go_sem] theorem bin_sl1 : binV P .slice pk lit .eql .nils .nils f c = c (.bool true) := nrf rfl
@[go_sem] theorem bin_sl2 : binV P .slice pk lit .neq .nils .nils f c = c (.bool false) := nrf rfl
@[go_sem] theorem bin_sl3 (k o n e x m) : binV P .slice pk lit .eql (.slice k o n e x m) .nils f c = c (.bool false) := nrf rfl
@[go_sem] theorem bin_sl4 (k o n e x m) : binV P .slice pk lit .neq (.slice k o n e x m) .nils f c = c (.bool true) := nrf rfl
@[go_sem] theorem bin_if1 : binV P .iface pk true .eql .nili .nili f c = c (.bool true) := nrf rfl
@[go_sem] theorem bin_if2 : binV P .iface pk true .neq .nili .nili f c = c (.bool false) := nrf rfl
@[go_sem] theorem bin_if3 (t v) : binV P .iface pk lit .eql (.iface t v) .nili f c = c (.bool false) := nrf rfl
@[go_sem] theorem bin_if4 (t v) : binV P .iface pk lit .neq (.iface t v) .nili f c = c (.bool true) := nrf rfl
@[go_sem] theorem bin_pt1 : binV P .ptr pk lit .eql .nilp .nilp f c = c (.bool true) := nrf rfl
@[go_sem] theorem bin_pt2 : binV P .ptr pk lit .neq .nilp .nilp f c = c (.bool false) := nrf rfl
@[go_sem] theorem bin_pt3 (k o) : binV P .ptr pk lit .eql (.ptr k o) .nilp f c = c (.bool false) := nrf rfl
@[go_sem] theorem bin_pt4 (k o) : binV P .ptr pk lit .neq (.ptr k o) .nilp f c = c (.bool true) := nrf rfl
@[go_sem] theorem bin_b1 (a b : Bool) : binV P .bool pk lit .eql (.bool a) (.bool b) f c = c (.bool (decide (a = b))) := by cases a <;> cases b <;> rfl
@[go_sem] theorem bin_b2 (a b : Bool) : binV P .bool pk lit .neq (.bool a) (.bool b) f c = c (.bool (decide (¬ a = b))) := by cases a <;> cases b <;> rfl
end
@[go_sem] theorem cast_0 : ((0 : Nat) : Int) = 0 := nrf rfl
@[go_sem] theorem cast_1 : ((1 : Nat) : Int) = 1 := nrf rfl
attribute [go_sem] Int.cast_ofNat_Int
@[go_sem] theorem wrap_i64 {n : Int} (h1 : -9223372036854775808 ≤ n) (h2 : n < 9223372036854775808) : IntKind.i64.wrap n = n := by
 simp [IntKind.wrap, IntKind.bits, IntKind.signed]; omega
theorem wrap_succ {n : Nat} (h : n < 9223372036854775807) : IntKind.i64.wrap ((n : Int) + 1) = ((n + 1 : Nat) : Int) := by
 simp [IntKind.wrap, IntKind.bits, IntKind.signed]; omega
@[go_sem] theorem fold_mul (r j e : Nat) : r * e + j * e = (r + j) * e := (Nat.add_mul r j e).symm
end Go.Ev
