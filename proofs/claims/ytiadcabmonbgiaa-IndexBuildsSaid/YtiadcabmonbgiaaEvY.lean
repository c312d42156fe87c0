/- Values taken apart, as rules. Printed by a program. -/
import Derived.Test.YtiadcabmonbgiaaEvX
import Derived.Attr
namespace Go.Ev
section
variable {β : Type}
@[congr] theorem asBoolC_congr {v u : AV} {f : β} {c : Bool → β} (h : v = u) : asBoolC v f c = asBoolC u f c := by rw [h]
@[go_sem] theorem asBoolC_bool (b : Bool) (f : β) (c : Bool → β) : asBoolC (.bool b) f c = c b := nrf rfl
@[go_sem] theorem asBoolC_int (k : IntKind) (n : Int) (f : β) (c : Bool → β) : asBoolC (.int k n) f c = f := nrf rfl
@[go_sem] theorem asBoolC_str (l : List Nat) (f : β) (c : Bool → β) : asBoolC (.str l) f c = f := nrf rfl
@[go_sem] theorem asBoolC_nilp  (f : β) (c : Bool → β) : asBoolC (.nilp) f c = f := nrf rfl
@[go_sem] theorem asBoolC_ptr (k : K) (o : Nat) (f : β) (c : Bool → β) : asBoolC (.ptr k o) f c = f := nrf rfl
@[go_sem] theorem asBoolC_nils  (f : β) (c : Bool → β) : asBoolC (.nils) f c = f := nrf rfl
@[go_sem] theorem asBoolC_slice (k : K) (o n e : Nat) (x : Bool) (m : Nat) (f : β) (c : Bool → β) : asBoolC (.slice k o n e x m) f c = f := nrf rfl
@[go_sem] theorem asBoolC_fn (g : Fn) (a b : List AV) (f : β) (c : Bool → β) : asBoolC (.fn g a b) f c = f := nrf rfl
@[go_sem] theorem asBoolC_nilf  (f : β) (c : Bool → β) : asBoolC (.nilf) f c = f := nrf rfl
@[go_sem] theorem asBoolC_iface (t : TypeId) (v : AV) (f : β) (c : Bool → β) : asBoolC (.iface t v) f c = f := nrf rfl
@[go_sem] theorem asBoolC_nili  (f : β) (c : Bool → β) : asBoolC (.nili) f c = f := nrf rfl
@[go_sem] theorem asBoolC_agg (l : List AV) (f : β) (c : Bool → β) : asBoolC (.agg l) f c = f := nrf rfl
@[go_sem] theorem asBoolC_tup (l : List AV) (f : β) (c : Bool → β) : asBoolC (.tup l) f c = f := nrf rfl
@[go_sem] theorem asBoolC_nilm  (f : β) (c : Bool → β) : asBoolC (.nilm) f c = f := nrf rfl
@[go_sem] theorem asBoolC_map (k : K) (f : β) (c : Bool → β) : asBoolC (.map k) f c = f := nrf rfl
@[go_sem] theorem asBoolC_typ (t : TypeId) (f : β) (c : Bool → β) : asBoolC (.typ t) f c = f := nrf rfl
@[go_sem] theorem asBoolC_any  (f : β) (c : Bool → β) : asBoolC (.any) f c = f := nrf rfl
@[go_sem] theorem asBoolC_geq (n : Nat) (f : β) (c : Bool → β) : asBoolC (.geq n) f c = f := nrf rfl
@[congr] theorem asIntC_congr {v u : AV} {f : β} {c : IntKind → Int → β} (h : v = u) : asIntC v f c = asIntC u f c := by rw [h]
@[go_sem] theorem asIntC_bool (b : Bool) (f : β) (c : IntKind → Int → β) : asIntC (.bool b) f c = f := nrf rfl
@[go_sem] theorem asIntC_int (k : IntKind) (n : Int) (f : β) (c : IntKind → Int → β) : asIntC (.int k n) f c = c k n := nrf rfl
@[go_sem] theorem asIntC_str (l : List Nat) (f : β) (c : IntKind → Int → β) : asIntC (.str l) f c = f := nrf rfl
@[go_sem] theorem asIntC_nilp  (f : β) (c : IntKind → Int → β) : asIntC (.nilp) f c = f := nrf rfl
@[go_sem] theorem asIntC_ptr (k : K) (o : Nat) (f : β) (c : IntKind → Int → β) : asIntC (.ptr k o) f c = f := nrf rfl
@[go_sem] theorem asIntC_nils  (f : β) (c : IntKind → Int → β) : asIntC (.nils) f c = f := nrf rfl
@[go_sem] theorem asIntC_slice (k : K) (o n e : Nat) (x : Bool) (m : Nat) (f : β) (c : IntKind → Int → β) : asIntC (.slice k o n e x m) f c = f := nrf rfl
@[go_sem] theorem asIntC_fn (g : Fn) (a b : List AV) (f : β) (c : IntKind → Int → β) : asIntC (.fn g a b) f c = f := nrf rfl
@[go_sem] theorem asIntC_nilf  (f : β) (c : IntKind → Int → β) : asIntC (.nilf) f c = f := nrf rfl
@[go_sem] theorem asIntC_iface (t : TypeId) (v : AV) (f : β) (c : IntKind → Int → β) : asIntC (.iface t v) f c = f := nrf rfl
@[go_sem] theorem asIntC_nili  (f : β) (c : IntKind → Int → β) : asIntC (.nili) f c = f := nrf rfl
@[go_sem] theorem asIntC_agg (l : List AV) (f : β) (c : IntKind → Int → β) : asIntC (.agg l) f c = f := nrf rfl
@[go_sem] theorem asIntC_tup (l : List AV) (f : β) (c : IntKind → Int → β) : asIntC (.tup l) f c = f := nrf rfl
@[go_sem] theorem asIntC_nilm  (f : β) (c : IntKind → Int → β) : asIntC (.nilm) f c = f := nrf rfl
@[go_sem] theorem asIntC_map (k : K) (f : β) (c : IntKind → Int → β) : asIntC (.map k) f c = f := nrf rfl
@[go_sem] theorem asIntC_typ (t : TypeId) (f : β) (c : IntKind → Int → β) : asIntC (.typ t) f c = f := nrf rfl
@[go_sem] theorem asIntC_any  (f : β) (c : IntKind → Int → β) : asIntC (.any) f c = f := nrf rfl
@[go_sem] theorem asIntC_geq (n : Nat) (f : β) (c : IntKind → Int → β) : asIntC (.geq n) f c = f := nrf rfl
@[congr] theorem asStrC_congr {v u : AV} {f : β} {c : List Nat → β} (h : v = u) : asStrC v f c = asStrC u f c := by rw [h]
@[go_sem] theorem asStrC_bool (b : Bool) (f : β) (c : List Nat → β) : asStrC (.bool b) f c = f := nrf rfl
@[go_sem] theorem asStrC_int (k : IntKind) (n : Int) (f : β) (c : List Nat → β) : asStrC (.int k n) f c = f := nrf rfl
@[go_sem] theorem asStrC_str (l : List Nat) (f : β) (c : List Nat → β) : asStrC (.str l) f c = c l := nrf rfl
@[go_sem] theorem asStrC_nilp  (f : β) (c : List Nat → β) : asStrC (.nilp) f c = f := nrf rfl
@[go_sem] theorem asStrC_ptr (k : K) (o : Nat) (f : β) (c : List Nat → β) : asStrC (.ptr k o) f c = f := nrf rfl
@[go_sem] theorem asStrC_nils  (f : β) (c : List Nat → β) : asStrC (.nils) f c = f := nrf rfl
@[go_sem] theorem asStrC_slice (k : K) (o n e : Nat) (x : Bool) (m : Nat) (f : β) (c : List Nat → β) : asStrC (.slice k o n e x m) f c = f := nrf rfl
@[go_sem] theorem asStrC_fn (g : Fn) (a b : List AV) (f : β) (c : List Nat → β) : asStrC (.fn g a b) f c = f := nrf rfl
@[go_sem] theorem asStrC_nilf  (f : β) (c : List Nat → β) : asStrC (.nilf) f c = f := nrf rfl
@[go_sem] theorem asStrC_iface (t : TypeId) (v : AV) (f : β) (c : List Nat → β) : asStrC (.iface t v) f c = f := nrf rfl
@[go_sem] theorem asStrC_nili  (f : β) (c : List Nat → β) : asStrC (.nili) f c = f := nrf rfl
@[go_sem] theorem asStrC_agg (l : List AV) (f : β) (c : List Nat → β) : asStrC (.agg l) f c = f := nrf rfl
@[go_sem] theorem asStrC_tup (l : List AV) (f : β) (c : List Nat → β) : asStrC (.tup l) f c = f := nrf rfl
@[go_sem] theorem asStrC_nilm  (f : β) (c : List Nat → β) : asStrC (.nilm) f c = f := nrf rfl
@[go_sem] theorem asStrC_map (k : K) (f : β) (c : List Nat → β) : asStrC (.map k) f c = f := nrf rfl
@[go_sem] theorem asStrC_typ (t : TypeId) (f : β) (c : List Nat → β) : asStrC (.typ t) f c = f := nrf rfl
@[go_sem] theorem asStrC_any  (f : β) (c : List Nat → β) : asStrC (.any) f c = f := nrf rfl
@[go_sem] theorem asStrC_geq (n : Nat) (f : β) (c : List Nat → β) : asStrC (.geq n) f c = f := nrf rfl
@[congr] theorem asPtrC_congr {v u : AV} {f : β} {c : K → Nat → β} (h : v = u) : asPtrC v f c = asPtrC u f c := by rw [h]
@[go_sem] theorem asPtrC_bool (b : Bool) (f : β) (c : K → Nat → β) : asPtrC (.bool b) f c = f := nrf rfl
@[go_sem] theorem asPtrC_int (k : IntKind) (n : Int) (f : β) (c : K → Nat → β) : asPtrC (.int k n) f c = f := nrf rfl
@[go_sem] theorem asPtrC_str (l : List Nat) (f : β) (c : K → Nat → β) : asPtrC (.str l) f c = f := nrf rfl
@[go_sem] theorem asPtrC_nilp  (f : β) (c : K → Nat → β) : asPtrC (.nilp) f c = f := nrf rfl
@[go_sem] theorem asPtrC_ptr (k : K) (o : Nat) (f : β) (c : K → Nat → β) : asPtrC (.ptr k o) f c = c k o := nrf rfl
@[go_sem] theorem asPtrC_nils  (f : β) (c : K → Nat → β) : asPtrC (.nils) f c = f := nrf rfl
@[go_sem] theorem asPtrC_slice (k : K) (o n e : Nat) (x : Bool) (m : Nat) (f : β) (c : K → Nat → β) : asPtrC (.slice k o n e x m) f c = f := nrf rfl
@[go_sem] theorem asPtrC_fn (g : Fn) (a b : List AV) (f : β) (c : K → Nat → β) : asPtrC (.fn g a b) f c = f := nrf rfl
@[go_sem] theorem asPtrC_nilf  (f : β) (c : K → Nat → β) : asPtrC (.nilf) f c = f := nrf rfl
@[go_sem] theorem asPtrC_iface (t : TypeId) (v : AV) (f : β) (c : K → Nat → β) : asPtrC (.iface t v) f c = f := nrf rfl
@[go_sem] theorem asPtrC_nili  (f : β) (c : K → Nat → β) : asPtrC (.nili) f c = f := nrf rfl
@[go_sem] theorem asPtrC_agg (l : List AV) (f : β) (c : K → Nat → β) : asPtrC (.agg l) f c = f := nrf rfl
@[go_sem] theorem asPtrC_tup (l : List AV) (f : β) (c : K → Nat → β) : asPtrC (.tup l) f c = f := nrf rfl
@[go_sem] theorem asPtrC_nilm  (f : β) (c : K → Nat → β) : asPtrC (.nilm) f c = f := nrf rfl
@[go_sem] theorem asPtrC_map (k : K) (f : β) (c : K → Nat → β) : asPtrC (.map k) f c = f := nrf rfl
@[go_sem] theorem asPtrC_typ (t : TypeId) (f : β) (c : K → Nat → β) : asPtrC (.typ t) f c = f := nrf rfl
@[go_sem] theorem asPtrC_any  (f : β) (c : K → Nat → β) : asPtrC (.any) f c = f := nrf rfl
@[go_sem] theorem asPtrC_geq (n : Nat) (f : β) (c : K → Nat → β) : asPtrC (.geq n) f c = f := nrf rfl
@[congr] theorem asSliceC_congr {v u : AV} {f : β} {d : β} {c : K → Nat → Nat → Nat → Bool → Nat → β} (h : v = u) : asSliceC v f d c = asSliceC u f d c := by rw [h]
@[go_sem] theorem asSliceC_bool (b : Bool) (f : β) (d : β) (c : K → Nat → Nat → Nat → Bool → Nat → β) : asSliceC (.bool b) f d c = f := nrf rfl
@[go_sem] theorem asSliceC_int (k : IntKind) (n : Int) (f : β) (d : β) (c : K → Nat → Nat → Nat → Bool → Nat → β) : asSliceC (.int k n) f d c = f := nrf rfl
@[go_sem] theorem asSliceC_str (l : List Nat) (f : β) (d : β) (c : K → Nat → Nat → Nat → Bool → Nat → β) : asSliceC (.str l) f d c = f := nrf rfl
@[go_sem] theorem asSliceC_nilp  (f : β) (d : β) (c : K → Nat → Nat → Nat → Bool → Nat → β) : asSliceC (.nilp) f d c = f := nrf rfl
@[go_sem] theorem asSliceC_ptr (k : K) (o : Nat) (f : β) (d : β) (c : K → Nat → Nat → Nat → Bool → Nat → β) : asSliceC (.ptr k o) f d c = f := nrf rfl
@[go_sem] theorem asSliceC_nils  (f : β) (d : β) (c : K → Nat → Nat → Nat → Bool → Nat → β) : asSliceC (.nils) f d c = d := nrf rfl
@[go_sem] theorem asSliceC_slice (k : K) (o n e : Nat) (x : Bool) (m : Nat) (f : β) (d : β) (c : K → Nat → Nat → Nat → Bool → Nat → β) : asSliceC (.slice k o n e x m) f d c = c k o n e x m := nrf rfl
@[go_sem] theorem asSliceC_fn (g : Fn) (a b : List AV) (f : β) (d : β) (c : K → Nat → Nat → Nat → Bool → Nat → β) : asSliceC (.fn g a b) f d c = f := nrf rfl
@[go_sem] theorem asSliceC_nilf  (f : β) (d : β) (c : K → Nat → Nat → Nat → Bool → Nat → β) : asSliceC (.nilf) f d c = f := nrf rfl
@[go_sem] theorem asSliceC_iface (t : TypeId) (v : AV) (f : β) (d : β) (c : K → Nat → Nat → Nat → Bool → Nat → β) : asSliceC (.iface t v) f d c = f := nrf rfl
@[go_sem] theorem asSliceC_nili  (f : β) (d : β) (c : K → Nat → Nat → Nat → Bool → Nat → β) : asSliceC (.nili) f d c = f := nrf rfl
@[go_sem] theorem asSliceC_agg (l : List AV) (f : β) (d : β) (c : K → Nat → Nat → Nat → Bool → Nat → β) : asSliceC (.agg l) f d c = f := nrf rfl
@[go_sem] theorem asSliceC_tup (l : List AV) (f : β) (d : β) (c : K → Nat → Nat → Nat → Bool → Nat → β) : asSliceC (.tup l) f d c = f := nrf rfl
@[go_sem] theorem asSliceC_nilm  (f : β) (d : β) (c : K → Nat → Nat → Nat → Bool → Nat → β) : asSliceC (.nilm) f d c = f := nrf rfl
@[go_sem] theorem asSliceC_map (k : K) (f : β) (d : β) (c : K → Nat → Nat → Nat → Bool → Nat → β) : asSliceC (.map k) f d c = f := nrf rfl
@[go_sem] theorem asSliceC_typ (t : TypeId) (f : β) (d : β) (c : K → Nat → Nat → Nat → Bool → Nat → β) : asSliceC (.typ t) f d c = f := nrf rfl
@[go_sem] theorem asSliceC_any  (f : β) (d : β) (c : K → Nat → Nat → Nat → Bool → Nat → β) : asSliceC (.any) f d c = f := nrf rfl
@[go_sem] theorem asSliceC_geq (n : Nat) (f : β) (d : β) (c : K → Nat → Nat → Nat → Bool → Nat → β) : asSliceC (.geq n) f d c = f := nrf rfl
@[congr] theorem asAggC_congr {v u : AV} {f : β} {c : List AV → β} (h : v = u) : asAggC v f c = asAggC u f c := by rw [h]
@[go_sem] theorem asAggC_bool (b : Bool) (f : β) (c : List AV → β) : asAggC (.bool b) f c = f := nrf rfl
@[go_sem] theorem asAggC_int (k : IntKind) (n : Int) (f : β) (c : List AV → β) : asAggC (.int k n) f c = f := nrf rfl
@[go_sem] theorem asAggC_str (l : List Nat) (f : β) (c : List AV → β) : asAggC (.str l) f c = f := nrf rfl
@[go_sem] theorem asAggC_nilp  (f : β) (c : List AV → β) : asAggC (.nilp) f c = f := nrf rfl
@[go_sem] theorem asAggC_ptr (k : K) (o : Nat) (f : β) (c : List AV → β) : asAggC (.ptr k o) f c = f := nrf rfl
@[go_sem] theorem asAggC_nils  (f : β) (c : List AV → β) : asAggC (.nils) f c = f := nrf rfl
@[go_sem] theorem asAggC_slice (k : K) (o n e : Nat) (x : Bool) (m : Nat) (f : β) (c : List AV → β) : asAggC (.slice k o n e x m) f c = f := nrf rfl
@[go_sem] theorem asAggC_fn (g : Fn) (a b : List AV) (f : β) (c : List AV → β) : asAggC (.fn g a b) f c = f := nrf rfl
@[go_sem] theorem asAggC_nilf  (f : β) (c : List AV → β) : asAggC (.nilf) f c = f := nrf rfl
@[go_sem] theorem asAggC_iface (t : TypeId) (v : AV) (f : β) (c : List AV → β) : asAggC (.iface t v) f c = f := nrf rfl
@[go_sem] theorem asAggC_nili  (f : β) (c : List AV → β) : asAggC (.nili) f c = f := nrf rfl
@[go_sem] theorem asAggC_agg (l : List AV) (f : β) (c : List AV → β) : asAggC (.agg l) f c = c l := nrf rfl
@[go_sem] theorem asAggC_tup (l : List AV) (f : β) (c : List AV → β) : asAggC (.tup l) f c = f := nrf rfl
@[go_sem] theorem asAggC_nilm  (f : β) (c : List AV → β) : asAggC (.nilm) f c = f := nrf rfl
@[go_sem] theorem asAggC_map (k : K) (f : β) (c : List AV → β) : asAggC (.map k) f c = f := nrf rfl
@[go_sem] theorem asAggC_typ (t : TypeId) (f : β) (c : List AV → β) : asAggC (.typ t) f c = f := nrf rfl
@[go_sem] theorem asAggC_any  (f : β) (c : List AV → β) : asAggC (.any) f c = f := nrf rfl
@[go_sem] theorem asAggC_geq (n : Nat) (f : β) (c : List AV → β) : asAggC (.geq n) f c = f := nrf rfl
@[congr] theorem asTupC_congr {v u : AV} {f : β} {c : List AV → β} (h : v = u) : asTupC v f c = asTupC u f c := by rw [h]
@[go_sem] theorem asTupC_bool (b : Bool) (f : β) (c : List AV → β) : asTupC (.bool b) f c = f := nrf rfl
@[go_sem] theorem asTupC_int (k : IntKind) (n : Int) (f : β) (c : List AV → β) : asTupC (.int k n) f c = f := nrf rfl
@[go_sem] theorem asTupC_str (l : List Nat) (f : β) (c : List AV → β) : asTupC (.str l) f c = f := nrf rfl
@[go_sem] theorem asTupC_nilp  (f : β) (c : List AV → β) : asTupC (.nilp) f c = f := nrf rfl
@[go_sem] theorem asTupC_ptr (k : K) (o : Nat) (f : β) (c : List AV → β) : asTupC (.ptr k o) f c = f := nrf rfl
@[go_sem] theorem asTupC_nils  (f : β) (c : List AV → β) : asTupC (.nils) f c = f := nrf rfl
@[go_sem] theorem asTupC_slice (k : K) (o n e : Nat) (x : Bool) (m : Nat) (f : β) (c : List AV → β) : asTupC (.slice k o n e x m) f c = f := nrf rfl
@[go_sem] theorem asTupC_fn (g : Fn) (a b : List AV) (f : β) (c : List AV → β) : asTupC (.fn g a b) f c = f := nrf rfl
@[go_sem] theorem asTupC_nilf  (f : β) (c : List AV → β) : asTupC (.nilf) f c = f := nrf rfl
@[go_sem] theorem asTupC_iface (t : TypeId) (v : AV) (f : β) (c : List AV → β) : asTupC (.iface t v) f c = f := nrf rfl
@[go_sem] theorem asTupC_nili  (f : β) (c : List AV → β) : asTupC (.nili) f c = f := nrf rfl
@[go_sem] theorem asTupC_agg (l : List AV) (f : β) (c : List AV → β) : asTupC (.agg l) f c = f := nrf rfl
@[go_sem] theorem asTupC_tup (l : List AV) (f : β) (c : List AV → β) : asTupC (.tup l) f c = c l := nrf rfl
@[go_sem] theorem asTupC_nilm  (f : β) (c : List AV → β) : asTupC (.nilm) f c = f := nrf rfl
@[go_sem] theorem asTupC_map (k : K) (f : β) (c : List AV → β) : asTupC (.map k) f c = f := nrf rfl
@[go_sem] theorem asTupC_typ (t : TypeId) (f : β) (c : List AV → β) : asTupC (.typ t) f c = f := nrf rfl
@[go_sem] theorem asTupC_any  (f : β) (c : List AV → β) : asTupC (.any) f c = f := nrf rfl
@[go_sem] theorem asTupC_geq (n : Nat) (f : β) (c : List AV → β) : asTupC (.geq n) f c = f := nrf rfl
@[congr] theorem asFnC_congr {v u : AV} {f : β} {c : Fn → List AV → List AV → β} (h : v = u) : asFnC v f c = asFnC u f c := by rw [h]
@[go_sem] theorem asFnC_bool (b : Bool) (f : β) (c : Fn → List AV → List AV → β) : asFnC (.bool b) f c = f := nrf rfl
@[go_sem] theorem asFnC_int (k : IntKind) (n : Int) (f : β) (c : Fn → List AV → List AV → β) : asFnC (.int k n) f c = f := nrf rfl
@[go_sem] theorem asFnC_str (l : List Nat) (f : β) (c : Fn → List AV → List AV → β) : asFnC (.str l) f c = f := nrf rfl
@[go_sem] theorem asFnC_nilp  (f : β) (c : Fn → List AV → List AV → β) : asFnC (.nilp) f c = f := nrf rfl
@[go_sem] theorem asFnC_ptr (k : K) (o : Nat) (f : β) (c : Fn → List AV → List AV → β) : asFnC (.ptr k o) f c = f := nrf rfl
@[go_sem] theorem asFnC_nils  (f : β) (c : Fn → List AV → List AV → β) : asFnC (.nils) f c = f := nrf rfl
@[go_sem] theorem asFnC_slice (k : K) (o n e : Nat) (x : Bool) (m : Nat) (f : β) (c : Fn → List AV → List AV → β) : asFnC (.slice k o n e x m) f c = f := nrf rfl
@[go_sem] theorem asFnC_fn (g : Fn) (a b : List AV) (f : β) (c : Fn → List AV → List AV → β) : asFnC (.fn g a b) f c = c g a b := nrf rfl
@[go_sem] theorem asFnC_nilf  (f : β) (c : Fn → List AV → List AV → β) : asFnC (.nilf) f c = f := nrf rfl
@[go_sem] theorem asFnC_iface (t : TypeId) (v : AV) (f : β) (c : Fn → List AV → List AV → β) : asFnC (.iface t v) f c = f := nrf rfl
@[go_sem] theorem asFnC_nili  (f : β) (c : Fn → List AV → List AV → β) : asFnC (.nili) f c = f := nrf rfl
@[go_sem] theorem asFnC_agg (l : List AV) (f : β) (c : Fn → List AV → List AV → β) : asFnC (.agg l) f c = f := nrf rfl
@[go_sem] theorem asFnC_tup (l : List AV) (f : β) (c : Fn → List AV → List AV → β) : asFnC (.tup l) f c = f := nrf rfl
@[go_sem] theorem asFnC_nilm  (f : β) (c : Fn → List AV → List AV → β) : asFnC (.nilm) f c = f := nrf rfl
@[go_sem] theorem asFnC_map (k : K) (f : β) (c : Fn → List AV → List AV → β) : asFnC (.map k) f c = f := nrf rfl
@[go_sem] theorem asFnC_typ (t : TypeId) (f : β) (c : Fn → List AV → List AV → β) : asFnC (.typ t) f c = f := nrf rfl
@[go_sem] theorem asFnC_any  (f : β) (c : Fn → List AV → List AV → β) : asFnC (.any) f c = f := nrf rfl
@[go_sem] theorem asFnC_geq (n : Nat) (f : β) (c : Fn → List AV → List AV → β) : asFnC (.geq n) f c = f := nrf rfl
@[congr] theorem asIfaceC_congr {v u : AV} {f : β} {c : TypeId → AV → β} {d : β} (h : v = u) : asIfaceC v f c d = asIfaceC u f c d := by rw [h]
@[go_sem] theorem asIfaceC_bool (b : Bool) (f : β) (c : TypeId → AV → β) (d : β) : asIfaceC (.bool b) f c d = f := nrf rfl
@[go_sem] theorem asIfaceC_int (k : IntKind) (n : Int) (f : β) (c : TypeId → AV → β) (d : β) : asIfaceC (.int k n) f c d = f := nrf rfl
@[go_sem] theorem asIfaceC_str (l : List Nat) (f : β) (c : TypeId → AV → β) (d : β) : asIfaceC (.str l) f c d = f := nrf rfl
@[go_sem] theorem asIfaceC_nilp  (f : β) (c : TypeId → AV → β) (d : β) : asIfaceC (.nilp) f c d = f := nrf rfl
@[go_sem] theorem asIfaceC_ptr (k : K) (o : Nat) (f : β) (c : TypeId → AV → β) (d : β) : asIfaceC (.ptr k o) f c d = f := nrf rfl
@[go_sem] theorem asIfaceC_nils  (f : β) (c : TypeId → AV → β) (d : β) : asIfaceC (.nils) f c d = f := nrf rfl
@[go_sem] theorem asIfaceC_slice (k : K) (o n e : Nat) (x : Bool) (m : Nat) (f : β) (c : TypeId → AV → β) (d : β) : asIfaceC (.slice k o n e x m) f c d = f := nrf rfl
@[go_sem] theorem asIfaceC_fn (g : Fn) (a b : List AV) (f : β) (c : TypeId → AV → β) (d : β) : asIfaceC (.fn g a b) f c d = f := nrf rfl
@[go_sem] theorem asIfaceC_nilf  (f : β) (c : TypeId → AV → β) (d : β) : asIfaceC (.nilf) f c d = f := nrf rfl
@[go_sem] theorem asIfaceC_iface (t : TypeId) (v : AV) (f : β) (c : TypeId → AV → β) (d : β) : asIfaceC (.iface t v) f c d = c t v := nrf rfl
@[go_sem] theorem asIfaceC_nili  (f : β) (c : TypeId → AV → β) (d : β) : asIfaceC (.nili) f c d = d := nrf rfl
@[go_sem] theorem asIfaceC_agg (l : List AV) (f : β) (c : TypeId → AV → β) (d : β) : asIfaceC (.agg l) f c d = f := nrf rfl
@[go_sem] theorem asIfaceC_tup (l : List AV) (f : β) (c : TypeId → AV → β) (d : β) : asIfaceC (.tup l) f c d = f := nrf rfl
@[go_sem] theorem asIfaceC_nilm  (f : β) (c : TypeId → AV → β) (d : β) : asIfaceC (.nilm) f c d = f := nrf rfl
@[go_sem] theorem asIfaceC_map (k : K) (f : β) (c : TypeId → AV → β) (d : β) : asIfaceC (.map k) f c d = f := nrf rfl
@[go_sem] theorem asIfaceC_typ (t : TypeId) (f : β) (c : TypeId → AV → β) (d : β) : asIfaceC (.typ t) f c d = f := nrf rfl
@[go_sem] theorem asIfaceC_any  (f : β) (c : TypeId → AV → β) (d : β) : asIfaceC (.any) f c d = f := nrf rfl
@[go_sem] theorem asIfaceC_geq (n : Nat) (f : β) (c : TypeId → AV → β) (d : β) : asIfaceC (.geq n) f c d = f := nrf rfl
@[congr] theorem asMapC_congr {v u : AV} {f : β} {d : β} {c : K → β} (h : v = u) : asMapC v f d c = asMapC u f d c := by rw [h]
@[go_sem] theorem asMapC_bool (b : Bool) (f : β) (d : β) (c : K → β) : asMapC (.bool b) f d c = f := nrf rfl
@[go_sem] theorem asMapC_int (k : IntKind) (n : Int) (f : β) (d : β) (c : K → β) : asMapC (.int k n) f d c = f := nrf rfl
@[go_sem] theorem asMapC_str (l : List Nat) (f : β) (d : β) (c : K → β) : asMapC (.str l) f d c = f := nrf rfl
@[go_sem] theorem asMapC_nilp  (f : β) (d : β) (c : K → β) : asMapC (.nilp) f d c = f := nrf rfl
@[go_sem] theorem asMapC_ptr (k : K) (o : Nat) (f : β) (d : β) (c : K → β) : asMapC (.ptr k o) f d c = f := nrf rfl
@[go_sem] theorem asMapC_nils  (f : β) (d : β) (c : K → β) : asMapC (.nils) f d c = f := nrf rfl
@[go_sem] theorem asMapC_slice (k : K) (o n e : Nat) (x : Bool) (m : Nat) (f : β) (d : β) (c : K → β) : asMapC (.slice k o n e x m) f d c = f := nrf rfl
@[go_sem] theorem asMapC_fn (g : Fn) (a b : List AV) (f : β) (d : β) (c : K → β) : asMapC (.fn g a b) f d c = f := nrf rfl
@[go_sem] theorem asMapC_nilf  (f : β) (d : β) (c : K → β) : asMapC (.nilf) f d c = f := nrf rfl
@[go_sem] theorem asMapC_iface (t : TypeId) (v : AV) (f : β) (d : β) (c : K → β) : asMapC (.iface t v) f d c = f := nrf rfl
@[go_sem] theorem asMapC_nili  (f : β) (d : β) (c : K → β) : asMapC (.nili) f d c = f := nrf rfl
@[go_sem] theorem asMapC_agg (l : List AV) (f : β) (d : β) (c : K → β) : asMapC (.agg l) f d c = f := nrf rfl
@[go_sem] theorem asMapC_tup (l : List AV) (f : β) (d : β) (c : K → β) : asMapC (.tup l) f d c = f := nrf rfl
@[go_sem] theorem asMapC_nilm  (f : β) (d : β) (c : K → β) : asMapC (.nilm) f d c = d := nrf rfl
@[go_sem] theorem asMapC_map (k : K) (f : β) (d : β) (c : K → β) : asMapC (.map k) f d c = c k := nrf rfl
@[go_sem] theorem asMapC_typ (t : TypeId) (f : β) (d : β) (c : K → β) : asMapC (.typ t) f d c = f := nrf rfl
@[go_sem] theorem asMapC_any  (f : β) (d : β) (c : K → β) : asMapC (.any) f d c = f := nrf rfl
@[go_sem] theorem asMapC_geq (n : Nat) (f : β) (d : β) (c : K → β) : asMapC (.geq n) f d c = f := nrf rfl
@[congr] theorem asTypC_congr {v u : AV} {f : β} {c : TypeId → β} (h : v = u) : asTypC v f c = asTypC u f c := by rw [h]
@[go_sem] theorem asTypC_bool (b : Bool) (f : β) (c : TypeId → β) : asTypC (.bool b) f c = f := nrf rfl
@[go_sem] theorem asTypC_int (k : IntKind) (n : Int) (f : β) (c : TypeId → β) : asTypC (.int k n) f c = f := nrf rfl
@[go_sem] theorem asTypC_str (l : List Nat) (f : β) (c : TypeId → β) : asTypC (.str l) f c = f := nrf rfl
@[go_sem] theorem asTypC_nilp  (f : β) (c : TypeId → β) : asTypC (.nilp) f c = f := nrf rfl
@[go_sem] theorem asTypC_ptr (k : K) (o : Nat) (f : β) (c : TypeId → β) : asTypC (.ptr k o) f c = f := nrf rfl
@[go_sem] theorem asTypC_nils  (f : β) (c : TypeId → β) : asTypC (.nils) f c = f := nrf rfl
@[go_sem] theorem asTypC_slice (k : K) (o n e : Nat) (x : Bool) (m : Nat) (f : β) (c : TypeId → β) : asTypC (.slice k o n e x m) f c = f := nrf rfl
@[go_sem] theorem asTypC_fn (g : Fn) (a b : List AV) (f : β) (c : TypeId → β) : asTypC (.fn g a b) f c = f := nrf rfl
@[go_sem] theorem asTypC_nilf  (f : β) (c : TypeId → β) : asTypC (.nilf) f c = f := nrf rfl
@[go_sem] theorem asTypC_iface (t : TypeId) (v : AV) (f : β) (c : TypeId → β) : asTypC (.iface t v) f c = f := nrf rfl
@[go_sem] theorem asTypC_nili  (f : β) (c : TypeId → β) : asTypC (.nili) f c = f := nrf rfl
@[go_sem] theorem asTypC_agg (l : List AV) (f : β) (c : TypeId → β) : asTypC (.agg l) f c = f := nrf rfl
@[go_sem] theorem asTypC_tup (l : List AV) (f : β) (c : TypeId → β) : asTypC (.tup l) f c = f := nrf rfl
@[go_sem] theorem asTypC_nilm  (f : β) (c : TypeId → β) : asTypC (.nilm) f c = f := nrf rfl
@[go_sem] theorem asTypC_map (k : K) (f : β) (c : TypeId → β) : asTypC (.map k) f c = f := nrf rfl
@[go_sem] theorem asTypC_typ (t : TypeId) (f : β) (c : TypeId → β) : asTypC (.typ t) f c = c t := nrf rfl
@[go_sem] theorem asTypC_any  (f : β) (c : TypeId → β) : asTypC (.any) f c = f := nrf rfl
@[go_sem] theorem asTypC_geq (n : Nat) (f : β) (c : TypeId → β) : asTypC (.geq n) f c = f := nrf rfl
@[congr] theorem asPtrN_congr {v u : AV} {f : β} {d : β} {c : K → Nat → β} (h : v = u) : asPtrN v f d c = asPtrN u f d c := by rw [h]
@[go_sem] theorem asPtrN_bool (b : Bool) (f : β) (d : β) (c : K → Nat → β) : asPtrN (.bool b) f d c = f := nrf rfl
@[go_sem] theorem asPtrN_int (k : IntKind) (n : Int) (f : β) (d : β) (c : K → Nat → β) : asPtrN (.int k n) f d c = f := nrf rfl
@[go_sem] theorem asPtrN_str (l : List Nat) (f : β) (d : β) (c : K → Nat → β) : asPtrN (.str l) f d c = f := nrf rfl
@[go_sem] theorem asPtrN_nilp  (f : β) (d : β) (c : K → Nat → β) : asPtrN (.nilp) f d c = d := nrf rfl
@[go_sem] theorem asPtrN_ptr (k : K) (o : Nat) (f : β) (d : β) (c : K → Nat → β) : asPtrN (.ptr k o) f d c = c k o := nrf rfl
@[go_sem] theorem asPtrN_nils  (f : β) (d : β) (c : K → Nat → β) : asPtrN (.nils) f d c = f := nrf rfl
@[go_sem] theorem asPtrN_slice (k : K) (o n e : Nat) (x : Bool) (m : Nat) (f : β) (d : β) (c : K → Nat → β) : asPtrN (.slice k o n e x m) f d c = f := nrf rfl
@[go_sem] theorem asPtrN_fn (g : Fn) (a b : List AV) (f : β) (d : β) (c : K → Nat → β) : asPtrN (.fn g a b) f d c = f := nrf rfl
@[go_sem] theorem asPtrN_nilf  (f : β) (d : β) (c : K → Nat → β) : asPtrN (.nilf) f d c = f := nrf rfl
@[go_sem] theorem asPtrN_iface (t : TypeId) (v : AV) (f : β) (d : β) (c : K → Nat → β) : asPtrN (.iface t v) f d c = f := nrf rfl
@[go_sem] theorem asPtrN_nili  (f : β) (d : β) (c : K → Nat → β) : asPtrN (.nili) f d c = f := nrf rfl
@[go_sem] theorem asPtrN_agg (l : List AV) (f : β) (d : β) (c : K → Nat → β) : asPtrN (.agg l) f d c = f := nrf rfl
@[go_sem] theorem asPtrN_tup (l : List AV) (f : β) (d : β) (c : K → Nat → β) : asPtrN (.tup l) f d c = f := nrf rfl
@[go_sem] theorem asPtrN_nilm  (f : β) (d : β) (c : K → Nat → β) : asPtrN (.nilm) f d c = f := nrf rfl
@[go_sem] theorem asPtrN_map (k : K) (f : β) (d : β) (c : K → Nat → β) : asPtrN (.map k) f d c = f := nrf rfl
@[go_sem] theorem asPtrN_typ (t : TypeId) (f : β) (d : β) (c : K → Nat → β) : asPtrN (.typ t) f d c = f := nrf rfl
@[go_sem] theorem asPtrN_any  (f : β) (d : β) (c : K → Nat → β) : asPtrN (.any) f d c = f := nrf rfl
@[go_sem] theorem asPtrN_geq (n : Nat) (f : β) (d : β) (c : K → Nat → β) : asPtrN (.geq n) f d c = f := nrf rfl
@[congr] theorem asFnN_congr {v u : AV} {f : β} {c : Fn → List AV → List AV → β} {d : β} (h : v = u) : asFnN v f c d = asFnN u f c d := by rw [h]
@[go_sem] theorem asFnN_bool (b : Bool) (f : β) (c : Fn → List AV → List AV → β) (d : β) : asFnN (.bool b) f c d = f := nrf rfl
@[go_sem] theorem asFnN_int (k : IntKind) (n : Int) (f : β) (c : Fn → List AV → List AV → β) (d : β) : asFnN (.int k n) f c d = f := nrf rfl
@[go_sem] theorem asFnN_str (l : List Nat) (f : β) (c : Fn → List AV → List AV → β) (d : β) : asFnN (.str l) f c d = f := nrf rfl
@[go_sem] theorem asFnN_nilp  (f : β) (c : Fn → List AV → List AV → β) (d : β) : asFnN (.nilp) f c d = f := nrf rfl
@[go_sem] theorem asFnN_ptr (k : K) (o : Nat) (f : β) (c : Fn → List AV → List AV → β) (d : β) : asFnN (.ptr k o) f c d = f := nrf rfl
@[go_sem] theorem asFnN_nils  (f : β) (c : Fn → List AV → List AV → β) (d : β) : asFnN (.nils) f c d = f := nrf rfl
@[go_sem] theorem asFnN_slice (k : K) (o n e : Nat) (x : Bool) (m : Nat) (f : β) (c : Fn → List AV → List AV → β) (d : β) : asFnN (.slice k o n e x m) f c d = f := nrf rfl
@[go_sem] theorem asFnN_fn (g : Fn) (a b : List AV) (f : β) (c : Fn → List AV → List AV → β) (d : β) : asFnN (.fn g a b) f c d = c g a b := nrf rfl
@[go_sem] theorem asFnN_nilf  (f : β) (c : Fn → List AV → List AV → β) (d : β) : asFnN (.nilf) f c d = d := nrf rfl
@[go_sem] theorem asFnN_iface (t : TypeId) (v : AV) (f : β) (c : Fn → List AV → List AV → β) (d : β) : asFnN (.iface t v) f c d = f := nrf rfl
@[go_sem] theorem asFnN_nili  (f : β) (c : Fn → List AV → List AV → β) (d : β) : asFnN (.nili) f c d = f := nrf rfl
@[go_sem] theorem asFnN_agg (l : List AV) (f : β) (c : Fn → List AV → List AV → β) (d : β) : asFnN (.agg l) f c d = f := nrf rfl
@[go_sem] theorem asFnN_tup (l : List AV) (f : β) (c : Fn → List AV → List AV → β) (d : β) : asFnN (.tup l) f c d = f := nrf rfl
@[go_sem] theorem asFnN_nilm  (f : β) (c : Fn → List AV → List AV → β) (d : β) : asFnN (.nilm) f c d = f := nrf rfl
@[go_sem] theorem asFnN_map (k : K) (f : β) (c : Fn → List AV → List AV → β) (d : β) : asFnN (.map k) f c d = f := nrf rfl
@[go_sem] theorem asFnN_typ (t : TypeId) (f : β) (c : Fn → List AV → List AV → β) (d : β) : asFnN (.typ t) f c d = f := nrf rfl
@[go_sem] theorem asFnN_any  (f : β) (c : Fn → List AV → List AV → β) (d : β) : asFnN (.any) f c d = f := nrf rfl
@[go_sem] theorem asFnN_geq (n : Nat) (f : β) (c : Fn → List AV → List AV → β) (d : β) : asFnN (.geq n) f c d = f := nrf rfl
@[congr] theorem asGeqC_congr {v u : AV} {f : β} {c : Nat → β} (h : v = u) : asGeqC v f c = asGeqC u f c := by rw [h]
@[go_sem] theorem asGeqC_bool (b : Bool) (f : β) (c : Nat → β) : asGeqC (.bool b) f c = f := nrf rfl
@[go_sem] theorem asGeqC_int (k : IntKind) (n : Int) (f : β) (c : Nat → β) : asGeqC (.int k n) f c = f := nrf rfl
@[go_sem] theorem asGeqC_str (l : List Nat) (f : β) (c : Nat → β) : asGeqC (.str l) f c = f := nrf rfl
@[go_sem] theorem asGeqC_nilp  (f : β) (c : Nat → β) : asGeqC (.nilp) f c = f := nrf rfl
@[go_sem] theorem asGeqC_ptr (k : K) (o : Nat) (f : β) (c : Nat → β) : asGeqC (.ptr k o) f c = f := nrf rfl
@[go_sem] theorem asGeqC_nils  (f : β) (c : Nat → β) : asGeqC (.nils) f c = f := nrf rfl
@[go_sem] theorem asGeqC_slice (k : K) (o n e : Nat) (x : Bool) (m : Nat) (f : β) (c : Nat → β) : asGeqC (.slice k o n e x m) f c = f := nrf rfl
@[go_sem] theorem asGeqC_fn (g : Fn) (a b : List AV) (f : β) (c : Nat → β) : asGeqC (.fn g a b) f c = f := nrf rfl
@[go_sem] theorem asGeqC_nilf  (f : β) (c : Nat → β) : asGeqC (.nilf) f c = f := nrf rfl
@[go_sem] theorem asGeqC_iface (t : TypeId) (v : AV) (f : β) (c : Nat → β) : asGeqC (.iface t v) f c = f := nrf rfl
@[go_sem] theorem asGeqC_nili  (f : β) (c : Nat → β) : asGeqC (.nili) f c = f := nrf rfl
@[go_sem] theorem asGeqC_agg (l : List AV) (f : β) (c : Nat → β) : asGeqC (.agg l) f c = f := nrf rfl
@[go_sem] theorem asGeqC_tup (l : List AV) (f : β) (c : Nat → β) : asGeqC (.tup l) f c = f := nrf rfl
@[go_sem] theorem asGeqC_nilm  (f : β) (c : Nat → β) : asGeqC (.nilm) f c = f := nrf rfl
@[go_sem] theorem asGeqC_map (k : K) (f : β) (c : Nat → β) : asGeqC (.map k) f c = f := nrf rfl
@[go_sem] theorem asGeqC_typ (t : TypeId) (f : β) (c : Nat → β) : asGeqC (.typ t) f c = f := nrf rfl
@[go_sem] theorem asGeqC_any  (f : β) (c : Nat → β) : asGeqC (.any) f c = f := nrf rfl
@[go_sem] theorem asGeqC_geq (n : Nat) (f : β) (c : Nat → β) : asGeqC (.geq n) f c = c n := nrf rfl
end
end Go.Ev
