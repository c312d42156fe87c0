/- The laid-out code of the functions that are walked. Printed by a program. -/
import Derived.Test.YtomljpdjfobeoaaDoorZ15
import Derived.Test.YtomljpdjfobeoaaDoorProg
import Derived.KernelRfl
set_option linter.all false
set_option maxRecDepth 100000
namespace Go.Proofs
open Go Go.Ev K
@[go_sem] theorem call6 (args : List AV) (H : Heap) : callC Tryd.prog 6 args H = .call 6 args := callC_ok (by kernel_rfl) args H
@[go_sem] theorem call7 (args : List AV) (H : Heap) : callC Tryd.prog 7 args H = .call 7 args := callC_ok (by kernel_rfl) args H
noncomputable def C14 : CC :=
  (.seq (.region [.mk (boxR false (X.t z)) (.some (i z)) Gd.no [],
   .mk (boxR false (X.t (o z))) (.some (o (o z))) Gd.no [],
   .mk (fun _ H => newC false [(AV.str []), (AV.str [])] H) (.some (i (o z))) Gd.no [],
   .mk (mvR (X.c (AV.bool false))) (.some (o (i z))) Gd.no []])
  (.seq (.regionD [.mk (addH (fun _ H => newC false [(AV.str []), (AV.str [])] H)) (.some (i (i z))) Gd.no [],
   .mk (keepH (faR 1 (X.t (o (o z))))) (.some (i (i (i z)))) Gd.no [],
   .mk (keepH (ldR false 1 (X.t (i (i (i z)))))) (.some (o (o (o (o z))))) Gd.no [],
   .mk (keepH (faR 1 (X.t (i z)))) (.some (i (o (i z)))) Gd.no [],
   .mk (keepH (ldR false 1 (X.t (i (o (i z)))))) (.some (o (i (i z)))) Gd.no [],
   .mk (keepH (faR 0 (X.t (o (o z))))) (.some (o (i (o z)))) Gd.no [],
   .mk (keepH (ldR false 1 (X.t (o (i (o z)))))) (.some (i (i (o z)))) Gd.no [],
   .mk (keepH (faR 0 (X.t (i z)))) (.some (o (o (o z)))) Gd.no [],
   .mk (keepH (ldR false 1 (X.t (o (o (o z)))))) (.some (i (o (o z)))) Gd.no [],
   .mk (keepH (mmR true (X.t (i (o (o z)))) (X.t (i (i (o z)))))) (.some (o (o (i z)))) Gd.no [],
   .mk (callS Tryd.prog 39 [(X.t (o (i (i z)))), (X.t (o (o (o (o z)))))]) (.some (i (o (o (o z))))) Gd.no [.mk (mmR true (X.t (i (o (o z)))) (X.t (i (i (o z))))) (.some (o (o (i z)))) Gd.no, .mk (ldR false 1 (X.t (o (o (o z))))) (.some (i (o (o z)))) Gd.no, .mk (faR 0 (X.t (i z))) (.some (o (o (o z)))) Gd.no, .mk (ldR false 1 (X.t (o (i (o z))))) (.some (i (i (o z)))) Gd.no, .mk (faR 0 (X.t (o (o z)))) (.some (o (i (o z)))) Gd.no],
   .mk (keepH (buildR [(AV.str []), (AV.str [])] [(0, (1, (X.t (o (o (i z)))))), (1, (1, (X.t (i (o (o (o z)))))))])) (.some (o (i (o (o z))))) Gd.no [],
   .mk (stR 2 (X.t (i (i z))) (X.t (o (i (o (o z)))))) .none Gd.no []])
  (.seq (.seq (.region [.mk (ldR true 2 (X.t (i z))) (.some (i (i (o (o z))))) Gd.no [],
   .mk (callS Tryd.prog 40 [(X.t (i (i (o (o z)))))]) (.some (o (o (i (o z))))) Gd.no [],
   .mk (unR UnOp.not (X.t (o (o (i (o z)))))) (.some (i (o (i (o z))))) Gd.no [],
   .mk (mvR (X.t (i (o (i (o z)))))) (.some (o (i (i (o z))))) Gd.no [],
   .mk (ldR true 2 (X.t (o (o z)))) (.some (i (i (i (o z))))) (Gd.on (o (i (i (o z)))) false) [],
   .mk (callS Tryd.prog 40 [(X.t (i (i (i (o z)))))]) (.some (o (o (o (i z))))) (Gd.on (o (i (i (o z)))) false) [],
   .mk (unR UnOp.not (X.t (o (o (o (i z)))))) (.some (i (o (o (i z))))) (Gd.on (o (i (i (o z)))) false) [],
   .mk (pickR (X.t (o (i (i (o z))))) (X.c (AV.bool true)) (X.t (i (o (o (i z)))))) (.some (o (i (o (i z))))) Gd.no [],
   .mk (mvR (X.t (o (i (o (i z)))))) (.some (i (i (o (i z))))) Gd.no [],
   .mk (ldR true 2 (X.t (i (i z)))) (.some (o (o (i (i z))))) (Gd.on (i (i (o (i z)))) false) [],
   .mk (callS Tryd.prog 40 [(X.t (o (o (i (i z)))))]) (.some (i (o (i (i z))))) (Gd.on (i (i (o (i z)))) false) [],
   .mk (unR UnOp.not (X.t (i (o (i (i z)))))) (.some (o (i (i (i z))))) (Gd.on (i (i (o (i z)))) false) [],
   .mk (pickR (X.t (i (i (o (i z))))) (X.c (AV.bool true)) (X.t (o (i (i (i z)))))) (.some (i (i (i (i z))))) Gd.no []])
  (.cond (X.t (i (i (i (i z)))))
  (.seq (.region [.mk (buildR [(AV.str []), (AV.str [])] []) (.some (o (o (o (o (o z)))))) Gd.no [],
   .mk (stR 2 (X.t (i (o z))) (X.t (o (o (o (o (o z))))))) .none Gd.no [],
   .mk (mvR (X.c (AV.bool false))) (.some (o (i z))) Gd.no []])
  .ret)
  .skip))
  (.seq (.region [.mk (ldR true 2 (X.t (i (i z)))) (.some (i (o (o (o (o z)))))) Gd.no [],
   .mk (stR 2 (X.t (i (o z))) (X.t (i (o (o (o (o z))))))) .none Gd.no [],
   .mk (mvR (X.c (AV.bool true))) (.some (o (i z))) Gd.no []])
  .ret))))
theorem C14ok : (match Tryd.f14.body with | some c => comp Tryd.prog 33 c | none => none) = some C14 := by kernel_rfl
@[go_sem] theorem call14 (args : List AV) (H : Heap) : callC Tryd.prog 14 args H = .call 14 args := callC_ok (by kernel_rfl) args H
theorem R14ok : resKs Tryd.prog Tryd.f14.results.toList = some [(RK.cell (i (o z)) true 2), (RK.tmp (o (i z)))] := by kernel_rfl

@[go_sem] theorem call18 (args : List AV) (H : Heap) : callC Tryd.prog 18 args H = .call 18 args := callC_ok (by kernel_rfl) args H
@[go_sem] theorem call19 (args : List AV) (H : Heap) : callC Tryd.prog 19 args H = .call 19 args := callC_ok (by kernel_rfl) args H
@[go_sem] theorem call20 (args : List AV) (H : Heap) : callC Tryd.prog 20 args H = .call 20 args := callC_ok (by kernel_rfl) args H
@[go_sem] theorem call21 (args : List AV) (H : Heap) : callC Tryd.prog 21 args H = .call 21 args := callC_ok (by kernel_rfl) args H
noncomputable def C22 : CC :=
  (.seq (.region [.mk (mvR (X.c (AV.bool false))) (.some (i (o z))) Gd.no []])
  (.seq (.seq (.region [.mk (mvR (X.t z)) (.some (o (i z))) Gd.no [],
   .mk (binR Tryd.prog EK.iface .none true BinOp.eql (X.t (o (i z))) (X.c AV.nili)) (.some (i (i z))) Gd.no [],
   .mk (mvR (X.t (i (i z)))) (.some (o (o (o z)))) Gd.no [],
   .mk (mvR (X.t z)) (.some (i (o (o z)))) (Gd.on (o (o (o z))) false) [],
   .mk (callS Tryd.prog 46 [(X.t (i (o (o z))))]) (.some (o (i (o z)))) (Gd.on (o (o (o z))) false) [],
   .mk (mvR (X.t (o z))) (.some (i (i (o z)))) (Gd.on (o (o (o z))) false) [],
   .mk (binR Tryd.prog EK.no .none false BinOp.neq (X.t (o (i (o z)))) (X.t (i (i (o z))))) (.some (o (o (i z)))) (Gd.on (o (o (o z))) false) [],
   .mk (pickR (X.t (o (o (o z)))) (X.c (AV.bool true)) (X.t (o (o (i z))))) (.some (i (o (i z)))) Gd.no []])
  (.cond (X.t (i (o (i z))))
  (.seq (.region [.mk (mvR (X.c (AV.bool false))) (.some (i (o z))) Gd.no []])
  .ret)
  .skip))
  (.seq (.region [.mk (mvR (X.t z)) (.some (o (i (i z)))) Gd.no [],
   .mk (mvR (X.t (o z))) (.some (i (i (i z)))) Gd.no [],
   .mk (mkiR 71 (X.t (i (i (i z))))) (.some (o (o (o (o z))))) Gd.no [],
   .mk (callS Tryd.prog 32 [(X.t (o (i (i z)))), (X.t (o (o (o (o z)))))]) (.some (i (o (o (o z))))) Gd.no [],
   .mk (mvR (X.t (i (o (o (o z)))))) (.some (o (i (o (o z))))) Gd.no [],
   .mk (mvR (X.t (o z))) (.some (i (i (o (o z))))) (Gd.on (o (i (o (o z)))) false) [],
   .mk (binR Tryd.prog EK.no .none true BinOp.eql (X.t (i (i (o (o z))))) (X.c (AV.int .i64 10))) (.some (o (o (i (o z))))) (Gd.on (o (i (o (o z)))) false) [],
   .mk (pickR (X.t (o (i (o (o z))))) (X.c (AV.bool true)) (X.t (o (o (i (o z)))))) (.some (i (o (i (o z))))) Gd.no [],
   .mk (mvR (X.t (i (o (i (o z)))))) (.some (i (o z))) Gd.no []])
  .ret)))
theorem C22ok : (match Tryd.f22.body with | some c => comp Tryd.prog 21 c | none => none) = some C22 := by kernel_rfl
@[go_sem] theorem call22 (args : List AV) (H : Heap) : callC Tryd.prog 22 args H = .call 22 args := callC_ok (by kernel_rfl) args H
theorem R22ok : resKs Tryd.prog Tryd.f22.results.toList = some [(RK.tmp (i (o z)))] := by kernel_rfl

@[go_sem] theorem call23 (args : List AV) (H : Heap) : callC Tryd.prog 23 args H = .call 23 args := callC_ok (by kernel_rfl) args H
@[go_sem] theorem call26 (args : List AV) (H : Heap) : callC Tryd.prog 26 args H = .call 26 args := callC_ok (by kernel_rfl) args H
@[go_sem] theorem call29 (args : List AV) (H : Heap) : callC Tryd.prog 29 args H = .call 29 args := callC_ok (by kernel_rfl) args H
@[go_sem] theorem call32 (args : List AV) (H : Heap) : callC Tryd.prog 32 args H = .call 32 args := callC_ok (by kernel_rfl) args H
noncomputable def C39 : CC :=
  (.seq (.region [.mk (mvR (X.c (AV.str []))) (.some (i (o z))) Gd.no []])
  (.seq (.seq (.region [.mk (mvR (X.t z)) (.some (o (i z))) Gd.no [],
   .mk (binR Tryd.prog EK.no .none true BinOp.eql (X.t (o (i z))) (X.c (AV.str []))) (.some (i (i z))) Gd.no [],
   .mk (mvR (X.t (i (i z)))) (.some (o (o (o z)))) Gd.no [],
   .mk (mvR (X.t (o z))) (.some (i (o (o z)))) (Gd.on (o (o (o z))) false) [],
   .mk (binR Tryd.prog EK.no .none true BinOp.neq (X.t (i (o (o z)))) (X.c (AV.str []))) (.some (o (i (o z)))) (Gd.on (o (o (o z))) false) [],
   .mk (mvR (X.t (o (i (o z))))) (.some (i (i (o z)))) (Gd.on (o (o (o z))) false) [],
   .mk (mvR (X.t (o z))) (.some (o (o (i z)))) (Gd.on (i (i (o z))) true) [],
   .mk (mvR (X.t z)) (.some (i (o (i z)))) (Gd.on (i (i (o z))) true) [],
   .mk (binR Tryd.prog EK.no .none false BinOp.lss (X.t (o (o (i z)))) (X.t (i (o (i z))))) (.some (o (i (i z)))) (Gd.on (i (i (o z))) true) [],
   .mk (pickR (X.t (i (i (o z)))) (X.t (o (i (i z)))) (X.c (AV.bool false))) (.some (i (i (i z)))) (Gd.on (o (o (o z))) false) [],
   .mk (pickR (X.t (o (o (o z)))) (X.c (AV.bool true)) (X.t (i (i (i z))))) (.some (o (o (o (o z))))) Gd.no []])
  (.cond (X.t (o (o (o (o z)))))
  (.seq (.region [.mk (mvR (X.t (o z))) (.some (i (o (o (o z))))) Gd.no [],
   .mk (mvR (X.t (i (o (o (o z)))))) (.some (i (o z))) Gd.no []])
  .ret)
  .skip))
  (.seq (.region [.mk (mvR (X.t z)) (.some (o (i (o (o z))))) Gd.no [],
   .mk (mvR (X.t (o (i (o (o z)))))) (.some (i (o z))) Gd.no []])
  .ret)))
theorem C39ok : (match Tryd.f39.body with | some c => comp Tryd.prog 18 c | none => none) = some C39 := by kernel_rfl
@[go_sem] theorem call39 (args : List AV) (H : Heap) : callC Tryd.prog 39 args H = .call 39 args := callC_ok (by kernel_rfl) args H
theorem R39ok : resKs Tryd.prog Tryd.f39.results.toList = some [(RK.tmp (i (o z)))] := by kernel_rfl

@[go_sem] theorem call44 (args : List AV) (H : Heap) : callC Tryd.prog 44 args H = .call 44 args := callC_ok (by kernel_rfl) args H
@[go_sem] theorem call46 (args : List AV) (H : Heap) : callC Tryd.prog 46 args H = .call 46 args := callC_ok (by kernel_rfl) args H
@[go_sem] theorem call49 (args : List AV) (H : Heap) : callC Tryd.prog 49 args H = .call 49 args := callC_ok (by kernel_rfl) args H
end Go.Proofs
/- The laid-out code of the functions that are walked. Printed by a program. -/

set_option linter.all false
set_option maxRecDepth 100000
namespace Go.Proofs
open Go Go.Ev K
noncomputable def C15L0 : CC :=
  (.seq (.seq (.region [.mk (mvR (X.t (o (i z)))) (.some (o (o (i z)))) Gd.no [],
   .mk (mvR (X.t z)) (.some (i (o (i z)))) Gd.no [],
   .mk (lenR LnK.slice (X.t (i (o (i z))))) (.some (o (i (i z)))) Gd.no [],
   .mk (binR Tryd.prog EK.no .none false BinOp.lss (X.t (o (o (i z)))) (X.t (o (i (i z))))) (.some (i (i (i z)))) Gd.no []])
  (.cond (X.t (i (i (i z))))
  .skip
  (.exit 0)))
  (.seq (.block 1 (.seq (.regionD [.mk (keepH (mvR (X.t (o (i z))))) (.some (i (i (i (o z))))) Gd.no [],
   .mk (keepH (mvR (X.t (o z)))) (.some (o (i (i (o z))))) Gd.no [],
   .mk (keepH (iaS 2 (X.t (o (i (i (o z))))) (X.t (i (i (i (o z))))))) (.some (o (o (o (i z))))) Gd.no [],
   .mk (keepH (ldR true 2 (X.t (o (o (o (i z))))))) (.some (i (o (o (i z))))) Gd.no [],
   .mk (keepH (mvR (X.t (o (i z))))) (.some (i (i (o (o z))))) Gd.no [],
   .mk (keepH (mvR (X.t z))) (.some (o (i (o (o z))))) Gd.no [],
   .mk (keepH (iaS 2 (X.t (o (i (o (o z))))) (X.t (i (i (o (o z))))))) (.some (o (o (i (o z))))) Gd.no [],
   .mk (keepH (ldR true 2 (X.t (o (o (i (o z))))))) (.some (i (o (i (o z))))) Gd.no [],
   .mk (keepH (binR Tryd.prog EK.no (.some [LK.str, LK.int]) false BinOp.neq (X.t (i (o (i (o z))))) (X.t (i (o (o (i z))))))) (.some (o (i (o (i z))))) Gd.no []])
  (.cond (X.t (o (i (o (i z)))))
  (.seq (.region [.mk (mvR (X.c (AV.bool false))) (.some (i (o z))) Gd.no []])
  .ret)
  .skip)))
  (.region [.mk (mvR (X.t (o (i z)))) (.some (o (o (o (o z))))) Gd.no [],
   .mk (binR Tryd.prog EK.no .none true BinOp.add (X.t (o (o (o (o z))))) (X.c (AV.int .i64 1))) (.some (i (o (o (o z))))) Gd.no [],
   .mk (mvR (X.t (i (o (o (o z)))))) (.some (o (i z))) Gd.no []])))
noncomputable def C15 : CC :=
  (.seq (.region [.mk (mvR (X.c (AV.bool false))) (.some (i (o z))) Gd.no []])
  (.seq (.seq (.region [.mk (mvR (X.t z)) (.some (i (i z))) Gd.no [],
   .mk (lenR LnK.slice (X.t (i (i z)))) (.some (o (o (o z)))) Gd.no [],
   .mk (mvR (X.t (o z))) (.some (i (o (o z)))) Gd.no [],
   .mk (lenR LnK.slice (X.t (i (o (o z))))) (.some (o (i (o z)))) Gd.no [],
   .mk (binR Tryd.prog EK.no .none false BinOp.neq (X.t (o (o (o z)))) (X.t (o (i (o z))))) (.some (i (i (o z)))) Gd.no []])
  (.cond (X.t (i (i (o z))))
  (.seq (.region [.mk (mvR (X.c (AV.bool false))) (.some (i (o z))) Gd.no []])
  .ret)
  .skip))
  (.seq (.seq (.region [.mk (mvR (X.c (AV.int .i64 0))) (.some (o (i z))) Gd.no []])
  (.block 0 (.loop C15L0)))
  (.seq (.region [.mk (mvR (X.c (AV.bool true))) (.some (i (o z))) Gd.no []])
  .ret))))
theorem C15ok : (match Tryd.f15.body with | some c => comp Tryd.prog 26 c | none => none) = some C15 := by kernel_rfl
@[go_sem] theorem call15 (args : List AV) (H : Heap) : callC Tryd.prog 15 args H = .call 15 args := callC_ok (by kernel_rfl) args H
theorem R15ok : resKs Tryd.prog Tryd.f15.results.toList = some [(RK.tmp (i (o z)))] := by kernel_rfl

@[go_sem] theorem call24 (args : List AV) (H : Heap) : callC Tryd.prog 24 args H = .call 24 args := callC_ok (by kernel_rfl) args H
@[go_sem] theorem call25 (args : List AV) (H : Heap) : callC Tryd.prog 25 args H = .call 25 args := callC_ok (by kernel_rfl) args H
noncomputable def C27 : CC :=
  (.seq (.region [.mk (boxR false (X.t z)) (.some (i z)) Gd.no [],
   .mk (mvR (X.c (AV.bool false))) (.some (i (o z))) Gd.no []])
  (.seq (.region [.mk (ldR true 2 (X.t (i z))) (.some (o (i z))) Gd.no [],
   .mk (callS Tryd.prog 40 [(X.t (o (i z)))]) (.some (i (i z))) Gd.no [],
   .mk (mvR (X.t (i (i z)))) (.some (o (o (o z)))) Gd.no [],
   .mk (mvR (X.t (o z))) (.some (i (o (o z)))) (Gd.on (o (o (o z))) true) [],
   .mk (callS Tryd.prog 57 [(X.t (i (o (o z))))]) (.some (o (i (o z)))) (Gd.on (o (o (o z))) true) [],
   .mk (pickR (X.t (o (o (o z)))) (X.t (o (i (o z)))) (X.c (AV.bool false))) (.some (i (i (o z)))) Gd.no [],
   .mk (mvR (X.t (i (i (o z))))) (.some (o (o (i z)))) Gd.no [],
   .mk (mvR (X.t (o z))) (.some (i (o (i z)))) (Gd.on (o (o (i z))) true) [],
   .mk (faR 0 (X.t (i z))) (.some (o (i (i z)))) (Gd.on (o (o (i z))) true) [],
   .mk (ldR false 1 (X.t (o (i (i z))))) (.some (i (i (i z)))) (Gd.on (o (o (i z))) true) [],
   .mk (binR Tryd.prog EK.no .none false BinOp.geq (X.t (i (o (i z)))) (X.t (i (i (i z))))) (.some (o (o (o (o z))))) (Gd.on (o (o (i z))) true) [],
   .mk (pickR (X.t (o (o (i z)))) (X.t (o (o (o (o z))))) (X.c (AV.bool false))) (.some (i (o (o (o z))))) Gd.no [],
   .mk (mvR (X.t (i (o (o (o z)))))) (.some (o (i (o (o z))))) Gd.no [],
   .mk (faR 1 (X.t (i z))) (.some (i (i (o (o z))))) (Gd.on (o (i (o (o z)))) true) [],
   .mk (ldR false 1 (X.t (i (i (o (o z)))))) (.some (o (o (i (o z))))) (Gd.on (o (i (o (o z)))) true) [],
   .mk (binR Tryd.prog EK.no .none true BinOp.eql (X.t (o (o (i (o z))))) (X.c (AV.str []))) (.some (i (o (i (o z))))) (Gd.on (o (i (o (o z)))) true) [],
   .mk (mvR (X.t (i (o (i (o z)))))) (.some (o (i (i (o z))))) (Gd.on (o (i (o (o z)))) true) [],
   .mk (mvR (X.t (o z))) (.some (i (i (i (o z))))) (Gd.on (o (i (i (o z)))) false) [],
   .mk (faR 1 (X.t (i z))) (.some (o (o (o (i z))))) (Gd.on (o (i (i (o z)))) false) [],
   .mk (ldR false 1 (X.t (o (o (o (i z)))))) (.some (i (o (o (i z))))) (Gd.on (o (i (i (o z)))) false) [],
   .mk (binR Tryd.prog EK.no .none false BinOp.lss (X.t (i (i (i (o z))))) (X.t (i (o (o (i z)))))) (.some (o (i (o (i z))))) (Gd.on (o (i (i (o z)))) false) [],
   .mk (pickR (X.t (o (i (i (o z))))) (X.c (AV.bool true)) (X.t (o (i (o (i z)))))) (.some (i (i (o (i z))))) (Gd.on (o (i (o (o z)))) true) [],
   .mk (pickR (X.t (o (i (o (o z))))) (X.t (i (i (o (i z))))) (X.c (AV.bool false))) (.some (o (o (i (i z))))) Gd.no [],
   .mk (mvR (X.t (o (o (i (i z)))))) (.some (i (o z))) Gd.no []])
  .ret))
theorem C27ok : (match Tryd.f27.body with | some c => comp Tryd.prog 28 c | none => none) = some C27 := by kernel_rfl
@[go_sem] theorem call27 (args : List AV) (H : Heap) : callC Tryd.prog 27 args H = .call 27 args := callC_ok (by kernel_rfl) args H
theorem R27ok : resKs Tryd.prog Tryd.f27.results.toList = some [(RK.tmp (i (o z)))] := by kernel_rfl

@[go_sem] theorem call28 (args : List AV) (H : Heap) : callC Tryd.prog 28 args H = .call 28 args := callC_ok (by kernel_rfl) args H
@[go_sem] theorem call33 (args : List AV) (H : Heap) : callC Tryd.prog 33 args H = .call 33 args := callC_ok (by kernel_rfl) args H
noncomputable def C38L0 : CC :=
  (.seq (.region [.mk (binR Tryd.prog EK.no .none false BinOp.lss (X.t (i (i (o z)))) (X.t (o (i (o z))))) (.some (o (o (i z)))) Gd.no []])
  (.seq (.cond (X.t (o (o (i z))))
  .skip
  (.exit 0))
  (.seq (.block 1 (.seq (.region [.mk (iaS 2 (X.t (i (o (o z)))) (X.t (i (i (o z))))) (.some (i (o (i z)))) Gd.no [],
   .mk (ldR true 2 (X.t (i (o (i z))))) (.some (o (i (i z)))) Gd.no [],
   .mk (fun _ H => newC false [(AV.str []), (AV.int .i64 0)] H) (.some (o (o (o z)))) Gd.no [],
   .mk (stR 2 (X.t (o (o (o z)))) (X.t (o (i (i z))))) .none Gd.no []])
  (.seq (.region [.mk (ldR true 2 (X.t (o (o z)))) (.some (i (i (i z)))) Gd.no [],
   .mk (faR 0 (X.t (o (o (o z))))) (.some (o (o (o (o z))))) Gd.no [],
   .mk (ldR false 1 (X.t (o (o (o (o z)))))) (.some (i (o (o (o z))))) Gd.no [],
   .mk (callS Tryd.prog 65 [(X.t (i (i (i z)))), (X.t (i (o (o (o z)))))]) (.some (o (i (o (o z))))) Gd.no []])
  (.cond (X.t (o (i (o (o z)))))
  (.region [.mk (mvR (X.t (o (i z)))) (.some (i (i (o (o z))))) Gd.no [],
   .mk (ldR true 2 (X.t (o (o (o z))))) (.some (o (o (i (o z))))) Gd.no [],
   .mk (bslR 2 1 [(AV.str []), (AV.int .i64 0)] [(0, (X.t (o (o (i (o z))))))]) (.some (i (o (i (o z))))) Gd.no [],
   .mk (appR 2 24 (X.t (i (i (o (o z))))) (X.t (i (o (i (o z)))))) (.some (o (i (i (o z))))) Gd.no [],
   .mk (mvR (X.t (o (i (i (o z)))))) (.some (o (i z))) Gd.no []])
  .skip))))
  (.region [.mk (binR Tryd.prog EK.no .none true BinOp.add (X.t (i (i (o z)))) (X.c (AV.int .i64 1))) (.some (i (i (i (o z))))) Gd.no [],
   .mk (mvR (X.t (i (i (i (o z)))))) (.some (i (i (o z)))) Gd.no []]))))
noncomputable def C38 : CC :=
  (.seq (.region [.mk (boxR false (X.t (o z))) (.some (o (o z))) Gd.no [],
   .mk (mvR (X.c AV.nils)) (.some (i (o z))) Gd.no []])
  (.seq (.region [.mk (mvR (X.c AV.nils)) (.some (o (i z))) Gd.no []])
  (.seq (.seq (.region [.mk (mvR (X.t z)) (.some (i (o (o z)))) Gd.no [],
   .mk (lenR LnK.slice (X.t (i (o (o z))))) (.some (o (i (o z)))) Gd.no [],
   .mk (mvR (X.c (AV.int .i64 0))) (.some (i (i (o z)))) Gd.no []])
  (.block 0 (.loop C38L0)))
  (.seq (.region [.mk (mvR (X.t (o (i z)))) (.some (o (o (o (i z))))) Gd.no [],
   .mk (mvR (X.t (o (o (o (i z)))))) (.some (i (o z))) Gd.no []])
  .ret))))
theorem C38ok : (match Tryd.f38.body with | some c => comp Tryd.prog 24 c | none => none) = some C38 := by kernel_rfl
@[go_sem] theorem call38 (args : List AV) (H : Heap) : callC Tryd.prog 38 args H = .call 38 args := callC_ok (by kernel_rfl) args H
theorem R38ok : resKs Tryd.prog Tryd.f38.results.toList = some [(RK.tmp (i (o z)))] := by kernel_rfl

noncomputable def C40 : CC :=
  (.seq (.region [.mk (boxR false (X.t z)) (.some (o z)) Gd.no [],
   .mk (mvR (X.c (AV.bool false))) (.some (i z)) Gd.no []])
  (.seq (.region [.mk (faR 0 (X.t (o z))) (.some (o (o z))) Gd.no [],
   .mk (ldR false 1 (X.t (o (o z)))) (.some (i (o z))) Gd.no [],
   .mk (lenR LnK.str (X.t (i (o z)))) (.some (o (i z))) Gd.no [],
   .mk (binR Tryd.prog EK.no .none true BinOp.leq (X.t (o (i z))) (X.c (AV.int .i64 8))) (.some (i (i z))) Gd.no [],
   .mk (mvR (X.t (i (i z)))) (.some (o (o (o z)))) Gd.no [],
   .mk (faR 1 (X.t (o z))) (.some (i (o (o z)))) (Gd.on (o (o (o z))) true) [],
   .mk (ldR false 1 (X.t (i (o (o z))))) (.some (o (i (o z)))) (Gd.on (o (o (o z))) true) [],
   .mk (lenR LnK.str (X.t (o (i (o z))))) (.some (i (i (o z)))) (Gd.on (o (o (o z))) true) [],
   .mk (binR Tryd.prog EK.no .none true BinOp.leq (X.t (i (i (o z)))) (X.c (AV.int .i64 8))) (.some (o (o (i z)))) (Gd.on (o (o (o z))) true) [],
   .mk (pickR (X.t (o (o (o z)))) (X.t (o (o (i z)))) (X.c (AV.bool false))) (.some (i (o (i z)))) Gd.no [],
   .mk (mvR (X.t (i (o (i z))))) (.some (o (i (i z)))) Gd.no [],
   .mk (faR 1 (X.t (o z))) (.some (i (i (i z)))) (Gd.on (o (i (i z))) true) [],
   .mk (ldR false 1 (X.t (i (i (i z))))) (.some (o (o (o (o z))))) (Gd.on (o (i (i z))) true) [],
   .mk (binR Tryd.prog EK.no .none true BinOp.eql (X.t (o (o (o (o z))))) (X.c (AV.str []))) (.some (i (o (o (o z))))) (Gd.on (o (i (i z))) true) [],
   .mk (mvR (X.t (i (o (o (o z)))))) (.some (o (i (o (o z))))) (Gd.on (o (i (i z))) true) [],
   .mk (faR 0 (X.t (o z))) (.some (i (i (o (o z))))) (Gd.on (o (i (o (o z)))) false) [],
   .mk (ldR false 1 (X.t (i (i (o (o z)))))) (.some (o (o (i (o z))))) (Gd.on (o (i (o (o z)))) false) [],
   .mk (faR 1 (X.t (o z))) (.some (i (o (i (o z))))) (Gd.on (o (i (o (o z)))) false) [],
   .mk (ldR false 1 (X.t (i (o (i (o z)))))) (.some (o (i (i (o z))))) (Gd.on (o (i (o (o z)))) false) [],
   .mk (binR Tryd.prog EK.no .none false BinOp.lss (X.t (o (o (i (o z))))) (X.t (o (i (i (o z)))))) (.some (i (i (i (o z))))) (Gd.on (o (i (o (o z)))) false) [],
   .mk (pickR (X.t (o (i (o (o z))))) (X.c (AV.bool true)) (X.t (i (i (i (o z)))))) (.some (o (o (o (i z))))) (Gd.on (o (i (i z))) true) [],
   .mk (pickR (X.t (o (i (i z)))) (X.t (o (o (o (i z))))) (X.c (AV.bool false))) (.some (i (o (o (i z))))) Gd.no [],
   .mk (mvR (X.t (i (o (o (i z)))))) (.some (i z)) Gd.no []])
  .ret))
theorem C40ok : (match Tryd.f40.body with | some c => comp Tryd.prog 25 c | none => none) = some C40 := by kernel_rfl
@[go_sem] theorem call40 (args : List AV) (H : Heap) : callC Tryd.prog 40 args H = .call 40 args := callC_ok (by kernel_rfl) args H
theorem R40ok : resKs Tryd.prog Tryd.f40.results.toList = some [(RK.tmp (i z))] := by kernel_rfl

@[go_sem] theorem call41 (args : List AV) (H : Heap) : callC Tryd.prog 41 args H = .call 41 args := callC_ok (by kernel_rfl) args H
noncomputable def C57 : CC :=
  (.seq (.region [.mk (mvR (X.c (AV.bool false))) (.some (i z)) Gd.no []])
  (.seq (.region [.mk (mvR (X.t z)) (.some (o (o z))) Gd.no [],
   .mk (lenR LnK.str (X.t (o (o z)))) (.some (i (o z))) Gd.no [],
   .mk (binR Tryd.prog EK.no .none true BinOp.geq (X.t (i (o z))) (X.c (AV.int .i64 1))) (.some (o (i z))) Gd.no [],
   .mk (mvR (X.t (o (i z)))) (.some (i (i z))) Gd.no [],
   .mk (mvR (X.t z)) (.some (o (o (o z)))) (Gd.on (i (i z)) true) [],
   .mk (lenR LnK.str (X.t (o (o (o z))))) (.some (i (o (o z)))) (Gd.on (i (i z)) true) [],
   .mk (binR Tryd.prog EK.no .none true BinOp.leq (X.t (i (o (o z)))) (X.c (AV.int .i64 8))) (.some (o (i (o z)))) (Gd.on (i (i z)) true) [],
   .mk (pickR (X.t (i (i z))) (X.t (o (i (o z)))) (X.c (AV.bool false))) (.some (i (i (o z)))) Gd.no [],
   .mk (mvR (X.t (i (i (o z))))) (.some (i z)) Gd.no []])
  .ret))
theorem C57ok : (match Tryd.f57.body with | some c => comp Tryd.prog 11 c | none => none) = some C57 := by kernel_rfl
@[go_sem] theorem call57 (args : List AV) (H : Heap) : callC Tryd.prog 57 args H = .call 57 args := callC_ok (by kernel_rfl) args H
theorem R57ok : resKs Tryd.prog Tryd.f57.results.toList = some [(RK.tmp (i z))] := by kernel_rfl

noncomputable def C59 : CC :=
  (.seq (.region [.mk (boxR false (X.t z)) (.some (o z)) Gd.no [],
   .mk (mvR (X.c (AV.bool false))) (.some (i z)) Gd.no []])
  (.seq (.block 0 (.seq (.block 2 (.block 1 (.seq (.seq (.seq (.region [.mk (faR 0 (X.t (o z))) (.some (i (o z))) Gd.no [],
   .mk (ldR false 1 (X.t (i (o z)))) (.some (o (i z))) Gd.no [],
   .mk (lenR LnK.str (X.t (o (i z)))) (.some (i (i z))) Gd.no [],
   .mk (binR Tryd.prog EK.no .none true BinOp.gtr (X.t (i (i z))) (X.c (AV.int .i64 8))) (.some (o (o (o z)))) Gd.no [],
   .mk (mvR (X.t (o (o (o z))))) (.some (o (o z))) Gd.no []])
  (.cond (X.t (o (o z)))
  (.exit 1)
  .skip))
  (.seq (.region [.mk (faR 1 (X.t (o z))) (.some (o (i (o z)))) Gd.no [],
   .mk (ldR false 1 (X.t (o (i (o z))))) (.some (i (i (o z)))) Gd.no [],
   .mk (lenR LnK.str (X.t (i (i (o z))))) (.some (o (o (i z)))) Gd.no [],
   .mk (binR Tryd.prog EK.no .none true BinOp.gtr (X.t (o (o (i z)))) (X.c (AV.int .i64 8))) (.some (i (o (i z)))) Gd.no [],
   .mk (mvR (X.t (i (o (i z))))) (.some (i (o (o z)))) Gd.no []])
  (.cond (X.t (i (o (o z))))
  (.exit 2)
  .skip)))
  (.exit 0))))
  (.seq (.seq (.region [.mk (mvR (X.c (AV.bool false))) (.some (i z)) Gd.no []])
  .ret)
  (.exit 0))))
  (.seq (.region [.mk (faR 1 (X.t (o z))) (.some (o (i (i z)))) Gd.no [],
   .mk (ldR false 1 (X.t (o (i (i z))))) (.some (i (i (i z)))) Gd.no [],
   .mk (binR Tryd.prog EK.no .none true BinOp.eql (X.t (i (i (i z)))) (X.c (AV.str []))) (.some (o (o (o (o z))))) Gd.no [],
   .mk (mvR (X.t (o (o (o (o z)))))) (.some (i (o (o (o z))))) Gd.no [],
   .mk (faR 1 (X.t (o z))) (.some (o (i (o (o z))))) (Gd.on (i (o (o (o z)))) false) [],
   .mk (ldR false 1 (X.t (o (i (o (o z)))))) (.some (i (i (o (o z))))) (Gd.on (i (o (o (o z)))) false) [],
   .mk (faR 0 (X.t (o z))) (.some (o (o (i (o z))))) (Gd.on (i (o (o (o z)))) false) [],
   .mk (ldR false 1 (X.t (o (o (i (o z)))))) (.some (i (o (i (o z))))) (Gd.on (i (o (o (o z)))) false) [],
   .mk (binR Tryd.prog EK.no .none false BinOp.gtr (X.t (i (i (o (o z))))) (X.t (i (o (i (o z)))))) (.some (o (i (i (o z))))) (Gd.on (i (o (o (o z)))) false) [],
   .mk (pickR (X.t (i (o (o (o z))))) (X.c (AV.bool true)) (X.t (o (i (i (o z)))))) (.some (i (i (i (o z))))) Gd.no [],
   .mk (mvR (X.t (i (i (i (o z)))))) (.some (i z)) Gd.no []])
  .ret)))
theorem C59ok : (match Tryd.f59.body with | some c => comp Tryd.prog 23 c | none => none) = some C59 := by kernel_rfl
@[go_sem] theorem call59 (args : List AV) (H : Heap) : callC Tryd.prog 59 args H = .call 59 args := callC_ok (by kernel_rfl) args H
theorem R59ok : resKs Tryd.prog Tryd.f59.results.toList = some [(RK.tmp (i z))] := by kernel_rfl

noncomputable def C60L0 : CC :=
  (.seq (.region [.mk (binR Tryd.prog EK.no .none false BinOp.lss (X.t (o (o (o z)))) (X.t (i (i z)))) (.some (i (o (o z)))) Gd.no []])
  (.seq (.cond (X.t (i (o (o z))))
  .skip
  (.exit 0))
  (.seq (.block 1 (.seq (.region [.mk (mvR (X.t (o (o (o z))))) (.some (o (i (o z)))) Gd.no [],
   .mk (iaS 2 (X.t (o (i z))) (X.t (o (o (o z))))) (.some (i (i (o z)))) Gd.no [],
   .mk (ldR true 2 (X.t (i (i (o z))))) (.some (o (o (i z)))) Gd.no [],
   .mk (fun _ H => newC false [(AV.str []), (AV.int .i64 0)] H) (.some (i (o z))) Gd.no [],
   .mk (mvR (X.t (o (i (o z))))) (.some (o (o z))) Gd.no [],
   .mk (stR 2 (X.t (i (o z))) (X.t (o (o (i z))))) .none Gd.no []])
  (.block 2 (.seq (.block 5 (.block 4 (.block 3 (.seq (.seq (.seq (.region [.mk (faR 0 (X.t (i (o z)))) (.some (o (i (i z)))) Gd.no [],
   .mk (ldR false 1 (X.t (o (i (i z))))) (.some (i (i (i z)))) Gd.no [],
   .mk (callS Tryd.prog 81 [(X.t (i (i (i z))))]) (.some (o (o (o (o z))))) Gd.no [],
   .mk (unR UnOp.not (X.t (o (o (o (o z)))))) (.some (i (o (o (o z))))) Gd.no [],
   .mk (mvR (X.t (i (o (o (o z)))))) (.some (i (o (i z)))) Gd.no []])
  (.cond (X.t (i (o (i z))))
  (.exit 3)
  .skip))
  (.seq (.seq (.region [.mk (faR 1 (X.t (i (o z)))) (.some (i (i (o (o z))))) Gd.no [],
   .mk (ldR false 1 (X.t (i (i (o (o z)))))) (.some (o (o (i (o z))))) Gd.no [],
   .mk (binR Tryd.prog EK.no .none true BinOp.lss (X.t (o (o (i (o z))))) (X.c (AV.int .i64 0))) (.some (i (o (i (o z))))) Gd.no [],
   .mk (mvR (X.t (i (o (i (o z)))))) (.some (o (i (i (o z))))) Gd.no [],
   .mk (faR 1 (X.t (i (o z)))) (.some (i (i (i (o z))))) (Gd.on (o (i (i (o z)))) false) [],
   .mk (ldR false 1 (X.t (i (i (i (o z)))))) (.some (o (o (o (i z))))) (Gd.on (o (i (i (o z)))) false) [],
   .mk (binR Tryd.prog EK.no .none true BinOp.gtr (X.t (o (o (o (i z))))) (X.c (AV.int .i64 1000000000000))) (.some (i (o (o (i z))))) (Gd.on (o (i (i (o z)))) false) [],
   .mk (pickR (X.t (o (i (i (o z))))) (X.c (AV.bool true)) (X.t (i (o (o (i z)))))) (.some (o (i (o (i z))))) Gd.no [],
   .mk (mvR (X.t (o (i (o (i z)))))) (.some (o (i (o (o z))))) Gd.no []])
  (.cond (X.t (o (i (o (o z)))))
  (.exit 4)
  .skip))
  (.seq (.regionD [.mk (keepH (mvR (X.t (o (o z))))) (.some (o (o (i (i z))))) Gd.no [],
   .mk (keepH (binR Tryd.prog EK.no .none true BinOp.gtr (X.t (o (o (i (i z))))) (X.c (AV.int .i64 0)))) (.some (i (o (i (i z))))) Gd.no [],
   .mk (keepH (mvR (X.t (i (o (i (i z))))))) (.some (o (i (i (i z))))) Gd.no [],
   .mk (keepH (faR 0 (X.t (i (o z))))) (.some (i (o (i (o (o z)))))) (Gd.on (o (i (i (i z)))) true) [],
   .mk (keepH (ldR false 1 (X.t (i (o (i (o (o z)))))))) (.some (o (i (i (o (o z)))))) (Gd.on (o (i (i (i z)))) true) [],
   .mk (keepH (mvR (X.t (o (o z))))) (.some (o (o (o (o (o z)))))) (Gd.on (o (i (i (i z)))) true) [],
   .mk (keepH (binR Tryd.prog EK.no .none true BinOp.sub (X.t (o (o (o (o (o z)))))) (X.c (AV.int .i64 1)))) (.some (i (o (o (o (o z)))))) (Gd.on (o (i (i (i z)))) true) [],
   .mk (keepH (mvR (X.t z))) (.some (i (i (i (i z))))) (Gd.on (o (i (i (i z)))) true) [],
   .mk (keepH (iaS 2 (X.t (i (i (i (i z))))) (X.t (i (o (o (o (o z)))))))) (.some (o (i (o (o (o z)))))) (Gd.on (o (i (i (i z)))) true) [],
   .mk (keepH (faR 0 (X.t (o (i (o (o (o z)))))))) (.some (i (i (o (o (o z)))))) (Gd.on (o (i (i (i z)))) true) [],
   .mk (keepH (ldR false 1 (X.t (i (i (o (o (o z)))))))) (.some (o (o (i (o (o z)))))) (Gd.on (o (i (i (i z)))) true) [],
   .mk (keepH (binR Tryd.prog EK.no .none false BinOp.geq (X.t (o (o (i (o (o z)))))) (X.t (o (i (i (o (o z)))))))) (.some (i (i (i (o (o z)))))) (Gd.on (o (i (i (i z)))) true) [],
   .mk (keepH (pickR (X.t (o (i (i (i z))))) (X.t (i (i (i (o (o z)))))) (X.c (AV.bool false)))) (.some (o (o (o (i (o z)))))) Gd.no [],
   .mk (mvR (X.t (o (o (o (i (o z))))))) (.some (i (i (o (i z))))) Gd.no []])
  (.cond (X.t (i (i (o (i z)))))
  (.exit 5)
  .skip))))
  (.exit 2)))))
  (.seq (.seq (.region [.mk (mvR (X.c (AV.bool false))) (.some (i z)) Gd.no []])
  .ret)
  (.exit 2))))))
  (.region [.mk (binR Tryd.prog EK.no .none true BinOp.add (X.t (o (o (o z)))) (X.c (AV.int .i64 1))) (.some (i (o (o (i (o z)))))) Gd.no [],
   .mk (mvR (X.t (i (o (o (i (o z))))))) (.some (o (o (o z)))) Gd.no []]))))
noncomputable def C60 : CC :=
  (.seq (.region [.mk (mvR (X.c (AV.bool false))) (.some (i z)) Gd.no []])
  (.seq (.seq (.region [.mk (mvR (X.t z)) (.some (o (i z))) Gd.no [],
   .mk (lenR LnK.slice (X.t (o (i z)))) (.some (i (i z))) Gd.no [],
   .mk (mvR (X.c (AV.int .i64 0))) (.some (o (o (o z)))) Gd.no []])
  (.block 0 (.loop C60L0)))
  (.seq (.region [.mk (mvR (X.c (AV.bool true))) (.some (i z)) Gd.no []])
  .ret)))
theorem C60ok : (match Tryd.f60.body with | some c => comp Tryd.prog 41 c | none => none) = some C60 := by kernel_rfl
@[go_sem] theorem call60 (args : List AV) (H : Heap) : callC Tryd.prog 60 args H = .call 60 args := callC_ok (by kernel_rfl) args H
theorem R60ok : resKs Tryd.prog Tryd.f60.results.toList = some [(RK.tmp (i z))] := by kernel_rfl

-- 61: no body
-- 62 "errors.is": not laid out

noncomputable def C65 : CC :=
  (.seq (.region [.mk (boxR false (X.t z)) (.some (i z)) Gd.no [],
   .mk (mvR (X.c (AV.bool false))) (.some (i (o z))) Gd.no []])
  (.seq (.region [.mk (ldR true 2 (X.t (i z))) (.some (o (i z))) Gd.no [],
   .mk (callS Tryd.prog 59 [(X.t (o (i z)))]) (.some (i (i z))) Gd.no [],
   .mk (mvR (X.t (i (i z)))) (.some (o (o (o z)))) Gd.no [],
   .mk (mvR (X.t (o z))) (.some (i (o (o z)))) (Gd.on (o (o (o z))) true) [],
   .mk (callS Tryd.prog 81 [(X.t (i (o (o z))))]) (.some (o (i (o z)))) (Gd.on (o (o (o z))) true) [],
   .mk (pickR (X.t (o (o (o z)))) (X.t (o (i (o z)))) (X.c (AV.bool false))) (.some (i (i (o z)))) Gd.no [],
   .mk (mvR (X.t (i (i (o z))))) (.some (o (o (i z)))) Gd.no [],
   .mk (mvR (X.t (o z))) (.some (i (o (i z)))) (Gd.on (o (o (i z))) true) [],
   .mk (faR 0 (X.t (i z))) (.some (o (i (i z)))) (Gd.on (o (o (i z))) true) [],
   .mk (ldR false 1 (X.t (o (i (i z))))) (.some (i (i (i z)))) (Gd.on (o (o (i z))) true) [],
   .mk (binR Tryd.prog EK.no .none false BinOp.geq (X.t (i (o (i z)))) (X.t (i (i (i z))))) (.some (o (o (o (o z))))) (Gd.on (o (o (i z))) true) [],
   .mk (pickR (X.t (o (o (i z)))) (X.t (o (o (o (o z))))) (X.c (AV.bool false))) (.some (i (o (o (o z))))) Gd.no [],
   .mk (mvR (X.t (i (o (o (o z)))))) (.some (o (i (o (o z))))) Gd.no [],
   .mk (faR 1 (X.t (i z))) (.some (i (i (o (o z))))) (Gd.on (o (i (o (o z)))) true) [],
   .mk (ldR false 1 (X.t (i (i (o (o z)))))) (.some (o (o (i (o z))))) (Gd.on (o (i (o (o z)))) true) [],
   .mk (binR Tryd.prog EK.no .none true BinOp.eql (X.t (o (o (i (o z))))) (X.c (AV.str []))) (.some (i (o (i (o z))))) (Gd.on (o (i (o (o z)))) true) [],
   .mk (mvR (X.t (i (o (i (o z)))))) (.some (o (i (i (o z))))) (Gd.on (o (i (o (o z)))) true) [],
   .mk (mvR (X.t (o z))) (.some (i (i (i (o z))))) (Gd.on (o (i (i (o z)))) false) [],
   .mk (faR 1 (X.t (i z))) (.some (o (o (o (i z))))) (Gd.on (o (i (i (o z)))) false) [],
   .mk (ldR false 1 (X.t (o (o (o (i z)))))) (.some (i (o (o (i z))))) (Gd.on (o (i (i (o z)))) false) [],
   .mk (binR Tryd.prog EK.no .none false BinOp.lss (X.t (i (i (i (o z))))) (X.t (i (o (o (i z)))))) (.some (o (i (o (i z))))) (Gd.on (o (i (i (o z)))) false) [],
   .mk (pickR (X.t (o (i (i (o z))))) (X.c (AV.bool true)) (X.t (o (i (o (i z)))))) (.some (i (i (o (i z))))) (Gd.on (o (i (o (o z)))) true) [],
   .mk (pickR (X.t (o (i (o (o z))))) (X.t (i (i (o (i z))))) (X.c (AV.bool false))) (.some (o (o (i (i z))))) Gd.no [],
   .mk (mvR (X.t (o (o (i (i z)))))) (.some (i (o z))) Gd.no []])
  .ret))
theorem C65ok : (match Tryd.f65.body with | some c => comp Tryd.prog 28 c | none => none) = some C65 := by kernel_rfl
@[go_sem] theorem call65 (args : List AV) (H : Heap) : callC Tryd.prog 65 args H = .call 65 args := callC_ok (by kernel_rfl) args H
theorem R65ok : resKs Tryd.prog Tryd.f65.results.toList = some [(RK.tmp (i (o z)))] := by kernel_rfl

noncomputable def C66L0 : CC :=
  (.seq (.region [.mk (binR Tryd.prog EK.no .none false BinOp.lss (X.t (o (i (o z)))) (X.t (i (o (o z))))) (.some (i (i (o z)))) Gd.no []])
  (.seq (.cond (X.t (i (i (o z))))
  .skip
  (.exit 0))
  (.seq (.block 1 (.seq (.region [.mk (iaS 2 (X.t (o (o (o z)))) (X.t (o (i (o z))))) (.some (o (o (i z)))) Gd.no [],
   .mk (ldR true 2 (X.t (o (o (i z))))) (.some (i (o (i z)))) Gd.no [],
   .mk (fun _ H => newC false [(AV.str []), (AV.int .i64 0)] H) (.some (i (i z))) Gd.no [],
   .mk (stR 2 (X.t (i (i z))) (X.t (i (o (i z))))) .none Gd.no []])
  (.seq (.region [.mk (faR 0 (X.t (i (i z)))) (.some (o (i (i z)))) Gd.no [],
   .mk (ldR false 1 (X.t (o (i (i z))))) (.some (i (i (i z)))) Gd.no [],
   .mk (mvR (X.t (o z))) (.some (o (o (o (o z))))) Gd.no [],
   .mk (binR Tryd.prog EK.no .none false BinOp.eql (X.t (i (i (i z)))) (X.t (o (o (o (o z)))))) (.some (i (o (o (o z))))) Gd.no []])
  (.cond (X.t (i (o (o (o z)))))
  (.seq (.region [.mk (faR 1 (X.t (i (i z)))) (.some (o (i (o (o z))))) Gd.no [],
   .mk (ldR false 1 (X.t (o (i (o (o z)))))) (.some (i (i (o (o z))))) Gd.no [],
   .mk (mvR (X.t (i (i (o (o z)))))) (.some (i (o z))) Gd.no []])
  .ret)
  .skip))))
  (.region [.mk (binR Tryd.prog EK.no .none true BinOp.add (X.t (o (i (o z)))) (X.c (AV.int .i64 1))) (.some (o (o (i (o z))))) Gd.no [],
   .mk (mvR (X.t (o (o (i (o z)))))) (.some (o (i (o z)))) Gd.no []]))))
noncomputable def C66 : CC :=
  (.seq (.region [.mk (mvR (X.c (AV.int .i64 0))) (.some (i (o z))) Gd.no []])
  (.seq (.seq (.region [.mk (mvR (X.t z)) (.some (o (o (o z)))) Gd.no [],
   .mk (lenR LnK.slice (X.t (o (o (o z))))) (.some (i (o (o z)))) Gd.no [],
   .mk (mvR (X.c (AV.int .i64 0))) (.some (o (i (o z)))) Gd.no []])
  (.block 0 (.loop C66L0)))
  (.seq (.region [.mk (mvR (X.c (AV.int .i64 0))) (.some (i (o z))) Gd.no []])
  .ret)))
theorem C66ok : (match Tryd.f66.body with | some c => comp Tryd.prog 20 c | none => none) = some C66 := by kernel_rfl
@[go_sem] theorem call66 (args : List AV) (H : Heap) : callC Tryd.prog 66 args H = .call 66 args := callC_ok (by kernel_rfl) args H
theorem R66ok : resKs Tryd.prog Tryd.f66.results.toList = some [(RK.tmp (i (o z)))] := by kernel_rfl

noncomputable def C67 : CC :=
  (.seq (.region [.mk (boxR false (X.t (o z))) (.some (o (o z))) Gd.no [],
   .mk (mvR (X.c AV.nils)) (.some (i (o z))) Gd.no []])
  (.seq (.seq (.region [.mk (mvR (X.t z)) (.some (i (o (o z)))) Gd.no [],
   .mk (callS Tryd.prog 60 [(X.t (i (o (o z))))]) (.some (o (i (o z)))) Gd.no [],
   .mk (unR UnOp.not (X.t (o (i (o z))))) (.some (i (i (o z)))) Gd.no []])
  (.cond (X.t (i (i (o z))))
  (.seq (.region [.mk (mvR (X.c AV.nils)) (.some (i (o z))) Gd.no []])
  .ret)
  .skip))
  (.seq (.region [.mk (mvR (X.t z)) (.some (o (o (i z)))) Gd.no [],
   .mk (callS Tryd.prog 33 [(X.t (o (o (i z))))]) (.some (i (o (i z)))) Gd.no [],
   .mk (mvR (X.t (i (o (i z))))) (.some (o (i z))) Gd.no []])
  (.seq (.region [.mk (mvR (X.t (o (i z)))) (.some (i (i (i z)))) Gd.no [],
   .mk (faR 0 (X.t (o (o z)))) (.some (o (o (o (o z))))) Gd.no [],
   .mk (ldR false 1 (X.t (o (o (o (o z)))))) (.some (i (o (o (o z))))) Gd.no [],
   .mk (callS Tryd.prog 83 [(X.t (i (i (i z)))), (X.t (i (o (o (o z)))))]) (.some (o (i (o (o z))))) Gd.no [],
   .mk (mvR (X.t (o (i (o (o z)))))) (.some (o (i (i z)))) Gd.no [],
   .mk (extR (X.t (o (i (i z)))) 0) (.some (i (i (o (o z))))) Gd.no [],
   .mk (extR (X.t (o (i (i z)))) 1) (.some (o (o (i (o z))))) Gd.no [],
   .mk (mvR (X.t (i (i (o (o z)))))) (.some (i (i z))) Gd.no [],
   .mk (mvR (X.t (o (o (i (o z)))))) (.some (o (o (o z)))) Gd.no []])
  (.seq (.seq (.region [.mk (mvR (X.t (o (o (o z))))) (.some (i (o (i (o z))))) Gd.no []])
  (.cond (X.t (i (o (i (o z)))))
  (.seq (.region [.mk (mvR (X.t (o (i z)))) (.some (o (i (i (o z))))) Gd.no [],
   .mk (mvR (X.t (i (i z)))) (.some (i (i (i (o z))))) Gd.no [],
   .mk (ldR true 2 (X.t (o (o z)))) (.some (o (o (o (i z))))) Gd.no [],
   .mk (iaS 2 (X.t (o (i (i (o z))))) (X.t (i (i (i (o z)))))) (.some (i (o (o (i z))))) Gd.no [],
   .mk (stR 2 (X.t (i (o (o (i z))))) (X.t (o (o (o (i z)))))) .none Gd.no []])
  (.seq (.region [.mk (mvR (X.t (o (i z)))) (.some (o (i (o (i z))))) Gd.no [],
   .mk (mvR (X.t (o (i (o (i z)))))) (.some (i (o z))) Gd.no []])
  .ret))
  .skip))
  (.seq (.region [.mk (mvR (X.t (o (i z)))) (.some (i (i (o (i z))))) Gd.no [],
   .mk (mvR (X.t (i (i z)))) (.some (o (o (i (i z))))) Gd.no [],
   .mk (ldR true 2 (X.t (o (o z)))) (.some (i (o (i (i z))))) Gd.no [],
   .mk (bslR 2 1 [(AV.str []), (AV.int .i64 0)] [(0, (X.t (i (o (i (i z))))))]) (.some (o (i (i (i z))))) Gd.no [],
   .mk (callS Tryd.prog 84 [(X.t (i (i (o (i z))))), (X.t (o (o (i (i z))))), (X.t (o (i (i (i z)))))]) (.some (i (i (i (i z))))) Gd.no [],
   .mk (mvR (X.t (i (i (i (i z)))))) (.some (i (o z))) Gd.no []])
  .ret))))))
theorem C67ok : (match Tryd.f67.body with | some c => comp Tryd.prog 31 c | none => none) = some C67 := by kernel_rfl
@[go_sem] theorem call67 (args : List AV) (H : Heap) : callC Tryd.prog 67 args H = .call 67 args := callC_ok (by kernel_rfl) args H
theorem R67ok : resKs Tryd.prog Tryd.f67.results.toList = some [(RK.tmp (i (o z)))] := by kernel_rfl

@[go_sem] theorem call79 (args : List AV) (H : Heap) : callC Tryd.prog 79 args H = .call 79 args := callC_ok (by kernel_rfl) args H
noncomputable def C81 : CC :=
  (.seq (.region [.mk (mvR (X.c (AV.bool false))) (.some (i z)) Gd.no []])
  (.seq (.region [.mk (mvR (X.t z)) (.some (o (o z))) Gd.no [],
   .mk (binR Tryd.prog EK.no .none true BinOp.neq (X.t (o (o z))) (X.c (AV.str []))) (.some (i (o z))) Gd.no [],
   .mk (mvR (X.t (i (o z)))) (.some (o (i z))) Gd.no [],
   .mk (mvR (X.t z)) (.some (i (i z))) (Gd.on (o (i z)) true) [],
   .mk (lenR LnK.str (X.t (i (i z)))) (.some (o (o (o z)))) (Gd.on (o (i z)) true) [],
   .mk (binR Tryd.prog EK.no .none true BinOp.leq (X.t (o (o (o z)))) (X.c (AV.int .i64 8))) (.some (i (o (o z)))) (Gd.on (o (i z)) true) [],
   .mk (pickR (X.t (o (i z))) (X.t (i (o (o z)))) (X.c (AV.bool false))) (.some (o (i (o z)))) Gd.no [],
   .mk (mvR (X.t (o (i (o z))))) (.some (i z)) Gd.no []])
  .ret))
theorem C81ok : (match Tryd.f81.body with | some c => comp Tryd.prog 10 c | none => none) = some C81 := by kernel_rfl
@[go_sem] theorem call81 (args : List AV) (H : Heap) : callC Tryd.prog 81 args H = .call 81 args := callC_ok (by kernel_rfl) args H
theorem R81ok : resKs Tryd.prog Tryd.f81.results.toList = some [(RK.tmp (i z))] := by kernel_rfl

noncomputable def C83 : CC :=
  (.seq (.region [.mk (mvR (X.c (AV.int .i64 0))) (.some (i (o z))) Gd.no [],
   .mk (mvR (X.c (AV.bool false))) (.some (o (i z))) Gd.no []])
  (.seq (.region [.mk (mvR (X.t z)) (.some (i (i z))) Gd.no [],
   .mk (mvR (X.t (o z))) (.some (o (o (o z)))) Gd.no [],
   .mk (callS Tryd.prog 95 [(X.t (i (i z))), (X.t (o (o (o z)))), (X.c (AV.fn (Fn.func 96) [] []))]) (.some (i (o (o z)))) Gd.no [],
   .mk (extR (X.t (i (o (o z)))) 0) (.some (o (i (o z)))) Gd.no [],
   .mk (extR (X.t (i (o (o z)))) 1) (.some (i (i (o z)))) Gd.no [],
   .mk (mvR (X.t (o (i (o z))))) (.some (i (o z))) Gd.no [],
   .mk (mvR (X.t (i (i (o z))))) (.some (o (i z))) Gd.no []])
  .ret))
theorem C83ok : (match Tryd.f83.body with | some c => comp Tryd.prog 11 c | none => none) = some C83 := by kernel_rfl
@[go_sem] theorem call83 (args : List AV) (H : Heap) : callC Tryd.prog 83 args H = .call 83 args := callC_ok (by kernel_rfl) args H
theorem R83ok : resKs Tryd.prog Tryd.f83.results.toList = some [(RK.tmp (i (o z))), (RK.tmp (o (i z)))] := by kernel_rfl

@[go_sem] theorem call84 (args : List AV) (H : Heap) : callC Tryd.prog 84 args H = .call 84 args := callC_ok (by kernel_rfl) args H
noncomputable def C95L0 : CC :=
  (.seq (.seq (.region [.mk (mvR (X.t (o (i (o z))))) (.some (o (o (o (o z))))) Gd.no [],
   .mk (mvR (X.t (i (i (o z))))) (.some (i (o (o (o z))))) Gd.no [],
   .mk (binR Tryd.prog EK.no .none false BinOp.lss (X.t (o (o (o (o z))))) (X.t (i (o (o (o z)))))) (.some (o (i (o (o z))))) Gd.no []])
  (.cond (X.t (o (i (o (o z)))))
  .skip
  (.exit 0)))
  (.block 1 (.seq (.region [.mk (mvR (X.t (o (i (o z))))) (.some (i (i (o (o z))))) Gd.no [],
   .mk (mvR (X.t (i (i (o z))))) (.some (o (o (i (o z))))) Gd.no [],
   .mk (binR Tryd.prog EK.no .none false BinOp.add (X.t (i (i (o (o z))))) (X.t (o (o (i (o z)))))) (.some (i (o (i (o z))))) Gd.no [],
   .mk (convR (Cv.int IntKind.u64) (X.t (i (o (i (o z)))))) (.some (o (i (i (o z))))) Gd.no [],
   .mk (binR Tryd.prog EK.no .none true BinOp.shr (X.t (o (i (i (o z))))) (X.c (AV.int IntKind.u64 1))) (.some (i (i (i (o z))))) Gd.no [],
   .mk (convR (Cv.int .i64) (X.t (i (i (i (o z)))))) (.some (o (o (o (i z))))) Gd.no [],
   .mk (mvR (X.t (o (o (o (i z)))))) (.some (o (o (i z)))) Gd.no []])
  (.seq (.region [.mk (mvR (X.t (i z))) (.some (i (o (o (i z))))) Gd.no [],
   .mk (mvR (X.t z)) (.some (o (i (o (i z))))) Gd.no [],
   .mk (mvR (X.t (o (o (i z))))) (.some (i (i (o (i z))))) Gd.no [],
   .mk (iaS 2 (X.t (o (i (o (i z))))) (X.t (i (i (o (i z)))))) (.some (o (o (i (i z))))) Gd.no [],
   .mk (ldR true 2 (X.t (o (o (i (i z)))))) (.some (i (o (i (i z))))) Gd.no [],
   .mk (mvR (X.t (o z))) (.some (o (i (i (i z))))) Gd.no [],
   .mk (callX Tryd.prog (X.t (i (o (o (i z))))) [(X.t (i (o (i (i z))))), (X.t (o (i (i (i z)))))]) (.some (i (i (i (i z))))) Gd.no [],
   .mk (binR Tryd.prog EK.no .none true BinOp.lss (X.t (i (i (i (i z))))) (X.c (AV.int .i64 0))) (.some (o (o (o (o (o z)))))) Gd.no []])
  (.cond (X.t (o (o (o (o (o z))))))
  (.region [.mk (mvR (X.t (o (o (i z))))) (.some (i (o (o (o (o z)))))) Gd.no [],
   .mk (binR Tryd.prog EK.no .none true BinOp.add (X.t (i (o (o (o (o z)))))) (X.c (AV.int .i64 1))) (.some (o (i (o (o (o z)))))) Gd.no [],
   .mk (mvR (X.t (o (i (o (o (o z))))))) (.some (o (i (o z)))) Gd.no []])
  (.region [.mk (mvR (X.t (o (o (i z))))) (.some (i (i (o (o (o z)))))) Gd.no [],
   .mk (mvR (X.t (i (i (o (o (o z))))))) (.some (i (i (o z)))) Gd.no []]))))))
noncomputable def C95 : CC :=
  (.seq (.region [.mk (mvR (X.c (AV.int .i64 0))) (.some (i (i z))) Gd.no [],
   .mk (mvR (X.c (AV.bool false))) (.some (o (o (o z)))) Gd.no []])
  (.seq (.region [.mk (mvR (X.t z)) (.some (i (o (i z)))) Gd.no [],
   .mk (lenR LnK.slice (X.t (i (o (i z))))) (.some (o (i (i z)))) Gd.no [],
   .mk (mvR (X.t (o (i (i z))))) (.some (i (o (o z)))) Gd.no []])
  (.seq (.region [.mk (mvR (X.t (i (o (o z))))) (.some (i (i (i z)))) Gd.no [],
   .mk (mvR (X.c (AV.int .i64 0))) (.some (o (i (o z)))) Gd.no [],
   .mk (mvR (X.t (i (i (i z))))) (.some (i (i (o z)))) Gd.no []])
  (.seq (.block 0 (.loop C95L0))
  (.seq (.region [.mk (mvR (X.t (o (i (o z))))) (.some (o (o (i (o (o z)))))) Gd.no [],
   .mk (mvR (X.t (o (i (o z))))) (.some (i (o (i (o (o z)))))) Gd.no [],
   .mk (mvR (X.t (i (o (o z))))) (.some (o (i (i (o (o z)))))) Gd.no [],
   .mk (binR Tryd.prog EK.no .none false BinOp.lss (X.t (i (o (i (o (o z)))))) (X.t (o (i (i (o (o z))))))) (.some (i (i (i (o (o z)))))) Gd.no [],
   .mk (mvR (X.t (i (i (i (o (o z))))))) (.some (o (o (o (i (o z)))))) Gd.no [],
   .mk (mvR (X.t (i z))) (.some (i (o (o (i (o z)))))) (Gd.on (o (o (o (i (o z))))) true) [],
   .mk (mvR (X.t z)) (.some (o (i (o (i (o z)))))) (Gd.on (o (o (o (i (o z))))) true) [],
   .mk (mvR (X.t (o (i (o z))))) (.some (i (i (o (i (o z)))))) (Gd.on (o (o (o (i (o z))))) true) [],
   .mk (iaS 2 (X.t (o (i (o (i (o z)))))) (X.t (i (i (o (i (o z))))))) (.some (o (o (i (i (o z)))))) (Gd.on (o (o (o (i (o z))))) true) [],
   .mk (ldR true 2 (X.t (o (o (i (i (o z))))))) (.some (i (o (i (i (o z)))))) (Gd.on (o (o (o (i (o z))))) true) [],
   .mk (mvR (X.t (o z))) (.some (o (i (i (i (o z)))))) (Gd.on (o (o (o (i (o z))))) true) [],
   .mk (callX Tryd.prog (X.t (i (o (o (i (o z)))))) [(X.t (i (o (i (i (o z)))))), (X.t (o (i (i (i (o z))))))]) (.some (i (i (i (i (o z)))))) (Gd.on (o (o (o (i (o z))))) true) [],
   .mk (binR Tryd.prog EK.no .none true BinOp.eql (X.t (i (i (i (i (o z)))))) (X.c (AV.int .i64 0))) (.some (o (o (o (o (i z)))))) (Gd.on (o (o (o (i (o z))))) true) [],
   .mk (pickR (X.t (o (o (o (i (o z)))))) (X.t (o (o (o (o (i z)))))) (X.c (AV.bool false))) (.some (i (o (o (o (i z)))))) Gd.no [],
   .mk (mvR (X.t (o (o (i (o (o z))))))) (.some (i (i z))) Gd.no [],
   .mk (mvR (X.t (i (o (o (o (i z))))))) (.some (o (o (o z)))) Gd.no []])
  .ret)))))
theorem C95ok : (match Tryd.f95.body with | some c => comp Tryd.prog 49 c | none => none) = some C95 := by kernel_rfl
@[go_sem] theorem call95 (args : List AV) (H : Heap) : callC Tryd.prog 95 args H = .call 95 args := callC_ok (by kernel_rfl) args H
theorem R95ok : resKs Tryd.prog Tryd.f95.results.toList = some [(RK.tmp (i (i z))), (RK.tmp (o (o (o z))))] := by kernel_rfl

noncomputable def C96 : CC :=
  (.seq (.region [.mk (boxR false (X.t z)) (.some (i z)) Gd.no [],
   .mk (mvR (X.c (AV.int .i64 0))) (.some (i (o z))) Gd.no []])
  (.seq (.region [.mk (faR 0 (X.t (i z))) (.some (o (i z))) Gd.no [],
   .mk (ldR false 1 (X.t (o (i z)))) (.some (i (i z))) Gd.no [],
   .mk (mvR (X.t (o z))) (.some (o (o (o z)))) Gd.no [],
   .mk (callS Tryd.prog 97 [(X.t (i (i z))), (X.t (o (o (o z))))]) (.some (i (o (o z)))) Gd.no [],
   .mk (mvR (X.t (i (o (o z))))) (.some (i (o z))) Gd.no []])
  .ret))
theorem C96ok : (match Tryd.f96.body with | some c => comp Tryd.prog 9 c | none => none) = some C96 := by kernel_rfl
@[go_sem] theorem call96 (args : List AV) (H : Heap) : callC Tryd.prog 96 args H = .call 96 args := callC_ok (by kernel_rfl) args H
theorem R96ok : resKs Tryd.prog Tryd.f96.results.toList = some [(RK.tmp (i (o z)))] := by kernel_rfl

noncomputable def C97 : CC :=
  (.seq (.region [.mk (mvR (X.c (AV.int .i64 0))) (.some (i (o z))) Gd.no []])
  (.seq (.region [.mk (mvR (X.t z)) (.some (o (o (o z)))) Gd.no [],
   .mk (callS Tryd.prog 111 [(X.t (o (o (o z))))]) (.some (i (o (o z)))) Gd.no [],
   .mk (mvR (X.t (i (o (o z))))) (.some (o (i z))) Gd.no []])
  (.seq (.region [.mk (mvR (X.t (o z))) (.some (o (i (o z)))) Gd.no [],
   .mk (callS Tryd.prog 111 [(X.t (o (i (o z))))]) (.some (i (i (o z)))) Gd.no [],
   .mk (mvR (X.t (i (i (o z))))) (.some (i (i z))) Gd.no []])
  (.seq (.seq (.region [.mk (mvR (X.t (o (i z)))) (.some (o (o (i z)))) Gd.no []])
  (.cond (X.t (o (o (i z))))
  (.seq (.seq (.region [.mk (mvR (X.t (i (i z)))) (.some (i (o (i z)))) Gd.no []])
  (.cond (X.t (i (o (i z))))
  (.seq (.region [.mk (mvR (X.c (AV.int .i64 0))) (.some (i (o z))) Gd.no []])
  .ret)
  .skip))
  (.seq (.region [.mk (mvR (X.c (AV.int .i64 (-1)))) (.some (i (o z))) Gd.no []])
  .ret))
  .skip))
  (.seq (.seq (.region [.mk (mvR (X.t (i (i z)))) (.some (o (i (i z)))) Gd.no []])
  (.cond (X.t (o (i (i z))))
  (.seq (.region [.mk (mvR (X.c (AV.int .i64 1))) (.some (i (o z))) Gd.no []])
  .ret)
  .skip))
  (.seq (.seq (.region [.mk (mvR (X.t z)) (.some (i (i (i z)))) Gd.no [],
   .mk (mvR (X.t (o z))) (.some (o (o (o (o z))))) Gd.no [],
   .mk (binR Tryd.prog EK.no .none false BinOp.lss (X.t (i (i (i z)))) (X.t (o (o (o (o z)))))) (.some (i (o (o (o z))))) Gd.no []])
  (.cond (X.t (i (o (o (o z)))))
  (.seq (.region [.mk (mvR (X.c (AV.int .i64 (-1)))) (.some (i (o z))) Gd.no []])
  .ret)
  .skip))
  (.seq (.seq (.region [.mk (mvR (X.t z)) (.some (o (i (o (o z))))) Gd.no [],
   .mk (mvR (X.t (o z))) (.some (i (i (o (o z))))) Gd.no [],
   .mk (binR Tryd.prog EK.no .none false BinOp.gtr (X.t (o (i (o (o z))))) (X.t (i (i (o (o z)))))) (.some (o (o (i (o z))))) Gd.no []])
  (.cond (X.t (o (o (i (o z)))))
  (.seq (.region [.mk (mvR (X.c (AV.int .i64 1))) (.some (i (o z))) Gd.no []])
  .ret)
  .skip))
  (.seq (.region [.mk (mvR (X.c (AV.int .i64 0))) (.some (i (o z))) Gd.no []])
  .ret))))))))
theorem C97ok : (match Tryd.f97.body with | some c => comp Tryd.prog 20 c | none => none) = some C97 := by kernel_rfl
@[go_sem] theorem call97 (args : List AV) (H : Heap) : callC Tryd.prog 97 args H = .call 97 args := callC_ok (by kernel_rfl) args H
theorem R97ok : resKs Tryd.prog Tryd.f97.results.toList = some [(RK.tmp (i (o z)))] := by kernel_rfl

-- 98: no body

noncomputable def C111 : CC :=
  (.seq (.region [.mk (mvR (X.c (AV.bool false))) (.some (i z)) Gd.no []])
  (.seq (.region [.mk (mvR (X.t z)) (.some (o (o z))) Gd.no [],
   .mk (mvR (X.t z)) (.some (i (o z))) Gd.no [],
   .mk (binR Tryd.prog EK.no .none false BinOp.neq (X.t (o (o z))) (X.t (i (o z)))) (.some (o (i z))) Gd.no [],
   .mk (mvR (X.t (o (i z)))) (.some (i z)) Gd.no []])
  .ret))
theorem C111ok : (match Tryd.f111.body with | some c => comp Tryd.prog 6 c | none => none) = some C111 := by kernel_rfl
@[go_sem] theorem call111 (args : List AV) (H : Heap) : callC Tryd.prog 111 args H = .call 111 args := callC_ok (by kernel_rfl) args H
theorem R111ok : resKs Tryd.prog Tryd.f111.results.toList = some [(RK.tmp (i z))] := by kernel_rfl

end Go.Proofs
