/- The laid-out code of the functions that are walked. Printed by a program. -/
import Derived.Test.YtomljpdjfobeoaaDoorZ15
import Derived.Test.YtomljpdjfobeoaaDoorProg
import Derived.KernelRfl
set_option linter.all false
set_option maxRecDepth 100000
namespace Go.Proofs
open Go Go.Ev K
/- 15: estuary/estuaryref1.Same -/
noncomputable def C15L0 : CC :=
  (.seq (.seq (.region [.mk (mvR (X.t (o (i z)))) (.some (o (o (i z)))) Gd.no [],
   .mk (mvR (X.t z)) (.some (i (o (i z)))) Gd.no [],
   .mk (lenR LnK.slice (X.t (i (o (i z))))) (.some (o (i (i z)))) Gd.no [],
   .mk (binR Tryd.prog EK.no .none false BinOp.lss (X.t (o (o (i z)))) (X.t (o (i (i z))))) (.some (i (i (i z)))) Gd.no []])
  (.cond (X.t (i (i (i z))))
  .skip
  (.exit 0)))
  (.seq (.block 1 (.seq (.regionD [.mk (keepH (mvR (X.t (o (i z))))) (.some (i (i (i (o z))))) Gd.no [],
   .mk (keepH (mvR (X.t (o z)))) (.some (o (i (i (o z))))) Gd.no [],
   .mk (keepH (iaS 2 (X.t (o (i (i (o z))))) (X.t (i (i (i (o z))))))) (.some (o (o (o (i z))))) Gd.no [],
   .mk (keepH (ldR true 2 (X.t (o (o (o (i z))))))) (.some (i (o (o (i z))))) Gd.no [],
   .mk (keepH (mvR (X.t (o (i z))))) (.some (i (i (o (o z))))) Gd.no [],
   .mk (keepH (mvR (X.t z))) (.some (o (i (o (o z))))) Gd.no [],
   .mk (keepH (iaS 2 (X.t (o (i (o (o z))))) (X.t (i (i (o (o z))))))) (.some (o (o (i (o z))))) Gd.no [],
   .mk (keepH (ldR true 2 (X.t (o (o (i (o z))))))) (.some (i (o (i (o z))))) Gd.no [],
   .mk (keepH (binR Tryd.prog EK.no (.some [LK.str, LK.int]) false BinOp.neq (X.t (i (o (i (o z))))) (X.t (i (o (o (i z))))))) (.some (o (i (o (i z))))) Gd.no []])
  (.cond (X.t (o (i (o (i z)))))
  (.seq (.region [.mk (mvR (X.c (AV.bool false))) (.some (i (o z))) Gd.no []])
  .ret)
  .skip)))
  (.region [.mk (mvR (X.t (o (i z)))) (.some (o (o (o (o z))))) Gd.no [],
   .mk (binR Tryd.prog EK.no .none true BinOp.add (X.t (o (o (o (o z))))) (X.c (AV.int .i64 1))) (.some (i (o (o (o z))))) Gd.no [],
   .mk (mvR (X.t (i (o (o (o z)))))) (.some (o (i z))) Gd.no []])))
noncomputable def C15 : CC :=
  (.seq (.region [.mk (mvR (X.c (AV.bool false))) (.some (i (o z))) Gd.no []])
  (.seq (.seq (.region [.mk (mvR (X.t z)) (.some (i (i z))) Gd.no [],
   .mk (lenR LnK.slice (X.t (i (i z)))) (.some (o (o (o z)))) Gd.no [],
   .mk (mvR (X.t (o z))) (.some (i (o (o z)))) Gd.no [],
   .mk (lenR LnK.slice (X.t (i (o (o z))))) (.some (o (i (o z)))) Gd.no [],
   .mk (binR Tryd.prog EK.no .none false BinOp.neq (X.t (o (o (o z)))) (X.t (o (i (o z))))) (.some (i (i (o z)))) Gd.no []])
  (.cond (X.t (i (i (o z))))
  (.seq (.region [.mk (mvR (X.c (AV.bool false))) (.some (i (o z))) Gd.no []])
  .ret)
  .skip))
  (.seq (.seq (.region [.mk (mvR (X.c (AV.int .i64 0))) (.some (o (i z))) Gd.no []])
  (.block 0 (.loop C15L0)))
  (.seq (.region [.mk (mvR (X.c (AV.bool true))) (.some (i (o z))) Gd.no []])
  .ret))))
theorem C15ok : (match Tryd.f15.body with | some c => comp Tryd.prog 26 c | none => none) = some C15 := by kernel_rfl
@[go_sem] theorem call15 (args : List AV) (H : Heap) : callC Tryd.prog 15 args H = .call 15 args := callC_ok (by kernel_rfl) args H
theorem R15ok : resKs Tryd.prog Tryd.f15.results.toList = some [(RK.tmp (i (o z)))] := by kernel_rfl

/- 24: estuary/estuaryref11.SameCells -/
noncomputable def C24L0 : CC :=
  (.seq (.seq (.region [.mk (mvR (X.t (o (i z)))) (.some (o (o (i z)))) Gd.no [],
   .mk (mvR (X.t z)) (.some (i (o (i z)))) Gd.no [],
   .mk (lenR LnK.slice (X.t (i (o (i z))))) (.some (o (i (i z)))) Gd.no [],
   .mk (binR Tryd.prog EK.no .none false BinOp.lss (X.t (o (o (i z)))) (X.t (o (i (i z))))) (.some (i (i (i z)))) Gd.no []])
  (.cond (X.t (i (i (i z))))
  .skip
  (.exit 0)))
  (.seq (.block 1 (.seq (.regionD [.mk (keepH (mvR (X.t (o (i z))))) (.some (i (i (i (o z))))) Gd.no [],
   .mk (keepH (mvR (X.t (o z)))) (.some (o (i (i (o z))))) Gd.no [],
   .mk (keepH (iaS 5 (X.t (o (i (i (o z))))) (X.t (i (i (i (o z))))))) (.some (o (o (o (i z))))) Gd.no [],
   .mk (keepH (ldR true 5 (X.t (o (o (o (i z))))))) (.some (i (o (o (i z))))) Gd.no [],
   .mk (keepH (mvR (X.t (o (i z))))) (.some (i (i (o (o z))))) Gd.no [],
   .mk (keepH (mvR (X.t z))) (.some (o (i (o (o z))))) Gd.no [],
   .mk (keepH (iaS 5 (X.t (o (i (o (o z))))) (X.t (i (i (o (o z))))))) (.some (o (o (i (o z))))) Gd.no [],
   .mk (keepH (ldR true 5 (X.t (o (o (i (o z))))))) (.some (i (o (i (o z))))) Gd.no [],
   .mk (keepH (binR Tryd.prog EK.no (.some [LK.str, LK.str, LK.int, LK.bool, LK.int]) false BinOp.neq (X.t (i (o (i (o z))))) (X.t (i (o (o (i z))))))) (.some (o (i (o (i z))))) Gd.no []])
  (.cond (X.t (o (i (o (i z)))))
  (.seq (.region [.mk (mvR (X.c (AV.bool false))) (.some (i (o z))) Gd.no []])
  .ret)
  .skip)))
  (.region [.mk (mvR (X.t (o (i z)))) (.some (o (o (o (o z))))) Gd.no [],
   .mk (binR Tryd.prog EK.no .none true BinOp.add (X.t (o (o (o (o z))))) (X.c (AV.int .i64 1))) (.some (i (o (o (o z))))) Gd.no [],
   .mk (mvR (X.t (i (o (o (o z)))))) (.some (o (i z))) Gd.no []])))
noncomputable def C24 : CC :=
  (.seq (.region [.mk (mvR (X.c (AV.bool false))) (.some (i (o z))) Gd.no []])
  (.seq (.seq (.region [.mk (mvR (X.t z)) (.some (i (i z))) Gd.no [],
   .mk (lenR LnK.slice (X.t (i (i z)))) (.some (o (o (o z)))) Gd.no [],
   .mk (mvR (X.t (o z))) (.some (i (o (o z)))) Gd.no [],
   .mk (lenR LnK.slice (X.t (i (o (o z))))) (.some (o (i (o z)))) Gd.no [],
   .mk (binR Tryd.prog EK.no .none false BinOp.neq (X.t (o (o (o z)))) (X.t (o (i (o z))))) (.some (i (i (o z)))) Gd.no []])
  (.cond (X.t (i (i (o z))))
  (.seq (.region [.mk (mvR (X.c (AV.bool false))) (.some (i (o z))) Gd.no []])
  .ret)
  .skip))
  (.seq (.seq (.region [.mk (mvR (X.c (AV.int .i64 0))) (.some (o (i z))) Gd.no []])
  (.block 0 (.loop C24L0)))
  (.seq (.region [.mk (mvR (X.c (AV.bool true))) (.some (i (o z))) Gd.no []])
  .ret))))
theorem C24ok : (match Tryd.f24.body with | some c => comp Tryd.prog 26 c | none => none) = some C24 := by kernel_rfl
@[go_sem] theorem call24 (args : List AV) (H : Heap) : callC Tryd.prog 24 args H = .call 24 args := callC_ok (by kernel_rfl) args H
theorem R24ok : resKs Tryd.prog Tryd.f24.results.toList = some [(RK.tmp (i (o z)))] := by kernel_rfl

/- 25: estuary/estuaryref11.SameDone -/
noncomputable def C25L0 : CC :=
  (.seq (.seq (.region [.mk (mvR (X.t (o (i z)))) (.some (o (o (i z)))) Gd.no [],
   .mk (mvR (X.t z)) (.some (i (o (i z)))) Gd.no [],
   .mk (lenR LnK.slice (X.t (i (o (i z))))) (.some (o (i (i z)))) Gd.no [],
   .mk (binR Tryd.prog EK.no .none false BinOp.lss (X.t (o (o (i z)))) (X.t (o (i (i z))))) (.some (i (i (i z)))) Gd.no []])
  (.cond (X.t (i (i (i z))))
  .skip
  (.exit 0)))
  (.seq (.block 1 (.seq (.regionD [.mk (keepH (mvR (X.t (o (i z))))) (.some (o (o (o (i z))))) Gd.no [],
   .mk (keepH (mvR (X.t (o z)))) (.some (i (i (i (o z))))) Gd.no [],
   .mk (keepH (iaS 6 (X.t (i (i (i (o z))))) (X.t (o (o (o (i z))))))) (.some (i (o (o (i z))))) Gd.no [],
   .mk (keepH (faR 0 (X.t (i (o (o (i z))))))) (.some (o (i (o (i z))))) Gd.no [],
   .mk (keepH (ldR false 1 (X.t (o (i (o (i z))))))) (.some (i (i (o (i z))))) Gd.no [],
   .mk (keepH (mvR (X.t (o (i z))))) (.some (i (i (o (o z))))) Gd.no [],
   .mk (keepH (mvR (X.t z))) (.some (o (i (o (o z))))) Gd.no [],
   .mk (keepH (iaS 6 (X.t (o (i (o (o z))))) (X.t (i (i (o (o z))))))) (.some (o (o (i (o z))))) Gd.no [],
   .mk (keepH (faR 0 (X.t (o (o (i (o z))))))) (.some (i (o (i (o z))))) Gd.no [],
   .mk (keepH (ldR false 1 (X.t (i (o (i (o z))))))) (.some (o (i (i (o z))))) Gd.no [],
   .mk (keepH (binR Tryd.prog EK.no .none false BinOp.neq (X.t (o (i (i (o z))))) (X.t (i (i (o (i z))))))) (.some (o (o (i (i z))))) Gd.no [],
   .mk (keepH (mvR (X.t (o (o (i (i z))))))) (.some (i (o (i (i z))))) Gd.no [],
   .mk (keepH (mvR (X.t (o (i z))))) (.some (o (o (i (o (o z)))))) (Gd.on (i (o (i (i z)))) false) [],
   .mk (keepH (mvR (X.t (o z)))) (.some (i (i (o (o (o z)))))) (Gd.on (i (o (i (i z)))) false) [],
   .mk (keepH (iaS 6 (X.t (i (i (o (o (o z)))))) (X.t (o (o (i (o (o z)))))))) (.some (i (o (i (o (o z)))))) (Gd.on (i (o (i (i z)))) false) [],
   .mk (keepH (faR 1 (X.t (i (o (i (o (o z)))))))) (.some (o (i (i (o (o z)))))) (Gd.on (i (o (i (i z)))) false) [],
   .mk (keepH (ldR false 1 (X.t (o (i (i (o (o z)))))))) (.some (i (i (i (o (o z)))))) (Gd.on (i (o (i (i z)))) false) [],
   .mk (keepH (mvR (X.t (o (i z))))) (.some (i (i (i (i z))))) (Gd.on (i (o (i (i z)))) false) [],
   .mk (keepH (mvR (X.t z))) (.some (o (i (i (i z))))) (Gd.on (i (o (i (i z)))) false) [],
   .mk (keepH (iaS 6 (X.t (o (i (i (i z))))) (X.t (i (i (i (i z))))))) (.some (o (o (o (o (o z)))))) (Gd.on (i (o (i (i z)))) false) [],
   .mk (keepH (faR 1 (X.t (o (o (o (o (o z)))))))) (.some (i (o (o (o (o z)))))) (Gd.on (i (o (i (i z)))) false) [],
   .mk (keepH (ldR false 1 (X.t (i (o (o (o (o z)))))))) (.some (o (i (o (o (o z)))))) (Gd.on (i (o (i (i z)))) false) [],
   .mk (keepH (binR Tryd.prog EK.no .none false BinOp.neq (X.t (o (i (o (o (o z)))))) (X.t (i (i (i (o (o z)))))))) (.some (o (o (o (i (o z)))))) (Gd.on (i (o (i (i z)))) false) [],
   .mk (keepH (pickR (X.t (i (o (i (i z))))) (X.c (AV.bool true)) (X.t (o (o (o (i (o z)))))))) (.some (i (o (o (i (o z)))))) Gd.no [],
   .mk (keepH (mvR (X.t (i (o (o (i (o z)))))))) (.some (o (i (o (i (o z)))))) Gd.no [],
   .mk (keepH (mvR (X.t (o (i z))))) (.some (i (o (o (o (i z)))))) (Gd.on (o (i (o (i (o z))))) false) [],
   .mk (keepH (mvR (X.t (o z)))) (.some (o (o (o (o (i z)))))) (Gd.on (o (i (o (i (o z))))) false) [],
   .mk (keepH (iaS 6 (X.t (o (o (o (o (i z)))))) (X.t (i (o (o (o (i z)))))))) (.some (o (i (o (o (i z)))))) (Gd.on (o (i (o (i (o z))))) false) [],
   .mk (keepH (faR 2 (X.t (o (i (o (o (i z)))))))) (.some (i (i (o (o (i z)))))) (Gd.on (o (i (o (i (o z))))) false) [],
   .mk (keepH (ldR true 4 (X.t (i (i (o (o (i z)))))))) (.some (o (o (i (o (i z)))))) (Gd.on (o (i (o (i (o z))))) false) [],
   .mk (keepH (mvR (X.t (o (i z))))) (.some (o (o (i (i (o z)))))) (Gd.on (o (i (o (i (o z))))) false) [],
   .mk (keepH (mvR (X.t z))) (.some (i (i (o (i (o z)))))) (Gd.on (o (i (o (i (o z))))) false) [],
   .mk (keepH (iaS 6 (X.t (i (i (o (i (o z)))))) (X.t (o (o (i (i (o z)))))))) (.some (i (o (i (i (o z)))))) (Gd.on (o (i (o (i (o z))))) false) [],
   .mk (keepH (faR 2 (X.t (i (o (i (i (o z)))))))) (.some (o (i (i (i (o z)))))) (Gd.on (o (i (o (i (o z))))) false) [],
   .mk (keepH (ldR true 4 (X.t (o (i (i (i (o z)))))))) (.some (i (i (i (i (o z)))))) (Gd.on (o (i (o (i (o z))))) false) [],
   .mk (callS Tryd.prog 54 [(X.t (i (i (i (i (o z)))))), (X.t (o (o (i (o (i z))))))]) (.some (i (o (i (o (i z)))))) (Gd.on (o (i (o (i (o z))))) false) [],
   .mk (keepH (unR UnOp.not (X.t (i (o (i (o (i z)))))))) (.some (o (i (i (o (i z)))))) (Gd.on (o (i (o (i (o z))))) false) [],
   .mk (keepH (pickR (X.t (o (i (o (i (o z)))))) (X.c (AV.bool true)) (X.t (o (i (i (o (i z)))))))) (.some (i (i (i (o (i z)))))) Gd.no []])
  (.cond (X.t (i (i (i (o (i z))))))
  (.seq (.region [.mk (mvR (X.c (AV.bool false))) (.some (i (o z))) Gd.no []])
  .ret)
  .skip)))
  (.region [.mk (mvR (X.t (o (i z)))) (.some (o (o (o (o z))))) Gd.no [],
   .mk (binR Tryd.prog EK.no .none true BinOp.add (X.t (o (o (o (o z))))) (X.c (AV.int .i64 1))) (.some (i (o (o (o z))))) Gd.no [],
   .mk (mvR (X.t (i (o (o (o z)))))) (.some (o (i z))) Gd.no []])))
noncomputable def C25 : CC :=
  (.seq (.region [.mk (mvR (X.c (AV.bool false))) (.some (i (o z))) Gd.no []])
  (.seq (.seq (.region [.mk (mvR (X.t z)) (.some (i (i z))) Gd.no [],
   .mk (lenR LnK.slice (X.t (i (i z)))) (.some (o (o (o z)))) Gd.no [],
   .mk (mvR (X.t (o z))) (.some (i (o (o z)))) Gd.no [],
   .mk (lenR LnK.slice (X.t (i (o (o z))))) (.some (o (i (o z)))) Gd.no [],
   .mk (binR Tryd.prog EK.no .none false BinOp.neq (X.t (o (o (o z)))) (X.t (o (i (o z))))) (.some (i (i (o z)))) Gd.no []])
  (.cond (X.t (i (i (o z))))
  (.seq (.region [.mk (mvR (X.c (AV.bool false))) (.some (i (o z))) Gd.no []])
  .ret)
  .skip))
  (.seq (.seq (.region [.mk (mvR (X.c (AV.int .i64 0))) (.some (o (i z))) Gd.no []])
  (.block 0 (.loop C25L0)))
  (.seq (.region [.mk (mvR (X.c (AV.bool true))) (.some (i (o z))) Gd.no []])
  .ret))))
theorem C25ok : (match Tryd.f25.body with | some c => comp Tryd.prog 55 c | none => none) = some C25 := by kernel_rfl
@[go_sem] theorem call25 (args : List AV) (H : Heap) : callC Tryd.prog 25 args H = .call 25 args := callC_ok (by kernel_rfl) args H
theorem R25ok : resKs Tryd.prog Tryd.f25.results.toList = some [(RK.tmp (i (o z)))] := by kernel_rfl

/- 27: estuary/estuaryref1.Has -/
noncomputable def C27 : CC :=
  (.seq (.region [.mk (boxR false (X.t z)) (.some (i z)) Gd.no [],
   .mk (mvR (X.c (AV.bool false))) (.some (i (o z))) Gd.no []])
  (.seq (.region [.mk (ldR true 2 (X.t (i z))) (.some (o (i z))) Gd.no [],
   .mk (callS Tryd.prog 40 [(X.t (o (i z)))]) (.some (i (i z))) Gd.no [],
   .mk (mvR (X.t (i (i z)))) (.some (o (o (o z)))) Gd.no [],
   .mk (mvR (X.t (o z))) (.some (i (o (o z)))) (Gd.on (o (o (o z))) true) [],
   .mk (callS Tryd.prog 57 [(X.t (i (o (o z))))]) (.some (o (i (o z)))) (Gd.on (o (o (o z))) true) [],
   .mk (pickR (X.t (o (o (o z)))) (X.t (o (i (o z)))) (X.c (AV.bool false))) (.some (i (i (o z)))) Gd.no [],
   .mk (mvR (X.t (i (i (o z))))) (.some (o (o (i z)))) Gd.no [],
   .mk (mvR (X.t (o z))) (.some (i (o (i z)))) (Gd.on (o (o (i z))) true) [],
   .mk (faR 0 (X.t (i z))) (.some (o (i (i z)))) (Gd.on (o (o (i z))) true) [],
   .mk (ldR false 1 (X.t (o (i (i z))))) (.some (i (i (i z)))) (Gd.on (o (o (i z))) true) [],
   .mk (binR Tryd.prog EK.no .none false BinOp.geq (X.t (i (o (i z)))) (X.t (i (i (i z))))) (.some (o (o (o (o z))))) (Gd.on (o (o (i z))) true) [],
   .mk (pickR (X.t (o (o (i z)))) (X.t (o (o (o (o z))))) (X.c (AV.bool false))) (.some (i (o (o (o z))))) Gd.no [],
   .mk (mvR (X.t (i (o (o (o z)))))) (.some (o (i (o (o z))))) Gd.no [],
   .mk (faR 1 (X.t (i z))) (.some (i (i (o (o z))))) (Gd.on (o (i (o (o z)))) true) [],
   .mk (ldR false 1 (X.t (i (i (o (o z)))))) (.some (o (o (i (o z))))) (Gd.on (o (i (o (o z)))) true) [],
   .mk (binR Tryd.prog EK.no .none true BinOp.eql (X.t (o (o (i (o z))))) (X.c (AV.str []))) (.some (i (o (i (o z))))) (Gd.on (o (i (o (o z)))) true) [],
   .mk (mvR (X.t (i (o (i (o z)))))) (.some (o (i (i (o z))))) (Gd.on (o (i (o (o z)))) true) [],
   .mk (mvR (X.t (o z))) (.some (i (i (i (o z))))) (Gd.on (o (i (i (o z)))) false) [],
   .mk (faR 1 (X.t (i z))) (.some (o (o (o (i z))))) (Gd.on (o (i (i (o z)))) false) [],
   .mk (ldR false 1 (X.t (o (o (o (i z)))))) (.some (i (o (o (i z))))) (Gd.on (o (i (i (o z)))) false) [],
   .mk (binR Tryd.prog EK.no .none false BinOp.lss (X.t (i (i (i (o z))))) (X.t (i (o (o (i z)))))) (.some (o (i (o (i z))))) (Gd.on (o (i (i (o z)))) false) [],
   .mk (pickR (X.t (o (i (i (o z))))) (X.c (AV.bool true)) (X.t (o (i (o (i z)))))) (.some (i (i (o (i z))))) (Gd.on (o (i (o (o z)))) true) [],
   .mk (pickR (X.t (o (i (o (o z))))) (X.t (i (i (o (i z))))) (X.c (AV.bool false))) (.some (o (o (i (i z))))) Gd.no [],
   .mk (mvR (X.t (o (o (i (i z)))))) (.some (i (o z))) Gd.no []])
  .ret))
theorem C27ok : (match Tryd.f27.body with | some c => comp Tryd.prog 28 c | none => none) = some C27 := by kernel_rfl
@[go_sem] theorem call27 (args : List AV) (H : Heap) : callC Tryd.prog 27 args H = .call 27 args := callC_ok (by kernel_rfl) args H
theorem R27ok : resKs Tryd.prog Tryd.f27.results.toList = some [(RK.tmp (i (o z)))] := by kernel_rfl

/- 28: estuary/estuaryref11.Get -/
noncomputable def C28L0 : CC :=
  (.seq (.seq (.region [.mk (mvR (X.t (i (i z)))) (.some (o (o (o z)))) Gd.no [],
   .mk (mvR (X.t z)) (.some (i (o (o z)))) Gd.no [],
   .mk (lenR LnK.slice (X.t (i (o (o z))))) (.some (o (i (o z)))) Gd.no [],
   .mk (binR Tryd.prog EK.no .none false BinOp.lss (X.t (o (o (o z)))) (X.t (o (i (o z))))) (.some (i (i (o z)))) Gd.no []])
  (.cond (X.t (i (i (o z))))
  .skip
  (.exit 0)))
  (.seq (.block 1 (.seq (.region [.mk (mvR (X.t z)) (.some (o (i (i z)))) Gd.no [],
   .mk (mvR (X.t (i (i z)))) (.some (i (i (i z)))) Gd.no [],
   .mk (iaS 5 (X.t (o (i (i z)))) (X.t (i (i (i z))))) (.some (o (o (o (o z))))) Gd.no [],
   .mk (faR 0 (X.t (o (o (o (o z)))))) (.some (i (o (o (o z))))) Gd.no [],
   .mk (ldR false 1 (X.t (i (o (o (o z)))))) (.some (o (i (o (o z))))) Gd.no [],
   .mk (mvR (X.t (o z))) (.some (i (i (o (o z))))) Gd.no [],
   .mk (binR Tryd.prog EK.no .none false BinOp.eql (X.t (o (i (o (o z))))) (X.t (i (i (o (o z)))))) (.some (o (o (i (o z))))) Gd.no []])
  (.cond (X.t (o (o (i (o z)))))
  (.seq (.region [.mk (mvR (X.t z)) (.some (i (o (i (o z))))) Gd.no [],
   .mk (mvR (X.t (i (i z)))) (.some (o (i (i (o z))))) Gd.no [],
   .mk (iaS 5 (X.t (i (o (i (o z))))) (X.t (o (i (i (o z)))))) (.some (i (i (i (o z))))) Gd.no [],
   .mk (ldR true 5 (X.t (i (i (i (o z)))))) (.some (o (o (o (i z))))) Gd.no [],
   .mk (stR 5 (X.t (i (o z))) (X.t (o (o (o (i z)))))) .none Gd.no [],
   .mk (mvR (X.c (AV.bool true))) (.some (o (i z))) Gd.no []])
  .ret)
  .skip)))
  (.region [.mk (mvR (X.t (i (i z)))) (.some (o (o (i z)))) Gd.no [],
   .mk (binR Tryd.prog EK.no .none true BinOp.add (X.t (o (o (i z)))) (X.c (AV.int .i64 1))) (.some (i (o (i z)))) Gd.no [],
   .mk (mvR (X.t (i (o (i z))))) (.some (i (i z))) Gd.no []])))
noncomputable def C28 : CC :=
  (.seq (.region [.mk (fun _ H => newC false [(AV.str []), (AV.str []), (AV.int .i64 0), (AV.bool false), (AV.int .i64 0)] H) (.some (i (o z))) Gd.no [],
   .mk (mvR (X.c (AV.bool false))) (.some (o (i z))) Gd.no []])
  (.seq (.seq (.region [.mk (mvR (X.c (AV.int .i64 0))) (.some (i (i z))) Gd.no []])
  (.block 0 (.loop C28L0)))
  (.seq (.region [.mk (mvR (X.t (o z))) (.some (i (o (o (i z))))) Gd.no [],
   .mk (buildR [(AV.str []), (AV.str []), (AV.int .i64 0), (AV.bool false), (AV.int .i64 0)] [(0, (1, (X.t (i (o (o (i z)))))))]) (.some (o (i (o (i z))))) Gd.no [],
   .mk (stR 5 (X.t (i (o z))) (X.t (o (i (o (i z)))))) .none Gd.no [],
   .mk (mvR (X.c (AV.bool false))) (.some (o (i z))) Gd.no []])
  .ret)))
theorem C28ok : (match Tryd.f28.body with | some c => comp Tryd.prog 26 c | none => none) = some C28 := by kernel_rfl
@[go_sem] theorem call28 (args : List AV) (H : Heap) : callC Tryd.prog 28 args H = .call 28 args := callC_ok (by kernel_rfl) args H
theorem R28ok : resKs Tryd.prog Tryd.f28.results.toList = some [(RK.cell (i (o z)) true 5), (RK.tmp (o (i z)))] := by kernel_rfl

/- 40: estuary/estuaryref1.Is -/
noncomputable def C40 : CC :=
  (.seq (.region [.mk (boxR false (X.t z)) (.some (o z)) Gd.no [],
   .mk (mvR (X.c (AV.bool false))) (.some (i z)) Gd.no []])
  (.seq (.region [.mk (faR 0 (X.t (o z))) (.some (o (o z))) Gd.no [],
   .mk (ldR false 1 (X.t (o (o z)))) (.some (i (o z))) Gd.no [],
   .mk (lenR LnK.str (X.t (i (o z)))) (.some (o (i z))) Gd.no [],
   .mk (binR Tryd.prog EK.no .none true BinOp.leq (X.t (o (i z))) (X.c (AV.int .i64 8))) (.some (i (i z))) Gd.no [],
   .mk (mvR (X.t (i (i z)))) (.some (o (o (o z)))) Gd.no [],
   .mk (faR 1 (X.t (o z))) (.some (i (o (o z)))) (Gd.on (o (o (o z))) true) [],
   .mk (ldR false 1 (X.t (i (o (o z))))) (.some (o (i (o z)))) (Gd.on (o (o (o z))) true) [],
   .mk (lenR LnK.str (X.t (o (i (o z))))) (.some (i (i (o z)))) (Gd.on (o (o (o z))) true) [],
   .mk (binR Tryd.prog EK.no .none true BinOp.leq (X.t (i (i (o z)))) (X.c (AV.int .i64 8))) (.some (o (o (i z)))) (Gd.on (o (o (o z))) true) [],
   .mk (pickR (X.t (o (o (o z)))) (X.t (o (o (i z)))) (X.c (AV.bool false))) (.some (i (o (i z)))) Gd.no [],
   .mk (mvR (X.t (i (o (i z))))) (.some (o (i (i z)))) Gd.no [],
   .mk (faR 1 (X.t (o z))) (.some (i (i (i z)))) (Gd.on (o (i (i z))) true) [],
   .mk (ldR false 1 (X.t (i (i (i z))))) (.some (o (o (o (o z))))) (Gd.on (o (i (i z))) true) [],
   .mk (binR Tryd.prog EK.no .none true BinOp.eql (X.t (o (o (o (o z))))) (X.c (AV.str []))) (.some (i (o (o (o z))))) (Gd.on (o (i (i z))) true) [],
   .mk (mvR (X.t (i (o (o (o z)))))) (.some (o (i (o (o z))))) (Gd.on (o (i (i z))) true) [],
   .mk (faR 0 (X.t (o z))) (.some (i (i (o (o z))))) (Gd.on (o (i (o (o z)))) false) [],
   .mk (ldR false 1 (X.t (i (i (o (o z)))))) (.some (o (o (i (o z))))) (Gd.on (o (i (o (o z)))) false) [],
   .mk (faR 1 (X.t (o z))) (.some (i (o (i (o z))))) (Gd.on (o (i (o (o z)))) false) [],
   .mk (ldR false 1 (X.t (i (o (i (o z)))))) (.some (o (i (i (o z))))) (Gd.on (o (i (o (o z)))) false) [],
   .mk (binR Tryd.prog EK.no .none false BinOp.lss (X.t (o (o (i (o z))))) (X.t (o (i (i (o z)))))) (.some (i (i (i (o z))))) (Gd.on (o (i (o (o z)))) false) [],
   .mk (pickR (X.t (o (i (o (o z))))) (X.c (AV.bool true)) (X.t (i (i (i (o z)))))) (.some (o (o (o (i z))))) (Gd.on (o (i (i z))) true) [],
   .mk (pickR (X.t (o (i (i z)))) (X.t (o (o (o (i z))))) (X.c (AV.bool false))) (.some (i (o (o (i z))))) Gd.no [],
   .mk (mvR (X.t (i (o (o (i z)))))) (.some (i z)) Gd.no []])
  .ret))
theorem C40ok : (match Tryd.f40.body with | some c => comp Tryd.prog 25 c | none => none) = some C40 := by kernel_rfl
@[go_sem] theorem call40 (args : List AV) (H : Heap) : callC Tryd.prog 40 args H = .call 40 args := callC_ok (by kernel_rfl) args H
theorem R40ok : resKs Tryd.prog Tryd.f40.results.toList = some [(RK.tmp (i z))] := by kernel_rfl

/- 41: estuary/estuaryref11.IsDone -/
noncomputable def C41L0 : CC :=
  (.seq (.seq (.region [.mk (mvR (X.t (o (o z)))) (.some (i (o z))) Gd.no [],
   .mk (mvR (X.t z)) (.some (o (i z))) Gd.no [],
   .mk (lenR LnK.slice (X.t (o (i z)))) (.some (i (i z))) Gd.no [],
   .mk (binR Tryd.prog EK.no .none false BinOp.lss (X.t (i (o z))) (X.t (i (i z)))) (.some (o (o (o z)))) Gd.no []])
  (.cond (X.t (o (o (o z))))
  .skip
  (.exit 0)))
  (.seq (.block 1 (.seq (.regionD [.mk (keepH (mvR (X.t (o (o z))))) (.some (o (o (i z)))) Gd.no [],
   .mk (keepH (mvR (X.t z))) (.some (i (i (o z)))) Gd.no [],
   .mk (keepH (iaS 6 (X.t (i (i (o z)))) (X.t (o (o (i z)))))) (.some (i (o (i z)))) Gd.no [],
   .mk (keepH (faR 0 (X.t (i (o (i z)))))) (.some (o (i (i z)))) Gd.no [],
   .mk (keepH (ldR false 1 (X.t (o (i (i z)))))) (.some (i (i (i z)))) Gd.no [],
   .mk (keepH (binR Tryd.prog EK.no .none true BinOp.lss (X.t (i (i (i z)))) (X.c (AV.int .i64 0)))) (.some (o (o (o (o z))))) Gd.no [],
   .mk (keepH (mvR (X.t (o (o (o (o z))))))) (.some (i (o (o (o z))))) Gd.no [],
   .mk (keepH (mvR (X.t (o (o z))))) (.some (i (i (o (o z))))) (Gd.on (i (o (o (o z)))) false) [],
   .mk (keepH (mvR (X.t z))) (.some (o (i (o (o z))))) (Gd.on (i (o (o (o z)))) false) [],
   .mk (keepH (iaS 6 (X.t (o (i (o (o z))))) (X.t (i (i (o (o z))))))) (.some (o (o (i (o z))))) (Gd.on (i (o (o (o z)))) false) [],
   .mk (keepH (faR 0 (X.t (o (o (i (o z))))))) (.some (i (o (i (o z))))) (Gd.on (i (o (o (o z)))) false) [],
   .mk (keepH (ldR false 1 (X.t (i (o (i (o z))))))) (.some (o (i (i (o z))))) (Gd.on (i (o (o (o z)))) false) [],
   .mk (keepH (binR Tryd.prog EK.no .none true BinOp.geq (X.t (o (i (i (o z))))) (X.c (AV.int .i64 3)))) (.some (i (i (i (o z))))) (Gd.on (i (o (o (o z)))) false) [],
   .mk (keepH (pickR (X.t (i (o (o (o z))))) (X.c (AV.bool true)) (X.t (i (i (i (o z))))))) (.some (o (o (o (i z))))) Gd.no [],
   .mk (keepH (mvR (X.t (o (o (o (i z))))))) (.some (i (o (o (i z))))) Gd.no [],
   .mk (keepH (mvR (X.t (o (o z))))) (.some (i (i (o (i z))))) (Gd.on (i (o (o (i z)))) false) [],
   .mk (keepH (mvR (X.t z))) (.some (o (i (o (i z))))) (Gd.on (i (o (o (i z)))) false) [],
   .mk (keepH (iaS 6 (X.t (o (i (o (i z))))) (X.t (i (i (o (i z))))))) (.some (o (o (i (i z))))) (Gd.on (i (o (o (i z)))) false) [],
   .mk (keepH (faR 1 (X.t (o (o (i (i z))))))) (.some (i (o (i (i z))))) (Gd.on (i (o (o (i z)))) false) [],
   .mk (keepH (ldR false 1 (X.t (i (o (i (i z))))))) (.some (o (i (i (i z))))) (Gd.on (i (o (o (i z)))) false) [],
   .mk (keepH (binR Tryd.prog EK.no .none true BinOp.lss (X.t (o (i (i (i z))))) (X.c (AV.int .i64 1)))) (.some (i (i (i (i z))))) (Gd.on (i (o (o (i z)))) false) [],
   .mk (keepH (pickR (X.t (i (o (o (i z))))) (X.c (AV.bool true)) (X.t (i (i (i (i z))))))) (.some (o (o (o (o (o z)))))) Gd.no [],
   .mk (keepH (mvR (X.t (o (o (o (o (o z)))))))) (.some (i (o (o (o (o z)))))) Gd.no [],
   .mk (keepH (mvR (X.t (o (o z))))) (.some (i (i (o (o (o z)))))) (Gd.on (i (o (o (o (o z))))) false) [],
   .mk (keepH (mvR (X.t z))) (.some (o (i (o (o (o z)))))) (Gd.on (i (o (o (o (o z))))) false) [],
   .mk (keepH (iaS 6 (X.t (o (i (o (o (o z)))))) (X.t (i (i (o (o (o z)))))))) (.some (o (o (i (o (o z)))))) (Gd.on (i (o (o (o (o z))))) false) [],
   .mk (keepH (faR 1 (X.t (o (o (i (o (o z)))))))) (.some (i (o (i (o (o z)))))) (Gd.on (i (o (o (o (o z))))) false) [],
   .mk (keepH (ldR false 1 (X.t (i (o (i (o (o z)))))))) (.some (o (i (i (o (o z)))))) (Gd.on (i (o (o (o (o z))))) false) [],
   .mk (keepH (binR Tryd.prog EK.no .none true BinOp.gtr (X.t (o (i (i (o (o z)))))) (X.c (AV.int .i64 1000000000000)))) (.some (i (i (i (o (o z)))))) (Gd.on (i (o (o (o (o z))))) false) [],
   .mk (keepH (pickR (X.t (i (o (o (o (o z)))))) (X.c (AV.bool true)) (X.t (i (i (i (o (o z)))))))) (.some (o (o (o (i (o z)))))) Gd.no [],
   .mk (keepH (mvR (X.t (o (o (o (i (o z)))))))) (.some (i (o (o (i (o z)))))) Gd.no [],
   .mk (keepH (mvR (X.t (o (o z))))) (.some (i (i (o (i (o z)))))) (Gd.on (i (o (o (i (o z))))) false) [],
   .mk (keepH (mvR (X.t z))) (.some (o (i (o (i (o z)))))) (Gd.on (i (o (o (i (o z))))) false) [],
   .mk (keepH (iaS 6 (X.t (o (i (o (i (o z)))))) (X.t (i (i (o (i (o z)))))))) (.some (o (o (i (i (o z)))))) (Gd.on (i (o (o (i (o z))))) false) [],
   .mk (keepH (faR 2 (X.t (o (o (i (i (o z)))))))) (.some (i (o (i (i (o z)))))) (Gd.on (i (o (o (i (o z))))) false) [],
   .mk (keepH (ldR true 4 (X.t (i (o (i (i (o z)))))))) (.some (o (i (i (i (o z)))))) (Gd.on (i (o (o (i (o z))))) false) [],
   .mk (callS Tryd.prog 69 [(X.t (o (i (i (i (o z))))))]) (.some (i (i (i (i (o z)))))) (Gd.on (i (o (o (i (o z))))) false) [],
   .mk (keepH (unR UnOp.not (X.t (i (i (i (i (o z)))))))) (.some (o (o (o (o (i z)))))) (Gd.on (i (o (o (i (o z))))) false) [],
   .mk (keepH (pickR (X.t (i (o (o (i (o z)))))) (X.c (AV.bool true)) (X.t (o (o (o (o (i z)))))))) (.some (i (o (o (o (i z)))))) Gd.no [],
   .mk (keepH (mvR (X.t (i (o (o (o (i z)))))))) (.some (o (i (o (o (i z)))))) Gd.no [],
   .mk (keepH (mvR (X.t (o (o z))))) (.some (i (i (o (o (i z)))))) (Gd.on (o (i (o (o (i z))))) false) [],
   .mk (keepH (binR Tryd.prog EK.no .none true BinOp.gtr (X.t (i (i (o (o (i z)))))) (X.c (AV.int .i64 0)))) (.some (o (o (i (o (i z)))))) (Gd.on (o (i (o (o (i z))))) false) [],
   .mk (keepH (mvR (X.t (o (o (i (o (i z)))))))) (.some (i (o (i (o (i z)))))) (Gd.on (o (i (o (o (i z))))) false) [],
   .mk (keepH (mvR (X.t (o (o z))))) (.some (i (o (i (i (i z)))))) (Gd.on (i (o (i (o (i z))))) true) [],
   .mk (keepH (mvR (X.t z))) (.some (o (o (i (i (i z)))))) (Gd.on (i (o (i (o (i z))))) true) [],
   .mk (keepH (iaS 6 (X.t (o (o (i (i (i z)))))) (X.t (i (o (i (i (i z)))))))) (.some (o (i (i (i (i z)))))) (Gd.on (i (o (i (o (i z))))) true) [],
   .mk (keepH (faR 0 (X.t (o (i (i (i (i z)))))))) (.some (i (i (i (i (i z)))))) (Gd.on (i (o (i (o (i z))))) true) [],
   .mk (keepH (ldR false 1 (X.t (i (i (i (i (i z)))))))) (.some (o (o (o (o (o (o z))))))) (Gd.on (i (o (i (o (i z))))) true) [],
   .mk (keepH (mvR (X.t (o (o z))))) (.some (i (i (i (o (i z)))))) (Gd.on (i (o (i (o (i z))))) true) [],
   .mk (keepH (binR Tryd.prog EK.no .none true BinOp.sub (X.t (i (i (i (o (i z)))))) (X.c (AV.int .i64 1)))) (.some (o (o (o (i (i z)))))) (Gd.on (i (o (i (o (i z))))) true) [],
   .mk (keepH (mvR (X.t z))) (.some (o (i (i (o (i z)))))) (Gd.on (i (o (i (o (i z))))) true) [],
   .mk (keepH (iaS 6 (X.t (o (i (i (o (i z)))))) (X.t (o (o (o (i (i z)))))))) (.some (i (o (o (i (i z)))))) (Gd.on (i (o (i (o (i z))))) true) [],
   .mk (keepH (faR 0 (X.t (i (o (o (i (i z)))))))) (.some (o (i (o (i (i z)))))) (Gd.on (i (o (i (o (i z))))) true) [],
   .mk (keepH (ldR false 1 (X.t (o (i (o (i (i z)))))))) (.some (i (i (o (i (i z)))))) (Gd.on (i (o (i (o (i z))))) true) [],
   .mk (keepH (binR Tryd.prog EK.no .none false BinOp.geq (X.t (i (i (o (i (i z)))))) (X.t (o (o (o (o (o (o z))))))))) (.some (i (o (o (o (o (o z))))))) (Gd.on (i (o (i (o (i z))))) true) [],
   .mk (keepH (pickR (X.t (i (o (i (o (i z)))))) (X.t (i (o (o (o (o (o z))))))) (X.c (AV.bool false)))) (.some (o (i (o (o (o (o z))))))) (Gd.on (o (i (o (o (i z))))) false) [],
   .mk (keepH (pickR (X.t (o (i (o (o (i z)))))) (X.c (AV.bool true)) (X.t (o (i (o (o (o (o z))))))))) (.some (i (i (o (o (o (o z))))))) Gd.no []])
  (.cond (X.t (i (i (o (o (o (o z)))))))
  (.seq (.region [.mk (mvR (X.c (AV.bool false))) (.some (i z)) Gd.no []])
  .ret)
  .skip)))
  (.region [.mk (mvR (X.t (o (o z)))) (.some (i (o (o z)))) Gd.no [],
   .mk (binR Tryd.prog EK.no .none true BinOp.add (X.t (i (o (o z)))) (X.c (AV.int .i64 1))) (.some (o (i (o z)))) Gd.no [],
   .mk (mvR (X.t (o (i (o z))))) (.some (o (o z))) Gd.no []])))
noncomputable def C41 : CC :=
  (.seq (.region [.mk (mvR (X.c (AV.bool false))) (.some (i z)) Gd.no []])
  (.seq (.seq (.region [.mk (mvR (X.c (AV.int .i64 0))) (.some (o (o z))) Gd.no []])
  (.block 0 (.loop C41L0)))
  (.seq (.region [.mk (mvR (X.c (AV.bool true))) (.some (i z)) Gd.no []])
  .ret)))
theorem C41ok : (match Tryd.f41.body with | some c => comp Tryd.prog 67 c | none => none) = some C41 := by kernel_rfl
@[go_sem] theorem call41 (args : List AV) (H : Heap) : callC Tryd.prog 41 args H = .call 41 args := callC_ok (by kernel_rfl) args H
theorem R41ok : resKs Tryd.prog Tryd.f41.results.toList = some [(RK.tmp (i z))] := by kernel_rfl

/- 53: estuary/once.Join -/
noncomputable def C53L0 : CC :=
  (.seq (.region [.mk (binR Tryd.prog EK.no .none false BinOp.lss (X.t (i (o (i z)))) (X.t (o (o (i z))))) (.some (o (i (i z)))) Gd.no []])
  (.seq (.cond (X.t (o (i (i z))))
  .skip
  (.exit 0))
  (.seq (.block 1 (.seq (.region [.mk (iaS 6 (X.t (i (i (o z)))) (X.t (i (o (i z))))) (.some (i (i (i z)))) Gd.no [],
   .mk (ldR true 6 (X.t (i (i (i z))))) (.some (o (o (o (o z))))) Gd.no [],
   .mk (fun _ H => newC false [(AV.int .i64 0), (AV.int .i64 0), (AV.int .i64 0), (AV.str []), (AV.int .i64 0), AV.nils] H) (.some (o (o (o z)))) Gd.no [],
   .mk (stR 6 (X.t (o (o (o z)))) (X.t (o (o (o (o z)))))) .none Gd.no []])
  (.region [.mk (mvR (X.t (o (i z)))) (.some (i (o (o (o z))))) Gd.no [],
   .mk (ldR true 6 (X.t (o (o (o z))))) (.some (o (i (o (o z))))) Gd.no [],
   .mk (callS Tryd.prog 78 [(X.t (i (o (o (o z))))), (X.t (o (i (o (o z)))))]) (.some (i (i (o (o z))))) Gd.no [],
   .mk (mvR (X.t (i (i (o (o z)))))) (.some (o (i z))) Gd.no []])))
  (.region [.mk (binR Tryd.prog EK.no .none true BinOp.add (X.t (i (o (i z)))) (X.c (AV.int .i64 1))) (.some (o (o (i (o z))))) Gd.no [],
   .mk (mvR (X.t (o (o (i (o z)))))) (.some (i (o (i z)))) Gd.no []]))))
noncomputable def C53 : CC :=
  (.seq (.region [.mk (mvR (X.c AV.nils)) (.some (i (o z))) Gd.no []])
  (.seq (.region [.mk (mvR (X.t (o z))) (.some (i (o (o z)))) Gd.no [],
   .mk (callS Tryd.prog 72 [(X.t (i (o (o z))))]) (.some (o (i (o z)))) Gd.no [],
   .mk (mvR (X.t (o (i (o z))))) (.some (o (i z))) Gd.no []])
  (.seq (.seq (.region [.mk (mvR (X.t z)) (.some (i (i (o z)))) Gd.no [],
   .mk (lenR LnK.slice (X.t (i (i (o z))))) (.some (o (o (i z)))) Gd.no [],
   .mk (mvR (X.c (AV.int .i64 0))) (.some (i (o (i z)))) Gd.no []])
  (.block 0 (.loop C53L0)))
  (.seq (.region [.mk (mvR (X.t (o (i z)))) (.some (i (o (i (o z))))) Gd.no [],
   .mk (mvR (X.t (i (o (i (o z)))))) (.some (i (o z))) Gd.no []])
  .ret))))
theorem C53ok : (match Tryd.f53.body with | some c => comp Tryd.prog 21 c | none => none) = some C53 := by kernel_rfl
@[go_sem] theorem call53 (args : List AV) (H : Heap) : callC Tryd.prog 53 args H = .call 53 args := callC_ok (by kernel_rfl) args H
theorem R53ok : resKs Tryd.prog Tryd.f53.results.toList = some [(RK.tmp (i (o z)))] := by kernel_rfl

/- 54: estuary/estuaryref6.SameAnswer -/
noncomputable def C54L0 : CC :=
  (.seq (.seq (.region [.mk (mvR (X.t (o (i z)))) (.some (i (i (o (o (o z)))))) Gd.no [],
   .mk (faR 3 (X.t (i z))) (.some (o (o (i (o (o z)))))) Gd.no [],
   .mk (ldR false 1 (X.t (o (o (i (o (o z))))))) (.some (i (o (i (o (o z)))))) Gd.no [],
   .mk (lenR LnK.slice (X.t (i (o (i (o (o z))))))) (.some (o (i (i (o (o z)))))) Gd.no [],
   .mk (binR Tryd.prog EK.no .none false BinOp.lss (X.t (i (i (o (o (o z)))))) (X.t (o (i (i (o (o z))))))) (.some (i (i (i (o (o z)))))) Gd.no []])
  (.cond (X.t (i (i (i (o (o z))))))
  .skip
  (.exit 0)))
  (.seq (.block 1 (.seq (.regionD [.mk (keepH (mvR (X.t (o (i z))))) (.some (i (o (o (o (i z)))))) Gd.no [],
   .mk (keepH (faR 3 (X.t (o (o z))))) (.some (i (i (i (i (o z)))))) Gd.no [],
   .mk (keepH (ldR false 1 (X.t (i (i (i (i (o z)))))))) (.some (o (o (o (o (i z)))))) Gd.no [],
   .mk (keepH (iaS 3 (X.t (o (o (o (o (i z)))))) (X.t (i (o (o (o (i z)))))))) (.some (o (i (o (o (i z)))))) Gd.no [],
   .mk (keepH (ldR true 3 (X.t (o (i (o (o (i z)))))))) (.some (i (i (o (o (i z)))))) Gd.no [],
   .mk (keepH (mvR (X.t (o (i z))))) (.some (o (o (i (i (o z)))))) Gd.no [],
   .mk (keepH (faR 3 (X.t (i z)))) (.some (o (i (o (i (o z)))))) Gd.no [],
   .mk (keepH (ldR false 1 (X.t (o (i (o (i (o z)))))))) (.some (i (i (o (i (o z)))))) Gd.no [],
   .mk (keepH (iaS 3 (X.t (i (i (o (i (o z)))))) (X.t (o (o (i (i (o z)))))))) (.some (i (o (i (i (o z)))))) Gd.no [],
   .mk (keepH (ldR true 3 (X.t (i (o (i (i (o z)))))))) (.some (o (i (i (i (o z)))))) Gd.no [],
   .mk (keepH (binR Tryd.prog EK.no (.some [LK.str, LK.str, LK.int]) false BinOp.neq (X.t (o (i (i (i (o z)))))) (X.t (i (i (o (o (i z)))))))) (.some (o (o (i (o (i z)))))) Gd.no []])
  (.cond (X.t (o (o (i (o (i z))))))
  (.seq (.region [.mk (mvR (X.c (AV.bool false))) (.some (i (o z))) Gd.no []])
  .ret)
  .skip)))
  (.region [.mk (mvR (X.t (o (i z)))) (.some (o (o (o (i (o z)))))) Gd.no [],
   .mk (binR Tryd.prog EK.no .none true BinOp.add (X.t (o (o (o (i (o z)))))) (X.c (AV.int .i64 1))) (.some (i (o (o (i (o z)))))) Gd.no [],
   .mk (mvR (X.t (i (o (o (i (o z))))))) (.some (o (i z))) Gd.no []])))
noncomputable def C54 : CC :=
  (.seq (.region [.mk (boxR false (X.t z)) (.some (i z)) Gd.no [],
   .mk (boxR false (X.t (o z))) (.some (o (o z))) Gd.no [],
   .mk (mvR (X.c (AV.bool false))) (.some (i (o z))) Gd.no []])
  (.seq (.seq (.region [.mk (faR 0 (X.t (i z))) (.some (i (i z))) Gd.no [],
   .mk (ldR false 1 (X.t (i (i z)))) (.some (o (o (o z)))) Gd.no [],
   .mk (faR 0 (X.t (o (o z)))) (.some (i (o (o z)))) Gd.no [],
   .mk (ldR false 1 (X.t (i (o (o z))))) (.some (o (i (o z)))) Gd.no [],
   .mk (binR Tryd.prog EK.no .none false BinOp.neq (X.t (o (o (o z)))) (X.t (o (i (o z))))) (.some (i (i (o z)))) Gd.no [],
   .mk (mvR (X.t (i (i (o z))))) (.some (o (o (i z)))) Gd.no [],
   .mk (faR 1 (X.t (i z))) (.some (i (o (i z)))) (Gd.on (o (o (i z))) false) [],
   .mk (ldR false 1 (X.t (i (o (i z))))) (.some (o (i (i z)))) (Gd.on (o (o (i z))) false) [],
   .mk (faR 1 (X.t (o (o z)))) (.some (i (i (i z)))) (Gd.on (o (o (i z))) false) [],
   .mk (ldR false 1 (X.t (i (i (i z))))) (.some (o (o (o (o z))))) (Gd.on (o (o (i z))) false) [],
   .mk (binR Tryd.prog EK.no .none false BinOp.neq (X.t (o (i (i z)))) (X.t (o (o (o (o z)))))) (.some (i (o (o (o z))))) (Gd.on (o (o (i z))) false) [],
   .mk (pickR (X.t (o (o (i z)))) (X.c (AV.bool true)) (X.t (i (o (o (o z)))))) (.some (o (i (o (o z))))) Gd.no [],
   .mk (mvR (X.t (o (i (o (o z)))))) (.some (i (i (o (o z))))) Gd.no [],
   .mk (faR 2 (X.t (i z))) (.some (o (o (i (o z))))) (Gd.on (i (i (o (o z)))) false) [],
   .mk (ldR false 1 (X.t (o (o (i (o z)))))) (.some (i (o (i (o z))))) (Gd.on (i (i (o (o z)))) false) [],
   .mk (faR 2 (X.t (o (o z)))) (.some (o (i (i (o z))))) (Gd.on (i (i (o (o z)))) false) [],
   .mk (ldR false 1 (X.t (o (i (i (o z)))))) (.some (i (i (i (o z))))) (Gd.on (i (i (o (o z)))) false) [],
   .mk (binR Tryd.prog EK.no .none false BinOp.neq (X.t (i (o (i (o z))))) (X.t (i (i (i (o z)))))) (.some (o (o (o (i z))))) (Gd.on (i (i (o (o z)))) false) [],
   .mk (pickR (X.t (i (i (o (o z))))) (X.c (AV.bool true)) (X.t (o (o (o (i z)))))) (.some (i (o (o (i z))))) Gd.no [],
   .mk (mvR (X.t (i (o (o (i z)))))) (.some (o (i (o (i z))))) Gd.no [],
   .mk (faR 3 (X.t (i z))) (.some (i (i (o (i z))))) (Gd.on (o (i (o (i z)))) false) [],
   .mk (ldR false 1 (X.t (i (i (o (i z)))))) (.some (o (o (i (i z))))) (Gd.on (o (i (o (i z)))) false) [],
   .mk (lenR LnK.slice (X.t (o (o (i (i z)))))) (.some (i (o (i (i z))))) (Gd.on (o (i (o (i z)))) false) [],
   .mk (faR 3 (X.t (o (o z)))) (.some (o (i (i (i z))))) (Gd.on (o (i (o (i z)))) false) [],
   .mk (ldR false 1 (X.t (o (i (i (i z)))))) (.some (i (i (i (i z))))) (Gd.on (o (i (o (i z)))) false) [],
   .mk (lenR LnK.slice (X.t (i (i (i (i z)))))) (.some (o (o (o (o (o z)))))) (Gd.on (o (i (o (i z)))) false) [],
   .mk (binR Tryd.prog EK.no .none false BinOp.neq (X.t (i (o (i (i z))))) (X.t (o (o (o (o (o z))))))) (.some (i (o (o (o (o z)))))) (Gd.on (o (i (o (i z)))) false) [],
   .mk (pickR (X.t (o (i (o (i z))))) (X.c (AV.bool true)) (X.t (i (o (o (o (o z))))))) (.some (o (i (o (o (o z)))))) Gd.no []])
  (.cond (X.t (o (i (o (o (o z))))))
  (.seq (.region [.mk (mvR (X.c (AV.bool false))) (.some (i (o z))) Gd.no []])
  .ret)
  .skip))
  (.seq (.seq (.region [.mk (mvR (X.c (AV.int .i64 0))) (.some (o (i z))) Gd.no []])
  (.block 0 (.loop C54L0)))
  (.seq (.region [.mk (mvR (X.c (AV.bool true))) (.some (i (o z))) Gd.no []])
  .ret))))
theorem C54ok : (match Tryd.f54.body with | some c => comp Tryd.prog 52 c | none => none) = some C54 := by kernel_rfl
@[go_sem] theorem call54 (args : List AV) (H : Heap) : callC Tryd.prog 54 args H = .call 54 args := callC_ok (by kernel_rfl) args H
theorem R54ok : resKs Tryd.prog Tryd.f54.results.toList = some [(RK.tmp (i (o z)))] := by kernel_rfl

/- 55: estuary/estuaryref11.IsIndex -/
noncomputable def C55L0 : CC :=
  (.seq (.seq (.region [.mk (mvR (X.t (o (o z)))) (.some (i (o z))) Gd.no [],
   .mk (mvR (X.t z)) (.some (o (i z))) Gd.no [],
   .mk (lenR LnK.slice (X.t (o (i z)))) (.some (i (i z))) Gd.no [],
   .mk (binR Tryd.prog EK.no .none false BinOp.lss (X.t (i (o z))) (X.t (i (i z)))) (.some (o (o (o z)))) Gd.no []])
  (.cond (X.t (o (o (o z))))
  .skip
  (.exit 0)))
  (.seq (.block 1 (.seq (.regionD [.mk (keepH (mvR (X.t (o (o z))))) (.some (o (o (i z)))) Gd.no [],
   .mk (keepH (mvR (X.t z))) (.some (i (i (o z)))) Gd.no [],
   .mk (keepH (iaS 5 (X.t (i (i (o z)))) (X.t (o (o (i z)))))) (.some (i (o (i z)))) Gd.no [],
   .mk (keepH (ldR true 5 (X.t (i (o (i z)))))) (.some (o (i (i z)))) Gd.no [],
   .mk (callS Tryd.prog 79 [(X.t (o (i (i z))))]) (.some (i (i (i z)))) Gd.no [],
   .mk (keepH (unR UnOp.not (X.t (i (i (i z)))))) (.some (o (o (o (o z))))) Gd.no [],
   .mk (keepH (mvR (X.t (o (o (o (o z))))))) (.some (i (o (o (o z))))) Gd.no [],
   .mk (keepH (mvR (X.t (o (o z))))) (.some (o (i (o (o z))))) (Gd.on (i (o (o (o z)))) false) [],
   .mk (keepH (binR Tryd.prog EK.no .none true BinOp.gtr (X.t (o (i (o (o z))))) (X.c (AV.int .i64 0)))) (.some (i (i (o (o z))))) (Gd.on (i (o (o (o z)))) false) [],
   .mk (keepH (mvR (X.t (i (i (o (o z))))))) (.some (o (o (i (o z))))) (Gd.on (i (o (o (o z)))) false) [],
   .mk (keepH (mvR (X.t (o (o z))))) (.some (o (o (i (i z))))) (Gd.on (o (o (i (o z)))) true) [],
   .mk (keepH (mvR (X.t z))) (.some (i (i (o (i z))))) (Gd.on (o (o (i (o z)))) true) [],
   .mk (keepH (iaS 5 (X.t (i (i (o (i z))))) (X.t (o (o (i (i z))))))) (.some (i (o (i (i z))))) (Gd.on (o (o (i (o z)))) true) [],
   .mk (keepH (faR 0 (X.t (i (o (i (i z))))))) (.some (o (i (i (i z))))) (Gd.on (o (o (i (o z)))) true) [],
   .mk (keepH (ldR false 1 (X.t (o (i (i (i z))))))) (.some (i (i (i (i z))))) (Gd.on (o (o (i (o z)))) true) [],
   .mk (keepH (mvR (X.t (o (o z))))) (.some (o (i (i (o z))))) (Gd.on (o (o (i (o z)))) true) [],
   .mk (keepH (binR Tryd.prog EK.no .none true BinOp.sub (X.t (o (i (i (o z))))) (X.c (AV.int .i64 1)))) (.some (i (i (i (o z))))) (Gd.on (o (o (i (o z)))) true) [],
   .mk (keepH (mvR (X.t z))) (.some (i (o (i (o z))))) (Gd.on (o (o (i (o z)))) true) [],
   .mk (keepH (iaS 5 (X.t (i (o (i (o z))))) (X.t (i (i (i (o z))))))) (.some (o (o (o (i z))))) (Gd.on (o (o (i (o z)))) true) [],
   .mk (keepH (faR 0 (X.t (o (o (o (i z))))))) (.some (i (o (o (i z))))) (Gd.on (o (o (i (o z)))) true) [],
   .mk (keepH (ldR false 1 (X.t (i (o (o (i z))))))) (.some (o (i (o (i z))))) (Gd.on (o (o (i (o z)))) true) [],
   .mk (keepH (binR Tryd.prog EK.no .none false BinOp.geq (X.t (o (i (o (i z))))) (X.t (i (i (i (i z))))))) (.some (o (o (o (o (o z)))))) (Gd.on (o (o (i (o z)))) true) [],
   .mk (keepH (pickR (X.t (o (o (i (o z))))) (X.t (o (o (o (o (o z)))))) (X.c (AV.bool false)))) (.some (i (o (o (o (o z)))))) (Gd.on (i (o (o (o z)))) false) [],
   .mk (keepH (pickR (X.t (i (o (o (o z))))) (X.c (AV.bool true)) (X.t (i (o (o (o (o z)))))))) (.some (o (i (o (o (o z)))))) Gd.no []])
  (.cond (X.t (o (i (o (o (o z))))))
  (.seq (.region [.mk (mvR (X.c (AV.bool false))) (.some (i z)) Gd.no []])
  .ret)
  .skip)))
  (.region [.mk (mvR (X.t (o (o z)))) (.some (i (o (o z)))) Gd.no [],
   .mk (binR Tryd.prog EK.no .none true BinOp.add (X.t (i (o (o z)))) (X.c (AV.int .i64 1))) (.some (o (i (o z)))) Gd.no [],
   .mk (mvR (X.t (o (i (o z))))) (.some (o (o z))) Gd.no []])))
noncomputable def C55 : CC :=
  (.seq (.region [.mk (mvR (X.c (AV.bool false))) (.some (i z)) Gd.no []])
  (.seq (.seq (.region [.mk (mvR (X.c (AV.int .i64 0))) (.some (o (o z))) Gd.no []])
  (.block 0 (.loop C55L0)))
  (.seq (.region [.mk (mvR (X.c (AV.bool true))) (.some (i z)) Gd.no []])
  .ret)))
theorem C55ok : (match Tryd.f55.body with | some c => comp Tryd.prog 34 c | none => none) = some C55 := by kernel_rfl
@[go_sem] theorem call55 (args : List AV) (H : Heap) : callC Tryd.prog 55 args H = .call 55 args := callC_ok (by kernel_rfl) args H
theorem R55ok : resKs Tryd.prog Tryd.f55.results.toList = some [(RK.tmp (i z))] := by kernel_rfl

/- 57: estuary/estuaryref1.IsKey -/
noncomputable def C57 : CC :=
  (.seq (.region [.mk (mvR (X.c (AV.bool false))) (.some (i z)) Gd.no []])
  (.seq (.region [.mk (mvR (X.t z)) (.some (o (o z))) Gd.no [],
   .mk (lenR LnK.str (X.t (o (o z)))) (.some (i (o z))) Gd.no [],
   .mk (binR Tryd.prog EK.no .none true BinOp.geq (X.t (i (o z))) (X.c (AV.int .i64 1))) (.some (o (i z))) Gd.no [],
   .mk (mvR (X.t (o (i z)))) (.some (i (i z))) Gd.no [],
   .mk (mvR (X.t z)) (.some (o (o (o z)))) (Gd.on (i (i z)) true) [],
   .mk (lenR LnK.str (X.t (o (o (o z))))) (.some (i (o (o z)))) (Gd.on (i (i z)) true) [],
   .mk (binR Tryd.prog EK.no .none true BinOp.leq (X.t (i (o (o z)))) (X.c (AV.int .i64 8))) (.some (o (i (o z)))) (Gd.on (i (i z)) true) [],
   .mk (pickR (X.t (i (i z))) (X.t (o (i (o z)))) (X.c (AV.bool false))) (.some (i (i (o z)))) Gd.no [],
   .mk (mvR (X.t (i (i (o z))))) (.some (i z)) Gd.no []])
  .ret))
theorem C57ok : (match Tryd.f57.body with | some c => comp Tryd.prog 11 c | none => none) = some C57 := by kernel_rfl
@[go_sem] theorem call57 (args : List AV) (H : Heap) : callC Tryd.prog 57 args H = .call 57 args := callC_ok (by kernel_rfl) args H
theorem R57ok : resKs Tryd.prog Tryd.f57.results.toList = some [(RK.tmp (i z))] := by kernel_rfl

/- 59: estuary/span.Is -/
noncomputable def C59 : CC :=
  (.seq (.region [.mk (boxR false (X.t z)) (.some (o z)) Gd.no [],
   .mk (mvR (X.c (AV.bool false))) (.some (i z)) Gd.no []])
  (.seq (.block 0 (.seq (.block 2 (.block 1 (.seq (.seq (.seq (.region [.mk (faR 0 (X.t (o z))) (.some (i (o z))) Gd.no [],
   .mk (ldR false 1 (X.t (i (o z)))) (.some (o (i z))) Gd.no [],
   .mk (lenR LnK.str (X.t (o (i z)))) (.some (i (i z))) Gd.no [],
   .mk (binR Tryd.prog EK.no .none true BinOp.gtr (X.t (i (i z))) (X.c (AV.int .i64 8))) (.some (o (o (o z)))) Gd.no [],
   .mk (mvR (X.t (o (o (o z))))) (.some (o (o z))) Gd.no []])
  (.cond (X.t (o (o z)))
  (.exit 1)
  .skip))
  (.seq (.region [.mk (faR 1 (X.t (o z))) (.some (o (i (o z)))) Gd.no [],
   .mk (ldR false 1 (X.t (o (i (o z))))) (.some (i (i (o z)))) Gd.no [],
   .mk (lenR LnK.str (X.t (i (i (o z))))) (.some (o (o (i z)))) Gd.no [],
   .mk (binR Tryd.prog EK.no .none true BinOp.gtr (X.t (o (o (i z)))) (X.c (AV.int .i64 8))) (.some (i (o (i z)))) Gd.no [],
   .mk (mvR (X.t (i (o (i z))))) (.some (i (o (o z)))) Gd.no []])
  (.cond (X.t (i (o (o z))))
  (.exit 2)
  .skip)))
  (.exit 0))))
  (.seq (.seq (.region [.mk (mvR (X.c (AV.bool false))) (.some (i z)) Gd.no []])
  .ret)
  (.exit 0))))
  (.seq (.region [.mk (faR 1 (X.t (o z))) (.some (o (i (i z)))) Gd.no [],
   .mk (ldR false 1 (X.t (o (i (i z))))) (.some (i (i (i z)))) Gd.no [],
   .mk (binR Tryd.prog EK.no .none true BinOp.eql (X.t (i (i (i z)))) (X.c (AV.str []))) (.some (o (o (o (o z))))) Gd.no [],
   .mk (mvR (X.t (o (o (o (o z)))))) (.some (i (o (o (o z))))) Gd.no [],
   .mk (faR 1 (X.t (o z))) (.some (o (i (o (o z))))) (Gd.on (i (o (o (o z)))) false) [],
   .mk (ldR false 1 (X.t (o (i (o (o z)))))) (.some (i (i (o (o z))))) (Gd.on (i (o (o (o z)))) false) [],
   .mk (faR 0 (X.t (o z))) (.some (o (o (i (o z))))) (Gd.on (i (o (o (o z)))) false) [],
   .mk (ldR false 1 (X.t (o (o (i (o z)))))) (.some (i (o (i (o z))))) (Gd.on (i (o (o (o z)))) false) [],
   .mk (binR Tryd.prog EK.no .none false BinOp.gtr (X.t (i (i (o (o z))))) (X.t (i (o (i (o z)))))) (.some (o (i (i (o z))))) (Gd.on (i (o (o (o z)))) false) [],
   .mk (pickR (X.t (i (o (o (o z))))) (X.c (AV.bool true)) (X.t (o (i (i (o z)))))) (.some (i (i (i (o z))))) Gd.no [],
   .mk (mvR (X.t (i (i (i (o z)))))) (.some (i z)) Gd.no []])
  .ret)))
theorem C59ok : (match Tryd.f59.body with | some c => comp Tryd.prog 23 c | none => none) = some C59 := by kernel_rfl
@[go_sem] theorem call59 (args : List AV) (H : Heap) : callC Tryd.prog 59 args H = .call 59 args := callC_ok (by kernel_rfl) args H
theorem R59ok : resKs Tryd.prog Tryd.f59.results.toList = some [(RK.tmp (i z))] := by kernel_rfl

/- 60: estuary/token.Is -/
noncomputable def C60L0 : CC :=
  (.seq (.region [.mk (binR Tryd.prog EK.no .none false BinOp.lss (X.t (o (o (o z)))) (X.t (i (i z)))) (.some (i (o (o z)))) Gd.no []])
  (.seq (.cond (X.t (i (o (o z))))
  .skip
  (.exit 0))
  (.seq (.block 1 (.seq (.region [.mk (mvR (X.t (o (o (o z))))) (.some (o (i (o z)))) Gd.no [],
   .mk (iaS 2 (X.t (o (i z))) (X.t (o (o (o z))))) (.some (i (i (o z)))) Gd.no [],
   .mk (ldR true 2 (X.t (i (i (o z))))) (.some (o (o (i z)))) Gd.no [],
   .mk (fun _ H => newC false [(AV.str []), (AV.int .i64 0)] H) (.some (i (o z))) Gd.no [],
   .mk (mvR (X.t (o (i (o z))))) (.some (o (o z))) Gd.no [],
   .mk (stR 2 (X.t (i (o z))) (X.t (o (o (i z))))) .none Gd.no []])
  (.block 2 (.seq (.block 5 (.block 4 (.block 3 (.seq (.seq (.seq (.region [.mk (faR 0 (X.t (i (o z)))) (.some (o (i (i z)))) Gd.no [],
   .mk (ldR false 1 (X.t (o (i (i z))))) (.some (i (i (i z)))) Gd.no [],
   .mk (callS Tryd.prog 81 [(X.t (i (i (i z))))]) (.some (o (o (o (o z))))) Gd.no [],
   .mk (unR UnOp.not (X.t (o (o (o (o z)))))) (.some (i (o (o (o z))))) Gd.no [],
   .mk (mvR (X.t (i (o (o (o z)))))) (.some (i (o (i z)))) Gd.no []])
  (.cond (X.t (i (o (i z))))
  (.exit 3)
  .skip))
  (.seq (.seq (.region [.mk (faR 1 (X.t (i (o z)))) (.some (i (i (o (o z))))) Gd.no [],
   .mk (ldR false 1 (X.t (i (i (o (o z)))))) (.some (o (o (i (o z))))) Gd.no [],
   .mk (binR Tryd.prog EK.no .none true BinOp.lss (X.t (o (o (i (o z))))) (X.c (AV.int .i64 0))) (.some (i (o (i (o z))))) Gd.no [],
   .mk (mvR (X.t (i (o (i (o z)))))) (.some (o (i (i (o z))))) Gd.no [],
   .mk (faR 1 (X.t (i (o z)))) (.some (i (i (i (o z))))) (Gd.on (o (i (i (o z)))) false) [],
   .mk (ldR false 1 (X.t (i (i (i (o z)))))) (.some (o (o (o (i z))))) (Gd.on (o (i (i (o z)))) false) [],
   .mk (binR Tryd.prog EK.no .none true BinOp.gtr (X.t (o (o (o (i z))))) (X.c (AV.int .i64 1000000000000))) (.some (i (o (o (i z))))) (Gd.on (o (i (i (o z)))) false) [],
   .mk (pickR (X.t (o (i (i (o z))))) (X.c (AV.bool true)) (X.t (i (o (o (i z)))))) (.some (o (i (o (i z))))) Gd.no [],
   .mk (mvR (X.t (o (i (o (i z)))))) (.some (o (i (o (o z))))) Gd.no []])
  (.cond (X.t (o (i (o (o z)))))
  (.exit 4)
  .skip))
  (.seq (.regionD [.mk (keepH (mvR (X.t (o (o z))))) (.some (o (o (i (i z))))) Gd.no [],
   .mk (keepH (binR Tryd.prog EK.no .none true BinOp.gtr (X.t (o (o (i (i z))))) (X.c (AV.int .i64 0)))) (.some (i (o (i (i z))))) Gd.no [],
   .mk (keepH (mvR (X.t (i (o (i (i z))))))) (.some (o (i (i (i z))))) Gd.no [],
   .mk (keepH (faR 0 (X.t (i (o z))))) (.some (i (o (i (o (o z)))))) (Gd.on (o (i (i (i z)))) true) [],
   .mk (keepH (ldR false 1 (X.t (i (o (i (o (o z)))))))) (.some (o (i (i (o (o z)))))) (Gd.on (o (i (i (i z)))) true) [],
   .mk (keepH (mvR (X.t (o (o z))))) (.some (o (o (o (o (o z)))))) (Gd.on (o (i (i (i z)))) true) [],
   .mk (keepH (binR Tryd.prog EK.no .none true BinOp.sub (X.t (o (o (o (o (o z)))))) (X.c (AV.int .i64 1)))) (.some (i (o (o (o (o z)))))) (Gd.on (o (i (i (i z)))) true) [],
   .mk (keepH (mvR (X.t z))) (.some (i (i (i (i z))))) (Gd.on (o (i (i (i z)))) true) [],
   .mk (keepH (iaS 2 (X.t (i (i (i (i z))))) (X.t (i (o (o (o (o z)))))))) (.some (o (i (o (o (o z)))))) (Gd.on (o (i (i (i z)))) true) [],
   .mk (keepH (faR 0 (X.t (o (i (o (o (o z)))))))) (.some (i (i (o (o (o z)))))) (Gd.on (o (i (i (i z)))) true) [],
   .mk (keepH (ldR false 1 (X.t (i (i (o (o (o z)))))))) (.some (o (o (i (o (o z)))))) (Gd.on (o (i (i (i z)))) true) [],
   .mk (keepH (binR Tryd.prog EK.no .none false BinOp.geq (X.t (o (o (i (o (o z)))))) (X.t (o (i (i (o (o z)))))))) (.some (i (i (i (o (o z)))))) (Gd.on (o (i (i (i z)))) true) [],
   .mk (keepH (pickR (X.t (o (i (i (i z))))) (X.t (i (i (i (o (o z)))))) (X.c (AV.bool false)))) (.some (o (o (o (i (o z)))))) Gd.no [],
   .mk (mvR (X.t (o (o (o (i (o z))))))) (.some (i (i (o (i z))))) Gd.no []])
  (.cond (X.t (i (i (o (i z)))))
  (.exit 5)
  .skip))))
  (.exit 2)))))
  (.seq (.seq (.region [.mk (mvR (X.c (AV.bool false))) (.some (i z)) Gd.no []])
  .ret)
  (.exit 2))))))
  (.region [.mk (binR Tryd.prog EK.no .none true BinOp.add (X.t (o (o (o z)))) (X.c (AV.int .i64 1))) (.some (i (o (o (i (o z)))))) Gd.no [],
   .mk (mvR (X.t (i (o (o (i (o z))))))) (.some (o (o (o z)))) Gd.no []]))))
noncomputable def C60 : CC :=
  (.seq (.region [.mk (mvR (X.c (AV.bool false))) (.some (i z)) Gd.no []])
  (.seq (.seq (.region [.mk (mvR (X.t z)) (.some (o (i z))) Gd.no [],
   .mk (lenR LnK.slice (X.t (o (i z)))) (.some (i (i z))) Gd.no [],
   .mk (mvR (X.c (AV.int .i64 0))) (.some (o (o (o z)))) Gd.no []])
  (.block 0 (.loop C60L0)))
  (.seq (.region [.mk (mvR (X.c (AV.bool true))) (.some (i z)) Gd.no []])
  .ret)))
theorem C60ok : (match Tryd.f60.body with | some c => comp Tryd.prog 41 c | none => none) = some C60 := by kernel_rfl
@[go_sem] theorem call60 (args : List AV) (H : Heap) : callC Tryd.prog 60 args H = .call 60 args := callC_ok (by kernel_rfl) args H
theorem R60ok : resKs Tryd.prog Tryd.f60.results.toList = some [(RK.tmp (i z))] := by kernel_rfl

-- 61: no body
-- 62 "errors.is": not laid out

/- 65: estuary/span.Has -/
noncomputable def C65 : CC :=
  (.seq (.region [.mk (boxR false (X.t z)) (.some (i z)) Gd.no [],
   .mk (mvR (X.c (AV.bool false))) (.some (i (o z))) Gd.no []])
  (.seq (.region [.mk (ldR true 2 (X.t (i z))) (.some (o (i z))) Gd.no [],
   .mk (callS Tryd.prog 59 [(X.t (o (i z)))]) (.some (i (i z))) Gd.no [],
   .mk (mvR (X.t (i (i z)))) (.some (o (o (o z)))) Gd.no [],
   .mk (mvR (X.t (o z))) (.some (i (o (o z)))) (Gd.on (o (o (o z))) true) [],
   .mk (callS Tryd.prog 81 [(X.t (i (o (o z))))]) (.some (o (i (o z)))) (Gd.on (o (o (o z))) true) [],
   .mk (pickR (X.t (o (o (o z)))) (X.t (o (i (o z)))) (X.c (AV.bool false))) (.some (i (i (o z)))) Gd.no [],
   .mk (mvR (X.t (i (i (o z))))) (.some (o (o (i z)))) Gd.no [],
   .mk (mvR (X.t (o z))) (.some (i (o (i z)))) (Gd.on (o (o (i z))) true) [],
   .mk (faR 0 (X.t (i z))) (.some (o (i (i z)))) (Gd.on (o (o (i z))) true) [],
   .mk (ldR false 1 (X.t (o (i (i z))))) (.some (i (i (i z)))) (Gd.on (o (o (i z))) true) [],
   .mk (binR Tryd.prog EK.no .none false BinOp.geq (X.t (i (o (i z)))) (X.t (i (i (i z))))) (.some (o (o (o (o z))))) (Gd.on (o (o (i z))) true) [],
   .mk (pickR (X.t (o (o (i z)))) (X.t (o (o (o (o z))))) (X.c (AV.bool false))) (.some (i (o (o (o z))))) Gd.no [],
   .mk (mvR (X.t (i (o (o (o z)))))) (.some (o (i (o (o z))))) Gd.no [],
   .mk (faR 1 (X.t (i z))) (.some (i (i (o (o z))))) (Gd.on (o (i (o (o z)))) true) [],
   .mk (ldR false 1 (X.t (i (i (o (o z)))))) (.some (o (o (i (o z))))) (Gd.on (o (i (o (o z)))) true) [],
   .mk (binR Tryd.prog EK.no .none true BinOp.eql (X.t (o (o (i (o z))))) (X.c (AV.str []))) (.some (i (o (i (o z))))) (Gd.on (o (i (o (o z)))) true) [],
   .mk (mvR (X.t (i (o (i (o z)))))) (.some (o (i (i (o z))))) (Gd.on (o (i (o (o z)))) true) [],
   .mk (mvR (X.t (o z))) (.some (i (i (i (o z))))) (Gd.on (o (i (i (o z)))) false) [],
   .mk (faR 1 (X.t (i z))) (.some (o (o (o (i z))))) (Gd.on (o (i (i (o z)))) false) [],
   .mk (ldR false 1 (X.t (o (o (o (i z)))))) (.some (i (o (o (i z))))) (Gd.on (o (i (i (o z)))) false) [],
   .mk (binR Tryd.prog EK.no .none false BinOp.lss (X.t (i (i (i (o z))))) (X.t (i (o (o (i z)))))) (.some (o (i (o (i z))))) (Gd.on (o (i (i (o z)))) false) [],
   .mk (pickR (X.t (o (i (i (o z))))) (X.c (AV.bool true)) (X.t (o (i (o (i z)))))) (.some (i (i (o (i z))))) (Gd.on (o (i (o (o z)))) true) [],
   .mk (pickR (X.t (o (i (o (o z))))) (X.t (i (i (o (i z))))) (X.c (AV.bool false))) (.some (o (o (i (i z))))) Gd.no [],
   .mk (mvR (X.t (o (o (i (i z)))))) (.some (i (o z))) Gd.no []])
  .ret))
theorem C65ok : (match Tryd.f65.body with | some c => comp Tryd.prog 28 c | none => none) = some C65 := by kernel_rfl
@[go_sem] theorem call65 (args : List AV) (H : Heap) : callC Tryd.prog 65 args H = .call 65 args := callC_ok (by kernel_rfl) args H
theorem R65ok : resKs Tryd.prog Tryd.f65.results.toList = some [(RK.tmp (i (o z)))] := by kernel_rfl

/- 66: estuary/token.Of -/
noncomputable def C66L0 : CC :=
  (.seq (.region [.mk (binR Tryd.prog EK.no .none false BinOp.lss (X.t (o (i (o z)))) (X.t (i (o (o z))))) (.some (i (i (o z)))) Gd.no []])
  (.seq (.cond (X.t (i (i (o z))))
  .skip
  (.exit 0))
  (.seq (.block 1 (.seq (.region [.mk (iaS 2 (X.t (o (o (o z)))) (X.t (o (i (o z))))) (.some (o (o (i z)))) Gd.no [],
   .mk (ldR true 2 (X.t (o (o (i z))))) (.some (i (o (i z)))) Gd.no [],
   .mk (fun _ H => newC false [(AV.str []), (AV.int .i64 0)] H) (.some (i (i z))) Gd.no [],
   .mk (stR 2 (X.t (i (i z))) (X.t (i (o (i z))))) .none Gd.no []])
  (.seq (.region [.mk (faR 0 (X.t (i (i z)))) (.some (o (i (i z)))) Gd.no [],
   .mk (ldR false 1 (X.t (o (i (i z))))) (.some (i (i (i z)))) Gd.no [],
   .mk (mvR (X.t (o z))) (.some (o (o (o (o z))))) Gd.no [],
   .mk (binR Tryd.prog EK.no .none false BinOp.eql (X.t (i (i (i z)))) (X.t (o (o (o (o z)))))) (.some (i (o (o (o z))))) Gd.no []])
  (.cond (X.t (i (o (o (o z)))))
  (.seq (.region [.mk (faR 1 (X.t (i (i z)))) (.some (o (i (o (o z))))) Gd.no [],
   .mk (ldR false 1 (X.t (o (i (o (o z)))))) (.some (i (i (o (o z))))) Gd.no [],
   .mk (mvR (X.t (i (i (o (o z)))))) (.some (i (o z))) Gd.no []])
  .ret)
  .skip))))
  (.region [.mk (binR Tryd.prog EK.no .none true BinOp.add (X.t (o (i (o z)))) (X.c (AV.int .i64 1))) (.some (o (o (i (o z))))) Gd.no [],
   .mk (mvR (X.t (o (o (i (o z)))))) (.some (o (i (o z)))) Gd.no []]))))
noncomputable def C66 : CC :=
  (.seq (.region [.mk (mvR (X.c (AV.int .i64 0))) (.some (i (o z))) Gd.no []])
  (.seq (.seq (.region [.mk (mvR (X.t z)) (.some (o (o (o z)))) Gd.no [],
   .mk (lenR LnK.slice (X.t (o (o (o z))))) (.some (i (o (o z)))) Gd.no [],
   .mk (mvR (X.c (AV.int .i64 0))) (.some (o (i (o z)))) Gd.no []])
  (.block 0 (.loop C66L0)))
  (.seq (.region [.mk (mvR (X.c (AV.int .i64 0))) (.some (i (o z))) Gd.no []])
  .ret)))
theorem C66ok : (match Tryd.f66.body with | some c => comp Tryd.prog 20 c | none => none) = some C66 := by kernel_rfl
@[go_sem] theorem call66 (args : List AV) (H : Heap) : callC Tryd.prog 66 args H = .call 66 args := callC_ok (by kernel_rfl) args H
theorem R66ok : resKs Tryd.prog Tryd.f66.results.toList = some [(RK.tmp (i (o z)))] := by kernel_rfl

/- 69: estuary/estuaryref6.IsAnswer -/
noncomputable def C69L0 : CC :=
  (.seq (.seq (.region [.mk (mvR (X.t (o (o z)))) (.some (i (o z))) Gd.no [],
   .mk (faR 3 (X.t (o z))) (.some (o (i z))) Gd.no [],
   .mk (ldR false 1 (X.t (o (i z)))) (.some (i (i z))) Gd.no [],
   .mk (lenR LnK.slice (X.t (i (i z)))) (.some (o (o (o z)))) Gd.no [],
   .mk (binR Tryd.prog EK.no .none false BinOp.lss (X.t (i (o z))) (X.t (o (o (o z))))) (.some (i (o (o z)))) Gd.no []])
  (.cond (X.t (i (o (o z))))
  .skip
  (.exit 0)))
  (.seq (.block 1 (.seq (.region [.mk (faR 3 (X.t (o z))) (.some (o (o (i z)))) Gd.no [],
   .mk (ldR false 1 (X.t (o (o (i z))))) (.some (i (o (i z)))) Gd.no [],
   .mk (mvR (X.t (o (o z)))) (.some (o (i (i z)))) Gd.no [],
   .mk (iaS 3 (X.t (i (o (i z)))) (X.t (o (i (i z))))) (.some (i (i (i z)))) Gd.no [],
   .mk (faR 0 (X.t (i (i (i z))))) (.some (o (o (o (o z))))) Gd.no [],
   .mk (ldR false 1 (X.t (o (o (o (o z)))))) (.some (i (o (o (o z))))) Gd.no [],
   .mk (lenR LnK.str (X.t (i (o (o (o z)))))) (.some (o (i (o (o z))))) Gd.no [],
   .mk (binR Tryd.prog EK.no .none true BinOp.gtr (X.t (o (i (o (o z))))) (X.c (AV.int .i64 255))) (.some (i (i (o (o z))))) Gd.no [],
   .mk (mvR (X.t (i (i (o (o z)))))) (.some (o (o (i (o z))))) Gd.no [],
   .mk (faR 3 (X.t (o z))) (.some (i (o (i (o z))))) (Gd.on (o (o (i (o z)))) false) [],
   .mk (ldR false 1 (X.t (i (o (i (o z)))))) (.some (o (i (i (o z))))) (Gd.on (o (o (i (o z)))) false) [],
   .mk (mvR (X.t (o (o z)))) (.some (i (i (i (o z))))) (Gd.on (o (o (i (o z)))) false) [],
   .mk (iaS 3 (X.t (o (i (i (o z))))) (X.t (i (i (i (o z)))))) (.some (o (o (o (i z))))) (Gd.on (o (o (i (o z)))) false) [],
   .mk (faR 1 (X.t (o (o (o (i z)))))) (.some (i (o (o (i z))))) (Gd.on (o (o (i (o z)))) false) [],
   .mk (ldR false 1 (X.t (i (o (o (i z)))))) (.some (o (i (o (i z))))) (Gd.on (o (o (i (o z)))) false) [],
   .mk (lenR LnK.str (X.t (o (i (o (i z)))))) (.some (i (i (o (i z))))) (Gd.on (o (o (i (o z)))) false) [],
   .mk (binR Tryd.prog EK.no .none true BinOp.gtr (X.t (i (i (o (i z))))) (X.c (AV.int .i64 255))) (.some (o (o (i (i z))))) (Gd.on (o (o (i (o z)))) false) [],
   .mk (pickR (X.t (o (o (i (o z))))) (X.c (AV.bool true)) (X.t (o (o (i (i z)))))) (.some (i (o (i (i z))))) Gd.no [],
   .mk (mvR (X.t (i (o (i (i z)))))) (.some (o (i (i (i z))))) Gd.no [],
   .mk (faR 3 (X.t (o z))) (.some (i (i (i (i z))))) (Gd.on (o (i (i (i z)))) false) [],
   .mk (ldR false 1 (X.t (i (i (i (i z)))))) (.some (o (o (o (o (o z)))))) (Gd.on (o (i (i (i z)))) false) [],
   .mk (mvR (X.t (o (o z)))) (.some (i (o (o (o (o z)))))) (Gd.on (o (i (i (i z)))) false) [],
   .mk (iaS 3 (X.t (o (o (o (o (o z)))))) (X.t (i (o (o (o (o z))))))) (.some (o (i (o (o (o z)))))) (Gd.on (o (i (i (i z)))) false) [],
   .mk (faR 2 (X.t (o (i (o (o (o z))))))) (.some (i (i (o (o (o z)))))) (Gd.on (o (i (i (i z)))) false) [],
   .mk (ldR false 1 (X.t (i (i (o (o (o z))))))) (.some (o (o (i (o (o z)))))) (Gd.on (o (i (i (i z)))) false) [],
   .mk (binR Tryd.prog EK.no .none true BinOp.lss (X.t (o (o (i (o (o z)))))) (X.c (AV.int .i64 0))) (.some (i (o (i (o (o z)))))) (Gd.on (o (i (i (i z)))) false) [],
   .mk (pickR (X.t (o (i (i (i z))))) (X.c (AV.bool true)) (X.t (i (o (i (o (o z))))))) (.some (o (i (i (o (o z)))))) Gd.no [],
   .mk (mvR (X.t (o (i (i (o (o z))))))) (.some (i (i (i (o (o z)))))) Gd.no [],
   .mk (faR 3 (X.t (o z))) (.some (o (o (o (i (o z)))))) (Gd.on (i (i (i (o (o z))))) false) [],
   .mk (ldR false 1 (X.t (o (o (o (i (o z))))))) (.some (i (o (o (i (o z)))))) (Gd.on (i (i (i (o (o z))))) false) [],
   .mk (mvR (X.t (o (o z)))) (.some (o (i (o (i (o z)))))) (Gd.on (i (i (i (o (o z))))) false) [],
   .mk (iaS 3 (X.t (i (o (o (i (o z)))))) (X.t (o (i (o (i (o z))))))) (.some (i (i (o (i (o z)))))) (Gd.on (i (i (i (o (o z))))) false) [],
   .mk (faR 2 (X.t (i (i (o (i (o z))))))) (.some (o (o (i (i (o z)))))) (Gd.on (i (i (i (o (o z))))) false) [],
   .mk (ldR false 1 (X.t (o (o (i (i (o z))))))) (.some (i (o (i (i (o z)))))) (Gd.on (i (i (i (o (o z))))) false) [],
   .mk (binR Tryd.prog EK.no .none true BinOp.geq (X.t (i (o (i (i (o z)))))) (X.c (AV.int .i64 281474976710656))) (.some (o (i (i (i (o z)))))) (Gd.on (i (i (i (o (o z))))) false) [],
   .mk (pickR (X.t (i (i (i (o (o z)))))) (X.c (AV.bool true)) (X.t (o (i (i (i (o z))))))) (.some (i (i (i (i (o z)))))) Gd.no []])
  (.cond (X.t (i (i (i (i (o z))))))
  (.seq (.region [.mk (mvR (X.c (AV.bool false))) (.some (i z)) Gd.no []])
  .ret)
  .skip)))
  (.region [.mk (mvR (X.t (o (o z)))) (.some (o (i (o z)))) Gd.no [],
   .mk (binR Tryd.prog EK.no .none true BinOp.add (X.t (o (i (o z)))) (X.c (AV.int .i64 1))) (.some (i (i (o z)))) Gd.no [],
   .mk (mvR (X.t (i (i (o z))))) (.some (o (o z))) Gd.no []])))
noncomputable def C69 : CC :=
  (.seq (.region [.mk (boxR false (X.t z)) (.some (o z)) Gd.no [],
   .mk (mvR (X.c (AV.bool false))) (.some (i z)) Gd.no []])
  (.seq (.seq (.region [.mk (mvR (X.c (AV.int .i64 0))) (.some (o (o z))) Gd.no []])
  (.block 0 (.loop C69L0)))
  (.seq (.region [.mk (faR 0 (X.t (o z))) (.some (o (o (o (o (i z)))))) Gd.no [],
   .mk (ldR false 1 (X.t (o (o (o (o (i z))))))) (.some (i (o (o (o (i z)))))) Gd.no [],
   .mk (binR Tryd.prog EK.no .none true BinOp.geq (X.t (i (o (o (o (i z)))))) (X.c (AV.int .i64 0))) (.some (o (i (o (o (i z)))))) Gd.no [],
   .mk (mvR (X.t (o (i (o (o (i z))))))) (.some (i (i (o (o (i z)))))) Gd.no [],
   .mk (faR 0 (X.t (o z))) (.some (o (o (i (o (i z)))))) (Gd.on (i (i (o (o (i z))))) true) [],
   .mk (ldR false 1 (X.t (o (o (i (o (i z))))))) (.some (i (o (i (o (i z)))))) (Gd.on (i (i (o (o (i z))))) true) [],
   .mk (binR Tryd.prog EK.no .none true BinOp.lss (X.t (i (o (i (o (i z)))))) (X.c (AV.int .i64 281474976710656))) (.some (o (i (i (o (i z)))))) (Gd.on (i (i (o (o (i z))))) true) [],
   .mk (pickR (X.t (i (i (o (o (i z)))))) (X.t (o (i (i (o (i z)))))) (X.c (AV.bool false))) (.some (i (i (i (o (i z)))))) Gd.no [],
   .mk (mvR (X.t (i (i (i (o (i z))))))) (.some (o (o (o (i (i z)))))) Gd.no [],
   .mk (faR 2 (X.t (o z))) (.some (i (o (o (i (i z)))))) (Gd.on (o (o (o (i (i z))))) true) [],
   .mk (ldR false 1 (X.t (i (o (o (i (i z))))))) (.some (o (i (o (i (i z)))))) (Gd.on (o (o (o (i (i z))))) true) [],
   .mk (binR Tryd.prog EK.no .none true BinOp.geq (X.t (o (i (o (i (i z)))))) (X.c (AV.int .i64 0))) (.some (i (i (o (i (i z)))))) (Gd.on (o (o (o (i (i z))))) true) [],
   .mk (pickR (X.t (o (o (o (i (i z)))))) (X.t (i (i (o (i (i z)))))) (X.c (AV.bool false))) (.some (o (o (i (i (i z)))))) Gd.no [],
   .mk (mvR (X.t (o (o (i (i (i z))))))) (.some (i (o (i (i (i z)))))) Gd.no [],
   .mk (faR 2 (X.t (o z))) (.some (o (i (i (i (i z)))))) (Gd.on (i (o (i (i (i z))))) true) [],
   .mk (ldR false 1 (X.t (o (i (i (i (i z))))))) (.some (i (i (i (i (i z)))))) (Gd.on (i (o (i (i (i z))))) true) [],
   .mk (binR Tryd.prog EK.no .none true BinOp.lss (X.t (i (i (i (i (i z)))))) (X.c (AV.int .i64 281474976710656))) (.some (o (o (o (o (o (o z))))))) (Gd.on (i (o (i (i (i z))))) true) [],
   .mk (pickR (X.t (i (o (i (i (i z)))))) (X.t (o (o (o (o (o (o z))))))) (X.c (AV.bool false))) (.some (i (o (o (o (o (o z))))))) Gd.no [],
   .mk (mvR (X.t (i (o (o (o (o (o z)))))))) (.some (o (i (o (o (o (o z))))))) Gd.no [],
   .mk (faR 1 (X.t (o z))) (.some (i (i (o (o (o (o z))))))) (Gd.on (o (i (o (o (o (o z)))))) true) [],
   .mk (ldR false 1 (X.t (i (i (o (o (o (o z)))))))) (.some (o (o (i (o (o (o z))))))) (Gd.on (o (i (o (o (o (o z)))))) true) [],
   .mk (lenR LnK.str (X.t (o (o (i (o (o (o z)))))))) (.some (i (o (i (o (o (o z))))))) (Gd.on (o (i (o (o (o (o z)))))) true) [],
   .mk (binR Tryd.prog EK.no .none true BinOp.leq (X.t (i (o (i (o (o (o z))))))) (X.c (AV.int .i64 255))) (.some (o (i (i (o (o (o z))))))) (Gd.on (o (i (o (o (o (o z)))))) true) [],
   .mk (pickR (X.t (o (i (o (o (o (o z))))))) (X.t (o (i (i (o (o (o z))))))) (X.c (AV.bool false))) (.some (i (i (i (o (o (o z))))))) Gd.no [],
   .mk (mvR (X.t (i (i (i (o (o (o z)))))))) (.some (o (o (o (i (o (o z))))))) Gd.no [],
   .mk (faR 3 (X.t (o z))) (.some (i (o (o (i (o (o z))))))) (Gd.on (o (o (o (i (o (o z)))))) true) [],
   .mk (ldR false 1 (X.t (i (o (o (i (o (o z)))))))) (.some (o (i (o (i (o (o z))))))) (Gd.on (o (o (o (i (o (o z)))))) true) [],
   .mk (lenR LnK.slice (X.t (o (i (o (i (o (o z)))))))) (.some (i (i (o (i (o (o z))))))) (Gd.on (o (o (o (i (o (o z)))))) true) [],
   .mk (binR Tryd.prog EK.no .none true BinOp.leq (X.t (i (i (o (i (o (o z))))))) (X.c (AV.int .i64 16))) (.some (o (o (i (i (o (o z))))))) (Gd.on (o (o (o (i (o (o z)))))) true) [],
   .mk (pickR (X.t (o (o (o (i (o (o z))))))) (X.t (o (o (i (i (o (o z))))))) (X.c (AV.bool false))) (.some (i (o (i (i (o (o z))))))) Gd.no [],
   .mk (mvR (X.t (i (o (i (i (o (o z)))))))) (.some (i z)) Gd.no []])
  .ret)))
theorem C69ok : (match Tryd.f69.body with | some c => comp Tryd.prog 77 c | none => none) = some C69 := by kernel_rfl
@[go_sem] theorem call69 (args : List AV) (H : Heap) : callC Tryd.prog 69 args H = .call 69 args := callC_ok (by kernel_rfl) args H
theorem R69ok : resKs Tryd.prog Tryd.f69.results.toList = some [(RK.tmp (i z))] := by kernel_rfl

/- 71: estuary/index.Within -/
noncomputable def C71L0 : CC :=
  (.seq (.region [.mk (binR Tryd.prog EK.no .none false BinOp.lss (X.t (i (i (o z)))) (X.t (o (i (o z))))) (.some (o (o (i z)))) Gd.no []])
  (.seq (.cond (X.t (o (o (i z))))
  .skip
  (.exit 0))
  (.seq (.block 1 (.seq (.region [.mk (iaS 5 (X.t (i (o (o z)))) (X.t (i (i (o z))))) (.some (i (o (i z)))) Gd.no [],
   .mk (ldR true 5 (X.t (i (o (i z))))) (.some (o (i (i z)))) Gd.no [],
   .mk (fun _ H => newC false [(AV.str []), (AV.str []), (AV.int .i64 0), (AV.bool false), (AV.int .i64 0)] H) (.some (o (o (o z)))) Gd.no [],
   .mk (stR 5 (X.t (o (o (o z)))) (X.t (o (i (i z))))) .none Gd.no []])
  (.seq (.region [.mk (ldR true 2 (X.t (o (o z)))) (.some (i (i (i z)))) Gd.no [],
   .mk (faR 0 (X.t (o (o (o z))))) (.some (o (o (o (o z))))) Gd.no [],
   .mk (ldR false 1 (X.t (o (o (o (o z)))))) (.some (i (o (o (o z))))) Gd.no [],
   .mk (callS Tryd.prog 65 [(X.t (i (i (i z)))), (X.t (i (o (o (o z)))))]) (.some (o (i (o (o z))))) Gd.no []])
  (.cond (X.t (o (i (o (o z)))))
  (.region [.mk (mvR (X.t (o (i z)))) (.some (i (i (o (o z))))) Gd.no [],
   .mk (ldR true 5 (X.t (o (o (o z))))) (.some (o (o (i (o z))))) Gd.no [],
   .mk (bslR 5 1 [(AV.str []), (AV.str []), (AV.int .i64 0), (AV.bool false), (AV.int .i64 0)] [(0, (X.t (o (o (i (o z))))))]) (.some (i (o (i (o z))))) Gd.no [],
   .mk (appR 5 56 (X.t (i (i (o (o z))))) (X.t (i (o (i (o z)))))) (.some (o (i (i (o z))))) Gd.no [],
   .mk (mvR (X.t (o (i (i (o z)))))) (.some (o (i z))) Gd.no []])
  .skip))))
  (.region [.mk (binR Tryd.prog EK.no .none true BinOp.add (X.t (i (i (o z)))) (X.c (AV.int .i64 1))) (.some (i (i (i (o z))))) Gd.no [],
   .mk (mvR (X.t (i (i (i (o z)))))) (.some (i (i (o z)))) Gd.no []]))))
noncomputable def C71 : CC :=
  (.seq (.region [.mk (boxR false (X.t (o z))) (.some (o (o z))) Gd.no [],
   .mk (mvR (X.c AV.nils)) (.some (i (o z))) Gd.no []])
  (.seq (.region [.mk (mvR (X.c AV.nils)) (.some (o (i z))) Gd.no []])
  (.seq (.seq (.region [.mk (mvR (X.t z)) (.some (i (o (o z)))) Gd.no [],
   .mk (lenR LnK.slice (X.t (i (o (o z))))) (.some (o (i (o z)))) Gd.no [],
   .mk (mvR (X.c (AV.int .i64 0))) (.some (i (i (o z)))) Gd.no []])
  (.block 0 (.loop C71L0)))
  (.seq (.region [.mk (mvR (X.t (o (i z)))) (.some (o (o (o (i z))))) Gd.no [],
   .mk (mvR (X.t (o (o (o (i z)))))) (.some (i (o z))) Gd.no []])
  .ret))))
theorem C71ok : (match Tryd.f71.body with | some c => comp Tryd.prog 24 c | none => none) = some C71 := by kernel_rfl
@[go_sem] theorem call71 (args : List AV) (H : Heap) : callC Tryd.prog 71 args H = .call 71 args := callC_ok (by kernel_rfl) args H
theorem R71ok : resKs Tryd.prog Tryd.f71.results.toList = some [(RK.tmp (i (o z)))] := by kernel_rfl

/- 78: estuary/once.With -/
noncomputable def C78L0 : CC :=
  (.seq (.seq (.regionD [.mk (keepH (mvR (X.t (o (i z))))) (.some (i (i (o z)))) Gd.no [],
   .mk (keepH (lenR LnK.slice (X.t (i (i (o z)))))) (.some (o (o (i z)))) Gd.no [],
   .mk (keepH (mvR (X.t (i (i z))))) (.some (o (i (o z)))) Gd.no [],
   .mk (keepH (binR Tryd.prog EK.no .none false BinOp.lss (X.t (o (i (o z)))) (X.t (o (o (i z)))))) (.some (i (o (i z)))) Gd.no [],
   .mk (keepH (mvR (X.t (i (o (i z)))))) (.some (o (i (i z)))) Gd.no [],
   .mk (keepH (faR 0 (X.t (o (o z))))) (.some (o (o (i (o z))))) (Gd.on (o (i (i z))) true) [],
   .mk (keepH (ldR false 1 (X.t (o (o (i (o z))))))) (.some (i (o (i (o z))))) (Gd.on (o (i (i z))) true) [],
   .mk (keepH (mvR (X.t (i (i z))))) (.some (o (o (o (o z))))) (Gd.on (o (i (i z))) true) [],
   .mk (keepH (mvR (X.t (o (i z))))) (.some (i (i (i z)))) (Gd.on (o (i (i z))) true) [],
   .mk (keepH (iaS 6 (X.t (i (i (i z)))) (X.t (o (o (o (o z))))))) (.some (i (o (o (o z))))) (Gd.on (o (i (i z))) true) [],
   .mk (keepH (faR 0 (X.t (i (o (o (o z))))))) (.some (o (i (o (o z))))) (Gd.on (o (i (i z))) true) [],
   .mk (keepH (ldR false 1 (X.t (o (i (o (o z))))))) (.some (i (i (o (o z))))) (Gd.on (o (i (i z))) true) [],
   .mk (keepH (binR Tryd.prog EK.no .none false BinOp.lss (X.t (i (i (o (o z))))) (X.t (i (o (i (o z))))))) (.some (o (i (i (o z))))) (Gd.on (o (i (i z))) true) [],
   .mk (keepH (pickR (X.t (o (i (i z)))) (X.t (o (i (i (o z))))) (X.c (AV.bool false)))) (.some (i (i (i (o z))))) Gd.no []])
  (.cond (X.t (i (i (i (o z)))))
  .skip
  (.exit 0)))
  (.block 1 (.region [.mk (mvR (X.t (i (i z)))) (.some (o (o (o (i z))))) Gd.no [],
   .mk (binR Tryd.prog EK.no .none true BinOp.add (X.t (o (o (o (i z))))) (X.c (AV.int .i64 1))) (.some (i (o (o (i z))))) Gd.no [],
   .mk (mvR (X.t (i (o (o (i z)))))) (.some (i (i z))) Gd.no []])))
noncomputable def C78 : CC :=
  (.seq (.region [.mk (boxR false (X.t (o z))) (.some (o (o z))) Gd.no [],
   .mk (mvR (X.c AV.nils)) (.some (i (o z))) Gd.no []])
  (.seq (.region [.mk (mvR (X.t z)) (.some (o (o (o z)))) Gd.no [],
   .mk (callS Tryd.prog 72 [(X.t (o (o (o z))))]) (.some (i (o (o z)))) Gd.no [],
   .mk (mvR (X.t (i (o (o z))))) (.some (o (i z))) Gd.no []])
  (.seq (.region [.mk (mvR (X.c (AV.int .i64 0))) (.some (i (i z))) Gd.no []])
  (.seq (.block 0 (.loop C78L0))
  (.seq (.seq (.regionD [.mk (keepH (mvR (X.t (o (i z))))) (.some (i (i (o (i z))))) Gd.no [],
   .mk (keepH (lenR LnK.slice (X.t (i (i (o (i z))))))) (.some (o (o (i (i z))))) Gd.no [],
   .mk (keepH (mvR (X.t (i (i z))))) (.some (o (i (o (i z))))) Gd.no [],
   .mk (keepH (binR Tryd.prog EK.no .none false BinOp.eql (X.t (o (i (o (i z))))) (X.t (o (o (i (i z))))))) (.some (i (o (i (i z))))) Gd.no [],
   .mk (keepH (mvR (X.t (i (o (i (i z))))))) (.some (o (i (i (i z))))) Gd.no [],
   .mk (keepH (faR 0 (X.t (o (o z))))) (.some (o (o (i (o (o z)))))) (Gd.on (o (i (i (i z)))) false) [],
   .mk (keepH (ldR false 1 (X.t (o (o (i (o (o z)))))))) (.some (i (o (i (o (o z)))))) (Gd.on (o (i (i (i z)))) false) [],
   .mk (keepH (mvR (X.t (i (i z))))) (.some (o (o (o (o (o z)))))) (Gd.on (o (i (i (i z)))) false) [],
   .mk (keepH (mvR (X.t (o (i z))))) (.some (i (i (i (i z))))) (Gd.on (o (i (i (i z)))) false) [],
   .mk (keepH (iaS 6 (X.t (i (i (i (i z))))) (X.t (o (o (o (o (o z)))))))) (.some (i (o (o (o (o z)))))) (Gd.on (o (i (i (i z)))) false) [],
   .mk (keepH (faR 0 (X.t (i (o (o (o (o z)))))))) (.some (o (i (o (o (o z)))))) (Gd.on (o (i (i (i z)))) false) [],
   .mk (keepH (ldR false 1 (X.t (o (i (o (o (o z)))))))) (.some (i (i (o (o (o z)))))) (Gd.on (o (i (i (i z)))) false) [],
   .mk (keepH (binR Tryd.prog EK.no .none false BinOp.neq (X.t (i (i (o (o (o z)))))) (X.t (i (o (i (o (o z)))))))) (.some (o (i (i (o (o z)))))) (Gd.on (o (i (i (i z)))) false) [],
   .mk (keepH (pickR (X.t (o (i (i (i z))))) (X.c (AV.bool true)) (X.t (o (i (i (o (o z)))))))) (.some (i (i (i (o (o z)))))) Gd.no []])
  (.cond (X.t (i (i (i (o (o z))))))
  (.seq (.region [.mk (mvR (X.t (o (i z)))) (.some (o (o (o (i (o z)))))) Gd.no [],
   .mk (mvR (X.t (i (i z)))) (.some (i (o (o (i (o z)))))) Gd.no [],
   .mk (ldR true 6 (X.t (o (o z)))) (.some (o (i (o (i (o z)))))) Gd.no [],
   .mk (bslR 6 1 [(AV.int .i64 0), (AV.int .i64 0), (AV.int .i64 0), (AV.str []), (AV.int .i64 0), AV.nils] [(0, (X.t (o (i (o (i (o z)))))))]) (.some (i (i (o (i (o z)))))) Gd.no [],
   .mk (callS Tryd.prog 94 [(X.t (o (o (o (i (o z)))))), (X.t (i (o (o (i (o z)))))), (X.t (i (i (o (i (o z))))))]) (.some (o (o (i (i (o z)))))) Gd.no [],
   .mk (mvR (X.t (o (o (i (i (o z))))))) (.some (i (o z))) Gd.no []])
  .ret)
  .skip))
  (.seq (.seq (.regionD [.mk (keepH (mvR (X.t (i (i z))))) (.some (o (o (o (o (i z)))))) Gd.no [],
   .mk (keepH (mvR (X.t (o (i z))))) (.some (i (i (i (i (o z)))))) Gd.no [],
   .mk (keepH (iaS 6 (X.t (i (i (i (i (o z)))))) (X.t (o (o (o (o (i z)))))))) (.some (i (o (o (o (i z)))))) Gd.no [],
   .mk (keepH (faR 1 (X.t (i (o (o (o (i z)))))))) (.some (o (i (o (o (i z)))))) Gd.no [],
   .mk (keepH (ldR false 1 (X.t (o (i (o (o (i z)))))))) (.some (i (i (o (o (i z)))))) Gd.no [],
   .mk (keepH (faR 1 (X.t (o (o z))))) (.some (i (o (i (i (o z)))))) Gd.no [],
   .mk (keepH (ldR false 1 (X.t (i (o (i (i (o z)))))))) (.some (o (i (i (i (o z)))))) Gd.no [],
   .mk (keepH (binR Tryd.prog EK.no .none false BinOp.geq (X.t (o (i (i (i (o z)))))) (X.t (i (i (o (o (i z)))))))) (.some (o (o (i (o (i z)))))) Gd.no []])
  (.cond (X.t (o (o (i (o (i z))))))
  (.region [.mk (mvR (X.t (o (i z)))) (.some (i (o (i (o (i z)))))) Gd.no [],
   .mk (mvR (X.t (i (i z)))) (.some (o (i (i (o (i z)))))) Gd.no [],
   .mk (ldR true 6 (X.t (o (o z)))) (.some (i (i (i (o (i z)))))) Gd.no [],
   .mk (iaS 6 (X.t (i (o (i (o (i z)))))) (X.t (o (i (i (o (i z))))))) (.some (o (o (o (i (i z)))))) Gd.no [],
   .mk (stR 6 (X.t (o (o (o (i (i z)))))) (X.t (i (i (i (o (i z))))))) .none Gd.no []])
  .skip))
  (.seq (.region [.mk (mvR (X.t (o (i z)))) (.some (i (o (o (i (i z)))))) Gd.no [],
   .mk (mvR (X.t (i (o (o (i (i z))))))) (.some (i (o z))) Gd.no []])
  .ret)))))))
theorem C78ok : (match Tryd.f78.body with | some c => comp Tryd.prog 57 c | none => none) = some C78 := by kernel_rfl
@[go_sem] theorem call78 (args : List AV) (H : Heap) : callC Tryd.prog 78 args H = .call 78 args := callC_ok (by kernel_rfl) args H
theorem R78ok : resKs Tryd.prog Tryd.f78.results.toList = some [(RK.tmp (i (o z)))] := by kernel_rfl

/- 79: estuary/estuaryref11.Is -/
noncomputable def C79 : CC :=
  (.seq (.region [.mk (boxR false (X.t z)) (.some (o z)) Gd.no [],
   .mk (mvR (X.c (AV.bool false))) (.some (i z)) Gd.no []])
  (.seq (.region [.mk (faR 0 (X.t (o z))) (.some (o (o z))) Gd.no [],
   .mk (ldR false 1 (X.t (o (o z)))) (.some (i (o z))) Gd.no [],
   .mk (callS Tryd.prog 57 [(X.t (i (o z)))]) (.some (o (i z))) Gd.no [],
   .mk (mvR (X.t (o (i z)))) (.some (i (i z))) Gd.no [],
   .mk (faR 1 (X.t (o z))) (.some (o (o (o z)))) (Gd.on (i (i z)) true) [],
   .mk (ldR false 1 (X.t (o (o (o z))))) (.some (i (o (o z)))) (Gd.on (i (i z)) true) [],
   .mk (lenR LnK.str (X.t (i (o (o z))))) (.some (o (i (o z)))) (Gd.on (i (i z)) true) [],
   .mk (binR Tryd.prog EK.no .none true BinOp.leq (X.t (o (i (o z)))) (X.c (AV.int .i64 12))) (.some (i (i (o z)))) (Gd.on (i (i z)) true) [],
   .mk (pickR (X.t (i (i z))) (X.t (i (i (o z)))) (X.c (AV.bool false))) (.some (o (o (i z)))) Gd.no [],
   .mk (mvR (X.t (o (o (i z))))) (.some (i (o (i z)))) Gd.no [],
   .mk (faR 3 (X.t (o z))) (.some (o (i (i z)))) (Gd.on (i (o (i z))) true) [],
   .mk (ldR false 1 (X.t (o (i (i z))))) (.some (i (i (i z)))) (Gd.on (i (o (i z))) true) [],
   .mk (mvR (X.t (i (i (i z))))) (.some (o (o (o (o z))))) (Gd.on (i (o (i z))) true) [],
   .mk (faR 1 (X.t (o z))) (.some (i (o (o (o z))))) (Gd.on (o (o (o (o z)))) true) [],
   .mk (ldR false 1 (X.t (i (o (o (o z)))))) (.some (o (i (o (o z))))) (Gd.on (o (o (o (o z)))) true) [],
   .mk (binR Tryd.prog EK.no .none true BinOp.neq (X.t (o (i (o (o z))))) (X.c (AV.str []))) (.some (i (i (o (o z))))) (Gd.on (o (o (o (o z)))) true) [],
   .mk (pickR (X.t (o (o (o (o z))))) (X.t (i (i (o (o z))))) (X.c (AV.bool false))) (.some (o (o (i (o z))))) (Gd.on (i (o (i z))) true) [],
   .mk (unR UnOp.not (X.t (o (o (i (o z)))))) (.some (i (o (i (o z))))) (Gd.on (i (o (i z))) true) [],
   .mk (pickR (X.t (i (o (i z)))) (X.t (i (o (i (o z))))) (X.c (AV.bool false))) (.some (o (i (i (o z))))) Gd.no [],
   .mk (mvR (X.t (o (i (i (o z)))))) (.some (i (i (i (o z))))) Gd.no [],
   .mk (faR 2 (X.t (o z))) (.some (o (o (o (i z))))) (Gd.on (i (i (i (o z)))) true) [],
   .mk (ldR false 1 (X.t (o (o (o (i z)))))) (.some (i (o (o (i z))))) (Gd.on (i (i (i (o z)))) true) [],
   .mk (binR Tryd.prog EK.no .none true BinOp.geq (X.t (i (o (o (i z))))) (X.c (AV.int .i64 1))) (.some (o (i (o (i z))))) (Gd.on (i (i (i (o z)))) true) [],
   .mk (pickR (X.t (i (i (i (o z))))) (X.t (o (i (o (i z))))) (X.c (AV.bool false))) (.some (i (i (o (i z))))) Gd.no [],
   .mk (mvR (X.t (i (i (o (i z)))))) (.some (o (o (i (i z))))) Gd.no [],
   .mk (faR 2 (X.t (o z))) (.some (i (o (i (i z))))) (Gd.on (o (o (i (i z)))) true) [],
   .mk (ldR false 1 (X.t (i (o (i (i z)))))) (.some (o (i (i (i z))))) (Gd.on (o (o (i (i z)))) true) [],
   .mk (binR Tryd.prog EK.no .none true BinOp.leq (X.t (o (i (i (i z))))) (X.c (AV.int .i64 1000000000000))) (.some (i (i (i (i z))))) (Gd.on (o (o (i (i z)))) true) [],
   .mk (pickR (X.t (o (o (i (i z))))) (X.t (i (i (i (i z))))) (X.c (AV.bool false))) (.some (o (o (o (o (o z)))))) Gd.no [],
   .mk (mvR (X.t (o (o (o (o (o z))))))) (.some (i (o (o (o (o z)))))) Gd.no [],
   .mk (faR 4 (X.t (o z))) (.some (o (i (o (o (o z)))))) (Gd.on (i (o (o (o (o z))))) true) [],
   .mk (ldR false 1 (X.t (o (i (o (o (o z))))))) (.some (i (i (o (o (o z)))))) (Gd.on (i (o (o (o (o z))))) true) [],
   .mk (binR Tryd.prog EK.no .none true BinOp.geq (X.t (i (i (o (o (o z)))))) (X.c (AV.int .i64 0))) (.some (o (o (i (o (o z)))))) (Gd.on (i (o (o (o (o z))))) true) [],
   .mk (pickR (X.t (i (o (o (o (o z)))))) (X.t (o (o (i (o (o z)))))) (X.c (AV.bool false))) (.some (i (o (i (o (o z)))))) Gd.no [],
   .mk (mvR (X.t (i (o (i (o (o z))))))) (.some (o (i (i (o (o z)))))) Gd.no [],
   .mk (faR 4 (X.t (o z))) (.some (i (i (i (o (o z)))))) (Gd.on (o (i (i (o (o z))))) true) [],
   .mk (ldR false 1 (X.t (i (i (i (o (o z))))))) (.some (o (o (o (i (o z)))))) (Gd.on (o (i (i (o (o z))))) true) [],
   .mk (faR 2 (X.t (o z))) (.some (i (o (o (i (o z)))))) (Gd.on (o (i (i (o (o z))))) true) [],
   .mk (ldR false 1 (X.t (i (o (o (i (o z))))))) (.some (o (i (o (i (o z)))))) (Gd.on (o (i (i (o (o z))))) true) [],
   .mk (binR Tryd.prog EK.no .none false BinOp.leq (X.t (o (o (o (i (o z)))))) (X.t (o (i (o (i (o z))))))) (.some (i (i (o (i (o z)))))) (Gd.on (o (i (i (o (o z))))) true) [],
   .mk (pickR (X.t (o (i (i (o (o z)))))) (X.t (i (i (o (i (o z)))))) (X.c (AV.bool false))) (.some (o (o (i (i (o z)))))) Gd.no [],
   .mk (mvR (X.t (o (o (i (i (o z))))))) (.some (i z)) Gd.no []])
  .ret))
theorem C79ok : (match Tryd.f79.body with | some c => comp Tryd.prog 44 c | none => none) = some C79 := by kernel_rfl
@[go_sem] theorem call79 (args : List AV) (H : Heap) : callC Tryd.prog 79 args H = .call 79 args := callC_ok (by kernel_rfl) args H
theorem R79ok : resKs Tryd.prog Tryd.f79.results.toList = some [(RK.tmp (i z))] := by kernel_rfl

/- 81: estuary/span.IsKey -/
noncomputable def C81 : CC :=
  (.seq (.region [.mk (mvR (X.c (AV.bool false))) (.some (i z)) Gd.no []])
  (.seq (.region [.mk (mvR (X.t z)) (.some (o (o z))) Gd.no [],
   .mk (binR Tryd.prog EK.no .none true BinOp.neq (X.t (o (o z))) (X.c (AV.str []))) (.some (i (o z))) Gd.no [],
   .mk (mvR (X.t (i (o z)))) (.some (o (i z))) Gd.no [],
   .mk (mvR (X.t z)) (.some (i (i z))) (Gd.on (o (i z)) true) [],
   .mk (lenR LnK.str (X.t (i (i z)))) (.some (o (o (o z)))) (Gd.on (o (i z)) true) [],
   .mk (binR Tryd.prog EK.no .none true BinOp.leq (X.t (o (o (o z)))) (X.c (AV.int .i64 8))) (.some (i (o (o z)))) (Gd.on (o (i z)) true) [],
   .mk (pickR (X.t (o (i z))) (X.t (i (o (o z)))) (X.c (AV.bool false))) (.some (o (i (o z)))) Gd.no [],
   .mk (mvR (X.t (o (i (o z))))) (.some (i z)) Gd.no []])
  .ret))
theorem C81ok : (match Tryd.f81.body with | some c => comp Tryd.prog 10 c | none => none) = some C81 := by kernel_rfl
@[go_sem] theorem call81 (args : List AV) (H : Heap) : callC Tryd.prog 81 args H = .call 81 args := callC_ok (by kernel_rfl) args H
theorem R81ok : resKs Tryd.prog Tryd.f81.results.toList = some [(RK.tmp (i z))] := by kernel_rfl

/- 83: estuary/token.find -/
noncomputable def C83 : CC :=
  (.seq (.region [.mk (mvR (X.c (AV.int .i64 0))) (.some (i (o z))) Gd.no [],
   .mk (mvR (X.c (AV.bool false))) (.some (o (i z))) Gd.no []])
  (.seq (.region [.mk (mvR (X.t z)) (.some (i (i z))) Gd.no [],
   .mk (mvR (X.t (o z))) (.some (o (o (o z)))) Gd.no [],
   .mk (callS Tryd.prog 95 [(X.t (i (i z))), (X.t (o (o (o z)))), (X.c (AV.fn (Fn.func 96) [] []))]) (.some (i (o (o z)))) Gd.no [],
   .mk (extR (X.t (i (o (o z)))) 0) (.some (o (i (o z)))) Gd.no [],
   .mk (extR (X.t (i (o (o z)))) 1) (.some (i (i (o z)))) Gd.no [],
   .mk (mvR (X.t (o (i (o z))))) (.some (i (o z))) Gd.no [],
   .mk (mvR (X.t (i (i (o z))))) (.some (o (i z))) Gd.no []])
  .ret))
theorem C83ok : (match Tryd.f83.body with | some c => comp Tryd.prog 11 c | none => none) = some C83 := by kernel_rfl
@[go_sem] theorem call83 (args : List AV) (H : Heap) : callC Tryd.prog 83 args H = .call 83 args := callC_ok (by kernel_rfl) args H
theorem R83ok : resKs Tryd.prog Tryd.f83.results.toList = some [(RK.tmp (i (o z))), (RK.tmp (o (i z)))] := by kernel_rfl

/- 89: estuary/once.Is -/
noncomputable def C89L0 : CC :=
  (.seq (.region [.mk (binR Tryd.prog EK.no .none false BinOp.lss (X.t (o (o (o z)))) (X.t (i (i z)))) (.some (i (o (o z)))) Gd.no []])
  (.seq (.cond (X.t (i (o (o z))))
  .skip
  (.exit 0))
  (.seq (.block 1 (.seq (.region [.mk (mvR (X.t (o (o (o z))))) (.some (o (i (o z)))) Gd.no [],
   .mk (iaS 6 (X.t (o (i z))) (X.t (o (o (o z))))) (.some (i (i (o z)))) Gd.no [],
   .mk (ldR true 6 (X.t (i (i (o z))))) (.some (o (o (i z)))) Gd.no [],
   .mk (fun _ H => newC false [(AV.int .i64 0), (AV.int .i64 0), (AV.int .i64 0), (AV.str []), (AV.int .i64 0), AV.nils] H) (.some (i (o z))) Gd.no [],
   .mk (mvR (X.t (o (i (o z))))) (.some (o (o z))) Gd.no [],
   .mk (stR 6 (X.t (i (o z))) (X.t (o (o (i z))))) .none Gd.no []])
  (.block 2 (.seq (.block 5 (.block 4 (.block 3 (.seq (.seq (.seq (.region [.mk (faR 0 (X.t (i (o z)))) (.some (o (i (i z)))) Gd.no [],
   .mk (ldR false 1 (X.t (o (i (i z))))) (.some (i (i (i z)))) Gd.no [],
   .mk (binR Tryd.prog EK.no .none true BinOp.lss (X.t (i (i (i z)))) (X.c (AV.int .i64 0))) (.some (o (o (o (o z))))) Gd.no [],
   .mk (mvR (X.t (o (o (o (o z)))))) (.some (i (o (o (o z))))) Gd.no [],
   .mk (faR 0 (X.t (i (o z)))) (.some (o (i (o (o z))))) (Gd.on (i (o (o (o z)))) false) [],
   .mk (ldR false 1 (X.t (o (i (o (o z)))))) (.some (i (i (o (o z))))) (Gd.on (i (o (o (o z)))) false) [],
   .mk (binR Tryd.prog EK.no .none true BinOp.geq (X.t (i (i (o (o z))))) (X.c (AV.int .i64 3))) (.some (o (o (i (o z))))) (Gd.on (i (o (o (o z)))) false) [],
   .mk (pickR (X.t (i (o (o (o z))))) (X.c (AV.bool true)) (X.t (o (o (i (o z)))))) (.some (i (o (i (o z))))) Gd.no [],
   .mk (mvR (X.t (i (o (i (o z)))))) (.some (i (o (i z)))) Gd.no []])
  (.cond (X.t (i (o (i z))))
  (.exit 3)
  .skip))
  (.seq (.seq (.regionD [.mk (keepH (mvR (X.t (o (o z))))) (.some (i (i (i (o z))))) Gd.no [],
   .mk (keepH (binR Tryd.prog EK.no .none true BinOp.gtr (X.t (i (i (i (o z))))) (X.c (AV.int .i64 0)))) (.some (o (o (o (i z))))) Gd.no [],
   .mk (keepH (mvR (X.t (o (o (o (i z))))))) (.some (i (o (o (i z))))) Gd.no [],
   .mk (keepH (faR 0 (X.t (i (o z))))) (.some (o (o (o (o (o z)))))) (Gd.on (i (o (o (i z)))) true) [],
   .mk (keepH (ldR false 1 (X.t (o (o (o (o (o z)))))))) (.some (i (o (o (o (o z)))))) (Gd.on (i (o (o (i z)))) true) [],
   .mk (keepH (mvR (X.t (o (o z))))) (.some (i (i (o (i z))))) (Gd.on (i (o (o (i z)))) true) [],
   .mk (keepH (binR Tryd.prog EK.no .none true BinOp.sub (X.t (i (i (o (i z))))) (X.c (AV.int .i64 1)))) (.some (o (o (i (i z))))) (Gd.on (i (o (o (i z)))) true) [],
   .mk (keepH (mvR (X.t z))) (.some (o (i (o (i z))))) (Gd.on (i (o (o (i z)))) true) [],
   .mk (keepH (iaS 6 (X.t (o (i (o (i z))))) (X.t (o (o (i (i z))))))) (.some (i (o (i (i z))))) (Gd.on (i (o (o (i z)))) true) [],
   .mk (keepH (faR 0 (X.t (i (o (i (i z))))))) (.some (o (i (i (i z))))) (Gd.on (i (o (o (i z)))) true) [],
   .mk (keepH (ldR false 1 (X.t (o (i (i (i z))))))) (.some (i (i (i (i z))))) (Gd.on (i (o (o (i z)))) true) [],
   .mk (keepH (binR Tryd.prog EK.no .none false BinOp.geq (X.t (i (i (i (i z))))) (X.t (i (o (o (o (o z)))))))) (.some (o (i (o (o (o z)))))) (Gd.on (i (o (o (i z)))) true) [],
   .mk (keepH (pickR (X.t (i (o (o (i z))))) (X.t (o (i (o (o (o z)))))) (X.c (AV.bool false)))) (.some (i (i (o (o (o z)))))) Gd.no [],
   .mk (mvR (X.t (i (i (o (o (o z))))))) (.some (o (i (i (o z))))) Gd.no []])
  (.cond (X.t (o (i (i (o z)))))
  (.exit 4)
  .skip))
  (.seq (.region [.mk (faR 1 (X.t (i (o z)))) (.some (i (o (i (o (o z)))))) Gd.no [],
   .mk (ldR false 1 (X.t (i (o (i (o (o z))))))) (.some (o (i (i (o (o z)))))) Gd.no [],
   .mk (binR Tryd.prog EK.no .none true BinOp.lss (X.t (o (i (i (o (o z)))))) (X.c (AV.int .i64 1))) (.some (i (i (i (o (o z)))))) Gd.no [],
   .mk (mvR (X.t (i (i (i (o (o z))))))) (.some (o (o (o (i (o z)))))) Gd.no [],
   .mk (faR 1 (X.t (i (o z)))) (.some (i (o (o (i (o z)))))) (Gd.on (o (o (o (i (o z))))) false) [],
   .mk (ldR false 1 (X.t (i (o (o (i (o z))))))) (.some (o (i (o (i (o z)))))) (Gd.on (o (o (o (i (o z))))) false) [],
   .mk (binR Tryd.prog EK.no .none true BinOp.gtr (X.t (o (i (o (i (o z)))))) (X.c (AV.int .i64 1000000000000))) (.some (i (i (o (i (o z)))))) (Gd.on (o (o (o (i (o z))))) false) [],
   .mk (pickR (X.t (o (o (o (i (o z)))))) (X.c (AV.bool true)) (X.t (i (i (o (i (o z))))))) (.some (o (o (i (i (o z)))))) Gd.no [],
   .mk (mvR (X.t (o (o (i (i (o z))))))) (.some (i (o (i (i (o z)))))) Gd.no [],
   .mk (faR 2 (X.t (i (o z)))) (.some (o (i (i (i (o z)))))) (Gd.on (i (o (i (i (o z))))) false) [],
   .mk (ldR true 4 (X.t (o (i (i (i (o z))))))) (.some (i (i (i (i (o z)))))) (Gd.on (i (o (i (i (o z))))) false) [],
   .mk (callS Tryd.prog 106 [(X.t (i (i (i (i (o z))))))]) (.some (o (o (o (o (i z)))))) (Gd.on (i (o (i (i (o z))))) false) [],
   .mk (binR Tryd.prog EK.no .none true BinOp.eql (X.t (o (o (o (o (i z)))))) (X.c (AV.str []))) (.some (i (o (o (o (i z)))))) (Gd.on (i (o (i (i (o z))))) false) [],
   .mk (pickR (X.t (i (o (i (i (o z)))))) (X.c (AV.bool true)) (X.t (i (o (o (o (i z))))))) (.some (o (i (o (o (i z)))))) Gd.no [],
   .mk (mvR (X.t (o (i (o (o (i z))))))) (.some (o (o (i (o (o z)))))) Gd.no []])
  (.cond (X.t (o (o (i (o (o z))))))
  (.exit 5)
  .skip))))
  (.exit 2)))))
  (.seq (.seq (.region [.mk (mvR (X.c (AV.bool false))) (.some (i z)) Gd.no []])
  .ret)
  (.exit 2))))))
  (.region [.mk (binR Tryd.prog EK.no .none true BinOp.add (X.t (o (o (o z)))) (X.c (AV.int .i64 1))) (.some (i (i (o (o (i z)))))) Gd.no [],
   .mk (mvR (X.t (i (i (o (o (i z))))))) (.some (o (o (o z)))) Gd.no []]))))
noncomputable def C89 : CC :=
  (.seq (.region [.mk (mvR (X.c (AV.bool false))) (.some (i z)) Gd.no []])
  (.seq (.seq (.region [.mk (mvR (X.t z)) (.some (o (i z))) Gd.no [],
   .mk (lenR LnK.slice (X.t (o (i z)))) (.some (i (i z))) Gd.no [],
   .mk (mvR (X.c (AV.int .i64 0))) (.some (o (o (o z)))) Gd.no []])
  (.block 0 (.loop C89L0)))
  (.seq (.region [.mk (mvR (X.c (AV.bool true))) (.some (i z)) Gd.no []])
  .ret)))
theorem C89ok : (match Tryd.f89.body with | some c => comp Tryd.prog 51 c | none => none) = some C89 := by kernel_rfl
@[go_sem] theorem call89 (args : List AV) (H : Heap) : callC Tryd.prog 89 args H = .call 89 args := callC_ok (by kernel_rfl) args H
theorem R89ok : resKs Tryd.prog Tryd.f89.results.toList = some [(RK.tmp (i z))] := by kernel_rfl

-- 90: no body
-- 91: no body
-- 92: no body
-- 93 "errors.as": not laid out

/- 95: slices.BinarySearchFunc[[]estuary/api.Seen,estuary/api.Seen,string] -/
noncomputable def C95L0 : CC :=
  (.seq (.seq (.region [.mk (mvR (X.t (o (i (o z))))) (.some (o (o (o (o z))))) Gd.no [],
   .mk (mvR (X.t (i (i (o z))))) (.some (i (o (o (o z))))) Gd.no [],
   .mk (binR Tryd.prog EK.no .none false BinOp.lss (X.t (o (o (o (o z))))) (X.t (i (o (o (o z)))))) (.some (o (i (o (o z))))) Gd.no []])
  (.cond (X.t (o (i (o (o z)))))
  .skip
  (.exit 0)))
  (.block 1 (.seq (.region [.mk (mvR (X.t (o (i (o z))))) (.some (i (i (o (o z))))) Gd.no [],
   .mk (mvR (X.t (i (i (o z))))) (.some (o (o (i (o z))))) Gd.no [],
   .mk (binR Tryd.prog EK.no .none false BinOp.add (X.t (i (i (o (o z))))) (X.t (o (o (i (o z)))))) (.some (i (o (i (o z))))) Gd.no [],
   .mk (convR (Cv.int IntKind.u64) (X.t (i (o (i (o z)))))) (.some (o (i (i (o z))))) Gd.no [],
   .mk (binR Tryd.prog EK.no .none true BinOp.shr (X.t (o (i (i (o z))))) (X.c (AV.int IntKind.u64 1))) (.some (i (i (i (o z))))) Gd.no [],
   .mk (convR (Cv.int .i64) (X.t (i (i (i (o z)))))) (.some (o (o (o (i z))))) Gd.no [],
   .mk (mvR (X.t (o (o (o (i z)))))) (.some (o (o (i z)))) Gd.no []])
  (.seq (.region [.mk (mvR (X.t (i z))) (.some (i (o (o (i z))))) Gd.no [],
   .mk (mvR (X.t z)) (.some (o (i (o (i z))))) Gd.no [],
   .mk (mvR (X.t (o (o (i z))))) (.some (i (i (o (i z))))) Gd.no [],
   .mk (iaS 2 (X.t (o (i (o (i z))))) (X.t (i (i (o (i z)))))) (.some (o (o (i (i z))))) Gd.no [],
   .mk (ldR true 2 (X.t (o (o (i (i z)))))) (.some (i (o (i (i z))))) Gd.no [],
   .mk (mvR (X.t (o z))) (.some (o (i (i (i z))))) Gd.no [],
   .mk (callX Tryd.prog (X.t (i (o (o (i z))))) [(X.t (i (o (i (i z))))), (X.t (o (i (i (i z)))))]) (.some (i (i (i (i z))))) Gd.no [],
   .mk (binR Tryd.prog EK.no .none true BinOp.lss (X.t (i (i (i (i z))))) (X.c (AV.int .i64 0))) (.some (o (o (o (o (o z)))))) Gd.no []])
  (.cond (X.t (o (o (o (o (o z))))))
  (.region [.mk (mvR (X.t (o (o (i z))))) (.some (i (o (o (o (o z)))))) Gd.no [],
   .mk (binR Tryd.prog EK.no .none true BinOp.add (X.t (i (o (o (o (o z)))))) (X.c (AV.int .i64 1))) (.some (o (i (o (o (o z)))))) Gd.no [],
   .mk (mvR (X.t (o (i (o (o (o z))))))) (.some (o (i (o z)))) Gd.no []])
  (.region [.mk (mvR (X.t (o (o (i z))))) (.some (i (i (o (o (o z)))))) Gd.no [],
   .mk (mvR (X.t (i (i (o (o (o z))))))) (.some (i (i (o z)))) Gd.no []]))))))
noncomputable def C95 : CC :=
  (.seq (.region [.mk (mvR (X.c (AV.int .i64 0))) (.some (i (i z))) Gd.no [],
   .mk (mvR (X.c (AV.bool false))) (.some (o (o (o z)))) Gd.no []])
  (.seq (.region [.mk (mvR (X.t z)) (.some (i (o (i z)))) Gd.no [],
   .mk (lenR LnK.slice (X.t (i (o (i z))))) (.some (o (i (i z)))) Gd.no [],
   .mk (mvR (X.t (o (i (i z))))) (.some (i (o (o z)))) Gd.no []])
  (.seq (.region [.mk (mvR (X.t (i (o (o z))))) (.some (i (i (i z)))) Gd.no [],
   .mk (mvR (X.c (AV.int .i64 0))) (.some (o (i (o z)))) Gd.no [],
   .mk (mvR (X.t (i (i (i z))))) (.some (i (i (o z)))) Gd.no []])
  (.seq (.block 0 (.loop C95L0))
  (.seq (.region [.mk (mvR (X.t (o (i (o z))))) (.some (o (o (i (o (o z)))))) Gd.no [],
   .mk (mvR (X.t (o (i (o z))))) (.some (i (o (i (o (o z)))))) Gd.no [],
   .mk (mvR (X.t (i (o (o z))))) (.some (o (i (i (o (o z)))))) Gd.no [],
   .mk (binR Tryd.prog EK.no .none false BinOp.lss (X.t (i (o (i (o (o z)))))) (X.t (o (i (i (o (o z))))))) (.some (i (i (i (o (o z)))))) Gd.no [],
   .mk (mvR (X.t (i (i (i (o (o z))))))) (.some (o (o (o (i (o z)))))) Gd.no [],
   .mk (mvR (X.t (i z))) (.some (i (o (o (i (o z)))))) (Gd.on (o (o (o (i (o z))))) true) [],
   .mk (mvR (X.t z)) (.some (o (i (o (i (o z)))))) (Gd.on (o (o (o (i (o z))))) true) [],
   .mk (mvR (X.t (o (i (o z))))) (.some (i (i (o (i (o z)))))) (Gd.on (o (o (o (i (o z))))) true) [],
   .mk (iaS 2 (X.t (o (i (o (i (o z)))))) (X.t (i (i (o (i (o z))))))) (.some (o (o (i (i (o z)))))) (Gd.on (o (o (o (i (o z))))) true) [],
   .mk (ldR true 2 (X.t (o (o (i (i (o z))))))) (.some (i (o (i (i (o z)))))) (Gd.on (o (o (o (i (o z))))) true) [],
   .mk (mvR (X.t (o z))) (.some (o (i (i (i (o z)))))) (Gd.on (o (o (o (i (o z))))) true) [],
   .mk (callX Tryd.prog (X.t (i (o (o (i (o z)))))) [(X.t (i (o (i (i (o z)))))), (X.t (o (i (i (i (o z))))))]) (.some (i (i (i (i (o z)))))) (Gd.on (o (o (o (i (o z))))) true) [],
   .mk (binR Tryd.prog EK.no .none true BinOp.eql (X.t (i (i (i (i (o z)))))) (X.c (AV.int .i64 0))) (.some (o (o (o (o (i z)))))) (Gd.on (o (o (o (i (o z))))) true) [],
   .mk (pickR (X.t (o (o (o (i (o z)))))) (X.t (o (o (o (o (i z)))))) (X.c (AV.bool false))) (.some (i (o (o (o (i z)))))) Gd.no [],
   .mk (mvR (X.t (o (o (i (o (o z))))))) (.some (i (i z))) Gd.no [],
   .mk (mvR (X.t (i (o (o (o (i z))))))) (.some (o (o (o z)))) Gd.no []])
  .ret)))))
theorem C95ok : (match Tryd.f95.body with | some c => comp Tryd.prog 49 c | none => none) = some C95 := by kernel_rfl
@[go_sem] theorem call95 (args : List AV) (H : Heap) : callC Tryd.prog 95 args H = .call 95 args := callC_ok (by kernel_rfl) args H
theorem R95ok : resKs Tryd.prog Tryd.f95.results.toList = some [(RK.tmp (i (i z))), (RK.tmp (o (o (o z))))] := by kernel_rfl

/- 96: estuary/token.find$1 -/
noncomputable def C96 : CC :=
  (.seq (.region [.mk (boxR false (X.t z)) (.some (i z)) Gd.no [],
   .mk (mvR (X.c (AV.int .i64 0))) (.some (i (o z))) Gd.no []])
  (.seq (.region [.mk (faR 0 (X.t (i z))) (.some (o (i z))) Gd.no [],
   .mk (ldR false 1 (X.t (o (i z)))) (.some (i (i z))) Gd.no [],
   .mk (mvR (X.t (o z))) (.some (o (o (o z)))) Gd.no [],
   .mk (callS Tryd.prog 97 [(X.t (i (i z))), (X.t (o (o (o z))))]) (.some (i (o (o z)))) Gd.no [],
   .mk (mvR (X.t (i (o (o z))))) (.some (i (o z))) Gd.no []])
  .ret))
theorem C96ok : (match Tryd.f96.body with | some c => comp Tryd.prog 9 c | none => none) = some C96 := by kernel_rfl
@[go_sem] theorem call96 (args : List AV) (H : Heap) : callC Tryd.prog 96 args H = .call 96 args := callC_ok (by kernel_rfl) args H
theorem R96ok : resKs Tryd.prog Tryd.f96.results.toList = some [(RK.tmp (i (o z)))] := by kernel_rfl

/- 97: cmp.Compare[string] -/
noncomputable def C97 : CC :=
  (.seq (.region [.mk (mvR (X.c (AV.int .i64 0))) (.some (i (o z))) Gd.no []])
  (.seq (.region [.mk (mvR (X.t z)) (.some (o (o (o z)))) Gd.no [],
   .mk (callS Tryd.prog 111 [(X.t (o (o (o z))))]) (.some (i (o (o z)))) Gd.no [],
   .mk (mvR (X.t (i (o (o z))))) (.some (o (i z))) Gd.no []])
  (.seq (.region [.mk (mvR (X.t (o z))) (.some (o (i (o z)))) Gd.no [],
   .mk (callS Tryd.prog 111 [(X.t (o (i (o z))))]) (.some (i (i (o z)))) Gd.no [],
   .mk (mvR (X.t (i (i (o z))))) (.some (i (i z))) Gd.no []])
  (.seq (.seq (.region [.mk (mvR (X.t (o (i z)))) (.some (o (o (i z)))) Gd.no []])
  (.cond (X.t (o (o (i z))))
  (.seq (.seq (.region [.mk (mvR (X.t (i (i z)))) (.some (i (o (i z)))) Gd.no []])
  (.cond (X.t (i (o (i z))))
  (.seq (.region [.mk (mvR (X.c (AV.int .i64 0))) (.some (i (o z))) Gd.no []])
  .ret)
  .skip))
  (.seq (.region [.mk (mvR (X.c (AV.int .i64 (-1)))) (.some (i (o z))) Gd.no []])
  .ret))
  .skip))
  (.seq (.seq (.region [.mk (mvR (X.t (i (i z)))) (.some (o (i (i z)))) Gd.no []])
  (.cond (X.t (o (i (i z))))
  (.seq (.region [.mk (mvR (X.c (AV.int .i64 1))) (.some (i (o z))) Gd.no []])
  .ret)
  .skip))
  (.seq (.seq (.region [.mk (mvR (X.t z)) (.some (i (i (i z)))) Gd.no [],
   .mk (mvR (X.t (o z))) (.some (o (o (o (o z))))) Gd.no [],
   .mk (binR Tryd.prog EK.no .none false BinOp.lss (X.t (i (i (i z)))) (X.t (o (o (o (o z)))))) (.some (i (o (o (o z))))) Gd.no []])
  (.cond (X.t (i (o (o (o z)))))
  (.seq (.region [.mk (mvR (X.c (AV.int .i64 (-1)))) (.some (i (o z))) Gd.no []])
  .ret)
  .skip))
  (.seq (.seq (.region [.mk (mvR (X.t z)) (.some (o (i (o (o z))))) Gd.no [],
   .mk (mvR (X.t (o z))) (.some (i (i (o (o z))))) Gd.no [],
   .mk (binR Tryd.prog EK.no .none false BinOp.gtr (X.t (o (i (o (o z))))) (X.t (i (i (o (o z)))))) (.some (o (o (i (o z))))) Gd.no []])
  (.cond (X.t (o (o (i (o z)))))
  (.seq (.region [.mk (mvR (X.c (AV.int .i64 1))) (.some (i (o z))) Gd.no []])
  .ret)
  .skip))
  (.seq (.region [.mk (mvR (X.c (AV.int .i64 0))) (.some (i (o z))) Gd.no []])
  .ret))))))))
theorem C97ok : (match Tryd.f97.body with | some c => comp Tryd.prog 20 c | none => none) = some C97 := by kernel_rfl
@[go_sem] theorem call97 (args : List AV) (H : Heap) : callC Tryd.prog 97 args H = .call 97 args := callC_ok (by kernel_rfl) args H
theorem R97ok : resKs Tryd.prog Tryd.f97.results.toList = some [(RK.tmp (i (o z)))] := by kernel_rfl

-- 98: no body

/- 101: estuary/index.Is -/
noncomputable def C101L0 : CC :=
  (.seq (.region [.mk (binR Tryd.prog EK.no .none false BinOp.lss (X.t (o (o (o z)))) (X.t (i (i z)))) (.some (i (o (o z)))) Gd.no []])
  (.seq (.cond (X.t (i (o (o z))))
  .skip
  (.exit 0))
  (.seq (.block 1 (.seq (.region [.mk (mvR (X.t (o (o (o z))))) (.some (o (i (o z)))) Gd.no [],
   .mk (iaS 5 (X.t (o (i z))) (X.t (o (o (o z))))) (.some (i (i (o z)))) Gd.no [],
   .mk (ldR true 5 (X.t (i (i (o z))))) (.some (o (o (i z)))) Gd.no [],
   .mk (fun _ H => newC false [(AV.str []), (AV.str []), (AV.int .i64 0), (AV.bool false), (AV.int .i64 0)] H) (.some (i (o z))) Gd.no [],
   .mk (mvR (X.t (o (i (o z))))) (.some (o (o z))) Gd.no [],
   .mk (stR 5 (X.t (i (o z))) (X.t (o (o (i z))))) .none Gd.no []])
  (.block 2 (.seq (.block 4 (.block 3 (.seq (.seq (.seq (.region [.mk (ldR true 5 (X.t (i (o z)))) (.some (o (i (i z)))) Gd.no [],
   .mk (callS Tryd.prog 113 [(X.t (o (i (i z))))]) (.some (i (i (i z)))) Gd.no [],
   .mk (unR UnOp.not (X.t (i (i (i z))))) (.some (o (o (o (o z))))) Gd.no [],
   .mk (mvR (X.t (o (o (o (o z)))))) (.some (i (o (i z)))) Gd.no []])
  (.cond (X.t (i (o (i z))))
  (.exit 3)
  .skip))
  (.seq (.regionD [.mk (keepH (mvR (X.t (o (o z))))) (.some (o (i (o (o z))))) Gd.no [],
   .mk (keepH (binR Tryd.prog EK.no .none true BinOp.gtr (X.t (o (i (o (o z))))) (X.c (AV.int .i64 0)))) (.some (i (i (o (o z))))) Gd.no [],
   .mk (keepH (mvR (X.t (i (i (o (o z))))))) (.some (o (o (i (o z))))) Gd.no [],
   .mk (keepH (faR 0 (X.t (i (o z))))) (.some (i (i (o (i z))))) (Gd.on (o (o (i (o z)))) true) [],
   .mk (keepH (ldR false 1 (X.t (i (i (o (i z))))))) (.some (o (o (i (i z))))) (Gd.on (o (o (i (o z)))) true) [],
   .mk (keepH (mvR (X.t (o (o z))))) (.some (o (i (i (o z))))) (Gd.on (o (o (i (o z)))) true) [],
   .mk (keepH (binR Tryd.prog EK.no .none true BinOp.sub (X.t (o (i (i (o z))))) (X.c (AV.int .i64 1)))) (.some (i (i (i (o z))))) (Gd.on (o (o (i (o z)))) true) [],
   .mk (keepH (mvR (X.t z))) (.some (i (o (i (o z))))) (Gd.on (o (o (i (o z)))) true) [],
   .mk (keepH (iaS 5 (X.t (i (o (i (o z))))) (X.t (i (i (i (o z))))))) (.some (o (o (o (i z))))) (Gd.on (o (o (i (o z)))) true) [],
   .mk (keepH (faR 0 (X.t (o (o (o (i z))))))) (.some (i (o (o (i z))))) (Gd.on (o (o (i (o z)))) true) [],
   .mk (keepH (ldR false 1 (X.t (i (o (o (i z))))))) (.some (o (i (o (i z))))) (Gd.on (o (o (i (o z)))) true) [],
   .mk (keepH (binR Tryd.prog EK.no .none false BinOp.geq (X.t (o (i (o (i z))))) (X.t (o (o (i (i z))))))) (.some (i (o (i (i z))))) (Gd.on (o (o (i (o z)))) true) [],
   .mk (keepH (pickR (X.t (o (o (i (o z))))) (X.t (i (o (i (i z))))) (X.c (AV.bool false)))) (.some (o (i (i (i z))))) Gd.no [],
   .mk (mvR (X.t (o (i (i (i z)))))) (.some (i (o (o (o z))))) Gd.no []])
  (.cond (X.t (i (o (o (o z)))))
  (.exit 4)
  .skip)))
  (.exit 2))))
  (.seq (.seq (.region [.mk (mvR (X.c (AV.bool false))) (.some (i z)) Gd.no []])
  .ret)
  (.exit 2))))))
  (.region [.mk (binR Tryd.prog EK.no .none true BinOp.add (X.t (o (o (o z)))) (X.c (AV.int .i64 1))) (.some (i (i (i (i z))))) Gd.no [],
   .mk (mvR (X.t (i (i (i (i z)))))) (.some (o (o (o z)))) Gd.no []]))))
noncomputable def C101 : CC :=
  (.seq (.region [.mk (mvR (X.c (AV.bool false))) (.some (i z)) Gd.no []])
  (.seq (.seq (.region [.mk (mvR (X.t z)) (.some (o (i z))) Gd.no [],
   .mk (lenR LnK.slice (X.t (o (i z)))) (.some (i (i z))) Gd.no [],
   .mk (mvR (X.c (AV.int .i64 0))) (.some (o (o (o z)))) Gd.no []])
  (.block 0 (.loop C101L0)))
  (.seq (.region [.mk (mvR (X.c (AV.bool true))) (.some (i z)) Gd.no []])
  .ret)))
theorem C101ok : (match Tryd.f101.body with | some c => comp Tryd.prog 31 c | none => none) = some C101 := by kernel_rfl
@[go_sem] theorem call101 (args : List AV) (H : Heap) : callC Tryd.prog 101 args H = .call 101 args := callC_ok (by kernel_rfl) args H
theorem R101ok : resKs Tryd.prog Tryd.f101.results.toList = some [(RK.tmp (i z))] := by kernel_rfl

/- 102: estuary/index.Get -/
noncomputable def C102L0 : CC :=
  (.seq (.region [.mk (binR Tryd.prog EK.no .none false BinOp.lss (X.t (i (i (o z)))) (X.t (o (i (o z))))) (.some (o (o (i z)))) Gd.no []])
  (.seq (.cond (X.t (o (o (i z))))
  .skip
  (.exit 0))
  (.seq (.block 1 (.seq (.region [.mk (iaS 5 (X.t (i (o (o z)))) (X.t (i (i (o z))))) (.some (i (o (i z)))) Gd.no [],
   .mk (ldR true 5 (X.t (i (o (i z))))) (.some (o (i (i z)))) Gd.no [],
   .mk (fun _ H => newC false [(AV.str []), (AV.str []), (AV.int .i64 0), (AV.bool false), (AV.int .i64 0)] H) (.some (o (o (o z)))) Gd.no [],
   .mk (stR 5 (X.t (o (o (o z)))) (X.t (o (i (i z))))) .none Gd.no []])
  (.seq (.region [.mk (faR 0 (X.t (o (o (o z))))) (.some (i (i (i z)))) Gd.no [],
   .mk (ldR false 1 (X.t (i (i (i z))))) (.some (o (o (o (o z))))) Gd.no [],
   .mk (mvR (X.t (o z))) (.some (i (o (o (o z))))) Gd.no [],
   .mk (binR Tryd.prog EK.no .none false BinOp.eql (X.t (o (o (o (o z))))) (X.t (i (o (o (o z)))))) (.some (o (i (o (o z))))) Gd.no []])
  (.cond (X.t (o (i (o (o z)))))
  (.seq (.region [.mk (ldR true 5 (X.t (o (o (o z))))) (.some (i (i (o (o z))))) Gd.no [],
   .mk (stR 5 (X.t (i (o z))) (X.t (i (i (o (o z)))))) .none Gd.no [],
   .mk (mvR (X.c (AV.bool true))) (.some (o (i z))) Gd.no []])
  .ret)
  .skip))))
  (.region [.mk (binR Tryd.prog EK.no .none true BinOp.add (X.t (i (i (o z)))) (X.c (AV.int .i64 1))) (.some (o (o (i (o z))))) Gd.no [],
   .mk (mvR (X.t (o (o (i (o z)))))) (.some (i (i (o z)))) Gd.no []]))))
noncomputable def C102 : CC :=
  (.seq (.region [.mk (fun _ H => newC false [(AV.str []), (AV.str []), (AV.int .i64 0), (AV.bool false), (AV.int .i64 0)] H) (.some (i (o z))) Gd.no [],
   .mk (mvR (X.c (AV.bool false))) (.some (o (i z))) Gd.no []])
  (.seq (.seq (.region [.mk (mvR (X.t z)) (.some (i (o (o z)))) Gd.no [],
   .mk (lenR LnK.slice (X.t (i (o (o z))))) (.some (o (i (o z)))) Gd.no [],
   .mk (mvR (X.c (AV.int .i64 0))) (.some (i (i (o z)))) Gd.no []])
  (.block 0 (.loop C102L0)))
  (.seq (.region [.mk (mvR (X.t (o z))) (.some (i (o (i (o z))))) Gd.no [],
   .mk (buildR [(AV.str []), (AV.str []), (AV.int .i64 0), (AV.bool false), (AV.int .i64 0)] [(0, (1, (X.t (i (o (i (o z)))))))]) (.some (o (i (i (o z))))) Gd.no [],
   .mk (stR 5 (X.t (i (o z))) (X.t (o (i (i (o z)))))) .none Gd.no [],
   .mk (mvR (X.c (AV.bool false))) (.some (o (i z))) Gd.no []])
  .ret)))
theorem C102ok : (match Tryd.f102.body with | some c => comp Tryd.prog 22 c | none => none) = some C102 := by kernel_rfl
@[go_sem] theorem call102 (args : List AV) (H : Heap) : callC Tryd.prog 102 args H = .call 102 args := callC_ok (by kernel_rfl) args H
theorem R102ok : resKs Tryd.prog Tryd.f102.results.toList = some [(RK.cell (i (o z)) true 5), (RK.tmp (o (i z)))] := by kernel_rfl

/- 106: estuary/op.AnswerBytes -/
noncomputable def C106L0 : CC :=
  (.seq (.region [.mk (binR Tryd.prog EK.no .none false BinOp.lss (X.t (i (o (i (i z))))) (X.t (o (o (i (i z)))))) (.some (o (i (i (i z))))) Gd.no []])
  (.seq (.cond (X.t (o (i (i (i z)))))
  .skip
  (.exit 0))
  (.seq (.block 1 (.seq (.region [.mk (iaS 3 (X.t (i (i (o (i z))))) (X.t (i (o (i (i z)))))) (.some (i (i (i (i z))))) Gd.no [],
   .mk (ldR true 3 (X.t (i (i (i (i z)))))) (.some (o (o (o (o (o z)))))) Gd.no [],
   .mk (fun _ H => newC false [(AV.str []), (AV.str []), (AV.int .i64 0)] H) (.some (o (i z))) Gd.no [],
   .mk (stR 3 (X.t (o (i z))) (X.t (o (o (o (o (o z))))))) .none Gd.no []])
  (.regionD [.mk (keepH (faR 2 (X.t (o (i z))))) (.some (i (o (o (i (o z)))))) Gd.no [],
   .mk (keepH (ldR false 1 (X.t (i (o (o (i (o z)))))))) (.some (o (i (o (i (o z)))))) Gd.no [],
   .mk (keepH (faR 1 (X.t (o (i z))))) (.some (i (o (i (o (o z)))))) Gd.no [],
   .mk (keepH (ldR false 1 (X.t (i (o (i (o (o z)))))))) (.some (o (i (i (o (o z)))))) Gd.no [],
   .mk (keepH (faR 0 (X.t (o (i z))))) (.some (o (i (o (o (o z)))))) Gd.no [],
   .mk (keepH (ldR false 1 (X.t (o (i (o (o (o z)))))))) (.some (i (i (o (o (o z)))))) Gd.no [],
   .mk (keepH (mvR (X.t (o (o z))))) (.some (i (o (o (o (o z)))))) Gd.no [],
   .mk (callS Tryd.prog 117 [(X.t (i (i (o (o (o z))))))]) (.some (o (o (i (o (o z)))))) Gd.no [.mk (mvR (X.t (o (o z)))) (.some (i (o (o (o (o z)))))) Gd.no, .mk (ldR false 1 (X.t (i (o (i (o (o z))))))) (.some (o (i (i (o (o z)))))) Gd.no, .mk (faR 1 (X.t (o (i z)))) (.some (i (o (i (o (o z)))))) Gd.no, .mk (ldR false 1 (X.t (i (o (o (i (o z))))))) (.some (o (i (o (i (o z)))))) Gd.no, .mk (faR 2 (X.t (o (i z)))) (.some (i (o (o (i (o z)))))) Gd.no],
   .mk (callS Tryd.prog 117 [(X.t (o (i (i (o (o z))))))]) (.some (i (i (i (o (o z)))))) Gd.no [.mk (mvR (X.t (o (o z)))) (.some (i (o (o (o (o z)))))) Gd.no, .mk (ldR false 1 (X.t (i (o (o (i (o z))))))) (.some (o (i (o (i (o z)))))) Gd.no, .mk (faR 2 (X.t (o (i z)))) (.some (i (o (o (i (o z)))))) Gd.no],
   .mk (keepH (binR Tryd.prog EK.no .none false BinOp.add (X.t (o (o (i (o (o z)))))) (X.t (i (i (i (o (o z)))))))) (.some (o (o (o (i (o z)))))) Gd.no [],
   .mk (callS Tryd.prog 116 [(X.t (o (i (o (i (o z))))))]) (.some (i (i (o (i (o z)))))) Gd.no [.mk (binR Tryd.prog EK.no .none false BinOp.add (X.t (o (o (i (o (o z)))))) (X.t (i (i (i (o (o z))))))) (.some (o (o (o (i (o z)))))) Gd.no, .mk (mvR (X.t (o (o z)))) (.some (i (o (o (o (o z)))))) Gd.no],
   .mk (keepH (binR Tryd.prog EK.no .none false BinOp.add (X.t (o (o (o (i (o z)))))) (X.t (i (i (o (i (o z)))))))) (.some (o (o (i (i (o z)))))) Gd.no [],
   .mk (keepH (binR Tryd.prog EK.no .none false BinOp.add (X.t (i (o (o (o (o z)))))) (X.t (o (o (i (i (o z)))))))) (.some (i (o (i (i (o z)))))) Gd.no [],
   .mk (mvR (X.t (i (o (i (i (o z))))))) (.some (o (o z))) Gd.no []])))
  (.region [.mk (binR Tryd.prog EK.no .none true BinOp.add (X.t (i (o (i (i z))))) (X.c (AV.int .i64 1))) (.some (o (i (i (i (o z)))))) Gd.no [],
   .mk (mvR (X.t (o (i (i (i (o z))))))) (.some (i (o (i (i z))))) Gd.no []]))))
noncomputable def C106 : CC :=
  (.seq (.region [.mk (boxR false (X.t z)) (.some (o z)) Gd.no [],
   .mk (mvR (X.c (AV.str []))) (.some (i z)) Gd.no []])
  (.seq (.seq (.region [.mk (ldR true 4 (X.t (o z))) (.some (i (i z))) Gd.no [],
   .mk (callS Tryd.prog 115 [(X.t (i (i z)))]) (.some (o (o (o z)))) Gd.no [],
   .mk (unR UnOp.not (X.t (o (o (o z))))) (.some (i (o (o z)))) Gd.no []])
  (.cond (X.t (i (o (o z))))
  (.seq (.region [.mk (mvR (X.c (AV.str []))) (.some (i z)) Gd.no []])
  .ret)
  .skip))
  (.seq (.regionD [.mk (keepH (faR 3 (X.t (o z)))) (.some (i (o (i (o z))))) Gd.no [],
   .mk (keepH (ldR false 1 (X.t (i (o (i (o z))))))) (.some (o (i (i (o z))))) Gd.no [],
   .mk (keepH (lenR LnK.slice (X.t (o (i (i (o z))))))) (.some (i (i (i (o z))))) Gd.no [],
   .mk (keepH (faR 2 (X.t (o z)))) (.some (i (o (o (o z))))) Gd.no [],
   .mk (keepH (ldR false 1 (X.t (i (o (o (o z))))))) (.some (o (i (o (o z))))) Gd.no [],
   .mk (keepH (faR 1 (X.t (o z)))) (.some (i (o (i z)))) Gd.no [],
   .mk (keepH (ldR false 1 (X.t (i (o (i z)))))) (.some (o (i (i z)))) Gd.no [],
   .mk (keepH (faR 0 (X.t (o z)))) (.some (o (i (o z)))) Gd.no [],
   .mk (keepH (ldR false 1 (X.t (o (i (o z)))))) (.some (i (i (o z)))) Gd.no [],
   .mk (callS Tryd.prog 116 [(X.t (i (i (o z))))]) (.some (o (o (i z)))) Gd.no [.mk (ldR false 1 (X.t (i (o (i z))))) (.some (o (i (i z)))) Gd.no, .mk (faR 1 (X.t (o z))) (.some (i (o (i z)))) Gd.no, .mk (ldR false 1 (X.t (i (o (o (o z)))))) (.some (o (i (o (o z))))) Gd.no, .mk (faR 2 (X.t (o z))) (.some (i (o (o (o z))))) Gd.no, .mk (lenR LnK.slice (X.t (o (i (i (o z)))))) (.some (i (i (i (o z))))) Gd.no, .mk (ldR false 1 (X.t (i (o (i (o z)))))) (.some (o (i (i (o z))))) Gd.no, .mk (faR 3 (X.t (o z))) (.some (i (o (i (o z))))) Gd.no],
   .mk (callS Tryd.prog 117 [(X.t (o (i (i z))))]) (.some (i (i (i z)))) Gd.no [.mk (ldR false 1 (X.t (i (o (o (o z)))))) (.some (o (i (o (o z))))) Gd.no, .mk (faR 2 (X.t (o z))) (.some (i (o (o (o z))))) Gd.no, .mk (lenR LnK.slice (X.t (o (i (i (o z)))))) (.some (i (i (i (o z))))) Gd.no, .mk (ldR false 1 (X.t (i (o (i (o z)))))) (.some (o (i (i (o z))))) Gd.no, .mk (faR 3 (X.t (o z))) (.some (i (o (i (o z))))) Gd.no],
   .mk (keepH (binR Tryd.prog EK.no .none false BinOp.add (X.t (o (o (i z)))) (X.t (i (i (i z)))))) (.some (o (o (o (o z))))) Gd.no [],
   .mk (callS Tryd.prog 116 [(X.t (o (i (o (o z)))))]) (.some (i (i (o (o z))))) Gd.no [.mk (binR Tryd.prog EK.no .none false BinOp.add (X.t (o (o (i z)))) (X.t (i (i (i z))))) (.some (o (o (o (o z))))) Gd.no, .mk (lenR LnK.slice (X.t (o (i (i (o z)))))) (.some (i (i (i (o z))))) Gd.no, .mk (ldR false 1 (X.t (i (o (i (o z)))))) (.some (o (i (i (o z))))) Gd.no, .mk (faR 3 (X.t (o z))) (.some (i (o (i (o z))))) Gd.no],
   .mk (keepH (binR Tryd.prog EK.no .none false BinOp.add (X.t (o (o (o (o z))))) (X.t (i (i (o (o z))))))) (.some (o (o (i (o z))))) Gd.no [],
   .mk (callS Tryd.prog 116 [(X.t (i (i (i (o z)))))]) (.some (o (o (o (i z))))) Gd.no [.mk (binR Tryd.prog EK.no .none false BinOp.add (X.t (o (o (o (o z))))) (X.t (i (i (o (o z)))))) (.some (o (o (i (o z))))) Gd.no, .mk (binR Tryd.prog EK.no .none false BinOp.add (X.t (o (o (i z)))) (X.t (i (i (i z))))) (.some (o (o (o (o z))))) Gd.no],
   .mk (keepH (binR Tryd.prog EK.no .none false BinOp.add (X.t (o (o (i (o z))))) (X.t (o (o (o (i z))))))) (.some (i (o (o (i z))))) Gd.no [],
   .mk (mvR (X.t (i (o (o (i z)))))) (.some (o (o z))) Gd.no []])
  (.seq (.seq (.region [.mk (faR 3 (X.t (o z))) (.some (o (i (o (i z))))) Gd.no [],
   .mk (ldR false 1 (X.t (o (i (o (i z)))))) (.some (i (i (o (i z))))) Gd.no [],
   .mk (lenR LnK.slice (X.t (i (i (o (i z)))))) (.some (o (o (i (i z))))) Gd.no [],
   .mk (mvR (X.c (AV.int .i64 0))) (.some (i (o (i (i z))))) Gd.no []])
  (.block 0 (.loop C106L0)))
  (.seq (.region [.mk (mvR (X.t (o (o z)))) (.some (i (i (i (i (o z)))))) Gd.no [],
   .mk (mvR (X.t (i (i (i (i (o z))))))) (.some (i z)) Gd.no []])
  .ret)))))
theorem C106ok : (match Tryd.f106.body with | some c => comp Tryd.prog 47 c | none => none) = some C106 := by kernel_rfl
@[go_sem] theorem call106 (args : List AV) (H : Heap) : callC Tryd.prog 106 args H = .call 106 args := callC_ok (by kernel_rfl) args H
theorem R106ok : resKs Tryd.prog Tryd.f106.results.toList = some [(RK.tmp (i z))] := by kernel_rfl

-- 107: no body
-- 108: no body
-- 109: no body

/- 111: cmp.isNaN[string] -/
noncomputable def C111 : CC :=
  (.seq (.region [.mk (mvR (X.c (AV.bool false))) (.some (i z)) Gd.no []])
  (.seq (.region [.mk (mvR (X.t z)) (.some (o (o z))) Gd.no [],
   .mk (mvR (X.t z)) (.some (i (o z))) Gd.no [],
   .mk (binR Tryd.prog EK.no .none false BinOp.neq (X.t (o (o z))) (X.t (i (o z)))) (.some (o (i z))) Gd.no [],
   .mk (mvR (X.t (o (i z)))) (.some (i z)) Gd.no []])
  .ret))
theorem C111ok : (match Tryd.f111.body with | some c => comp Tryd.prog 6 c | none => none) = some C111 := by kernel_rfl
@[go_sem] theorem call111 (args : List AV) (H : Heap) : callC Tryd.prog 111 args H = .call 111 args := callC_ok (by kernel_rfl) args H
theorem R111ok : resKs Tryd.prog Tryd.f111.results.toList = some [(RK.tmp (i z))] := by kernel_rfl

/- 113: estuary/cell.Is -/
noncomputable def C113 : CC :=
  (.seq (.region [.mk (boxR false (X.t z)) (.some (o z)) Gd.no [],
   .mk (mvR (X.c (AV.bool false))) (.some (i z)) Gd.no []])
  (.seq (.region [.mk (faR 0 (X.t (o z))) (.some (o (o z))) Gd.no [],
   .mk (ldR false 1 (X.t (o (o z)))) (.some (i (o z))) Gd.no [],
   .mk (faR 1 (X.t (o z))) (.some (o (i z))) Gd.no [],
   .mk (ldR false 1 (X.t (o (i z)))) (.some (i (i z))) Gd.no [],
   .mk (faR 2 (X.t (o z))) (.some (o (o (o z)))) Gd.no [],
   .mk (ldR false 1 (X.t (o (o (o z))))) (.some (i (o (o z)))) Gd.no [],
   .mk (faR 3 (X.t (o z))) (.some (o (i (o z)))) Gd.no [],
   .mk (ldR false 1 (X.t (o (i (o z))))) (.some (i (i (o z)))) Gd.no [],
   .mk (callS Tryd.prog 114 [(X.t (i (o z))), (X.t (i (i z))), (X.t (i (o (o z)))), (X.t (i (i (o z))))]) (.some (o (o (i z)))) Gd.no [],
   .mk (mvR (X.t (o (o (i z))))) (.some (i (o (i z)))) Gd.no [],
   .mk (faR 4 (X.t (o z))) (.some (o (i (i z)))) (Gd.on (i (o (i z))) true) [],
   .mk (ldR false 1 (X.t (o (i (i z))))) (.some (i (i (i z)))) (Gd.on (i (o (i z))) true) [],
   .mk (binR Tryd.prog EK.no .none true BinOp.geq (X.t (i (i (i z)))) (X.c (AV.int .i64 0))) (.some (o (o (o (o z))))) (Gd.on (i (o (i z))) true) [],
   .mk (pickR (X.t (i (o (i z)))) (X.t (o (o (o (o z))))) (X.c (AV.bool false))) (.some (i (o (o (o z))))) Gd.no [],
   .mk (mvR (X.t (i (o (o (o z)))))) (.some (o (i (o (o z))))) Gd.no [],
   .mk (faR 4 (X.t (o z))) (.some (i (i (o (o z))))) (Gd.on (o (i (o (o z)))) true) [],
   .mk (ldR false 1 (X.t (i (i (o (o z)))))) (.some (o (o (i (o z))))) (Gd.on (o (i (o (o z)))) true) [],
   .mk (faR 2 (X.t (o z))) (.some (i (o (i (o z))))) (Gd.on (o (i (o (o z)))) true) [],
   .mk (ldR false 1 (X.t (i (o (i (o z)))))) (.some (o (i (i (o z))))) (Gd.on (o (i (o (o z)))) true) [],
   .mk (binR Tryd.prog EK.no .none false BinOp.leq (X.t (o (o (i (o z))))) (X.t (o (i (i (o z)))))) (.some (i (i (i (o z))))) (Gd.on (o (i (o (o z)))) true) [],
   .mk (pickR (X.t (o (i (o (o z))))) (X.t (i (i (i (o z))))) (X.c (AV.bool false))) (.some (o (o (o (i z))))) Gd.no [],
   .mk (mvR (X.t (o (o (o (i z)))))) (.some (i z)) Gd.no []])
  .ret))
theorem C113ok : (match Tryd.f113.body with | some c => comp Tryd.prog 24 c | none => none) = some C113 := by kernel_rfl
@[go_sem] theorem call113 (args : List AV) (H : Heap) : callC Tryd.prog 113 args H = .call 113 args := callC_ok (by kernel_rfl) args H
theorem R113ok : resKs Tryd.prog Tryd.f113.results.toList = some [(RK.tmp (i z))] := by kernel_rfl

/- 114: estuary/cell.may -/
noncomputable def C114 : CC :=
  (.seq (.region [.mk (mvR (X.c (AV.bool false))) (.some (i (o (o z)))) Gd.no []])
  (.seq (.block 0 (.seq (.block 3 (.block 2 (.block 1 (.seq (.seq (.seq (.region [.mk (mvR (X.t z)) (.some (i (i (o z)))) Gd.no [],
   .mk (callS Tryd.prog 81 [(X.t (i (i (o z))))]) (.some (o (o (i z)))) Gd.no [],
   .mk (unR UnOp.not (X.t (o (o (i z))))) (.some (i (o (i z)))) Gd.no [],
   .mk (mvR (X.t (i (o (i z))))) (.some (o (i (i z)))) Gd.no [],
   .mk (mvR (X.t (o z))) (.some (i (i (i z)))) (Gd.on (o (i (i z))) false) [],
   .mk (lenR LnK.str (X.t (i (i (i z))))) (.some (o (o (o (o z))))) (Gd.on (o (i (i z))) false) [],
   .mk (binR Tryd.prog EK.no .none true BinOp.gtr (X.t (o (o (o (o z))))) (X.c (AV.int .i64 12))) (.some (i (o (o (o z))))) (Gd.on (o (i (i z))) false) [],
   .mk (pickR (X.t (o (i (i z)))) (X.c (AV.bool true)) (X.t (i (o (o (o z)))))) (.some (o (i (o (o z))))) Gd.no [],
   .mk (mvR (X.t (o (i (o (o z)))))) (.some (o (i (o z)))) Gd.no []])
  (.cond (X.t (o (i (o z))))
  (.exit 1)
  .skip))
  (.seq (.seq (.region [.mk (mvR (X.t (o (o z)))) (.some (o (o (i (o z))))) Gd.no [],
   .mk (mvR (X.t (o (o (i (o z)))))) (.some (i (o (i (o z))))) Gd.no [],
   .mk (mvR (X.t (o z))) (.some (o (i (i (o z))))) (Gd.on (i (o (i (o z)))) true) [],
   .mk (binR Tryd.prog EK.no .none true BinOp.neq (X.t (o (i (i (o z))))) (X.c (AV.str []))) (.some (i (i (i (o z))))) (Gd.on (i (o (i (o z)))) true) [],
   .mk (pickR (X.t (i (o (i (o z))))) (X.t (i (i (i (o z))))) (X.c (AV.bool false))) (.some (o (o (o (i z))))) Gd.no [],
   .mk (mvR (X.t (o (o (o (i z)))))) (.some (i (i (o (o z))))) Gd.no []])
  (.cond (X.t (i (i (o (o z)))))
  (.exit 2)
  .skip))
  (.seq (.region [.mk (mvR (X.t (i z))) (.some (o (i (o (i z))))) Gd.no [],
   .mk (binR Tryd.prog EK.no .none true BinOp.lss (X.t (o (i (o (i z))))) (X.c (AV.int .i64 1))) (.some (i (i (o (i z))))) Gd.no [],
   .mk (mvR (X.t (i (i (o (i z)))))) (.some (o (o (i (i z))))) Gd.no [],
   .mk (mvR (X.t (i z))) (.some (i (o (i (i z))))) (Gd.on (o (o (i (i z)))) false) [],
   .mk (binR Tryd.prog EK.no .none true BinOp.gtr (X.t (i (o (i (i z))))) (X.c (AV.int .i64 1000000000000))) (.some (o (i (i (i z))))) (Gd.on (o (o (i (i z)))) false) [],
   .mk (pickR (X.t (o (o (i (i z))))) (X.c (AV.bool true)) (X.t (o (i (i (i z)))))) (.some (i (i (i (i z))))) Gd.no [],
   .mk (mvR (X.t (i (i (i (i z)))))) (.some (i (o (o (i z))))) Gd.no []])
  (.cond (X.t (i (o (o (i z)))))
  (.exit 3)
  .skip))))
  (.exit 0)))))
  (.seq (.seq (.region [.mk (mvR (X.c (AV.bool false))) (.some (i (o (o z)))) Gd.no []])
  .ret)
  (.exit 0))))
  (.seq (.region [.mk (mvR (X.c (AV.bool true))) (.some (i (o (o z)))) Gd.no []])
  .ret)))
theorem C114ok : (match Tryd.f114.body with | some c => comp Tryd.prog 31 c | none => none) = some C114 := by kernel_rfl
@[go_sem] theorem call114 (args : List AV) (H : Heap) : callC Tryd.prog 114 args H = .call 114 args := callC_ok (by kernel_rfl) args H
theorem R114ok : resKs Tryd.prog Tryd.f114.results.toList = some [(RK.tmp (i (o (o z))))] := by kernel_rfl

/- 115: estuary/op.isAnswer -/
noncomputable def C115 : CC :=
  (.seq (.region [.mk (boxR false (X.t z)) (.some (o z)) Gd.no [],
   .mk (mvR (X.c (AV.bool false))) (.some (i z)) Gd.no []])
  (.seq (.region [.mk (mvR (X.c (AV.fn (Fn.func 120) [] []))) (.some (o (o z))) Gd.no []])
  (.seq (.block 0 (.seq (.block 2 (.block 1 (.seq (.seq (.seq (.region [.mk (faR 0 (X.t (o z))) (.some (o (i z))) Gd.no [],
   .mk (ldR false 1 (X.t (o (i z)))) (.some (i (i z))) Gd.no [],
   .mk (binR Tryd.prog EK.no .none true BinOp.lss (X.t (i (i z))) (X.c (AV.int .i64 0))) (.some (o (o (o z)))) Gd.no [],
   .mk (mvR (X.t (o (o (o z))))) (.some (i (o (o z)))) Gd.no [],
   .mk (faR 0 (X.t (o z))) (.some (o (i (o z)))) (Gd.on (i (o (o z))) false) [],
   .mk (ldR false 1 (X.t (o (i (o z))))) (.some (i (i (o z)))) (Gd.on (i (o (o z))) false) [],
   .mk (binR Tryd.prog EK.no .none true BinOp.geq (X.t (i (i (o z)))) (X.c (AV.int .i64 281474976710656))) (.some (o (o (i z)))) (Gd.on (i (o (o z))) false) [],
   .mk (pickR (X.t (i (o (o z)))) (X.c (AV.bool true)) (X.t (o (o (i z))))) (.some (i (o (i z)))) Gd.no [],
   .mk (mvR (X.t (i (o (i z))))) (.some (o (i (i z)))) Gd.no [],
   .mk (faR 2 (X.t (o z))) (.some (i (i (i z)))) (Gd.on (o (i (i z))) false) [],
   .mk (ldR false 1 (X.t (i (i (i z))))) (.some (o (o (o (o z))))) (Gd.on (o (i (i z))) false) [],
   .mk (binR Tryd.prog EK.no .none true BinOp.lss (X.t (o (o (o (o z))))) (X.c (AV.int .i64 0))) (.some (i (o (o (o z))))) (Gd.on (o (i (i z))) false) [],
   .mk (pickR (X.t (o (i (i z)))) (X.c (AV.bool true)) (X.t (i (o (o (o z)))))) (.some (o (i (o (o z))))) Gd.no [],
   .mk (mvR (X.t (o (i (o (o z)))))) (.some (i (i (o (o z))))) Gd.no [],
   .mk (faR 2 (X.t (o z))) (.some (o (o (i (o z))))) (Gd.on (i (i (o (o z)))) false) [],
   .mk (ldR false 1 (X.t (o (o (i (o z)))))) (.some (i (o (i (o z))))) (Gd.on (i (i (o (o z)))) false) [],
   .mk (binR Tryd.prog EK.no .none true BinOp.geq (X.t (i (o (i (o z))))) (X.c (AV.int .i64 281474976710656))) (.some (o (i (i (o z))))) (Gd.on (i (i (o (o z)))) false) [],
   .mk (pickR (X.t (i (i (o (o z))))) (X.c (AV.bool true)) (X.t (o (i (i (o z)))))) (.some (i (i (i (o z))))) Gd.no [],
   .mk (mvR (X.t (i (i (i (o z)))))) (.some (o (o (o (i z))))) Gd.no [],
   .mk (faR 1 (X.t (o z))) (.some (i (o (o (i z))))) (Gd.on (o (o (o (i z)))) false) [],
   .mk (ldR false 1 (X.t (i (o (o (i z)))))) (.some (o (i (o (i z))))) (Gd.on (o (o (o (i z)))) false) [],
   .mk (lenR LnK.str (X.t (o (i (o (i z)))))) (.some (i (i (o (i z))))) (Gd.on (o (o (o (i z)))) false) [],
   .mk (binR Tryd.prog EK.no .none true BinOp.gtr (X.t (i (i (o (i z))))) (X.c (AV.int .i64 255))) (.some (o (o (i (i z))))) (Gd.on (o (o (o (i z)))) false) [],
   .mk (pickR (X.t (o (o (o (i z))))) (X.c (AV.bool true)) (X.t (o (o (i (i z)))))) (.some (i (o (i (i z))))) Gd.no [],
   .mk (mvR (X.t (i (o (i (i z)))))) (.some (i (o z))) Gd.no []])
  (.cond (X.t (i (o z)))
  (.exit 1)
  .skip))
  (.seq (.region [.mk (faR 3 (X.t (o z))) (.some (i (i (i (i z))))) Gd.no [],
   .mk (ldR false 1 (X.t (i (i (i (i z)))))) (.some (o (o (o (o (o z)))))) Gd.no [],
   .mk (lenR LnK.slice (X.t (o (o (o (o (o z))))))) (.some (i (o (o (o (o z)))))) Gd.no [],
   .mk (binR Tryd.prog EK.no .none true BinOp.gtr (X.t (i (o (o (o (o z)))))) (X.c (AV.int .i64 16))) (.some (o (i (o (o (o z)))))) Gd.no [],
   .mk (mvR (X.t (o (i (o (o (o z))))))) (.some (i (i (o (o (o z)))))) Gd.no [],
   .mk (faR 3 (X.t (o z))) (.some (o (o (i (o (o z)))))) (Gd.on (i (i (o (o (o z))))) false) [],
   .mk (ldR false 1 (X.t (o (o (i (o (o z))))))) (.some (i (o (i (o (o z)))))) (Gd.on (i (i (o (o (o z))))) false) [],
   .mk (mvR (X.t (o (o z)))) (.some (o (i (i (o (o z)))))) (Gd.on (i (i (o (o (o z))))) false) [],
   .mk (callS Tryd.prog 121 [(X.t (i (o (i (o (o z)))))), (X.t (o (i (i (o (o z))))))]) (.some (i (i (i (o (o z)))))) (Gd.on (i (i (o (o (o z))))) false) [],
   .mk (pickR (X.t (i (i (o (o (o z)))))) (X.c (AV.bool true)) (X.t (i (i (i (o (o z))))))) (.some (o (o (o (i (o z)))))) Gd.no [],
   .mk (mvR (X.t (o (o (o (i (o z))))))) (.some (o (i (i (i z))))) Gd.no []])
  (.cond (X.t (o (i (i (i z)))))
  (.exit 2)
  .skip)))
  (.exit 0))))
  (.seq (.seq (.region [.mk (mvR (X.c (AV.bool false))) (.some (i z)) Gd.no []])
  .ret)
  (.exit 0))))
  (.seq (.region [.mk (mvR (X.c (AV.bool true))) (.some (i z)) Gd.no []])
  .ret))))
theorem C115ok : (match Tryd.f115.body with | some c => comp Tryd.prog 40 c | none => none) = some C115 := by kernel_rfl
@[go_sem] theorem call115 (args : List AV) (H : Heap) : callC Tryd.prog 115 args H = .call 115 args := callC_ok (by kernel_rfl) args H
theorem R115ok : resKs Tryd.prog Tryd.f115.results.toList = some [(RK.tmp (i z))] := by kernel_rfl

/- 116: estuary/pack.Num -/
noncomputable def C116L0 : CC :=
  (.seq (.seq (.region [.mk (mvR (X.t z)) (.some (i (i z))) Gd.no [],
   .mk (binR Tryd.prog EK.no .none true BinOp.geq (X.t (i (i z))) (X.c (AV.int .i64 64))) (.some (o (o (o z)))) Gd.no []])
  (.cond (X.t (o (o (o z))))
  .skip
  (.exit 0)))
  (.block 1 (.seq (.region [.mk (mvR (X.t (o (o z)))) (.some (i (o (o z)))) Gd.no [],
   .mk (mvR (X.t z)) (.some (o (i (o z)))) Gd.no [],
   .mk (binR Tryd.prog EK.no .none true BinOp.and (X.t (o (i (o z)))) (X.c (AV.int .i64 63))) (.some (i (i (o z)))) Gd.no [],
   .mk (binR Tryd.prog EK.no .none true BinOp.or (X.c (AV.int .i64 64)) (X.t (i (i (o z))))) (.some (o (o (i z)))) Gd.no [],
   .mk (convR (Cv.int IntKind.u8) (X.t (o (o (i z))))) (.some (i (o (i z)))) Gd.no [],
   .mk (bslR 1 1 [(AV.int IntKind.u8 0)] [(0, (X.t (i (o (i z)))))]) (.some (o (i (i z)))) Gd.no [],
   .mk (appR 1 1 (X.t (i (o (o z)))) (X.t (o (i (i z))))) (.some (i (i (i z)))) Gd.no [],
   .mk (mvR (X.t (i (i (i z))))) (.some (o (o z))) Gd.no []])
  (.region [.mk (mvR (X.t z)) (.some (o (o (o (o z))))) Gd.no [],
   .mk (binR Tryd.prog EK.no .none true BinOp.shr (X.t (o (o (o (o z))))) (X.c (AV.int IntKind.u64 6))) (.some (i (o (o (o z))))) Gd.no [],
   .mk (mvR (X.t (i (o (o (o z)))))) (.some z) Gd.no []]))))
noncomputable def C116 : CC :=
  (.seq (.region [.mk (mvR (X.c (AV.str []))) (.some (i z)) Gd.no []])
  (.seq (.region [.mk (mvR (X.t z)) (.some (i (o z))) Gd.no [],
   .mk (mmR true (X.t (i (o z))) (X.c (AV.int .i64 0))) (.some (o (i z))) Gd.no [],
   .mk (mvR (X.t (o (i z)))) (.some z) Gd.no []])
  (.seq (.region [.mk (mvR (X.c AV.nils)) (.some (o (o z))) Gd.no []])
  (.seq (.block 0 (.loop C116L0))
  (.seq (.region [.mk (mvR (X.t (o (o z)))) (.some (o (i (o (o z))))) Gd.no [],
   .mk (mvR (X.t z)) (.some (i (i (o (o z))))) Gd.no [],
   .mk (convR (Cv.int IntKind.u8) (X.t (i (i (o (o z)))))) (.some (o (o (i (o z))))) Gd.no [],
   .mk (bslR 1 1 [(AV.int IntKind.u8 0)] [(0, (X.t (o (o (i (o z))))))]) (.some (i (o (i (o z))))) Gd.no [],
   .mk (appR 1 1 (X.t (o (i (o (o z))))) (X.t (i (o (i (o z)))))) (.some (o (i (i (o z))))) Gd.no [],
   .mk (convR Cv.b2s (X.t (o (i (i (o z)))))) (.some (i (i (i (o z))))) Gd.no [],
   .mk (mvR (X.t (i (i (i (o z)))))) (.some (i z)) Gd.no []])
  .ret)))))
theorem C116ok : (match Tryd.f116.body with | some c => comp Tryd.prog 23 c | none => none) = some C116 := by kernel_rfl
@[go_sem] theorem call116 (args : List AV) (H : Heap) : callC Tryd.prog 116 args H = .call 116 args := callC_ok (by kernel_rfl) args H
theorem R116ok : resKs Tryd.prog Tryd.f116.results.toList = some [(RK.tmp (i z))] := by kernel_rfl

/- 117: estuary/pack.Text -/
noncomputable def C117 : CC :=
  (.seq (.region [.mk (mvR (X.c (AV.str []))) (.some (i z)) Gd.no []])
  (.seq (.region [.mk (mvR (X.t z)) (.some (o (o z))) Gd.no [],
   .mk (lenR LnK.str (X.t (o (o z)))) (.some (i (o z))) Gd.no [],
   .mk (callS Tryd.prog 116 [(X.t (i (o z)))]) (.some (o (i z))) Gd.no [],
   .mk (mvR (X.t z)) (.some (i (i z))) Gd.no [],
   .mk (binR Tryd.prog EK.no .none false BinOp.add (X.t (o (i z))) (X.t (i (i z)))) (.some (o (o (o z)))) Gd.no [],
   .mk (mvR (X.t (o (o (o z))))) (.some (i z)) Gd.no []])
  .ret))
theorem C117ok : (match Tryd.f117.body with | some c => comp Tryd.prog 8 c | none => none) = some C117 := by kernel_rfl
@[go_sem] theorem call117 (args : List AV) (H : Heap) : callC Tryd.prog 117 args H = .call 117 args := callC_ok (by kernel_rfl) args H
theorem R117ok : resKs Tryd.prog Tryd.f117.results.toList = some [(RK.tmp (i z))] := by kernel_rfl

/- 120: estuary/op.isAnswer$1 -/
noncomputable def C120 : CC :=
  (.seq (.region [.mk (boxR false (X.t z)) (.some (o z)) Gd.no [],
   .mk (mvR (X.c (AV.bool false))) (.some (i z)) Gd.no []])
  (.seq (.region [.mk (faR 0 (X.t (o z))) (.some (o (o z))) Gd.no [],
   .mk (ldR false 1 (X.t (o (o z)))) (.some (i (o z))) Gd.no [],
   .mk (lenR LnK.str (X.t (i (o z)))) (.some (o (i z))) Gd.no [],
   .mk (binR Tryd.prog EK.no .none true BinOp.gtr (X.t (o (i z))) (X.c (AV.int .i64 255))) (.some (i (i z))) Gd.no [],
   .mk (mvR (X.t (i (i z)))) (.some (o (o (o z)))) Gd.no [],
   .mk (faR 1 (X.t (o z))) (.some (i (o (o z)))) (Gd.on (o (o (o z))) false) [],
   .mk (ldR false 1 (X.t (i (o (o z))))) (.some (o (i (o z)))) (Gd.on (o (o (o z))) false) [],
   .mk (lenR LnK.str (X.t (o (i (o z))))) (.some (i (i (o z)))) (Gd.on (o (o (o z))) false) [],
   .mk (binR Tryd.prog EK.no .none true BinOp.gtr (X.t (i (i (o z)))) (X.c (AV.int .i64 255))) (.some (o (o (i z)))) (Gd.on (o (o (o z))) false) [],
   .mk (pickR (X.t (o (o (o z)))) (X.c (AV.bool true)) (X.t (o (o (i z))))) (.some (i (o (i z)))) Gd.no [],
   .mk (mvR (X.t (i (o (i z))))) (.some (o (i (i z)))) Gd.no [],
   .mk (faR 2 (X.t (o z))) (.some (i (i (i z)))) (Gd.on (o (i (i z))) false) [],
   .mk (ldR false 1 (X.t (i (i (i z))))) (.some (o (o (o (o z))))) (Gd.on (o (i (i z))) false) [],
   .mk (binR Tryd.prog EK.no .none true BinOp.lss (X.t (o (o (o (o z))))) (X.c (AV.int .i64 0))) (.some (i (o (o (o z))))) (Gd.on (o (i (i z))) false) [],
   .mk (pickR (X.t (o (i (i z)))) (X.c (AV.bool true)) (X.t (i (o (o (o z)))))) (.some (o (i (o (o z))))) Gd.no [],
   .mk (mvR (X.t (o (i (o (o z)))))) (.some (i (i (o (o z))))) Gd.no [],
   .mk (faR 2 (X.t (o z))) (.some (o (o (i (o z))))) (Gd.on (i (i (o (o z)))) false) [],
   .mk (ldR false 1 (X.t (o (o (i (o z)))))) (.some (i (o (i (o z))))) (Gd.on (i (i (o (o z)))) false) [],
   .mk (binR Tryd.prog EK.no .none true BinOp.geq (X.t (i (o (i (o z))))) (X.c (AV.int .i64 281474976710656))) (.some (o (i (i (o z))))) (Gd.on (i (i (o (o z)))) false) [],
   .mk (pickR (X.t (i (i (o (o z))))) (X.c (AV.bool true)) (X.t (o (i (i (o z)))))) (.some (i (i (i (o z))))) Gd.no [],
   .mk (mvR (X.t (i (i (i (o z)))))) (.some (i z)) Gd.no []])
  .ret))
theorem C120ok : (match Tryd.f120.body with | some c => comp Tryd.prog 23 c | none => none) = some C120 := by kernel_rfl
@[go_sem] theorem call120 (args : List AV) (H : Heap) : callC Tryd.prog 120 args H = .call 120 args := callC_ok (by kernel_rfl) args H
theorem R120ok : resKs Tryd.prog Tryd.f120.results.toList = some [(RK.tmp (i z))] := by kernel_rfl

/- 121: slices.ContainsFunc[[]estuary/api.Row,estuary/api.Row] -/
noncomputable def C121 : CC :=
  (.seq (.region [.mk (mvR (X.c (AV.bool false))) (.some (i (o z))) Gd.no []])
  (.seq (.region [.mk (mvR (X.t z)) (.some (o (i z))) Gd.no [],
   .mk (mvR (X.t (o z))) (.some (i (i z))) Gd.no [],
   .mk (callS Tryd.prog 123 [(X.t (o (i z))), (X.t (i (i z)))]) (.some (o (o (o z)))) Gd.no [],
   .mk (binR Tryd.prog EK.no .none true BinOp.geq (X.t (o (o (o z)))) (X.c (AV.int .i64 0))) (.some (i (o (o z)))) Gd.no [],
   .mk (mvR (X.t (i (o (o z))))) (.some (i (o z))) Gd.no []])
  .ret))
theorem C121ok : (match Tryd.f121.body with | some c => comp Tryd.prog 9 c | none => none) = some C121 := by kernel_rfl
@[go_sem] theorem call121 (args : List AV) (H : Heap) : callC Tryd.prog 121 args H = .call 121 args := callC_ok (by kernel_rfl) args H
theorem R121ok : resKs Tryd.prog Tryd.f121.results.toList = some [(RK.tmp (i (o z)))] := by kernel_rfl

/- 123: slices.IndexFunc[[]estuary/api.Row,estuary/api.Row] -/
noncomputable def C123L0 : CC :=
  (.seq (.region [.mk (binR Tryd.prog EK.no .none false BinOp.lss (X.t (i (o (o z)))) (X.t (o (o (o z))))) (.some (o (i (o z)))) Gd.no []])
  (.seq (.cond (X.t (o (i (o z))))
  .skip
  (.exit 0))
  (.seq (.block 1 (.seq (.region [.mk (mvR (X.t (i (o (o z))))) (.some (i (i (o z)))) Gd.no [],
   .mk (mvR (X.t (i (i (o z))))) (.some (o (i z))) Gd.no []])
  (.seq (.region [.mk (mvR (X.t (o z))) (.some (o (o (i z)))) Gd.no [],
   .mk (mvR (X.t z)) (.some (i (o (i z)))) Gd.no [],
   .mk (mvR (X.t (o (i z)))) (.some (o (i (i z)))) Gd.no [],
   .mk (iaS 3 (X.t (i (o (i z)))) (X.t (o (i (i z))))) (.some (i (i (i z)))) Gd.no [],
   .mk (ldR true 3 (X.t (i (i (i z))))) (.some (o (o (o (o z))))) Gd.no [],
   .mk (callX Tryd.prog (X.t (o (o (i z)))) [(X.t (o (o (o (o z)))))]) (.some (i (o (o (o z))))) Gd.no []])
  (.cond (X.t (i (o (o (o z)))))
  (.seq (.region [.mk (mvR (X.t (o (i z)))) (.some (o (i (o (o z))))) Gd.no [],
   .mk (mvR (X.t (o (i (o (o z)))))) (.some (i (o z))) Gd.no []])
  .ret)
  .skip))))
  (.region [.mk (binR Tryd.prog EK.no .none true BinOp.add (X.t (i (o (o z)))) (X.c (AV.int .i64 1))) (.some (i (i (o (o z))))) Gd.no [],
   .mk (mvR (X.t (i (i (o (o z)))))) (.some (i (o (o z)))) Gd.no []]))))
noncomputable def C123 : CC :=
  (.seq (.region [.mk (mvR (X.c (AV.int .i64 0))) (.some (i (o z))) Gd.no []])
  (.seq (.seq (.region [.mk (mvR (X.t z)) (.some (i (i z))) Gd.no [],
   .mk (lenR LnK.slice (X.t (i (i z)))) (.some (o (o (o z)))) Gd.no [],
   .mk (mvR (X.c (AV.int .i64 0))) (.some (i (o (o z)))) Gd.no []])
  (.block 0 (.loop C123L0)))
  (.seq (.region [.mk (mvR (X.c (AV.int .i64 (-1)))) (.some (i (o z))) Gd.no []])
  .ret)))
theorem C123ok : (match Tryd.f123.body with | some c => comp Tryd.prog 19 c | none => none) = some C123 := by kernel_rfl
@[go_sem] theorem call123 (args : List AV) (H : Heap) : callC Tryd.prog 123 args H = .call 123 args := callC_ok (by kernel_rfl) args H
theorem R123ok : resKs Tryd.prog Tryd.f123.results.toList = some [(RK.tmp (i (o z)))] := by kernel_rfl

end Go.Proofs
