/- The laid-out code of the functions that are walked. Printed by a program. -/
import Derived.Test.YtomljpdjfobeoaaGreatDoorZ15
import Derived.Test.YtomljpdjfobeoaaGreatDoorProg
import Derived.KernelRfl
set_option linter.all false
set_option maxRecDepth 100000
namespace Go.Proofs
open Go Go.Ev K
@[go_sem] theorem call40 (args : List AV) (H : Heap) : callC Tryz.prog 40 args H = .call 40 args := callC_ok (by kernel_rfl) args H
noncomputable def C44L0 : CC :=
  (.seq (.seq (.region [.mk (mvR (X.t (o (i z)))) (.some (o (o (i z)))) Gd.no [],
   .mk (mvR (X.t z)) (.some (i (o (i z)))) Gd.no [],
   .mk (lenR LnK.slice (X.t (i (o (i z))))) (.some (o (i (i z)))) Gd.no [],
   .mk (binR Tryz.prog EK.no .none false BinOp.lss (X.t (o (o (i z)))) (X.t (o (i (i z))))) (.some (i (i (i z)))) Gd.no []])
  (.cond (X.t (i (i (i z))))
  .skip
  (.exit 0)))
  (.seq (.block 1 (.seq (.regionD [.mk (keepH (mvR (X.t (o (i z))))) (.some (i (i (i (o z))))) Gd.no [],
   .mk (keepH (mvR (X.t (o z)))) (.some (o (i (i (o z))))) Gd.no [],
   .mk (keepH (iaS 5 (X.t (o (i (i (o z))))) (X.t (i (i (i (o z))))))) (.some (o (o (o (i z))))) Gd.no [],
   .mk (keepH (ldR true 5 (X.t (o (o (o (i z))))))) (.some (i (o (o (i z))))) Gd.no [],
   .mk (keepH (mvR (X.t (o (i z))))) (.some (i (i (o (o z))))) Gd.no [],
   .mk (keepH (mvR (X.t z))) (.some (o (i (o (o z))))) Gd.no [],
   .mk (keepH (iaS 5 (X.t (o (i (o (o z))))) (X.t (i (i (o (o z))))))) (.some (o (o (i (o z))))) Gd.no [],
   .mk (keepH (ldR true 5 (X.t (o (o (i (o z))))))) (.some (i (o (i (o z))))) Gd.no [],
   .mk (keepH (binR Tryz.prog EK.no (.some [LK.str, LK.str, LK.int, LK.bool, LK.int]) false BinOp.neq (X.t (i (o (i (o z))))) (X.t (i (o (o (i z))))))) (.some (o (i (o (i z))))) Gd.no []])
  (.cond (X.t (o (i (o (i z)))))
  (.seq (.region [.mk (mvR (X.c (AV.bool false))) (.some (i (o z))) Gd.no []])
  .ret)
  .skip)))
  (.region [.mk (mvR (X.t (o (i z)))) (.some (o (o (o (o z))))) Gd.no [],
   .mk (binR Tryz.prog EK.no .none true BinOp.add (X.t (o (o (o (o z))))) (X.c (AV.int .i64 1))) (.some (i (o (o (o z))))) Gd.no [],
   .mk (mvR (X.t (i (o (o (o z)))))) (.some (o (i z))) Gd.no []])))
noncomputable def C44 : CC :=
  (.seq (.region [.mk (mvR (X.c (AV.bool false))) (.some (i (o z))) Gd.no []])
  (.seq (.seq (.region [.mk (mvR (X.t z)) (.some (i (i z))) Gd.no [],
   .mk (lenR LnK.slice (X.t (i (i z)))) (.some (o (o (o z)))) Gd.no [],
   .mk (mvR (X.t (o z))) (.some (i (o (o z)))) Gd.no [],
   .mk (lenR LnK.slice (X.t (i (o (o z))))) (.some (o (i (o z)))) Gd.no [],
   .mk (binR Tryz.prog EK.no .none false BinOp.neq (X.t (o (o (o z)))) (X.t (o (i (o z))))) (.some (i (i (o z)))) Gd.no []])
  (.cond (X.t (i (i (o z))))
  (.seq (.region [.mk (mvR (X.c (AV.bool false))) (.some (i (o z))) Gd.no []])
  .ret)
  .skip))
  (.seq (.seq (.region [.mk (mvR (X.c (AV.int .i64 0))) (.some (o (i z))) Gd.no []])
  (.block 0 (.loop C44L0)))
  (.seq (.region [.mk (mvR (X.c (AV.bool true))) (.some (i (o z))) Gd.no []])
  .ret))))
theorem C44ok : (match Tryz.f44.body with | some c => comp Tryz.prog 26 c | none => none) = some C44 := by kernel_rfl
@[go_sem] theorem call44 (args : List AV) (H : Heap) : callC Tryz.prog 44 args H = .call 44 args := callC_ok (by kernel_rfl) args H
theorem R44ok : resKs Tryz.prog Tryz.f44.results.toList = some [(RK.tmp (i (o z)))] := by kernel_rfl

noncomputable def C46L0 : CC :=
  (.seq (.seq (.region [.mk (mvR (X.t (o (i z)))) (.some (o (o (i z)))) Gd.no [],
   .mk (mvR (X.t z)) (.some (i (o (i z)))) Gd.no [],
   .mk (lenR LnK.slice (X.t (i (o (i z))))) (.some (o (i (i z)))) Gd.no [],
   .mk (binR Tryz.prog EK.no .none false BinOp.lss (X.t (o (o (i z)))) (X.t (o (i (i z))))) (.some (i (i (i z)))) Gd.no []])
  (.cond (X.t (i (i (i z))))
  .skip
  (.exit 0)))
  (.seq (.block 1 (.seq (.regionD [.mk (keepH (mvR (X.t (o (i z))))) (.some (o (o (o (i z))))) Gd.no [],
   .mk (keepH (mvR (X.t (o z)))) (.some (i (i (i (o z))))) Gd.no [],
   .mk (keepH (iaS 6 (X.t (i (i (i (o z))))) (X.t (o (o (o (i z))))))) (.some (i (o (o (i z))))) Gd.no [],
   .mk (keepH (faR 0 (X.t (i (o (o (i z))))))) (.some (o (i (o (i z))))) Gd.no [],
   .mk (keepH (ldR false 1 (X.t (o (i (o (i z))))))) (.some (i (i (o (i z))))) Gd.no [],
   .mk (keepH (mvR (X.t (o (i z))))) (.some (i (i (o (o z))))) Gd.no [],
   .mk (keepH (mvR (X.t z))) (.some (o (i (o (o z))))) Gd.no [],
   .mk (keepH (iaS 6 (X.t (o (i (o (o z))))) (X.t (i (i (o (o z))))))) (.some (o (o (i (o z))))) Gd.no [],
   .mk (keepH (faR 0 (X.t (o (o (i (o z))))))) (.some (i (o (i (o z))))) Gd.no [],
   .mk (keepH (ldR false 1 (X.t (i (o (i (o z))))))) (.some (o (i (i (o z))))) Gd.no [],
   .mk (keepH (binR Tryz.prog EK.no .none false BinOp.neq (X.t (o (i (i (o z))))) (X.t (i (i (o (i z))))))) (.some (o (o (i (i z))))) Gd.no [],
   .mk (keepH (mvR (X.t (o (o (i (i z))))))) (.some (i (o (i (i z))))) Gd.no [],
   .mk (keepH (mvR (X.t (o (i z))))) (.some (o (o (i (o (o z)))))) (Gd.on (i (o (i (i z)))) false) [],
   .mk (keepH (mvR (X.t (o z)))) (.some (i (i (o (o (o z)))))) (Gd.on (i (o (i (i z)))) false) [],
   .mk (keepH (iaS 6 (X.t (i (i (o (o (o z)))))) (X.t (o (o (i (o (o z)))))))) (.some (i (o (i (o (o z)))))) (Gd.on (i (o (i (i z)))) false) [],
   .mk (keepH (faR 1 (X.t (i (o (i (o (o z)))))))) (.some (o (i (i (o (o z)))))) (Gd.on (i (o (i (i z)))) false) [],
   .mk (keepH (ldR false 1 (X.t (o (i (i (o (o z)))))))) (.some (i (i (i (o (o z)))))) (Gd.on (i (o (i (i z)))) false) [],
   .mk (keepH (mvR (X.t (o (i z))))) (.some (i (i (i (i z))))) (Gd.on (i (o (i (i z)))) false) [],
   .mk (keepH (mvR (X.t z))) (.some (o (i (i (i z))))) (Gd.on (i (o (i (i z)))) false) [],
   .mk (keepH (iaS 6 (X.t (o (i (i (i z))))) (X.t (i (i (i (i z))))))) (.some (o (o (o (o (o z)))))) (Gd.on (i (o (i (i z)))) false) [],
   .mk (keepH (faR 1 (X.t (o (o (o (o (o z)))))))) (.some (i (o (o (o (o z)))))) (Gd.on (i (o (i (i z)))) false) [],
   .mk (keepH (ldR false 1 (X.t (i (o (o (o (o z)))))))) (.some (o (i (o (o (o z)))))) (Gd.on (i (o (i (i z)))) false) [],
   .mk (keepH (binR Tryz.prog EK.no .none false BinOp.neq (X.t (o (i (o (o (o z)))))) (X.t (i (i (i (o (o z)))))))) (.some (o (o (o (i (o z)))))) (Gd.on (i (o (i (i z)))) false) [],
   .mk (keepH (pickR (X.t (i (o (i (i z))))) (X.c (AV.bool true)) (X.t (o (o (o (i (o z)))))))) (.some (i (o (o (i (o z)))))) Gd.no [],
   .mk (keepH (mvR (X.t (i (o (o (i (o z)))))))) (.some (o (i (o (i (o z)))))) Gd.no [],
   .mk (keepH (mvR (X.t (o (i z))))) (.some (i (o (o (o (i z)))))) (Gd.on (o (i (o (i (o z))))) false) [],
   .mk (keepH (mvR (X.t (o z)))) (.some (o (o (o (o (i z)))))) (Gd.on (o (i (o (i (o z))))) false) [],
   .mk (keepH (iaS 6 (X.t (o (o (o (o (i z)))))) (X.t (i (o (o (o (i z)))))))) (.some (o (i (o (o (i z)))))) (Gd.on (o (i (o (i (o z))))) false) [],
   .mk (keepH (faR 2 (X.t (o (i (o (o (i z)))))))) (.some (i (i (o (o (i z)))))) (Gd.on (o (i (o (i (o z))))) false) [],
   .mk (keepH (ldR true 4 (X.t (i (i (o (o (i z)))))))) (.some (o (o (i (o (i z)))))) (Gd.on (o (i (o (i (o z))))) false) [],
   .mk (keepH (mvR (X.t (o (i z))))) (.some (o (o (i (i (o z)))))) (Gd.on (o (i (o (i (o z))))) false) [],
   .mk (keepH (mvR (X.t z))) (.some (i (i (o (i (o z)))))) (Gd.on (o (i (o (i (o z))))) false) [],
   .mk (keepH (iaS 6 (X.t (i (i (o (i (o z)))))) (X.t (o (o (i (i (o z)))))))) (.some (i (o (i (i (o z)))))) (Gd.on (o (i (o (i (o z))))) false) [],
   .mk (keepH (faR 2 (X.t (i (o (i (i (o z)))))))) (.some (o (i (i (i (o z)))))) (Gd.on (o (i (o (i (o z))))) false) [],
   .mk (keepH (ldR true 4 (X.t (o (i (i (i (o z)))))))) (.some (i (i (i (i (o z)))))) (Gd.on (o (i (o (i (o z))))) false) [],
   .mk (callS Tryz.prog 87 [(X.t (i (i (i (i (o z)))))), (X.t (o (o (i (o (i z))))))]) (.some (i (o (i (o (i z)))))) (Gd.on (o (i (o (i (o z))))) false) [],
   .mk (keepH (unR UnOp.not (X.t (i (o (i (o (i z)))))))) (.some (o (i (i (o (i z)))))) (Gd.on (o (i (o (i (o z))))) false) [],
   .mk (keepH (pickR (X.t (o (i (o (i (o z)))))) (X.c (AV.bool true)) (X.t (o (i (i (o (i z)))))))) (.some (i (i (i (o (i z)))))) Gd.no []])
  (.cond (X.t (i (i (i (o (i z))))))
  (.seq (.region [.mk (mvR (X.c (AV.bool false))) (.some (i (o z))) Gd.no []])
  .ret)
  .skip)))
  (.region [.mk (mvR (X.t (o (i z)))) (.some (o (o (o (o z))))) Gd.no [],
   .mk (binR Tryz.prog EK.no .none true BinOp.add (X.t (o (o (o (o z))))) (X.c (AV.int .i64 1))) (.some (i (o (o (o z))))) Gd.no [],
   .mk (mvR (X.t (i (o (o (o z)))))) (.some (o (i z))) Gd.no []])))
noncomputable def C46 : CC :=
  (.seq (.region [.mk (mvR (X.c (AV.bool false))) (.some (i (o z))) Gd.no []])
  (.seq (.seq (.region [.mk (mvR (X.t z)) (.some (i (i z))) Gd.no [],
   .mk (lenR LnK.slice (X.t (i (i z)))) (.some (o (o (o z)))) Gd.no [],
   .mk (mvR (X.t (o z))) (.some (i (o (o z)))) Gd.no [],
   .mk (lenR LnK.slice (X.t (i (o (o z))))) (.some (o (i (o z)))) Gd.no [],
   .mk (binR Tryz.prog EK.no .none false BinOp.neq (X.t (o (o (o z)))) (X.t (o (i (o z))))) (.some (i (i (o z)))) Gd.no []])
  (.cond (X.t (i (i (o z))))
  (.seq (.region [.mk (mvR (X.c (AV.bool false))) (.some (i (o z))) Gd.no []])
  .ret)
  .skip))
  (.seq (.seq (.region [.mk (mvR (X.c (AV.int .i64 0))) (.some (o (i z))) Gd.no []])
  (.block 0 (.loop C46L0)))
  (.seq (.region [.mk (mvR (X.c (AV.bool true))) (.some (i (o z))) Gd.no []])
  .ret))))
theorem C46ok : (match Tryz.f46.body with | some c => comp Tryz.prog 55 c | none => none) = some C46 := by kernel_rfl
@[go_sem] theorem call46 (args : List AV) (H : Heap) : callC Tryz.prog 46 args H = .call 46 args := callC_ok (by kernel_rfl) args H
theorem R46ok : resKs Tryz.prog Tryz.f46.results.toList = some [(RK.tmp (i (o z)))] := by kernel_rfl

@[go_sem] theorem call51 (args : List AV) (H : Heap) : callC Tryz.prog 51 args H = .call 51 args := callC_ok (by kernel_rfl) args H
noncomputable def C61 : CC :=
  (.seq (.region [.mk (boxR false (X.t z)) (.some (i z)) Gd.no [],
   .mk (mvR (X.c (AV.bool false))) (.some (i (o z))) Gd.no []])
  (.seq (.region [.mk (ldR true 2 (X.t (i z))) (.some (o (i z))) Gd.no [],
   .mk (callS Tryz.prog 62 [(X.t (o (i z)))]) (.some (i (i z))) Gd.no [],
   .mk (mvR (X.t (i (i z)))) (.some (o (o (o z)))) Gd.no [],
   .mk (mvR (X.t (o z))) (.some (i (o (o z)))) (Gd.on (o (o (o z))) true) [],
   .mk (callS Tryz.prog 105 [(X.t (i (o (o z))))]) (.some (o (i (o z)))) (Gd.on (o (o (o z))) true) [],
   .mk (pickR (X.t (o (o (o z)))) (X.t (o (i (o z)))) (X.c (AV.bool false))) (.some (i (i (o z)))) Gd.no [],
   .mk (mvR (X.t (i (i (o z))))) (.some (o (o (i z)))) Gd.no [],
   .mk (mvR (X.t (o z))) (.some (i (o (i z)))) (Gd.on (o (o (i z))) true) [],
   .mk (faR 0 (X.t (i z))) (.some (o (i (i z)))) (Gd.on (o (o (i z))) true) [],
   .mk (ldR false 1 (X.t (o (i (i z))))) (.some (i (i (i z)))) (Gd.on (o (o (i z))) true) [],
   .mk (binR Tryz.prog EK.no .none false BinOp.geq (X.t (i (o (i z)))) (X.t (i (i (i z))))) (.some (o (o (o (o z))))) (Gd.on (o (o (i z))) true) [],
   .mk (pickR (X.t (o (o (i z)))) (X.t (o (o (o (o z))))) (X.c (AV.bool false))) (.some (i (o (o (o z))))) Gd.no [],
   .mk (mvR (X.t (i (o (o (o z)))))) (.some (o (i (o (o z))))) Gd.no [],
   .mk (faR 1 (X.t (i z))) (.some (i (i (o (o z))))) (Gd.on (o (i (o (o z)))) true) [],
   .mk (ldR false 1 (X.t (i (i (o (o z)))))) (.some (o (o (i (o z))))) (Gd.on (o (i (o (o z)))) true) [],
   .mk (binR Tryz.prog EK.no .none true BinOp.eql (X.t (o (o (i (o z))))) (X.c (AV.str []))) (.some (i (o (i (o z))))) (Gd.on (o (i (o (o z)))) true) [],
   .mk (mvR (X.t (i (o (i (o z)))))) (.some (o (i (i (o z))))) (Gd.on (o (i (o (o z)))) true) [],
   .mk (mvR (X.t (o z))) (.some (i (i (i (o z))))) (Gd.on (o (i (i (o z)))) false) [],
   .mk (faR 1 (X.t (i z))) (.some (o (o (o (i z))))) (Gd.on (o (i (i (o z)))) false) [],
   .mk (ldR false 1 (X.t (o (o (o (i z)))))) (.some (i (o (o (i z))))) (Gd.on (o (i (i (o z)))) false) [],
   .mk (binR Tryz.prog EK.no .none false BinOp.lss (X.t (i (i (i (o z))))) (X.t (i (o (o (i z)))))) (.some (o (i (o (i z))))) (Gd.on (o (i (i (o z)))) false) [],
   .mk (pickR (X.t (o (i (i (o z))))) (X.c (AV.bool true)) (X.t (o (i (o (i z)))))) (.some (i (i (o (i z))))) (Gd.on (o (i (o (o z)))) true) [],
   .mk (pickR (X.t (o (i (o (o z))))) (X.t (i (i (o (i z))))) (X.c (AV.bool false))) (.some (o (o (i (i z))))) Gd.no [],
   .mk (mvR (X.t (o (o (i (i z)))))) (.some (i (o z))) Gd.no []])
  .ret))
theorem C61ok : (match Tryz.f61.body with | some c => comp Tryz.prog 28 c | none => none) = some C61 := by kernel_rfl
@[go_sem] theorem call61 (args : List AV) (H : Heap) : callC Tryz.prog 61 args H = .call 61 args := callC_ok (by kernel_rfl) args H
theorem R61ok : resKs Tryz.prog Tryz.f61.results.toList = some [(RK.tmp (i (o z)))] := by kernel_rfl

noncomputable def C62 : CC :=
  (.seq (.region [.mk (boxR false (X.t z)) (.some (o z)) Gd.no [],
   .mk (mvR (X.c (AV.bool false))) (.some (i z)) Gd.no []])
  (.seq (.block 0 (.seq (.block 2 (.block 1 (.seq (.seq (.seq (.region [.mk (faR 0 (X.t (o z))) (.some (i (o z))) Gd.no [],
   .mk (ldR false 1 (X.t (i (o z)))) (.some (o (i z))) Gd.no [],
   .mk (lenR LnK.str (X.t (o (i z)))) (.some (i (i z))) Gd.no [],
   .mk (binR Tryz.prog EK.no .none true BinOp.gtr (X.t (i (i z))) (X.c (AV.int .i64 8))) (.some (o (o (o z)))) Gd.no [],
   .mk (mvR (X.t (o (o (o z))))) (.some (o (o z))) Gd.no []])
  (.cond (X.t (o (o z)))
  (.exit 1)
  .skip))
  (.seq (.region [.mk (faR 1 (X.t (o z))) (.some (o (i (o z)))) Gd.no [],
   .mk (ldR false 1 (X.t (o (i (o z))))) (.some (i (i (o z)))) Gd.no [],
   .mk (lenR LnK.str (X.t (i (i (o z))))) (.some (o (o (i z)))) Gd.no [],
   .mk (binR Tryz.prog EK.no .none true BinOp.gtr (X.t (o (o (i z)))) (X.c (AV.int .i64 8))) (.some (i (o (i z)))) Gd.no [],
   .mk (mvR (X.t (i (o (i z))))) (.some (i (o (o z)))) Gd.no []])
  (.cond (X.t (i (o (o z))))
  (.exit 2)
  .skip)))
  (.exit 0))))
  (.seq (.seq (.region [.mk (mvR (X.c (AV.bool false))) (.some (i z)) Gd.no []])
  .ret)
  (.exit 0))))
  (.seq (.region [.mk (faR 1 (X.t (o z))) (.some (o (i (i z)))) Gd.no [],
   .mk (ldR false 1 (X.t (o (i (i z))))) (.some (i (i (i z)))) Gd.no [],
   .mk (binR Tryz.prog EK.no .none true BinOp.eql (X.t (i (i (i z)))) (X.c (AV.str []))) (.some (o (o (o (o z))))) Gd.no [],
   .mk (mvR (X.t (o (o (o (o z)))))) (.some (i (o (o (o z))))) Gd.no [],
   .mk (faR 1 (X.t (o z))) (.some (o (i (o (o z))))) (Gd.on (i (o (o (o z)))) false) [],
   .mk (ldR false 1 (X.t (o (i (o (o z)))))) (.some (i (i (o (o z))))) (Gd.on (i (o (o (o z)))) false) [],
   .mk (faR 0 (X.t (o z))) (.some (o (o (i (o z))))) (Gd.on (i (o (o (o z)))) false) [],
   .mk (ldR false 1 (X.t (o (o (i (o z)))))) (.some (i (o (i (o z))))) (Gd.on (i (o (o (o z)))) false) [],
   .mk (binR Tryz.prog EK.no .none false BinOp.gtr (X.t (i (i (o (o z))))) (X.t (i (o (i (o z)))))) (.some (o (i (i (o z))))) (Gd.on (i (o (o (o z)))) false) [],
   .mk (pickR (X.t (i (o (o (o z))))) (X.c (AV.bool true)) (X.t (o (i (i (o z)))))) (.some (i (i (i (o z))))) Gd.no [],
   .mk (mvR (X.t (i (i (i (o z)))))) (.some (i z)) Gd.no []])
  .ret)))
theorem C62ok : (match Tryz.f62.body with | some c => comp Tryz.prog 23 c | none => none) = some C62 := by kernel_rfl
@[go_sem] theorem call62 (args : List AV) (H : Heap) : callC Tryz.prog 62 args H = .call 62 args := callC_ok (by kernel_rfl) args H
theorem R62ok : resKs Tryz.prog Tryz.f62.results.toList = some [(RK.tmp (i z))] := by kernel_rfl

noncomputable def C65L0 : CC :=
  (.seq (.region [.mk (binR Tryz.prog EK.no .none false BinOp.lss (X.t (o (o (o z)))) (X.t (i (i z)))) (.some (i (o (o z)))) Gd.no []])
  (.seq (.cond (X.t (i (o (o z))))
  .skip
  (.exit 0))
  (.seq (.block 1 (.seq (.region [.mk (mvR (X.t (o (o (o z))))) (.some (o (i (o z)))) Gd.no [],
   .mk (iaS 6 (X.t (o (i z))) (X.t (o (o (o z))))) (.some (i (i (o z)))) Gd.no [],
   .mk (ldR true 6 (X.t (i (i (o z))))) (.some (o (o (i z)))) Gd.no [],
   .mk (fun _ H => newC false [(AV.int .i64 0), (AV.int .i64 0), (AV.int .i64 0), (AV.str []), (AV.int .i64 0), AV.nils] H) (.some (i (o z))) Gd.no [],
   .mk (mvR (X.t (o (i (o z))))) (.some (o (o z))) Gd.no [],
   .mk (stR 6 (X.t (i (o z))) (X.t (o (o (i z))))) .none Gd.no []])
  (.block 2 (.seq (.block 5 (.block 4 (.block 3 (.seq (.seq (.seq (.region [.mk (faR 0 (X.t (i (o z)))) (.some (o (i (i z)))) Gd.no [],
   .mk (ldR false 1 (X.t (o (i (i z))))) (.some (i (i (i z)))) Gd.no [],
   .mk (binR Tryz.prog EK.no .none true BinOp.lss (X.t (i (i (i z)))) (X.c (AV.int .i64 0))) (.some (o (o (o (o z))))) Gd.no [],
   .mk (mvR (X.t (o (o (o (o z)))))) (.some (i (o (o (o z))))) Gd.no [],
   .mk (faR 0 (X.t (i (o z)))) (.some (o (i (o (o z))))) (Gd.on (i (o (o (o z)))) false) [],
   .mk (ldR false 1 (X.t (o (i (o (o z)))))) (.some (i (i (o (o z))))) (Gd.on (i (o (o (o z)))) false) [],
   .mk (binR Tryz.prog EK.no .none true BinOp.geq (X.t (i (i (o (o z))))) (X.c (AV.int .i64 3))) (.some (o (o (i (o z))))) (Gd.on (i (o (o (o z)))) false) [],
   .mk (pickR (X.t (i (o (o (o z))))) (X.c (AV.bool true)) (X.t (o (o (i (o z)))))) (.some (i (o (i (o z))))) Gd.no [],
   .mk (mvR (X.t (i (o (i (o z)))))) (.some (i (o (i z)))) Gd.no []])
  (.cond (X.t (i (o (i z))))
  (.exit 3)
  .skip))
  (.seq (.seq (.regionD [.mk (keepH (mvR (X.t (o (o z))))) (.some (i (i (i (o z))))) Gd.no [],
   .mk (keepH (binR Tryz.prog EK.no .none true BinOp.gtr (X.t (i (i (i (o z))))) (X.c (AV.int .i64 0)))) (.some (o (o (o (i z))))) Gd.no [],
   .mk (keepH (mvR (X.t (o (o (o (i z))))))) (.some (i (o (o (i z))))) Gd.no [],
   .mk (keepH (faR 0 (X.t (i (o z))))) (.some (o (o (o (o (o z)))))) (Gd.on (i (o (o (i z)))) true) [],
   .mk (keepH (ldR false 1 (X.t (o (o (o (o (o z)))))))) (.some (i (o (o (o (o z)))))) (Gd.on (i (o (o (i z)))) true) [],
   .mk (keepH (mvR (X.t (o (o z))))) (.some (i (i (o (i z))))) (Gd.on (i (o (o (i z)))) true) [],
   .mk (keepH (binR Tryz.prog EK.no .none true BinOp.sub (X.t (i (i (o (i z))))) (X.c (AV.int .i64 1)))) (.some (o (o (i (i z))))) (Gd.on (i (o (o (i z)))) true) [],
   .mk (keepH (mvR (X.t z))) (.some (o (i (o (i z))))) (Gd.on (i (o (o (i z)))) true) [],
   .mk (keepH (iaS 6 (X.t (o (i (o (i z))))) (X.t (o (o (i (i z))))))) (.some (i (o (i (i z))))) (Gd.on (i (o (o (i z)))) true) [],
   .mk (keepH (faR 0 (X.t (i (o (i (i z))))))) (.some (o (i (i (i z))))) (Gd.on (i (o (o (i z)))) true) [],
   .mk (keepH (ldR false 1 (X.t (o (i (i (i z))))))) (.some (i (i (i (i z))))) (Gd.on (i (o (o (i z)))) true) [],
   .mk (keepH (binR Tryz.prog EK.no .none false BinOp.geq (X.t (i (i (i (i z))))) (X.t (i (o (o (o (o z)))))))) (.some (o (i (o (o (o z)))))) (Gd.on (i (o (o (i z)))) true) [],
   .mk (keepH (pickR (X.t (i (o (o (i z))))) (X.t (o (i (o (o (o z)))))) (X.c (AV.bool false)))) (.some (i (i (o (o (o z)))))) Gd.no [],
   .mk (mvR (X.t (i (i (o (o (o z))))))) (.some (o (i (i (o z))))) Gd.no []])
  (.cond (X.t (o (i (i (o z)))))
  (.exit 4)
  .skip))
  (.seq (.region [.mk (faR 1 (X.t (i (o z)))) (.some (i (o (i (o (o z)))))) Gd.no [],
   .mk (ldR false 1 (X.t (i (o (i (o (o z))))))) (.some (o (i (i (o (o z)))))) Gd.no [],
   .mk (binR Tryz.prog EK.no .none true BinOp.lss (X.t (o (i (i (o (o z)))))) (X.c (AV.int .i64 1))) (.some (i (i (i (o (o z)))))) Gd.no [],
   .mk (mvR (X.t (i (i (i (o (o z))))))) (.some (o (o (o (i (o z)))))) Gd.no [],
   .mk (faR 1 (X.t (i (o z)))) (.some (i (o (o (i (o z)))))) (Gd.on (o (o (o (i (o z))))) false) [],
   .mk (ldR false 1 (X.t (i (o (o (i (o z))))))) (.some (o (i (o (i (o z)))))) (Gd.on (o (o (o (i (o z))))) false) [],
   .mk (binR Tryz.prog EK.no .none true BinOp.gtr (X.t (o (i (o (i (o z)))))) (X.c (AV.int .i64 1000000000000))) (.some (i (i (o (i (o z)))))) (Gd.on (o (o (o (i (o z))))) false) [],
   .mk (pickR (X.t (o (o (o (i (o z)))))) (X.c (AV.bool true)) (X.t (i (i (o (i (o z))))))) (.some (o (o (i (i (o z)))))) Gd.no [],
   .mk (mvR (X.t (o (o (i (i (o z))))))) (.some (i (o (i (i (o z)))))) Gd.no [],
   .mk (faR 2 (X.t (i (o z)))) (.some (o (i (i (i (o z)))))) (Gd.on (i (o (i (i (o z))))) false) [],
   .mk (ldR true 4 (X.t (o (i (i (i (o z))))))) (.some (i (i (i (i (o z)))))) (Gd.on (i (o (i (i (o z))))) false) [],
   .mk (callS Tryz.prog 119 [(X.t (i (i (i (i (o z))))))]) (.some (o (o (o (o (i z)))))) (Gd.on (i (o (i (i (o z))))) false) [],
   .mk (binR Tryz.prog EK.no .none true BinOp.eql (X.t (o (o (o (o (i z)))))) (X.c (AV.str []))) (.some (i (o (o (o (i z)))))) (Gd.on (i (o (i (i (o z))))) false) [],
   .mk (pickR (X.t (i (o (i (i (o z)))))) (X.c (AV.bool true)) (X.t (i (o (o (o (i z))))))) (.some (o (i (o (o (i z)))))) Gd.no [],
   .mk (mvR (X.t (o (i (o (o (i z))))))) (.some (o (o (i (o (o z)))))) Gd.no []])
  (.cond (X.t (o (o (i (o (o z))))))
  (.exit 5)
  .skip))))
  (.exit 2)))))
  (.seq (.seq (.region [.mk (mvR (X.c (AV.bool false))) (.some (i z)) Gd.no []])
  .ret)
  (.exit 2))))))
  (.region [.mk (binR Tryz.prog EK.no .none true BinOp.add (X.t (o (o (o z)))) (X.c (AV.int .i64 1))) (.some (i (i (o (o (i z)))))) Gd.no [],
   .mk (mvR (X.t (i (i (o (o (i z))))))) (.some (o (o (o z)))) Gd.no []]))))
noncomputable def C65 : CC :=
  (.seq (.region [.mk (mvR (X.c (AV.bool false))) (.some (i z)) Gd.no []])
  (.seq (.seq (.region [.mk (mvR (X.t z)) (.some (o (i z))) Gd.no [],
   .mk (lenR LnK.slice (X.t (o (i z)))) (.some (i (i z))) Gd.no [],
   .mk (mvR (X.c (AV.int .i64 0))) (.some (o (o (o z)))) Gd.no []])
  (.block 0 (.loop C65L0)))
  (.seq (.region [.mk (mvR (X.c (AV.bool true))) (.some (i z)) Gd.no []])
  .ret)))
theorem C65ok : (match Tryz.f65.body with | some c => comp Tryz.prog 51 c | none => none) = some C65 := by kernel_rfl
@[go_sem] theorem call65 (args : List AV) (H : Heap) : callC Tryz.prog 65 args H = .call 65 args := callC_ok (by kernel_rfl) args H
theorem R65ok : resKs Tryz.prog Tryz.f65.results.toList = some [(RK.tmp (i z))] := by kernel_rfl

noncomputable def C66L0 : CC :=
  (.seq (.region [.mk (binR Tryz.prog EK.no .none false BinOp.lss (X.t (i (o (i z)))) (X.t (o (o (i z))))) (.some (o (i (i z)))) Gd.no []])
  (.seq (.cond (X.t (o (i (i z))))
  .skip
  (.exit 0))
  (.seq (.block 1 (.seq (.region [.mk (iaS 6 (X.t (i (i (o z)))) (X.t (i (o (i z))))) (.some (i (i (i z)))) Gd.no [],
   .mk (ldR true 6 (X.t (i (i (i z))))) (.some (o (o (o (o z))))) Gd.no [],
   .mk (fun _ H => newC false [(AV.int .i64 0), (AV.int .i64 0), (AV.int .i64 0), (AV.str []), (AV.int .i64 0), AV.nils] H) (.some (o (i (o z)))) Gd.no [],
   .mk (stR 6 (X.t (o (i (o z)))) (X.t (o (o (o (o z)))))) .none Gd.no []])
  (.block 2 (.seq (.region [.mk (faR 0 (X.t (o (i (o z))))) (.some (i (i (o (o z))))) Gd.no [],
   .mk (ldR false 1 (X.t (i (i (o (o z)))))) (.some (o (o (i (o z))))) Gd.no [],
   .mk (mvR (X.t (o z))) (.some (i (o (i (o z))))) Gd.no [],
   .mk (binR Tryz.prog EK.no .none false BinOp.neq (X.t (o (o (i (o z))))) (X.t (i (o (i (o z)))))) (.some (o (i (i (o z))))) Gd.no [],
   .mk (mvR (X.t (o (i (i (o z)))))) (.some (i (i (i (o z))))) Gd.no [],
   .mk (mvR (X.t (i z))) (.some (o (o (o (i z))))) (Gd.on (i (i (i (o z)))) false) [],
   .mk (faR 1 (X.t (o (i (o z))))) (.some (i (o (o (i z))))) (Gd.on (i (i (i (o z)))) false) [],
   .mk (ldR false 1 (X.t (i (o (o (i z)))))) (.some (o (i (o (i z))))) (Gd.on (i (i (i (o z)))) false) [],
   .mk (binR Tryz.prog EK.no .none false BinOp.gtr (X.t (o (o (o (i z))))) (X.t (o (i (o (i z)))))) (.some (i (i (o (i z))))) (Gd.on (i (i (i (o z)))) false) [],
   .mk (pickR (X.t (i (i (i (o z))))) (X.c (AV.bool true)) (X.t (i (i (o (i z)))))) (.some (o (o (i (i z))))) Gd.no [],
   .mk (mvR (X.t (o (o (i (i z)))))) (.some (o (i (o (o z))))) Gd.no []])
  (.cond (X.t (o (i (o (o z)))))
  .skip
  (.seq (.region [.mk (mvR (X.t (i z))) (.some (o (i (i (i z))))) Gd.no [],
   .mk (faR 1 (X.t (o (i (o z))))) (.some (i (i (i (i z))))) Gd.no [],
   .mk (ldR false 1 (X.t (i (i (i (i z)))))) (.some (o (o (o (o (o z)))))) Gd.no [],
   .mk (binR Tryz.prog EK.no .none false BinOp.eql (X.t (o (i (i (i z))))) (X.t (o (o (o (o (o z))))))) (.some (i (o (o (o (o z)))))) Gd.no [],
   .mk (mvR (X.t (i (o (o (o (o z))))))) (.some (i (o (i (i z))))) Gd.no []])
  (.cond (X.t (i (o (i (i z)))))
  (.seq (.region [.mk (faR 2 (X.t (o (i (o z))))) (.some (o (i (o (o (o z)))))) Gd.no [],
   .mk (faR 3 (X.t (o (i (o (o (o z))))))) (.some (i (i (o (o (o z)))))) Gd.no [],
   .mk (ldR false 1 (X.t (i (i (o (o (o z))))))) (.some (o (o (i (o (o z)))))) Gd.no [],
   .mk (callS Tryz.prog 120 [(X.t (o (o (i (o (o z))))))]) (.some (i (o (i (o (o z)))))) Gd.no [],
   .mk (faR 2 (X.t (o (i (o z))))) (.some (o (i (i (o (o z)))))) Gd.no [],
   .mk (faR 3 (X.t (o (i (i (o (o z))))))) (.some (i (i (i (o (o z)))))) Gd.no [],
   .mk (stR 1 (X.t (i (i (i (o (o z)))))) (X.t (i (o (i (o (o z))))))) .none Gd.no []])
  (.seq (.region [.mk (faR 2 (X.t (o (i (o z))))) (.some (o (o (o (i (o z)))))) Gd.no [],
   .mk (ldR true 4 (X.t (o (o (o (i (o z))))))) (.some (i (o (o (i (o z)))))) Gd.no [],
   .mk (stR 4 (X.t (i (i z))) (X.t (i (o (o (i (o z))))))) .none Gd.no [],
   .mk (mvR (X.c (AV.int .i64 1))) (.some (o (o (o z)))) Gd.no []])
  .ret))
  (.seq (.region [.mk (buildR [(AV.int .i64 0), (AV.str []), (AV.int .i64 0), AV.nils] []) (.some (i (o (o (o z))))) Gd.no [],
   .mk (stR 4 (X.t (i (i z))) (X.t (i (o (o (o z)))))) .none Gd.no [],
   .mk (mvR (X.c (AV.int .i64 2))) (.some (o (o (o z)))) Gd.no []])
  .ret))))))))
  (.region [.mk (binR Tryz.prog EK.no .none true BinOp.add (X.t (i (o (i z)))) (X.c (AV.int .i64 1))) (.some (o (i (o (i (o z)))))) Gd.no [],
   .mk (mvR (X.t (o (i (o (i (o z))))))) (.some (i (o (i z)))) Gd.no []]))))
noncomputable def C66 : CC :=
  (.seq (.region [.mk (fun _ H => newC false [(AV.int .i64 0), (AV.str []), (AV.int .i64 0), AV.nils] H) (.some (i (i z))) Gd.no [],
   .mk (mvR (X.c (AV.int .i64 0))) (.some (o (o (o z)))) Gd.no []])
  (.seq (.seq (.region [.mk (mvR (X.t z)) (.some (i (i (o z)))) Gd.no [],
   .mk (lenR LnK.slice (X.t (i (i (o z))))) (.some (o (o (i z)))) Gd.no [],
   .mk (mvR (X.c (AV.int .i64 0))) (.some (i (o (i z)))) Gd.no []])
  (.block 0 (.loop C66L0)))
  (.seq (.region [.mk (buildR [(AV.int .i64 0), (AV.str []), (AV.int .i64 0), AV.nils] []) (.some (i (i (o (i (o z)))))) Gd.no [],
   .mk (stR 4 (X.t (i (i z))) (X.t (i (i (o (i (o z))))))) .none Gd.no [],
   .mk (mvR (X.c (AV.int .i64 0))) (.some (o (o (o z)))) Gd.no []])
  .ret)))
theorem C66ok : (match Tryz.f66.body with | some c => comp Tryz.prog 43 c | none => none) = some C66 := by kernel_rfl
@[go_sem] theorem call66 (args : List AV) (H : Heap) : callC Tryz.prog 66 args H = .call 66 args := callC_ok (by kernel_rfl) args H
theorem R66ok : resKs Tryz.prog Tryz.f66.results.toList = some [(RK.cell (i (i z)) true 4), (RK.tmp (o (o (o z))))] := by kernel_rfl

noncomputable def C68L0 : CC :=
  (.seq (.seq (.regionD [.mk (keepH (mvR (X.t (o (i z))))) (.some (i (i (o z)))) Gd.no [],
   .mk (keepH (lenR LnK.slice (X.t (i (i (o z)))))) (.some (o (o (i z)))) Gd.no [],
   .mk (keepH (mvR (X.t (i (i z))))) (.some (o (i (o z)))) Gd.no [],
   .mk (keepH (binR Tryz.prog EK.no .none false BinOp.lss (X.t (o (i (o z)))) (X.t (o (o (i z)))))) (.some (i (o (i z)))) Gd.no [],
   .mk (keepH (mvR (X.t (i (o (i z)))))) (.some (o (i (i z)))) Gd.no [],
   .mk (keepH (faR 0 (X.t (o (o z))))) (.some (o (o (i (o z))))) (Gd.on (o (i (i z))) true) [],
   .mk (keepH (ldR false 1 (X.t (o (o (i (o z))))))) (.some (i (o (i (o z))))) (Gd.on (o (i (i z))) true) [],
   .mk (keepH (mvR (X.t (i (i z))))) (.some (o (o (o (o z))))) (Gd.on (o (i (i z))) true) [],
   .mk (keepH (mvR (X.t (o (i z))))) (.some (i (i (i z)))) (Gd.on (o (i (i z))) true) [],
   .mk (keepH (iaS 6 (X.t (i (i (i z)))) (X.t (o (o (o (o z))))))) (.some (i (o (o (o z))))) (Gd.on (o (i (i z))) true) [],
   .mk (keepH (faR 0 (X.t (i (o (o (o z))))))) (.some (o (i (o (o z))))) (Gd.on (o (i (i z))) true) [],
   .mk (keepH (ldR false 1 (X.t (o (i (o (o z))))))) (.some (i (i (o (o z))))) (Gd.on (o (i (i z))) true) [],
   .mk (keepH (binR Tryz.prog EK.no .none false BinOp.lss (X.t (i (i (o (o z))))) (X.t (i (o (i (o z))))))) (.some (o (i (i (o z))))) (Gd.on (o (i (i z))) true) [],
   .mk (keepH (pickR (X.t (o (i (i z)))) (X.t (o (i (i (o z))))) (X.c (AV.bool false)))) (.some (i (i (i (o z))))) Gd.no []])
  (.cond (X.t (i (i (i (o z)))))
  .skip
  (.exit 0)))
  (.block 1 (.region [.mk (mvR (X.t (i (i z)))) (.some (o (o (o (i z))))) Gd.no [],
   .mk (binR Tryz.prog EK.no .none true BinOp.add (X.t (o (o (o (i z))))) (X.c (AV.int .i64 1))) (.some (i (o (o (i z))))) Gd.no [],
   .mk (mvR (X.t (i (o (o (i z)))))) (.some (i (i z))) Gd.no []])))
noncomputable def C68 : CC :=
  (.seq (.region [.mk (boxR false (X.t (o z))) (.some (o (o z))) Gd.no [],
   .mk (mvR (X.c AV.nils)) (.some (i (o z))) Gd.no []])
  (.seq (.region [.mk (mvR (X.t z)) (.some (o (o (o z)))) Gd.no [],
   .mk (callS Tryz.prog 74 [(X.t (o (o (o z))))]) (.some (i (o (o z)))) Gd.no [],
   .mk (mvR (X.t (i (o (o z))))) (.some (o (i z))) Gd.no []])
  (.seq (.region [.mk (mvR (X.c (AV.int .i64 0))) (.some (i (i z))) Gd.no []])
  (.seq (.block 0 (.loop C68L0))
  (.seq (.seq (.regionD [.mk (keepH (mvR (X.t (o (i z))))) (.some (i (i (o (i z))))) Gd.no [],
   .mk (keepH (lenR LnK.slice (X.t (i (i (o (i z))))))) (.some (o (o (i (i z))))) Gd.no [],
   .mk (keepH (mvR (X.t (i (i z))))) (.some (o (i (o (i z))))) Gd.no [],
   .mk (keepH (binR Tryz.prog EK.no .none false BinOp.eql (X.t (o (i (o (i z))))) (X.t (o (o (i (i z))))))) (.some (i (o (i (i z))))) Gd.no [],
   .mk (keepH (mvR (X.t (i (o (i (i z))))))) (.some (o (i (i (i z))))) Gd.no [],
   .mk (keepH (faR 0 (X.t (o (o z))))) (.some (o (o (i (o (o z)))))) (Gd.on (o (i (i (i z)))) false) [],
   .mk (keepH (ldR false 1 (X.t (o (o (i (o (o z)))))))) (.some (i (o (i (o (o z)))))) (Gd.on (o (i (i (i z)))) false) [],
   .mk (keepH (mvR (X.t (i (i z))))) (.some (o (o (o (o (o z)))))) (Gd.on (o (i (i (i z)))) false) [],
   .mk (keepH (mvR (X.t (o (i z))))) (.some (i (i (i (i z))))) (Gd.on (o (i (i (i z)))) false) [],
   .mk (keepH (iaS 6 (X.t (i (i (i (i z))))) (X.t (o (o (o (o (o z)))))))) (.some (i (o (o (o (o z)))))) (Gd.on (o (i (i (i z)))) false) [],
   .mk (keepH (faR 0 (X.t (i (o (o (o (o z)))))))) (.some (o (i (o (o (o z)))))) (Gd.on (o (i (i (i z)))) false) [],
   .mk (keepH (ldR false 1 (X.t (o (i (o (o (o z)))))))) (.some (i (i (o (o (o z)))))) (Gd.on (o (i (i (i z)))) false) [],
   .mk (keepH (binR Tryz.prog EK.no .none false BinOp.neq (X.t (i (i (o (o (o z)))))) (X.t (i (o (i (o (o z)))))))) (.some (o (i (i (o (o z)))))) (Gd.on (o (i (i (i z)))) false) [],
   .mk (keepH (pickR (X.t (o (i (i (i z))))) (X.c (AV.bool true)) (X.t (o (i (i (o (o z)))))))) (.some (i (i (i (o (o z)))))) Gd.no []])
  (.cond (X.t (i (i (i (o (o z))))))
  (.seq (.region [.mk (mvR (X.t (o (i z)))) (.some (o (o (o (i (o z)))))) Gd.no [],
   .mk (mvR (X.t (i (i z)))) (.some (i (o (o (i (o z)))))) Gd.no [],
   .mk (ldR true 6 (X.t (o (o z)))) (.some (o (i (o (i (o z)))))) Gd.no [],
   .mk (bslR 6 1 [(AV.int .i64 0), (AV.int .i64 0), (AV.int .i64 0), (AV.str []), (AV.int .i64 0), AV.nils] [(0, (X.t (o (i (o (i (o z)))))))]) (.some (i (i (o (i (o z)))))) Gd.no [],
   .mk (callS Tryz.prog 121 [(X.t (o (o (o (i (o z)))))), (X.t (i (o (o (i (o z)))))), (X.t (i (i (o (i (o z))))))]) (.some (o (o (i (i (o z)))))) Gd.no [],
   .mk (mvR (X.t (o (o (i (i (o z))))))) (.some (i (o z))) Gd.no []])
  .ret)
  .skip))
  (.seq (.seq (.regionD [.mk (keepH (mvR (X.t (i (i z))))) (.some (o (o (o (o (i z)))))) Gd.no [],
   .mk (keepH (mvR (X.t (o (i z))))) (.some (i (i (i (i (o z)))))) Gd.no [],
   .mk (keepH (iaS 6 (X.t (i (i (i (i (o z)))))) (X.t (o (o (o (o (i z)))))))) (.some (i (o (o (o (i z)))))) Gd.no [],
   .mk (keepH (faR 1 (X.t (i (o (o (o (i z)))))))) (.some (o (i (o (o (i z)))))) Gd.no [],
   .mk (keepH (ldR false 1 (X.t (o (i (o (o (i z)))))))) (.some (i (i (o (o (i z)))))) Gd.no [],
   .mk (keepH (faR 1 (X.t (o (o z))))) (.some (i (o (i (i (o z)))))) Gd.no [],
   .mk (keepH (ldR false 1 (X.t (i (o (i (i (o z)))))))) (.some (o (i (i (i (o z)))))) Gd.no [],
   .mk (keepH (binR Tryz.prog EK.no .none false BinOp.geq (X.t (o (i (i (i (o z)))))) (X.t (i (i (o (o (i z)))))))) (.some (o (o (i (o (i z)))))) Gd.no []])
  (.cond (X.t (o (o (i (o (i z))))))
  (.region [.mk (mvR (X.t (o (i z)))) (.some (i (o (i (o (i z)))))) Gd.no [],
   .mk (mvR (X.t (i (i z)))) (.some (o (i (i (o (i z)))))) Gd.no [],
   .mk (ldR true 6 (X.t (o (o z)))) (.some (i (i (i (o (i z)))))) Gd.no [],
   .mk (iaS 6 (X.t (i (o (i (o (i z)))))) (X.t (o (i (i (o (i z))))))) (.some (o (o (o (i (i z)))))) Gd.no [],
   .mk (stR 6 (X.t (o (o (o (i (i z)))))) (X.t (i (i (i (o (i z))))))) .none Gd.no []])
  .skip))
  (.seq (.region [.mk (mvR (X.t (o (i z)))) (.some (i (o (o (i (i z)))))) Gd.no [],
   .mk (mvR (X.t (i (o (o (i (i z))))))) (.some (i (o z))) Gd.no []])
  .ret)))))))
theorem C68ok : (match Tryz.f68.body with | some c => comp Tryz.prog 57 c | none => none) = some C68 := by kernel_rfl
@[go_sem] theorem call68 (args : List AV) (H : Heap) : callC Tryz.prog 68 args H = .call 68 args := callC_ok (by kernel_rfl) args H
theorem R68ok : resKs Tryz.prog Tryz.f68.results.toList = some [(RK.tmp (i (o z)))] := by kernel_rfl

noncomputable def C73L0 : CC :=
  (.seq (.region [.mk (binR Tryz.prog EK.no .none false BinOp.lss (X.t (i (i (o z)))) (X.t (o (i (o z))))) (.some (o (o (i z)))) Gd.no []])
  (.seq (.cond (X.t (o (o (i z))))
  .skip
  (.exit 0))
  (.seq (.block 1 (.seq (.region [.mk (iaS 5 (X.t (i (o (o z)))) (X.t (i (i (o z))))) (.some (i (o (i z)))) Gd.no [],
   .mk (ldR true 5 (X.t (i (o (i z))))) (.some (o (i (i z)))) Gd.no [],
   .mk (fun _ H => newC false [(AV.str []), (AV.str []), (AV.int .i64 0), (AV.bool false), (AV.int .i64 0)] H) (.some (o (o (o z)))) Gd.no [],
   .mk (stR 5 (X.t (o (o (o z)))) (X.t (o (i (i z))))) .none Gd.no []])
  (.seq (.region [.mk (ldR true 2 (X.t (o (o z)))) (.some (i (i (i z)))) Gd.no [],
   .mk (faR 0 (X.t (o (o (o z))))) (.some (o (o (o (o z))))) Gd.no [],
   .mk (ldR false 1 (X.t (o (o (o (o z)))))) (.some (i (o (o (o z))))) Gd.no [],
   .mk (callS Tryz.prog 61 [(X.t (i (i (i z)))), (X.t (i (o (o (o z)))))]) (.some (o (i (o (o z))))) Gd.no []])
  (.cond (X.t (o (i (o (o z)))))
  (.region [.mk (mvR (X.t (o (i z)))) (.some (i (i (o (o z))))) Gd.no [],
   .mk (ldR true 5 (X.t (o (o (o z))))) (.some (o (o (i (o z))))) Gd.no [],
   .mk (bslR 5 1 [(AV.str []), (AV.str []), (AV.int .i64 0), (AV.bool false), (AV.int .i64 0)] [(0, (X.t (o (o (i (o z))))))]) (.some (i (o (i (o z))))) Gd.no [],
   .mk (appR 5 56 (X.t (i (i (o (o z))))) (X.t (i (o (i (o z)))))) (.some (o (i (i (o z))))) Gd.no [],
   .mk (mvR (X.t (o (i (i (o z)))))) (.some (o (i z))) Gd.no []])
  .skip))))
  (.region [.mk (binR Tryz.prog EK.no .none true BinOp.add (X.t (i (i (o z)))) (X.c (AV.int .i64 1))) (.some (i (i (i (o z))))) Gd.no [],
   .mk (mvR (X.t (i (i (i (o z)))))) (.some (i (i (o z)))) Gd.no []]))))
noncomputable def C73 : CC :=
  (.seq (.region [.mk (boxR false (X.t (o z))) (.some (o (o z))) Gd.no [],
   .mk (mvR (X.c AV.nils)) (.some (i (o z))) Gd.no []])
  (.seq (.region [.mk (mvR (X.c AV.nils)) (.some (o (i z))) Gd.no []])
  (.seq (.seq (.region [.mk (mvR (X.t z)) (.some (i (o (o z)))) Gd.no [],
   .mk (lenR LnK.slice (X.t (i (o (o z))))) (.some (o (i (o z)))) Gd.no [],
   .mk (mvR (X.c (AV.int .i64 0))) (.some (i (i (o z)))) Gd.no []])
  (.block 0 (.loop C73L0)))
  (.seq (.region [.mk (mvR (X.t (o (i z)))) (.some (o (o (o (i z))))) Gd.no [],
   .mk (mvR (X.t (o (o (o (i z)))))) (.some (i (o z))) Gd.no []])
  .ret))))
theorem C73ok : (match Tryz.f73.body with | some c => comp Tryz.prog 24 c | none => none) = some C73 := by kernel_rfl
@[go_sem] theorem call73 (args : List AV) (H : Heap) : callC Tryz.prog 73 args H = .call 73 args := callC_ok (by kernel_rfl) args H
theorem R73ok : resKs Tryz.prog Tryz.f73.results.toList = some [(RK.tmp (i (o z)))] := by kernel_rfl

@[go_sem] theorem call74 (args : List AV) (H : Heap) : callC Tryz.prog 74 args H = .call 74 args := callC_ok (by kernel_rfl) args H
@[go_sem] theorem call77 (args : List AV) (H : Heap) : callC Tryz.prog 77 args H = .call 77 args := callC_ok (by kernel_rfl) args H
@[go_sem] theorem call80 (args : List AV) (H : Heap) : callC Tryz.prog 80 args H = .call 80 args := callC_ok (by kernel_rfl) args H
noncomputable def C87L0 : CC :=
  (.seq (.seq (.region [.mk (mvR (X.t (o (i z)))) (.some (i (i (o (o (o z)))))) Gd.no [],
   .mk (faR 3 (X.t (i z))) (.some (o (o (i (o (o z)))))) Gd.no [],
   .mk (ldR false 1 (X.t (o (o (i (o (o z))))))) (.some (i (o (i (o (o z)))))) Gd.no [],
   .mk (lenR LnK.slice (X.t (i (o (i (o (o z))))))) (.some (o (i (i (o (o z)))))) Gd.no [],
   .mk (binR Tryz.prog EK.no .none false BinOp.lss (X.t (i (i (o (o (o z)))))) (X.t (o (i (i (o (o z))))))) (.some (i (i (i (o (o z)))))) Gd.no []])
  (.cond (X.t (i (i (i (o (o z))))))
  .skip
  (.exit 0)))
  (.seq (.block 1 (.seq (.regionD [.mk (keepH (mvR (X.t (o (i z))))) (.some (i (o (o (o (i z)))))) Gd.no [],
   .mk (keepH (faR 3 (X.t (o (o z))))) (.some (i (i (i (i (o z)))))) Gd.no [],
   .mk (keepH (ldR false 1 (X.t (i (i (i (i (o z)))))))) (.some (o (o (o (o (i z)))))) Gd.no [],
   .mk (keepH (iaS 3 (X.t (o (o (o (o (i z)))))) (X.t (i (o (o (o (i z)))))))) (.some (o (i (o (o (i z)))))) Gd.no [],
   .mk (keepH (ldR true 3 (X.t (o (i (o (o (i z)))))))) (.some (i (i (o (o (i z)))))) Gd.no [],
   .mk (keepH (mvR (X.t (o (i z))))) (.some (o (o (i (i (o z)))))) Gd.no [],
   .mk (keepH (faR 3 (X.t (i z)))) (.some (o (i (o (i (o z)))))) Gd.no [],
   .mk (keepH (ldR false 1 (X.t (o (i (o (i (o z)))))))) (.some (i (i (o (i (o z)))))) Gd.no [],
   .mk (keepH (iaS 3 (X.t (i (i (o (i (o z)))))) (X.t (o (o (i (i (o z)))))))) (.some (i (o (i (i (o z)))))) Gd.no [],
   .mk (keepH (ldR true 3 (X.t (i (o (i (i (o z)))))))) (.some (o (i (i (i (o z)))))) Gd.no [],
   .mk (keepH (binR Tryz.prog EK.no (.some [LK.str, LK.str, LK.int]) false BinOp.neq (X.t (o (i (i (i (o z)))))) (X.t (i (i (o (o (i z)))))))) (.some (o (o (i (o (i z)))))) Gd.no []])
  (.cond (X.t (o (o (i (o (i z))))))
  (.seq (.region [.mk (mvR (X.c (AV.bool false))) (.some (i (o z))) Gd.no []])
  .ret)
  .skip)))
  (.region [.mk (mvR (X.t (o (i z)))) (.some (o (o (o (i (o z)))))) Gd.no [],
   .mk (binR Tryz.prog EK.no .none true BinOp.add (X.t (o (o (o (i (o z)))))) (X.c (AV.int .i64 1))) (.some (i (o (o (i (o z)))))) Gd.no [],
   .mk (mvR (X.t (i (o (o (i (o z))))))) (.some (o (i z))) Gd.no []])))
noncomputable def C87 : CC :=
  (.seq (.region [.mk (boxR false (X.t z)) (.some (i z)) Gd.no [],
   .mk (boxR false (X.t (o z))) (.some (o (o z))) Gd.no [],
   .mk (mvR (X.c (AV.bool false))) (.some (i (o z))) Gd.no []])
  (.seq (.seq (.region [.mk (faR 0 (X.t (i z))) (.some (i (i z))) Gd.no [],
   .mk (ldR false 1 (X.t (i (i z)))) (.some (o (o (o z)))) Gd.no [],
   .mk (faR 0 (X.t (o (o z)))) (.some (i (o (o z)))) Gd.no [],
   .mk (ldR false 1 (X.t (i (o (o z))))) (.some (o (i (o z)))) Gd.no [],
   .mk (binR Tryz.prog EK.no .none false BinOp.neq (X.t (o (o (o z)))) (X.t (o (i (o z))))) (.some (i (i (o z)))) Gd.no [],
   .mk (mvR (X.t (i (i (o z))))) (.some (o (o (i z)))) Gd.no [],
   .mk (faR 1 (X.t (i z))) (.some (i (o (i z)))) (Gd.on (o (o (i z))) false) [],
   .mk (ldR false 1 (X.t (i (o (i z))))) (.some (o (i (i z)))) (Gd.on (o (o (i z))) false) [],
   .mk (faR 1 (X.t (o (o z)))) (.some (i (i (i z)))) (Gd.on (o (o (i z))) false) [],
   .mk (ldR false 1 (X.t (i (i (i z))))) (.some (o (o (o (o z))))) (Gd.on (o (o (i z))) false) [],
   .mk (binR Tryz.prog EK.no .none false BinOp.neq (X.t (o (i (i z)))) (X.t (o (o (o (o z)))))) (.some (i (o (o (o z))))) (Gd.on (o (o (i z))) false) [],
   .mk (pickR (X.t (o (o (i z)))) (X.c (AV.bool true)) (X.t (i (o (o (o z)))))) (.some (o (i (o (o z))))) Gd.no [],
   .mk (mvR (X.t (o (i (o (o z)))))) (.some (i (i (o (o z))))) Gd.no [],
   .mk (faR 2 (X.t (i z))) (.some (o (o (i (o z))))) (Gd.on (i (i (o (o z)))) false) [],
   .mk (ldR false 1 (X.t (o (o (i (o z)))))) (.some (i (o (i (o z))))) (Gd.on (i (i (o (o z)))) false) [],
   .mk (faR 2 (X.t (o (o z)))) (.some (o (i (i (o z))))) (Gd.on (i (i (o (o z)))) false) [],
   .mk (ldR false 1 (X.t (o (i (i (o z)))))) (.some (i (i (i (o z))))) (Gd.on (i (i (o (o z)))) false) [],
   .mk (binR Tryz.prog EK.no .none false BinOp.neq (X.t (i (o (i (o z))))) (X.t (i (i (i (o z)))))) (.some (o (o (o (i z))))) (Gd.on (i (i (o (o z)))) false) [],
   .mk (pickR (X.t (i (i (o (o z))))) (X.c (AV.bool true)) (X.t (o (o (o (i z)))))) (.some (i (o (o (i z))))) Gd.no [],
   .mk (mvR (X.t (i (o (o (i z)))))) (.some (o (i (o (i z))))) Gd.no [],
   .mk (faR 3 (X.t (i z))) (.some (i (i (o (i z))))) (Gd.on (o (i (o (i z)))) false) [],
   .mk (ldR false 1 (X.t (i (i (o (i z)))))) (.some (o (o (i (i z))))) (Gd.on (o (i (o (i z)))) false) [],
   .mk (lenR LnK.slice (X.t (o (o (i (i z)))))) (.some (i (o (i (i z))))) (Gd.on (o (i (o (i z)))) false) [],
   .mk (faR 3 (X.t (o (o z)))) (.some (o (i (i (i z))))) (Gd.on (o (i (o (i z)))) false) [],
   .mk (ldR false 1 (X.t (o (i (i (i z)))))) (.some (i (i (i (i z))))) (Gd.on (o (i (o (i z)))) false) [],
   .mk (lenR LnK.slice (X.t (i (i (i (i z)))))) (.some (o (o (o (o (o z)))))) (Gd.on (o (i (o (i z)))) false) [],
   .mk (binR Tryz.prog EK.no .none false BinOp.neq (X.t (i (o (i (i z))))) (X.t (o (o (o (o (o z))))))) (.some (i (o (o (o (o z)))))) (Gd.on (o (i (o (i z)))) false) [],
   .mk (pickR (X.t (o (i (o (i z))))) (X.c (AV.bool true)) (X.t (i (o (o (o (o z))))))) (.some (o (i (o (o (o z)))))) Gd.no []])
  (.cond (X.t (o (i (o (o (o z))))))
  (.seq (.region [.mk (mvR (X.c (AV.bool false))) (.some (i (o z))) Gd.no []])
  .ret)
  .skip))
  (.seq (.seq (.region [.mk (mvR (X.c (AV.int .i64 0))) (.some (o (i z))) Gd.no []])
  (.block 0 (.loop C87L0)))
  (.seq (.region [.mk (mvR (X.c (AV.bool true))) (.some (i (o z))) Gd.no []])
  .ret))))
theorem C87ok : (match Tryz.f87.body with | some c => comp Tryz.prog 52 c | none => none) = some C87 := by kernel_rfl
@[go_sem] theorem call87 (args : List AV) (H : Heap) : callC Tryz.prog 87 args H = .call 87 args := callC_ok (by kernel_rfl) args H
theorem R87ok : resKs Tryz.prog Tryz.f87.results.toList = some [(RK.tmp (i (o z)))] := by kernel_rfl

noncomputable def C105 : CC :=
  (.seq (.region [.mk (mvR (X.c (AV.bool false))) (.some (i z)) Gd.no []])
  (.seq (.region [.mk (mvR (X.t z)) (.some (o (o z))) Gd.no [],
   .mk (binR Tryz.prog EK.no .none true BinOp.neq (X.t (o (o z))) (X.c (AV.str []))) (.some (i (o z))) Gd.no [],
   .mk (mvR (X.t (i (o z)))) (.some (o (i z))) Gd.no [],
   .mk (mvR (X.t z)) (.some (i (i z))) (Gd.on (o (i z)) true) [],
   .mk (lenR LnK.str (X.t (i (i z)))) (.some (o (o (o z)))) (Gd.on (o (i z)) true) [],
   .mk (binR Tryz.prog EK.no .none true BinOp.leq (X.t (o (o (o z)))) (X.c (AV.int .i64 8))) (.some (i (o (o z)))) (Gd.on (o (i z)) true) [],
   .mk (pickR (X.t (o (i z))) (X.t (i (o (o z)))) (X.c (AV.bool false))) (.some (o (i (o z)))) Gd.no [],
   .mk (mvR (X.t (o (i (o z))))) (.some (i z)) Gd.no []])
  .ret))
theorem C105ok : (match Tryz.f105.body with | some c => comp Tryz.prog 10 c | none => none) = some C105 := by kernel_rfl
@[go_sem] theorem call105 (args : List AV) (H : Heap) : callC Tryz.prog 105 args H = .call 105 args := callC_ok (by kernel_rfl) args H
theorem R105ok : resKs Tryz.prog Tryz.f105.results.toList = some [(RK.tmp (i z))] := by kernel_rfl

noncomputable def C106L0 : CC :=
  (.seq (.region [.mk (binR Tryz.prog EK.no .none false BinOp.lss (X.t (i (i (o z)))) (X.t (o (i (o z))))) (.some (o (o (i z)))) Gd.no []])
  (.seq (.cond (X.t (o (o (i z))))
  .skip
  (.exit 0))
  (.seq (.block 1 (.seq (.region [.mk (iaS 5 (X.t (i (o (o z)))) (X.t (i (i (o z))))) (.some (i (o (i z)))) Gd.no [],
   .mk (ldR true 5 (X.t (i (o (i z))))) (.some (o (i (i z)))) Gd.no [],
   .mk (fun _ H => newC false [(AV.str []), (AV.str []), (AV.int .i64 0), (AV.bool false), (AV.int .i64 0)] H) (.some (o (o (o z)))) Gd.no [],
   .mk (stR 5 (X.t (o (o (o z)))) (X.t (o (i (i z))))) .none Gd.no []])
  (.seq (.region [.mk (faR 0 (X.t (o (o (o z))))) (.some (i (i (i z)))) Gd.no [],
   .mk (ldR false 1 (X.t (i (i (i z))))) (.some (o (o (o (o z))))) Gd.no [],
   .mk (mvR (X.t (o z))) (.some (i (o (o (o z))))) Gd.no [],
   .mk (binR Tryz.prog EK.no .none false BinOp.eql (X.t (o (o (o (o z))))) (X.t (i (o (o (o z)))))) (.some (o (i (o (o z))))) Gd.no []])
  (.cond (X.t (o (i (o (o z)))))
  (.seq (.region [.mk (ldR true 5 (X.t (o (o (o z))))) (.some (i (i (o (o z))))) Gd.no [],
   .mk (stR 5 (X.t (i (o z))) (X.t (i (i (o (o z)))))) .none Gd.no [],
   .mk (mvR (X.c (AV.bool true))) (.some (o (i z))) Gd.no []])
  .ret)
  .skip))))
  (.region [.mk (binR Tryz.prog EK.no .none true BinOp.add (X.t (i (i (o z)))) (X.c (AV.int .i64 1))) (.some (o (o (i (o z))))) Gd.no [],
   .mk (mvR (X.t (o (o (i (o z)))))) (.some (i (i (o z)))) Gd.no []]))))
noncomputable def C106 : CC :=
  (.seq (.region [.mk (fun _ H => newC false [(AV.str []), (AV.str []), (AV.int .i64 0), (AV.bool false), (AV.int .i64 0)] H) (.some (i (o z))) Gd.no [],
   .mk (mvR (X.c (AV.bool false))) (.some (o (i z))) Gd.no []])
  (.seq (.seq (.region [.mk (mvR (X.t z)) (.some (i (o (o z)))) Gd.no [],
   .mk (lenR LnK.slice (X.t (i (o (o z))))) (.some (o (i (o z)))) Gd.no [],
   .mk (mvR (X.c (AV.int .i64 0))) (.some (i (i (o z)))) Gd.no []])
  (.block 0 (.loop C106L0)))
  (.seq (.region [.mk (mvR (X.t (o z))) (.some (i (o (i (o z))))) Gd.no [],
   .mk (buildR [(AV.str []), (AV.str []), (AV.int .i64 0), (AV.bool false), (AV.int .i64 0)] [(0, (1, (X.t (i (o (i (o z)))))))]) (.some (o (i (i (o z))))) Gd.no [],
   .mk (stR 5 (X.t (i (o z))) (X.t (o (i (i (o z)))))) .none Gd.no [],
   .mk (mvR (X.c (AV.bool false))) (.some (o (i z))) Gd.no []])
  .ret)))
theorem C106ok : (match Tryz.f106.body with | some c => comp Tryz.prog 22 c | none => none) = some C106 := by kernel_rfl
@[go_sem] theorem call106 (args : List AV) (H : Heap) : callC Tryz.prog 106 args H = .call 106 args := callC_ok (by kernel_rfl) args H
theorem R106ok : resKs Tryz.prog Tryz.f106.results.toList = some [(RK.cell (i (o z)) true 5), (RK.tmp (o (i z)))] := by kernel_rfl

noncomputable def C107 : CC :=
  (.seq (.region [.mk (boxR false (X.t z)) (.some (o z)) Gd.no [],
   .mk (mvR (X.c (AV.bool false))) (.some (i z)) Gd.no []])
  (.seq (.region [.mk (faR 2 (X.t (o z))) (.some (o (o z))) Gd.no [],
   .mk (ldR false 1 (X.t (o (o z)))) (.some (i (o z))) Gd.no [],
   .mk (binR Tryz.prog EK.no .none true BinOp.gtr (X.t (i (o z))) (X.c (AV.int .i64 0))) (.some (o (i z))) Gd.no [],
   .mk (mvR (X.t (o (i z)))) (.some (i (i z))) Gd.no [],
   .mk (faR 3 (X.t (o z))) (.some (o (o (o z)))) (Gd.on (i (i z)) true) [],
   .mk (ldR false 1 (X.t (o (o (o z))))) (.some (i (o (o z)))) (Gd.on (i (i z)) true) [],
   .mk (unR UnOp.not (X.t (i (o (o z))))) (.some (o (i (o z)))) (Gd.on (i (i z)) true) [],
   .mk (pickR (X.t (i (i z))) (X.t (o (i (o z)))) (X.c (AV.bool false))) (.some (i (i (o z)))) Gd.no [],
   .mk (mvR (X.t (i (i (o z))))) (.some (i z)) Gd.no []])
  .ret))
theorem C107ok : (match Tryz.f107.body with | some c => comp Tryz.prog 11 c | none => none) = some C107 := by kernel_rfl
@[go_sem] theorem call107 (args : List AV) (H : Heap) : callC Tryz.prog 107 args H = .call 107 args := callC_ok (by kernel_rfl) args H
theorem R107ok : resKs Tryz.prog Tryz.f107.results.toList = some [(RK.tmp (i z))] := by kernel_rfl

noncomputable def C115L0 : CC :=
  (.seq (.region [.mk (binR Tryz.prog EK.no .none false BinOp.lss (X.t (o (o (o z)))) (X.t (i (i z)))) (.some (i (o (o z)))) Gd.no []])
  (.seq (.cond (X.t (i (o (o z))))
  .skip
  (.exit 0))
  (.seq (.block 1 (.seq (.region [.mk (mvR (X.t (o (o (o z))))) (.some (o (i (o z)))) Gd.no [],
   .mk (iaS 5 (X.t (o (i z))) (X.t (o (o (o z))))) (.some (i (i (o z)))) Gd.no [],
   .mk (ldR true 5 (X.t (i (i (o z))))) (.some (o (o (i z)))) Gd.no [],
   .mk (fun _ H => newC false [(AV.str []), (AV.str []), (AV.int .i64 0), (AV.bool false), (AV.int .i64 0)] H) (.some (i (o z))) Gd.no [],
   .mk (mvR (X.t (o (i (o z))))) (.some (o (o z))) Gd.no [],
   .mk (stR 5 (X.t (i (o z))) (X.t (o (o (i z))))) .none Gd.no []])
  (.block 2 (.seq (.block 4 (.block 3 (.seq (.seq (.seq (.region [.mk (ldR true 5 (X.t (i (o z)))) (.some (o (i (i z)))) Gd.no [],
   .mk (callS Tryz.prog 141 [(X.t (o (i (i z))))]) (.some (i (i (i z)))) Gd.no [],
   .mk (unR UnOp.not (X.t (i (i (i z))))) (.some (o (o (o (o z))))) Gd.no [],
   .mk (mvR (X.t (o (o (o (o z)))))) (.some (i (o (i z)))) Gd.no []])
  (.cond (X.t (i (o (i z))))
  (.exit 3)
  .skip))
  (.seq (.regionD [.mk (keepH (mvR (X.t (o (o z))))) (.some (o (i (o (o z))))) Gd.no [],
   .mk (keepH (binR Tryz.prog EK.no .none true BinOp.gtr (X.t (o (i (o (o z))))) (X.c (AV.int .i64 0)))) (.some (i (i (o (o z))))) Gd.no [],
   .mk (keepH (mvR (X.t (i (i (o (o z))))))) (.some (o (o (i (o z))))) Gd.no [],
   .mk (keepH (faR 0 (X.t (i (o z))))) (.some (i (i (o (i z))))) (Gd.on (o (o (i (o z)))) true) [],
   .mk (keepH (ldR false 1 (X.t (i (i (o (i z))))))) (.some (o (o (i (i z))))) (Gd.on (o (o (i (o z)))) true) [],
   .mk (keepH (mvR (X.t (o (o z))))) (.some (o (i (i (o z))))) (Gd.on (o (o (i (o z)))) true) [],
   .mk (keepH (binR Tryz.prog EK.no .none true BinOp.sub (X.t (o (i (i (o z))))) (X.c (AV.int .i64 1)))) (.some (i (i (i (o z))))) (Gd.on (o (o (i (o z)))) true) [],
   .mk (keepH (mvR (X.t z))) (.some (i (o (i (o z))))) (Gd.on (o (o (i (o z)))) true) [],
   .mk (keepH (iaS 5 (X.t (i (o (i (o z))))) (X.t (i (i (i (o z))))))) (.some (o (o (o (i z))))) (Gd.on (o (o (i (o z)))) true) [],
   .mk (keepH (faR 0 (X.t (o (o (o (i z))))))) (.some (i (o (o (i z))))) (Gd.on (o (o (i (o z)))) true) [],
   .mk (keepH (ldR false 1 (X.t (i (o (o (i z))))))) (.some (o (i (o (i z))))) (Gd.on (o (o (i (o z)))) true) [],
   .mk (keepH (binR Tryz.prog EK.no .none false BinOp.geq (X.t (o (i (o (i z))))) (X.t (o (o (i (i z))))))) (.some (i (o (i (i z))))) (Gd.on (o (o (i (o z)))) true) [],
   .mk (keepH (pickR (X.t (o (o (i (o z))))) (X.t (i (o (i (i z))))) (X.c (AV.bool false)))) (.some (o (i (i (i z))))) Gd.no [],
   .mk (mvR (X.t (o (i (i (i z)))))) (.some (i (o (o (o z))))) Gd.no []])
  (.cond (X.t (i (o (o (o z)))))
  (.exit 4)
  .skip)))
  (.exit 2))))
  (.seq (.seq (.region [.mk (mvR (X.c (AV.bool false))) (.some (i z)) Gd.no []])
  .ret)
  (.exit 2))))))
  (.region [.mk (binR Tryz.prog EK.no .none true BinOp.add (X.t (o (o (o z)))) (X.c (AV.int .i64 1))) (.some (i (i (i (i z))))) Gd.no [],
   .mk (mvR (X.t (i (i (i (i z)))))) (.some (o (o (o z)))) Gd.no []]))))
noncomputable def C115 : CC :=
  (.seq (.region [.mk (mvR (X.c (AV.bool false))) (.some (i z)) Gd.no []])
  (.seq (.seq (.region [.mk (mvR (X.t z)) (.some (o (i z))) Gd.no [],
   .mk (lenR LnK.slice (X.t (o (i z)))) (.some (i (i z))) Gd.no [],
   .mk (mvR (X.c (AV.int .i64 0))) (.some (o (o (o z)))) Gd.no []])
  (.block 0 (.loop C115L0)))
  (.seq (.region [.mk (mvR (X.c (AV.bool true))) (.some (i z)) Gd.no []])
  .ret)))
theorem C115ok : (match Tryz.f115.body with | some c => comp Tryz.prog 31 c | none => none) = some C115 := by kernel_rfl
@[go_sem] theorem call115 (args : List AV) (H : Heap) : callC Tryz.prog 115 args H = .call 115 args := callC_ok (by kernel_rfl) args H
theorem R115ok : resKs Tryz.prog Tryz.f115.results.toList = some [(RK.tmp (i z))] := by kernel_rfl

noncomputable def C119L0 : CC :=
  (.seq (.region [.mk (binR Tryz.prog EK.no .none false BinOp.lss (X.t (i (o (i (i z))))) (X.t (o (o (i (i z)))))) (.some (o (i (i (i z))))) Gd.no []])
  (.seq (.cond (X.t (o (i (i (i z)))))
  .skip
  (.exit 0))
  (.seq (.block 1 (.seq (.region [.mk (iaS 3 (X.t (i (i (o (i z))))) (X.t (i (o (i (i z)))))) (.some (i (i (i (i z))))) Gd.no [],
   .mk (ldR true 3 (X.t (i (i (i (i z)))))) (.some (o (o (o (o (o z)))))) Gd.no [],
   .mk (fun _ H => newC false [(AV.str []), (AV.str []), (AV.int .i64 0)] H) (.some (o (i z))) Gd.no [],
   .mk (stR 3 (X.t (o (i z))) (X.t (o (o (o (o (o z))))))) .none Gd.no []])
  (.regionD [.mk (keepH (faR 2 (X.t (o (i z))))) (.some (i (o (o (i (o z)))))) Gd.no [],
   .mk (keepH (ldR false 1 (X.t (i (o (o (i (o z)))))))) (.some (o (i (o (i (o z)))))) Gd.no [],
   .mk (keepH (faR 1 (X.t (o (i z))))) (.some (i (o (i (o (o z)))))) Gd.no [],
   .mk (keepH (ldR false 1 (X.t (i (o (i (o (o z)))))))) (.some (o (i (i (o (o z)))))) Gd.no [],
   .mk (keepH (faR 0 (X.t (o (i z))))) (.some (o (i (o (o (o z)))))) Gd.no [],
   .mk (keepH (ldR false 1 (X.t (o (i (o (o (o z)))))))) (.some (i (i (o (o (o z)))))) Gd.no [],
   .mk (keepH (mvR (X.t (o (o z))))) (.some (i (o (o (o (o z)))))) Gd.no [],
   .mk (callS Tryz.prog 145 [(X.t (i (i (o (o (o z))))))]) (.some (o (o (i (o (o z)))))) Gd.no [.mk (mvR (X.t (o (o z)))) (.some (i (o (o (o (o z)))))) Gd.no, .mk (ldR false 1 (X.t (i (o (i (o (o z))))))) (.some (o (i (i (o (o z)))))) Gd.no, .mk (faR 1 (X.t (o (i z)))) (.some (i (o (i (o (o z)))))) Gd.no, .mk (ldR false 1 (X.t (i (o (o (i (o z))))))) (.some (o (i (o (i (o z)))))) Gd.no, .mk (faR 2 (X.t (o (i z)))) (.some (i (o (o (i (o z)))))) Gd.no],
   .mk (callS Tryz.prog 145 [(X.t (o (i (i (o (o z))))))]) (.some (i (i (i (o (o z)))))) Gd.no [.mk (mvR (X.t (o (o z)))) (.some (i (o (o (o (o z)))))) Gd.no, .mk (ldR false 1 (X.t (i (o (o (i (o z))))))) (.some (o (i (o (i (o z)))))) Gd.no, .mk (faR 2 (X.t (o (i z)))) (.some (i (o (o (i (o z)))))) Gd.no],
   .mk (keepH (binR Tryz.prog EK.no .none false BinOp.add (X.t (o (o (i (o (o z)))))) (X.t (i (i (i (o (o z)))))))) (.some (o (o (o (i (o z)))))) Gd.no [],
   .mk (callS Tryz.prog 144 [(X.t (o (i (o (i (o z))))))]) (.some (i (i (o (i (o z)))))) Gd.no [.mk (binR Tryz.prog EK.no .none false BinOp.add (X.t (o (o (i (o (o z)))))) (X.t (i (i (i (o (o z))))))) (.some (o (o (o (i (o z)))))) Gd.no, .mk (mvR (X.t (o (o z)))) (.some (i (o (o (o (o z)))))) Gd.no],
   .mk (keepH (binR Tryz.prog EK.no .none false BinOp.add (X.t (o (o (o (i (o z)))))) (X.t (i (i (o (i (o z)))))))) (.some (o (o (i (i (o z)))))) Gd.no [],
   .mk (keepH (binR Tryz.prog EK.no .none false BinOp.add (X.t (i (o (o (o (o z)))))) (X.t (o (o (i (i (o z)))))))) (.some (i (o (i (i (o z)))))) Gd.no [],
   .mk (mvR (X.t (i (o (i (i (o z))))))) (.some (o (o z))) Gd.no []])))
  (.region [.mk (binR Tryz.prog EK.no .none true BinOp.add (X.t (i (o (i (i z))))) (X.c (AV.int .i64 1))) (.some (o (i (i (i (o z)))))) Gd.no [],
   .mk (mvR (X.t (o (i (i (i (o z))))))) (.some (i (o (i (i z))))) Gd.no []]))))
noncomputable def C119 : CC :=
  (.seq (.region [.mk (boxR false (X.t z)) (.some (o z)) Gd.no [],
   .mk (mvR (X.c (AV.str []))) (.some (i z)) Gd.no []])
  (.seq (.seq (.region [.mk (ldR true 4 (X.t (o z))) (.some (i (i z))) Gd.no [],
   .mk (callS Tryz.prog 143 [(X.t (i (i z)))]) (.some (o (o (o z)))) Gd.no [],
   .mk (unR UnOp.not (X.t (o (o (o z))))) (.some (i (o (o z)))) Gd.no []])
  (.cond (X.t (i (o (o z))))
  (.seq (.region [.mk (mvR (X.c (AV.str []))) (.some (i z)) Gd.no []])
  .ret)
  .skip))
  (.seq (.regionD [.mk (keepH (faR 3 (X.t (o z)))) (.some (i (o (i (o z))))) Gd.no [],
   .mk (keepH (ldR false 1 (X.t (i (o (i (o z))))))) (.some (o (i (i (o z))))) Gd.no [],
   .mk (keepH (lenR LnK.slice (X.t (o (i (i (o z))))))) (.some (i (i (i (o z))))) Gd.no [],
   .mk (keepH (faR 2 (X.t (o z)))) (.some (i (o (o (o z))))) Gd.no [],
   .mk (keepH (ldR false 1 (X.t (i (o (o (o z))))))) (.some (o (i (o (o z))))) Gd.no [],
   .mk (keepH (faR 1 (X.t (o z)))) (.some (i (o (i z)))) Gd.no [],
   .mk (keepH (ldR false 1 (X.t (i (o (i z)))))) (.some (o (i (i z)))) Gd.no [],
   .mk (keepH (faR 0 (X.t (o z)))) (.some (o (i (o z)))) Gd.no [],
   .mk (keepH (ldR false 1 (X.t (o (i (o z)))))) (.some (i (i (o z)))) Gd.no [],
   .mk (callS Tryz.prog 144 [(X.t (i (i (o z))))]) (.some (o (o (i z)))) Gd.no [.mk (ldR false 1 (X.t (i (o (i z))))) (.some (o (i (i z)))) Gd.no, .mk (faR 1 (X.t (o z))) (.some (i (o (i z)))) Gd.no, .mk (ldR false 1 (X.t (i (o (o (o z)))))) (.some (o (i (o (o z))))) Gd.no, .mk (faR 2 (X.t (o z))) (.some (i (o (o (o z))))) Gd.no, .mk (lenR LnK.slice (X.t (o (i (i (o z)))))) (.some (i (i (i (o z))))) Gd.no, .mk (ldR false 1 (X.t (i (o (i (o z)))))) (.some (o (i (i (o z))))) Gd.no, .mk (faR 3 (X.t (o z))) (.some (i (o (i (o z))))) Gd.no],
   .mk (callS Tryz.prog 145 [(X.t (o (i (i z))))]) (.some (i (i (i z)))) Gd.no [.mk (ldR false 1 (X.t (i (o (o (o z)))))) (.some (o (i (o (o z))))) Gd.no, .mk (faR 2 (X.t (o z))) (.some (i (o (o (o z))))) Gd.no, .mk (lenR LnK.slice (X.t (o (i (i (o z)))))) (.some (i (i (i (o z))))) Gd.no, .mk (ldR false 1 (X.t (i (o (i (o z)))))) (.some (o (i (i (o z))))) Gd.no, .mk (faR 3 (X.t (o z))) (.some (i (o (i (o z))))) Gd.no],
   .mk (keepH (binR Tryz.prog EK.no .none false BinOp.add (X.t (o (o (i z)))) (X.t (i (i (i z)))))) (.some (o (o (o (o z))))) Gd.no [],
   .mk (callS Tryz.prog 144 [(X.t (o (i (o (o z)))))]) (.some (i (i (o (o z))))) Gd.no [.mk (binR Tryz.prog EK.no .none false BinOp.add (X.t (o (o (i z)))) (X.t (i (i (i z))))) (.some (o (o (o (o z))))) Gd.no, .mk (lenR LnK.slice (X.t (o (i (i (o z)))))) (.some (i (i (i (o z))))) Gd.no, .mk (ldR false 1 (X.t (i (o (i (o z)))))) (.some (o (i (i (o z))))) Gd.no, .mk (faR 3 (X.t (o z))) (.some (i (o (i (o z))))) Gd.no],
   .mk (keepH (binR Tryz.prog EK.no .none false BinOp.add (X.t (o (o (o (o z))))) (X.t (i (i (o (o z))))))) (.some (o (o (i (o z))))) Gd.no [],
   .mk (callS Tryz.prog 144 [(X.t (i (i (i (o z)))))]) (.some (o (o (o (i z))))) Gd.no [.mk (binR Tryz.prog EK.no .none false BinOp.add (X.t (o (o (o (o z))))) (X.t (i (i (o (o z)))))) (.some (o (o (i (o z))))) Gd.no, .mk (binR Tryz.prog EK.no .none false BinOp.add (X.t (o (o (i z)))) (X.t (i (i (i z))))) (.some (o (o (o (o z))))) Gd.no],
   .mk (keepH (binR Tryz.prog EK.no .none false BinOp.add (X.t (o (o (i (o z))))) (X.t (o (o (o (i z))))))) (.some (i (o (o (i z))))) Gd.no [],
   .mk (mvR (X.t (i (o (o (i z)))))) (.some (o (o z))) Gd.no []])
  (.seq (.seq (.region [.mk (faR 3 (X.t (o z))) (.some (o (i (o (i z))))) Gd.no [],
   .mk (ldR false 1 (X.t (o (i (o (i z)))))) (.some (i (i (o (i z))))) Gd.no [],
   .mk (lenR LnK.slice (X.t (i (i (o (i z)))))) (.some (o (o (i (i z))))) Gd.no [],
   .mk (mvR (X.c (AV.int .i64 0))) (.some (i (o (i (i z))))) Gd.no []])
  (.block 0 (.loop C119L0)))
  (.seq (.region [.mk (mvR (X.t (o (o z)))) (.some (i (i (i (i (o z)))))) Gd.no [],
   .mk (mvR (X.t (i (i (i (i (o z))))))) (.some (i z)) Gd.no []])
  .ret)))))
theorem C119ok : (match Tryz.f119.body with | some c => comp Tryz.prog 47 c | none => none) = some C119 := by kernel_rfl
@[go_sem] theorem call119 (args : List AV) (H : Heap) : callC Tryz.prog 119 args H = .call 119 args := callC_ok (by kernel_rfl) args H
theorem R119ok : resKs Tryz.prog Tryz.f119.results.toList = some [(RK.tmp (i z))] := by kernel_rfl

@[go_sem] theorem call120 (args : List AV) (H : Heap) : callC Tryz.prog 120 args H = .call 120 args := callC_ok (by kernel_rfl) args H
@[go_sem] theorem call121 (args : List AV) (H : Heap) : callC Tryz.prog 121 args H = .call 121 args := callC_ok (by kernel_rfl) args H
noncomputable def C123L0 : CC :=
  (.seq (.region [.mk (binR Tryz.prog EK.no .none false BinOp.lss (X.t (o (i (o z)))) (X.t (i (o (o z))))) (.some (i (i (o z)))) Gd.no []])
  (.seq (.cond (X.t (i (i (o z))))
  .skip
  (.exit 0))
  (.seq (.block 1 (.seq (.region [.mk (iaS 2 (X.t (o (o (o z)))) (X.t (o (i (o z))))) (.some (o (o (i z)))) Gd.no [],
   .mk (ldR true 2 (X.t (o (o (i z))))) (.some (i (o (i z)))) Gd.no [],
   .mk (fun _ H => newC false [(AV.str []), (AV.int .i64 0)] H) (.some (i (i z))) Gd.no [],
   .mk (stR 2 (X.t (i (i z))) (X.t (i (o (i z))))) .none Gd.no []])
  (.seq (.region [.mk (faR 0 (X.t (i (i z)))) (.some (o (i (i z)))) Gd.no [],
   .mk (ldR false 1 (X.t (o (i (i z))))) (.some (i (i (i z)))) Gd.no [],
   .mk (mvR (X.t (o z))) (.some (o (o (o (o z))))) Gd.no [],
   .mk (binR Tryz.prog EK.no .none false BinOp.eql (X.t (i (i (i z)))) (X.t (o (o (o (o z)))))) (.some (i (o (o (o z))))) Gd.no []])
  (.cond (X.t (i (o (o (o z)))))
  (.seq (.region [.mk (faR 1 (X.t (i (i z)))) (.some (o (i (o (o z))))) Gd.no [],
   .mk (ldR false 1 (X.t (o (i (o (o z)))))) (.some (i (i (o (o z))))) Gd.no [],
   .mk (mvR (X.t (i (i (o (o z)))))) (.some (i (o z))) Gd.no []])
  .ret)
  .skip))))
  (.region [.mk (binR Tryz.prog EK.no .none true BinOp.add (X.t (o (i (o z)))) (X.c (AV.int .i64 1))) (.some (o (o (i (o z))))) Gd.no [],
   .mk (mvR (X.t (o (o (i (o z)))))) (.some (o (i (o z)))) Gd.no []]))))
noncomputable def C123 : CC :=
  (.seq (.region [.mk (mvR (X.c (AV.int .i64 0))) (.some (i (o z))) Gd.no []])
  (.seq (.seq (.region [.mk (mvR (X.t z)) (.some (o (o (o z)))) Gd.no [],
   .mk (lenR LnK.slice (X.t (o (o (o z))))) (.some (i (o (o z)))) Gd.no [],
   .mk (mvR (X.c (AV.int .i64 0))) (.some (o (i (o z)))) Gd.no []])
  (.block 0 (.loop C123L0)))
  (.seq (.region [.mk (mvR (X.c (AV.int .i64 0))) (.some (i (o z))) Gd.no []])
  .ret)))
theorem C123ok : (match Tryz.f123.body with | some c => comp Tryz.prog 20 c | none => none) = some C123 := by kernel_rfl
@[go_sem] theorem call123 (args : List AV) (H : Heap) : callC Tryz.prog 123 args H = .call 123 args := callC_ok (by kernel_rfl) args H
theorem R123ok : resKs Tryz.prog Tryz.f123.results.toList = some [(RK.tmp (i (o z)))] := by kernel_rfl

noncomputable def C126L0 : CC :=
  (.seq (.seq (.region [.mk (mvR (X.t (o (o z)))) (.some (i (o z))) Gd.no [],
   .mk (faR 3 (X.t (o z))) (.some (o (i z))) Gd.no [],
   .mk (ldR false 1 (X.t (o (i z)))) (.some (i (i z))) Gd.no [],
   .mk (lenR LnK.slice (X.t (i (i z)))) (.some (o (o (o z)))) Gd.no [],
   .mk (binR Tryz.prog EK.no .none false BinOp.lss (X.t (i (o z))) (X.t (o (o (o z))))) (.some (i (o (o z)))) Gd.no []])
  (.cond (X.t (i (o (o z))))
  .skip
  (.exit 0)))
  (.seq (.block 1 (.seq (.region [.mk (faR 3 (X.t (o z))) (.some (o (o (i z)))) Gd.no [],
   .mk (ldR false 1 (X.t (o (o (i z))))) (.some (i (o (i z)))) Gd.no [],
   .mk (mvR (X.t (o (o z)))) (.some (o (i (i z)))) Gd.no [],
   .mk (iaS 3 (X.t (i (o (i z)))) (X.t (o (i (i z))))) (.some (i (i (i z)))) Gd.no [],
   .mk (faR 0 (X.t (i (i (i z))))) (.some (o (o (o (o z))))) Gd.no [],
   .mk (ldR false 1 (X.t (o (o (o (o z)))))) (.some (i (o (o (o z))))) Gd.no [],
   .mk (lenR LnK.str (X.t (i (o (o (o z)))))) (.some (o (i (o (o z))))) Gd.no [],
   .mk (binR Tryz.prog EK.no .none true BinOp.gtr (X.t (o (i (o (o z))))) (X.c (AV.int .i64 255))) (.some (i (i (o (o z))))) Gd.no [],
   .mk (mvR (X.t (i (i (o (o z)))))) (.some (o (o (i (o z))))) Gd.no [],
   .mk (faR 3 (X.t (o z))) (.some (i (o (i (o z))))) (Gd.on (o (o (i (o z)))) false) [],
   .mk (ldR false 1 (X.t (i (o (i (o z)))))) (.some (o (i (i (o z))))) (Gd.on (o (o (i (o z)))) false) [],
   .mk (mvR (X.t (o (o z)))) (.some (i (i (i (o z))))) (Gd.on (o (o (i (o z)))) false) [],
   .mk (iaS 3 (X.t (o (i (i (o z))))) (X.t (i (i (i (o z)))))) (.some (o (o (o (i z))))) (Gd.on (o (o (i (o z)))) false) [],
   .mk (faR 1 (X.t (o (o (o (i z)))))) (.some (i (o (o (i z))))) (Gd.on (o (o (i (o z)))) false) [],
   .mk (ldR false 1 (X.t (i (o (o (i z)))))) (.some (o (i (o (i z))))) (Gd.on (o (o (i (o z)))) false) [],
   .mk (lenR LnK.str (X.t (o (i (o (i z)))))) (.some (i (i (o (i z))))) (Gd.on (o (o (i (o z)))) false) [],
   .mk (binR Tryz.prog EK.no .none true BinOp.gtr (X.t (i (i (o (i z))))) (X.c (AV.int .i64 255))) (.some (o (o (i (i z))))) (Gd.on (o (o (i (o z)))) false) [],
   .mk (pickR (X.t (o (o (i (o z))))) (X.c (AV.bool true)) (X.t (o (o (i (i z)))))) (.some (i (o (i (i z))))) Gd.no [],
   .mk (mvR (X.t (i (o (i (i z)))))) (.some (o (i (i (i z))))) Gd.no [],
   .mk (faR 3 (X.t (o z))) (.some (i (i (i (i z))))) (Gd.on (o (i (i (i z)))) false) [],
   .mk (ldR false 1 (X.t (i (i (i (i z)))))) (.some (o (o (o (o (o z)))))) (Gd.on (o (i (i (i z)))) false) [],
   .mk (mvR (X.t (o (o z)))) (.some (i (o (o (o (o z)))))) (Gd.on (o (i (i (i z)))) false) [],
   .mk (iaS 3 (X.t (o (o (o (o (o z)))))) (X.t (i (o (o (o (o z))))))) (.some (o (i (o (o (o z)))))) (Gd.on (o (i (i (i z)))) false) [],
   .mk (faR 2 (X.t (o (i (o (o (o z))))))) (.some (i (i (o (o (o z)))))) (Gd.on (o (i (i (i z)))) false) [],
   .mk (ldR false 1 (X.t (i (i (o (o (o z))))))) (.some (o (o (i (o (o z)))))) (Gd.on (o (i (i (i z)))) false) [],
   .mk (binR Tryz.prog EK.no .none true BinOp.lss (X.t (o (o (i (o (o z)))))) (X.c (AV.int .i64 0))) (.some (i (o (i (o (o z)))))) (Gd.on (o (i (i (i z)))) false) [],
   .mk (pickR (X.t (o (i (i (i z))))) (X.c (AV.bool true)) (X.t (i (o (i (o (o z))))))) (.some (o (i (i (o (o z)))))) Gd.no [],
   .mk (mvR (X.t (o (i (i (o (o z))))))) (.some (i (i (i (o (o z)))))) Gd.no [],
   .mk (faR 3 (X.t (o z))) (.some (o (o (o (i (o z)))))) (Gd.on (i (i (i (o (o z))))) false) [],
   .mk (ldR false 1 (X.t (o (o (o (i (o z))))))) (.some (i (o (o (i (o z)))))) (Gd.on (i (i (i (o (o z))))) false) [],
   .mk (mvR (X.t (o (o z)))) (.some (o (i (o (i (o z)))))) (Gd.on (i (i (i (o (o z))))) false) [],
   .mk (iaS 3 (X.t (i (o (o (i (o z)))))) (X.t (o (i (o (i (o z))))))) (.some (i (i (o (i (o z)))))) (Gd.on (i (i (i (o (o z))))) false) [],
   .mk (faR 2 (X.t (i (i (o (i (o z))))))) (.some (o (o (i (i (o z)))))) (Gd.on (i (i (i (o (o z))))) false) [],
   .mk (ldR false 1 (X.t (o (o (i (i (o z))))))) (.some (i (o (i (i (o z)))))) (Gd.on (i (i (i (o (o z))))) false) [],
   .mk (binR Tryz.prog EK.no .none true BinOp.geq (X.t (i (o (i (i (o z)))))) (X.c (AV.int .i64 281474976710656))) (.some (o (i (i (i (o z)))))) (Gd.on (i (i (i (o (o z))))) false) [],
   .mk (pickR (X.t (i (i (i (o (o z)))))) (X.c (AV.bool true)) (X.t (o (i (i (i (o z))))))) (.some (i (i (i (i (o z)))))) Gd.no []])
  (.cond (X.t (i (i (i (i (o z))))))
  (.seq (.region [.mk (mvR (X.c (AV.bool false))) (.some (i z)) Gd.no []])
  .ret)
  .skip)))
  (.region [.mk (mvR (X.t (o (o z)))) (.some (o (i (o z)))) Gd.no [],
   .mk (binR Tryz.prog EK.no .none true BinOp.add (X.t (o (i (o z)))) (X.c (AV.int .i64 1))) (.some (i (i (o z)))) Gd.no [],
   .mk (mvR (X.t (i (i (o z))))) (.some (o (o z))) Gd.no []])))
noncomputable def C126 : CC :=
  (.seq (.region [.mk (boxR false (X.t z)) (.some (o z)) Gd.no [],
   .mk (mvR (X.c (AV.bool false))) (.some (i z)) Gd.no []])
  (.seq (.seq (.region [.mk (mvR (X.c (AV.int .i64 0))) (.some (o (o z))) Gd.no []])
  (.block 0 (.loop C126L0)))
  (.seq (.region [.mk (faR 0 (X.t (o z))) (.some (o (o (o (o (i z)))))) Gd.no [],
   .mk (ldR false 1 (X.t (o (o (o (o (i z))))))) (.some (i (o (o (o (i z)))))) Gd.no [],
   .mk (binR Tryz.prog EK.no .none true BinOp.geq (X.t (i (o (o (o (i z)))))) (X.c (AV.int .i64 0))) (.some (o (i (o (o (i z)))))) Gd.no [],
   .mk (mvR (X.t (o (i (o (o (i z))))))) (.some (i (i (o (o (i z)))))) Gd.no [],
   .mk (faR 0 (X.t (o z))) (.some (o (o (i (o (i z)))))) (Gd.on (i (i (o (o (i z))))) true) [],
   .mk (ldR false 1 (X.t (o (o (i (o (i z))))))) (.some (i (o (i (o (i z)))))) (Gd.on (i (i (o (o (i z))))) true) [],
   .mk (binR Tryz.prog EK.no .none true BinOp.lss (X.t (i (o (i (o (i z)))))) (X.c (AV.int .i64 281474976710656))) (.some (o (i (i (o (i z)))))) (Gd.on (i (i (o (o (i z))))) true) [],
   .mk (pickR (X.t (i (i (o (o (i z)))))) (X.t (o (i (i (o (i z)))))) (X.c (AV.bool false))) (.some (i (i (i (o (i z)))))) Gd.no [],
   .mk (mvR (X.t (i (i (i (o (i z))))))) (.some (o (o (o (i (i z)))))) Gd.no [],
   .mk (faR 2 (X.t (o z))) (.some (i (o (o (i (i z)))))) (Gd.on (o (o (o (i (i z))))) true) [],
   .mk (ldR false 1 (X.t (i (o (o (i (i z))))))) (.some (o (i (o (i (i z)))))) (Gd.on (o (o (o (i (i z))))) true) [],
   .mk (binR Tryz.prog EK.no .none true BinOp.geq (X.t (o (i (o (i (i z)))))) (X.c (AV.int .i64 0))) (.some (i (i (o (i (i z)))))) (Gd.on (o (o (o (i (i z))))) true) [],
   .mk (pickR (X.t (o (o (o (i (i z)))))) (X.t (i (i (o (i (i z)))))) (X.c (AV.bool false))) (.some (o (o (i (i (i z)))))) Gd.no [],
   .mk (mvR (X.t (o (o (i (i (i z))))))) (.some (i (o (i (i (i z)))))) Gd.no [],
   .mk (faR 2 (X.t (o z))) (.some (o (i (i (i (i z)))))) (Gd.on (i (o (i (i (i z))))) true) [],
   .mk (ldR false 1 (X.t (o (i (i (i (i z))))))) (.some (i (i (i (i (i z)))))) (Gd.on (i (o (i (i (i z))))) true) [],
   .mk (binR Tryz.prog EK.no .none true BinOp.lss (X.t (i (i (i (i (i z)))))) (X.c (AV.int .i64 281474976710656))) (.some (o (o (o (o (o (o z))))))) (Gd.on (i (o (i (i (i z))))) true) [],
   .mk (pickR (X.t (i (o (i (i (i z)))))) (X.t (o (o (o (o (o (o z))))))) (X.c (AV.bool false))) (.some (i (o (o (o (o (o z))))))) Gd.no [],
   .mk (mvR (X.t (i (o (o (o (o (o z)))))))) (.some (o (i (o (o (o (o z))))))) Gd.no [],
   .mk (faR 1 (X.t (o z))) (.some (i (i (o (o (o (o z))))))) (Gd.on (o (i (o (o (o (o z)))))) true) [],
   .mk (ldR false 1 (X.t (i (i (o (o (o (o z)))))))) (.some (o (o (i (o (o (o z))))))) (Gd.on (o (i (o (o (o (o z)))))) true) [],
   .mk (lenR LnK.str (X.t (o (o (i (o (o (o z)))))))) (.some (i (o (i (o (o (o z))))))) (Gd.on (o (i (o (o (o (o z)))))) true) [],
   .mk (binR Tryz.prog EK.no .none true BinOp.leq (X.t (i (o (i (o (o (o z))))))) (X.c (AV.int .i64 255))) (.some (o (i (i (o (o (o z))))))) (Gd.on (o (i (o (o (o (o z)))))) true) [],
   .mk (pickR (X.t (o (i (o (o (o (o z))))))) (X.t (o (i (i (o (o (o z))))))) (X.c (AV.bool false))) (.some (i (i (i (o (o (o z))))))) Gd.no [],
   .mk (mvR (X.t (i (i (i (o (o (o z)))))))) (.some (o (o (o (i (o (o z))))))) Gd.no [],
   .mk (faR 3 (X.t (o z))) (.some (i (o (o (i (o (o z))))))) (Gd.on (o (o (o (i (o (o z)))))) true) [],
   .mk (ldR false 1 (X.t (i (o (o (i (o (o z)))))))) (.some (o (i (o (i (o (o z))))))) (Gd.on (o (o (o (i (o (o z)))))) true) [],
   .mk (lenR LnK.slice (X.t (o (i (o (i (o (o z)))))))) (.some (i (i (o (i (o (o z))))))) (Gd.on (o (o (o (i (o (o z)))))) true) [],
   .mk (binR Tryz.prog EK.no .none true BinOp.leq (X.t (i (i (o (i (o (o z))))))) (X.c (AV.int .i64 16))) (.some (o (o (i (i (o (o z))))))) (Gd.on (o (o (o (i (o (o z)))))) true) [],
   .mk (pickR (X.t (o (o (o (i (o (o z))))))) (X.t (o (o (i (i (o (o z))))))) (X.c (AV.bool false))) (.some (i (o (i (i (o (o z))))))) Gd.no [],
   .mk (mvR (X.t (i (o (i (i (o (o z)))))))) (.some (i z)) Gd.no []])
  .ret)))
theorem C126ok : (match Tryz.f126.body with | some c => comp Tryz.prog 77 c | none => none) = some C126 := by kernel_rfl
@[go_sem] theorem call126 (args : List AV) (H : Heap) : callC Tryz.prog 126 args H = .call 126 args := callC_ok (by kernel_rfl) args H
theorem R126ok : resKs Tryz.prog Tryz.f126.results.toList = some [(RK.tmp (i z))] := by kernel_rfl

noncomputable def C139L0 : CC :=
  (.seq (.seq (.regionD [.mk (keepH (mvR (X.t (o (i z))))) (.some (i (i (i z)))) Gd.no [],
   .mk (keepH (lenR LnK.slice (X.t (i (i (i z)))))) (.some (o (o (o (o z))))) Gd.no [],
   .mk (keepH (mvR (X.t (i (i z))))) (.some (o (i (i z)))) Gd.no [],
   .mk (keepH (binR Tryz.prog EK.no .none false BinOp.lss (X.t (o (i (i z)))) (X.t (o (o (o (o z))))))) (.some (i (o (o (o z))))) Gd.no [],
   .mk (keepH (mvR (X.t (i (o (o (o z))))))) (.some (o (i (o (o z))))) Gd.no [],
   .mk (keepH (faR 0 (X.t (o (o z))))) (.some (o (o (o (i z))))) (Gd.on (o (i (o (o z)))) true) [],
   .mk (keepH (ldR false 1 (X.t (o (o (o (i z))))))) (.some (i (o (o (i z))))) (Gd.on (o (i (o (o z)))) true) [],
   .mk (keepH (mvR (X.t (i (i z))))) (.some (o (o (i (o z))))) (Gd.on (o (i (o (o z)))) true) [],
   .mk (keepH (mvR (X.t (o (i z))))) (.some (i (i (o (o z))))) (Gd.on (o (i (o (o z)))) true) [],
   .mk (keepH (iaS 5 (X.t (i (i (o (o z))))) (X.t (o (o (i (o z))))))) (.some (i (o (i (o z))))) (Gd.on (o (i (o (o z)))) true) [],
   .mk (keepH (faR 0 (X.t (i (o (i (o z))))))) (.some (o (i (i (o z))))) (Gd.on (o (i (o (o z)))) true) [],
   .mk (keepH (ldR false 1 (X.t (o (i (i (o z))))))) (.some (i (i (i (o z))))) (Gd.on (o (i (o (o z)))) true) [],
   .mk (keepH (binR Tryz.prog EK.no .none false BinOp.lss (X.t (i (i (i (o z))))) (X.t (i (o (o (i z))))))) (.some (o (i (o (i z))))) (Gd.on (o (i (o (o z)))) true) [],
   .mk (keepH (pickR (X.t (o (i (o (o z))))) (X.t (o (i (o (i z))))) (X.c (AV.bool false)))) (.some (i (i (o (i z))))) Gd.no []])
  (.cond (X.t (i (i (o (i z)))))
  .skip
  (.exit 0)))
  (.block 1 (.region [.mk (mvR (X.t (i (i z)))) (.some (o (o (i (i z))))) Gd.no [],
   .mk (binR Tryz.prog EK.no .none true BinOp.add (X.t (o (o (i (i z))))) (X.c (AV.int .i64 1))) (.some (i (o (i (i z))))) Gd.no [],
   .mk (mvR (X.t (i (o (i (i z)))))) (.some (i (i z))) Gd.no []])))
noncomputable def C139 : CC :=
  (.seq (.region [.mk (boxR false (X.t (o z))) (.some (o (o z))) Gd.no [],
   .mk (mvR (X.c AV.nils)) (.some (i (o z))) Gd.no []])
  (.seq (.region [.mk (mvR (X.t z)) (.some (o (o (o z)))) Gd.no [],
   .mk (callS Tryz.prog 80 [(X.t (o (o (o z))))]) (.some (i (o (o z)))) Gd.no [],
   .mk (mvR (X.t (i (o (o z))))) (.some (o (i z))) Gd.no []])
  (.seq (.seq (.region [.mk (ldR true 5 (X.t (o (o z)))) (.some (o (i (o z)))) Gd.no [],
   .mk (callS Tryz.prog 141 [(X.t (o (i (o z))))]) (.some (i (i (o z)))) Gd.no [],
   .mk (unR UnOp.not (X.t (i (i (o z))))) (.some (o (o (i z)))) Gd.no []])
  (.cond (X.t (o (o (i z))))
  (.seq (.region [.mk (mvR (X.t (o (i z)))) (.some (i (o (i z)))) Gd.no [],
   .mk (mvR (X.t (i (o (i z))))) (.some (i (o z))) Gd.no []])
  .ret)
  .skip))
  (.seq (.region [.mk (mvR (X.c (AV.int .i64 0))) (.some (i (i z))) Gd.no []])
  (.seq (.block 0 (.loop C139L0))
  (.seq (.seq (.regionD [.mk (keepH (mvR (X.t (o (i z))))) (.some (i (i (i (i z))))) Gd.no [],
   .mk (keepH (lenR LnK.slice (X.t (i (i (i (i z))))))) (.some (o (o (o (o (o z)))))) Gd.no [],
   .mk (keepH (mvR (X.t (i (i z))))) (.some (o (i (i (i z))))) Gd.no [],
   .mk (keepH (binR Tryz.prog EK.no .none false BinOp.lss (X.t (o (i (i (i z))))) (X.t (o (o (o (o (o z)))))))) (.some (i (o (o (o (o z)))))) Gd.no [],
   .mk (keepH (mvR (X.t (i (o (o (o (o z)))))))) (.some (o (i (o (o (o z)))))) Gd.no [],
   .mk (keepH (faR 0 (X.t (o (o z))))) (.some (o (o (o (i (o z)))))) (Gd.on (o (i (o (o (o z))))) true) [],
   .mk (keepH (ldR false 1 (X.t (o (o (o (i (o z)))))))) (.some (i (o (o (i (o z)))))) (Gd.on (o (i (o (o (o z))))) true) [],
   .mk (keepH (mvR (X.t (i (i z))))) (.some (o (o (i (o (o z)))))) (Gd.on (o (i (o (o (o z))))) true) [],
   .mk (keepH (mvR (X.t (o (i z))))) (.some (i (i (o (o (o z)))))) (Gd.on (o (i (o (o (o z))))) true) [],
   .mk (keepH (iaS 5 (X.t (i (i (o (o (o z)))))) (X.t (o (o (i (o (o z)))))))) (.some (i (o (i (o (o z)))))) (Gd.on (o (i (o (o (o z))))) true) [],
   .mk (keepH (faR 0 (X.t (i (o (i (o (o z)))))))) (.some (o (i (i (o (o z)))))) (Gd.on (o (i (o (o (o z))))) true) [],
   .mk (keepH (ldR false 1 (X.t (o (i (i (o (o z)))))))) (.some (i (i (i (o (o z)))))) (Gd.on (o (i (o (o (o z))))) true) [],
   .mk (keepH (binR Tryz.prog EK.no .none false BinOp.eql (X.t (i (i (i (o (o z)))))) (X.t (i (o (o (i (o z)))))))) (.some (o (i (o (i (o z)))))) (Gd.on (o (i (o (o (o z))))) true) [],
   .mk (keepH (pickR (X.t (o (i (o (o (o z)))))) (X.t (o (i (o (i (o z)))))) (X.c (AV.bool false)))) (.some (i (i (o (i (o z)))))) Gd.no []])
  (.cond (X.t (i (i (o (i (o z))))))
  (.seq (.region [.mk (mvR (X.t (o (i z)))) (.some (o (o (i (i (o z)))))) Gd.no [],
   .mk (mvR (X.t (i (i z)))) (.some (i (o (i (i (o z)))))) Gd.no [],
   .mk (ldR true 5 (X.t (o (o z)))) (.some (o (i (i (i (o z)))))) Gd.no [],
   .mk (iaS 5 (X.t (o (o (i (i (o z)))))) (X.t (i (o (i (i (o z))))))) (.some (i (i (i (i (o z)))))) Gd.no [],
   .mk (stR 5 (X.t (i (i (i (i (o z)))))) (X.t (o (i (i (i (o z))))))) .none Gd.no []])
  (.seq (.region [.mk (mvR (X.t (o (i z)))) (.some (o (o (o (o (i z)))))) Gd.no [],
   .mk (mvR (X.t (o (o (o (o (i z))))))) (.some (i (o z))) Gd.no []])
  .ret))
  .skip))
  (.seq (.region [.mk (mvR (X.t (o (i z)))) (.some (i (o (o (o (i z)))))) Gd.no [],
   .mk (mvR (X.t (i (i z)))) (.some (o (i (o (o (i z)))))) Gd.no [],
   .mk (ldR true 5 (X.t (o (o z)))) (.some (i (i (o (o (i z)))))) Gd.no [],
   .mk (bslR 5 1 [(AV.str []), (AV.str []), (AV.int .i64 0), (AV.bool false), (AV.int .i64 0)] [(0, (X.t (i (i (o (o (i z)))))))]) (.some (o (o (i (o (i z)))))) Gd.no [],
   .mk (callS Tryz.prog 151 [(X.t (i (o (o (o (i z)))))), (X.t (o (i (o (o (i z)))))), (X.t (o (o (i (o (i z))))))]) (.some (i (o (i (o (i z)))))) Gd.no [],
   .mk (mvR (X.t (i (o (i (o (i z))))))) (.some (i (o z))) Gd.no []])
  .ret)))))))
theorem C139ok : (match Tryz.f139.body with | some c => comp Tryz.prog 53 c | none => none) = some C139 := by kernel_rfl
@[go_sem] theorem call139 (args : List AV) (H : Heap) : callC Tryz.prog 139 args H = .call 139 args := callC_ok (by kernel_rfl) args H
theorem R139ok : resKs Tryz.prog Tryz.f139.results.toList = some [(RK.tmp (i (o z)))] := by kernel_rfl

noncomputable def C141 : CC :=
  (.seq (.region [.mk (boxR false (X.t z)) (.some (o z)) Gd.no [],
   .mk (mvR (X.c (AV.bool false))) (.some (i z)) Gd.no []])
  (.seq (.region [.mk (faR 0 (X.t (o z))) (.some (o (o z))) Gd.no [],
   .mk (ldR false 1 (X.t (o (o z)))) (.some (i (o z))) Gd.no [],
   .mk (faR 1 (X.t (o z))) (.some (o (i z))) Gd.no [],
   .mk (ldR false 1 (X.t (o (i z)))) (.some (i (i z))) Gd.no [],
   .mk (faR 2 (X.t (o z))) (.some (o (o (o z)))) Gd.no [],
   .mk (ldR false 1 (X.t (o (o (o z))))) (.some (i (o (o z)))) Gd.no [],
   .mk (faR 3 (X.t (o z))) (.some (o (i (o z)))) Gd.no [],
   .mk (ldR false 1 (X.t (o (i (o z))))) (.some (i (i (o z)))) Gd.no [],
   .mk (callS Tryz.prog 142 [(X.t (i (o z))), (X.t (i (i z))), (X.t (i (o (o z)))), (X.t (i (i (o z))))]) (.some (o (o (i z)))) Gd.no [],
   .mk (mvR (X.t (o (o (i z))))) (.some (i (o (i z)))) Gd.no [],
   .mk (faR 4 (X.t (o z))) (.some (o (i (i z)))) (Gd.on (i (o (i z))) true) [],
   .mk (ldR false 1 (X.t (o (i (i z))))) (.some (i (i (i z)))) (Gd.on (i (o (i z))) true) [],
   .mk (binR Tryz.prog EK.no .none true BinOp.geq (X.t (i (i (i z)))) (X.c (AV.int .i64 0))) (.some (o (o (o (o z))))) (Gd.on (i (o (i z))) true) [],
   .mk (pickR (X.t (i (o (i z)))) (X.t (o (o (o (o z))))) (X.c (AV.bool false))) (.some (i (o (o (o z))))) Gd.no [],
   .mk (mvR (X.t (i (o (o (o z)))))) (.some (o (i (o (o z))))) Gd.no [],
   .mk (faR 4 (X.t (o z))) (.some (i (i (o (o z))))) (Gd.on (o (i (o (o z)))) true) [],
   .mk (ldR false 1 (X.t (i (i (o (o z)))))) (.some (o (o (i (o z))))) (Gd.on (o (i (o (o z)))) true) [],
   .mk (faR 2 (X.t (o z))) (.some (i (o (i (o z))))) (Gd.on (o (i (o (o z)))) true) [],
   .mk (ldR false 1 (X.t (i (o (i (o z)))))) (.some (o (i (i (o z))))) (Gd.on (o (i (o (o z)))) true) [],
   .mk (binR Tryz.prog EK.no .none false BinOp.leq (X.t (o (o (i (o z))))) (X.t (o (i (i (o z)))))) (.some (i (i (i (o z))))) (Gd.on (o (i (o (o z)))) true) [],
   .mk (pickR (X.t (o (i (o (o z))))) (X.t (i (i (i (o z))))) (X.c (AV.bool false))) (.some (o (o (o (i z))))) Gd.no [],
   .mk (mvR (X.t (o (o (o (i z)))))) (.some (i z)) Gd.no []])
  .ret))
theorem C141ok : (match Tryz.f141.body with | some c => comp Tryz.prog 24 c | none => none) = some C141 := by kernel_rfl
@[go_sem] theorem call141 (args : List AV) (H : Heap) : callC Tryz.prog 141 args H = .call 141 args := callC_ok (by kernel_rfl) args H
theorem R141ok : resKs Tryz.prog Tryz.f141.results.toList = some [(RK.tmp (i z))] := by kernel_rfl

noncomputable def C142 : CC :=
  (.seq (.region [.mk (mvR (X.c (AV.bool false))) (.some (i (o (o z)))) Gd.no []])
  (.seq (.block 0 (.seq (.block 3 (.block 2 (.block 1 (.seq (.seq (.seq (.region [.mk (mvR (X.t z)) (.some (i (i (o z)))) Gd.no [],
   .mk (callS Tryz.prog 105 [(X.t (i (i (o z))))]) (.some (o (o (i z)))) Gd.no [],
   .mk (unR UnOp.not (X.t (o (o (i z))))) (.some (i (o (i z)))) Gd.no [],
   .mk (mvR (X.t (i (o (i z))))) (.some (o (i (i z)))) Gd.no [],
   .mk (mvR (X.t (o z))) (.some (i (i (i z)))) (Gd.on (o (i (i z))) false) [],
   .mk (lenR LnK.str (X.t (i (i (i z))))) (.some (o (o (o (o z))))) (Gd.on (o (i (i z))) false) [],
   .mk (binR Tryz.prog EK.no .none true BinOp.gtr (X.t (o (o (o (o z))))) (X.c (AV.int .i64 12))) (.some (i (o (o (o z))))) (Gd.on (o (i (i z))) false) [],
   .mk (pickR (X.t (o (i (i z)))) (X.c (AV.bool true)) (X.t (i (o (o (o z)))))) (.some (o (i (o (o z))))) Gd.no [],
   .mk (mvR (X.t (o (i (o (o z)))))) (.some (o (i (o z)))) Gd.no []])
  (.cond (X.t (o (i (o z))))
  (.exit 1)
  .skip))
  (.seq (.seq (.region [.mk (mvR (X.t (o (o z)))) (.some (o (o (i (o z))))) Gd.no [],
   .mk (mvR (X.t (o (o (i (o z)))))) (.some (i (o (i (o z))))) Gd.no [],
   .mk (mvR (X.t (o z))) (.some (o (i (i (o z))))) (Gd.on (i (o (i (o z)))) true) [],
   .mk (binR Tryz.prog EK.no .none true BinOp.neq (X.t (o (i (i (o z))))) (X.c (AV.str []))) (.some (i (i (i (o z))))) (Gd.on (i (o (i (o z)))) true) [],
   .mk (pickR (X.t (i (o (i (o z))))) (X.t (i (i (i (o z))))) (X.c (AV.bool false))) (.some (o (o (o (i z))))) Gd.no [],
   .mk (mvR (X.t (o (o (o (i z)))))) (.some (i (i (o (o z))))) Gd.no []])
  (.cond (X.t (i (i (o (o z)))))
  (.exit 2)
  .skip))
  (.seq (.region [.mk (mvR (X.t (i z))) (.some (o (i (o (i z))))) Gd.no [],
   .mk (binR Tryz.prog EK.no .none true BinOp.lss (X.t (o (i (o (i z))))) (X.c (AV.int .i64 1))) (.some (i (i (o (i z))))) Gd.no [],
   .mk (mvR (X.t (i (i (o (i z)))))) (.some (o (o (i (i z))))) Gd.no [],
   .mk (mvR (X.t (i z))) (.some (i (o (i (i z))))) (Gd.on (o (o (i (i z)))) false) [],
   .mk (binR Tryz.prog EK.no .none true BinOp.gtr (X.t (i (o (i (i z))))) (X.c (AV.int .i64 1000000000000))) (.some (o (i (i (i z))))) (Gd.on (o (o (i (i z)))) false) [],
   .mk (pickR (X.t (o (o (i (i z))))) (X.c (AV.bool true)) (X.t (o (i (i (i z)))))) (.some (i (i (i (i z))))) Gd.no [],
   .mk (mvR (X.t (i (i (i (i z)))))) (.some (i (o (o (i z))))) Gd.no []])
  (.cond (X.t (i (o (o (i z)))))
  (.exit 3)
  .skip))))
  (.exit 0)))))
  (.seq (.seq (.region [.mk (mvR (X.c (AV.bool false))) (.some (i (o (o z)))) Gd.no []])
  .ret)
  (.exit 0))))
  (.seq (.region [.mk (mvR (X.c (AV.bool true))) (.some (i (o (o z)))) Gd.no []])
  .ret)))
theorem C142ok : (match Tryz.f142.body with | some c => comp Tryz.prog 31 c | none => none) = some C142 := by kernel_rfl
@[go_sem] theorem call142 (args : List AV) (H : Heap) : callC Tryz.prog 142 args H = .call 142 args := callC_ok (by kernel_rfl) args H
theorem R142ok : resKs Tryz.prog Tryz.f142.results.toList = some [(RK.tmp (i (o (o z))))] := by kernel_rfl

noncomputable def C143 : CC :=
  (.seq (.region [.mk (boxR false (X.t z)) (.some (o z)) Gd.no [],
   .mk (mvR (X.c (AV.bool false))) (.some (i z)) Gd.no []])
  (.seq (.region [.mk (mvR (X.c (AV.fn (Fn.func 152) [] []))) (.some (o (o z))) Gd.no []])
  (.seq (.block 0 (.seq (.block 2 (.block 1 (.seq (.seq (.seq (.region [.mk (faR 0 (X.t (o z))) (.some (o (i z))) Gd.no [],
   .mk (ldR false 1 (X.t (o (i z)))) (.some (i (i z))) Gd.no [],
   .mk (binR Tryz.prog EK.no .none true BinOp.lss (X.t (i (i z))) (X.c (AV.int .i64 0))) (.some (o (o (o z)))) Gd.no [],
   .mk (mvR (X.t (o (o (o z))))) (.some (i (o (o z)))) Gd.no [],
   .mk (faR 0 (X.t (o z))) (.some (o (i (o z)))) (Gd.on (i (o (o z))) false) [],
   .mk (ldR false 1 (X.t (o (i (o z))))) (.some (i (i (o z)))) (Gd.on (i (o (o z))) false) [],
   .mk (binR Tryz.prog EK.no .none true BinOp.geq (X.t (i (i (o z)))) (X.c (AV.int .i64 281474976710656))) (.some (o (o (i z)))) (Gd.on (i (o (o z))) false) [],
   .mk (pickR (X.t (i (o (o z)))) (X.c (AV.bool true)) (X.t (o (o (i z))))) (.some (i (o (i z)))) Gd.no [],
   .mk (mvR (X.t (i (o (i z))))) (.some (o (i (i z)))) Gd.no [],
   .mk (faR 2 (X.t (o z))) (.some (i (i (i z)))) (Gd.on (o (i (i z))) false) [],
   .mk (ldR false 1 (X.t (i (i (i z))))) (.some (o (o (o (o z))))) (Gd.on (o (i (i z))) false) [],
   .mk (binR Tryz.prog EK.no .none true BinOp.lss (X.t (o (o (o (o z))))) (X.c (AV.int .i64 0))) (.some (i (o (o (o z))))) (Gd.on (o (i (i z))) false) [],
   .mk (pickR (X.t (o (i (i z)))) (X.c (AV.bool true)) (X.t (i (o (o (o z)))))) (.some (o (i (o (o z))))) Gd.no [],
   .mk (mvR (X.t (o (i (o (o z)))))) (.some (i (i (o (o z))))) Gd.no [],
   .mk (faR 2 (X.t (o z))) (.some (o (o (i (o z))))) (Gd.on (i (i (o (o z)))) false) [],
   .mk (ldR false 1 (X.t (o (o (i (o z)))))) (.some (i (o (i (o z))))) (Gd.on (i (i (o (o z)))) false) [],
   .mk (binR Tryz.prog EK.no .none true BinOp.geq (X.t (i (o (i (o z))))) (X.c (AV.int .i64 281474976710656))) (.some (o (i (i (o z))))) (Gd.on (i (i (o (o z)))) false) [],
   .mk (pickR (X.t (i (i (o (o z))))) (X.c (AV.bool true)) (X.t (o (i (i (o z)))))) (.some (i (i (i (o z))))) Gd.no [],
   .mk (mvR (X.t (i (i (i (o z)))))) (.some (o (o (o (i z))))) Gd.no [],
   .mk (faR 1 (X.t (o z))) (.some (i (o (o (i z))))) (Gd.on (o (o (o (i z)))) false) [],
   .mk (ldR false 1 (X.t (i (o (o (i z)))))) (.some (o (i (o (i z))))) (Gd.on (o (o (o (i z)))) false) [],
   .mk (lenR LnK.str (X.t (o (i (o (i z)))))) (.some (i (i (o (i z))))) (Gd.on (o (o (o (i z)))) false) [],
   .mk (binR Tryz.prog EK.no .none true BinOp.gtr (X.t (i (i (o (i z))))) (X.c (AV.int .i64 255))) (.some (o (o (i (i z))))) (Gd.on (o (o (o (i z)))) false) [],
   .mk (pickR (X.t (o (o (o (i z))))) (X.c (AV.bool true)) (X.t (o (o (i (i z)))))) (.some (i (o (i (i z))))) Gd.no [],
   .mk (mvR (X.t (i (o (i (i z)))))) (.some (i (o z))) Gd.no []])
  (.cond (X.t (i (o z)))
  (.exit 1)
  .skip))
  (.seq (.region [.mk (faR 3 (X.t (o z))) (.some (i (i (i (i z))))) Gd.no [],
   .mk (ldR false 1 (X.t (i (i (i (i z)))))) (.some (o (o (o (o (o z)))))) Gd.no [],
   .mk (lenR LnK.slice (X.t (o (o (o (o (o z))))))) (.some (i (o (o (o (o z)))))) Gd.no [],
   .mk (binR Tryz.prog EK.no .none true BinOp.gtr (X.t (i (o (o (o (o z)))))) (X.c (AV.int .i64 16))) (.some (o (i (o (o (o z)))))) Gd.no [],
   .mk (mvR (X.t (o (i (o (o (o z))))))) (.some (i (i (o (o (o z)))))) Gd.no [],
   .mk (faR 3 (X.t (o z))) (.some (o (o (i (o (o z)))))) (Gd.on (i (i (o (o (o z))))) false) [],
   .mk (ldR false 1 (X.t (o (o (i (o (o z))))))) (.some (i (o (i (o (o z)))))) (Gd.on (i (i (o (o (o z))))) false) [],
   .mk (mvR (X.t (o (o z)))) (.some (o (i (i (o (o z)))))) (Gd.on (i (i (o (o (o z))))) false) [],
   .mk (callS Tryz.prog 153 [(X.t (i (o (i (o (o z)))))), (X.t (o (i (i (o (o z))))))]) (.some (i (i (i (o (o z)))))) (Gd.on (i (i (o (o (o z))))) false) [],
   .mk (pickR (X.t (i (i (o (o (o z)))))) (X.c (AV.bool true)) (X.t (i (i (i (o (o z))))))) (.some (o (o (o (i (o z)))))) Gd.no [],
   .mk (mvR (X.t (o (o (o (i (o z))))))) (.some (o (i (i (i z))))) Gd.no []])
  (.cond (X.t (o (i (i (i z)))))
  (.exit 2)
  .skip)))
  (.exit 0))))
  (.seq (.seq (.region [.mk (mvR (X.c (AV.bool false))) (.some (i z)) Gd.no []])
  .ret)
  (.exit 0))))
  (.seq (.region [.mk (mvR (X.c (AV.bool true))) (.some (i z)) Gd.no []])
  .ret))))
theorem C143ok : (match Tryz.f143.body with | some c => comp Tryz.prog 40 c | none => none) = some C143 := by kernel_rfl
@[go_sem] theorem call143 (args : List AV) (H : Heap) : callC Tryz.prog 143 args H = .call 143 args := callC_ok (by kernel_rfl) args H
theorem R143ok : resKs Tryz.prog Tryz.f143.results.toList = some [(RK.tmp (i z))] := by kernel_rfl

noncomputable def C144L0 : CC :=
  (.seq (.seq (.region [.mk (mvR (X.t z)) (.some (i (i z))) Gd.no [],
   .mk (binR Tryz.prog EK.no .none true BinOp.geq (X.t (i (i z))) (X.c (AV.int .i64 64))) (.some (o (o (o z)))) Gd.no []])
  (.cond (X.t (o (o (o z))))
  .skip
  (.exit 0)))
  (.block 1 (.seq (.region [.mk (mvR (X.t (o (o z)))) (.some (i (o (o z)))) Gd.no [],
   .mk (mvR (X.t z)) (.some (o (i (o z)))) Gd.no [],
   .mk (binR Tryz.prog EK.no .none true BinOp.and (X.t (o (i (o z)))) (X.c (AV.int .i64 63))) (.some (i (i (o z)))) Gd.no [],
   .mk (binR Tryz.prog EK.no .none true BinOp.or (X.c (AV.int .i64 64)) (X.t (i (i (o z))))) (.some (o (o (i z)))) Gd.no [],
   .mk (convR (Cv.int IntKind.u8) (X.t (o (o (i z))))) (.some (i (o (i z)))) Gd.no [],
   .mk (bslR 1 1 [(AV.int IntKind.u8 0)] [(0, (X.t (i (o (i z)))))]) (.some (o (i (i z)))) Gd.no [],
   .mk (appR 1 1 (X.t (i (o (o z)))) (X.t (o (i (i z))))) (.some (i (i (i z)))) Gd.no [],
   .mk (mvR (X.t (i (i (i z))))) (.some (o (o z))) Gd.no []])
  (.region [.mk (mvR (X.t z)) (.some (o (o (o (o z))))) Gd.no [],
   .mk (binR Tryz.prog EK.no .none true BinOp.shr (X.t (o (o (o (o z))))) (X.c (AV.int IntKind.u64 6))) (.some (i (o (o (o z))))) Gd.no [],
   .mk (mvR (X.t (i (o (o (o z)))))) (.some z) Gd.no []]))))
noncomputable def C144 : CC :=
  (.seq (.region [.mk (mvR (X.c (AV.str []))) (.some (i z)) Gd.no []])
  (.seq (.region [.mk (mvR (X.t z)) (.some (i (o z))) Gd.no [],
   .mk (mmR true (X.t (i (o z))) (X.c (AV.int .i64 0))) (.some (o (i z))) Gd.no [],
   .mk (mvR (X.t (o (i z)))) (.some z) Gd.no []])
  (.seq (.region [.mk (mvR (X.c AV.nils)) (.some (o (o z))) Gd.no []])
  (.seq (.block 0 (.loop C144L0))
  (.seq (.region [.mk (mvR (X.t (o (o z)))) (.some (o (i (o (o z))))) Gd.no [],
   .mk (mvR (X.t z)) (.some (i (i (o (o z))))) Gd.no [],
   .mk (convR (Cv.int IntKind.u8) (X.t (i (i (o (o z)))))) (.some (o (o (i (o z))))) Gd.no [],
   .mk (bslR 1 1 [(AV.int IntKind.u8 0)] [(0, (X.t (o (o (i (o z))))))]) (.some (i (o (i (o z))))) Gd.no [],
   .mk (appR 1 1 (X.t (o (i (o (o z))))) (X.t (i (o (i (o z)))))) (.some (o (i (i (o z))))) Gd.no [],
   .mk (convR Cv.b2s (X.t (o (i (i (o z)))))) (.some (i (i (i (o z))))) Gd.no [],
   .mk (mvR (X.t (i (i (i (o z)))))) (.some (i z)) Gd.no []])
  .ret)))))
theorem C144ok : (match Tryz.f144.body with | some c => comp Tryz.prog 23 c | none => none) = some C144 := by kernel_rfl
@[go_sem] theorem call144 (args : List AV) (H : Heap) : callC Tryz.prog 144 args H = .call 144 args := callC_ok (by kernel_rfl) args H
theorem R144ok : resKs Tryz.prog Tryz.f144.results.toList = some [(RK.tmp (i z))] := by kernel_rfl

noncomputable def C145 : CC :=
  (.seq (.region [.mk (mvR (X.c (AV.str []))) (.some (i z)) Gd.no []])
  (.seq (.region [.mk (mvR (X.t z)) (.some (o (o z))) Gd.no [],
   .mk (lenR LnK.str (X.t (o (o z)))) (.some (i (o z))) Gd.no [],
   .mk (callS Tryz.prog 144 [(X.t (i (o z)))]) (.some (o (i z))) Gd.no [],
   .mk (mvR (X.t z)) (.some (i (i z))) Gd.no [],
   .mk (binR Tryz.prog EK.no .none false BinOp.add (X.t (o (i z))) (X.t (i (i z)))) (.some (o (o (o z)))) Gd.no [],
   .mk (mvR (X.t (o (o (o z))))) (.some (i z)) Gd.no []])
  .ret))
theorem C145ok : (match Tryz.f145.body with | some c => comp Tryz.prog 8 c | none => none) = some C145 := by kernel_rfl
@[go_sem] theorem call145 (args : List AV) (H : Heap) : callC Tryz.prog 145 args H = .call 145 args := callC_ok (by kernel_rfl) args H
theorem R145ok : resKs Tryz.prog Tryz.f145.results.toList = some [(RK.tmp (i z))] := by kernel_rfl

@[go_sem] theorem call151 (args : List AV) (H : Heap) : callC Tryz.prog 151 args H = .call 151 args := callC_ok (by kernel_rfl) args H
noncomputable def C152 : CC :=
  (.seq (.region [.mk (boxR false (X.t z)) (.some (o z)) Gd.no [],
   .mk (mvR (X.c (AV.bool false))) (.some (i z)) Gd.no []])
  (.seq (.region [.mk (faR 0 (X.t (o z))) (.some (o (o z))) Gd.no [],
   .mk (ldR false 1 (X.t (o (o z)))) (.some (i (o z))) Gd.no [],
   .mk (lenR LnK.str (X.t (i (o z)))) (.some (o (i z))) Gd.no [],
   .mk (binR Tryz.prog EK.no .none true BinOp.gtr (X.t (o (i z))) (X.c (AV.int .i64 255))) (.some (i (i z))) Gd.no [],
   .mk (mvR (X.t (i (i z)))) (.some (o (o (o z)))) Gd.no [],
   .mk (faR 1 (X.t (o z))) (.some (i (o (o z)))) (Gd.on (o (o (o z))) false) [],
   .mk (ldR false 1 (X.t (i (o (o z))))) (.some (o (i (o z)))) (Gd.on (o (o (o z))) false) [],
   .mk (lenR LnK.str (X.t (o (i (o z))))) (.some (i (i (o z)))) (Gd.on (o (o (o z))) false) [],
   .mk (binR Tryz.prog EK.no .none true BinOp.gtr (X.t (i (i (o z)))) (X.c (AV.int .i64 255))) (.some (o (o (i z)))) (Gd.on (o (o (o z))) false) [],
   .mk (pickR (X.t (o (o (o z)))) (X.c (AV.bool true)) (X.t (o (o (i z))))) (.some (i (o (i z)))) Gd.no [],
   .mk (mvR (X.t (i (o (i z))))) (.some (o (i (i z)))) Gd.no [],
   .mk (faR 2 (X.t (o z))) (.some (i (i (i z)))) (Gd.on (o (i (i z))) false) [],
   .mk (ldR false 1 (X.t (i (i (i z))))) (.some (o (o (o (o z))))) (Gd.on (o (i (i z))) false) [],
   .mk (binR Tryz.prog EK.no .none true BinOp.lss (X.t (o (o (o (o z))))) (X.c (AV.int .i64 0))) (.some (i (o (o (o z))))) (Gd.on (o (i (i z))) false) [],
   .mk (pickR (X.t (o (i (i z)))) (X.c (AV.bool true)) (X.t (i (o (o (o z)))))) (.some (o (i (o (o z))))) Gd.no [],
   .mk (mvR (X.t (o (i (o (o z)))))) (.some (i (i (o (o z))))) Gd.no [],
   .mk (faR 2 (X.t (o z))) (.some (o (o (i (o z))))) (Gd.on (i (i (o (o z)))) false) [],
   .mk (ldR false 1 (X.t (o (o (i (o z)))))) (.some (i (o (i (o z))))) (Gd.on (i (i (o (o z)))) false) [],
   .mk (binR Tryz.prog EK.no .none true BinOp.geq (X.t (i (o (i (o z))))) (X.c (AV.int .i64 281474976710656))) (.some (o (i (i (o z))))) (Gd.on (i (i (o (o z)))) false) [],
   .mk (pickR (X.t (i (i (o (o z))))) (X.c (AV.bool true)) (X.t (o (i (i (o z)))))) (.some (i (i (i (o z))))) Gd.no [],
   .mk (mvR (X.t (i (i (i (o z)))))) (.some (i z)) Gd.no []])
  .ret))
theorem C152ok : (match Tryz.f152.body with | some c => comp Tryz.prog 23 c | none => none) = some C152 := by kernel_rfl
@[go_sem] theorem call152 (args : List AV) (H : Heap) : callC Tryz.prog 152 args H = .call 152 args := callC_ok (by kernel_rfl) args H
theorem R152ok : resKs Tryz.prog Tryz.f152.results.toList = some [(RK.tmp (i z))] := by kernel_rfl

noncomputable def C153 : CC :=
  (.seq (.region [.mk (mvR (X.c (AV.bool false))) (.some (i (o z))) Gd.no []])
  (.seq (.region [.mk (mvR (X.t z)) (.some (o (i z))) Gd.no [],
   .mk (mvR (X.t (o z))) (.some (i (i z))) Gd.no [],
   .mk (callS Tryz.prog 157 [(X.t (o (i z))), (X.t (i (i z)))]) (.some (o (o (o z)))) Gd.no [],
   .mk (binR Tryz.prog EK.no .none true BinOp.geq (X.t (o (o (o z)))) (X.c (AV.int .i64 0))) (.some (i (o (o z)))) Gd.no [],
   .mk (mvR (X.t (i (o (o z))))) (.some (i (o z))) Gd.no []])
  .ret))
theorem C153ok : (match Tryz.f153.body with | some c => comp Tryz.prog 9 c | none => none) = some C153 := by kernel_rfl
@[go_sem] theorem call153 (args : List AV) (H : Heap) : callC Tryz.prog 153 args H = .call 153 args := callC_ok (by kernel_rfl) args H
theorem R153ok : resKs Tryz.prog Tryz.f153.results.toList = some [(RK.tmp (i (o z)))] := by kernel_rfl

noncomputable def C157L0 : CC :=
  (.seq (.region [.mk (binR Tryz.prog EK.no .none false BinOp.lss (X.t (i (o (o z)))) (X.t (o (o (o z))))) (.some (o (i (o z)))) Gd.no []])
  (.seq (.cond (X.t (o (i (o z))))
  .skip
  (.exit 0))
  (.seq (.block 1 (.seq (.region [.mk (mvR (X.t (i (o (o z))))) (.some (i (i (o z)))) Gd.no [],
   .mk (mvR (X.t (i (i (o z))))) (.some (o (i z))) Gd.no []])
  (.seq (.region [.mk (mvR (X.t (o z))) (.some (o (o (i z)))) Gd.no [],
   .mk (mvR (X.t z)) (.some (i (o (i z)))) Gd.no [],
   .mk (mvR (X.t (o (i z)))) (.some (o (i (i z)))) Gd.no [],
   .mk (iaS 3 (X.t (i (o (i z)))) (X.t (o (i (i z))))) (.some (i (i (i z)))) Gd.no [],
   .mk (ldR true 3 (X.t (i (i (i z))))) (.some (o (o (o (o z))))) Gd.no [],
   .mk (callX Tryz.prog (X.t (o (o (i z)))) [(X.t (o (o (o (o z)))))]) (.some (i (o (o (o z))))) Gd.no []])
  (.cond (X.t (i (o (o (o z)))))
  (.seq (.region [.mk (mvR (X.t (o (i z)))) (.some (o (i (o (o z))))) Gd.no [],
   .mk (mvR (X.t (o (i (o (o z)))))) (.some (i (o z))) Gd.no []])
  .ret)
  .skip))))
  (.region [.mk (binR Tryz.prog EK.no .none true BinOp.add (X.t (i (o (o z)))) (X.c (AV.int .i64 1))) (.some (i (i (o (o z))))) Gd.no [],
   .mk (mvR (X.t (i (i (o (o z)))))) (.some (i (o (o z)))) Gd.no []]))))
noncomputable def C157 : CC :=
  (.seq (.region [.mk (mvR (X.c (AV.int .i64 0))) (.some (i (o z))) Gd.no []])
  (.seq (.seq (.region [.mk (mvR (X.t z)) (.some (i (i z))) Gd.no [],
   .mk (lenR LnK.slice (X.t (i (i z)))) (.some (o (o (o z)))) Gd.no [],
   .mk (mvR (X.c (AV.int .i64 0))) (.some (i (o (o z)))) Gd.no []])
  (.block 0 (.loop C157L0)))
  (.seq (.region [.mk (mvR (X.c (AV.int .i64 (-1)))) (.some (i (o z))) Gd.no []])
  .ret)))
theorem C157ok : (match Tryz.f157.body with | some c => comp Tryz.prog 19 c | none => none) = some C157 := by kernel_rfl
@[go_sem] theorem call157 (args : List AV) (H : Heap) : callC Tryz.prog 157 args H = .call 157 args := callC_ok (by kernel_rfl) args H
theorem R157ok : resKs Tryz.prog Tryz.f157.results.toList = some [(RK.tmp (i (o z)))] := by kernel_rfl
end Go.Proofs
