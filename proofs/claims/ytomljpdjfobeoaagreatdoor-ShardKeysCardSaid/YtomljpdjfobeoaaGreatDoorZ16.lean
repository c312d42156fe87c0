/- The laid-out code of the functions that are walked. Printed by a program. -/
import Derived.Test.YtomljpdjfobeoaaGreatDoorZ15
import Derived.Test.YtomljpdjfobeoaaGreatDoorProg
import Derived.KernelRfl
set_option linter.all false
set_option maxRecDepth 100000
namespace Go.Proofs
open Go Go.Ev K
@[go_sem] theorem call40 (args : List AV) (H : Heap) : callC Tryz.prog 40 args H = .call 40 args := callC_ok (by kernel_rfl) args H
@[go_sem] theorem call51 (args : List AV) (H : Heap) : callC Tryz.prog 51 args H = .call 51 args := callC_ok (by kernel_rfl) args H
noncomputable def C61 : CC :=
  (.seq (.region [.mk (boxR false (X.t z)) (.some (i z)) Gd.no [],
   .mk (mvR (X.c (AV.bool false))) (.some (i (o z))) Gd.no []])
  (.seq (.region [.mk (ldR true 2 (X.t (i z))) (.some (o (i z))) Gd.no [],
   .mk (callS Tryz.prog 62 [(X.t (o (i z)))]) (.some (i (i z))) Gd.no [],
   .mk (mvR (X.t (i (i z)))) (.some (o (o (o z)))) Gd.no [],
   .mk (mvR (X.t (o z))) (.some (i (o (o z)))) (Gd.on (o (o (o z))) true) [],
   .mk (callS Tryz.prog 105 [(X.t (i (o (o z))))]) (.some (o (i (o z)))) (Gd.on (o (o (o z))) true) [],
   .mk (pickR (X.t (o (o (o z)))) (X.t (o (i (o z)))) (X.c (AV.bool false))) (.some (i (i (o z)))) Gd.no [],
   .mk (mvR (X.t (i (i (o z))))) (.some (o (o (i z)))) Gd.no [],
   .mk (mvR (X.t (o z))) (.some (i (o (i z)))) (Gd.on (o (o (i z))) true) [],
   .mk (faR 0 (X.t (i z))) (.some (o (i (i z)))) (Gd.on (o (o (i z))) true) [],
   .mk (ldR false 1 (X.t (o (i (i z))))) (.some (i (i (i z)))) (Gd.on (o (o (i z))) true) [],
   .mk (binR Tryz.prog EK.no .none false BinOp.geq (X.t (i (o (i z)))) (X.t (i (i (i z))))) (.some (o (o (o (o z))))) (Gd.on (o (o (i z))) true) [],
   .mk (pickR (X.t (o (o (i z)))) (X.t (o (o (o (o z))))) (X.c (AV.bool false))) (.some (i (o (o (o z))))) Gd.no [],
   .mk (mvR (X.t (i (o (o (o z)))))) (.some (o (i (o (o z))))) Gd.no [],
   .mk (faR 1 (X.t (i z))) (.some (i (i (o (o z))))) (Gd.on (o (i (o (o z)))) true) [],
   .mk (ldR false 1 (X.t (i (i (o (o z)))))) (.some (o (o (i (o z))))) (Gd.on (o (i (o (o z)))) true) [],
   .mk (binR Tryz.prog EK.no .none true BinOp.eql (X.t (o (o (i (o z))))) (X.c (AV.str []))) (.some (i (o (i (o z))))) (Gd.on (o (i (o (o z)))) true) [],
   .mk (mvR (X.t (i (o (i (o z)))))) (.some (o (i (i (o z))))) (Gd.on (o (i (o (o z)))) true) [],
   .mk (mvR (X.t (o z))) (.some (i (i (i (o z))))) (Gd.on (o (i (i (o z)))) false) [],
   .mk (faR 1 (X.t (i z))) (.some (o (o (o (i z))))) (Gd.on (o (i (i (o z)))) false) [],
   .mk (ldR false 1 (X.t (o (o (o (i z)))))) (.some (i (o (o (i z))))) (Gd.on (o (i (i (o z)))) false) [],
   .mk (binR Tryz.prog EK.no .none false BinOp.lss (X.t (i (i (i (o z))))) (X.t (i (o (o (i z)))))) (.some (o (i (o (i z))))) (Gd.on (o (i (i (o z)))) false) [],
   .mk (pickR (X.t (o (i (i (o z))))) (X.c (AV.bool true)) (X.t (o (i (o (i z)))))) (.some (i (i (o (i z))))) (Gd.on (o (i (o (o z)))) true) [],
   .mk (pickR (X.t (o (i (o (o z))))) (X.t (i (i (o (i z))))) (X.c (AV.bool false))) (.some (o (o (i (i z))))) Gd.no [],
   .mk (mvR (X.t (o (o (i (i z)))))) (.some (i (o z))) Gd.no []])
  .ret))
theorem C61ok : (match Tryz.f61.body with | some c => comp Tryz.prog 28 c | none => none) = some C61 := by kernel_rfl
@[go_sem] theorem call61 (args : List AV) (H : Heap) : callC Tryz.prog 61 args H = .call 61 args := callC_ok (by kernel_rfl) args H
theorem R61ok : resKs Tryz.prog Tryz.f61.results.toList = some [(RK.tmp (i (o z)))] := by kernel_rfl

noncomputable def C62 : CC :=
  (.seq (.region [.mk (boxR false (X.t z)) (.some (o z)) Gd.no [],
   .mk (mvR (X.c (AV.bool false))) (.some (i z)) Gd.no []])
  (.seq (.block 0 (.seq (.block 2 (.block 1 (.seq (.seq (.seq (.region [.mk (faR 0 (X.t (o z))) (.some (i (o z))) Gd.no [],
   .mk (ldR false 1 (X.t (i (o z)))) (.some (o (i z))) Gd.no [],
   .mk (lenR LnK.str (X.t (o (i z)))) (.some (i (i z))) Gd.no [],
   .mk (binR Tryz.prog EK.no .none true BinOp.gtr (X.t (i (i z))) (X.c (AV.int .i64 8))) (.some (o (o (o z)))) Gd.no [],
   .mk (mvR (X.t (o (o (o z))))) (.some (o (o z))) Gd.no []])
  (.cond (X.t (o (o z)))
  (.exit 1)
  .skip))
  (.seq (.region [.mk (faR 1 (X.t (o z))) (.some (o (i (o z)))) Gd.no [],
   .mk (ldR false 1 (X.t (o (i (o z))))) (.some (i (i (o z)))) Gd.no [],
   .mk (lenR LnK.str (X.t (i (i (o z))))) (.some (o (o (i z)))) Gd.no [],
   .mk (binR Tryz.prog EK.no .none true BinOp.gtr (X.t (o (o (i z)))) (X.c (AV.int .i64 8))) (.some (i (o (i z)))) Gd.no [],
   .mk (mvR (X.t (i (o (i z))))) (.some (i (o (o z)))) Gd.no []])
  (.cond (X.t (i (o (o z))))
  (.exit 2)
  .skip)))
  (.exit 0))))
  (.seq (.seq (.region [.mk (mvR (X.c (AV.bool false))) (.some (i z)) Gd.no []])
  .ret)
  (.exit 0))))
  (.seq (.region [.mk (faR 1 (X.t (o z))) (.some (o (i (i z)))) Gd.no [],
   .mk (ldR false 1 (X.t (o (i (i z))))) (.some (i (i (i z)))) Gd.no [],
   .mk (binR Tryz.prog EK.no .none true BinOp.eql (X.t (i (i (i z)))) (X.c (AV.str []))) (.some (o (o (o (o z))))) Gd.no [],
   .mk (mvR (X.t (o (o (o (o z)))))) (.some (i (o (o (o z))))) Gd.no [],
   .mk (faR 1 (X.t (o z))) (.some (o (i (o (o z))))) (Gd.on (i (o (o (o z)))) false) [],
   .mk (ldR false 1 (X.t (o (i (o (o z)))))) (.some (i (i (o (o z))))) (Gd.on (i (o (o (o z)))) false) [],
   .mk (faR 0 (X.t (o z))) (.some (o (o (i (o z))))) (Gd.on (i (o (o (o z)))) false) [],
   .mk (ldR false 1 (X.t (o (o (i (o z)))))) (.some (i (o (i (o z))))) (Gd.on (i (o (o (o z)))) false) [],
   .mk (binR Tryz.prog EK.no .none false BinOp.gtr (X.t (i (i (o (o z))))) (X.t (i (o (i (o z)))))) (.some (o (i (i (o z))))) (Gd.on (i (o (o (o z)))) false) [],
   .mk (pickR (X.t (i (o (o (o z))))) (X.c (AV.bool true)) (X.t (o (i (i (o z)))))) (.some (i (i (i (o z))))) Gd.no [],
   .mk (mvR (X.t (i (i (i (o z)))))) (.some (i z)) Gd.no []])
  .ret)))
theorem C62ok : (match Tryz.f62.body with | some c => comp Tryz.prog 23 c | none => none) = some C62 := by kernel_rfl
@[go_sem] theorem call62 (args : List AV) (H : Heap) : callC Tryz.prog 62 args H = .call 62 args := callC_ok (by kernel_rfl) args H
theorem R62ok : resKs Tryz.prog Tryz.f62.results.toList = some [(RK.tmp (i z))] := by kernel_rfl

noncomputable def C65L0 : CC :=
  (.seq (.region [.mk (binR Tryz.prog EK.no .none false BinOp.lss (X.t (o (o (o z)))) (X.t (i (i z)))) (.some (i (o (o z)))) Gd.no []])
  (.seq (.cond (X.t (i (o (o z))))
  .skip
  (.exit 0))
  (.seq (.block 1 (.seq (.region [.mk (mvR (X.t (o (o (o z))))) (.some (o (i (o z)))) Gd.no [],
   .mk (iaS 6 (X.t (o (i z))) (X.t (o (o (o z))))) (.some (i (i (o z)))) Gd.no [],
   .mk (ldR true 6 (X.t (i (i (o z))))) (.some (o (o (i z)))) Gd.no [],
   .mk (fun _ H => newC false [(AV.int .i64 0), (AV.int .i64 0), (AV.int .i64 0), (AV.str []), (AV.int .i64 0), AV.nils] H) (.some (i (o z))) Gd.no [],
   .mk (mvR (X.t (o (i (o z))))) (.some (o (o z))) Gd.no [],
   .mk (stR 6 (X.t (i (o z))) (X.t (o (o (i z))))) .none Gd.no []])
  (.block 2 (.seq (.block 5 (.block 4 (.block 3 (.seq (.seq (.seq (.region [.mk (faR 0 (X.t (i (o z)))) (.some (o (i (i z)))) Gd.no [],
   .mk (ldR false 1 (X.t (o (i (i z))))) (.some (i (i (i z)))) Gd.no [],
   .mk (binR Tryz.prog EK.no .none true BinOp.lss (X.t (i (i (i z)))) (X.c (AV.int .i64 0))) (.some (o (o (o (o z))))) Gd.no [],
   .mk (mvR (X.t (o (o (o (o z)))))) (.some (i (o (o (o z))))) Gd.no [],
   .mk (faR 0 (X.t (i (o z)))) (.some (o (i (o (o z))))) (Gd.on (i (o (o (o z)))) false) [],
   .mk (ldR false 1 (X.t (o (i (o (o z)))))) (.some (i (i (o (o z))))) (Gd.on (i (o (o (o z)))) false) [],
   .mk (binR Tryz.prog EK.no .none true BinOp.geq (X.t (i (i (o (o z))))) (X.c (AV.int .i64 3))) (.some (o (o (i (o z))))) (Gd.on (i (o (o (o z)))) false) [],
   .mk (pickR (X.t (i (o (o (o z))))) (X.c (AV.bool true)) (X.t (o (o (i (o z)))))) (.some (i (o (i (o z))))) Gd.no [],
   .mk (mvR (X.t (i (o (i (o z)))))) (.some (i (o (i z)))) Gd.no []])
  (.cond (X.t (i (o (i z))))
  (.exit 3)
  .skip))
  (.seq (.seq (.regionD [.mk (keepH (mvR (X.t (o (o z))))) (.some (i (i (i (o z))))) Gd.no [],
   .mk (keepH (binR Tryz.prog EK.no .none true BinOp.gtr (X.t (i (i (i (o z))))) (X.c (AV.int .i64 0)))) (.some (o (o (o (i z))))) Gd.no [],
   .mk (keepH (mvR (X.t (o (o (o (i z))))))) (.some (i (o (o (i z))))) Gd.no [],
   .mk (keepH (faR 0 (X.t (i (o z))))) (.some (o (o (o (o (o z)))))) (Gd.on (i (o (o (i z)))) true) [],
   .mk (keepH (ldR false 1 (X.t (o (o (o (o (o z)))))))) (.some (i (o (o (o (o z)))))) (Gd.on (i (o (o (i z)))) true) [],
   .mk (keepH (mvR (X.t (o (o z))))) (.some (i (i (o (i z))))) (Gd.on (i (o (o (i z)))) true) [],
   .mk (keepH (binR Tryz.prog EK.no .none true BinOp.sub (X.t (i (i (o (i z))))) (X.c (AV.int .i64 1)))) (.some (o (o (i (i z))))) (Gd.on (i (o (o (i z)))) true) [],
   .mk (keepH (mvR (X.t z))) (.some (o (i (o (i z))))) (Gd.on (i (o (o (i z)))) true) [],
   .mk (keepH (iaS 6 (X.t (o (i (o (i z))))) (X.t (o (o (i (i z))))))) (.some (i (o (i (i z))))) (Gd.on (i (o (o (i z)))) true) [],
   .mk (keepH (faR 0 (X.t (i (o (i (i z))))))) (.some (o (i (i (i z))))) (Gd.on (i (o (o (i z)))) true) [],
   .mk (keepH (ldR false 1 (X.t (o (i (i (i z))))))) (.some (i (i (i (i z))))) (Gd.on (i (o (o (i z)))) true) [],
   .mk (keepH (binR Tryz.prog EK.no .none false BinOp.geq (X.t (i (i (i (i z))))) (X.t (i (o (o (o (o z)))))))) (.some (o (i (o (o (o z)))))) (Gd.on (i (o (o (i z)))) true) [],
   .mk (keepH (pickR (X.t (i (o (o (i z))))) (X.t (o (i (o (o (o z)))))) (X.c (AV.bool false)))) (.some (i (i (o (o (o z)))))) Gd.no [],
   .mk (mvR (X.t (i (i (o (o (o z))))))) (.some (o (i (i (o z))))) Gd.no []])
  (.cond (X.t (o (i (i (o z)))))
  (.exit 4)
  .skip))
  (.seq (.region [.mk (faR 1 (X.t (i (o z)))) (.some (i (o (i (o (o z)))))) Gd.no [],
   .mk (ldR false 1 (X.t (i (o (i (o (o z))))))) (.some (o (i (i (o (o z)))))) Gd.no [],
   .mk (binR Tryz.prog EK.no .none true BinOp.lss (X.t (o (i (i (o (o z)))))) (X.c (AV.int .i64 1))) (.some (i (i (i (o (o z)))))) Gd.no [],
   .mk (mvR (X.t (i (i (i (o (o z))))))) (.some (o (o (o (i (o z)))))) Gd.no [],
   .mk (faR 1 (X.t (i (o z)))) (.some (i (o (o (i (o z)))))) (Gd.on (o (o (o (i (o z))))) false) [],
   .mk (ldR false 1 (X.t (i (o (o (i (o z))))))) (.some (o (i (o (i (o z)))))) (Gd.on (o (o (o (i (o z))))) false) [],
   .mk (binR Tryz.prog EK.no .none true BinOp.gtr (X.t (o (i (o (i (o z)))))) (X.c (AV.int .i64 1000000000000))) (.some (i (i (o (i (o z)))))) (Gd.on (o (o (o (i (o z))))) false) [],
   .mk (pickR (X.t (o (o (o (i (o z)))))) (X.c (AV.bool true)) (X.t (i (i (o (i (o z))))))) (.some (o (o (i (i (o z)))))) Gd.no [],
   .mk (mvR (X.t (o (o (i (i (o z))))))) (.some (i (o (i (i (o z)))))) Gd.no [],
   .mk (faR 2 (X.t (i (o z)))) (.some (o (i (i (i (o z)))))) (Gd.on (i (o (i (i (o z))))) false) [],
   .mk (ldR true 4 (X.t (o (i (i (i (o z))))))) (.some (i (i (i (i (o z)))))) (Gd.on (i (o (i (i (o z))))) false) [],
   .mk (callS Tryz.prog 119 [(X.t (i (i (i (i (o z))))))]) (.some (o (o (o (o (i z)))))) (Gd.on (i (o (i (i (o z))))) false) [],
   .mk (binR Tryz.prog EK.no .none true BinOp.eql (X.t (o (o (o (o (i z)))))) (X.c (AV.str []))) (.some (i (o (o (o (i z)))))) (Gd.on (i (o (i (i (o z))))) false) [],
   .mk (pickR (X.t (i (o (i (i (o z)))))) (X.c (AV.bool true)) (X.t (i (o (o (o (i z))))))) (.some (o (i (o (o (i z)))))) Gd.no [],
   .mk (mvR (X.t (o (i (o (o (i z))))))) (.some (o (o (i (o (o z)))))) Gd.no []])
  (.cond (X.t (o (o (i (o (o z))))))
  (.exit 5)
  .skip))))
  (.exit 2)))))
  (.seq (.seq (.region [.mk (mvR (X.c (AV.bool false))) (.some (i z)) Gd.no []])
  .ret)
  (.exit 2))))))
  (.region [.mk (binR Tryz.prog EK.no .none true BinOp.add (X.t (o (o (o z)))) (X.c (AV.int .i64 1))) (.some (i (i (o (o (i z)))))) Gd.no [],
   .mk (mvR (X.t (i (i (o (o (i z))))))) (.some (o (o (o z)))) Gd.no []]))))
noncomputable def C65 : CC :=
  (.seq (.region [.mk (mvR (X.c (AV.bool false))) (.some (i z)) Gd.no []])
  (.seq (.seq (.region [.mk (mvR (X.t z)) (.some (o (i z))) Gd.no [],
   .mk (lenR LnK.slice (X.t (o (i z)))) (.some (i (i z))) Gd.no [],
   .mk (mvR (X.c (AV.int .i64 0))) (.some (o (o (o z)))) Gd.no []])
  (.block 0 (.loop C65L0)))
  (.seq (.region [.mk (mvR (X.c (AV.bool true))) (.some (i z)) Gd.no []])
  .ret)))
theorem C65ok : (match Tryz.f65.body with | some c => comp Tryz.prog 51 c | none => none) = some C65 := by kernel_rfl
@[go_sem] theorem call65 (args : List AV) (H : Heap) : callC Tryz.prog 65 args H = .call 65 args := callC_ok (by kernel_rfl) args H
theorem R65ok : resKs Tryz.prog Tryz.f65.results.toList = some [(RK.tmp (i z))] := by kernel_rfl

noncomputable def C66L0 : CC :=
  (.seq (.region [.mk (binR Tryz.prog EK.no .none false BinOp.lss (X.t (i (o (i z)))) (X.t (o (o (i z))))) (.some (o (i (i z)))) Gd.no []])
  (.seq (.cond (X.t (o (i (i z))))
  .skip
  (.exit 0))
  (.seq (.block 1 (.seq (.region [.mk (iaS 6 (X.t (i (i (o z)))) (X.t (i (o (i z))))) (.some (i (i (i z)))) Gd.no [],
   .mk (ldR true 6 (X.t (i (i (i z))))) (.some (o (o (o (o z))))) Gd.no [],
   .mk (fun _ H => newC false [(AV.int .i64 0), (AV.int .i64 0), (AV.int .i64 0), (AV.str []), (AV.int .i64 0), AV.nils] H) (.some (o (i (o z)))) Gd.no [],
   .mk (stR 6 (X.t (o (i (o z)))) (X.t (o (o (o (o z)))))) .none Gd.no []])
  (.block 2 (.seq (.region [.mk (faR 0 (X.t (o (i (o z))))) (.some (i (i (o (o z))))) Gd.no [],
   .mk (ldR false 1 (X.t (i (i (o (o z)))))) (.some (o (o (i (o z))))) Gd.no [],
   .mk (mvR (X.t (o z))) (.some (i (o (i (o z))))) Gd.no [],
   .mk (binR Tryz.prog EK.no .none false BinOp.neq (X.t (o (o (i (o z))))) (X.t (i (o (i (o z)))))) (.some (o (i (i (o z))))) Gd.no [],
   .mk (mvR (X.t (o (i (i (o z)))))) (.some (i (i (i (o z))))) Gd.no [],
   .mk (mvR (X.t (i z))) (.some (o (o (o (i z))))) (Gd.on (i (i (i (o z)))) false) [],
   .mk (faR 1 (X.t (o (i (o z))))) (.some (i (o (o (i z))))) (Gd.on (i (i (i (o z)))) false) [],
   .mk (ldR false 1 (X.t (i (o (o (i z)))))) (.some (o (i (o (i z))))) (Gd.on (i (i (i (o z)))) false) [],
   .mk (binR Tryz.prog EK.no .none false BinOp.gtr (X.t (o (o (o (i z))))) (X.t (o (i (o (i z)))))) (.some (i (i (o (i z))))) (Gd.on (i (i (i (o z)))) false) [],
   .mk (pickR (X.t (i (i (i (o z))))) (X.c (AV.bool true)) (X.t (i (i (o (i z)))))) (.some (o (o (i (i z))))) Gd.no [],
   .mk (mvR (X.t (o (o (i (i z)))))) (.some (o (i (o (o z))))) Gd.no []])
  (.cond (X.t (o (i (o (o z)))))
  .skip
  (.seq (.region [.mk (mvR (X.t (i z))) (.some (o (i (i (i z))))) Gd.no [],
   .mk (faR 1 (X.t (o (i (o z))))) (.some (i (i (i (i z))))) Gd.no [],
   .mk (ldR false 1 (X.t (i (i (i (i z)))))) (.some (o (o (o (o (o z)))))) Gd.no [],
   .mk (binR Tryz.prog EK.no .none false BinOp.eql (X.t (o (i (i (i z))))) (X.t (o (o (o (o (o z))))))) (.some (i (o (o (o (o z)))))) Gd.no [],
   .mk (mvR (X.t (i (o (o (o (o z))))))) (.some (i (o (i (i z))))) Gd.no []])
  (.cond (X.t (i (o (i (i z)))))
  (.seq (.region [.mk (faR 2 (X.t (o (i (o z))))) (.some (o (i (o (o (o z)))))) Gd.no [],
   .mk (faR 3 (X.t (o (i (o (o (o z))))))) (.some (i (i (o (o (o z)))))) Gd.no [],
   .mk (ldR false 1 (X.t (i (i (o (o (o z))))))) (.some (o (o (i (o (o z)))))) Gd.no [],
   .mk (callS Tryz.prog 120 [(X.t (o (o (i (o (o z))))))]) (.some (i (o (i (o (o z)))))) Gd.no [],
   .mk (faR 2 (X.t (o (i (o z))))) (.some (o (i (i (o (o z)))))) Gd.no [],
   .mk (faR 3 (X.t (o (i (i (o (o z))))))) (.some (i (i (i (o (o z)))))) Gd.no [],
   .mk (stR 1 (X.t (i (i (i (o (o z)))))) (X.t (i (o (i (o (o z))))))) .none Gd.no []])
  (.seq (.region [.mk (faR 2 (X.t (o (i (o z))))) (.some (o (o (o (i (o z)))))) Gd.no [],
   .mk (ldR true 4 (X.t (o (o (o (i (o z))))))) (.some (i (o (o (i (o z)))))) Gd.no [],
   .mk (stR 4 (X.t (i (i z))) (X.t (i (o (o (i (o z))))))) .none Gd.no [],
   .mk (mvR (X.c (AV.int .i64 1))) (.some (o (o (o z)))) Gd.no []])
  .ret))
  (.seq (.region [.mk (buildR [(AV.int .i64 0), (AV.str []), (AV.int .i64 0), AV.nils] []) (.some (i (o (o (o z))))) Gd.no [],
   .mk (stR 4 (X.t (i (i z))) (X.t (i (o (o (o z)))))) .none Gd.no [],
   .mk (mvR (X.c (AV.int .i64 2))) (.some (o (o (o z)))) Gd.no []])
  .ret))))))))
  (.region [.mk (binR Tryz.prog EK.no .none true BinOp.add (X.t (i (o (i z)))) (X.c (AV.int .i64 1))) (.some (o (i (o (i (o z)))))) Gd.no [],
   .mk (mvR (X.t (o (i (o (i (o z))))))) (.some (i (o (i z)))) Gd.no []]))))
noncomputable def C66 : CC :=
  (.seq (.region [.mk (fun _ H => newC false [(AV.int .i64 0), (AV.str []), (AV.int .i64 0), AV.nils] H) (.some (i (i z))) Gd.no [],
   .mk (mvR (X.c (AV.int .i64 0))) (.some (o (o (o z)))) Gd.no []])
  (.seq (.seq (.region [.mk (mvR (X.t z)) (.some (i (i (o z)))) Gd.no [],
   .mk (lenR LnK.slice (X.t (i (i (o z))))) (.some (o (o (i z)))) Gd.no [],
   .mk (mvR (X.c (AV.int .i64 0))) (.some (i (o (i z)))) Gd.no []])
  (.block 0 (.loop C66L0)))
  (.seq (.region [.mk (buildR [(AV.int .i64 0), (AV.str []), (AV.int .i64 0), AV.nils] []) (.some (i (i (o (i (o z)))))) Gd.no [],
   .mk (stR 4 (X.t (i (i z))) (X.t (i (i (o (i (o z))))))) .none Gd.no [],
   .mk (mvR (X.c (AV.int .i64 0))) (.some (o (o (o z)))) Gd.no []])
  .ret)))
theorem C66ok : (match Tryz.f66.body with | some c => comp Tryz.prog 43 c | none => none) = some C66 := by kernel_rfl
@[go_sem] theorem call66 (args : List AV) (H : Heap) : callC Tryz.prog 66 args H = .call 66 args := callC_ok (by kernel_rfl) args H
theorem R66ok : resKs Tryz.prog Tryz.f66.results.toList = some [(RK.cell (i (i z)) true 4), (RK.tmp (o (o (o z))))] := by kernel_rfl

noncomputable def C68L0 : CC :=
  (.seq (.seq (.regionD [.mk (keepH (mvR (X.t (o (i z))))) (.some (i (i (o z)))) Gd.no [],
   .mk (keepH (lenR LnK.slice (X.t (i (i (o z)))))) (.some (o (o (i z)))) Gd.no [],
   .mk (keepH (mvR (X.t (i (i z))))) (.some (o (i (o z)))) Gd.no [],
   .mk (keepH (binR Tryz.prog EK.no .none false BinOp.lss (X.t (o (i (o z)))) (X.t (o (o (i z)))))) (.some (i (o (i z)))) Gd.no [],
   .mk (keepH (mvR (X.t (i (o (i z)))))) (.some (o (i (i z)))) Gd.no [],
   .mk (keepH (faR 0 (X.t (o (o z))))) (.some (o (o (i (o z))))) (Gd.on (o (i (i z))) true) [],
   .mk (keepH (ldR false 1 (X.t (o (o (i (o z))))))) (.some (i (o (i (o z))))) (Gd.on (o (i (i z))) true) [],
   .mk (keepH (mvR (X.t (i (i z))))) (.some (o (o (o (o z))))) (Gd.on (o (i (i z))) true) [],
   .mk (keepH (mvR (X.t (o (i z))))) (.some (i (i (i z)))) (Gd.on (o (i (i z))) true) [],
   .mk (keepH (iaS 6 (X.t (i (i (i z)))) (X.t (o (o (o (o z))))))) (.some (i (o (o (o z))))) (Gd.on (o (i (i z))) true) [],
   .mk (keepH (faR 0 (X.t (i (o (o (o z))))))) (.some (o (i (o (o z))))) (Gd.on (o (i (i z))) true) [],
   .mk (keepH (ldR false 1 (X.t (o (i (o (o z))))))) (.some (i (i (o (o z))))) (Gd.on (o (i (i z))) true) [],
   .mk (keepH (binR Tryz.prog EK.no .none false BinOp.lss (X.t (i (i (o (o z))))) (X.t (i (o (i (o z))))))) (.some (o (i (i (o z))))) (Gd.on (o (i (i z))) true) [],
   .mk (keepH (pickR (X.t (o (i (i z)))) (X.t (o (i (i (o z))))) (X.c (AV.bool false)))) (.some (i (i (i (o z))))) Gd.no []])
  (.cond (X.t (i (i (i (o z)))))
  .skip
  (.exit 0)))
  (.block 1 (.region [.mk (mvR (X.t (i (i z)))) (.some (o (o (o (i z))))) Gd.no [],
   .mk (binR Tryz.prog EK.no .none true BinOp.add (X.t (o (o (o (i z))))) (X.c (AV.int .i64 1))) (.some (i (o (o (i z))))) Gd.no [],
   .mk (mvR (X.t (i (o (o (i z)))))) (.some (i (i z))) Gd.no []])))
noncomputable def C68 : CC :=
  (.seq (.region [.mk (boxR false (X.t (o z))) (.some (o (o z))) Gd.no [],
   .mk (mvR (X.c AV.nils)) (.some (i (o z))) Gd.no []])
  (.seq (.region [.mk (mvR (X.t z)) (.some (o (o (o z)))) Gd.no [],
   .mk (callS Tryz.prog 74 [(X.t (o (o (o z))))]) (.some (i (o (o z)))) Gd.no [],
   .mk (mvR (X.t (i (o (o z))))) (.some (o (i z))) Gd.no []])
  (.seq (.region [.mk (mvR (X.c (AV.int .i64 0))) (.some (i (i z))) Gd.no []])
  (.seq (.block 0 (.loop C68L0))
  (.seq (.seq (.regionD [.mk (keepH (mvR (X.t (o (i z))))) (.some (i (i (o (i z))))) Gd.no [],
   .mk (keepH (lenR LnK.slice (X.t (i (i (o (i z))))))) (.some (o (o (i (i z))))) Gd.no [],
   .mk (keepH (mvR (X.t (i (i z))))) (.some (o (i (o (i z))))) Gd.no [],
   .mk (keepH (binR Tryz.prog EK.no .none false BinOp.eql (X.t (o (i (o (i z))))) (X.t (o (o (i (i z))))))) (.some (i (o (i (i z))))) Gd.no [],
   .mk (keepH (mvR (X.t (i (o (i (i z))))))) (.some (o (i (i (i z))))) Gd.no [],
   .mk (keepH (faR 0 (X.t (o (o z))))) (.some (o (o (i (o (o z)))))) (Gd.on (o (i (i (i z)))) false) [],
   .mk (keepH (ldR false 1 (X.t (o (o (i (o (o z)))))))) (.some (i (o (i (o (o z)))))) (Gd.on (o (i (i (i z)))) false) [],
   .mk (keepH (mvR (X.t (i (i z))))) (.some (o (o (o (o (o z)))))) (Gd.on (o (i (i (i z)))) false) [],
   .mk (keepH (mvR (X.t (o (i z))))) (.some (i (i (i (i z))))) (Gd.on (o (i (i (i z)))) false) [],
   .mk (keepH (iaS 6 (X.t (i (i (i (i z))))) (X.t (o (o (o (o (o z)))))))) (.some (i (o (o (o (o z)))))) (Gd.on (o (i (i (i z)))) false) [],
   .mk (keepH (faR 0 (X.t (i (o (o (o (o z)))))))) (.some (o (i (o (o (o z)))))) (Gd.on (o (i (i (i z)))) false) [],
   .mk (keepH (ldR false 1 (X.t (o (i (o (o (o z)))))))) (.some (i (i (o (o (o z)))))) (Gd.on (o (i (i (i z)))) false) [],
   .mk (keepH (binR Tryz.prog EK.no .none false BinOp.neq (X.t (i (i (o (o (o z)))))) (X.t (i (o (i (o (o z)))))))) (.some (o (i (i (o (o z)))))) (Gd.on (o (i (i (i z)))) false) [],
   .mk (keepH (pickR (X.t (o (i (i (i z))))) (X.c (AV.bool true)) (X.t (o (i (i (o (o z)))))))) (.some (i (i (i (o (o z)))))) Gd.no []])
  (.cond (X.t (i (i (i (o (o z))))))
  (.seq (.region [.mk (mvR (X.t (o (i z)))) (.some (o (o (o (i (o z)))))) Gd.no [],
   .mk (mvR (X.t (i (i z)))) (.some (i (o (o (i (o z)))))) Gd.no [],
   .mk (ldR true 6 (X.t (o (o z)))) (.some (o (i (o (i (o z)))))) Gd.no [],
   .mk (bslR 6 1 [(AV.int .i64 0), (AV.int .i64 0), (AV.int .i64 0), (AV.str []), (AV.int .i64 0), AV.nils] [(0, (X.t (o (i (o (i (o z)))))))]) (.some (i (i (o (i (o z)))))) Gd.no [],
   .mk (callS Tryz.prog 121 [(X.t (o (o (o (i (o z)))))), (X.t (i (o (o (i (o z)))))), (X.t (i (i (o (i (o z))))))]) (.some (o (o (i (i (o z)))))) Gd.no [],
   .mk (mvR (X.t (o (o (i (i (o z))))))) (.some (i (o z))) Gd.no []])
  .ret)
  .skip))
  (.seq (.seq (.regionD [.mk (keepH (mvR (X.t (i (i z))))) (.some (o (o (o (o (i z)))))) Gd.no [],
   .mk (keepH (mvR (X.t (o (i z))))) (.some (i (i (i (i (o z)))))) Gd.no [],
   .mk (keepH (iaS 6 (X.t (i (i (i (i (o z)))))) (X.t (o (o (o (o (i z)))))))) (.some (i (o (o (o (i z)))))) Gd.no [],
   .mk (keepH (faR 1 (X.t (i (o (o (o (i z)))))))) (.some (o (i (o (o (i z)))))) Gd.no [],
   .mk (keepH (ldR false 1 (X.t (o (i (o (o (i z)))))))) (.some (i (i (o (o (i z)))))) Gd.no [],
   .mk (keepH (faR 1 (X.t (o (o z))))) (.some (i (o (i (i (o z)))))) Gd.no [],
   .mk (keepH (ldR false 1 (X.t (i (o (i (i (o z)))))))) (.some (o (i (i (i (o z)))))) Gd.no [],
   .mk (keepH (binR Tryz.prog EK.no .none false BinOp.geq (X.t (o (i (i (i (o z)))))) (X.t (i (i (o (o (i z)))))))) (.some (o (o (i (o (i z)))))) Gd.no []])
  (.cond (X.t (o (o (i (o (i z))))))
  (.region [.mk (mvR (X.t (o (i z)))) (.some (i (o (i (o (i z)))))) Gd.no [],
   .mk (mvR (X.t (i (i z)))) (.some (o (i (i (o (i z)))))) Gd.no [],
   .mk (ldR true 6 (X.t (o (o z)))) (.some (i (i (i (o (i z)))))) Gd.no [],
   .mk (iaS 6 (X.t (i (o (i (o (i z)))))) (X.t (o (i (i (o (i z))))))) (.some (o (o (o (i (i z)))))) Gd.no [],
   .mk (stR 6 (X.t (o (o (o (i (i z)))))) (X.t (i (i (i (o (i z))))))) .none Gd.no []])
  .skip))
  (.seq (.region [.mk (mvR (X.t (o (i z)))) (.some (i (o (o (i (i z)))))) Gd.no [],
   .mk (mvR (X.t (i (o (o (i (i z))))))) (.some (i (o z))) Gd.no []])
  .ret)))))))
theorem C68ok : (match Tryz.f68.body with | some c => comp Tryz.prog 57 c | none => none) = some C68 := by kernel_rfl
@[go_sem] theorem call68 (args : List AV) (H : Heap) : callC Tryz.prog 68 args H = .call 68 args := callC_ok (by kernel_rfl) args H
theorem R68ok : resKs Tryz.prog Tryz.f68.results.toList = some [(RK.tmp (i (o z)))] := by kernel_rfl

noncomputable def C73L0 : CC :=
  (.seq (.region [.mk (binR Tryz.prog EK.no .none false BinOp.lss (X.t (i (i (o z)))) (X.t (o (i (o z))))) (.some (o (o (i z)))) Gd.no []])
  (.seq (.cond (X.t (o (o (i z))))
  .skip
  (.exit 0))
  (.seq (.block 1 (.seq (.region [.mk (iaS 5 (X.t (i (o (o z)))) (X.t (i (i (o z))))) (.some (i (o (i z)))) Gd.no [],
   .mk (ldR true 5 (X.t (i (o (i z))))) (.some (o (i (i z)))) Gd.no [],
   .mk (fun _ H => newC false [(AV.str []), (AV.str []), (AV.int .i64 0), (AV.bool false), (AV.int .i64 0)] H) (.some (o (o (o z)))) Gd.no [],
   .mk (stR 5 (X.t (o (o (o z)))) (X.t (o (i (i z))))) .none Gd.no []])
  (.seq (.region [.mk (ldR true 2 (X.t (o (o z)))) (.some (i (i (i z)))) Gd.no [],
   .mk (faR 0 (X.t (o (o (o z))))) (.some (o (o (o (o z))))) Gd.no [],
   .mk (ldR false 1 (X.t (o (o (o (o z)))))) (.some (i (o (o (o z))))) Gd.no [],
   .mk (callS Tryz.prog 61 [(X.t (i (i (i z)))), (X.t (i (o (o (o z)))))]) (.some (o (i (o (o z))))) Gd.no []])
  (.cond (X.t (o (i (o (o z)))))
  (.region [.mk (mvR (X.t (o (i z)))) (.some (i (i (o (o z))))) Gd.no [],
   .mk (ldR true 5 (X.t (o (o (o z))))) (.some (o (o (i (o z))))) Gd.no [],
   .mk (bslR 5 1 [(AV.str []), (AV.str []), (AV.int .i64 0), (AV.bool false), (AV.int .i64 0)] [(0, (X.t (o (o (i (o z))))))]) (.some (i (o (i (o z))))) Gd.no [],
   .mk (appR 5 56 (X.t (i (i (o (o z))))) (X.t (i (o (i (o z)))))) (.some (o (i (i (o z))))) Gd.no [],
   .mk (mvR (X.t (o (i (i (o z)))))) (.some (o (i z))) Gd.no []])
  .skip))))
  (.region [.mk (binR Tryz.prog EK.no .none true BinOp.add (X.t (i (i (o z)))) (X.c (AV.int .i64 1))) (.some (i (i (i (o z))))) Gd.no [],
   .mk (mvR (X.t (i (i (i (o z)))))) (.some (i (i (o z)))) Gd.no []]))))
noncomputable def C73 : CC :=
  (.seq (.region [.mk (boxR false (X.t (o z))) (.some (o (o z))) Gd.no [],
   .mk (mvR (X.c AV.nils)) (.some (i (o z))) Gd.no []])
  (.seq (.region [.mk (mvR (X.c AV.nils)) (.some (o (i z))) Gd.no []])
  (.seq (.seq (.region [.mk (mvR (X.t z)) (.some (i (o (o z)))) Gd.no [],
   .mk (lenR LnK.slice (X.t (i (o (o z))))) (.some (o (i (o z)))) Gd.no [],
   .mk (mvR (X.c (AV.int .i64 0))) (.some (i (i (o z)))) Gd.no []])
  (.block 0 (.loop C73L0)))
  (.seq (.region [.mk (mvR (X.t (o (i z)))) (.some (o (o (o (i z))))) Gd.no [],
   .mk (mvR (X.t (o (o (o (i z)))))) (.some (i (o z))) Gd.no []])
  .ret))))
theorem C73ok : (match Tryz.f73.body with | some c => comp Tryz.prog 24 c | none => none) = some C73 := by kernel_rfl
@[go_sem] theorem call73 (args : List AV) (H : Heap) : callC Tryz.prog 73 args H = .call 73 args := callC_ok (by kernel_rfl) args H
theorem R73ok : resKs Tryz.prog Tryz.f73.results.toList = some [(RK.tmp (i (o z)))] := by kernel_rfl

@[go_sem] theorem call74 (args : List AV) (H : Heap) : callC Tryz.prog 74 args H = .call 74 args := callC_ok (by kernel_rfl) args H
@[go_sem] theorem call80 (args : List AV) (H : Heap) : callC Tryz.prog 80 args H = .call 80 args := callC_ok (by kernel_rfl) args H
noncomputable def C105 : CC :=
  (.seq (.region [.mk (mvR (X.c (AV.bool false))) (.some (i z)) Gd.no []])
  (.seq (.region [.mk (mvR (X.t z)) (.some (o (o z))) Gd.no [],
   .mk (binR Tryz.prog EK.no .none true BinOp.neq (X.t (o (o z))) (X.c (AV.str []))) (.some (i (o z))) Gd.no [],
   .mk (mvR (X.t (i (o z)))) (.some (o (i z))) Gd.no [],
   .mk (mvR (X.t z)) (.some (i (i z))) (Gd.on (o (i z)) true) [],
   .mk (lenR LnK.str (X.t (i (i z)))) (.some (o (o (o z)))) (Gd.on (o (i z)) true) [],
   .mk (binR Tryz.prog EK.no .none true BinOp.leq (X.t (o (o (o z)))) (X.c (AV.int .i64 8))) (.some (i (o (o z)))) (Gd.on (o (i z)) true) [],
   .mk (pickR (X.t (o (i z))) (X.t (i (o (o z)))) (X.c (AV.bool false))) (.some (o (i (o z)))) Gd.no [],
   .mk (mvR (X.t (o (i (o z))))) (.some (i z)) Gd.no []])
  .ret))
theorem C105ok : (match Tryz.f105.body with | some c => comp Tryz.prog 10 c | none => none) = some C105 := by kernel_rfl
@[go_sem] theorem call105 (args : List AV) (H : Heap) : callC Tryz.prog 105 args H = .call 105 args := callC_ok (by kernel_rfl) args H
theorem R105ok : resKs Tryz.prog Tryz.f105.results.toList = some [(RK.tmp (i z))] := by kernel_rfl

noncomputable def C106L0 : CC :=
  (.seq (.region [.mk (binR Tryz.prog EK.no .none false BinOp.lss (X.t (i (i (o z)))) (X.t (o (i (o z))))) (.some (o (o (i z)))) Gd.no []])
  (.seq (.cond (X.t (o (o (i z))))
  .skip
  (.exit 0))
  (.seq (.block 1 (.seq (.region [.mk (iaS 5 (X.t (i (o (o z)))) (X.t (i (i (o z))))) (.some (i (o (i z)))) Gd.no [],
   .mk (ldR true 5 (X.t (i (o (i z))))) (.some (o (i (i z)))) Gd.no [],
   .mk (fun _ H => newC false [(AV.str []), (AV.str []), (AV.int .i64 0), (AV.bool false), (AV.int .i64 0)] H) (.some (o (o (o z)))) Gd.no [],
   .mk (stR 5 (X.t (o (o (o z)))) (X.t (o (i (i z))))) .none Gd.no []])
  (.seq (.region [.mk (faR 0 (X.t (o (o (o z))))) (.some (i (i (i z)))) Gd.no [],
   .mk (ldR false 1 (X.t (i (i (i z))))) (.some (o (o (o (o z))))) Gd.no [],
   .mk (mvR (X.t (o z))) (.some (i (o (o (o z))))) Gd.no [],
   .mk (binR Tryz.prog EK.no .none false BinOp.eql (X.t (o (o (o (o z))))) (X.t (i (o (o (o z)))))) (.some (o (i (o (o z))))) Gd.no []])
  (.cond (X.t (o (i (o (o z)))))
  (.seq (.region [.mk (ldR true 5 (X.t (o (o (o z))))) (.some (i (i (o (o z))))) Gd.no [],
   .mk (stR 5 (X.t (i (o z))) (X.t (i (i (o (o z)))))) .none Gd.no [],
   .mk (mvR (X.c (AV.bool true))) (.some (o (i z))) Gd.no []])
  .ret)
  .skip))))
  (.region [.mk (binR Tryz.prog EK.no .none true BinOp.add (X.t (i (i (o z)))) (X.c (AV.int .i64 1))) (.some (o (o (i (o z))))) Gd.no [],
   .mk (mvR (X.t (o (o (i (o z)))))) (.some (i (i (o z)))) Gd.no []]))))
noncomputable def C106 : CC :=
  (.seq (.region [.mk (fun _ H => newC false [(AV.str []), (AV.str []), (AV.int .i64 0), (AV.bool false), (AV.int .i64 0)] H) (.some (i (o z))) Gd.no [],
   .mk (mvR (X.c (AV.bool false))) (.some (o (i z))) Gd.no []])
  (.seq (.seq (.region [.mk (mvR (X.t z)) (.some (i (o (o z)))) Gd.no [],
   .mk (lenR LnK.slice (X.t (i (o (o z))))) (.some (o (i (o z)))) Gd.no [],
   .mk (mvR (X.c (AV.int .i64 0))) (.some (i (i (o z)))) Gd.no []])
  (.block 0 (.loop C106L0)))
  (.seq (.region [.mk (mvR (X.t (o z))) (.some (i (o (i (o z))))) Gd.no [],
   .mk (buildR [(AV.str []), (AV.str []), (AV.int .i64 0), (AV.bool false), (AV.int .i64 0)] [(0, (1, (X.t (i (o (i (o z)))))))]) (.some (o (i (i (o z))))) Gd.no [],
   .mk (stR 5 (X.t (i (o z))) (X.t (o (i (i (o z)))))) .none Gd.no [],
   .mk (mvR (X.c (AV.bool false))) (.some (o (i z))) Gd.no []])
  .ret)))
theorem C106ok : (match Tryz.f106.body with | some c => comp Tryz.prog 22 c | none => none) = some C106 := by kernel_rfl
@[go_sem] theorem call106 (args : List AV) (H : Heap) : callC Tryz.prog 106 args H = .call 106 args := callC_ok (by kernel_rfl) args H
theorem R106ok : resKs Tryz.prog Tryz.f106.results.toList = some [(RK.cell (i (o z)) true 5), (RK.tmp (o (i z)))] := by kernel_rfl

noncomputable def C107 : CC :=
  (.seq (.region [.mk (boxR false (X.t z)) (.some (o z)) Gd.no [],
   .mk (mvR (X.c (AV.bool false))) (.some (i z)) Gd.no []])
  (.seq (.region [.mk (faR 2 (X.t (o z))) (.some (o (o z))) Gd.no [],
   .mk (ldR false 1 (X.t (o (o z)))) (.some (i (o z))) Gd.no [],
   .mk (binR Tryz.prog EK.no .none true BinOp.gtr (X.t (i (o z))) (X.c (AV.int .i64 0))) (.some (o (i z))) Gd.no [],
   .mk (mvR (X.t (o (i z)))) (.some (i (i z))) Gd.no [],
   .mk (faR 3 (X.t (o z))) (.some (o (o (o z)))) (Gd.on (i (i z)) true) [],
   .mk (ldR false 1 (X.t (o (o (o z))))) (.some (i (o (o z)))) (Gd.on (i (i z)) true) [],
   .mk (unR UnOp.not (X.t (i (o (o z))))) (.some (o (i (o z)))) (Gd.on (i (i z)) true) [],
   .mk (pickR (X.t (i (i z))) (X.t (o (i (o z)))) (X.c (AV.bool false))) (.some (i (i (o z)))) Gd.no [],
   .mk (mvR (X.t (i (i (o z))))) (.some (i z)) Gd.no []])
  .ret))
theorem C107ok : (match Tryz.f107.body with | some c => comp Tryz.prog 11 c | none => none) = some C107 := by kernel_rfl
@[go_sem] theorem call107 (args : List AV) (H : Heap) : callC Tryz.prog 107 args H = .call 107 args := callC_ok (by kernel_rfl) args H
theorem R107ok : resKs Tryz.prog Tryz.f107.results.toList = some [(RK.tmp (i z))] := by kernel_rfl

noncomputable def C111L0 : CC :=
  (.seq (.region [.mk (binR Tryz.prog EK.no .none false BinOp.lss (X.t (i (i (i z)))) (X.t (o (i (i z))))) (.some (o (o (o (o z))))) Gd.no []])
  (.seq (.cond (X.t (o (o (o (o z)))))
  .skip
  (.exit 0))
  (.seq (.block 1 (.seq (.region [.mk (iaS 5 (X.t (i (o (i z)))) (X.t (i (i (i z))))) (.some (i (o (o (o z))))) Gd.no [],
   .mk (ldR true 5 (X.t (i (o (o (o z)))))) (.some (o (i (o (o z))))) Gd.no [],
   .mk (fun _ H => newC false [(AV.str []), (AV.str []), (AV.int .i64 0), (AV.bool false), (AV.int .i64 0)] H) (.some (o (i (o z)))) Gd.no [],
   .mk (stR 5 (X.t (o (i (o z)))) (X.t (o (i (o (o z)))))) .none Gd.no []])
  (.seq (.region [.mk (ldR true 5 (X.t (o (i (o z))))) (.some (i (i (o (o z))))) Gd.no [],
   .mk (callS Tryz.prog 107 [(X.t (i (i (o (o z)))))]) (.some (o (o (i (o z))))) Gd.no [],
   .mk (mvR (X.t (o (o (i (o z)))))) (.some (i (o (i (o z))))) Gd.no [],
   .mk (mvR (X.t (o (o (o z))))) (.some (o (i (i (o z))))) (Gd.on (i (o (i (o z)))) true) [],
   .mk (lenR LnK.slice (X.t (o (i (i (o z)))))) (.some (i (i (i (o z))))) (Gd.on (i (o (i (o z)))) true) [],
   .mk (mvR (X.t (i z))) (.some (o (o (o (i z))))) (Gd.on (i (o (i (o z)))) true) [],
   .mk (binR Tryz.prog EK.no .none false BinOp.lss (X.t (i (i (i (o z))))) (X.t (o (o (o (i z)))))) (.some (i (o (o (i z))))) (Gd.on (i (o (i (o z)))) true) [],
   .mk (pickR (X.t (i (o (i (o z))))) (X.t (i (o (o (i z))))) (X.c (AV.bool false))) (.some (o (i (o (i z))))) Gd.no []])
  (.cond (X.t (o (i (o (i z)))))
  (.region [.mk (mvR (X.t (o (o (o z))))) (.some (i (i (o (i z))))) Gd.no [],
   .mk (faR 0 (X.t (o (i (o z))))) (.some (o (o (i (i z))))) Gd.no [],
   .mk (ldR false 1 (X.t (o (o (i (i z)))))) (.some (i (o (i (i z))))) Gd.no [],
   .mk (faR 1 (X.t (o (i (o z))))) (.some (o (i (i (i z))))) Gd.no [],
   .mk (ldR false 1 (X.t (o (i (i (i z)))))) (.some (i (i (i (i z))))) Gd.no [],
   .mk (faR 2 (X.t (o (i (o z))))) (.some (o (o (o (o (o z)))))) Gd.no [],
   .mk (ldR false 1 (X.t (o (o (o (o (o z))))))) (.some (i (o (o (o (o z)))))) Gd.no [],
   .mk (buildR [(AV.str []), (AV.str []), (AV.int .i64 0)] [(0, (1, (X.t (i (o (i (i z))))))), (1, (1, (X.t (i (i (i (i z))))))), (2, (1, (X.t (i (o (o (o (o z))))))))]) (.some (o (i (o (o (o z)))))) Gd.no [],
   .mk (bslR 3 1 [(AV.str []), (AV.str []), (AV.int .i64 0)] [(0, (X.t (o (i (o (o (o z)))))))]) (.some (i (i (o (o (o z)))))) Gd.no [],
   .mk (appR 3 40 (X.t (i (i (o (i z))))) (X.t (i (i (o (o (o z))))))) (.some (o (o (i (o (o z)))))) Gd.no [],
   .mk (mvR (X.t (o (o (i (o (o z))))))) (.some (o (o (o z)))) Gd.no []])
  .skip))))
  (.region [.mk (binR Tryz.prog EK.no .none true BinOp.add (X.t (i (i (i z)))) (X.c (AV.int .i64 1))) (.some (i (o (i (o (o z)))))) Gd.no [],
   .mk (mvR (X.t (i (o (i (o (o z))))))) (.some (i (i (i z)))) Gd.no []]))))
noncomputable def C111 : CC :=
  (.seq (.region [.mk (boxR false (X.t (o z))) (.some (i (o z))) Gd.no [],
   .mk (mvR (X.c AV.nils)) (.some (i (i z))) Gd.no []])
  (.seq (.region [.mk (mvR (X.c AV.nils)) (.some (o (o (o z)))) Gd.no []])
  (.seq (.seq (.region [.mk (mvR (X.t z)) (.some (i (i (o z)))) Gd.no [],
   .mk (ldR true 2 (X.t (i (o z)))) (.some (o (o (i z)))) Gd.no [],
   .mk (callS Tryz.prog 73 [(X.t (i (i (o z)))), (X.t (o (o (i z))))]) (.some (i (o (i z)))) Gd.no [],
   .mk (lenR LnK.slice (X.t (i (o (i z))))) (.some (o (i (i z)))) Gd.no [],
   .mk (mvR (X.c (AV.int .i64 0))) (.some (i (i (i z)))) Gd.no []])
  (.block 0 (.loop C111L0)))
  (.seq (.region [.mk (mvR (X.t (o (o (o z))))) (.some (o (i (i (o (o z)))))) Gd.no [],
   .mk (mvR (X.t (o (i (i (o (o z))))))) (.some (i (i z))) Gd.no []])
  .ret))))
theorem C111ok : (match Tryz.f111.body with | some c => comp Tryz.prog 38 c | none => none) = some C111 := by kernel_rfl
@[go_sem] theorem call111 (args : List AV) (H : Heap) : callC Tryz.prog 111 args H = .call 111 args := callC_ok (by kernel_rfl) args H
theorem R111ok : resKs Tryz.prog Tryz.f111.results.toList = some [(RK.tmp (i (i z)))] := by kernel_rfl

noncomputable def C115L0 : CC :=
  (.seq (.region [.mk (binR Tryz.prog EK.no .none false BinOp.lss (X.t (o (o (o z)))) (X.t (i (i z)))) (.some (i (o (o z)))) Gd.no []])
  (.seq (.cond (X.t (i (o (o z))))
  .skip
  (.exit 0))
  (.seq (.block 1 (.seq (.region [.mk (mvR (X.t (o (o (o z))))) (.some (o (i (o z)))) Gd.no [],
   .mk (iaS 5 (X.t (o (i z))) (X.t (o (o (o z))))) (.some (i (i (o z)))) Gd.no [],
   .mk (ldR true 5 (X.t (i (i (o z))))) (.some (o (o (i z)))) Gd.no [],
   .mk (fun _ H => newC false [(AV.str []), (AV.str []), (AV.int .i64 0), (AV.bool false), (AV.int .i64 0)] H) (.some (i (o z))) Gd.no [],
   .mk (mvR (X.t (o (i (o z))))) (.some (o (o z))) Gd.no [],
   .mk (stR 5 (X.t (i (o z))) (X.t (o (o (i z))))) .none Gd.no []])
  (.block 2 (.seq (.block 4 (.block 3 (.seq (.seq (.seq (.region [.mk (ldR true 5 (X.t (i (o z)))) (.some (o (i (i z)))) Gd.no [],
   .mk (callS Tryz.prog 141 [(X.t (o (i (i z))))]) (.some (i (i (i z)))) Gd.no [],
   .mk (unR UnOp.not (X.t (i (i (i z))))) (.some (o (o (o (o z))))) Gd.no [],
   .mk (mvR (X.t (o (o (o (o z)))))) (.some (i (o (i z)))) Gd.no []])
  (.cond (X.t (i (o (i z))))
  (.exit 3)
  .skip))
  (.seq (.regionD [.mk (keepH (mvR (X.t (o (o z))))) (.some (o (i (o (o z))))) Gd.no [],
   .mk (keepH (binR Tryz.prog EK.no .none true BinOp.gtr (X.t (o (i (o (o z))))) (X.c (AV.int .i64 0)))) (.some (i (i (o (o z))))) Gd.no [],
   .mk (keepH (mvR (X.t (i (i (o (o z))))))) (.some (o (o (i (o z))))) Gd.no [],
   .mk (keepH (faR 0 (X.t (i (o z))))) (.some (i (i (o (i z))))) (Gd.on (o (o (i (o z)))) true) [],
   .mk (keepH (ldR false 1 (X.t (i (i (o (i z))))))) (.some (o (o (i (i z))))) (Gd.on (o (o (i (o z)))) true) [],
   .mk (keepH (mvR (X.t (o (o z))))) (.some (o (i (i (o z))))) (Gd.on (o (o (i (o z)))) true) [],
   .mk (keepH (binR Tryz.prog EK.no .none true BinOp.sub (X.t (o (i (i (o z))))) (X.c (AV.int .i64 1)))) (.some (i (i (i (o z))))) (Gd.on (o (o (i (o z)))) true) [],
   .mk (keepH (mvR (X.t z))) (.some (i (o (i (o z))))) (Gd.on (o (o (i (o z)))) true) [],
   .mk (keepH (iaS 5 (X.t (i (o (i (o z))))) (X.t (i (i (i (o z))))))) (.some (o (o (o (i z))))) (Gd.on (o (o (i (o z)))) true) [],
   .mk (keepH (faR 0 (X.t (o (o (o (i z))))))) (.some (i (o (o (i z))))) (Gd.on (o (o (i (o z)))) true) [],
   .mk (keepH (ldR false 1 (X.t (i (o (o (i z))))))) (.some (o (i (o (i z))))) (Gd.on (o (o (i (o z)))) true) [],
   .mk (keepH (binR Tryz.prog EK.no .none false BinOp.geq (X.t (o (i (o (i z))))) (X.t (o (o (i (i z))))))) (.some (i (o (i (i z))))) (Gd.on (o (o (i (o z)))) true) [],
   .mk (keepH (pickR (X.t (o (o (i (o z))))) (X.t (i (o (i (i z))))) (X.c (AV.bool false)))) (.some (o (i (i (i z))))) Gd.no [],
   .mk (mvR (X.t (o (i (i (i z)))))) (.some (i (o (o (o z))))) Gd.no []])
  (.cond (X.t (i (o (o (o z)))))
  (.exit 4)
  .skip)))
  (.exit 2))))
  (.seq (.seq (.region [.mk (mvR (X.c (AV.bool false))) (.some (i z)) Gd.no []])
  .ret)
  (.exit 2))))))
  (.region [.mk (binR Tryz.prog EK.no .none true BinOp.add (X.t (o (o (o z)))) (X.c (AV.int .i64 1))) (.some (i (i (i (i z))))) Gd.no [],
   .mk (mvR (X.t (i (i (i (i z)))))) (.some (o (o (o z)))) Gd.no []]))))
noncomputable def C115 : CC :=
  (.seq (.region [.mk (mvR (X.c (AV.bool false))) (.some (i z)) Gd.no []])
  (.seq (.seq (.region [.mk (mvR (X.t z)) (.some (o (i z))) Gd.no [],
   .mk (lenR LnK.slice (X.t (o (i z)))) (.some (i (i z))) Gd.no [],
   .mk (mvR (X.c (AV.int .i64 0))) (.some (o (o (o z)))) Gd.no []])
  (.block 0 (.loop C115L0)))
  (.seq (.region [.mk (mvR (X.c (AV.bool true))) (.some (i z)) Gd.no []])
  .ret)))
theorem C115ok : (match Tryz.f115.body with | some c => comp Tryz.prog 31 c | none => none) = some C115 := by kernel_rfl
@[go_sem] theorem call115 (args : List AV) (H : Heap) : callC Tryz.prog 115 args H = .call 115 args := callC_ok (by kernel_rfl) args H
theorem R115ok : resKs Tryz.prog Tryz.f115.results.toList = some [(RK.tmp (i z))] := by kernel_rfl

noncomputable def C119L0 : CC :=
  (.seq (.region [.mk (binR Tryz.prog EK.no .none false BinOp.lss (X.t (i (o (i (i z))))) (X.t (o (o (i (i z)))))) (.some (o (i (i (i z))))) Gd.no []])
  (.seq (.cond (X.t (o (i (i (i z)))))
  .skip
  (.exit 0))
  (.seq (.block 1 (.seq (.region [.mk (iaS 3 (X.t (i (i (o (i z))))) (X.t (i (o (i (i z)))))) (.some (i (i (i (i z))))) Gd.no [],
   .mk (ldR true 3 (X.t (i (i (i (i z)))))) (.some (o (o (o (o (o z)))))) Gd.no [],
   .mk (fun _ H => newC false [(AV.str []), (AV.str []), (AV.int .i64 0)] H) (.some (o (i z))) Gd.no [],
   .mk (stR 3 (X.t (o (i z))) (X.t (o (o (o (o (o z))))))) .none Gd.no []])
  (.regionD [.mk (keepH (faR 2 (X.t (o (i z))))) (.some (i (o (o (i (o z)))))) Gd.no [],
   .mk (keepH (ldR false 1 (X.t (i (o (o (i (o z)))))))) (.some (o (i (o (i (o z)))))) Gd.no [],
   .mk (keepH (faR 1 (X.t (o (i z))))) (.some (i (o (i (o (o z)))))) Gd.no [],
   .mk (keepH (ldR false 1 (X.t (i (o (i (o (o z)))))))) (.some (o (i (i (o (o z)))))) Gd.no [],
   .mk (keepH (faR 0 (X.t (o (i z))))) (.some (o (i (o (o (o z)))))) Gd.no [],
   .mk (keepH (ldR false 1 (X.t (o (i (o (o (o z)))))))) (.some (i (i (o (o (o z)))))) Gd.no [],
   .mk (keepH (mvR (X.t (o (o z))))) (.some (i (o (o (o (o z)))))) Gd.no [],
   .mk (callS Tryz.prog 145 [(X.t (i (i (o (o (o z))))))]) (.some (o (o (i (o (o z)))))) Gd.no [.mk (mvR (X.t (o (o z)))) (.some (i (o (o (o (o z)))))) Gd.no, .mk (ldR false 1 (X.t (i (o (i (o (o z))))))) (.some (o (i (i (o (o z)))))) Gd.no, .mk (faR 1 (X.t (o (i z)))) (.some (i (o (i (o (o z)))))) Gd.no, .mk (ldR false 1 (X.t (i (o (o (i (o z))))))) (.some (o (i (o (i (o z)))))) Gd.no, .mk (faR 2 (X.t (o (i z)))) (.some (i (o (o (i (o z)))))) Gd.no],
   .mk (callS Tryz.prog 145 [(X.t (o (i (i (o (o z))))))]) (.some (i (i (i (o (o z)))))) Gd.no [.mk (mvR (X.t (o (o z)))) (.some (i (o (o (o (o z)))))) Gd.no, .mk (ldR false 1 (X.t (i (o (o (i (o z))))))) (.some (o (i (o (i (o z)))))) Gd.no, .mk (faR 2 (X.t (o (i z)))) (.some (i (o (o (i (o z)))))) Gd.no],
   .mk (keepH (binR Tryz.prog EK.no .none false BinOp.add (X.t (o (o (i (o (o z)))))) (X.t (i (i (i (o (o z)))))))) (.some (o (o (o (i (o z)))))) Gd.no [],
   .mk (callS Tryz.prog 144 [(X.t (o (i (o (i (o z))))))]) (.some (i (i (o (i (o z)))))) Gd.no [.mk (binR Tryz.prog EK.no .none false BinOp.add (X.t (o (o (i (o (o z)))))) (X.t (i (i (i (o (o z))))))) (.some (o (o (o (i (o z)))))) Gd.no, .mk (mvR (X.t (o (o z)))) (.some (i (o (o (o (o z)))))) Gd.no],
   .mk (keepH (binR Tryz.prog EK.no .none false BinOp.add (X.t (o (o (o (i (o z)))))) (X.t (i (i (o (i (o z)))))))) (.some (o (o (i (i (o z)))))) Gd.no [],
   .mk (keepH (binR Tryz.prog EK.no .none false BinOp.add (X.t (i (o (o (o (o z)))))) (X.t (o (o (i (i (o z)))))))) (.some (i (o (i (i (o z)))))) Gd.no [],
   .mk (mvR (X.t (i (o (i (i (o z))))))) (.some (o (o z))) Gd.no []])))
  (.region [.mk (binR Tryz.prog EK.no .none true BinOp.add (X.t (i (o (i (i z))))) (X.c (AV.int .i64 1))) (.some (o (i (i (i (o z)))))) Gd.no [],
   .mk (mvR (X.t (o (i (i (i (o z))))))) (.some (i (o (i (i z))))) Gd.no []]))))
noncomputable def C119 : CC :=
  (.seq (.region [.mk (boxR false (X.t z)) (.some (o z)) Gd.no [],
   .mk (mvR (X.c (AV.str []))) (.some (i z)) Gd.no []])
  (.seq (.seq (.region [.mk (ldR true 4 (X.t (o z))) (.some (i (i z))) Gd.no [],
   .mk (callS Tryz.prog 143 [(X.t (i (i z)))]) (.some (o (o (o z)))) Gd.no [],
   .mk (unR UnOp.not (X.t (o (o (o z))))) (.some (i (o (o z)))) Gd.no []])
  (.cond (X.t (i (o (o z))))
  (.seq (.region [.mk (mvR (X.c (AV.str []))) (.some (i z)) Gd.no []])
  .ret)
  .skip))
  (.seq (.regionD [.mk (keepH (faR 3 (X.t (o z)))) (.some (i (o (i (o z))))) Gd.no [],
   .mk (keepH (ldR false 1 (X.t (i (o (i (o z))))))) (.some (o (i (i (o z))))) Gd.no [],
   .mk (keepH (lenR LnK.slice (X.t (o (i (i (o z))))))) (.some (i (i (i (o z))))) Gd.no [],
   .mk (keepH (faR 2 (X.t (o z)))) (.some (i (o (o (o z))))) Gd.no [],
   .mk (keepH (ldR false 1 (X.t (i (o (o (o z))))))) (.some (o (i (o (o z))))) Gd.no [],
   .mk (keepH (faR 1 (X.t (o z)))) (.some (i (o (i z)))) Gd.no [],
   .mk (keepH (ldR false 1 (X.t (i (o (i z)))))) (.some (o (i (i z)))) Gd.no [],
   .mk (keepH (faR 0 (X.t (o z)))) (.some (o (i (o z)))) Gd.no [],
   .mk (keepH (ldR false 1 (X.t (o (i (o z)))))) (.some (i (i (o z)))) Gd.no [],
   .mk (callS Tryz.prog 144 [(X.t (i (i (o z))))]) (.some (o (o (i z)))) Gd.no [.mk (ldR false 1 (X.t (i (o (i z))))) (.some (o (i (i z)))) Gd.no, .mk (faR 1 (X.t (o z))) (.some (i (o (i z)))) Gd.no, .mk (ldR false 1 (X.t (i (o (o (o z)))))) (.some (o (i (o (o z))))) Gd.no, .mk (faR 2 (X.t (o z))) (.some (i (o (o (o z))))) Gd.no, .mk (lenR LnK.slice (X.t (o (i (i (o z)))))) (.some (i (i (i (o z))))) Gd.no, .mk (ldR false 1 (X.t (i (o (i (o z)))))) (.some (o (i (i (o z))))) Gd.no, .mk (faR 3 (X.t (o z))) (.some (i (o (i (o z))))) Gd.no],
   .mk (callS Tryz.prog 145 [(X.t (o (i (i z))))]) (.some (i (i (i z)))) Gd.no [.mk (ldR false 1 (X.t (i (o (o (o z)))))) (.some (o (i (o (o z))))) Gd.no, .mk (faR 2 (X.t (o z))) (.some (i (o (o (o z))))) Gd.no, .mk (lenR LnK.slice (X.t (o (i (i (o z)))))) (.some (i (i (i (o z))))) Gd.no, .mk (ldR false 1 (X.t (i (o (i (o z)))))) (.some (o (i (i (o z))))) Gd.no, .mk (faR 3 (X.t (o z))) (.some (i (o (i (o z))))) Gd.no],
   .mk (keepH (binR Tryz.prog EK.no .none false BinOp.add (X.t (o (o (i z)))) (X.t (i (i (i z)))))) (.some (o (o (o (o z))))) Gd.no [],
   .mk (callS Tryz.prog 144 [(X.t (o (i (o (o z)))))]) (.some (i (i (o (o z))))) Gd.no [.mk (binR Tryz.prog EK.no .none false BinOp.add (X.t (o (o (i z)))) (X.t (i (i (i z))))) (.some (o (o (o (o z))))) Gd.no, .mk (lenR LnK.slice (X.t (o (i (i (o z)))))) (.some (i (i (i (o z))))) Gd.no, .mk (ldR false 1 (X.t (i (o (i (o z)))))) (.some (o (i (i (o z))))) Gd.no, .mk (faR 3 (X.t (o z))) (.some (i (o (i (o z))))) Gd.no],
   .mk (keepH (binR Tryz.prog EK.no .none false BinOp.add (X.t (o (o (o (o z))))) (X.t (i (i (o (o z))))))) (.some (o (o (i (o z))))) Gd.no [],
   .mk (callS Tryz.prog 144 [(X.t (i (i (i (o z)))))]) (.some (o (o (o (i z))))) Gd.no [.mk (binR Tryz.prog EK.no .none false BinOp.add (X.t (o (o (o (o z))))) (X.t (i (i (o (o z)))))) (.some (o (o (i (o z))))) Gd.no, .mk (binR Tryz.prog EK.no .none false BinOp.add (X.t (o (o (i z)))) (X.t (i (i (i z))))) (.some (o (o (o (o z))))) Gd.no],
   .mk (keepH (binR Tryz.prog EK.no .none false BinOp.add (X.t (o (o (i (o z))))) (X.t (o (o (o (i z))))))) (.some (i (o (o (i z))))) Gd.no [],
   .mk (mvR (X.t (i (o (o (i z)))))) (.some (o (o z))) Gd.no []])
  (.seq (.seq (.region [.mk (faR 3 (X.t (o z))) (.some (o (i (o (i z))))) Gd.no [],
   .mk (ldR false 1 (X.t (o (i (o (i z)))))) (.some (i (i (o (i z))))) Gd.no [],
   .mk (lenR LnK.slice (X.t (i (i (o (i z)))))) (.some (o (o (i (i z))))) Gd.no [],
   .mk (mvR (X.c (AV.int .i64 0))) (.some (i (o (i (i z))))) Gd.no []])
  (.block 0 (.loop C119L0)))
  (.seq (.region [.mk (mvR (X.t (o (o z)))) (.some (i (i (i (i (o z)))))) Gd.no [],
   .mk (mvR (X.t (i (i (i (i (o z))))))) (.some (i z)) Gd.no []])
  .ret)))))
theorem C119ok : (match Tryz.f119.body with | some c => comp Tryz.prog 47 c | none => none) = some C119 := by kernel_rfl
@[go_sem] theorem call119 (args : List AV) (H : Heap) : callC Tryz.prog 119 args H = .call 119 args := callC_ok (by kernel_rfl) args H
theorem R119ok : resKs Tryz.prog Tryz.f119.results.toList = some [(RK.tmp (i z))] := by kernel_rfl

@[go_sem] theorem call120 (args : List AV) (H : Heap) : callC Tryz.prog 120 args H = .call 120 args := callC_ok (by kernel_rfl) args H
@[go_sem] theorem call121 (args : List AV) (H : Heap) : callC Tryz.prog 121 args H = .call 121 args := callC_ok (by kernel_rfl) args H
noncomputable def C123L0 : CC :=
  (.seq (.region [.mk (binR Tryz.prog EK.no .none false BinOp.lss (X.t (o (i (o z)))) (X.t (i (o (o z))))) (.some (i (i (o z)))) Gd.no []])
  (.seq (.cond (X.t (i (i (o z))))
  .skip
  (.exit 0))
  (.seq (.block 1 (.seq (.region [.mk (iaS 2 (X.t (o (o (o z)))) (X.t (o (i (o z))))) (.some (o (o (i z)))) Gd.no [],
   .mk (ldR true 2 (X.t (o (o (i z))))) (.some (i (o (i z)))) Gd.no [],
   .mk (fun _ H => newC false [(AV.str []), (AV.int .i64 0)] H) (.some (i (i z))) Gd.no [],
   .mk (stR 2 (X.t (i (i z))) (X.t (i (o (i z))))) .none Gd.no []])
  (.seq (.region [.mk (faR 0 (X.t (i (i z)))) (.some (o (i (i z)))) Gd.no [],
   .mk (ldR false 1 (X.t (o (i (i z))))) (.some (i (i (i z)))) Gd.no [],
   .mk (mvR (X.t (o z))) (.some (o (o (o (o z))))) Gd.no [],
   .mk (binR Tryz.prog EK.no .none false BinOp.eql (X.t (i (i (i z)))) (X.t (o (o (o (o z)))))) (.some (i (o (o (o z))))) Gd.no []])
  (.cond (X.t (i (o (o (o z)))))
  (.seq (.region [.mk (faR 1 (X.t (i (i z)))) (.some (o (i (o (o z))))) Gd.no [],
   .mk (ldR false 1 (X.t (o (i (o (o z)))))) (.some (i (i (o (o z))))) Gd.no [],
   .mk (mvR (X.t (i (i (o (o z)))))) (.some (i (o z))) Gd.no []])
  .ret)
  .skip))))
  (.region [.mk (binR Tryz.prog EK.no .none true BinOp.add (X.t (o (i (o z)))) (X.c (AV.int .i64 1))) (.some (o (o (i (o z))))) Gd.no [],
   .mk (mvR (X.t (o (o (i (o z)))))) (.some (o (i (o z)))) Gd.no []]))))
noncomputable def C123 : CC :=
  (.seq (.region [.mk (mvR (X.c (AV.int .i64 0))) (.some (i (o z))) Gd.no []])
  (.seq (.seq (.region [.mk (mvR (X.t z)) (.some (o (o (o z)))) Gd.no [],
   .mk (lenR LnK.slice (X.t (o (o (o z))))) (.some (i (o (o z)))) Gd.no [],
   .mk (mvR (X.c (AV.int .i64 0))) (.some (o (i (o z)))) Gd.no []])
  (.block 0 (.loop C123L0)))
  (.seq (.region [.mk (mvR (X.c (AV.int .i64 0))) (.some (i (o z))) Gd.no []])
  .ret)))
theorem C123ok : (match Tryz.f123.body with | some c => comp Tryz.prog 20 c | none => none) = some C123 := by kernel_rfl
@[go_sem] theorem call123 (args : List AV) (H : Heap) : callC Tryz.prog 123 args H = .call 123 args := callC_ok (by kernel_rfl) args H
theorem R123ok : resKs Tryz.prog Tryz.f123.results.toList = some [(RK.tmp (i (o z)))] := by kernel_rfl

noncomputable def C139L0 : CC :=
  (.seq (.seq (.regionD [.mk (keepH (mvR (X.t (o (i z))))) (.some (i (i (i z)))) Gd.no [],
   .mk (keepH (lenR LnK.slice (X.t (i (i (i z)))))) (.some (o (o (o (o z))))) Gd.no [],
   .mk (keepH (mvR (X.t (i (i z))))) (.some (o (i (i z)))) Gd.no [],
   .mk (keepH (binR Tryz.prog EK.no .none false BinOp.lss (X.t (o (i (i z)))) (X.t (o (o (o (o z))))))) (.some (i (o (o (o z))))) Gd.no [],
   .mk (keepH (mvR (X.t (i (o (o (o z))))))) (.some (o (i (o (o z))))) Gd.no [],
   .mk (keepH (faR 0 (X.t (o (o z))))) (.some (o (o (o (i z))))) (Gd.on (o (i (o (o z)))) true) [],
   .mk (keepH (ldR false 1 (X.t (o (o (o (i z))))))) (.some (i (o (o (i z))))) (Gd.on (o (i (o (o z)))) true) [],
   .mk (keepH (mvR (X.t (i (i z))))) (.some (o (o (i (o z))))) (Gd.on (o (i (o (o z)))) true) [],
   .mk (keepH (mvR (X.t (o (i z))))) (.some (i (i (o (o z))))) (Gd.on (o (i (o (o z)))) true) [],
   .mk (keepH (iaS 5 (X.t (i (i (o (o z))))) (X.t (o (o (i (o z))))))) (.some (i (o (i (o z))))) (Gd.on (o (i (o (o z)))) true) [],
   .mk (keepH (faR 0 (X.t (i (o (i (o z))))))) (.some (o (i (i (o z))))) (Gd.on (o (i (o (o z)))) true) [],
   .mk (keepH (ldR false 1 (X.t (o (i (i (o z))))))) (.some (i (i (i (o z))))) (Gd.on (o (i (o (o z)))) true) [],
   .mk (keepH (binR Tryz.prog EK.no .none false BinOp.lss (X.t (i (i (i (o z))))) (X.t (i (o (o (i z))))))) (.some (o (i (o (i z))))) (Gd.on (o (i (o (o z)))) true) [],
   .mk (keepH (pickR (X.t (o (i (o (o z))))) (X.t (o (i (o (i z))))) (X.c (AV.bool false)))) (.some (i (i (o (i z))))) Gd.no []])
  (.cond (X.t (i (i (o (i z)))))
  .skip
  (.exit 0)))
  (.block 1 (.region [.mk (mvR (X.t (i (i z)))) (.some (o (o (i (i z))))) Gd.no [],
   .mk (binR Tryz.prog EK.no .none true BinOp.add (X.t (o (o (i (i z))))) (X.c (AV.int .i64 1))) (.some (i (o (i (i z))))) Gd.no [],
   .mk (mvR (X.t (i (o (i (i z)))))) (.some (i (i z))) Gd.no []])))
noncomputable def C139 : CC :=
  (.seq (.region [.mk (boxR false (X.t (o z))) (.some (o (o z))) Gd.no [],
   .mk (mvR (X.c AV.nils)) (.some (i (o z))) Gd.no []])
  (.seq (.region [.mk (mvR (X.t z)) (.some (o (o (o z)))) Gd.no [],
   .mk (callS Tryz.prog 80 [(X.t (o (o (o z))))]) (.some (i (o (o z)))) Gd.no [],
   .mk (mvR (X.t (i (o (o z))))) (.some (o (i z))) Gd.no []])
  (.seq (.seq (.region [.mk (ldR true 5 (X.t (o (o z)))) (.some (o (i (o z)))) Gd.no [],
   .mk (callS Tryz.prog 141 [(X.t (o (i (o z))))]) (.some (i (i (o z)))) Gd.no [],
   .mk (unR UnOp.not (X.t (i (i (o z))))) (.some (o (o (i z)))) Gd.no []])
  (.cond (X.t (o (o (i z))))
  (.seq (.region [.mk (mvR (X.t (o (i z)))) (.some (i (o (i z)))) Gd.no [],
   .mk (mvR (X.t (i (o (i z))))) (.some (i (o z))) Gd.no []])
  .ret)
  .skip))
  (.seq (.region [.mk (mvR (X.c (AV.int .i64 0))) (.some (i (i z))) Gd.no []])
  (.seq (.block 0 (.loop C139L0))
  (.seq (.seq (.regionD [.mk (keepH (mvR (X.t (o (i z))))) (.some (i (i (i (i z))))) Gd.no [],
   .mk (keepH (lenR LnK.slice (X.t (i (i (i (i z))))))) (.some (o (o (o (o (o z)))))) Gd.no [],
   .mk (keepH (mvR (X.t (i (i z))))) (.some (o (i (i (i z))))) Gd.no [],
   .mk (keepH (binR Tryz.prog EK.no .none false BinOp.lss (X.t (o (i (i (i z))))) (X.t (o (o (o (o (o z)))))))) (.some (i (o (o (o (o z)))))) Gd.no [],
   .mk (keepH (mvR (X.t (i (o (o (o (o z)))))))) (.some (o (i (o (o (o z)))))) Gd.no [],
   .mk (keepH (faR 0 (X.t (o (o z))))) (.some (o (o (o (i (o z)))))) (Gd.on (o (i (o (o (o z))))) true) [],
   .mk (keepH (ldR false 1 (X.t (o (o (o (i (o z)))))))) (.some (i (o (o (i (o z)))))) (Gd.on (o (i (o (o (o z))))) true) [],
   .mk (keepH (mvR (X.t (i (i z))))) (.some (o (o (i (o (o z)))))) (Gd.on (o (i (o (o (o z))))) true) [],
   .mk (keepH (mvR (X.t (o (i z))))) (.some (i (i (o (o (o z)))))) (Gd.on (o (i (o (o (o z))))) true) [],
   .mk (keepH (iaS 5 (X.t (i (i (o (o (o z)))))) (X.t (o (o (i (o (o z)))))))) (.some (i (o (i (o (o z)))))) (Gd.on (o (i (o (o (o z))))) true) [],
   .mk (keepH (faR 0 (X.t (i (o (i (o (o z)))))))) (.some (o (i (i (o (o z)))))) (Gd.on (o (i (o (o (o z))))) true) [],
   .mk (keepH (ldR false 1 (X.t (o (i (i (o (o z)))))))) (.some (i (i (i (o (o z)))))) (Gd.on (o (i (o (o (o z))))) true) [],
   .mk (keepH (binR Tryz.prog EK.no .none false BinOp.eql (X.t (i (i (i (o (o z)))))) (X.t (i (o (o (i (o z)))))))) (.some (o (i (o (i (o z)))))) (Gd.on (o (i (o (o (o z))))) true) [],
   .mk (keepH (pickR (X.t (o (i (o (o (o z)))))) (X.t (o (i (o (i (o z)))))) (X.c (AV.bool false)))) (.some (i (i (o (i (o z)))))) Gd.no []])
  (.cond (X.t (i (i (o (i (o z))))))
  (.seq (.region [.mk (mvR (X.t (o (i z)))) (.some (o (o (i (i (o z)))))) Gd.no [],
   .mk (mvR (X.t (i (i z)))) (.some (i (o (i (i (o z)))))) Gd.no [],
   .mk (ldR true 5 (X.t (o (o z)))) (.some (o (i (i (i (o z)))))) Gd.no [],
   .mk (iaS 5 (X.t (o (o (i (i (o z)))))) (X.t (i (o (i (i (o z))))))) (.some (i (i (i (i (o z)))))) Gd.no [],
   .mk (stR 5 (X.t (i (i (i (i (o z)))))) (X.t (o (i (i (i (o z))))))) .none Gd.no []])
  (.seq (.region [.mk (mvR (X.t (o (i z)))) (.some (o (o (o (o (i z)))))) Gd.no [],
   .mk (mvR (X.t (o (o (o (o (i z))))))) (.some (i (o z))) Gd.no []])
  .ret))
  .skip))
  (.seq (.region [.mk (mvR (X.t (o (i z)))) (.some (i (o (o (o (i z)))))) Gd.no [],
   .mk (mvR (X.t (i (i z)))) (.some (o (i (o (o (i z)))))) Gd.no [],
   .mk (ldR true 5 (X.t (o (o z)))) (.some (i (i (o (o (i z)))))) Gd.no [],
   .mk (bslR 5 1 [(AV.str []), (AV.str []), (AV.int .i64 0), (AV.bool false), (AV.int .i64 0)] [(0, (X.t (i (i (o (o (i z)))))))]) (.some (o (o (i (o (i z)))))) Gd.no [],
   .mk (callS Tryz.prog 151 [(X.t (i (o (o (o (i z)))))), (X.t (o (i (o (o (i z)))))), (X.t (o (o (i (o (i z))))))]) (.some (i (o (i (o (i z)))))) Gd.no [],
   .mk (mvR (X.t (i (o (i (o (i z))))))) (.some (i (o z))) Gd.no []])
  .ret)))))))
theorem C139ok : (match Tryz.f139.body with | some c => comp Tryz.prog 53 c | none => none) = some C139 := by kernel_rfl
@[go_sem] theorem call139 (args : List AV) (H : Heap) : callC Tryz.prog 139 args H = .call 139 args := callC_ok (by kernel_rfl) args H
theorem R139ok : resKs Tryz.prog Tryz.f139.results.toList = some [(RK.tmp (i (o z)))] := by kernel_rfl

noncomputable def C141 : CC :=
  (.seq (.region [.mk (boxR false (X.t z)) (.some (o z)) Gd.no [],
   .mk (mvR (X.c (AV.bool false))) (.some (i z)) Gd.no []])
  (.seq (.region [.mk (faR 0 (X.t (o z))) (.some (o (o z))) Gd.no [],
   .mk (ldR false 1 (X.t (o (o z)))) (.some (i (o z))) Gd.no [],
   .mk (faR 1 (X.t (o z))) (.some (o (i z))) Gd.no [],
   .mk (ldR false 1 (X.t (o (i z)))) (.some (i (i z))) Gd.no [],
   .mk (faR 2 (X.t (o z))) (.some (o (o (o z)))) Gd.no [],
   .mk (ldR false 1 (X.t (o (o (o z))))) (.some (i (o (o z)))) Gd.no [],
   .mk (faR 3 (X.t (o z))) (.some (o (i (o z)))) Gd.no [],
   .mk (ldR false 1 (X.t (o (i (o z))))) (.some (i (i (o z)))) Gd.no [],
   .mk (callS Tryz.prog 142 [(X.t (i (o z))), (X.t (i (i z))), (X.t (i (o (o z)))), (X.t (i (i (o z))))]) (.some (o (o (i z)))) Gd.no [],
   .mk (mvR (X.t (o (o (i z))))) (.some (i (o (i z)))) Gd.no [],
   .mk (faR 4 (X.t (o z))) (.some (o (i (i z)))) (Gd.on (i (o (i z))) true) [],
   .mk (ldR false 1 (X.t (o (i (i z))))) (.some (i (i (i z)))) (Gd.on (i (o (i z))) true) [],
   .mk (binR Tryz.prog EK.no .none true BinOp.geq (X.t (i (i (i z)))) (X.c (AV.int .i64 0))) (.some (o (o (o (o z))))) (Gd.on (i (o (i z))) true) [],
   .mk (pickR (X.t (i (o (i z)))) (X.t (o (o (o (o z))))) (X.c (AV.bool false))) (.some (i (o (o (o z))))) Gd.no [],
   .mk (mvR (X.t (i (o (o (o z)))))) (.some (o (i (o (o z))))) Gd.no [],
   .mk (faR 4 (X.t (o z))) (.some (i (i (o (o z))))) (Gd.on (o (i (o (o z)))) true) [],
   .mk (ldR false 1 (X.t (i (i (o (o z)))))) (.some (o (o (i (o z))))) (Gd.on (o (i (o (o z)))) true) [],
   .mk (faR 2 (X.t (o z))) (.some (i (o (i (o z))))) (Gd.on (o (i (o (o z)))) true) [],
   .mk (ldR false 1 (X.t (i (o (i (o z)))))) (.some (o (i (i (o z))))) (Gd.on (o (i (o (o z)))) true) [],
   .mk (binR Tryz.prog EK.no .none false BinOp.leq (X.t (o (o (i (o z))))) (X.t (o (i (i (o z)))))) (.some (i (i (i (o z))))) (Gd.on (o (i (o (o z)))) true) [],
   .mk (pickR (X.t (o (i (o (o z))))) (X.t (i (i (i (o z))))) (X.c (AV.bool false))) (.some (o (o (o (i z))))) Gd.no [],
   .mk (mvR (X.t (o (o (o (i z)))))) (.some (i z)) Gd.no []])
  .ret))
theorem C141ok : (match Tryz.f141.body with | some c => comp Tryz.prog 24 c | none => none) = some C141 := by kernel_rfl
@[go_sem] theorem call141 (args : List AV) (H : Heap) : callC Tryz.prog 141 args H = .call 141 args := callC_ok (by kernel_rfl) args H
theorem R141ok : resKs Tryz.prog Tryz.f141.results.toList = some [(RK.tmp (i z))] := by kernel_rfl

noncomputable def C142 : CC :=
  (.seq (.region [.mk (mvR (X.c (AV.bool false))) (.some (i (o (o z)))) Gd.no []])
  (.seq (.block 0 (.seq (.block 3 (.block 2 (.block 1 (.seq (.seq (.seq (.region [.mk (mvR (X.t z)) (.some (i (i (o z)))) Gd.no [],
   .mk (callS Tryz.prog 105 [(X.t (i (i (o z))))]) (.some (o (o (i z)))) Gd.no [],
   .mk (unR UnOp.not (X.t (o (o (i z))))) (.some (i (o (i z)))) Gd.no [],
   .mk (mvR (X.t (i (o (i z))))) (.some (o (i (i z)))) Gd.no [],
   .mk (mvR (X.t (o z))) (.some (i (i (i z)))) (Gd.on (o (i (i z))) false) [],
   .mk (lenR LnK.str (X.t (i (i (i z))))) (.some (o (o (o (o z))))) (Gd.on (o (i (i z))) false) [],
   .mk (binR Tryz.prog EK.no .none true BinOp.gtr (X.t (o (o (o (o z))))) (X.c (AV.int .i64 12))) (.some (i (o (o (o z))))) (Gd.on (o (i (i z))) false) [],
   .mk (pickR (X.t (o (i (i z)))) (X.c (AV.bool true)) (X.t (i (o (o (o z)))))) (.some (o (i (o (o z))))) Gd.no [],
   .mk (mvR (X.t (o (i (o (o z)))))) (.some (o (i (o z)))) Gd.no []])
  (.cond (X.t (o (i (o z))))
  (.exit 1)
  .skip))
  (.seq (.seq (.region [.mk (mvR (X.t (o (o z)))) (.some (o (o (i (o z))))) Gd.no [],
   .mk (mvR (X.t (o (o (i (o z)))))) (.some (i (o (i (o z))))) Gd.no [],
   .mk (mvR (X.t (o z))) (.some (o (i (i (o z))))) (Gd.on (i (o (i (o z)))) true) [],
   .mk (binR Tryz.prog EK.no .none true BinOp.neq (X.t (o (i (i (o z))))) (X.c (AV.str []))) (.some (i (i (i (o z))))) (Gd.on (i (o (i (o z)))) true) [],
   .mk (pickR (X.t (i (o (i (o z))))) (X.t (i (i (i (o z))))) (X.c (AV.bool false))) (.some (o (o (o (i z))))) Gd.no [],
   .mk (mvR (X.t (o (o (o (i z)))))) (.some (i (i (o (o z))))) Gd.no []])
  (.cond (X.t (i (i (o (o z)))))
  (.exit 2)
  .skip))
  (.seq (.region [.mk (mvR (X.t (i z))) (.some (o (i (o (i z))))) Gd.no [],
   .mk (binR Tryz.prog EK.no .none true BinOp.lss (X.t (o (i (o (i z))))) (X.c (AV.int .i64 1))) (.some (i (i (o (i z))))) Gd.no [],
   .mk (mvR (X.t (i (i (o (i z)))))) (.some (o (o (i (i z))))) Gd.no [],
   .mk (mvR (X.t (i z))) (.some (i (o (i (i z))))) (Gd.on (o (o (i (i z)))) false) [],
   .mk (binR Tryz.prog EK.no .none true BinOp.gtr (X.t (i (o (i (i z))))) (X.c (AV.int .i64 1000000000000))) (.some (o (i (i (i z))))) (Gd.on (o (o (i (i z)))) false) [],
   .mk (pickR (X.t (o (o (i (i z))))) (X.c (AV.bool true)) (X.t (o (i (i (i z)))))) (.some (i (i (i (i z))))) Gd.no [],
   .mk (mvR (X.t (i (i (i (i z)))))) (.some (i (o (o (i z))))) Gd.no []])
  (.cond (X.t (i (o (o (i z)))))
  (.exit 3)
  .skip))))
  (.exit 0)))))
  (.seq (.seq (.region [.mk (mvR (X.c (AV.bool false))) (.some (i (o (o z)))) Gd.no []])
  .ret)
  (.exit 0))))
  (.seq (.region [.mk (mvR (X.c (AV.bool true))) (.some (i (o (o z)))) Gd.no []])
  .ret)))
theorem C142ok : (match Tryz.f142.body with | some c => comp Tryz.prog 31 c | none => none) = some C142 := by kernel_rfl
@[go_sem] theorem call142 (args : List AV) (H : Heap) : callC Tryz.prog 142 args H = .call 142 args := callC_ok (by kernel_rfl) args H
theorem R142ok : resKs Tryz.prog Tryz.f142.results.toList = some [(RK.tmp (i (o (o z))))] := by kernel_rfl

noncomputable def C143 : CC :=
  (.seq (.region [.mk (boxR false (X.t z)) (.some (o z)) Gd.no [],
   .mk (mvR (X.c (AV.bool false))) (.some (i z)) Gd.no []])
  (.seq (.region [.mk (mvR (X.c (AV.fn (Fn.func 152) [] []))) (.some (o (o z))) Gd.no []])
  (.seq (.block 0 (.seq (.block 2 (.block 1 (.seq (.seq (.seq (.region [.mk (faR 0 (X.t (o z))) (.some (o (i z))) Gd.no [],
   .mk (ldR false 1 (X.t (o (i z)))) (.some (i (i z))) Gd.no [],
   .mk (binR Tryz.prog EK.no .none true BinOp.lss (X.t (i (i z))) (X.c (AV.int .i64 0))) (.some (o (o (o z)))) Gd.no [],
   .mk (mvR (X.t (o (o (o z))))) (.some (i (o (o z)))) Gd.no [],
   .mk (faR 0 (X.t (o z))) (.some (o (i (o z)))) (Gd.on (i (o (o z))) false) [],
   .mk (ldR false 1 (X.t (o (i (o z))))) (.some (i (i (o z)))) (Gd.on (i (o (o z))) false) [],
   .mk (binR Tryz.prog EK.no .none true BinOp.geq (X.t (i (i (o z)))) (X.c (AV.int .i64 281474976710656))) (.some (o (o (i z)))) (Gd.on (i (o (o z))) false) [],
   .mk (pickR (X.t (i (o (o z)))) (X.c (AV.bool true)) (X.t (o (o (i z))))) (.some (i (o (i z)))) Gd.no [],
   .mk (mvR (X.t (i (o (i z))))) (.some (o (i (i z)))) Gd.no [],
   .mk (faR 2 (X.t (o z))) (.some (i (i (i z)))) (Gd.on (o (i (i z))) false) [],
   .mk (ldR false 1 (X.t (i (i (i z))))) (.some (o (o (o (o z))))) (Gd.on (o (i (i z))) false) [],
   .mk (binR Tryz.prog EK.no .none true BinOp.lss (X.t (o (o (o (o z))))) (X.c (AV.int .i64 0))) (.some (i (o (o (o z))))) (Gd.on (o (i (i z))) false) [],
   .mk (pickR (X.t (o (i (i z)))) (X.c (AV.bool true)) (X.t (i (o (o (o z)))))) (.some (o (i (o (o z))))) Gd.no [],
   .mk (mvR (X.t (o (i (o (o z)))))) (.some (i (i (o (o z))))) Gd.no [],
   .mk (faR 2 (X.t (o z))) (.some (o (o (i (o z))))) (Gd.on (i (i (o (o z)))) false) [],
   .mk (ldR false 1 (X.t (o (o (i (o z)))))) (.some (i (o (i (o z))))) (Gd.on (i (i (o (o z)))) false) [],
   .mk (binR Tryz.prog EK.no .none true BinOp.geq (X.t (i (o (i (o z))))) (X.c (AV.int .i64 281474976710656))) (.some (o (i (i (o z))))) (Gd.on (i (i (o (o z)))) false) [],
   .mk (pickR (X.t (i (i (o (o z))))) (X.c (AV.bool true)) (X.t (o (i (i (o z)))))) (.some (i (i (i (o z))))) Gd.no [],
   .mk (mvR (X.t (i (i (i (o z)))))) (.some (o (o (o (i z))))) Gd.no [],
   .mk (faR 1 (X.t (o z))) (.some (i (o (o (i z))))) (Gd.on (o (o (o (i z)))) false) [],
   .mk (ldR false 1 (X.t (i (o (o (i z)))))) (.some (o (i (o (i z))))) (Gd.on (o (o (o (i z)))) false) [],
   .mk (lenR LnK.str (X.t (o (i (o (i z)))))) (.some (i (i (o (i z))))) (Gd.on (o (o (o (i z)))) false) [],
   .mk (binR Tryz.prog EK.no .none true BinOp.gtr (X.t (i (i (o (i z))))) (X.c (AV.int .i64 255))) (.some (o (o (i (i z))))) (Gd.on (o (o (o (i z)))) false) [],
   .mk (pickR (X.t (o (o (o (i z))))) (X.c (AV.bool true)) (X.t (o (o (i (i z)))))) (.some (i (o (i (i z))))) Gd.no [],
   .mk (mvR (X.t (i (o (i (i z)))))) (.some (i (o z))) Gd.no []])
  (.cond (X.t (i (o z)))
  (.exit 1)
  .skip))
  (.seq (.region [.mk (faR 3 (X.t (o z))) (.some (i (i (i (i z))))) Gd.no [],
   .mk (ldR false 1 (X.t (i (i (i (i z)))))) (.some (o (o (o (o (o z)))))) Gd.no [],
   .mk (lenR LnK.slice (X.t (o (o (o (o (o z))))))) (.some (i (o (o (o (o z)))))) Gd.no [],
   .mk (binR Tryz.prog EK.no .none true BinOp.gtr (X.t (i (o (o (o (o z)))))) (X.c (AV.int .i64 16))) (.some (o (i (o (o (o z)))))) Gd.no [],
   .mk (mvR (X.t (o (i (o (o (o z))))))) (.some (i (i (o (o (o z)))))) Gd.no [],
   .mk (faR 3 (X.t (o z))) (.some (o (o (i (o (o z)))))) (Gd.on (i (i (o (o (o z))))) false) [],
   .mk (ldR false 1 (X.t (o (o (i (o (o z))))))) (.some (i (o (i (o (o z)))))) (Gd.on (i (i (o (o (o z))))) false) [],
   .mk (mvR (X.t (o (o z)))) (.some (o (i (i (o (o z)))))) (Gd.on (i (i (o (o (o z))))) false) [],
   .mk (callS Tryz.prog 153 [(X.t (i (o (i (o (o z)))))), (X.t (o (i (i (o (o z))))))]) (.some (i (i (i (o (o z)))))) (Gd.on (i (i (o (o (o z))))) false) [],
   .mk (pickR (X.t (i (i (o (o (o z)))))) (X.c (AV.bool true)) (X.t (i (i (i (o (o z))))))) (.some (o (o (o (i (o z)))))) Gd.no [],
   .mk (mvR (X.t (o (o (o (i (o z))))))) (.some (o (i (i (i z))))) Gd.no []])
  (.cond (X.t (o (i (i (i z)))))
  (.exit 2)
  .skip)))
  (.exit 0))))
  (.seq (.seq (.region [.mk (mvR (X.c (AV.bool false))) (.some (i z)) Gd.no []])
  .ret)
  (.exit 0))))
  (.seq (.region [.mk (mvR (X.c (AV.bool true))) (.some (i z)) Gd.no []])
  .ret))))
theorem C143ok : (match Tryz.f143.body with | some c => comp Tryz.prog 40 c | none => none) = some C143 := by kernel_rfl
@[go_sem] theorem call143 (args : List AV) (H : Heap) : callC Tryz.prog 143 args H = .call 143 args := callC_ok (by kernel_rfl) args H
theorem R143ok : resKs Tryz.prog Tryz.f143.results.toList = some [(RK.tmp (i z))] := by kernel_rfl

noncomputable def C144L0 : CC :=
  (.seq (.seq (.region [.mk (mvR (X.t z)) (.some (i (i z))) Gd.no [],
   .mk (binR Tryz.prog EK.no .none true BinOp.geq (X.t (i (i z))) (X.c (AV.int .i64 64))) (.some (o (o (o z)))) Gd.no []])
  (.cond (X.t (o (o (o z))))
  .skip
  (.exit 0)))
  (.block 1 (.seq (.region [.mk (mvR (X.t (o (o z)))) (.some (i (o (o z)))) Gd.no [],
   .mk (mvR (X.t z)) (.some (o (i (o z)))) Gd.no [],
   .mk (binR Tryz.prog EK.no .none true BinOp.and (X.t (o (i (o z)))) (X.c (AV.int .i64 63))) (.some (i (i (o z)))) Gd.no [],
   .mk (binR Tryz.prog EK.no .none true BinOp.or (X.c (AV.int .i64 64)) (X.t (i (i (o z))))) (.some (o (o (i z)))) Gd.no [],
   .mk (convR (Cv.int IntKind.u8) (X.t (o (o (i z))))) (.some (i (o (i z)))) Gd.no [],
   .mk (bslR 1 1 [(AV.int IntKind.u8 0)] [(0, (X.t (i (o (i z)))))]) (.some (o (i (i z)))) Gd.no [],
   .mk (appR 1 1 (X.t (i (o (o z)))) (X.t (o (i (i z))))) (.some (i (i (i z)))) Gd.no [],
   .mk (mvR (X.t (i (i (i z))))) (.some (o (o z))) Gd.no []])
  (.region [.mk (mvR (X.t z)) (.some (o (o (o (o z))))) Gd.no [],
   .mk (binR Tryz.prog EK.no .none true BinOp.shr (X.t (o (o (o (o z))))) (X.c (AV.int IntKind.u64 6))) (.some (i (o (o (o z))))) Gd.no [],
   .mk (mvR (X.t (i (o (o (o z)))))) (.some z) Gd.no []]))))
noncomputable def C144 : CC :=
  (.seq (.region [.mk (mvR (X.c (AV.str []))) (.some (i z)) Gd.no []])
  (.seq (.region [.mk (mvR (X.t z)) (.some (i (o z))) Gd.no [],
   .mk (mmR true (X.t (i (o z))) (X.c (AV.int .i64 0))) (.some (o (i z))) Gd.no [],
   .mk (mvR (X.t (o (i z)))) (.some z) Gd.no []])
  (.seq (.region [.mk (mvR (X.c AV.nils)) (.some (o (o z))) Gd.no []])
  (.seq (.block 0 (.loop C144L0))
  (.seq (.region [.mk (mvR (X.t (o (o z)))) (.some (o (i (o (o z))))) Gd.no [],
   .mk (mvR (X.t z)) (.some (i (i (o (o z))))) Gd.no [],
   .mk (convR (Cv.int IntKind.u8) (X.t (i (i (o (o z)))))) (.some (o (o (i (o z))))) Gd.no [],
   .mk (bslR 1 1 [(AV.int IntKind.u8 0)] [(0, (X.t (o (o (i (o z))))))]) (.some (i (o (i (o z))))) Gd.no [],
   .mk (appR 1 1 (X.t (o (i (o (o z))))) (X.t (i (o (i (o z)))))) (.some (o (i (i (o z))))) Gd.no [],
   .mk (convR Cv.b2s (X.t (o (i (i (o z)))))) (.some (i (i (i (o z))))) Gd.no [],
   .mk (mvR (X.t (i (i (i (o z)))))) (.some (i z)) Gd.no []])
  .ret)))))
theorem C144ok : (match Tryz.f144.body with | some c => comp Tryz.prog 23 c | none => none) = some C144 := by kernel_rfl
@[go_sem] theorem call144 (args : List AV) (H : Heap) : callC Tryz.prog 144 args H = .call 144 args := callC_ok (by kernel_rfl) args H
theorem R144ok : resKs Tryz.prog Tryz.f144.results.toList = some [(RK.tmp (i z))] := by kernel_rfl

noncomputable def C145 : CC :=
  (.seq (.region [.mk (mvR (X.c (AV.str []))) (.some (i z)) Gd.no []])
  (.seq (.region [.mk (mvR (X.t z)) (.some (o (o z))) Gd.no [],
   .mk (lenR LnK.str (X.t (o (o z)))) (.some (i (o z))) Gd.no [],
   .mk (callS Tryz.prog 144 [(X.t (i (o z)))]) (.some (o (i z))) Gd.no [],
   .mk (mvR (X.t z)) (.some (i (i z))) Gd.no [],
   .mk (binR Tryz.prog EK.no .none false BinOp.add (X.t (o (i z))) (X.t (i (i z)))) (.some (o (o (o z)))) Gd.no [],
   .mk (mvR (X.t (o (o (o z))))) (.some (i z)) Gd.no []])
  .ret))
theorem C145ok : (match Tryz.f145.body with | some c => comp Tryz.prog 8 c | none => none) = some C145 := by kernel_rfl
@[go_sem] theorem call145 (args : List AV) (H : Heap) : callC Tryz.prog 145 args H = .call 145 args := callC_ok (by kernel_rfl) args H
theorem R145ok : resKs Tryz.prog Tryz.f145.results.toList = some [(RK.tmp (i z))] := by kernel_rfl

@[go_sem] theorem call151 (args : List AV) (H : Heap) : callC Tryz.prog 151 args H = .call 151 args := callC_ok (by kernel_rfl) args H
noncomputable def C152 : CC :=
  (.seq (.region [.mk (boxR false (X.t z)) (.some (o z)) Gd.no [],
   .mk (mvR (X.c (AV.bool false))) (.some (i z)) Gd.no []])
  (.seq (.region [.mk (faR 0 (X.t (o z))) (.some (o (o z))) Gd.no [],
   .mk (ldR false 1 (X.t (o (o z)))) (.some (i (o z))) Gd.no [],
   .mk (lenR LnK.str (X.t (i (o z)))) (.some (o (i z))) Gd.no [],
   .mk (binR Tryz.prog EK.no .none true BinOp.gtr (X.t (o (i z))) (X.c (AV.int .i64 255))) (.some (i (i z))) Gd.no [],
   .mk (mvR (X.t (i (i z)))) (.some (o (o (o z)))) Gd.no [],
   .mk (faR 1 (X.t (o z))) (.some (i (o (o z)))) (Gd.on (o (o (o z))) false) [],
   .mk (ldR false 1 (X.t (i (o (o z))))) (.some (o (i (o z)))) (Gd.on (o (o (o z))) false) [],
   .mk (lenR LnK.str (X.t (o (i (o z))))) (.some (i (i (o z)))) (Gd.on (o (o (o z))) false) [],
   .mk (binR Tryz.prog EK.no .none true BinOp.gtr (X.t (i (i (o z)))) (X.c (AV.int .i64 255))) (.some (o (o (i z)))) (Gd.on (o (o (o z))) false) [],
   .mk (pickR (X.t (o (o (o z)))) (X.c (AV.bool true)) (X.t (o (o (i z))))) (.some (i (o (i z)))) Gd.no [],
   .mk (mvR (X.t (i (o (i z))))) (.some (o (i (i z)))) Gd.no [],
   .mk (faR 2 (X.t (o z))) (.some (i (i (i z)))) (Gd.on (o (i (i z))) false) [],
   .mk (ldR false 1 (X.t (i (i (i z))))) (.some (o (o (o (o z))))) (Gd.on (o (i (i z))) false) [],
   .mk (binR Tryz.prog EK.no .none true BinOp.lss (X.t (o (o (o (o z))))) (X.c (AV.int .i64 0))) (.some (i (o (o (o z))))) (Gd.on (o (i (i z))) false) [],
   .mk (pickR (X.t (o (i (i z)))) (X.c (AV.bool true)) (X.t (i (o (o (o z)))))) (.some (o (i (o (o z))))) Gd.no [],
   .mk (mvR (X.t (o (i (o (o z)))))) (.some (i (i (o (o z))))) Gd.no [],
   .mk (faR 2 (X.t (o z))) (.some (o (o (i (o z))))) (Gd.on (i (i (o (o z)))) false) [],
   .mk (ldR false 1 (X.t (o (o (i (o z)))))) (.some (i (o (i (o z))))) (Gd.on (i (i (o (o z)))) false) [],
   .mk (binR Tryz.prog EK.no .none true BinOp.geq (X.t (i (o (i (o z))))) (X.c (AV.int .i64 281474976710656))) (.some (o (i (i (o z))))) (Gd.on (i (i (o (o z)))) false) [],
   .mk (pickR (X.t (i (i (o (o z))))) (X.c (AV.bool true)) (X.t (o (i (i (o z)))))) (.some (i (i (i (o z))))) Gd.no [],
   .mk (mvR (X.t (i (i (i (o z)))))) (.some (i z)) Gd.no []])
  .ret))
theorem C152ok : (match Tryz.f152.body with | some c => comp Tryz.prog 23 c | none => none) = some C152 := by kernel_rfl
@[go_sem] theorem call152 (args : List AV) (H : Heap) : callC Tryz.prog 152 args H = .call 152 args := callC_ok (by kernel_rfl) args H
theorem R152ok : resKs Tryz.prog Tryz.f152.results.toList = some [(RK.tmp (i z))] := by kernel_rfl

noncomputable def C153 : CC :=
  (.seq (.region [.mk (mvR (X.c (AV.bool false))) (.some (i (o z))) Gd.no []])
  (.seq (.region [.mk (mvR (X.t z)) (.some (o (i z))) Gd.no [],
   .mk (mvR (X.t (o z))) (.some (i (i z))) Gd.no [],
   .mk (callS Tryz.prog 157 [(X.t (o (i z))), (X.t (i (i z)))]) (.some (o (o (o z)))) Gd.no [],
   .mk (binR Tryz.prog EK.no .none true BinOp.geq (X.t (o (o (o z)))) (X.c (AV.int .i64 0))) (.some (i (o (o z)))) Gd.no [],
   .mk (mvR (X.t (i (o (o z))))) (.some (i (o z))) Gd.no []])
  .ret))
theorem C153ok : (match Tryz.f153.body with | some c => comp Tryz.prog 9 c | none => none) = some C153 := by kernel_rfl
@[go_sem] theorem call153 (args : List AV) (H : Heap) : callC Tryz.prog 153 args H = .call 153 args := callC_ok (by kernel_rfl) args H
theorem R153ok : resKs Tryz.prog Tryz.f153.results.toList = some [(RK.tmp (i (o z)))] := by kernel_rfl

noncomputable def C157L0 : CC :=
  (.seq (.region [.mk (binR Tryz.prog EK.no .none false BinOp.lss (X.t (i (o (o z)))) (X.t (o (o (o z))))) (.some (o (i (o z)))) Gd.no []])
  (.seq (.cond (X.t (o (i (o z))))
  .skip
  (.exit 0))
  (.seq (.block 1 (.seq (.region [.mk (mvR (X.t (i (o (o z))))) (.some (i (i (o z)))) Gd.no [],
   .mk (mvR (X.t (i (i (o z))))) (.some (o (i z))) Gd.no []])
  (.seq (.region [.mk (mvR (X.t (o z))) (.some (o (o (i z)))) Gd.no [],
   .mk (mvR (X.t z)) (.some (i (o (i z)))) Gd.no [],
   .mk (mvR (X.t (o (i z)))) (.some (o (i (i z)))) Gd.no [],
   .mk (iaS 3 (X.t (i (o (i z)))) (X.t (o (i (i z))))) (.some (i (i (i z)))) Gd.no [],
   .mk (ldR true 3 (X.t (i (i (i z))))) (.some (o (o (o (o z))))) Gd.no [],
   .mk (callX Tryz.prog (X.t (o (o (i z)))) [(X.t (o (o (o (o z)))))]) (.some (i (o (o (o z))))) Gd.no []])
  (.cond (X.t (i (o (o (o z)))))
  (.seq (.region [.mk (mvR (X.t (o (i z)))) (.some (o (i (o (o z))))) Gd.no [],
   .mk (mvR (X.t (o (i (o (o z)))))) (.some (i (o z))) Gd.no []])
  .ret)
  .skip))))
  (.region [.mk (binR Tryz.prog EK.no .none true BinOp.add (X.t (i (o (o z)))) (X.c (AV.int .i64 1))) (.some (i (i (o (o z))))) Gd.no [],
   .mk (mvR (X.t (i (i (o (o z)))))) (.some (i (o (o z)))) Gd.no []]))))
noncomputable def C157 : CC :=
  (.seq (.region [.mk (mvR (X.c (AV.int .i64 0))) (.some (i (o z))) Gd.no []])
  (.seq (.seq (.region [.mk (mvR (X.t z)) (.some (i (i z))) Gd.no [],
   .mk (lenR LnK.slice (X.t (i (i z)))) (.some (o (o (o z)))) Gd.no [],
   .mk (mvR (X.c (AV.int .i64 0))) (.some (i (o (o z)))) Gd.no []])
  (.block 0 (.loop C157L0)))
  (.seq (.region [.mk (mvR (X.c (AV.int .i64 (-1)))) (.some (i (o z))) Gd.no []])
  .ret)))
theorem C157ok : (match Tryz.f157.body with | some c => comp Tryz.prog 19 c | none => none) = some C157 := by kernel_rfl
@[go_sem] theorem call157 (args : List AV) (H : Heap) : callC Tryz.prog 157 args H = .call 157 args := callC_ok (by kernel_rfl) args H
theorem R157ok : resKs Tryz.prog Tryz.f157.results.toList = some [(RK.tmp (i (o z)))] := by kernel_rfl
end Go.Proofs
/- Small functions of keys, spans, cells, walked. -/

set_option linter.all false
set_option maxRecDepth 100000
namespace Go.Proofs
open Go Go.Ev
variable {H : Heap}
theorem bool_t {p : Prop} [Decidable p] (h : p) : AV.bool true = .bool (decide p) := by rw [decide_eq_true h]
theorem bool_f {p : Prop} [Decidable p] (h : ¬p) : AV.bool false = .bool (decide p) := by rw [decide_eq_false h]
def isKey (k : List Nat) : Prop := ¬ k = [] ∧ (k.length : Int) ≤ 8
instance (k : List Nat) : Decidable (isKey k) := inferInstanceAs (Decidable (_ ∧ _))
theorem f105_ok (k : List Nat) : FnOk Tryz.prog 105 [.str k] H fun v G => v = .bool (decide (isKey k)) ∧ G = H := by
  refine FnOk.of_WW Tryz.func105 rfl C105ok R105ok E0 good_E0 ?_
  simp only [go_sem, C105]
  repeat' (first | apply And.intro | intro _)
  all_goals first | exact Heap.ext_nil H | simp_all [isKey]
def isSpan (f t : List Nat) : Prop := (f.length : Int) ≤ 8 ∧ (t.length : Int) ≤ 8 ∧ (t = [] ∨ ltS f t)
noncomputable instance (f t : List Nat) : Decidable (isSpan f t) := inferInstanceAs (Decidable (_ ∧ _))
theorem f62_ok (f t : List Nat) : FnOk Tryz.prog 62 [.agg [.str f, .str t]] H fun v G => v = .bool (decide (isSpan f t)) ∧ G = H := by
  refine FnOk.drop (R := fun v => v = .bool (decide (isSpan f t))) ?_ (by rintro v rfl ρ; rw [AV.ren])
  refine FnOk.of_WW Tryz.func62 rfl C62ok R62ok E0 good_E0 ?_
  simp only [go_sem, C62, not_leS]
  repeat' (first | apply And.intro | intro _)
  all_goals first | exact ⟨_, rfl⟩ | exact bool_t (by unfold isSpan; grind) | exact bool_f (by unfold isSpan; grind)
def mayBe (k v : List Nat) (n : Int) (d : Bool) : Prop := isKey k ∧ (v.length : Int) ≤ 12 ∧ (d = true → v = []) ∧ 1 ≤ n ∧ n ≤ 1000000000000
instance (k v : List Nat) (n : Int) (d : Bool) : Decidable (mayBe k v n d) := inferInstanceAs (Decidable (_ ∧ _))
theorem f142_ok (f t : List Nat) (v : Int) (d : Bool) : FnOk Tryz.prog 142 [.str f, .str t, .int .i64 v, .bool d] H fun r G => r = .bool (decide (mayBe f t v d)) ∧ G = H := by
  refine FnOk.of_WW Tryz.func142 rfl C142ok R142ok E0 good_E0 ?_
  cases d
  all_goals simp only [go_sem, C142]
  all_goals refine CL.bool (f105_ok _) (fun h1 => ?_) (fun h1 => ?_)
  all_goals simp only [go_sem]
  all_goals repeat' (first | apply And.intro | intro _)
  all_goals first | exact Heap.ext_nil H | exact bool_t (by unfold mayBe; grind) | exact bool_f (by unfold mayBe; grind)

structure Cell where
  key : List Nat
  value : List Nat
  ver : Int
  del : Bool
  floor : Int
  deriving DecidableEq
def Cell.enc (c : Cell) : List AV := [.str c.key, .str c.value, .int .i64 c.ver, .bool c.del, .int .i64 c.floor]
@[go_sem] theorem Cell.rens (ρ : K → K) (c : Cell) : AV.rens ρ c.enc = c.enc := by simp only [Cell.enc, AV.rens, AV.ren]
theorem Cell.map_rens (ρ : K → K) (l : List Cell) : (l.map Cell.enc).map (AV.rens ρ) = l.map Cell.enc := by
  rw [List.map_map]; exact List.map_congr_left fun c _ => Cell.rens ρ c
theorem f107_ok (c : Cell) : FnOk Tryz.prog 107 [.agg c.enc] H fun v G => v = .bool (decide (0 < c.ver ∧ c.del = false)) ∧ G = H := by
  refine FnOk.drop (R := fun v => v = .bool (decide (0 < c.ver ∧ c.del = false))) ?_ (by rintro v rfl ρ; rw [AV.ren])
  refine FnOk.of_WW Tryz.func107 rfl C107ok R107ok E0 good_E0 ?_
  simp only [go_sem, C107, Cell.enc]
  repeat' (first | apply And.intro | intro _)
  all_goals first | exact ⟨_, rfl⟩ | (cases h : c.del <;> simp_all)
def has (f t k : List Nat) : Prop := isSpan f t ∧ isKey k ∧ ¬ ltS k f ∧ (t = [] ∨ ltS k t)
noncomputable instance (f t k : List Nat) : Decidable (has f t k) := inferInstanceAs (Decidable (_ ∧ _))
theorem f61_ok (f t k : List Nat) : FnOk Tryz.prog 61 [.agg [.str f, .str t], .str k] H fun v G => v = .bool (decide (has f t k)) ∧ G = H := by
  refine FnOk.drop (R := fun v => v = .bool (decide (has f t k))) ?_ (by rintro v rfl ρ; rw [AV.ren])
  refine FnOk.of_WW Tryz.func61 rfl C61ok R61ok E0 good_E0 ?_
  simp only [go_sem, C61]
  refine CL.bool (f62_ok _ _) (fun h1 => ?_) (fun h1 => ?_)
  all_goals simp only [go_sem]
  · refine CL.bool (f105_ok _) (fun h2 => ?_) (fun h2 => ?_)
    all_goals simp only [go_sem]
    all_goals repeat' (first | apply And.intro | intro _)
    all_goals first | exact ⟨_, rfl⟩ | exact bool_t (by unfold has; grind) | exact bool_f (by unfold has; grind)
  · exact ⟨bool_f (by unfold has; grind), _, rfl⟩
def cellIs (c : Cell) : Prop := mayBe c.key c.value c.ver c.del ∧ 0 ≤ c.floor ∧ c.floor ≤ c.ver
instance (c : Cell) : Decidable (cellIs c) := inferInstanceAs (Decidable (_ ∧ _))
theorem f141_ok (c : Cell) : FnOk Tryz.prog 141 [.agg c.enc] H fun v G => v = .bool (decide (cellIs c)) ∧ G = H := by
  refine FnOk.drop (R := fun v => v = .bool (decide (cellIs c))) ?_ (by rintro v rfl ρ; rw [AV.ren])
  refine FnOk.of_WW Tryz.func141 rfl C141ok R141ok E0 good_E0 ?_
  simp only [go_sem, C141, Cell.enc]
  refine CL.bool (f142_ok _ _ _ _) (fun h1 => ?_) (fun h1 => ?_)
  all_goals simp only [go_sem]
  all_goals repeat' (first | apply And.intro | intro _)
  all_goals first | exact ⟨_, rfl⟩ | exact bool_t (by unfold cellIs; grind) | exact bool_f (by unfold cellIs; grind)
end Go.Proofs
/- index: Get, walked. -/

set_option linter.all false
set_option maxRecDepth 100000
namespace Go.Proofs
open Go Go.Ev
variable {H : Heap}
def Cell.zero : Cell := ⟨[], [], 0, false, 0⟩
def getL (l : List Cell) (key : List Nat) : Cell × Bool := match l with
  | [] => (⟨key, [], 0, false, 0⟩, false)
  | c :: l => if c.key = key then (c, true) else getL l key
theorem getL_at {key : List Nat} : ∀ {l : List Cell} {i : Nat} {c : Cell}, (∀ x ∈ l.take i, x.key ≠ key) → l[i]? = some c → c.key = key → getL l key = (c, true)
  | [], i, c, _, h, _ => by simp at h
  | x :: l, 0, c, _, h, hc => by simp at h; subst h; rw [getL, if_pos hc]
  | x :: l, i + 1, c, hn, h, hc => by
    rw [getL, if_neg (hn x (by simp))]
    exact getL_at (i := i) (fun y hy => hn y (by simp [hy])) (by simpa using h) hc
theorem getL_none {key : List Nat} : ∀ {l : List Cell}, (∀ x ∈ l, x.key ≠ key) → getL l key = (⟨key, [], 0, false, 0⟩, false)
  | [], _ => rfl
  | x :: l, h => by rw [getL, if_neg (h x (by simp))]; exact getL_none fun y hy => h y (by simp [hy])
theorem take_all {α : Type} {l : List α} {i : Nat} (h : l.length ≤ i) : l.take i = l := List.take_of_length_le h
theorem take_next {α : Type} {l : List α} {i : Nat} {c : α} (h : l[i]? = some c) : l.take (i + 1) = l.take i ++ [c] := by
  rw [List.take_succ, h]; rfl


theorem f106_ok {v : AV} {l : List Cell} (hA : Arr H 5 v (l.map Cell.enc)) (hl : l.length < 4294967296) (key : List Nat) :
    FnOk Tryz.prog 106 [v, .str key] H fun r G => r = .tup [.agg (getL l key).1.enc, .bool (getL l key).2] ∧ G = H := by
  refine FnOk.assume fun hok => ?_
  refine FnOk.drop (R := fun r => r = .tup [.agg (getL l key).1.enc, .bool (getL l key).2]) ?_ (by rintro v rfl ρ; simp only [AV.ren, AV.rens, Cell.rens])
  refine FnOk.of_WW Tryz.func106 rfl C106ok R106ok E0 good_E0 ?_
  rcases hA.forms with ⟨rfl, hnil⟩ | ⟨k, off, ex, cap, rfl, hrho⟩
  · have hn0 : l.length = 0 := by simpa using hnil
    simp only [go_sem, C106]
    refine LL.st good_E0 (fun i : Nat => l.length - i) (fun i => i ≤ l.length ∧ ∀ x ∈ l.take i, x.key ≠ key)
      (fun i => [(.o .z, .str key), (.i (.o .z), .ptr (H.key 0) 0), (.i (.o (.o .z)), .nils), (.o (.i (.o .z)), .int .i64 l.length), (.i (.i (.o .z)), .int .i64 i)])
      (fun i => [.row true 5 [[.str [], .str [], .int .i64 0, .bool false, .int .i64 0]]]) ?_ 0 (σ := [0]) (Wk.mk' rfl (by decide) (by simp only [go_sem, List.length_map, hn0]) (by simp only [go_sem, List.length_map, hn0])) ⟨by omega, by simp⟩
    rintro i ⟨hi, hno⟩
    by_cases hlt : i < l.length
    · exact absurd hlt (by omega)
    · have hci : ¬ (i : Int) < (l.length : Int) := by omega
      have := getL_none (l := l) (key := key) (by rw [take_all (by omega)] at hno; exact hno)
      simp only [go_sem, C106L0, hci]
      rw [this]
      exact ⟨rfl, _, rfl⟩
  · have hn0 : True := trivial
    simp only [go_sem, C106]
    refine LL.st good_E0 (fun i : Nat => l.length - i) (fun i => i ≤ l.length ∧ ∀ x ∈ l.take i, x.key ≠ key)
      (fun i => [(.o .z, .str key), (.i (.o .z), .ptr (H.key 0) 0), (.i (.o (.o .z)), .slice k off (l.map Cell.enc).length 5 ex cap), (.o (.i (.o .z)), .int .i64 l.length), (.i (.i (.o .z)), .int .i64 i)])
      (fun i => [.row true 5 [[.str [], .str [], .int .i64 0, .bool false, .int .i64 0]]]) ?_ 0 (σ := [0]) (Wk.mk' rfl (by decide) (by simp only [go_sem, List.length_map, hrho]) (by simp only [go_sem, List.length_map, hrho])) ⟨by omega, by simp⟩
    rintro i ⟨hi, hno⟩
    by_cases hlt : i < l.length
    · obtain ⟨kk, r, ex', cap', wr, rows, hv, hk, hg, _, hat⟩ := hA.pick (j := i) (by simpa using hlt)
      have hrow := hat i (by simpa using hlt)
      have hgo := Heap.get_ext_old hok hg
      have hw := wrap_succ (n := i) (by omega)
      have hci : (i : Int) < (l.length : Int) := by omega
      have hsi : i + 1 ≤ l.length := by omega
      cases hv
      simp only [go_sem, C106L0, List.length_map, hw, hgo, hrow, hci, hsi, List.getElem?_eq_getElem hlt, Cell.enc]
      have hget : l[i]? = some l[i] := List.getElem?_eq_getElem hlt
      refine ⟨fun he => ?_, fun he => ?_⟩
      · have := getL_at hno hget he
        rw [this]
        exact ⟨rfl, _, rfl⟩
      · refine ⟨i + 1, by show l.length - (i + 1) < l.length - i; omega, ⟨by omega, ?_⟩, _, [0], rfl, Wk.mk' rfl (by decide) (by simp only [go_sem, hrho, List.length_map]) (by simp only [go_sem, hrho, List.length_map])⟩
        rw [take_next hget]
        intro x hx
        rcases List.mem_append.1 hx with h | h
        · exact hno x h
        · simp only [List.mem_singleton] at h; subst h; exact he
    · have hci : ¬ (i : Int) < (l.length : Int) := by omega
      have := getL_none (l := l) (key := key) (by rw [take_all (by omega)] at hno; exact hno)
      simp only [go_sem, C106L0, hci]
      rw [this]
      exact ⟨rfl, _, rfl⟩
end Go.Proofs
/- index: loops that only read, walked. -/

set_option linter.all false
set_option maxRecDepth 100000
namespace Go.Proofs
open Go Go.Ev
variable {H : Heap}

def few (l : List Cell) : Prop := (∀ c ∈ l, (c.key.length : Int) ≤ 20 ∧ (c.value.length : Int) ≤ 40) ∧ (l.length : Int) ≤ 30
instance (l : List Cell) : Decidable (few l) := inferInstanceAs (Decidable (_ ∧ _))

end Go.Proofs
/- index: the order of cells, walked. -/

set_option linter.all false
set_option maxRecDepth 100000
namespace Go.Proofs
open Go Go.Ev
variable {H : Heap}

def okAt (l : List Cell) (j : Nat) : Prop := ∃ c, l[j]? = some c ∧ cellIs c ∧ (0 < j → ∃ d, l[j - 1]? = some d ∧ ltS d.key c.key)
def isIdx (l : List Cell) : Prop := ∀ j, j < l.length → okAt l j
noncomputable instance (l : List Cell) : Decidable (isIdx l) := Classical.propDecidable _

theorem f115_ok {v : AV} {l : List Cell} (hA : Arr H 5 v (l.map Cell.enc)) (hl : l.length < 4294967296) :
    FnOk Tryz.prog 115 [v] H fun r G => r = .bool (decide (isIdx l)) ∧ G = H := by
  refine FnOk.assume fun hok => ?_
  refine FnOk.drop (R := fun r => r = .bool (decide (isIdx l))) ?_ (by rintro v rfl ρ; rw [AV.ren])
  refine FnOk.of_WW Tryz.func115 rfl C115ok R115ok E0 good_E0 ?_
  rcases hA.forms with ⟨rfl, hnil⟩ | ⟨k, off, ex, cap, rfl, hrho⟩
  · have hn0 : l.length = 0 := by simpa using hnil
    simp only [go_sem, C115]
    refine LL.st good_E0 (fun i : Nat => l.length - i) (fun i => i ≤ l.length ∧ ∀ j, j < i → okAt l j)
      (fun i => [(.z, .nils), ((.o (.i .z)), .nils), ((.i (.i .z)), .int .i64 l.length), ((.o (.o (.o .z))), .int .i64 i)])
      (fun i => []) ?_ 0 (σ := []) (Wk.mk' rfl (by decide) (by simp only [go_sem, List.length_map, hn0]) (by simp only [go_sem, List.length_map, hn0])) ⟨by omega, by simp⟩
    rintro i ⟨hi, hno⟩
    by_cases hlt : i < l.length
    · exact absurd hlt (by omega)
    · have hci : ¬ (i : Int) < (l.length : Int) := by omega
      simp only [go_sem, C115L0, List.length_map, hci, show ¬ (i : Int) < 0 by omega]
      exact ⟨bool_t fun j hj => hno j (by omega), _, rfl⟩
  · simp only [go_sem, C115]
    refine LL.st good_E0 (fun i : Nat => l.length - i) (fun i => i ≤ l.length ∧ ∀ j, j < i → okAt l j)
      (fun i => [(.z, .slice k off (l.map Cell.enc).length 5 ex cap), ((.o (.i .z)), .slice k off (l.map Cell.enc).length 5 ex cap), ((.i (.i .z)), .int .i64 l.length), ((.o (.o (.o .z))), .int .i64 i)])
      (fun i => []) ?_ 0 (σ := []) (Wk.mk' rfl (by decide) (by simp only [go_sem, List.length_map, hrho]) (by simp only [go_sem, List.length_map, hrho])) ⟨by omega, by simp⟩
    rintro i ⟨hi, hno⟩
    by_cases hlt : i < l.length
    · obtain ⟨kk, r, ex', cap', wr, rows, hv, hk, hg, _, hat⟩ := hA.pick (j := i) (by simpa using hlt)
      have hrow := hat i (by simpa using hlt)
      have hgo := Heap.get_ext_old hok hg
      have hw := wrap_succ (n := i) (by omega)
      have hci : (i : Int) < (l.length : Int) := by omega
      have hsi : i + 1 ≤ l.length := by omega
      have hget : l[i]? = some l[i] := List.getElem?_eq_getElem hlt
      cases hv
      have hbad : ¬ okAt l i → ¬ isIdx l := fun h g => h (g i hlt)
      simp only [go_sem, C115L0, List.length_map, hw, hgo, hrow, hci, hsi, List.getElem?_eq_getElem hlt, Cell.enc]
      refine CL.bool (f141_ok l[i]) (fun h1 => ?_) (fun h1 => ?_)
      · rcases Nat.eq_zero_or_pos i with h0 | h0
        · subst h0
          have hw0 : IntKind.i64.wrap (0 + 1) = ((0 + 1 : Nat) : Int) := rfl
          simp only [go_sem, List.length_map, hw, hgo, hrow, hci, hsi, List.getElem?_eq_getElem hlt, Cell.enc, Int.lt_irrefl, Int.ofNat_zero, hw0]
          refine ⟨0 + 1, by show l.length - (0 + 1) < l.length - 0; omega, ?_, _, [], rfl, Wk.mk' rfl (by decide) (by simp only [go_sem, hrho, List.length_map]) (by simp only [go_sem, hrho, List.length_map])⟩
          refine ⟨by omega, fun j hj => ?_⟩
          obtain rfl : j = 0 := by omega
          exact ⟨_, hget, h1, fun h => absurd h (by omega)⟩
        · obtain ⟨j, rfl⟩ : ∃ j, i = j + 1 := ⟨i - 1, by omega⟩
          have hrow' := hat j (by simp only [List.length_map]; omega)
          have hp : IntKind.i64.wrap (((j + 1 : Nat) : Int) - 1) = (j : Int) := by rw [wrap_i64 (by omega) (by omega)]; omega
          have hpos : (0 : Int) < ((j + 1 : Nat) : Int) := by omega
          have hltj : (j : Int) < (l.length : Int) := by omega
          have hsj : j + 1 ≤ l.length := by omega
          have hgetj : l[j]? = some l[j] := List.getElem?_eq_getElem (by omega)
          simp only [go_sem, List.length_map, hw, hgo, hrow, hci, hsi, List.getElem?_eq_getElem hlt, Cell.enc, hrow', hp, hpos, hltj, hsj, hgetj]
          refine ⟨fun h2 => ⟨bool_f (hbad ?_), _, rfl⟩, fun h2 => ?_⟩
          · rintro ⟨c, hc, _, hlt'⟩
            obtain ⟨d, hd, hlt'⟩ := hlt' (by omega)
            rw [hget] at hc
            rw [Nat.add_sub_cancel, hgetj] at hd
            cases hc; cases hd
            exact h2 hlt'
          · refine ⟨(j + 1) + 1, by show l.length - ((j + 1) + 1) < l.length - (j + 1); omega, ?_, _, [], rfl, Wk.mk' rfl (by decide) (by simp only [go_sem, hrho, List.length_map]) (by simp only [go_sem, hrho, List.length_map])⟩
            refine ⟨by omega, fun x hx => ?_⟩
            rcases Nat.lt_or_ge x (j + 1) with g | g
            · exact hno x g
            · obtain rfl : x = j + 1 := by omega
              exact ⟨_, hget, h1, fun _ => ⟨_, hgetj, Classical.not_not.1 h2⟩⟩
      · simp only [go_sem, List.length_map, hw, hgo, hrow, hci, hsi, List.getElem?_eq_getElem hlt, Cell.enc]
        exact ⟨bool_f (hbad (by rintro ⟨c, hc, h, _⟩; rw [hget] at hc; cases hc; exact h1 h)), _, rfl⟩
    · have hci : ¬ (i : Int) < (l.length : Int) := by omega
      simp only [go_sem, C115L0, List.length_map, hci]
      exact ⟨bool_t fun j hj => hno j (by omega), _, rfl⟩

end Go.Proofs
/- index: the reference order of cells and sameness, walked. -/

set_option linter.all false
set_option maxRecDepth 100000
namespace Go.Proofs
open Go Go.Ev
variable {H : Heap}

noncomputable def F46 : FuncId → List AV → Option AV
  | 78, [.agg [.str f, .str t], .str k] => some (.bool (decide (has f t k)))
  | _, _ => none
theorem e46 (f t k : List Nat) (H : Heap) : pureE F46 78 [.agg [.str f, .str t], .str k] H = .ok (.bool (decide (has f t k))) H := rfl

end Go.Proofs
/- index: the cells of a span, walked. -/


set_option linter.all false
set_option maxRecDepth 100000
namespace Go.Proofs
open Go Go.Ev
variable {H : Heap}

noncomputable def withinL (f t : List Nat) (l : List Cell) : List Cell := l.filter fun c => decide (has f t c.key)
theorem withinL_yes {f t : List Nat} {l : List Cell} {i : Nat} {c : Cell} (h : l[i]? = some c) (h2 : has f t c.key) : withinL f t (l.take (i + 1)) = withinL f t (l.take i) ++ [c] := by
  rw [take_next h]; simp [withinL, h2]
theorem withinL_no {f t : List Nat} {l : List Cell} {i : Nat} {c : Cell} (h : l[i]? = some c) (h2 : ¬ has f t c.key) : withinL f t (l.take (i + 1)) = withinL f t (l.take i) := by
  rw [take_next h]; simp [withinL, h2]
theorem withinL_len (f t : List Nat) (l : List Cell) (i : Nat) : (withinL f t (l.take i)).length ≤ i := Nat.le_trans (List.length_filter_le _ _) (by simp; omega)

theorem f73_ok {v : AV} {l : List Cell} (hA : Arr H 5 v (l.map Cell.enc)) (hl : l.length < 4294967296) (f t : List Nat) :
    FnOk Tryz.prog 73 [v, .agg [.str f, .str t]] H fun r G => r = outV H.nx 5 (withinL f t l).length ∧ G = H.ext (outL 5 ((withinL f t l).map Cell.enc)) := by
  refine FnOk.assume fun hok => ?_
  rw [show (withinL f t l).length = ((withinL f t l).map Cell.enc).length from (List.length_map ..).symm]
  refine FnOk.dropV (Cell.map_rens · _) ?_
  rw [List.length_map]
  refine FnOk.of_WW Tryz.func73 rfl C73ok R73ok E0 good_E0 ?_
  rcases hA.forms with ⟨rfl, hnil⟩ | ⟨k, off, ex, cap, rfl, hrho⟩
  · have hn0 : l.length = 0 := by simpa using hnil
    simp only [go_sem, C73]
    refine LL.st good_E0 (fun i : Nat => l.length - i) (fun i => i ≤ l.length)
      (fun i => [((.o (.o .z)), .ptr (H.key 0) 0), ((.o (.i .z)), outV (H.key 1) 5 (withinL f t (l.take i)).length), ((.i (.o (.o .z))), .nils), ((.o (.i (.o .z))), .int .i64 l.length), ((.i (.i (.o .z))), .int .i64 i)])
      (fun i => [.row true 2 [[.str f, .str t]], outB 5 ((withinL f t (l.take i)).map Cell.enc)]) ?_ 0 (σ := [0, 1]) (Wk.mk' rfl (by decide) (by simp only [go_sem, List.length_map, hn0, withinL, List.filter_nil]) (by simp only [go_sem, List.length_map, hn0, withinL, List.filter_nil])) (by omega)
    rintro i hi
    by_cases hlt : i < l.length
    · exact absurd hlt (by omega)
    · have hci : ¬ (i : Int) < (l.length : Int) := by omega
      simp only [go_sem, C73L0, List.length_map, hci, show ¬ (i : Int) < 0 by omega]
      rw [take_all (by omega)]
      exact ⟨_, 1, rfl, rfl, rfl⟩
  · simp only [go_sem, C73]
    refine LL.st good_E0 (fun i : Nat => l.length - i) (fun i => i ≤ l.length)
      (fun i => [((.o (.o .z)), .ptr (H.key 0) 0), ((.o (.i .z)), outV (H.key 1) 5 (withinL f t (l.take i)).length), ((.i (.o (.o .z))), .slice k off (l.map Cell.enc).length 5 ex cap), ((.o (.i (.o .z))), .int .i64 l.length), ((.i (.i (.o .z))), .int .i64 i)])
      (fun i => [.row true 2 [[.str f, .str t]], outB 5 ((withinL f t (l.take i)).map Cell.enc)]) ?_ 0 (σ := [0, 1]) (Wk.mk' rfl (by decide) (by simp only [go_sem, List.length_map, hrho, withinL, List.filter_nil]) (by simp only [go_sem, List.length_map, hrho, withinL, List.filter_nil])) (by omega)
    rintro i hi
    by_cases hlt : i < l.length
    · obtain ⟨kk, r, ex', cap', wr, rows, hv, hk, hg, _, hat⟩ := hA.pick (j := i) (by simpa using hlt)
      have hrow := hat i (by simpa using hlt)
      have hgo := Heap.get_ext_old hok hg
      have hw := wrap_succ (n := i) (by omega)
      have hci : (i : Int) < (l.length : Int) := by omega
      have hsi : i + 1 ≤ l.length := by omega
      have hget : l[i]? = some l[i] := List.getElem?_eq_getElem hlt
      cases hv
      have hlen := withinL_len f t l i
      rcases hx : withinL f t (l.take i) with _ | ⟨x, xs⟩
      · simp only [go_sem, C73L0, e46, List.length_map, hw, hgo, hrow, hci, hsi, List.getElem?_eq_getElem hlt, Cell.enc]
        refine CL.bool (f61_ok f t l[i].key) (fun h1 => ?_) (fun h1 => ?_)
        · have hnew : withinL f t (l.take (i + 1)) = [l[i]] := by rw [withinL_yes hget h1, hx]; rfl
          try simp only [go_sem, List.length_map, hw, hgo, hrow, hci, hsi, List.getElem?_eq_getElem hlt, Cell.enc]
          refine ⟨i + 1, by show l.length - (i + 1) < l.length - i; omega, ?_, _, [0, 4], rfl, Wk.mk' rfl (by decide) (by simp only [go_sem, hrho, List.length_map, hnew, Cell.enc, Cell.map_rens]) (by simp only [go_sem, hrho, List.length_map, hnew, Cell.enc, Cell.map_rens])⟩
          omega
        · have hnew : withinL f t (l.take (i + 1)) = [] := by rw [withinL_no hget h1, hx]
          try simp only [go_sem, List.length_map, hw, hgo, hrow, hci, hsi, List.getElem?_eq_getElem hlt, Cell.enc]
          refine ⟨i + 1, by show l.length - (i + 1) < l.length - i; omega, ?_, _, [0, 1], rfl, Wk.mk' rfl (by decide) (by simp only [go_sem, hrho, List.length_map, hnew, Cell.enc, Cell.map_rens]) (by simp only [go_sem, hrho, List.length_map, hnew, Cell.enc, Cell.map_rens])⟩
          omega
      · have hfull : ¬ xs.length + 1 ≤ xs.length := by omega
        have htk : List.take xs.length (xs.map Cell.enc) = xs.map Cell.enc := List.take_of_length_le (by simp)
        have hself : xs.length ≤ xs.length := Nat.le_refl _
        have hmx : (2 * (xs.length + 1 + 1) + 192) * 56 ≤ 281474976710656 := by rw [hx] at hlen; simp only [List.length_cons] at hlen; omega
        simp only [go_sem, C73L0, e46, List.length_map, hw, hgo, hrow, hci, hsi, List.getElem?_eq_getElem hlt, Cell.enc, hfull, htk, hself, hmx]
        refine CL.bool (f61_ok f t l[i].key) (fun h1 => ?_) (fun h1 => ?_)
        · have hnew : withinL f t (l.take (i + 1)) = x :: (xs ++ [l[i]]) := by rw [withinL_yes hget h1, hx]; rfl
          try simp only [go_sem, List.length_map, hw, hgo, hrow, hci, hsi, List.getElem?_eq_getElem hlt, Cell.enc, hfull, htk, hself, hmx]
          refine ⟨i + 1, by show l.length - (i + 1) < l.length - i; omega, ?_, _, [0, 4], rfl, Wk.mk' rfl (by decide) (by simp only [go_sem, hrho, List.length_map, hnew, Cell.enc, Cell.map_rens]) (by simp only [go_sem, hrho, List.length_map, hnew, Cell.enc, Cell.map_rens])⟩
          omega
        · have hnew : withinL f t (l.take (i + 1)) = x :: xs := by rw [withinL_no hget h1, hx]
          try simp only [go_sem, List.length_map, hw, hgo, hrow, hci, hsi, List.getElem?_eq_getElem hlt, Cell.enc]
          refine ⟨i + 1, by show l.length - (i + 1) < l.length - i; omega, ?_, _, [0, 1], rfl, Wk.mk' rfl (by decide) (by simp only [go_sem, hrho, List.length_map, hnew, Cell.enc, Cell.map_rens]) (by simp only [go_sem, hrho, List.length_map, hnew, Cell.enc, Cell.map_rens])⟩
          omega
    · have hci : ¬ (i : Int) < (l.length : Int) := by omega
      simp only [go_sem, C73L0, List.length_map, hci]
      rw [take_all (by omega)]
      exact ⟨_, 1, rfl, rfl, rfl⟩

end Go.Proofs
