/- The laid-out code of the functions that are walked. Printed by a program. -/
import Derived.Test.YtomljpdjfobeoaaGreatDoorZ22
import Derived.Test.YtomljpdjfobeoaaGreatDoorProg
import Derived.KernelRfl
set_option linter.all false
set_option maxRecDepth 100000
namespace Go.Proofs
open Go Go.Ev K
noncomputable def C100L0 : CC :=
  (.seq (.region [.mk (binR Tryz.prog EK.no .none false BinOp.lss (X.t (o (i (i z)))) (X.t (i (o (i z))))) (.some (i (i (i z)))) Gd.no []])
  (.seq (.cond (X.t (i (i (i z))))
  .skip
  (.exit 0))
  (.seq (.block 1 (.seq (.region [.mk (mvR (X.t (o (i (i z))))) (.some (o (o (o (o z))))) Gd.no [],
   .mk (mvR (X.t (o (o (o (o z)))))) (.some (o (i z))) Gd.no []])
  (.seq (.regionD [.mk (keepH (mvR (X.t (o (i z))))) (.some (o (i (i (o z))))) Gd.no [],
   .mk (keepH (mvR (X.t (o z)))) (.some (i (o (i (o z))))) Gd.no [],
   .mk (keepH (iaS 5 (X.t (i (o (i (o z))))) (X.t (o (i (i (o z))))))) (.some (i (i (i (o z))))) Gd.no [],
   .mk (keepH (ldR true 5 (X.t (i (i (i (o z))))))) (.some (o (o (o (i z))))) Gd.no [],
   .mk (keepH (mvR (X.t (o (i z))))) (.some (o (i (o (o z))))) Gd.no [],
   .mk (keepH (mvR (X.t z))) (.some (i (o (o (o z))))) Gd.no [],
   .mk (keepH (iaS 5 (X.t (i (o (o (o z))))) (X.t (o (i (o (o z))))))) (.some (i (i (o (o z))))) Gd.no [],
   .mk (keepH (ldR true 5 (X.t (i (i (o (o z))))))) (.some (o (o (i (o z))))) Gd.no [],
   .mk (keepH (binR Tryz.prog EK.no (.some [LK.str, LK.str, LK.int, LK.bool, LK.int]) false BinOp.neq (X.t (o (o (i (o z))))) (X.t (o (o (o (i z))))))) (.some (i (o (o (i z))))) Gd.no []])
  (.cond (X.t (i (o (o (i z)))))
  (.seq (.region [.mk (mvR (X.c (AV.bool false))) (.some (i (o z))) Gd.no []])
  .ret)
  .skip))))
  (.region [.mk (binR Tryz.prog EK.no .none true BinOp.add (X.t (o (i (i z)))) (X.c (AV.int .i64 1))) (.some (o (i (o (i z))))) Gd.no [],
   .mk (mvR (X.t (o (i (o (i z)))))) (.some (o (i (i z)))) Gd.no []]))))
noncomputable def C100 : CC :=
  (.seq (.region [.mk (mvR (X.c (AV.bool false))) (.some (i (o z))) Gd.no []])
  (.seq (.seq (.region [.mk (mvR (X.t z)) (.some (i (i z))) Gd.no [],
   .mk (lenR LnK.slice (X.t (i (i z)))) (.some (o (o (o z)))) Gd.no [],
   .mk (mvR (X.t (o z))) (.some (i (o (o z)))) Gd.no [],
   .mk (lenR LnK.slice (X.t (i (o (o z))))) (.some (o (i (o z)))) Gd.no [],
   .mk (binR Tryz.prog EK.no .none false BinOp.neq (X.t (o (o (o z)))) (X.t (o (i (o z))))) (.some (i (i (o z)))) Gd.no []])
  (.cond (X.t (i (i (o z))))
  (.seq (.region [.mk (mvR (X.c (AV.bool false))) (.some (i (o z))) Gd.no []])
  .ret)
  .skip))
  (.seq (.seq (.region [.mk (mvR (X.t z)) (.some (o (o (i z)))) Gd.no [],
   .mk (lenR LnK.slice (X.t (o (o (i z))))) (.some (i (o (i z)))) Gd.no [],
   .mk (mvR (X.c (AV.int .i64 0))) (.some (o (i (i z)))) Gd.no []])
  (.block 0 (.loop C100L0)))
  (.seq (.region [.mk (mvR (X.c (AV.bool true))) (.some (i (o z))) Gd.no []])
  .ret))))
theorem C100ok : (match Tryz.f100.body with | some c => comp Tryz.prog 26 c | none => none) = some C100 := by kernel_rfl
@[go_sem] theorem call100 (args : List AV) (H : Heap) : callC Tryz.prog 100 args H = .call 100 args := callC_ok (by kernel_rfl) args H
theorem R100ok : resKs Tryz.prog Tryz.f100.results.toList = some [(RK.tmp (i (o z)))] := by kernel_rfl

noncomputable def C101L0 : CC :=
  (.seq (.region [.mk (binR Tryz.prog EK.no .none false BinOp.lss (X.t (o (i (i z)))) (X.t (i (o (i z))))) (.some (i (i (i z)))) Gd.no []])
  (.seq (.cond (X.t (i (i (i z))))
  .skip
  (.exit 0))
  (.seq (.block 1 (.seq (.region [.mk (mvR (X.t (o (i (i z))))) (.some (o (o (o (o z))))) Gd.no [],
   .mk (mvR (X.t (o (o (o (o z)))))) (.some (o (i z))) Gd.no []])
  (.seq (.regionD [.mk (keepH (mvR (X.t (o (i z))))) (.some (o (i (i (o z))))) Gd.no [],
   .mk (keepH (mvR (X.t (o z)))) (.some (i (o (i (o z))))) Gd.no [],
   .mk (keepH (iaS 4 (X.t (i (o (i (o z))))) (X.t (o (i (i (o z))))))) (.some (i (i (i (o z))))) Gd.no [],
   .mk (keepH (ldR true 4 (X.t (i (i (i (o z))))))) (.some (o (o (o (i z))))) Gd.no [],
   .mk (keepH (mvR (X.t (o (i z))))) (.some (o (i (o (o z))))) Gd.no [],
   .mk (keepH (mvR (X.t z))) (.some (i (o (o (o z))))) Gd.no [],
   .mk (keepH (iaS 4 (X.t (i (o (o (o z))))) (X.t (o (i (o (o z))))))) (.some (i (i (o (o z))))) Gd.no [],
   .mk (keepH (ldR true 4 (X.t (i (i (o (o z))))))) (.some (o (o (i (o z))))) Gd.no [],
   .mk (keepH (binR Tryz.prog EK.no (.some [LK.str, LK.int, LK.str, LK.bool]) false BinOp.neq (X.t (o (o (i (o z))))) (X.t (o (o (o (i z))))))) (.some (i (o (o (i z))))) Gd.no []])
  (.cond (X.t (i (o (o (i z)))))
  (.seq (.region [.mk (mvR (X.c (AV.bool false))) (.some (i (o z))) Gd.no []])
  .ret)
  .skip))))
  (.region [.mk (binR Tryz.prog EK.no .none true BinOp.add (X.t (o (i (i z)))) (X.c (AV.int .i64 1))) (.some (o (i (o (i z))))) Gd.no [],
   .mk (mvR (X.t (o (i (o (i z)))))) (.some (o (i (i z)))) Gd.no []]))))
noncomputable def C101 : CC :=
  (.seq (.region [.mk (mvR (X.c (AV.bool false))) (.some (i (o z))) Gd.no []])
  (.seq (.seq (.region [.mk (mvR (X.t z)) (.some (i (i z))) Gd.no [],
   .mk (lenR LnK.slice (X.t (i (i z)))) (.some (o (o (o z)))) Gd.no [],
   .mk (mvR (X.t (o z))) (.some (i (o (o z)))) Gd.no [],
   .mk (lenR LnK.slice (X.t (i (o (o z))))) (.some (o (i (o z)))) Gd.no [],
   .mk (binR Tryz.prog EK.no .none false BinOp.neq (X.t (o (o (o z)))) (X.t (o (i (o z))))) (.some (i (i (o z)))) Gd.no []])
  (.cond (X.t (i (i (o z))))
  (.seq (.region [.mk (mvR (X.c (AV.bool false))) (.some (i (o z))) Gd.no []])
  .ret)
  .skip))
  (.seq (.seq (.region [.mk (mvR (X.t z)) (.some (o (o (i z)))) Gd.no [],
   .mk (lenR LnK.slice (X.t (o (o (i z))))) (.some (i (o (i z)))) Gd.no [],
   .mk (mvR (X.c (AV.int .i64 0))) (.some (o (i (i z)))) Gd.no []])
  (.block 0 (.loop C101L0)))
  (.seq (.region [.mk (mvR (X.c (AV.bool true))) (.some (i (o z))) Gd.no []])
  .ret))))
theorem C101ok : (match Tryz.f101.body with | some c => comp Tryz.prog 26 c | none => none) = some C101 := by kernel_rfl
@[go_sem] theorem call101 (args : List AV) (H : Heap) : callC Tryz.prog 101 args H = .call 101 args := callC_ok (by kernel_rfl) args H
theorem R101ok : resKs Tryz.prog Tryz.f101.results.toList = some [(RK.tmp (i (o z)))] := by kernel_rfl

noncomputable def C102L0 : CC :=
  (.seq (.region [.mk (binR Tryz.prog EK.no .none false BinOp.lss (X.t (o (i (o (o z))))) (X.t (i (o (o (o z)))))) (.some (i (i (o (o z))))) Gd.no []])
  (.seq (.cond (X.t (i (i (o (o z)))))
  .skip
  (.exit 0))
  (.seq (.block 1 (.seq (.region [.mk (mvR (X.t (o (i (o (o z)))))) (.some (o (o (i (o z))))) Gd.no [],
   .mk (iaS 6 (X.t (o (o (o (o z))))) (X.t (o (i (o (o z)))))) (.some (i (o (i (o z))))) Gd.no [],
   .mk (ldR true 6 (X.t (i (o (i (o z)))))) (.some (o (i (i (o z))))) Gd.no [],
   .mk (fun _ H => newC false [(AV.int .i64 0), (AV.int .i64 0), (AV.int .i64 0), (AV.str []), (AV.int .i64 0), AV.nils] H) (.some (i (o (o z)))) Gd.no [],
   .mk (mvR (X.t (o (o (i (o z)))))) (.some (o (o (o z)))) Gd.no [],
   .mk (stR 6 (X.t (i (o (o z)))) (X.t (o (i (i (o z)))))) .none Gd.no []])
  (.seq (.region [.mk (mvR (X.t (o z))) (.some (i (i (i (o z))))) Gd.no [],
   .mk (mvR (X.t (o (o (o z))))) (.some (o (o (o (i z))))) Gd.no [],
   .mk (iaS 6 (X.t (i (i (i (o z))))) (X.t (o (o (o (i z)))))) (.some (i (o (o (i z))))) Gd.no [],
   .mk (ldR true 6 (X.t (i (o (o (i z)))))) (.some (o (i (o (i z))))) Gd.no [],
   .mk (fun _ H => newC false [(AV.int .i64 0), (AV.int .i64 0), (AV.int .i64 0), (AV.str []), (AV.int .i64 0), AV.nils] H) (.some (o (i (o z)))) Gd.no [],
   .mk (stR 6 (X.t (o (i (o z)))) (X.t (o (i (o (i z)))))) .none Gd.no []])
  (.seq (.region [.mk (mvR (X.t (i z))) (.some (i (i (o (i z))))) Gd.no [],
   .mk (ldR true 6 (X.t (i (o (o z))))) (.some (o (o (i (i z))))) Gd.no [],
   .mk (ldR true 6 (X.t (o (i (o z))))) (.some (i (o (i (i z))))) Gd.no [],
   .mk (callX Tryz.prog (X.t (i (i (o (i z))))) [(X.t (o (o (i (i z))))), (X.t (i (o (i (i z)))))]) (.some (o (i (i (i z))))) Gd.no [],
   .mk (unR UnOp.not (X.t (o (i (i (i z)))))) (.some (i (i (i (i z))))) Gd.no []])
  (.cond (X.t (i (i (i (i z)))))
  (.seq (.region [.mk (mvR (X.c (AV.bool false))) (.some (i (i z))) Gd.no []])
  .ret)
  .skip)))))
  (.region [.mk (binR Tryz.prog EK.no .none true BinOp.add (X.t (o (i (o (o z))))) (X.c (AV.int .i64 1))) (.some (o (o (o (o (o z)))))) Gd.no [],
   .mk (mvR (X.t (o (o (o (o (o z))))))) (.some (o (i (o (o z))))) Gd.no []]))))
noncomputable def C102 : CC :=
  (.seq (.region [.mk (mvR (X.c (AV.bool false))) (.some (i (i z))) Gd.no []])
  (.seq (.seq (.region [.mk (mvR (X.t z)) (.some (i (i (o z)))) Gd.no [],
   .mk (lenR LnK.slice (X.t (i (i (o z))))) (.some (o (o (i z)))) Gd.no [],
   .mk (mvR (X.t (o z))) (.some (i (o (i z)))) Gd.no [],
   .mk (lenR LnK.slice (X.t (i (o (i z))))) (.some (o (i (i z)))) Gd.no [],
   .mk (binR Tryz.prog EK.no .none false BinOp.neq (X.t (o (o (i z)))) (X.t (o (i (i z))))) (.some (i (i (i z)))) Gd.no []])
  (.cond (X.t (i (i (i z))))
  (.seq (.region [.mk (mvR (X.c (AV.bool false))) (.some (i (i z))) Gd.no []])
  .ret)
  .skip))
  (.seq (.seq (.region [.mk (mvR (X.t z)) (.some (o (o (o (o z))))) Gd.no [],
   .mk (lenR LnK.slice (X.t (o (o (o (o z)))))) (.some (i (o (o (o z))))) Gd.no [],
   .mk (mvR (X.c (AV.int .i64 0))) (.some (o (i (o (o z))))) Gd.no []])
  (.block 0 (.loop C102L0)))
  (.seq (.region [.mk (mvR (X.c (AV.bool true))) (.some (i (i z))) Gd.no []])
  .ret))))
theorem C102ok : (match Tryz.f102.body with | some c => comp Tryz.prog 32 c | none => none) = some C102 := by kernel_rfl
@[go_sem] theorem call102 (args : List AV) (H : Heap) : callC Tryz.prog 102 args H = .call 102 args := callC_ok (by kernel_rfl) args H
theorem R102ok : resKs Tryz.prog Tryz.f102.results.toList = some [(RK.tmp (i (i z)))] := by kernel_rfl

noncomputable def C103 : CC :=
  (.seq (.region [.mk (boxR false (X.t z)) (.some (o z)) Gd.no [],
   .mk (mvR (X.c (AV.bool false))) (.some (i z)) Gd.no []])
  (.seq (.block 0 (.seq (.block 4 (.block 3 (.block 2 (.block 1 (.seq (.seq (.seq (.region [.mk (faR 0 (X.t (o z))) (.some (i (o z))) Gd.no [],
   .mk (ldR false 1 (X.t (i (o z)))) (.some (o (i z))) Gd.no [],
   .mk (binR Tryz.prog EK.no .none true BinOp.neq (X.t (o (i z))) (X.c (AV.int .i64 5))) (.some (i (i z))) Gd.no [],
   .mk (mvR (X.t (i (i z)))) (.some (o (o (o z)))) Gd.no [],
   .mk (faR 2 (X.t (o z))) (.some (i (o (o z)))) (Gd.on (o (o (o z))) true) [],
   .mk (ldR false 1 (X.t (i (o (o z))))) (.some (o (i (o z)))) (Gd.on (o (o (o z))) true) [],
   .mk (binR Tryz.prog EK.no .none true BinOp.neq (X.t (o (i (o z)))) (X.c (AV.str []))) (.some (i (i (o z)))) (Gd.on (o (o (o z))) true) [],
   .mk (pickR (X.t (o (o (o z)))) (X.t (i (i (o z)))) (X.c (AV.bool false))) (.some (o (o (i z)))) Gd.no [],
   .mk (mvR (X.t (o (o (i z))))) (.some (o (o z))) Gd.no []])
  (.cond (X.t (o (o z)))
  (.exit 1)
  .skip))
  (.seq (.seq (.region [.mk (faR 0 (X.t (o z))) (.some (o (i (i z)))) Gd.no [],
   .mk (ldR false 1 (X.t (o (i (i z))))) (.some (i (i (i z)))) Gd.no [],
   .mk (binR Tryz.prog EK.no .none true BinOp.neq (X.t (i (i (i z)))) (X.c (AV.int .i64 2))) (.some (o (o (o (o z))))) Gd.no [],
   .mk (mvR (X.t (o (o (o (o z)))))) (.some (i (o (o (o z))))) Gd.no [],
   .mk (faR 0 (X.t (o z))) (.some (o (i (o (o z))))) (Gd.on (i (o (o (o z)))) true) [],
   .mk (ldR false 1 (X.t (o (i (o (o z)))))) (.some (i (i (o (o z))))) (Gd.on (i (o (o (o z)))) true) [],
   .mk (binR Tryz.prog EK.no .none true BinOp.neq (X.t (i (i (o (o z))))) (X.c (AV.int .i64 4))) (.some (o (o (i (o z))))) (Gd.on (i (o (o (o z)))) true) [],
   .mk (pickR (X.t (i (o (o (o z))))) (X.t (o (o (i (o z))))) (X.c (AV.bool false))) (.some (i (o (i (o z))))) Gd.no [],
   .mk (mvR (X.t (i (o (i (o z)))))) (.some (o (i (i (o z))))) Gd.no [],
   .mk (faR 3 (X.t (o z))) (.some (i (i (i (o z))))) (Gd.on (o (i (i (o z)))) true) [],
   .mk (ldR false 1 (X.t (i (i (i (o z)))))) (.some (o (o (o (i z))))) (Gd.on (o (i (i (o z)))) true) [],
   .mk (binR Tryz.prog EK.no .none true BinOp.neq (X.t (o (o (o (i z))))) (X.c (AV.str []))) (.some (i (o (o (i z))))) (Gd.on (o (i (i (o z)))) true) [],
   .mk (pickR (X.t (o (i (i (o z))))) (X.t (i (o (o (i z))))) (X.c (AV.bool false))) (.some (o (i (o (i z))))) Gd.no [],
   .mk (mvR (X.t (o (i (o (i z)))))) (.some (i (o (i z)))) Gd.no []])
  (.cond (X.t (i (o (i z))))
  (.exit 2)
  .skip))
  (.seq (.seq (.region [.mk (faR 0 (X.t (o z))) (.some (o (o (i (i z))))) Gd.no [],
   .mk (ldR false 1 (X.t (o (o (i (i z)))))) (.some (i (o (i (i z))))) Gd.no [],
   .mk (binR Tryz.prog EK.no .none true BinOp.neq (X.t (i (o (i (i z))))) (X.c (AV.int .i64 4))) (.some (o (i (i (i z))))) Gd.no [],
   .mk (mvR (X.t (o (i (i (i z)))))) (.some (i (i (i (i z))))) Gd.no [],
   .mk (faR 0 (X.t (o z))) (.some (o (o (o (o (o z)))))) (Gd.on (i (i (i (i z)))) true) [],
   .mk (ldR false 1 (X.t (o (o (o (o (o z))))))) (.some (i (o (o (o (o z)))))) (Gd.on (i (i (i (i z)))) true) [],
   .mk (binR Tryz.prog EK.no .none true BinOp.neq (X.t (i (o (o (o (o z)))))) (X.c (AV.int .i64 7))) (.some (o (i (o (o (o z)))))) (Gd.on (i (i (i (i z)))) true) [],
   .mk (pickR (X.t (i (i (i (i z))))) (X.t (o (i (o (o (o z)))))) (X.c (AV.bool false))) (.some (i (i (o (o (o z)))))) Gd.no [],
   .mk (mvR (X.t (i (i (o (o (o z))))))) (.some (o (o (i (o (o z)))))) Gd.no [],
   .mk (faR 4 (X.t (o z))) (.some (i (o (i (o (o z)))))) (Gd.on (o (o (i (o (o z))))) true) [],
   .mk (ldR false 1 (X.t (i (o (i (o (o z))))))) (.some (o (i (i (o (o z)))))) (Gd.on (o (o (i (o (o z))))) true) [],
   .mk (binR Tryz.prog EK.no .none true BinOp.neq (X.t (o (i (i (o (o z)))))) (X.c (AV.int .i64 0))) (.some (i (i (i (o (o z)))))) (Gd.on (o (o (i (o (o z))))) true) [],
   .mk (pickR (X.t (o (o (i (o (o z)))))) (X.t (i (i (i (o (o z)))))) (X.c (AV.bool false))) (.some (o (o (o (i (o z)))))) Gd.no [],
   .mk (mvR (X.t (o (o (o (i (o z))))))) (.some (i (i (o (i z))))) Gd.no []])
  (.cond (X.t (i (i (o (i z)))))
  (.exit 3)
  .skip))
  (.seq (.region [.mk (faR 0 (X.t (o z))) (.some (o (i (o (i (o z)))))) Gd.no [],
   .mk (ldR false 1 (X.t (o (i (o (i (o z))))))) (.some (i (i (o (i (o z)))))) Gd.no [],
   .mk (binR Tryz.prog EK.no .none true BinOp.neq (X.t (i (i (o (i (o z)))))) (X.c (AV.int .i64 6))) (.some (o (o (i (i (o z)))))) Gd.no [],
   .mk (mvR (X.t (o (o (i (i (o z))))))) (.some (i (o (i (i (o z)))))) Gd.no [],
   .mk (faR 5 (X.t (o z))) (.some (o (i (i (i (o z)))))) (Gd.on (i (o (i (i (o z))))) true) [],
   .mk (ldR false 1 (X.t (o (i (i (i (o z))))))) (.some (i (i (i (i (o z)))))) (Gd.on (i (o (i (i (o z))))) true) [],
   .mk (lenR LnK.slice (X.t (i (i (i (i (o z))))))) (.some (o (o (o (o (i z)))))) (Gd.on (i (o (i (i (o z))))) true) [],
   .mk (binR Tryz.prog EK.no .none true BinOp.gtr (X.t (o (o (o (o (i z)))))) (X.c (AV.int .i64 0))) (.some (i (o (o (o (i z)))))) (Gd.on (i (o (i (i (o z))))) true) [],
   .mk (pickR (X.t (i (o (i (i (o z)))))) (X.t (i (o (o (o (i z)))))) (X.c (AV.bool false))) (.some (o (i (o (o (i z)))))) Gd.no [],
   .mk (mvR (X.t (o (i (o (o (i z))))))) (.some (i (o (o (i (o z)))))) Gd.no []])
  (.cond (X.t (i (o (o (i (o z))))))
  (.exit 4)
  .skip)))))
  (.exit 0))))))
  (.seq (.seq (.region [.mk (mvR (X.c (AV.bool false))) (.some (i z)) Gd.no []])
  .ret)
  (.exit 0))))
  (.seq (.region [.mk (mvR (X.c (AV.bool true))) (.some (i z)) Gd.no []])
  .ret)))
theorem C103ok : (match Tryz.f103.body with | some c => comp Tryz.prog 50 c | none => none) = some C103 := by kernel_rfl
@[go_sem] theorem call103 (args : List AV) (H : Heap) : callC Tryz.prog 103 args H = .call 103 args := callC_ok (by kernel_rfl) args H
theorem R103ok : resKs Tryz.prog Tryz.f103.results.toList = some [(RK.tmp (i z))] := by kernel_rfl

@[go_sem] theorem call104 (args : List AV) (H : Heap) : callC Tryz.prog 104 args H = .call 104 args := callC_ok (by kernel_rfl) args H
noncomputable def C108 : CC :=
  (.seq (.region [.mk (boxR false (X.t z)) (.some (i (o z))) Gd.no [],
   .mk (fun _ H => newC false [(AV.int .i64 0), (AV.int .i64 0), (AV.str []), (AV.str []), (AV.bool false), AV.nils, AV.nils, AV.nils] H) (.some (i (o (o z)))) Gd.no [],
   .mk (fun _ H => newC false [(AV.str []), (AV.str []), (AV.int .i64 0), (AV.bool false), (AV.int .i64 0)] H) (.some (o (i (o z)))) Gd.no [],
   .mk (mvR (X.c AV.nili)) (.some (i (i (o z)))) Gd.no []])
  (.seq (.region [.mk (faR 5 (X.t (i (o z)))) (.some (o (i (o (o z))))) Gd.no [],
   .mk (ldR false 1 (X.t (o (i (o (o z)))))) (.some (i (i (o (o z))))) Gd.no [],
   .mk (mvR (X.t (o z))) (.some (o (o (i (o z))))) Gd.no [],
   .mk (callS Tryz.prog 106 [(X.t (i (i (o (o z))))), (X.t (o (o (i (o z)))))]) (.some (i (o (i (o z))))) Gd.no [],
   .mk (mvR (X.t (i (o (i (o z)))))) (.some (i (o (o (o z))))) Gd.no [],
   .mk (extR (X.t (i (o (o (o z))))) 0) (.some (o (i (i (o z))))) Gd.no [],
   .mk (extR (X.t (i (o (o (o z))))) 1) (.some (i (i (i (o z))))) Gd.no [],
   .mk (fun _ H => newC false [(AV.str []), (AV.str []), (AV.int .i64 0), (AV.bool false), (AV.int .i64 0)] H) (.some (o (o (i z)))) Gd.no [],
   .mk (stR 5 (X.t (o (o (i z)))) (X.t (o (i (i (o z)))))) .none Gd.no [],
   .mk (mvR (X.t (i (i (i (o z)))))) (.some (i (o (i z)))) Gd.no []])
  (.seq (.region [.mk (ldR true 5 (X.t (o (o (i z))))) (.some (i (o (o (i z))))) Gd.no [],
   .mk (mvR (X.t (i z))) (.some (o (i (o (i z))))) Gd.no [],
   .mk (callS Tryz.prog 136 [(X.t (i (o (o (i z))))), (X.t (o (i (o (i z)))))]) (.some (i (i (o (i z))))) Gd.no [],
   .mk (mvR (X.t (i (i (o (i z)))))) (.some (o (o (o (i z))))) Gd.no [],
   .mk (extR (X.t (o (o (o (i z))))) 0) (.some (o (o (i (i z))))) Gd.no [],
   .mk (extR (X.t (o (o (o (i z))))) 1) (.some (i (o (i (i z))))) Gd.no [],
   .mk (extR (X.t (o (o (o (i z))))) 2) (.some (o (i (i (i z))))) Gd.no [],
   .mk (fun _ H => newC false [(AV.str []), (AV.str []), (AV.int .i64 0), (AV.bool false), (AV.int .i64 0)] H) (.some (o (i (i z)))) Gd.no [],
   .mk (fun _ H => newC false [(AV.str []), (AV.int .i64 0), (AV.str []), (AV.bool false)] H) (.some (i (i (i z)))) Gd.no [],
   .mk (stR 5 (X.t (o (i (i z)))) (X.t (o (o (i (i z)))))) .none Gd.no [],
   .mk (stR 4 (X.t (i (i (i z)))) (X.t (i (o (i (i z)))))) .none Gd.no [],
   .mk (mvR (X.t (o (i (i (i z)))))) (.some (o (o (o (o z))))) Gd.no []])
  (.seq (.seq (.region [.mk (mvR (X.t (o (o z)))) (.some (i (i (i (i z))))) Gd.no []])
  (.cond (X.t (i (i (i (i z)))))
  (.region [.mk (ldR true 5 (X.t (o (o (i z))))) (.some (i (o (o (o (o z)))))) Gd.no [],
   .mk (callS Tryz.prog 137 [(X.t (i (o (o (o (o z))))))]) (.some (o (i (o (o (o z)))))) Gd.no [],
   .mk (mvR (X.t (o (i (o (o (o z))))))) (.some (o (o (o (o (o z)))))) Gd.no [],
   .mk (extR (X.t (o (o (o (o (o z)))))) 0) (.some (i (i (o (o (o z)))))) Gd.no [],
   .mk (extR (X.t (o (o (o (o (o z)))))) 1) (.some (o (o (i (o (o z)))))) Gd.no [],
   .mk (extR (X.t (o (o (o (o (o z)))))) 2) (.some (i (o (i (o (o z)))))) Gd.no [],
   .mk (stR 5 (X.t (o (i (i z)))) (X.t (i (i (o (o (o z))))))) .none Gd.no [],
   .mk (stR 4 (X.t (i (i (i z)))) (X.t (o (o (i (o (o z))))))) .none Gd.no [],
   .mk (mvR (X.t (i (o (i (o (o z))))))) (.some (o (o (o (o z))))) Gd.no []])
  .skip))
  (.seq (.seq (.region [.mk (mvR (X.t (o (o (o (o z)))))) (.some (o (i (i (o (o z)))))) Gd.no [],
   .mk (binR Tryz.prog EK.iface .none true BinOp.neq (X.t (o (i (i (o (o z)))))) (X.c AV.nili)) (.some (i (i (i (o (o z)))))) Gd.no []])
  (.cond (X.t (i (i (i (o (o z))))))
  (.seq (.regionD [.mk (keepH (mvR (X.t (o (o (o (o z))))))) (.some (o (i (o (i (o z)))))) Gd.no [],
   .mk (keepH (ldR true 5 (X.t (o (o (i z)))))) (.some (i (o (o (i (o z)))))) Gd.no [],
   .mk (keepH (ldR true 8 (X.t (i (o z))))) (.some (o (o (o (i (o z)))))) Gd.no [],
   .mk (stR 8 (X.t (i (o (o z)))) (X.t (o (o (o (i (o z))))))) .none Gd.no [.mk (ldR true 5 (X.t (o (o (i z))))) (.some (i (o (o (i (o z)))))) Gd.no, .mk (mvR (X.t (o (o (o (o z)))))) (.some (o (i (o (i (o z)))))) Gd.no],
   .mk (stR 5 (X.t (o (i (o z)))) (X.t (i (o (o (i (o z))))))) .none Gd.no [.mk (mvR (X.t (o (o (o (o z)))))) (.some (o (i (o (i (o z)))))) Gd.no],
   .mk (mvR (X.t (o (i (o (i (o z))))))) (.some (i (i (o z)))) Gd.no []])
  .ret)
  .skip))
  (.seq (.regionD [.mk (keepH (ldR true 4 (X.t (i (i (i z)))))) (.some (o (i (o (o (i z)))))) Gd.no [],
   .mk (keepH (ldR true 5 (X.t (o (i (i z)))))) (.some (o (o (o (o (i z)))))) Gd.no [],
   .mk (keepH (faR 5 (X.t (i (o z))))) (.some (o (i (i (i (o z)))))) Gd.no [],
   .mk (keepH (ldR false 1 (X.t (o (i (i (i (o z)))))))) (.some (i (i (i (i (o z)))))) Gd.no [],
   .mk (keepH (faR 6 (X.t (i (o z))))) (.some (o (o (i (i (o z)))))) Gd.no [],
   .mk (keepH (ldR false 1 (X.t (o (o (i (i (o z)))))))) (.some (i (o (i (i (o z)))))) Gd.no [],
   .mk (callS Tryz.prog 139 [(X.t (i (i (i (i (o z)))))), (X.t (o (o (o (o (i z))))))]) (.some (i (o (o (o (i z)))))) Gd.no [.mk (ldR false 1 (X.t (o (o (i (i (o z))))))) (.some (i (o (i (i (o z)))))) Gd.no, .mk (faR 6 (X.t (i (o z)))) (.some (o (o (i (i (o z)))))) Gd.no, .mk (ldR true 4 (X.t (i (i (i z))))) (.some (o (i (o (o (i z)))))) Gd.no],
   .mk (callS Tryz.prog 138 [(X.t (i (o (i (i (o z)))))), (X.t (i (o (o (o (i z)))))), (X.t (o (i (o (o (i z)))))), (X.c (AV.int .i64 24))]) (.some (i (i (o (o (i z)))))) Gd.no [],
   .mk (keepH (mvR (X.t (i (i (o (o (i z)))))))) (.some (i (i (o (i (o z)))))) Gd.no [],
   .mk (keepH (extR (X.t (i (i (o (i (o z)))))) 1)) (.some (i (o (i (o (i z)))))) Gd.no [],
   .mk (keepH (extR (X.t (i (i (o (i (o z)))))) 0)) (.some (o (o (i (o (i z)))))) Gd.no [],
   .mk (keepH (faR 6 (X.t (i (o z))))) (.some (o (i (i (o (i z)))))) Gd.no [],
   .mk (stR 1 (X.t (o (i (i (o (i z)))))) (X.t (o (o (i (o (i z))))))) .none Gd.no [.mk (extR (X.t (i (i (o (i (o z)))))) 1) (.some (i (o (i (o (i z)))))) Gd.no],
   .mk (keepH (faR 5 (X.t (i (o z))))) (.some (i (i (i (o (i z)))))) Gd.no [],
   .mk (stR 1 (X.t (i (i (i (o (i z)))))) (X.t (i (o (i (o (i z))))))) .none Gd.no []])
  (.seq (.regionD [.mk (keepH (ldR true 5 (X.t (o (i (i z)))))) (.some (i (o (o (i (i z)))))) Gd.no [],
   .mk (keepH (ldR true 8 (X.t (i (o z))))) (.some (o (o (o (i (i z)))))) Gd.no [],
   .mk (stR 8 (X.t (i (o (o z)))) (X.t (o (o (o (i (i z))))))) .none Gd.no [.mk (ldR true 5 (X.t (o (i (i z))))) (.some (i (o (o (i (i z)))))) Gd.no],
   .mk (stR 5 (X.t (o (i (o z)))) (X.t (i (o (o (i (i z))))))) .none Gd.no [],
   .mk (mvR (X.c AV.nili)) (.some (i (i (o z)))) Gd.no []])
  .ret)))))))
theorem C108ok : (match Tryz.f108.body with | some c => comp Tryz.prog 57 c | none => none) = some C108 := by kernel_rfl
@[go_sem] theorem call108 (args : List AV) (H : Heap) : callC Tryz.prog 108 args H = .call 108 args := callC_ok (by kernel_rfl) args H
theorem R108ok : resKs Tryz.prog Tryz.f108.results.toList = some [(RK.cell (i (o (o z))) true 8), (RK.cell (o (i (o z))) true 5), (RK.tmp (i (i (o z))))] := by kernel_rfl

@[go_sem] theorem call109 (args : List AV) (H : Heap) : callC Tryz.prog 109 args H = .call 109 args := callC_ok (by kernel_rfl) args H
noncomputable def C110 : CC :=
  (.seq (.region [.mk (boxR false (X.t z)) (.some (i z)) Gd.no [],
   .mk (boxR false (X.t (o z))) (.some (o (o z))) Gd.no [],
   .mk (mvR (X.c (AV.bool false))) (.some (i (o z))) Gd.no []])
  (.seq (.seq (.region [.mk (ldR true 2 (X.t (i z))) (.some (o (i z))) Gd.no [],
   .mk (callS Tryz.prog 62 [(X.t (o (i z)))]) (.some (i (i z))) Gd.no [],
   .mk (unR UnOp.not (X.t (i (i z)))) (.some (o (o (o z)))) Gd.no [],
   .mk (mvR (X.t (o (o (o z))))) (.some (i (o (o z)))) Gd.no [],
   .mk (ldR true 2 (X.t (o (o z)))) (.some (o (i (o z)))) (Gd.on (i (o (o z))) false) [],
   .mk (callS Tryz.prog 62 [(X.t (o (i (o z))))]) (.some (i (i (o z)))) (Gd.on (i (o (o z))) false) [],
   .mk (unR UnOp.not (X.t (i (i (o z))))) (.some (o (o (i z)))) (Gd.on (i (o (o z))) false) [],
   .mk (pickR (X.t (i (o (o z)))) (X.c (AV.bool true)) (X.t (o (o (i z))))) (.some (i (o (i z)))) Gd.no [],
   .mk (mvR (X.t (i (o (i z))))) (.some (o (i (i z)))) Gd.no [],
   .mk (faR 0 (X.t (i z))) (.some (i (i (i z)))) (Gd.on (o (i (i z))) false) [],
   .mk (ldR false 1 (X.t (i (i (i z))))) (.some (o (o (o (o z))))) (Gd.on (o (i (i z))) false) [],
   .mk (faR 0 (X.t (o (o z)))) (.some (i (o (o (o z))))) (Gd.on (o (i (i z))) false) [],
   .mk (ldR false 1 (X.t (i (o (o (o z)))))) (.some (o (i (o (o z))))) (Gd.on (o (i (i z))) false) [],
   .mk (binR Tryz.prog EK.no .none false BinOp.lss (X.t (o (o (o (o z))))) (X.t (o (i (o (o z)))))) (.some (i (i (o (o z))))) (Gd.on (o (i (i z))) false) [],
   .mk (pickR (X.t (o (i (i z)))) (X.c (AV.bool true)) (X.t (i (i (o (o z)))))) (.some (o (o (i (o z))))) Gd.no []])
  (.cond (X.t (o (o (i (o z)))))
  (.seq (.region [.mk (mvR (X.c (AV.bool false))) (.some (i (o z))) Gd.no []])
  .ret)
  .skip))
  (.seq (.region [.mk (faR 1 (X.t (o (o z)))) (.some (i (o (i (o z))))) Gd.no [],
   .mk (ldR false 1 (X.t (i (o (i (o z)))))) (.some (o (i (i (o z))))) Gd.no [],
   .mk (binR Tryz.prog EK.no .none true BinOp.eql (X.t (o (i (i (o z))))) (X.c (AV.str []))) (.some (i (i (i (o z))))) Gd.no [],
   .mk (mvR (X.t (i (i (i (o z)))))) (.some (o (o (o (i z))))) Gd.no [],
   .mk (faR 1 (X.t (i z))) (.some (i (o (o (i z))))) (Gd.on (o (o (o (i z)))) false) [],
   .mk (ldR false 1 (X.t (i (o (o (i z)))))) (.some (o (i (o (i z))))) (Gd.on (o (o (o (i z)))) false) [],
   .mk (binR Tryz.prog EK.no .none true BinOp.neq (X.t (o (i (o (i z))))) (X.c (AV.str []))) (.some (i (i (o (i z))))) (Gd.on (o (o (o (i z)))) false) [],
   .mk (mvR (X.t (i (i (o (i z)))))) (.some (o (o (i (i z))))) (Gd.on (o (o (o (i z)))) false) [],
   .mk (faR 1 (X.t (i z))) (.some (i (o (i (i z))))) (Gd.on (o (o (i (i z)))) true) [],
   .mk (ldR false 1 (X.t (i (o (i (i z)))))) (.some (o (i (i (i z))))) (Gd.on (o (o (i (i z)))) true) [],
   .mk (faR 1 (X.t (o (o z)))) (.some (i (i (i (i z))))) (Gd.on (o (o (i (i z)))) true) [],
   .mk (ldR false 1 (X.t (i (i (i (i z)))))) (.some (o (o (o (o (o z)))))) (Gd.on (o (o (i (i z)))) true) [],
   .mk (binR Tryz.prog EK.no .none false BinOp.leq (X.t (o (i (i (i z))))) (X.t (o (o (o (o (o z))))))) (.some (i (o (o (o (o z)))))) (Gd.on (o (o (i (i z)))) true) [],
   .mk (pickR (X.t (o (o (i (i z))))) (X.t (i (o (o (o (o z)))))) (X.c (AV.bool false))) (.some (o (i (o (o (o z)))))) (Gd.on (o (o (o (i z)))) false) [],
   .mk (pickR (X.t (o (o (o (i z))))) (X.c (AV.bool true)) (X.t (o (i (o (o (o z))))))) (.some (i (i (o (o (o z)))))) Gd.no [],
   .mk (mvR (X.t (i (i (o (o (o z))))))) (.some (i (o z))) Gd.no []])
  .ret)))
theorem C110ok : (match Tryz.f110.body with | some c => comp Tryz.prog 35 c | none => none) = some C110 := by kernel_rfl
@[go_sem] theorem call110 (args : List AV) (H : Heap) : callC Tryz.prog 110 args H = .call 110 args := callC_ok (by kernel_rfl) args H
theorem R110ok : resKs Tryz.prog Tryz.f110.results.toList = some [(RK.tmp (i (o z)))] := by kernel_rfl

noncomputable def C136 : CC :=
  (.seq (.region [.mk (boxR false (X.t z)) (.some (i z)) Gd.no [],
   .mk (fun _ H => newC false [(AV.str []), (AV.str []), (AV.int .i64 0), (AV.bool false), (AV.int .i64 0)] H) (.some (i (o z))) Gd.no [],
   .mk (fun _ H => newC false [(AV.str []), (AV.int .i64 0), (AV.str []), (AV.bool false)] H) (.some (o (i z))) Gd.no [],
   .mk (mvR (X.c AV.nili)) (.some (i (i z))) Gd.no []])
  (.seq (.seq (.region [.mk (mvR (X.t (o z))) (.some (o (o (o z)))) Gd.no [],
   .mk (lenR LnK.str (X.t (o (o (o z))))) (.some (i (o (o z)))) Gd.no [],
   .mk (binR Tryz.prog EK.no .none true BinOp.gtr (X.t (i (o (o z)))) (X.c (AV.int .i64 12))) (.some (o (i (o z)))) Gd.no []])
  (.cond (X.t (o (i (o z))))
  (.seq (.region [.mk (ldR true 5 (X.t (i z))) (.some (i (i (o z)))) Gd.no [],
   .mk (buildR [(AV.str []), (AV.int .i64 0), (AV.str []), (AV.bool false)] []) (.some (o (o (i z)))) Gd.no [],
   .mk (mkiR 42 (X.c (AV.int .i64 13))) (.some (i (o (i z)))) Gd.no [],
   .mk (stR 5 (X.t (i (o z))) (X.t (i (i (o z))))) .none Gd.no [],
   .mk (stR 4 (X.t (o (i z))) (X.t (o (o (i z))))) .none Gd.no [],
   .mk (mvR (X.t (i (o (i z))))) (.some (i (i z))) Gd.no []])
  .ret)
  .skip))
  (.seq (.region [.mk (ldR true 5 (X.t (i z))) (.some (o (i (i z)))) Gd.no [],
   .mk (mvR (X.t (o z))) (.some (i (i (i z)))) Gd.no [],
   .mk (callS Tryz.prog 150 [(X.t (o (i (i z)))), (X.t (i (i (i z)))), (X.c (AV.bool false))]) (.some (o (o (o (o z))))) Gd.no [],
   .mk (extR (X.t (o (o (o (o z))))) 0) (.some (i (o (o (o z))))) Gd.no [],
   .mk (extR (X.t (o (o (o (o z))))) 1) (.some (o (i (o (o z))))) Gd.no [],
   .mk (extR (X.t (o (o (o (o z))))) 2) (.some (i (i (o (o z))))) Gd.no [],
   .mk (stR 5 (X.t (i (o z))) (X.t (i (o (o (o z)))))) .none Gd.no [],
   .mk (stR 4 (X.t (o (i z))) (X.t (o (i (o (o z)))))) .none Gd.no [],
   .mk (mvR (X.t (i (i (o (o z)))))) (.some (i (i z))) Gd.no []])
  .ret)))
theorem C136ok : (match Tryz.f136.body with | some c => comp Tryz.prog 19 c | none => none) = some C136 := by kernel_rfl
@[go_sem] theorem call136 (args : List AV) (H : Heap) : callC Tryz.prog 136 args H = .call 136 args := callC_ok (by kernel_rfl) args H
theorem R136ok : resKs Tryz.prog Tryz.f136.results.toList = some [(RK.cell (i (o z)) true 5), (RK.cell (o (i z)) true 4), (RK.tmp (i (i z)))] := by kernel_rfl

noncomputable def C137 : CC :=
  (.seq (.region [.mk (boxR false (X.t z)) (.some (o z)) Gd.no [],
   .mk (fun _ H => newC false [(AV.str []), (AV.str []), (AV.int .i64 0), (AV.bool false), (AV.int .i64 0)] H) (.some (i z)) Gd.no [],
   .mk (fun _ H => newC false [(AV.str []), (AV.int .i64 0), (AV.str []), (AV.bool false)] H) (.some (o (o z))) Gd.no [],
   .mk (mvR (X.c AV.nili)) (.some (i (o z))) Gd.no []])
  (.seq (.seq (.region [.mk (ldR true 5 (X.t (o z))) (.some (o (i z))) Gd.no [],
   .mk (callS Tryz.prog 107 [(X.t (o (i z)))]) (.some (i (i z))) Gd.no [],
   .mk (unR UnOp.not (X.t (i (i z)))) (.some (o (o (o z)))) Gd.no []])
  (.cond (X.t (o (o (o z))))
  (.seq (.region [.mk (ldR true 5 (X.t (o z))) (.some (i (o (o z)))) Gd.no [],
   .mk (buildR [(AV.str []), (AV.int .i64 0), (AV.str []), (AV.bool false)] []) (.some (o (i (o z)))) Gd.no [],
   .mk (mkiR 42 (X.c (AV.int .i64 14))) (.some (i (i (o z)))) Gd.no [],
   .mk (stR 5 (X.t (i z)) (X.t (i (o (o z))))) .none Gd.no [],
   .mk (stR 4 (X.t (o (o z))) (X.t (o (i (o z))))) .none Gd.no [],
   .mk (mvR (X.t (i (i (o z))))) (.some (i (o z))) Gd.no []])
  .ret)
  .skip))
  (.seq (.region [.mk (ldR true 5 (X.t (o z))) (.some (o (o (i z)))) Gd.no [],
   .mk (callS Tryz.prog 150 [(X.t (o (o (i z)))), (X.c (AV.str [])), (X.c (AV.bool true))]) (.some (i (o (i z)))) Gd.no [],
   .mk (extR (X.t (i (o (i z)))) 0) (.some (o (i (i z)))) Gd.no [],
   .mk (extR (X.t (i (o (i z)))) 1) (.some (i (i (i z)))) Gd.no [],
   .mk (extR (X.t (i (o (i z)))) 2) (.some (o (o (o (o z))))) Gd.no [],
   .mk (stR 5 (X.t (i z)) (X.t (o (i (i z))))) .none Gd.no [],
   .mk (stR 4 (X.t (o (o z))) (X.t (i (i (i z))))) .none Gd.no [],
   .mk (mvR (X.t (o (o (o (o z)))))) (.some (i (o z))) Gd.no []])
  .ret)))
theorem C137ok : (match Tryz.f137.body with | some c => comp Tryz.prog 16 c | none => none) = some C137 := by kernel_rfl
@[go_sem] theorem call137 (args : List AV) (H : Heap) : callC Tryz.prog 137 args H = .call 137 args := callC_ok (by kernel_rfl) args H
theorem R137ok : resKs Tryz.prog Tryz.f137.results.toList = some [(RK.cell (i z) true 5), (RK.cell (o (o z)) true 4), (RK.tmp (i (o z)))] := by kernel_rfl

noncomputable def C138 : CC :=
  (.seq (.region [.mk (boxR false (X.t (i z))) (.some (i (i z))) Gd.no [],
   .mk (mvR (X.c AV.nils)) (.some (i (o (o z)))) Gd.no [],
   .mk (mvR (X.c AV.nils)) (.some (o (i (o z)))) Gd.no []])
  (.seq (.regionD [.mk (keepH (mvR (X.t (o (o z))))) (.some (i (o (o (o z))))) Gd.no [],
   .mk (keepH (mvR (X.t (o z)))) (.some (o (o (o (o z))))) Gd.no [],
   .mk (keepH (ldR true 4 (X.t (i (i z))))) (.some (i (o (i z)))) Gd.no [],
   .mk (addH (bslR 4 1 [(AV.str []), (AV.int .i64 0), (AV.str []), (AV.bool false)] [(0, (X.t (i (o (i z)))))])) (.some (o (i (i z)))) Gd.no [.mk (ldR true 4 (X.t (i (i z)))) (.some (i (o (i z)))) Gd.no, .mk (mvR (X.t (o z))) (.some (o (o (o (o z))))) Gd.no, .mk (mvR (X.t (o (o z)))) (.some (i (o (o (o z))))) Gd.no],
   .mk (keepH (mvR (X.t z))) (.some (i (i (o z)))) Gd.no [],
   .mk (callS Tryz.prog 81 [(X.t (i (i (o z))))]) (.some (o (o (i z)))) Gd.no [.mk (ldR true 4 (X.t (i (i z)))) (.some (i (o (i z)))) Gd.no, .mk (mvR (X.t (o z))) (.some (o (o (o (o z))))) Gd.no, .mk (mvR (X.t (o (o z)))) (.some (i (o (o (o z))))) Gd.no],
   .mk (appR 4 48 (X.t (o (o (i z)))) (X.t (o (i (i z))))) (.some (i (i (i z)))) Gd.no [.mk (mvR (X.t (o z))) (.some (o (o (o (o z))))) Gd.no, .mk (mvR (X.t (o (o z)))) (.some (i (o (o (o z))))) Gd.no],
   .mk (callS Tryz.prog 37 [(X.t (i (i (i z)))), (X.t (o (o (o (o z))))), (X.t (i (o (o (o z)))))]) (.some (o (i (o (o z))))) Gd.no [],
   .mk (keepH (extR (X.t (o (i (o (o z))))) 1)) (.some (o (o (i (o z))))) Gd.no [],
   .mk (keepH (extR (X.t (o (i (o (o z))))) 0)) (.some (i (i (o (o z))))) Gd.no [],
   .mk (mvR (X.t (i (i (o (o z)))))) (.some (i (o (o z)))) Gd.no [],
   .mk (mvR (X.t (o (o (i (o z)))))) (.some (o (i (o z)))) Gd.no []])
  .ret))
theorem C138ok : (match Tryz.f138.body with | some c => comp Tryz.prog 20 c | none => none) = some C138 := by kernel_rfl
@[go_sem] theorem call138 (args : List AV) (H : Heap) : callC Tryz.prog 138 args H = .call 138 args := callC_ok (by kernel_rfl) args H
theorem R138ok : resKs Tryz.prog Tryz.f138.results.toList = some [(RK.tmp (i (o (o z)))), (RK.tmp (o (i (o z))))] := by kernel_rfl

noncomputable def C150 : CC :=
  (.seq (.region [.mk (boxR false (X.t z)) (.some (o (o z))) Gd.no [],
   .mk (fun _ H => newC false [(AV.str []), (AV.str []), (AV.int .i64 0), (AV.bool false), (AV.int .i64 0)] H) (.some (i (i z))) Gd.no [],
   .mk (fun _ H => newC false [(AV.str []), (AV.int .i64 0), (AV.str []), (AV.bool false)] H) (.some (o (o (o z)))) Gd.no [],
   .mk (mvR (X.c AV.nili)) (.some (i (o (o z)))) Gd.no []])
  (.seq (.seq (.region [.mk (faR 2 (X.t (o (o z)))) (.some (o (i (o z)))) Gd.no [],
   .mk (ldR false 1 (X.t (o (i (o z))))) (.some (i (i (o z)))) Gd.no [],
   .mk (binR Tryz.prog EK.no .none true BinOp.geq (X.t (i (i (o z)))) (X.c (AV.int .i64 1000000000000))) (.some (o (o (i z)))) Gd.no []])
  (.cond (X.t (o (o (i z))))
  (.seq (.region [.mk (ldR true 5 (X.t (o (o z)))) (.some (i (o (i z)))) Gd.no [],
   .mk (buildR [(AV.str []), (AV.int .i64 0), (AV.str []), (AV.bool false)] []) (.some (o (i (i z)))) Gd.no [],
   .mk (mkiR 42 (X.c (AV.int .i64 18))) (.some (i (i (i z)))) Gd.no [],
   .mk (stR 5 (X.t (i (i z))) (X.t (i (o (i z))))) .none Gd.no [],
   .mk (stR 4 (X.t (o (o (o z)))) (X.t (o (i (i z))))) .none Gd.no [],
   .mk (mvR (X.t (i (i (i z))))) (.some (i (o (o z)))) Gd.no []])
  .ret)
  .skip))
  (.seq (.region [.mk (faR 2 (X.t (o (o z)))) (.some (o (o (o (o z))))) Gd.no [],
   .mk (ldR false 1 (X.t (o (o (o (o z)))))) (.some (i (o (o (o z))))) Gd.no [],
   .mk (binR Tryz.prog EK.no .none true BinOp.add (X.t (i (o (o (o z))))) (X.c (AV.int .i64 1))) (.some (o (i (o (o z))))) Gd.no [],
   .mk (faR 2 (X.t (o (o z)))) (.some (i (i (o (o z))))) Gd.no [],
   .mk (stR 1 (X.t (i (i (o (o z))))) (X.t (o (i (o (o z)))))) .none Gd.no []])
  (.seq (.region [.mk (mvR (X.t (o z))) (.some (o (o (i (o z))))) Gd.no [],
   .mk (mvR (X.t (i z))) (.some (i (o (i (o z))))) Gd.no [],
   .mk (faR 1 (X.t (o (o z)))) (.some (o (i (i (o z))))) Gd.no [],
   .mk (stR 1 (X.t (o (i (i (o z))))) (X.t (o (o (i (o z)))))) .none Gd.no [],
   .mk (faR 3 (X.t (o (o z)))) (.some (i (i (i (o z))))) Gd.no [],
   .mk (stR 1 (X.t (i (i (i (o z))))) (X.t (i (o (i (o z)))))) .none Gd.no []])
  (.seq (.regionD [.mk (keepH (mvR (X.t (i z)))) (.some (o (i (i (i z))))) Gd.no [],
   .mk (keepH (mvR (X.t (o z)))) (.some (i (o (i (i z))))) Gd.no [],
   .mk (keepH (faR 2 (X.t (o (o z))))) (.some (i (i (o (i z))))) Gd.no [],
   .mk (keepH (ldR false 1 (X.t (i (i (o (i z))))))) (.some (o (o (i (i z))))) Gd.no [],
   .mk (keepH (faR 0 (X.t (o (o z))))) (.some (i (o (o (i z))))) Gd.no [],
   .mk (keepH (ldR false 1 (X.t (i (o (o (i z))))))) (.some (o (i (o (i z))))) Gd.no [],
   .mk (keepH (buildR [(AV.str []), (AV.int .i64 0), (AV.str []), (AV.bool false)] [(0, (1, (X.t (o (i (o (i z))))))), (1, (1, (X.t (o (o (i (i z))))))), (2, (1, (X.t (i (o (i (i z))))))), (3, (1, (X.t (o (i (i (i z)))))))])) (.some (i (i (i (i z))))) Gd.no [],
   .mk (keepH (ldR true 5 (X.t (o (o z))))) (.some (o (o (o (i z))))) Gd.no [],
   .mk (stR 5 (X.t (i (i z))) (X.t (o (o (o (i z)))))) .none Gd.no [.mk (buildR [(AV.str []), (AV.int .i64 0), (AV.str []), (AV.bool false)] [(0, (1, (X.t (o (i (o (i z))))))), (1, (1, (X.t (o (o (i (i z))))))), (2, (1, (X.t (i (o (i (i z))))))), (3, (1, (X.t (o (i (i (i z)))))))]) (.some (i (i (i (i z))))) Gd.no, .mk (ldR false 1 (X.t (i (o (o (i z)))))) (.some (o (i (o (i z))))) Gd.no, .mk (faR 0 (X.t (o (o z)))) (.some (i (o (o (i z))))) Gd.no, .mk (ldR false 1 (X.t (i (i (o (i z)))))) (.some (o (o (i (i z))))) Gd.no, .mk (faR 2 (X.t (o (o z)))) (.some (i (i (o (i z))))) Gd.no, .mk (mvR (X.t (o z))) (.some (i (o (i (i z))))) Gd.no, .mk (mvR (X.t (i z))) (.some (o (i (i (i z))))) Gd.no],
   .mk (stR 4 (X.t (o (o (o z)))) (X.t (i (i (i (i z)))))) .none Gd.no [],
   .mk (mvR (X.c AV.nili)) (.some (i (o (o z)))) Gd.no []])
  .ret)))))
theorem C150ok : (match Tryz.f150.body with | some c => comp Tryz.prog 31 c | none => none) = some C150 := by kernel_rfl
@[go_sem] theorem call150 (args : List AV) (H : Heap) : callC Tryz.prog 150 args H = .call 150 args := callC_ok (by kernel_rfl) args H
theorem R150ok : resKs Tryz.prog Tryz.f150.results.toList = some [(RK.cell (i (i z)) true 5), (RK.cell (o (o (o z))) true 4), (RK.tmp (i (o (o z))))] := by kernel_rfl

end Go.Proofs
/- the document's next cell, Put, Add: walked. -/




set_option linter.all false
set_option linter.all false
set_option maxRecDepth 100000
namespace Go.Proofs
open Go Go.Ev
variable {H : Heap}

theorem get_two {α : Type} (l : List α) (a b : α) : (l ++ [a, b])[l.length]? = some a ∧ (l ++ [a, b])[l.length + 1]? = some b := by
  constructor
  · rw [List.getElem?_append_right (Nat.le_refl _), Nat.sub_self]; rfl
  · rw [List.getElem?_append_right (by omega), Nat.add_sub_cancel_left]; rfl
end Go.Proofs
/- the document's writes: walked. -/

set_option linter.all false
set_option linter.all false
set_option maxRecDepth 100000
namespace Go.Proofs
open Go Go.Ev
variable {H : Heap}

theorem keepC_nil (cs : List Cell) : keepC [] cs = cs := rfl
/-- a shard with a cell's next version -/
noncomputable def addS (s : Sh) (c : Cell) (e : Evn) (k0 k1 : K) : Sh := ⟨s.id, s.ep, s.fr, s.to, s.frz, keepC ((s.evs ++ [e]).take ((s.evs ++ [e]).length - 24)) (refW s.cells c), (s.evs ++ [e]).drop ((s.evs ++ [e]).length - 24), s.done, outV k0 5 (refW s.cells c).length, outV k1 4 ((s.evs ++ [e]).drop ((s.evs ++ [e]).length - 24)).length, s.dv⟩
noncomputable def addB (s : Sh) (c : Cell) (e : Evn) : List Blk := [outB 5 ((keepC ((s.evs ++ [e]).take ((s.evs ++ [e]).length - 24)) (refW s.cells c)).map Cell.enc), outB 4 (((s.evs ++ [e]).drop ((s.evs ++ [e]).length - 24)).map Evn.enc)]
end Go.Proofs
/- the document's write of a put: walked. -/

set_option linter.all false
set_option linter.all false
set_option maxRecDepth 100000
namespace Go.Proofs
open Go Go.Ev
variable {H : Heap}

theorem addS_ok {s : Sh} (h : s.ok H) {L : List Blk} {i j : Nat} {c : Cell} {e : Evn} (hcl : (refW s.cells c).length < 10000) (hel : s.evs.length < 10000) (hi : L[i]? = some (outB 5 ((keepC ((s.evs ++ [e]).take ((s.evs ++ [e]).length - 24)) (refW s.cells c)).map Cell.enc))) (hj : L[j]? = some (outB 4 (((s.evs ++ [e]).drop ((s.evs ++ [e]).length - 24)).map Evn.enc))) : (addS s c e (H.key i) (H.key j)).ok (H.ext L) where
  c := arr_outV hi (by rw [List.length_map]; exact keepC_len _ _)
  e := arr_outV hj (List.length_map ..)
  d := h.d.ext L
  dok := h.dok.ext L
  cl := by show (keepC _ _).length < _; rw [keepC_len]; omega
  el := by show (List.drop _ _).length < _; rw [List.length_drop, List.length_append]; show s.evs.length + 1 - _ < _; omega
  dl := h.dl
theorem withL_len (c : Cell) : ∀ (l : List Cell), (withL l c).length ≤ l.length + 1
  | [] => by simp [withL]
  | d :: l => by
    have := withL_len c l
    unfold withL
    split
    · simp only [List.length_cons]; omega
    · split <;> simp
/-- a shard with a key put, as it is told -/
noncomputable def putS (s : Sh) (k v : List Nat) : Sh := ⟨s.id, s.ep, s.fr, s.to, s.frz, keepC ((s.evs ++ [nextE s.cells k v false]).take ((s.evs ++ [nextE s.cells k v false]).length - 24)) (withL s.cells (nextC s.cells k v false)), (s.evs ++ [nextE s.cells k v false]).drop ((s.evs ++ [nextE s.cells k v false]).length - 24), s.done, .nils, .nils, .nils⟩
theorem putS_hist {s : Sh} (hI : isHist s.evs s.cells) {k v : List Nat} (hk : isKey k) (hv : (v.length : Int) ≤ 12) (hm : (getL s.cells k).1.ver < 1000000000000) : isHist (putS s k v).evs (putS s k v).cells :=
  hist_keep _ (hist_put hI hk hv (fun h => by cases h) hm)
end Go.Proofs
/- the document's puts, gets: asked: walked. -/


set_option linter.all false
set_option linter.all false
set_option maxRecDepth 100000
namespace Go.Proofs
open Go Go.Ev
variable {H : Heap}

/-- what a get tells -/
def getA (c : Cell) : List AV := if 0 < c.ver ∧ c.del = false then [.int .i64 0, .str c.value, .int .i64 c.ver, .nils] else [.int .i64 14, .str [], .int .i64 c.ver, .nils]
theorem getA_rens (ρ : K → K) (c : Cell) : AV.rens ρ (getA c) = getA c := by unfold getA; split <;> rfl
/-- the answer of a put -/
def putA (n : Int) : An := ⟨0, [], n, [], .nils⟩
theorem putA_ok (H : Heap) (n : Int) : (putA n).ok H := ⟨.inl ⟨rfl, rfl⟩, (by decide : (0 : Nat) ≤ 9223372036854775807)⟩
/-- a shard with a request's put done -/
noncomputable def askS (s : Sh) (k v : List Nat) (ses id : Int) (k0 k1 k2 : K) : Sh := ⟨s.id, s.ep, s.fr, s.to, s.frz, (addS s (nextC s.cells k v false) (nextE s.cells k v false) k0 k1).cells, (addS s (nextC s.cells k v false) (nextE s.cells k v false) k0 k1).evs, withD s.done ⟨ses, id, putA ((getL s.cells k).1.ver + 1)⟩, (addS s (nextC s.cells k v false) (nextE s.cells k v false) k0 k1).cv, (addS s (nextC s.cells k v false) (nextE s.cells k v false) k0 k1).ev, outV k2 6 (withD s.done ⟨ses, id, putA ((getL s.cells k).1.ver + 1)⟩).length⟩
noncomputable def askB (s : Sh) (k v : List Nat) (ses id : Int) : List Blk := addB s (nextC s.cells k v false) (nextE s.cells k v false) ++ [outB 6 ((withD s.done ⟨ses, id, putA ((getL s.cells k).1.ver + 1)⟩).map Dn.enc)]
end Go.Proofs
/- CutOnce: the plain law. -/


set_option linter.all false
set_option linter.all false
set_option maxRecDepth 100000
namespace Go.Proofs
open Go Go.Ev
variable {H : Heap}

theorem isSh_same {a b : Sh} (h : sameSh a b) (hb : isSh b) : isSh a := by
  obtain ⟨h1, h2, h3, h4, h5, h6, h7, h8⟩ := h
  unfold isSh at hb ⊢
  rw [h1, h2, h3, h4, h6, h7, h8]
  exact hb
def cK (n : Int) : Cell := ⟨[99], [118], n, false, 0⟩
/-- the shard behind so many requests -/
structure AtI (i : Nat) (s : Sh) : Prop where
  hd : s.id = 1 ∧ s.ep = 1 ∧ s.fr = [] ∧ s.to = [] ∧ s.frz = false
  hist : isHist s.evs s.cells
  len : s.evs.length = i
  keys : ∀ e ∈ s.evs, e.key = [99]
  cells : s.cells = if i = 0 then [] else [cK i]
  done : s.done = if i = 0 then [] else [⟨1, i, putA i⟩]
theorem AtI.get {i : Nat} {s : Sh} (h : AtI i s) : (getL s.cells [99]).1.ver = i ∧ (getL s.cells [99]).1.floor = 0 := by
  rw [h.cells]
  by_cases hi : i = 0
  · subst hi; exact ⟨rfl, rfl⟩
  · rw [if_neg hi]; exact ⟨rfl, rfl⟩
theorem AtI.nextC {i : Nat} {s : Sh} (h : AtI i s) : nextC s.cells [99] [118] false = cK ((i : Int) + 1) := by
  unfold Go.Proofs.nextC cK; rw [h.get.1, h.get.2]
theorem AtI.withL {i : Nat} {s : Sh} (h : AtI i s) (n : Int) : withL s.cells (cK n) = [cK n] := by
  rw [h.cells]
  by_cases hi : i = 0
  · rw [if_pos hi]; rfl
  · rw [if_neg hi, Go.Proofs.withL, if_neg (show ¬ ltS (cK i).key (cK n).key from ltS_irrefl _), if_pos (show (cK i).key = (cK n).key from rfl)]
theorem AtI.stands {i : Nat} {s : Sh} (h : AtI i s) : (stands s.done 1 ((i : Int) + 1)).2 = 0 := by
  rw [h.done]
  by_cases hi : i = 0
  · rw [if_pos hi]; rfl
  · rw [if_neg hi]
    show (if (i : Int) < (i : Int) + 1 then ((zeroA, 0) : An × Int) else _).2 = 0
    rw [if_pos (by omega)]
theorem AtI.keeps {i : Nat} {s : Sh} (h : AtI i s) (a : An) : ¬ keepsD s.done ⟨1, (i : Int) + 1, a⟩ := by
  rintro ⟨x, h1, h2⟩
  rw [h.done] at h1
  by_cases hi : i = 0
  · rw [if_pos hi] at h1; cases h1
  · rw [if_neg hi] at h1
    cases h1
    have h2 : (i : Int) + 1 < (i : Int) := h2
    omega
theorem AtI.up {i : Nat} {s : Sh} (h : AtI i s) : upD s.done := by
  rw [h.done]
  split
  · exact .nil
  · exact List.pairwise_singleton ..
theorem AtI.dlen {i : Nat} {s : Sh} (h : AtI i s) : s.done.length ≤ 1 := by rw [h.done]; split <;> exact Nat.le_of_ble_eq_true rfl
theorem AtI.clen {i : Nat} {s : Sh} (h : AtI i s) : s.cells.length ≤ 1 := by rw [h.cells]; split <;> exact Nat.le_of_ble_eq_true rfl
theorem key_c : isKey [99] := ⟨by simp, by show (1 : Int) ≤ 8; decide⟩
theorem askS_hist {s : Sh} (hI : isHist s.evs s.cells) {k v : List Nat} (hk : isKey k) (hv : (v.length : Int) ≤ 12) (hm : (getL s.cells k).1.ver < 1000000000000) (ses id : Int) (k0 k1 k2 : K) : isHist (askS s k v ses id k0 k1 k2).evs (askS s k v ses id k0 k1 k2).cells := by
  have := putS_hist hI hk hv hm
  show isHist _ (keepC _ (refW s.cells (Go.Proofs.nextC s.cells k v false)))
  rw [refW_eq hI.1]
  exact this
theorem withD_one (s : Int) {i j : Int} (hi : i ≤ j) (a b : An) : withD [⟨s, i, a⟩] ⟨s, j, b⟩ = [⟨s, j, b⟩] := by
  unfold withD putGD
  rw [if_neg (Int.lt_irrefl s), if_pos rfl, lateD, if_pos hi]
theorem AtI.next {i : Nat} {s : Sh} (h : AtI i s) (hi : i < 24) (k0 k1 k2 : K) : AtI (i + 1) (askS s [99] [118] 1 ((i : Int) + 1) k0 k1 k2) where
  hd := h.hd
  hist := askS_hist h.hist key_c (by decide) (by rw [h.get.1]; omega) ..
  len := by
    show ((s.evs ++ [nextE s.cells [99] [118] false]).drop ((s.evs ++ [nextE s.cells [99] [118] false]).length - 24)).length = _
    rw [List.length_drop, List.length_append, h.len]
    show i + 1 - (i + 1 - 24) = i + 1
    omega
  keys := by
    intro e he
    have he : e ∈ (s.evs ++ [nextE s.cells [99] [118] false]).drop _ := he
    rcases List.mem_append.1 (List.mem_of_mem_drop he) with he | he
    · exact h.keys e he
    · rw [List.mem_singleton.1 he]; rfl
  cells := by
    show keepC ((s.evs ++ [nextE s.cells [99] [118] false]).take ((s.evs ++ [nextE s.cells [99] [118] false]).length - 24)) (refW s.cells (Go.Proofs.nextC s.cells [99] [118] false)) = _
    rw [show (s.evs ++ [nextE s.cells [99] [118] false]).length - 24 = 0 by rw [List.length_append, h.len]; show i + 1 - 24 = 0; omega, List.take_zero, keepC_nil, refW_eq h.hist.1, h.nextC, h.withL]
    rfl
  done := by
    show withD s.done ⟨1, (i : Int) + 1, putA ((getL s.cells [99]).1.ver + 1)⟩ = _
    rw [h.get.1, h.done]
    by_cases hz : i = 0
    · subst hz; rfl
    · rw [if_neg hz, withD_one 1 (show (i : Int) ≤ (i : Int) + 1 by omega)]
      rfl
theorem putA_is {n : Int} (h1 : 0 ≤ n) (h2 : n < 281474976710656) : isAns (putA n) := ⟨⟨by show (0 : Int) ≤ 0; decide, by show (0 : Int) < _; decide, h1, h2, by show (0 : Int) ≤ 255; decide⟩, by show (0 : Int) ≤ 16; decide, fun ⟨r, hr, _⟩ => absurd hr List.not_mem_nil⟩
theorem done_one {k : Nat} (h1 : 1 ≤ k) (h2 : k ≤ 100) {n : Int} (h3 : 0 ≤ n) (h4 : n ≤ 100) : isDone [⟨1, k, putA n⟩] := done_iff.2 ⟨fun c hc => by
  rw [List.mem_singleton.1 hc]
  exact ⟨⟨by show (0 : Int) ≤ 1; decide, by show (1 : Int) < 3; decide, by show (1 : Int) ≤ (k : Int); omega, by show (k : Int) ≤ 1000000000000; omega⟩, putA_is h3 (by omega)⟩, List.pairwise_singleton ..⟩
theorem AtI.sh {k : Nat} {s : Sh} (h : AtI k s) (h1 : 1 ≤ k) (h2 : k ≤ 20) : isSh s := by
  obtain ⟨e1, e2, e3, e4, e5⟩ := h.hd
  refine ⟨⟨by omega, by omega, by omega, by omega⟩, by rw [e3, e4]; exact k_span, fun c hc => ?_, by rw [h.len]; omega, h.hist, ?_⟩
  · rw [h.cells, if_neg (by omega)] at hc
    rw [List.mem_singleton.1 hc, e3, e4]
    exact k_has 99
  · rw [h.done, if_neg (by omega)]
    exact done_one h1 (by omega) (by omega) (by omega)
theorem AtI.inS {k : Nat} {s : Sh} (h : AtI k s) : inSplit s [109] := by
  obtain ⟨e1, e2, e3, e4, e5⟩ := h.hd
  exact ⟨by rw [e3, e4]; exact k_has 109, by rw [e3]; rfl⟩
theorem AtI.okS {k : Nat} {s : Sh} (h : AtI k s) (h1 : 1 ≤ k) (h2 : k ≤ 20) : okSplit s 2 3 := ⟨⟨h.sh h1 h2, by rw [h.hd.2.2.2.2]; decide⟩, by decide, by decide, by decide⟩
theorem no_hi {t : List Nat} : ¬ has [109] t [99] := fun h => h.2.2.1 lt_cm
theorem hi_cells {n : Int} : withinL [109] [] [cK n] = [] := by
  unfold withinL
  rw [List.filter_cons_of_neg (by rw [decide_eq_false (show ¬ has [109] [] (cK n).key from no_hi)]; decide)]
  rfl
theorem hi_evs {l : List Evn} (h : ∀ e ∈ l, e.key = [99]) : evW [109] [] l = [] := by
  unfold evW
  refine List.filter_eq_nil_iff.2 fun e he => ?_
  rw [h e he, decide_eq_false no_hi]
  decide
/-- both parts of the shard -/
structure LoI (k : Nat) (a : Sh) : Prop where
  sh : isSh a
  to : a.to = [109]
  frz : a.frz = false
  done : a.done = [⟨1, k, putA k⟩]
  cells : a.cells.length ≤ 1
  evs : a.evs.length ≤ 24
structure HiI (k : Nat) (b : Sh) : Prop where
  hd : b.id = 3 ∧ b.ep = 1 ∧ b.fr = [109] ∧ b.to = [] ∧ b.frz = false
  done : b.done = [⟨1, k, putA k⟩]
  cells : b.cells = []
  evs : b.evs = []
theorem AtI.lo {k : Nat} {s a : Sh} (h : AtI k s) (h1 : 1 ≤ k) (h2 : k ≤ 20) (ha : sameSh a (saidPart s 2 s.fr [109])) : LoI k a := by
  have hs := h.sh h1 h2
  have hb := h.inS
  obtain ⟨a1, a2, a3, a4, a5, a6, a7, a8⟩ := id ha
  refine ⟨isSh_same ha (part_sh hs (id := 2) hb.lo ⟨by decide, by decide⟩ .z .z .z), a4, a5, by rw [a8]; show s.done = _; rw [h.done, if_neg (by omega)], ?_, ?_⟩
  · rw [a6]; exact Nat.le_trans (List.length_filter_le ..) h.clen
  · rw [a7]; refine Nat.le_trans (List.length_filter_le ..) ?_; rw [h.len]; omega
theorem AtI.hi {k : Nat} {s b : Sh} (h : AtI k s) (h1 : 1 ≤ k) (h2 : k ≤ 20) (hb : sameSh b (saidPart s 3 [109] s.to)) : HiI k b := by
  obtain ⟨e1, e2, e3, e4, e5⟩ := h.hd
  obtain ⟨a1, a2, a3, a4, a5, a6, a7, a8⟩ := id hb
  refine ⟨⟨a1, a2, a3, a4.trans e4, a5⟩, by rw [a8]; show s.done = _; rw [h.done, if_neg (by omega)], ?_, ?_⟩
  · rw [a6]; show withinL [109] s.to s.cells = []; rw [e4, h.cells, if_neg (by omega), hi_cells]
  · rw [a7]; show evW [109] s.to s.evs = []; rw [e4, hi_evs h.keys]
theorem one_up (d : Dn) : upD [d] := List.pairwise_singleton ..
theorem hist_nil : isHist [] [] := ⟨fun j h => absurd h (Nat.not_lt_zero _), fun e he => absurd he List.not_mem_nil, fun c hc => absurd hc List.not_mem_nil⟩
theorem AtI.first {s : Sh} (h : s = ⟨1, 1, [], [], false, [], [], [], .nils, .nils, .nils⟩) : AtI 0 s := by
  subst h
  exact ⟨⟨rfl, rfl, rfl, rfl, rfl⟩, hist_nil, rfl, fun e he => absurd he List.not_mem_nil, rfl, rfl⟩
end Go.Proofs
/- the code's next cell, Put, an error's number, what an op is: walked. -/

set_option linter.all false
namespace Go.Proofs
open Go.RowKit Go.Extern.Stop Go.Stop Go.Extern
theorem code1_nil (w : World) : Calls Tryz.prog 109 #[.nilIface] w fun e w' => e = .returned (.int .i64 0) ∧ Go.Ev.Grows w w' := by
  go_enter Tryz.func109, Tryz.ntmps109
  go_wp2_with (first | (go_at_call 47; refine (as_nil _ _).mono ?_; rintro e w' ⟨rfl, rfl⟩))
  go_ret
  exact ⟨rfl, Go.Ev.Grows.alloc _ _⟩
set_option maxHeartbeats 4000000 in
theorem code1_num (n : Int) (w : World) (hg : w.cell? ⟨0, 0, none⟩ = some (.iface 169 (.agg #[.pointer (some ⟨1, 32, none⟩)]))) : Calls Tryz.prog 109 #[.iface 42 (.int .i64 n)] w fun e w' => e = .returned (.int .i64 n) ∧ Go.Ev.Grows w w' := by
  have hlt : 0 < w.heap.size := by
    rcases Nat.eq_zero_or_pos w.heap.size with h0 | h
    · simp [World.cell?, h0] at hg
    · exact h
  have hgA : (w.alloc (.cells #[.int .i64 0] 42)).cell? ⟨0, 0, none⟩ = some (.iface 169 (.agg #[.pointer (some ⟨1, 32, none⟩)])) := by
    rw [World.cell?_alloc_lt _ _ ⟨0, 0, none⟩ hlt]; exact hg
  have htA : (w.alloc (.cells #[.int .i64 0] 42)).cell? ⟨w.heap.size, 0, none⟩ = some (.int .i64 0) := by simp
  have hfA : (w.alloc (.cells #[.int .i64 0] 42)).frozen? ⟨w.heap.size, 0, none⟩ = false := by simp
  go_enter Tryz.func109, Tryz.ntmps109
  go_wp2_with (first | (go_at_call 47; refine (as_hit n _ (.int .i64 0) _ hgA htA hfA).mono ?_; rintro e w' ⟨rfl, rfl⟩))
  go_ret
  refine ⟨rfl, ?_⟩
  exact ((((Go.Ev.Grows.alloc _ _).trans (Go.Ev.Grows.alloc _ _)).trans (Go.Ev.Grows.alloc _ _)).trans (Go.Ev.Grows.alloc _ _)).trans (Go.Ev.Grows.alloc _ _)
end Go.Proofs
set_option linter.all false
set_option maxRecDepth 100000
namespace Go.Proofs
open Go Go.Ev
variable {H : Heap}

theorem f109_ok (a : Option Int) : FnOk Tryz.prog 109 [errV a] H fun r G => r = .int .i64 (a.getD 0) ∧ G = H := by
  refine FnOk.of_calls fun φ w args' ha hw => ?_
  obtain ⟨v, rfl, h1⟩ := one_arg ha
  have e1 := errV_inv h1
  cases a with
  | none =>
    obtain rfl : v = .nilIface := e1
    refine (code1_nil w).mono ?_
    rintro e w' ⟨rfl, hg⟩
    exact ⟨⟨_, rfl, .int _ _⟩, hg⟩
  | some a =>
    obtain rfl : v = .iface 42 (.int .i64 a) := e1
    refine (code1_num a w (hw.rom 0 _ (List.mem_singleton.2 rfl)).1).mono ?_
    rintro e w' ⟨rfl, hg⟩
    exact ⟨⟨_, rfl, .int _ _⟩, hg⟩
theorem f150_ok {c : Cell} (h1 : 0 ≤ c.ver) (h2 : c.ver < 1000000000000) (v : List Nat) (d : Bool) : FnOk Tryz.prog 150 [.agg c.enc, .str v, .bool d] H fun r G => r = .tup [.agg (Cell.enc ⟨c.key, v, c.ver + 1, d, c.floor⟩), .agg (Evn.enc ⟨c.key, c.ver + 1, v, d⟩), .nili] ∧ G = H := by
  refine FnOk.drop (R := fun r => r = .tup [.agg (Cell.enc ⟨c.key, v, c.ver + 1, d, c.floor⟩), .agg (Evn.enc ⟨c.key, c.ver + 1, v, d⟩), .nili]) ?_ (by rintro v rfl ρ; simp only [AV.ren, AV.rens, Cell.rens, Evn.rens])
  refine FnOk.of_WW Tryz.func150 rfl C150ok R150ok E0 good_E0 ?_
  have hw : IntKind.i64.wrap (c.ver + 1) = c.ver + 1 := wrap_i64 (by omega) (by omega)
  have z1 := eq_false (show ¬ (1000000000000 : Int) ≤ c.ver by omega)
  simp only [go_sem, C150, Cell.enc, hw, z1]
  exact ⟨rfl, _, rfl⟩
theorem f136_ok {c : Cell} (h1 : 0 ≤ c.ver) (h2 : c.ver < 1000000000000) {v : List Nat} (hv : (v.length : Int) ≤ 12) : FnOk Tryz.prog 136 [.agg c.enc, .str v] H fun r G => r = .tup [.agg (Cell.enc ⟨c.key, v, c.ver + 1, false, c.floor⟩), .agg (Evn.enc ⟨c.key, c.ver + 1, v, false⟩), .nili] ∧ G = H := by
  refine FnOk.drop (R := fun r => r = .tup [.agg (Cell.enc ⟨c.key, v, c.ver + 1, false, c.floor⟩), .agg (Evn.enc ⟨c.key, c.ver + 1, v, false⟩), .nili]) ?_ (by rintro v rfl ρ; simp only [AV.ren, AV.rens, Cell.rens, Evn.rens])
  refine FnOk.of_WW Tryz.func136 rfl C136ok R136ok E0 good_E0 ?_
  have z1 := eq_false (show ¬ (12 : Int) < (v.length : Int) by omega)
  simp only [go_sem, C136, Cell.enc, z1]
  refine CL.of (f150_ok (c := c) h1 h2 v false) ?_
  rintro _ _ ⟨rfl, rfl⟩
  simp only [go_sem, Cell.enc, Evn.enc]
  exact ⟨_, rfl⟩
theorem f103_put (k v : List Nat) : FnOk Tryz.prog 103 [.agg [.int .i64 2, .str k, .str [], .str v, .int .i64 0, .nils]] H fun r G => r = .bool true ∧ G = H := by
  refine FnOk.drop (R := fun r => r = .bool true) ?_ (by rintro v rfl ρ; rw [AV.ren])
  refine FnOk.of_WW Tryz.func103 rfl C103ok R103ok E0 good_E0 ?_
  simp only [go_sem, C103]
  exact ⟨_, rfl⟩
theorem f103_get (k : List Nat) : FnOk Tryz.prog 103 [.agg [.int .i64 1, .str k, .str [], .str [], .int .i64 0, .nils]] H fun r G => r = .bool true ∧ G = H := by
  refine FnOk.drop (R := fun r => r = .bool true) ?_ (by rintro v rfl ρ; rw [AV.ren])
  refine FnOk.of_WW Tryz.func103 rfl C103ok R103ok E0 good_E0 ?_
  simp only [go_sem, C103]
  exact ⟨_, rfl⟩
theorem f103_cas (k v : List Nat) (n : Int) : FnOk Tryz.prog 103 [.agg [.int .i64 4, .str k, .str [], .str v, .int .i64 n, .nils]] H fun r G => r = .bool true ∧ G = H := by
  refine FnOk.drop (R := fun r => r = .bool true) ?_ (by rintro v rfl ρ; rw [AV.ren])
  refine FnOk.of_WW Tryz.func103 rfl C103ok R103ok E0 good_E0 ?_
  simp only [go_sem, C103]
  exact ⟨_, rfl⟩
theorem f53_put {k v : List Nat} (hk : isKey k) (hv : (v.length : Int) ≤ 12) : FnOk Tryz.prog 53 [.agg [.int .i64 2, .str k, .str [], .str v, .int .i64 0, .nils]] H fun r G => r = .bool true ∧ G = H := by
  refine FnOk.drop (R := fun r => r = .bool true) ?_ (by rintro v rfl ρ; rw [AV.ren])
  refine FnOk.of_WW Tryz.func53 rfl C53ok R53ok E0 good_E0 ?_
  have z2 := eq_true (show (v.length : Int) ≤ 40 by omega)
  simp only [go_sem, C53]
  refine CL.of (f103_put k v) ?_
  rintro _ _ ⟨rfl, rfl⟩
  simp only [go_sem]
  refine CL.bool (f105_ok k) (fun g => ?_) (fun g => absurd hk g)
  simp only [go_sem, z2]
  exact ⟨_, rfl⟩
theorem f53_get {k : List Nat} (hk : isKey k) : FnOk Tryz.prog 53 [.agg [.int .i64 1, .str k, .str [], .str [], .int .i64 0, .nils]] H fun r G => r = .bool true ∧ G = H := by
  refine FnOk.drop (R := fun r => r = .bool true) ?_ (by rintro v rfl ρ; rw [AV.ren])
  refine FnOk.of_WW Tryz.func53 rfl C53ok R53ok E0 good_E0 ?_
  simp only [go_sem, C53]
  refine CL.of (f103_get k) ?_
  rintro _ _ ⟨rfl, rfl⟩
  simp only [go_sem]
  refine CL.bool (f105_ok k) (fun g => ?_) (fun g => absurd hk g)
  simp only [go_sem]
  exact ⟨_, rfl⟩
theorem f53_cas {k v : List Nat} (hk : isKey k) (hv : (v.length : Int) ≤ 12) {n : Int} (h0 : 0 ≤ n) (h1 : n ≤ 1000000000000) : FnOk Tryz.prog 53 [.agg [.int .i64 4, .str k, .str [], .str v, .int .i64 n, .nils]] H fun r G => r = .bool true ∧ G = H := by
  refine FnOk.drop (R := fun r => r = .bool true) ?_ (by rintro v rfl ρ; rw [AV.ren])
  refine FnOk.of_WW Tryz.func53 rfl C53ok R53ok E0 good_E0 ?_
  have z2 := eq_true (show (v.length : Int) ≤ 40 by omega)
  have z3 := eq_true h0
  have z4 := eq_true h1
  simp only [go_sem, C53]
  refine CL.of (f103_cas k v n) ?_
  rintro _ _ ⟨rfl, rfl⟩
  simp only [go_sem]
  refine CL.bool (f105_ok k) (fun g => ?_) (fun g => absurd hk g)
  simp only [go_sem, z2, z3, z4]
  exact ⟨_, rfl⟩
theorem f67_cas (k v : List Nat) (n : Int) : FnOk Tryz.prog 67 [.agg [.int .i64 4, .str k, .str [], .str v, .int .i64 n, .nils]] H fun r G => r = .bool true ∧ G = H := by
  refine FnOk.drop (R := fun r => r = .bool true) ?_ (by rintro v rfl ρ; rw [AV.ren])
  refine FnOk.of_WW Tryz.func67 rfl C67ok R67ok E0 good_E0 ?_
  simp only [go_sem, C67]
  exact ⟨_, rfl⟩
theorem f54_ok {s : Sh} (h : s.ok H) (k : List Nat) : FnOk Tryz.prog 54 [.agg s.enc, .str k] H fun r G => r = .agg (getA (getL s.cells k).1) ∧ G = H := by
  refine FnOk.drop (R := fun r => r = .agg (getA (getL s.cells k).1)) ?_ (by rintro v rfl ρ; simp only [AV.ren, getA_rens])
  refine FnOk.of_WW Tryz.func54 rfl C54ok R54ok E0 good_E0 ?_
  simp only [go_sem, C54, Sh.enc]
  refine CL.of (f106_ok (h.c.ext _) h.cl k) ?_
  rintro _ _ ⟨rfl, rfl⟩
  simp only [go_sem, Cell.enc]
  refine CL.bool (f107_ok (getL s.cells k).1) (fun g => ?_) (fun g => ?_)
  · simp only [go_sem, Cell.enc]
    exact ⟨by rw [getA, if_pos g], _, rfl⟩
  · simp only [go_sem, Cell.enc]
    exact ⟨by rw [getA, if_neg g], _, rfl⟩
end Go.Proofs
/- the code's Add, change, one: walked. -/

set_option linter.all false
set_option linter.all false
set_option maxRecDepth 100000
namespace Go.Proofs
open Go Go.Ev
variable {H : Heap}

def A81 (H : Heap) (args : List AV) (l : List Evn) : Prop := ∃ k, args = [outV k 4 l.length] ∧ Arr H 4 (outV k 4 l.length) (l.map Evn.enc) ∧ l.length < 100000
noncomputable def EA (f : FuncId) (args : List AV) (H : Heap) : RC :=
  match f with
  | 81 => ot (A81 H args) fun l => .ok (outV H.nx 4 l.length) (H.ext [outB 4 (l.map Evn.enc)])
  | 37 => ot (A50 H args) fun q => .ok (.tup [outV (H.key 1) 4 (q.1.drop (q.1.length - 24)).length, outV (H.key 0) 5 q.2.length]) (H.ext [outB 5 ((keepC (q.1.take (q.1.length - 24)) q.2).map Cell.enc), outB 4 ((q.1.drop (q.1.length - 24)).map Evn.enc)])
  | _ => .fail
theorem outV_null {k : K} {e n : Nat} (h : n = 0) : outV k e n = .nils := by subst h; rfl
theorem good_EA : Ev.Good Tryz.prog EA := by
  intro f args H r G he φ w args' ha hw
  refine (?_ : FnOk Tryz.prog f args H fun v' G' => v' = r ∧ G' = G).one φ w args' ha hw
  unfold EA at he
  split at he
  · obtain ⟨l, ⟨k, rfl, h1, h2⟩, hz⟩ := ot_ok he
    clear he
    cases hz
    exact clone_n clo75 (List.length_map ..) outV_null h1 (by omega) (fun _ _ => Evn.map_rens _ _)
  · obtain ⟨q, ⟨k, k', rfl, h1, h2, h3, h4⟩, hz⟩ := ot_ok he
    clear he
    cases hz
    exact f37_ok rfl rfl h1 h2 h3 h4
  · cases he
theorem e81 {k : K} {l : List Evn} (hA : Arr H 4 (outV k 4 l.length) (l.map Evn.enc)) (hl : l.length < 100000) (L : List Blk) : EA 81 [outV k 4 l.length] (H.ext L) = .ok (outV (H.key L.length) 4 l.length) (H.ext (L ++ [outB 4 (l.map Evn.enc)])) := by
  show ot (A81 (H.ext L) [outV k 4 l.length]) (fun l => .ok (outV (H.ext L).nx 4 l.length) ((H.ext L).ext [outB 4 (l.map Evn.enc)])) = _
  rw [ot_eq (p := A81 (H.ext L) [outV k 4 l.length]) (x := l) ⟨k, rfl, hA.ext L, hl⟩, Heap.nx_ext, Heap.ext_append]
  rintro l' ⟨k', h1, h2, _⟩
  injection h1 with h1
  rw [← h1] at h2
  exact (evs_uniq (hA.ext L) h2).symm
theorem e37 {k k' : K} {xs : List Evn} {cs : List Cell} {L : List Blk} (h1 : Arr (H.ext L) 4 (outV k 4 xs.length) (xs.map Evn.enc)) (h2 : Arr (H.ext L) 5 (outV k' 5 cs.length) (cs.map Cell.enc)) (hx : xs.length < 100000) (hc : cs.length < 100000) :
    EA 37 [outV k 4 xs.length, outV k' 5 cs.length, .int .i64 24] (H.ext L) = .ok (.tup [outV (H.key (L.length + 1)) 4 (xs.drop (xs.length - 24)).length, outV (H.key L.length) 5 cs.length]) (H.ext (L ++ [outB 5 ((keepC (xs.take (xs.length - 24)) cs).map Cell.enc), outB 4 ((xs.drop (xs.length - 24)).map Evn.enc)])) := by
  show ot (A50 (H.ext L) [outV k 4 xs.length, outV k' 5 cs.length, .int .i64 24]) (fun q => .ok (.tup [outV ((H.ext L).key 1) 4 (q.1.drop (q.1.length - 24)).length, outV ((H.ext L).key 0) 5 q.2.length]) ((H.ext L).ext [outB 5 ((keepC (q.1.take (q.1.length - 24)) q.2).map Cell.enc), outB 4 ((q.1.drop (q.1.length - 24)).map Evn.enc)])) = _
  rw [ot_eq (p := A50 (H.ext L) [outV k 4 xs.length, outV k' 5 cs.length, .int .i64 24]) (x := (xs, cs)) ⟨_, _, rfl, h1, h2, hx, hc⟩, Heap.key_ext, Heap.key_ext, Heap.ext_append]
  · rfl
  rintro ⟨xs', ys'⟩ ⟨k, k', h3, h4, h5, _, _⟩
  injection h3 with h3 h6
  injection h6 with h6 _
  rw [← h3] at h4
  rw [← h6] at h5
  rw [evs_uniq h1 h4, cells_uniq h2 h5]
theorem f138_ok {k k' : K} {l : List Evn} {cs : List Cell} (hA : Arr H 4 (outV k 4 l.length) (l.map Evn.enc)) (hB : Arr H 5 (outV k' 5 cs.length) (cs.map Cell.enc)) (hl : l.length < 10000) (hc : cs.length < 10000) (e : Evn) :
    FnOk Tryz.prog 138 [outV k 4 l.length, outV k' 5 cs.length, .agg e.enc, .int .i64 24] H fun r G => r = .tup [outV (H.key 1) 4 ((l ++ [e]).drop ((l ++ [e]).length - 24)).length, outV (H.key 0) 5 cs.length] ∧ G = H.ext [outB 5 ((keepC ((l ++ [e]).take ((l ++ [e]).length - 24)) cs).map Cell.enc), outB 4 (((l ++ [e]).drop ((l ++ [e]).length - 24)).map Evn.enc)] := by
  refine FnOk.assume fun hok => ?_
  refine FnOk.dropW ?_
  obtain ⟨es, hes⟩ : ∃ es, es = l ++ [e] := ⟨_, rfl⟩
  rw [← hes]
  refine FnOk.of_WW Tryz.func138 rfl C138ok R138ok EA good_EA ?_
  have i81 := e81 hA (by omega)
  have hel : es.length = l.length + 1 := by rw [hes, List.length_append]; rfl
  simp only [go_sem, C138, Evn.enc, i81, ↓appR_hide]
  rw [appQ_out (i := 2) (j := 1) rfl (List.length_map ..) rfl (okBig_le (by omega) (by decide))]
  rw [← hel, show outB 4 (l.map Evn.enc ++ [[.str e.key, .int .i64 e.ver, .str e.val, .bool e.del]]) = outB 4 (es.map Evn.enc) by rw [hes, List.map_append]; rfl]
  have i37 := fun b0 b1 b2 => e37 (H := H) (k := H.key 3) (k' := k') (xs := es) (cs := cs) (L := [b0, b1, b2, outB 4 (es.map Evn.enc)]) (arr_outV (i := 3) rfl (List.length_map ..)) (hB.ext _) (by omega) (by omega)
  simp only [go_sem, i37]
  exact ⟨_, [4, 5], by simp only [outV_ren', go_sem], rfl, rfl, by decide, by simp only [go_sem, ↓outB_ren', Cell.map_rens, Evn.map_rens, implies_true]⟩
theorem frV_pos {v : AV} {k : K} {e n : Nat} (h : 0 < n) : frV v k e n = outV k e n := by
  unfold frV
  split
  · rfl
  · exact (outV_pos h).symm
theorem frL_pos {v : AV} {e : Nat} {xs : List (List AV)} (h : 0 < xs.length) : frL v e xs = [outB e xs] := by
  cases xs with
  | nil => exact absurd h (Nat.lt_irrefl 0)
  | cons x xs => unfold frL; split <;> rfl
theorem withL_pos (c : Cell) : ∀ l : List Cell, 0 < (withL l c).length
  | [] => by simp [withL]
  | d :: l => by
    unfold withL
    split
    · simp
    · split <;> simp
theorem f139_at {v : AV} {l : List Cell} (hA : Arr H 5 v (l.map Cell.enc)) (hl : l.length < 10000) {c : Cell} (hc : cellIs c) :
    FnOk Tryz.prog 139 [v, .agg c.enc] H fun r G => r = outV H.nx 5 (withL l c).length ∧ G = H.ext [outB 5 ((withL l c).map Cell.enc)] := by
  refine (f139_ok hA (by omega) c).mono ?_
  rintro r G ⟨rfl, rfl⟩
  have hp := withL_pos c l
  rw [withC, if_pos hc, frV_pos hp, frL_pos (by rw [List.length_map]; exact hp)]
  exact ⟨rfl, rfl⟩
def A139 (H : Heap) (args : List AV) (q : List Cell × Cell) : Prop := ∃ v, args = [v, .agg q.2.enc] ∧ Arr H 5 v (q.1.map Cell.enc) ∧ q.1.length < 10000 ∧ cellIs q.2
def A138 (H : Heap) (args : List AV) (q : List Evn × List Cell × Evn) : Prop := ∃ k k', args = [outV k 4 q.1.length, outV k' 5 q.2.1.length, .agg q.2.2.enc, .int .i64 24] ∧ Arr H 4 (outV k 4 q.1.length) (q.1.map Evn.enc) ∧ Arr H 5 (outV k' 5 q.2.1.length) (q.2.1.map Cell.enc) ∧ q.1.length < 10000 ∧ q.2.1.length < 10000
noncomputable def EG (f : FuncId) (args : List AV) (H : Heap) : RC :=
  match f with
  | 139 => ot (A139 H args) fun q => .ok (outV H.nx 5 (withL q.1 q.2).length) (H.ext [outB 5 ((withL q.1 q.2).map Cell.enc)])
  | 138 => ot (A138 H args) fun q => .ok (.tup [outV (H.key 1) 4 ((q.1 ++ [q.2.2]).drop ((q.1 ++ [q.2.2]).length - 24)).length, outV (H.key 0) 5 q.2.1.length]) (H.ext [outB 5 ((keepC ((q.1 ++ [q.2.2]).take ((q.1 ++ [q.2.2]).length - 24)) q.2.1).map Cell.enc), outB 4 (((q.1 ++ [q.2.2]).drop ((q.1 ++ [q.2.2]).length - 24)).map Evn.enc)])
  | 109 => match args with | [.nili] => .ok (.int .i64 0) H | _ => .fail
  | _ => .fail
theorem good_EG : Ev.Good Tryz.prog EG := by
  intro f args H r G he φ w args' ha hw
  refine (?_ : FnOk Tryz.prog f args H fun v' G' => v' = r ∧ G' = G).one φ w args' ha hw
  unfold EG at he
  split at he
  · obtain ⟨q, ⟨v, rfl, h1, h2, h3⟩, hz⟩ := ot_ok he
    clear he
    cases hz
    exact f139_at h1 h2 h3
  · obtain ⟨q, ⟨k, k', rfl, h1, h2, h3, h4⟩, hz⟩ := ot_ok he
    clear he
    cases hz
    exact f138_ok h1 h2 h3 h4 _
  · split at he
    · cases he; exact f109_ok none
    · cases he
  · cases he
theorem e139 {v : AV} {l : List Cell} (hA : Arr H 5 v (l.map Cell.enc)) (hl : l.length < 10000) {c : Cell} (hc : cellIs c) (L : List Blk) :
    EG 139 [v, .agg [.str c.key, .str c.value, .int .i64 c.ver, .bool c.del, .int .i64 c.floor]] (H.ext L) = .ok (outV (H.key L.length) 5 (withL l c).length) (H.ext (L ++ [outB 5 ((withL l c).map Cell.enc)])) := by
  show ot (A139 (H.ext L) [v, .agg c.enc]) (fun q => .ok (outV (H.ext L).nx 5 (withL q.1 q.2).length) ((H.ext L).ext [outB 5 ((withL q.1 q.2).map Cell.enc)])) = _
  rw [ot_eq (p := A139 (H.ext L) [v, .agg c.enc]) (x := (l, c)) ⟨v, rfl, hA.ext L, hl, hc⟩, Heap.nx_ext, Heap.ext_append]
  rintro ⟨l', c'⟩ ⟨v', h1, h2, _⟩
  injection h1 with h1 h3
  injection h3 with h3 _
  injection h3 with h3
  dsimp only at h1 h2 h3
  subst h1
  rw [cells_uniq (hA.ext L) h2, Cell.enc_one h3]
theorem e138 {k k' : K} {l : List Evn} {cs : List Cell} {L : List Blk} (hA : Arr (H.ext L) 4 (outV k 4 l.length) (l.map Evn.enc)) (hB : Arr (H.ext L) 5 (outV k' 5 cs.length) (cs.map Cell.enc)) (hl : l.length < 10000) (hc : cs.length < 10000) (e : Evn) :
    EG 138 [outV k 4 l.length, outV k' 5 cs.length, .agg [.str e.key, .int .i64 e.ver, .str e.val, .bool e.del], .int .i64 24] (H.ext L) = .ok (.tup [outV (H.key (L.length + 1)) 4 ((l ++ [e]).drop ((l ++ [e]).length - 24)).length, outV (H.key L.length) 5 cs.length]) (H.ext (L ++ [outB 5 ((keepC ((l ++ [e]).take ((l ++ [e]).length - 24)) cs).map Cell.enc), outB 4 (((l ++ [e]).drop ((l ++ [e]).length - 24)).map Evn.enc)])) := by
  show ot (A138 (H.ext L) [outV k 4 l.length, outV k' 5 cs.length, .agg e.enc, .int .i64 24]) (fun q => .ok (.tup [outV ((H.ext L).key 1) 4 ((q.1 ++ [q.2.2]).drop ((q.1 ++ [q.2.2]).length - 24)).length, outV ((H.ext L).key 0) 5 q.2.1.length]) ((H.ext L).ext [outB 5 ((keepC ((q.1 ++ [q.2.2]).take ((q.1 ++ [q.2.2]).length - 24)) q.2.1).map Cell.enc), outB 4 (((q.1 ++ [q.2.2]).drop ((q.1 ++ [q.2.2]).length - 24)).map Evn.enc)])) = _
  rw [ot_eq (p := A138 (H.ext L) [outV k 4 l.length, outV k' 5 cs.length, .agg e.enc, .int .i64 24]) (x := (l, cs, e)) ⟨_, _, rfl, hA, hB, hl, hc⟩, Heap.key_ext, Heap.key_ext, Heap.ext_append]
  · rfl
  rintro ⟨l', cs', e'⟩ ⟨k, k', h1, h2, h3, _⟩
  injection h1 with h1 h4
  injection h4 with h4 h5
  injection h5 with h5 _
  injection h5 with h5
  dsimp only at h1 h2 h3 h4 h5
  rw [← h1] at h2
  rw [← h4] at h3
  rw [evs_uniq hA h2, cells_uniq hB h3, Evn.enc_one h5]
theorem e109 (H : Heap) : EG 109 [.nili] H = .ok (.int .i64 0) H := rfl
theorem f108_put {s : Sh} (h : s.ok H) {ke : K} (hev : s.ev = outV ke 4 s.evs.length) (hel : s.evs.length < 9000) (hcl : s.cells.length < 9000) {k v : List Nat} (hk : isKey k) (hv : (v.length : Int) ≤ 12) (hI : isHist s.evs s.cells) (hm : (getL s.cells k).1.ver < 1000000000000) :
    FnOk Tryz.prog 108 [.agg s.enc, .str k, .str v, .bool false] H fun r G => r = .tup [.agg (addS s (nextC s.cells k v false) (nextE s.cells k v false) (H.key 0) (H.key 1)).enc, .agg (nextC s.cells k v false).enc, .nili] ∧ G = H.ext (addB s (nextC s.cells k v false) (nextE s.cells k v false)) := by
  refine FnOk.dropW ?_
  refine FnOk.of_WW Tryz.func108 rfl C108ok R108ok EG good_EG ?_
  obtain ⟨c1, c2, c3, c4, _⟩ := cell_of hI k
  have hput := hist_put hI hk hv (d := false) (fun h => by cases h) hm
  have hw : refW s.cells (nextC s.cells k v false) = withL s.cells (nextC s.cells k v false) := refW_eq hI.1 _
  have hwl := withL_len (nextC s.cells k v false) s.cells
  have hcell : cellIs (nextC s.cells k v false) := isIdx_all hput.1 _ (getL_mem getL_withL_self).1
  have hA := h.e
  rw [hev] at hA
  obtain ⟨cs, hcs⟩ : ∃ cs, cs = withL s.cells (nextC s.cells k v false) := ⟨_, rfl⟩
  have i139 := e139 h.c (by omega) hcell
  have i138 := fun b0 b1 b2 b3 b4 b5 => e138 (H := H) (k := ke) (k' := H.key 6) (l := s.evs) (cs := cs) (L := [b0, b1, b2, b3, b4, b5, outB 5 (cs.map Cell.enc)]) (hA.ext _) (arr_outV (i := 6) rfl (List.length_map ..)) (by omega) (by rw [hcs]; omega) (nextE s.cells k v false)
  have dren := h.d.ren
  unfold addS addB
  rw [hw, ← hcs]
  rw [← hcs] at i139
  simp only [nextC, nextE] at i139 i138
  simp only [go_sem, C108, Sh.enc, hev]
  refine CL.of (f106_ok (h.c.ext _) h.cl k) ?_
  rintro _ _ ⟨rfl, rfl⟩
  simp only [go_sem, Cell.enc]
  refine CL.of (f136_ok (c := (getL s.cells k).1) c2 hm hv) ?_
  rintro _ _ ⟨rfl, rfl⟩
  simp only [go_sem, Cell.enc, Evn.enc, c1, i139, i138]
  refine ⟨_, [7, 8], by simp only [nextC, nextE, Sh.enc, Cell.enc, c1, outV_ren', dren, go_sem], rfl, rfl, by decide, by simp only [nextC, nextE, go_sem, ↓outB_ren', Cell.map_rens, Evn.map_rens, implies_true]⟩
end Go.Proofs
/- the code's Do: puts, gets, sets by version: walked. -/

set_option linter.all false
set_option linter.all false
set_option maxRecDepth 100000
namespace Go.Proofs
open Go Go.Ev
variable {H : Heap}

theorem f55_put {s : Sh} (h : s.ok H) {ke : K} (hev : s.ev = outV ke 4 s.evs.length) (hel : s.evs.length < 9000) (hcl : s.cells.length < 9000) {k v : List Nat} (hk : isKey k) (hv : (v.length : Int) ≤ 12) (hI : isHist s.evs s.cells) (hm : (getL s.cells k).1.ver < 1000000000000) :
    FnOk Tryz.prog 55 [.agg s.enc, .str k, .str v, .bool false] H fun r G => r = .tup [.agg (addS s (nextC s.cells k v false) (nextE s.cells k v false) (H.key 0) (H.key 1)).enc, .agg [.int .i64 0, .str [], .int .i64 ((getL s.cells k).1.ver + 1), .nils]] ∧ G = H.ext (addB s (nextC s.cells k v false) (nextE s.cells k v false)) := by
  refine FnOk.dropW ?_
  refine FnOk.of_WW Tryz.func55 rfl C55ok R55ok EG good_EG ?_
  have dren := h.d.ren
  simp only [go_sem, C55, Sh.enc]
  refine CL.of (f108_put (h.ext _) hev hel hcl hk hv hI hm) ?_
  rintro _ _ ⟨rfl, rfl⟩
  simp only [go_sem, Sh.enc, addS, addB, Heap.key_ext, Cell.enc, nextC, nextE, e109]
  exact ⟨_, [3, 4], by simp only [addS, nextC, nextE, Sh.enc, outV_ren', dren, go_sem], rfl, rfl, by decide, by simp only [addB, nextC, nextE, go_sem, ↓outB_ren', Cell.map_rens, Evn.map_rens, implies_true]⟩
def A54 (H : Heap) (args : List AV) (q : Sh × List Nat) : Prop := args = [.agg q.1.enc, .str q.2] ∧ q.1.ok H
noncomputable def EO5 (f : FuncId) (args : List AV) (H : Heap) : RC :=
  match f with
  | 54 => ot (A54 H args) fun q => .ok (.agg (getA (getL q.1.cells q.2).1)) H
  | _ => .fail
theorem good_EO5 : Ev.Good Tryz.prog EO5 := by
  intro f args H r G he φ w args' ha hw
  refine (?_ : FnOk Tryz.prog f args H fun v' G' => v' = r ∧ G' = G).one φ w args' ha hw
  unfold EO5 at he
  split at he
  · obtain ⟨q, ⟨rfl, h1⟩, hz⟩ := ot_ok he
    clear he
    cases hz
    exact f54_ok h1 _
  · cases he
theorem e54s {s : Sh} (h : s.ok H) (k : List Nat) (L : List Blk) : EO5 54 [.agg [.int .i64 s.id, .int .i64 s.ep, .str s.fr, .str s.to, .bool s.frz, s.cv, s.ev, s.dv], .str k] (H.ext L) = .ok (.agg (getA (getL s.cells k).1)) (H.ext L) := by
  show ot (A54 (H.ext L) [.agg s.enc, .str k]) (fun q => .ok (.agg (getA (getL q.1.cells q.2).1)) (H.ext L)) = _
  rw [ot_eq (p := A54 (H.ext L) [.agg s.enc, .str k]) (x := (s, k)) ⟨rfl, h.ext L⟩]
  rintro ⟨s', k'⟩ ⟨h1, h2⟩
  injection h1 with h1 h3
  injection h3 with h3 _
  injection h1 with h1
  injection h3 with h3
  dsimp only at h1 h2 h3
  rw [Sh.uniq h1 (h.ext L) h2, h3]
theorem f21_put {s : Sh} (h : s.ok H) {ke : K} (hev : s.ev = outV ke 4 s.evs.length) (hel : s.evs.length < 9000) (hcl : s.cells.length < 9000) {k v : List Nat} (hk : isKey k) (hv : (v.length : Int) ≤ 12) (hI : isHist s.evs s.cells) (hm : (getL s.cells k).1.ver < 1000000000000) :
    FnOk Tryz.prog 21 [.agg s.enc, .agg [.int .i64 2, .str k, .str [], .str v, .int .i64 0, .nils]] H fun r G => r = .tup [.agg (addS s (nextC s.cells k v false) (nextE s.cells k v false) (H.key 0) (H.key 1)).enc, .agg [.int .i64 0, .str [], .int .i64 ((getL s.cells k).1.ver + 1), .nils]] ∧ G = H.ext (addB s (nextC s.cells k v false) (nextE s.cells k v false)) := by
  refine FnOk.dropW ?_
  refine FnOk.of_WW Tryz.func21 rfl C21ok R21ok E0 good_E0 ?_
  have dren := h.d.ren
  simp only [go_sem, C21, Sh.enc]
  refine CL.of (f53_put hk hv) ?_
  rintro _ _ ⟨rfl, rfl⟩
  simp only [go_sem]
  refine CL.of (f55_put (h.ext _) hev hel hcl hk hv hI hm) ?_
  rintro _ _ ⟨rfl, rfl⟩
  simp only [go_sem, Sh.enc, addS, addB, Heap.key_ext]
  exact ⟨_, [4, 5], by simp only [addS, nextC, nextE, Sh.enc, outV_ren', dren, go_sem], rfl, rfl, by decide, by simp only [addB, nextC, nextE, go_sem, ↓outB_ren', Cell.map_rens, Evn.map_rens, implies_true]⟩
theorem f21_get {s : Sh} (h : s.ok H) {k : List Nat} (hk : isKey k) :
    FnOk Tryz.prog 21 [.agg s.enc, .agg [.int .i64 1, .str k, .str [], .str [], .int .i64 0, .nils]] H fun r G => r = .tup [.agg s.enc, .agg (getA (getL s.cells k).1)] ∧ G = H := by
  refine FnOk.dropOld (R := fun r => r = .tup [.agg s.enc, .agg (getA (getL s.cells k).1)]) ?_ ?_
  · refine FnOk.of_WW Tryz.func21 rfl C21ok R21ok EO5 good_EO5 ?_
    obtain ⟨x0, x1, x2, x3, hx⟩ : ∃ x0 x1 x2 x3, getA (getL s.cells k).1 = [x0, x1, x2, x3] := by unfold getA; split <;> exact ⟨_, _, _, _, rfl⟩
    have i54 := e54s h k
    rw [hx] at i54 ⊢
    simp only [go_sem, C21, Sh.enc]
    refine CL.of (f53_get hk) ?_
    rintro _ _ ⟨rfl, rfl⟩
    simp only [go_sem, Sh.enc, i54]
    exact ⟨_, rfl⟩
  · rintro _ rfl top σ
    simp only [AV.ren, AV.rens, h.ren top σ, getA_rens]
theorem f56_put {s : Sh} (h : s.ok H) {ke : K} (hev : s.ev = outV ke 4 s.evs.length) (hel : s.evs.length < 9000) (hcl : s.cells.length < 9000) {k v : List Nat} (hk : isKey k) (hv : (v.length : Int) ≤ 12) (hI : isHist s.evs s.cells) (hm : (getL s.cells k).1.ver < 1000000000000) :
    FnOk Tryz.prog 56 [.agg s.enc, .agg [.int .i64 4, .str k, .str [], .str v, .int .i64 (getL s.cells k).1.ver, .nils]] H fun r G => r = .tup [.agg (addS s (nextC s.cells k v false) (nextE s.cells k v false) (H.key 0) (H.key 1)).enc, .agg [.int .i64 0, .str [], .int .i64 ((getL s.cells k).1.ver + 1), .nils]] ∧ G = H.ext (addB s (nextC s.cells k v false) (nextE s.cells k v false)) := by
  refine FnOk.dropW ?_
  refine FnOk.of_WW Tryz.func56 rfl C56ok R56ok E0 good_E0 ?_
  have dren := h.d.ren
  simp only [go_sem, C56, Sh.enc]
  refine CL.of (f106_ok (h.c.ext _) h.cl k) ?_
  rintro _ _ ⟨rfl, rfl⟩
  simp only [go_sem, Cell.enc]
  refine CL.of (f55_put (h.ext _) hev hel hcl hk hv hI hm) ?_
  rintro _ _ ⟨rfl, rfl⟩
  simp only [go_sem, Sh.enc, addS, addB, Heap.key_ext]
  exact ⟨_, [5, 6], by simp only [addS, nextC, nextE, Sh.enc, outV_ren', dren, go_sem], rfl, rfl, by decide, by simp only [addB, nextC, nextE, go_sem, ↓outB_ren', Cell.map_rens, Evn.map_rens, implies_true]⟩
theorem f56_clash {s : Sh} (h : s.ok H) {k : List Nat} {n : Int} (hn : ¬ (getL s.cells k).1.ver = n) (v : List Nat) :
    FnOk Tryz.prog 56 [.agg s.enc, .agg [.int .i64 4, .str k, .str [], .str v, .int .i64 n, .nils]] H fun r G => r = .tup [.agg s.enc, .agg [.int .i64 15, .str [], .int .i64 (getL s.cells k).1.ver, .nils]] ∧ G = H := by
  refine FnOk.dropOld (R := fun r => r = .tup [.agg s.enc, .agg [.int .i64 15, .str [], .int .i64 (getL s.cells k).1.ver, .nils]]) ?_ ?_
  · refine FnOk.of_WW Tryz.func56 rfl C56ok R56ok E0 good_E0 ?_
    simp only [go_sem, C56, Sh.enc]
    refine CL.of (f106_ok (h.c.ext _) h.cl k) ?_
    rintro _ _ ⟨rfl, rfl⟩
    simp only [go_sem, Cell.enc, hn]
    exact ⟨_, rfl⟩
  · rintro _ rfl top σ
    simp only [AV.ren, AV.rens, h.ren top σ]
theorem f21_cas {s : Sh} (h : s.ok H) {ke : K} (hev : s.ev = outV ke 4 s.evs.length) (hel : s.evs.length < 9000) (hcl : s.cells.length < 9000) {k v : List Nat} (hk : isKey k) (hv : (v.length : Int) ≤ 12) (hI : isHist s.evs s.cells) (hm : (getL s.cells k).1.ver < 1000000000000) (hm0 : 0 ≤ (getL s.cells k).1.ver) :
    FnOk Tryz.prog 21 [.agg s.enc, .agg [.int .i64 4, .str k, .str [], .str v, .int .i64 (getL s.cells k).1.ver, .nils]] H fun r G => r = .tup [.agg (addS s (nextC s.cells k v false) (nextE s.cells k v false) (H.key 0) (H.key 1)).enc, .agg [.int .i64 0, .str [], .int .i64 ((getL s.cells k).1.ver + 1), .nils]] ∧ G = H.ext (addB s (nextC s.cells k v false) (nextE s.cells k v false)) := by
  refine FnOk.dropW ?_
  refine FnOk.of_WW Tryz.func21 rfl C21ok R21ok E0 good_E0 ?_
  have dren := h.d.ren
  simp only [go_sem, C21, Sh.enc]
  refine CL.of (f53_cas hk hv hm0 (by omega)) ?_
  rintro _ _ ⟨rfl, rfl⟩
  simp only [go_sem]
  refine CL.of (f56_put (h.ext _) hev hel hcl hk hv hI hm) ?_
  rintro _ _ ⟨rfl, rfl⟩
  simp only [go_sem, Sh.enc, addS, addB, Heap.key_ext]
  exact ⟨_, [4, 5], by simp only [addS, nextC, nextE, Sh.enc, outV_ren', dren, go_sem], rfl, rfl, by decide, by simp only [addB, nextC, nextE, go_sem, ↓outB_ren', Cell.map_rens, Evn.map_rens, implies_true]⟩
theorem f21_clash {s : Sh} (h : s.ok H) {k : List Nat} (hk : isKey k) {n : Int} (hn : ¬ (getL s.cells k).1.ver = n) {v : List Nat} (hv : (v.length : Int) ≤ 12) (h0 : 0 ≤ n) (h1 : n ≤ 1000000000000) :
    FnOk Tryz.prog 21 [.agg s.enc, .agg [.int .i64 4, .str k, .str [], .str v, .int .i64 n, .nils]] H fun r G => r = .tup [.agg s.enc, .agg [.int .i64 15, .str [], .int .i64 (getL s.cells k).1.ver, .nils]] ∧ G = H := by
  refine FnOk.dropOld (R := fun r => r = .tup [.agg s.enc, .agg [.int .i64 15, .str [], .int .i64 (getL s.cells k).1.ver, .nils]]) ?_ ?_
  · refine FnOk.of_WW Tryz.func21 rfl C21ok R21ok E0 good_E0 ?_
    simp only [go_sem, C21, Sh.enc]
    refine CL.of (f53_cas hk hv h0 h1) ?_
    rintro _ _ ⟨rfl, rfl⟩
    simp only [go_sem]
    refine CL.of (f56_clash (h.ext _) hn v) ?_
    rintro _ _ ⟨rfl, rfl⟩
    simp only [go_sem, Sh.enc]
    exact ⟨_, rfl⟩
  · rintro _ rfl top σ
    simp only [AV.ren, AV.rens, h.ren top σ]
end Go.Proofs
/- the code's deletes: walked. -/

set_option linter.all false
set_option linter.all false
set_option maxRecDepth 100000
namespace Go.Proofs
open Go Go.Ev
variable {H : Heap}

theorem f137_yes {c : Cell} (h1 : 0 < c.ver ∧ c.del = false) (h2 : c.ver < 1000000000000) : FnOk Tryz.prog 137 [.agg c.enc] H fun r G => r = .tup [.agg (Cell.enc ⟨c.key, [], c.ver + 1, true, c.floor⟩), .agg (Evn.enc ⟨c.key, c.ver + 1, [], true⟩), .nili] ∧ G = H := by
  refine FnOk.drop (R := fun r => r = .tup [.agg (Cell.enc ⟨c.key, [], c.ver + 1, true, c.floor⟩), .agg (Evn.enc ⟨c.key, c.ver + 1, [], true⟩), .nili]) ?_ (by rintro v rfl ρ; simp only [AV.ren, AV.rens, Cell.rens, Evn.rens])
  refine FnOk.of_WW Tryz.func137 rfl C137ok R137ok E0 good_E0 ?_
  simp only [go_sem, C137, Cell.enc]
  refine CL.bool (f107_ok c) (fun _ => ?_) (fun g => absurd h1 g)
  simp only [go_sem, Cell.enc]
  refine CL.of (f150_ok (c := c) (by omega) h2 [] true) ?_
  rintro _ _ ⟨rfl, rfl⟩
  simp only [go_sem, Cell.enc, Evn.enc]
  exact ⟨_, rfl⟩
theorem f137_no {c : Cell} (h1 : ¬ (0 < c.ver ∧ c.del = false)) : FnOk Tryz.prog 137 [.agg c.enc] H fun r G => r = .tup [.agg c.enc, .agg [.str [], .int .i64 0, .str [], .bool false], .iface 42 (.int .i64 14)] ∧ G = H := by
  refine FnOk.drop (R := fun r => r = .tup [.agg c.enc, .agg [.str [], .int .i64 0, .str [], .bool false], .iface 42 (.int .i64 14)]) ?_ (by rintro v rfl ρ; simp only [AV.ren, AV.rens, Cell.rens])
  refine FnOk.of_WW Tryz.func137 rfl C137ok R137ok E0 good_E0 ?_
  simp only [go_sem, C137, Cell.enc]
  refine CL.bool (f107_ok c) (fun g => absurd g h1) (fun _ => ?_)
  simp only [go_sem, Cell.enc]
  exact ⟨_, rfl⟩
theorem f108_del {s : Sh} (h : s.ok H) {ke : K} (hev : s.ev = outV ke 4 s.evs.length) (hel : s.evs.length < 9000) (hcl : s.cells.length < 9000) {k : List Nat} (hk : isKey k) (hI : isHist s.evs s.cells) (hm : (getL s.cells k).1.ver < 1000000000000) (hth : 0 < (getL s.cells k).1.ver ∧ (getL s.cells k).1.del = false) :
    FnOk Tryz.prog 108 [.agg s.enc, .str k, .str [], .bool true] H fun r G => r = .tup [.agg (addS s (nextC s.cells k [] true) (nextE s.cells k [] true) (H.key 0) (H.key 1)).enc, .agg (nextC s.cells k [] true).enc, .nili] ∧ G = H.ext (addB s (nextC s.cells k [] true) (nextE s.cells k [] true)) := by
  refine FnOk.dropW ?_
  refine FnOk.of_WW Tryz.func108 rfl C108ok R108ok EG good_EG ?_
  obtain ⟨c1, c2, c3, c4, _⟩ := cell_of hI k
  have hput := hist_put hI hk (v := []) (by decide) (d := true) (fun _ => rfl) hm
  have hw : refW s.cells (nextC s.cells k [] true) = withL s.cells (nextC s.cells k [] true) := refW_eq hI.1 _
  have hwl := withL_len (nextC s.cells k [] true) s.cells
  have hcell : cellIs (nextC s.cells k [] true) := isIdx_all hput.1 _ (getL_mem getL_withL_self).1
  have hA := h.e
  rw [hev] at hA
  obtain ⟨cs, hcs⟩ : ∃ cs, cs = withL s.cells (nextC s.cells k [] true) := ⟨_, rfl⟩
  have i139 := e139 h.c (by omega) hcell
  have i138 := fun b0 b1 b2 b3 b4 b5 => e138 (H := H) (k := ke) (k' := H.key 6) (l := s.evs) (cs := cs) (L := [b0, b1, b2, b3, b4, b5, outB 5 (cs.map Cell.enc)]) (hA.ext _) (arr_outV (i := 6) rfl (List.length_map ..)) (by omega) (by rw [hcs]; omega) (nextE s.cells k [] true)
  have dren := h.d.ren
  unfold addS addB
  rw [hw, ← hcs]
  rw [← hcs] at i139
  simp only [nextC, nextE] at i139 i138
  simp only [go_sem, C108, Sh.enc, hev]
  refine CL.of (f106_ok (h.c.ext _) h.cl k) ?_
  rintro _ _ ⟨rfl, rfl⟩
  simp only [go_sem, Cell.enc]
  refine CL.of (f136_ok (c := (getL s.cells k).1) c2 hm (v := []) (by decide)) ?_
  rintro _ _ ⟨rfl, rfl⟩
  simp only [go_sem, Cell.enc, Evn.enc, c1]
  have h137 := fun G => f137_yes (H := G) (c := (getL s.cells k).1) hth hm
  simp only [Cell.enc, c1] at h137
  refine CL.of (h137 _) ?_
  rintro _ _ ⟨rfl, rfl⟩
  simp only [go_sem, Cell.enc, Evn.enc, i139, i138]
  refine ⟨_, [7, 8], by simp only [nextC, nextE, Sh.enc, Cell.enc, c1, outV_ren', dren, go_sem], rfl, rfl, by decide, by simp only [nextC, nextE, go_sem, ↓outB_ren', Cell.map_rens, Evn.map_rens, implies_true]⟩
theorem f108_none {s : Sh} (h : s.ok H) {k : List Nat} (hk : isKey k) (hm0 : 0 ≤ (getL s.cells k).1.ver) (hm : (getL s.cells k).1.ver < 1000000000000) (hth : ¬ (0 < (getL s.cells k).1.ver ∧ (getL s.cells k).1.del = false)) :
    FnOk Tryz.prog 108 [.agg s.enc, .str k, .str [], .bool true] H fun r G => r = .tup [.agg s.enc, .agg (getL s.cells k).1.enc, .iface 42 (.int .i64 14)] ∧ G = H := by
  refine FnOk.dropOld (R := fun r => r = .tup [.agg s.enc, .agg (getL s.cells k).1.enc, .iface 42 (.int .i64 14)]) ?_ ?_
  · refine FnOk.of_WW Tryz.func108 rfl C108ok R108ok EG good_EG ?_
    simp only [go_sem, C108, Sh.enc]
    refine CL.of (f106_ok (h.c.ext _) h.cl k) ?_
    rintro _ _ ⟨rfl, rfl⟩
    simp only [go_sem, Cell.enc]
    refine CL.of (f136_ok (c := (getL s.cells k).1) hm0 hm (v := []) (by decide)) ?_
    rintro _ _ ⟨rfl, rfl⟩
    simp only [go_sem, Cell.enc, Evn.enc]
    refine CL.of (f137_no (c := (getL s.cells k).1) hth) ?_
    rintro _ _ ⟨rfl, rfl⟩
    simp only [go_sem, Cell.enc, Evn.enc, Sh.enc]
    exact ⟨_, rfl⟩
  · rintro _ rfl top σ
    simp only [AV.ren, AV.rens, h.ren top σ, Cell.rens]
theorem f55_del {s : Sh} (h : s.ok H) {ke : K} (hev : s.ev = outV ke 4 s.evs.length) (hel : s.evs.length < 9000) (hcl : s.cells.length < 9000) {k : List Nat} (hk : isKey k) (hI : isHist s.evs s.cells) (hm : (getL s.cells k).1.ver < 1000000000000) (hth : 0 < (getL s.cells k).1.ver ∧ (getL s.cells k).1.del = false) :
    FnOk Tryz.prog 55 [.agg s.enc, .str k, .str [], .bool true] H fun r G => r = .tup [.agg (addS s (nextC s.cells k [] true) (nextE s.cells k [] true) (H.key 0) (H.key 1)).enc, .agg [.int .i64 0, .str [], .int .i64 ((getL s.cells k).1.ver + 1), .nils]] ∧ G = H.ext (addB s (nextC s.cells k [] true) (nextE s.cells k [] true)) := by
  refine FnOk.dropW ?_
  refine FnOk.of_WW Tryz.func55 rfl C55ok R55ok EG good_EG ?_
  have dren := h.d.ren
  simp only [go_sem, C55, Sh.enc]
  refine CL.of (f108_del (h.ext _) hev hel hcl hk hI hm hth) ?_
  rintro _ _ ⟨rfl, rfl⟩
  simp only [go_sem, Sh.enc, addS, addB, Heap.key_ext, Cell.enc, nextC, nextE, e109]
  exact ⟨_, [3, 4], by simp only [addS, nextC, nextE, Sh.enc, outV_ren', dren, go_sem], rfl, rfl, by decide, by simp only [addB, nextC, nextE, go_sem, ↓outB_ren', Cell.map_rens, Evn.map_rens, implies_true]⟩
noncomputable def EN (f : FuncId) (args : List AV) (H : Heap) : RC :=
  match f with
  | 109 => match args with | [.iface 42 (.int .i64 n)] => .ok (.int .i64 n) H | _ => .fail
  | _ => .fail
theorem good_EN : Ev.Good Tryz.prog EN := by
  intro f args H r G he φ w args' ha hw
  refine (?_ : FnOk Tryz.prog f args H fun v' G' => v' = r ∧ G' = G).one φ w args' ha hw
  unfold EN at he
  split at he
  · split at he
    · cases he; exact f109_ok (some _)
    · cases he
  · cases he
theorem e109n (n : Int) (H : Heap) : EN 109 [.iface 42 (.int .i64 n)] H = .ok (.int .i64 n) H := rfl
theorem f55_none {s : Sh} (h : s.ok H) {k : List Nat} (hk : isKey k) (hm0 : 0 ≤ (getL s.cells k).1.ver) (hm : (getL s.cells k).1.ver < 1000000000000) (hth : ¬ (0 < (getL s.cells k).1.ver ∧ (getL s.cells k).1.del = false)) :
    FnOk Tryz.prog 55 [.agg s.enc, .str k, .str [], .bool true] H fun r G => r = .tup [.agg s.enc, .agg [.int .i64 14, .str [], .int .i64 (getL s.cells k).1.ver, .nils]] ∧ G = H := by
  refine FnOk.dropOld (R := fun r => r = .tup [.agg s.enc, .agg [.int .i64 14, .str [], .int .i64 (getL s.cells k).1.ver, .nils]]) ?_ ?_
  · refine FnOk.of_WW Tryz.func55 rfl C55ok R55ok EN good_EN ?_
    simp only [go_sem, C55, Sh.enc]
    refine CL.of (f108_none (h.ext _) hk hm0 hm hth) ?_
    rintro _ _ ⟨rfl, rfl⟩
    simp only [go_sem, Sh.enc, Cell.enc, e109n]
    exact ⟨_, rfl⟩
  · rintro _ rfl top σ
    simp only [AV.ren, AV.rens, h.ren top σ]
theorem f103_del (k : List Nat) : FnOk Tryz.prog 103 [.agg [.int .i64 3, .str k, .str [], .str [], .int .i64 0, .nils]] H fun r G => r = .bool true ∧ G = H := by
  refine FnOk.drop (R := fun r => r = .bool true) ?_ (by rintro v rfl ρ; rw [AV.ren])
  refine FnOk.of_WW Tryz.func103 rfl C103ok R103ok E0 good_E0 ?_
  simp only [go_sem, C103]
  exact ⟨_, rfl⟩
theorem f53_del {k : List Nat} (hk : isKey k) : FnOk Tryz.prog 53 [.agg [.int .i64 3, .str k, .str [], .str [], .int .i64 0, .nils]] H fun r G => r = .bool true ∧ G = H := by
  refine FnOk.drop (R := fun r => r = .bool true) ?_ (by rintro v rfl ρ; rw [AV.ren])
  refine FnOk.of_WW Tryz.func53 rfl C53ok R53ok E0 good_E0 ?_
  simp only [go_sem, C53]
  refine CL.of (f103_del k) ?_
  rintro _ _ ⟨rfl, rfl⟩
  simp only [go_sem]
  refine CL.bool (f105_ok k) (fun g => ?_) (fun g => absurd hk g)
  simp only [go_sem]
  exact ⟨_, rfl⟩
theorem f21_del {s : Sh} (h : s.ok H) {ke : K} (hev : s.ev = outV ke 4 s.evs.length) (hel : s.evs.length < 9000) (hcl : s.cells.length < 9000) {k : List Nat} (hk : isKey k) (hI : isHist s.evs s.cells) (hm : (getL s.cells k).1.ver < 1000000000000) (hth : 0 < (getL s.cells k).1.ver ∧ (getL s.cells k).1.del = false) :
    FnOk Tryz.prog 21 [.agg s.enc, .agg [.int .i64 3, .str k, .str [], .str [], .int .i64 0, .nils]] H fun r G => r = .tup [.agg (addS s (nextC s.cells k [] true) (nextE s.cells k [] true) (H.key 0) (H.key 1)).enc, .agg [.int .i64 0, .str [], .int .i64 ((getL s.cells k).1.ver + 1), .nils]] ∧ G = H.ext (addB s (nextC s.cells k [] true) (nextE s.cells k [] true)) := by
  refine FnOk.dropW ?_
  refine FnOk.of_WW Tryz.func21 rfl C21ok R21ok E0 good_E0 ?_
  have dren := h.d.ren
  simp only [go_sem, C21, Sh.enc]
  refine CL.of (f53_del hk) ?_
  rintro _ _ ⟨rfl, rfl⟩
  simp only [go_sem]
  refine CL.of (f55_del (h.ext _) hev hel hcl hk hI hm hth) ?_
  rintro _ _ ⟨rfl, rfl⟩
  simp only [go_sem, Sh.enc, addS, addB, Heap.key_ext]
  exact ⟨_, [4, 5], by simp only [addS, nextC, nextE, Sh.enc, outV_ren', dren, go_sem], rfl, rfl, by decide, by simp only [addB, nextC, nextE, go_sem, ↓outB_ren', Cell.map_rens, Evn.map_rens, implies_true]⟩
theorem f21_none {s : Sh} (h : s.ok H) {k : List Nat} (hk : isKey k) (hm0 : 0 ≤ (getL s.cells k).1.ver) (hm : (getL s.cells k).1.ver < 1000000000000) (hth : ¬ (0 < (getL s.cells k).1.ver ∧ (getL s.cells k).1.del = false)) :
    FnOk Tryz.prog 21 [.agg s.enc, .agg [.int .i64 3, .str k, .str [], .str [], .int .i64 0, .nils]] H fun r G => r = .tup [.agg s.enc, .agg [.int .i64 14, .str [], .int .i64 (getL s.cells k).1.ver, .nils]] ∧ G = H := by
  refine FnOk.dropOld (R := fun r => r = .tup [.agg s.enc, .agg [.int .i64 14, .str [], .int .i64 (getL s.cells k).1.ver, .nils]]) ?_ ?_
  · refine FnOk.of_WW Tryz.func21 rfl C21ok R21ok E0 good_E0 ?_
    simp only [go_sem, C21, Sh.enc]
    refine CL.of (f53_del hk) ?_
    rintro _ _ ⟨rfl, rfl⟩
    simp only [go_sem]
    refine CL.of (f55_none (h.ext _) hk hm0 hm hth) ?_
    rintro _ _ ⟨rfl, rfl⟩
    simp only [go_sem, Sh.enc]
    exact ⟨_, rfl⟩
  · rintro _ rfl top σ
    simp only [AV.ren, AV.rens, h.ren top σ]
end Go.Proofs
/- the code's ranges, of a shard of everything: walked. -/

set_option linter.all false
set_option linter.all false
set_option maxRecDepth 100000
namespace Go.Proofs
open Go Go.Ev
variable {H : Heap}

theorem f111_at {v : AV} {l : List Cell} (hA : Arr H 5 v (l.map Cell.enc)) (hl : l.length < 4294967296) (f t : List Nat) (n : Int) :
    FnOk Tryz.prog 111 [v, .agg [.str f, .str t], .int .i64 n] H fun r G => r = outV H.nx 3 (rowsL f t n l).length ∧ G = H.ext [outB 3 ((rowsL f t n l).map Cell.row)] := by
  refine FnOk.dropO (List.length_map ..) (Cell.map_row · _) ?_
  refine (f111_ok hA hl f t n).mono ?_
  rintro v G ⟨rfl, rfl⟩
  refine ⟨_, 0, by rw [Heap.key_zero], rfl, ?_⟩
  cases rowsL f t n l with
  | nil => intro h; exact h.elim
  | cons x xs => intro _; rfl
theorem span_k {k : List Nat} (hk : isKey k) : isSpan k [] := ⟨hk.2, by decide, .inl rfl⟩
theorem f110_all {k : List Nat} (hk : isKey k) : FnOk Tryz.prog 110 [.agg [.str k, .str []], .agg [.str [], .str []]] H fun r G => r = .bool true ∧ G = H := by
  refine FnOk.drop (R := fun r => r = .bool true) ?_ (by rintro v rfl ρ; rw [AV.ren])
  refine FnOk.of_WW Tryz.func110 rfl C110ok R110ok E0 good_E0 ?_
  have z1 := eq_false (not_ltS_nil k)
  simp only [go_sem, C110]
  refine CL.bool (f62_ok k []) (fun _ => ?_) (fun g => absurd (span_k hk) g)
  simp only [go_sem]
  refine CL.bool (f62_ok [] []) (fun _ => ?_) (fun g => absurd k_span g)
  simp only [go_sem, z1]
  exact ⟨_, rfl⟩
theorem f57_ok {s : Sh} (h : s.ok H) (hfr : s.fr = []) (hto : s.to = []) {k : List Nat} (hk : isKey k) :
    FnOk Tryz.prog 57 [.agg s.enc, .agg [.int .i64 5, .str k, .str [], .str [], .int .i64 0, .nils]] H fun r G => r = .agg [.int .i64 0, .str [], .int .i64 0, outV (H.key 0) 3 (rowsL k [] 16 s.cells).length] ∧ G = H.ext [outB 3 ((rowsL k [] 16 s.cells).map Cell.row)] := by
  refine FnOk.dropW ?_
  refine FnOk.of_WW Tryz.func57 rfl C57ok R57ok E0 good_E0 ?_
  simp only [go_sem, C57, Sh.enc, hfr, hto]
  refine CL.of (f110_all hk) ?_
  rintro _ _ ⟨rfl, rfl⟩
  simp only [go_sem]
  refine CL.of (f111_at (h.c.ext _) h.cl k [] 16) ?_
  rintro _ _ ⟨rfl, rfl⟩
  simp only [go_sem, Heap.nx_ext]
  exact ⟨_, [4], by simp only [outV_ren', go_sem], rfl, rfl, by decide, by simp only [go_sem, ↓outB_ren', Cell.map_row, implies_true]⟩
def A57 (H : Heap) (args : List AV) (q : Sh × List Nat) : Prop := args = [.agg q.1.enc, .agg [.int .i64 5, .str q.2, .str [], .str [], .int .i64 0, .nils]] ∧ q.1.ok H ∧ q.1.fr = [] ∧ q.1.to = [] ∧ isKey q.2
noncomputable def EX (f : FuncId) (args : List AV) (H : Heap) : RC :=
  match f with
  | 57 => ot (A57 H args) fun q => .ok (.agg [.int .i64 0, .str [], .int .i64 0, outV (H.key 0) 3 (rowsL q.2 [] 16 q.1.cells).length]) (H.ext [outB 3 ((rowsL q.2 [] 16 q.1.cells).map Cell.row)])
  | _ => .fail
theorem good_EX : Ev.Good Tryz.prog EX := by
  intro f args H r G he φ w args' ha hw
  refine (?_ : FnOk Tryz.prog f args H fun v' G' => v' = r ∧ G' = G).one φ w args' ha hw
  unfold EX at he
  split at he
  · obtain ⟨q, ⟨rfl, h1, h2, h3, h4⟩, hz⟩ := ot_ok he
    clear he
    cases hz
    exact f57_ok h1 h2 h3 h4
  · cases he
theorem e57 {s : Sh} (h : s.ok H) (hfr : s.fr = []) (hto : s.to = []) {k : List Nat} (hk : isKey k) (L : List Blk) : EX 57 [.agg [.int .i64 s.id, .int .i64 s.ep, .str s.fr, .str s.to, .bool s.frz, s.cv, s.ev, s.dv], .agg [.int .i64 5, .str k, .str [], .str [], .int .i64 0, .nils]] (H.ext L) = .ok (.agg [.int .i64 0, .str [], .int .i64 0, outV (H.key L.length) 3 (rowsL k [] 16 s.cells).length]) (H.ext (L ++ [outB 3 ((rowsL k [] 16 s.cells).map Cell.row)])) := by
  show ot (A57 (H.ext L) [.agg s.enc, .agg [.int .i64 5, .str k, .str [], .str [], .int .i64 0, .nils]]) (fun q => .ok (.agg [.int .i64 0, .str [], .int .i64 0, outV ((H.ext L).key 0) 3 (rowsL q.2 [] 16 q.1.cells).length]) ((H.ext L).ext [outB 3 ((rowsL q.2 [] 16 q.1.cells).map Cell.row)])) = _
  rw [ot_eq (p := A57 (H.ext L) [.agg s.enc, .agg [.int .i64 5, .str k, .str [], .str [], .int .i64 0, .nils]]) (x := (s, k)) ⟨rfl, h.ext L, hfr, hto, hk⟩, Heap.key_ext, Heap.ext_append]
  · rfl
  rintro ⟨s', k'⟩ ⟨h1, h2, _⟩
  injection h1 with h1 h3
  injection h3 with h3 _
  injection h1 with h1
  injection h3 with h3
  injection h3 with _ h3
  injection h3 with h3 _
  injection h3 with h3
  dsimp only at h1 h2 h3
  rw [Sh.uniq h1 (h.ext L) h2, h3]
theorem f103_range (k : List Nat) : FnOk Tryz.prog 103 [.agg [.int .i64 5, .str k, .str [], .str [], .int .i64 0, .nils]] H fun r G => r = .bool true ∧ G = H := by
  refine FnOk.drop (R := fun r => r = .bool true) ?_ (by rintro v rfl ρ; rw [AV.ren])
  refine FnOk.of_WW Tryz.func103 rfl C103ok R103ok E0 good_E0 ?_
  simp only [go_sem, C103]
  exact ⟨_, rfl⟩
theorem f53_range {k : List Nat} (hk : isKey k) : FnOk Tryz.prog 53 [.agg [.int .i64 5, .str k, .str [], .str [], .int .i64 0, .nils]] H fun r G => r = .bool true ∧ G = H := by
  refine FnOk.drop (R := fun r => r = .bool true) ?_ (by rintro v rfl ρ; rw [AV.ren])
  refine FnOk.of_WW Tryz.func53 rfl C53ok R53ok E0 good_E0 ?_
  simp only [go_sem, C53]
  refine CL.of (f103_range k) ?_
  rintro _ _ ⟨rfl, rfl⟩
  simp only [go_sem]
  refine CL.bool (f105_ok k) (fun g => ?_) (fun g => absurd hk g)
  simp only [go_sem]
  refine CL.bool (f62_ok k []) (fun _ => ?_) (fun g => absurd (span_k hk) g)
  simp only [go_sem]
  exact ⟨_, rfl⟩
theorem f21_range {s : Sh} (h : s.ok H) (hfr : s.fr = []) (hto : s.to = []) {k : List Nat} (hk : isKey k) :
    FnOk Tryz.prog 21 [.agg s.enc, .agg [.int .i64 5, .str k, .str [], .str [], .int .i64 0, .nils]] H fun r G => r = .tup [.agg s.enc, .agg [.int .i64 0, .str [], .int .i64 0, outV (H.key 0) 3 (rowsL k [] 16 s.cells).length]] ∧ G = H.ext [outB 3 ((rowsL k [] 16 s.cells).map Cell.row)] := by
  refine FnOk.dropW ?_
  refine FnOk.of_WW Tryz.func21 rfl C21ok R21ok EX good_EX ?_
  have i57 := e57 h hfr hto hk
  have cren := h.c.ren
  have eren := h.e.ren
  have dren := h.d.ren
  simp only [hfr, hto] at i57
  simp only [go_sem, C21, Sh.enc, hfr, hto]
  refine CL.of (f53_range hk) ?_
  rintro _ _ ⟨rfl, rfl⟩
  simp only [go_sem, Sh.enc, i57]
  exact ⟨_, [4], by simp only [outV_ren', cren, eren, dren, go_sem], rfl, rfl, by decide, by simp only [go_sem, ↓outB_ren', Cell.map_row, implies_true]⟩
end Go.Proofs
