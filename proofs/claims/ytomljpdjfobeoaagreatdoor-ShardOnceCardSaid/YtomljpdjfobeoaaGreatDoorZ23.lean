/- The laid-out code of the functions that are walked. Printed by a program. -/
import Derived.Test.YtomljpdjfobeoaaGreatDoorZ22
import Derived.Test.YtomljpdjfobeoaaGreatDoorProg
import Derived.KernelRfl
set_option linter.all false
set_option maxRecDepth 100000
namespace Go.Proofs
open Go Go.Ev K
noncomputable def C100L0 : CC :=
  (.seq (.region [.mk (binR Tryz.prog EK.no .none false BinOp.lss (X.t (o (i (i z)))) (X.t (i (o (i z))))) (.some (i (i (i z)))) Gd.no []])
  (.seq (.cond (X.t (i (i (i z))))
  .skip
  (.exit 0))
  (.seq (.block 1 (.seq (.region [.mk (mvR (X.t (o (i (i z))))) (.some (o (o (o (o z))))) Gd.no [],
   .mk (mvR (X.t (o (o (o (o z)))))) (.some (o (i z))) Gd.no []])
  (.seq (.regionD [.mk (keepH (mvR (X.t (o (i z))))) (.some (o (i (i (o z))))) Gd.no [],
   .mk (keepH (mvR (X.t (o z)))) (.some (i (o (i (o z))))) Gd.no [],
   .mk (keepH (iaS 5 (X.t (i (o (i (o z))))) (X.t (o (i (i (o z))))))) (.some (i (i (i (o z))))) Gd.no [],
   .mk (keepH (ldR true 5 (X.t (i (i (i (o z))))))) (.some (o (o (o (i z))))) Gd.no [],
   .mk (keepH (mvR (X.t (o (i z))))) (.some (o (i (o (o z))))) Gd.no [],
   .mk (keepH (mvR (X.t z))) (.some (i (o (o (o z))))) Gd.no [],
   .mk (keepH (iaS 5 (X.t (i (o (o (o z))))) (X.t (o (i (o (o z))))))) (.some (i (i (o (o z))))) Gd.no [],
   .mk (keepH (ldR true 5 (X.t (i (i (o (o z))))))) (.some (o (o (i (o z))))) Gd.no [],
   .mk (keepH (binR Tryz.prog EK.no (.some [LK.str, LK.str, LK.int, LK.bool, LK.int]) false BinOp.neq (X.t (o (o (i (o z))))) (X.t (o (o (o (i z))))))) (.some (i (o (o (i z))))) Gd.no []])
  (.cond (X.t (i (o (o (i z)))))
  (.seq (.region [.mk (mvR (X.c (AV.bool false))) (.some (i (o z))) Gd.no []])
  .ret)
  .skip))))
  (.region [.mk (binR Tryz.prog EK.no .none true BinOp.add (X.t (o (i (i z)))) (X.c (AV.int .i64 1))) (.some (o (i (o (i z))))) Gd.no [],
   .mk (mvR (X.t (o (i (o (i z)))))) (.some (o (i (i z)))) Gd.no []]))))
noncomputable def C100 : CC :=
  (.seq (.region [.mk (mvR (X.c (AV.bool false))) (.some (i (o z))) Gd.no []])
  (.seq (.seq (.region [.mk (mvR (X.t z)) (.some (i (i z))) Gd.no [],
   .mk (lenR LnK.slice (X.t (i (i z)))) (.some (o (o (o z)))) Gd.no [],
   .mk (mvR (X.t (o z))) (.some (i (o (o z)))) Gd.no [],
   .mk (lenR LnK.slice (X.t (i (o (o z))))) (.some (o (i (o z)))) Gd.no [],
   .mk (binR Tryz.prog EK.no .none false BinOp.neq (X.t (o (o (o z)))) (X.t (o (i (o z))))) (.some (i (i (o z)))) Gd.no []])
  (.cond (X.t (i (i (o z))))
  (.seq (.region [.mk (mvR (X.c (AV.bool false))) (.some (i (o z))) Gd.no []])
  .ret)
  .skip))
  (.seq (.seq (.region [.mk (mvR (X.t z)) (.some (o (o (i z)))) Gd.no [],
   .mk (lenR LnK.slice (X.t (o (o (i z))))) (.some (i (o (i z)))) Gd.no [],
   .mk (mvR (X.c (AV.int .i64 0))) (.some (o (i (i z)))) Gd.no []])
  (.block 0 (.loop C100L0)))
  (.seq (.region [.mk (mvR (X.c (AV.bool true))) (.some (i (o z))) Gd.no []])
  .ret))))
theorem C100ok : (match Tryz.f100.body with | some c => comp Tryz.prog 26 c | none => none) = some C100 := by kernel_rfl
@[go_sem] theorem call100 (args : List AV) (H : Heap) : callC Tryz.prog 100 args H = .call 100 args := callC_ok (by kernel_rfl) args H
theorem R100ok : resKs Tryz.prog Tryz.f100.results.toList = some [(RK.tmp (i (o z)))] := by kernel_rfl

noncomputable def C101L0 : CC :=
  (.seq (.region [.mk (binR Tryz.prog EK.no .none false BinOp.lss (X.t (o (i (i z)))) (X.t (i (o (i z))))) (.some (i (i (i z)))) Gd.no []])
  (.seq (.cond (X.t (i (i (i z))))
  .skip
  (.exit 0))
  (.seq (.block 1 (.seq (.region [.mk (mvR (X.t (o (i (i z))))) (.some (o (o (o (o z))))) Gd.no [],
   .mk (mvR (X.t (o (o (o (o z)))))) (.some (o (i z))) Gd.no []])
  (.seq (.regionD [.mk (keepH (mvR (X.t (o (i z))))) (.some (o (i (i (o z))))) Gd.no [],
   .mk (keepH (mvR (X.t (o z)))) (.some (i (o (i (o z))))) Gd.no [],
   .mk (keepH (iaS 4 (X.t (i (o (i (o z))))) (X.t (o (i (i (o z))))))) (.some (i (i (i (o z))))) Gd.no [],
   .mk (keepH (ldR true 4 (X.t (i (i (i (o z))))))) (.some (o (o (o (i z))))) Gd.no [],
   .mk (keepH (mvR (X.t (o (i z))))) (.some (o (i (o (o z))))) Gd.no [],
   .mk (keepH (mvR (X.t z))) (.some (i (o (o (o z))))) Gd.no [],
   .mk (keepH (iaS 4 (X.t (i (o (o (o z))))) (X.t (o (i (o (o z))))))) (.some (i (i (o (o z))))) Gd.no [],
   .mk (keepH (ldR true 4 (X.t (i (i (o (o z))))))) (.some (o (o (i (o z))))) Gd.no [],
   .mk (keepH (binR Tryz.prog EK.no (.some [LK.str, LK.int, LK.str, LK.bool]) false BinOp.neq (X.t (o (o (i (o z))))) (X.t (o (o (o (i z))))))) (.some (i (o (o (i z))))) Gd.no []])
  (.cond (X.t (i (o (o (i z)))))
  (.seq (.region [.mk (mvR (X.c (AV.bool false))) (.some (i (o z))) Gd.no []])
  .ret)
  .skip))))
  (.region [.mk (binR Tryz.prog EK.no .none true BinOp.add (X.t (o (i (i z)))) (X.c (AV.int .i64 1))) (.some (o (i (o (i z))))) Gd.no [],
   .mk (mvR (X.t (o (i (o (i z)))))) (.some (o (i (i z)))) Gd.no []]))))
noncomputable def C101 : CC :=
  (.seq (.region [.mk (mvR (X.c (AV.bool false))) (.some (i (o z))) Gd.no []])
  (.seq (.seq (.region [.mk (mvR (X.t z)) (.some (i (i z))) Gd.no [],
   .mk (lenR LnK.slice (X.t (i (i z)))) (.some (o (o (o z)))) Gd.no [],
   .mk (mvR (X.t (o z))) (.some (i (o (o z)))) Gd.no [],
   .mk (lenR LnK.slice (X.t (i (o (o z))))) (.some (o (i (o z)))) Gd.no [],
   .mk (binR Tryz.prog EK.no .none false BinOp.neq (X.t (o (o (o z)))) (X.t (o (i (o z))))) (.some (i (i (o z)))) Gd.no []])
  (.cond (X.t (i (i (o z))))
  (.seq (.region [.mk (mvR (X.c (AV.bool false))) (.some (i (o z))) Gd.no []])
  .ret)
  .skip))
  (.seq (.seq (.region [.mk (mvR (X.t z)) (.some (o (o (i z)))) Gd.no [],
   .mk (lenR LnK.slice (X.t (o (o (i z))))) (.some (i (o (i z)))) Gd.no [],
   .mk (mvR (X.c (AV.int .i64 0))) (.some (o (i (i z)))) Gd.no []])
  (.block 0 (.loop C101L0)))
  (.seq (.region [.mk (mvR (X.c (AV.bool true))) (.some (i (o z))) Gd.no []])
  .ret))))
theorem C101ok : (match Tryz.f101.body with | some c => comp Tryz.prog 26 c | none => none) = some C101 := by kernel_rfl
@[go_sem] theorem call101 (args : List AV) (H : Heap) : callC Tryz.prog 101 args H = .call 101 args := callC_ok (by kernel_rfl) args H
theorem R101ok : resKs Tryz.prog Tryz.f101.results.toList = some [(RK.tmp (i (o z)))] := by kernel_rfl

noncomputable def C102L0 : CC :=
  (.seq (.region [.mk (binR Tryz.prog EK.no .none false BinOp.lss (X.t (o (i (o (o z))))) (X.t (i (o (o (o z)))))) (.some (i (i (o (o z))))) Gd.no []])
  (.seq (.cond (X.t (i (i (o (o z)))))
  .skip
  (.exit 0))
  (.seq (.block 1 (.seq (.region [.mk (mvR (X.t (o (i (o (o z)))))) (.some (o (o (i (o z))))) Gd.no [],
   .mk (iaS 6 (X.t (o (o (o (o z))))) (X.t (o (i (o (o z)))))) (.some (i (o (i (o z))))) Gd.no [],
   .mk (ldR true 6 (X.t (i (o (i (o z)))))) (.some (o (i (i (o z))))) Gd.no [],
   .mk (fun _ H => newC false [(AV.int .i64 0), (AV.int .i64 0), (AV.int .i64 0), (AV.str []), (AV.int .i64 0), AV.nils] H) (.some (i (o (o z)))) Gd.no [],
   .mk (mvR (X.t (o (o (i (o z)))))) (.some (o (o (o z)))) Gd.no [],
   .mk (stR 6 (X.t (i (o (o z)))) (X.t (o (i (i (o z)))))) .none Gd.no []])
  (.seq (.region [.mk (mvR (X.t (o z))) (.some (i (i (i (o z))))) Gd.no [],
   .mk (mvR (X.t (o (o (o z))))) (.some (o (o (o (i z))))) Gd.no [],
   .mk (iaS 6 (X.t (i (i (i (o z))))) (X.t (o (o (o (i z)))))) (.some (i (o (o (i z))))) Gd.no [],
   .mk (ldR true 6 (X.t (i (o (o (i z)))))) (.some (o (i (o (i z))))) Gd.no [],
   .mk (fun _ H => newC false [(AV.int .i64 0), (AV.int .i64 0), (AV.int .i64 0), (AV.str []), (AV.int .i64 0), AV.nils] H) (.some (o (i (o z)))) Gd.no [],
   .mk (stR 6 (X.t (o (i (o z)))) (X.t (o (i (o (i z)))))) .none Gd.no []])
  (.seq (.region [.mk (mvR (X.t (i z))) (.some (i (i (o (i z))))) Gd.no [],
   .mk (ldR true 6 (X.t (i (o (o z))))) (.some (o (o (i (i z))))) Gd.no [],
   .mk (ldR true 6 (X.t (o (i (o z))))) (.some (i (o (i (i z))))) Gd.no [],
   .mk (callX Tryz.prog (X.t (i (i (o (i z))))) [(X.t (o (o (i (i z))))), (X.t (i (o (i (i z)))))]) (.some (o (i (i (i z))))) Gd.no [],
   .mk (unR UnOp.not (X.t (o (i (i (i z)))))) (.some (i (i (i (i z))))) Gd.no []])
  (.cond (X.t (i (i (i (i z)))))
  (.seq (.region [.mk (mvR (X.c (AV.bool false))) (.some (i (i z))) Gd.no []])
  .ret)
  .skip)))))
  (.region [.mk (binR Tryz.prog EK.no .none true BinOp.add (X.t (o (i (o (o z))))) (X.c (AV.int .i64 1))) (.some (o (o (o (o (o z)))))) Gd.no [],
   .mk (mvR (X.t (o (o (o (o (o z))))))) (.some (o (i (o (o z))))) Gd.no []]))))
noncomputable def C102 : CC :=
  (.seq (.region [.mk (mvR (X.c (AV.bool false))) (.some (i (i z))) Gd.no []])
  (.seq (.seq (.region [.mk (mvR (X.t z)) (.some (i (i (o z)))) Gd.no [],
   .mk (lenR LnK.slice (X.t (i (i (o z))))) (.some (o (o (i z)))) Gd.no [],
   .mk (mvR (X.t (o z))) (.some (i (o (i z)))) Gd.no [],
   .mk (lenR LnK.slice (X.t (i (o (i z))))) (.some (o (i (i z)))) Gd.no [],
   .mk (binR Tryz.prog EK.no .none false BinOp.neq (X.t (o (o (i z)))) (X.t (o (i (i z))))) (.some (i (i (i z)))) Gd.no []])
  (.cond (X.t (i (i (i z))))
  (.seq (.region [.mk (mvR (X.c (AV.bool false))) (.some (i (i z))) Gd.no []])
  .ret)
  .skip))
  (.seq (.seq (.region [.mk (mvR (X.t z)) (.some (o (o (o (o z))))) Gd.no [],
   .mk (lenR LnK.slice (X.t (o (o (o (o z)))))) (.some (i (o (o (o z))))) Gd.no [],
   .mk (mvR (X.c (AV.int .i64 0))) (.some (o (i (o (o z))))) Gd.no []])
  (.block 0 (.loop C102L0)))
  (.seq (.region [.mk (mvR (X.c (AV.bool true))) (.some (i (i z))) Gd.no []])
  .ret))))
theorem C102ok : (match Tryz.f102.body with | some c => comp Tryz.prog 32 c | none => none) = some C102 := by kernel_rfl
@[go_sem] theorem call102 (args : List AV) (H : Heap) : callC Tryz.prog 102 args H = .call 102 args := callC_ok (by kernel_rfl) args H
theorem R102ok : resKs Tryz.prog Tryz.f102.results.toList = some [(RK.tmp (i (i z)))] := by kernel_rfl

noncomputable def C103 : CC :=
  (.seq (.region [.mk (boxR false (X.t z)) (.some (o z)) Gd.no [],
   .mk (mvR (X.c (AV.bool false))) (.some (i z)) Gd.no []])
  (.seq (.block 0 (.seq (.block 4 (.block 3 (.block 2 (.block 1 (.seq (.seq (.seq (.region [.mk (faR 0 (X.t (o z))) (.some (i (o z))) Gd.no [],
   .mk (ldR false 1 (X.t (i (o z)))) (.some (o (i z))) Gd.no [],
   .mk (binR Tryz.prog EK.no .none true BinOp.neq (X.t (o (i z))) (X.c (AV.int .i64 5))) (.some (i (i z))) Gd.no [],
   .mk (mvR (X.t (i (i z)))) (.some (o (o (o z)))) Gd.no [],
   .mk (faR 2 (X.t (o z))) (.some (i (o (o z)))) (Gd.on (o (o (o z))) true) [],
   .mk (ldR false 1 (X.t (i (o (o z))))) (.some (o (i (o z)))) (Gd.on (o (o (o z))) true) [],
   .mk (binR Tryz.prog EK.no .none true BinOp.neq (X.t (o (i (o z)))) (X.c (AV.str []))) (.some (i (i (o z)))) (Gd.on (o (o (o z))) true) [],
   .mk (pickR (X.t (o (o (o z)))) (X.t (i (i (o z)))) (X.c (AV.bool false))) (.some (o (o (i z)))) Gd.no [],
   .mk (mvR (X.t (o (o (i z))))) (.some (o (o z))) Gd.no []])
  (.cond (X.t (o (o z)))
  (.exit 1)
  .skip))
  (.seq (.seq (.region [.mk (faR 0 (X.t (o z))) (.some (o (i (i z)))) Gd.no [],
   .mk (ldR false 1 (X.t (o (i (i z))))) (.some (i (i (i z)))) Gd.no [],
   .mk (binR Tryz.prog EK.no .none true BinOp.neq (X.t (i (i (i z)))) (X.c (AV.int .i64 2))) (.some (o (o (o (o z))))) Gd.no [],
   .mk (mvR (X.t (o (o (o (o z)))))) (.some (i (o (o (o z))))) Gd.no [],
   .mk (faR 0 (X.t (o z))) (.some (o (i (o (o z))))) (Gd.on (i (o (o (o z)))) true) [],
   .mk (ldR false 1 (X.t (o (i (o (o z)))))) (.some (i (i (o (o z))))) (Gd.on (i (o (o (o z)))) true) [],
   .mk (binR Tryz.prog EK.no .none true BinOp.neq (X.t (i (i (o (o z))))) (X.c (AV.int .i64 4))) (.some (o (o (i (o z))))) (Gd.on (i (o (o (o z)))) true) [],
   .mk (pickR (X.t (i (o (o (o z))))) (X.t (o (o (i (o z))))) (X.c (AV.bool false))) (.some (i (o (i (o z))))) Gd.no [],
   .mk (mvR (X.t (i (o (i (o z)))))) (.some (o (i (i (o z))))) Gd.no [],
   .mk (faR 3 (X.t (o z))) (.some (i (i (i (o z))))) (Gd.on (o (i (i (o z)))) true) [],
   .mk (ldR false 1 (X.t (i (i (i (o z)))))) (.some (o (o (o (i z))))) (Gd.on (o (i (i (o z)))) true) [],
   .mk (binR Tryz.prog EK.no .none true BinOp.neq (X.t (o (o (o (i z))))) (X.c (AV.str []))) (.some (i (o (o (i z))))) (Gd.on (o (i (i (o z)))) true) [],
   .mk (pickR (X.t (o (i (i (o z))))) (X.t (i (o (o (i z))))) (X.c (AV.bool false))) (.some (o (i (o (i z))))) Gd.no [],
   .mk (mvR (X.t (o (i (o (i z)))))) (.some (i (o (i z)))) Gd.no []])
  (.cond (X.t (i (o (i z))))
  (.exit 2)
  .skip))
  (.seq (.seq (.region [.mk (faR 0 (X.t (o z))) (.some (o (o (i (i z))))) Gd.no [],
   .mk (ldR false 1 (X.t (o (o (i (i z)))))) (.some (i (o (i (i z))))) Gd.no [],
   .mk (binR Tryz.prog EK.no .none true BinOp.neq (X.t (i (o (i (i z))))) (X.c (AV.int .i64 4))) (.some (o (i (i (i z))))) Gd.no [],
   .mk (mvR (X.t (o (i (i (i z)))))) (.some (i (i (i (i z))))) Gd.no [],
   .mk (faR 0 (X.t (o z))) (.some (o (o (o (o (o z)))))) (Gd.on (i (i (i (i z)))) true) [],
   .mk (ldR false 1 (X.t (o (o (o (o (o z))))))) (.some (i (o (o (o (o z)))))) (Gd.on (i (i (i (i z)))) true) [],
   .mk (binR Tryz.prog EK.no .none true BinOp.neq (X.t (i (o (o (o (o z)))))) (X.c (AV.int .i64 7))) (.some (o (i (o (o (o z)))))) (Gd.on (i (i (i (i z)))) true) [],
   .mk (pickR (X.t (i (i (i (i z))))) (X.t (o (i (o (o (o z)))))) (X.c (AV.bool false))) (.some (i (i (o (o (o z)))))) Gd.no [],
   .mk (mvR (X.t (i (i (o (o (o z))))))) (.some (o (o (i (o (o z)))))) Gd.no [],
   .mk (faR 4 (X.t (o z))) (.some (i (o (i (o (o z)))))) (Gd.on (o (o (i (o (o z))))) true) [],
   .mk (ldR false 1 (X.t (i (o (i (o (o z))))))) (.some (o (i (i (o (o z)))))) (Gd.on (o (o (i (o (o z))))) true) [],
   .mk (binR Tryz.prog EK.no .none true BinOp.neq (X.t (o (i (i (o (o z)))))) (X.c (AV.int .i64 0))) (.some (i (i (i (o (o z)))))) (Gd.on (o (o (i (o (o z))))) true) [],
   .mk (pickR (X.t (o (o (i (o (o z)))))) (X.t (i (i (i (o (o z)))))) (X.c (AV.bool false))) (.some (o (o (o (i (o z)))))) Gd.no [],
   .mk (mvR (X.t (o (o (o (i (o z))))))) (.some (i (i (o (i z))))) Gd.no []])
  (.cond (X.t (i (i (o (i z)))))
  (.exit 3)
  .skip))
  (.seq (.region [.mk (faR 0 (X.t (o z))) (.some (o (i (o (i (o z)))))) Gd.no [],
   .mk (ldR false 1 (X.t (o (i (o (i (o z))))))) (.some (i (i (o (i (o z)))))) Gd.no [],
   .mk (binR Tryz.prog EK.no .none true BinOp.neq (X.t (i (i (o (i (o z)))))) (X.c (AV.int .i64 6))) (.some (o (o (i (i (o z)))))) Gd.no [],
   .mk (mvR (X.t (o (o (i (i (o z))))))) (.some (i (o (i (i (o z)))))) Gd.no [],
   .mk (faR 5 (X.t (o z))) (.some (o (i (i (i (o z)))))) (Gd.on (i (o (i (i (o z))))) true) [],
   .mk (ldR false 1 (X.t (o (i (i (i (o z))))))) (.some (i (i (i (i (o z)))))) (Gd.on (i (o (i (i (o z))))) true) [],
   .mk (lenR LnK.slice (X.t (i (i (i (i (o z))))))) (.some (o (o (o (o (i z)))))) (Gd.on (i (o (i (i (o z))))) true) [],
   .mk (binR Tryz.prog EK.no .none true BinOp.gtr (X.t (o (o (o (o (i z)))))) (X.c (AV.int .i64 0))) (.some (i (o (o (o (i z)))))) (Gd.on (i (o (i (i (o z))))) true) [],
   .mk (pickR (X.t (i (o (i (i (o z)))))) (X.t (i (o (o (o (i z)))))) (X.c (AV.bool false))) (.some (o (i (o (o (i z)))))) Gd.no [],
   .mk (mvR (X.t (o (i (o (o (i z))))))) (.some (i (o (o (i (o z)))))) Gd.no []])
  (.cond (X.t (i (o (o (i (o z))))))
  (.exit 4)
  .skip)))))
  (.exit 0))))))
  (.seq (.seq (.region [.mk (mvR (X.c (AV.bool false))) (.some (i z)) Gd.no []])
  .ret)
  (.exit 0))))
  (.seq (.region [.mk (mvR (X.c (AV.bool true))) (.some (i z)) Gd.no []])
  .ret)))
theorem C103ok : (match Tryz.f103.body with | some c => comp Tryz.prog 50 c | none => none) = some C103 := by kernel_rfl
@[go_sem] theorem call103 (args : List AV) (H : Heap) : callC Tryz.prog 103 args H = .call 103 args := callC_ok (by kernel_rfl) args H
theorem R103ok : resKs Tryz.prog Tryz.f103.results.toList = some [(RK.tmp (i z))] := by kernel_rfl

@[go_sem] theorem call104 (args : List AV) (H : Heap) : callC Tryz.prog 104 args H = .call 104 args := callC_ok (by kernel_rfl) args H
noncomputable def C108 : CC :=
  (.seq (.region [.mk (boxR false (X.t z)) (.some (i (o z))) Gd.no [],
   .mk (fun _ H => newC false [(AV.int .i64 0), (AV.int .i64 0), (AV.str []), (AV.str []), (AV.bool false), AV.nils, AV.nils, AV.nils] H) (.some (i (o (o z)))) Gd.no [],
   .mk (fun _ H => newC false [(AV.str []), (AV.str []), (AV.int .i64 0), (AV.bool false), (AV.int .i64 0)] H) (.some (o (i (o z)))) Gd.no [],
   .mk (mvR (X.c AV.nili)) (.some (i (i (o z)))) Gd.no []])
  (.seq (.region [.mk (faR 5 (X.t (i (o z)))) (.some (o (i (o (o z))))) Gd.no [],
   .mk (ldR false 1 (X.t (o (i (o (o z)))))) (.some (i (i (o (o z))))) Gd.no [],
   .mk (mvR (X.t (o z))) (.some (o (o (i (o z))))) Gd.no [],
   .mk (callS Tryz.prog 106 [(X.t (i (i (o (o z))))), (X.t (o (o (i (o z)))))]) (.some (i (o (i (o z))))) Gd.no [],
   .mk (mvR (X.t (i (o (i (o z)))))) (.some (i (o (o (o z))))) Gd.no [],
   .mk (extR (X.t (i (o (o (o z))))) 0) (.some (o (i (i (o z))))) Gd.no [],
   .mk (extR (X.t (i (o (o (o z))))) 1) (.some (i (i (i (o z))))) Gd.no [],
   .mk (fun _ H => newC false [(AV.str []), (AV.str []), (AV.int .i64 0), (AV.bool false), (AV.int .i64 0)] H) (.some (o (o (i z)))) Gd.no [],
   .mk (stR 5 (X.t (o (o (i z)))) (X.t (o (i (i (o z)))))) .none Gd.no [],
   .mk (mvR (X.t (i (i (i (o z)))))) (.some (i (o (i z)))) Gd.no []])
  (.seq (.region [.mk (ldR true 5 (X.t (o (o (i z))))) (.some (i (o (o (i z))))) Gd.no [],
   .mk (mvR (X.t (i z))) (.some (o (i (o (i z))))) Gd.no [],
   .mk (callS Tryz.prog 136 [(X.t (i (o (o (i z))))), (X.t (o (i (o (i z)))))]) (.some (i (i (o (i z))))) Gd.no [],
   .mk (mvR (X.t (i (i (o (i z)))))) (.some (o (o (o (i z))))) Gd.no [],
   .mk (extR (X.t (o (o (o (i z))))) 0) (.some (o (o (i (i z))))) Gd.no [],
   .mk (extR (X.t (o (o (o (i z))))) 1) (.some (i (o (i (i z))))) Gd.no [],
   .mk (extR (X.t (o (o (o (i z))))) 2) (.some (o (i (i (i z))))) Gd.no [],
   .mk (fun _ H => newC false [(AV.str []), (AV.str []), (AV.int .i64 0), (AV.bool false), (AV.int .i64 0)] H) (.some (o (i (i z)))) Gd.no [],
   .mk (fun _ H => newC false [(AV.str []), (AV.int .i64 0), (AV.str []), (AV.bool false)] H) (.some (i (i (i z)))) Gd.no [],
   .mk (stR 5 (X.t (o (i (i z)))) (X.t (o (o (i (i z)))))) .none Gd.no [],
   .mk (stR 4 (X.t (i (i (i z)))) (X.t (i (o (i (i z)))))) .none Gd.no [],
   .mk (mvR (X.t (o (i (i (i z)))))) (.some (o (o (o (o z))))) Gd.no []])
  (.seq (.seq (.region [.mk (mvR (X.t (o (o z)))) (.some (i (i (i (i z))))) Gd.no []])
  (.cond (X.t (i (i (i (i z)))))
  (.region [.mk (ldR true 5 (X.t (o (o (i z))))) (.some (i (o (o (o (o z)))))) Gd.no [],
   .mk (callS Tryz.prog 137 [(X.t (i (o (o (o (o z))))))]) (.some (o (i (o (o (o z)))))) Gd.no [],
   .mk (mvR (X.t (o (i (o (o (o z))))))) (.some (o (o (o (o (o z)))))) Gd.no [],
   .mk (extR (X.t (o (o (o (o (o z)))))) 0) (.some (i (i (o (o (o z)))))) Gd.no [],
   .mk (extR (X.t (o (o (o (o (o z)))))) 1) (.some (o (o (i (o (o z)))))) Gd.no [],
   .mk (extR (X.t (o (o (o (o (o z)))))) 2) (.some (i (o (i (o (o z)))))) Gd.no [],
   .mk (stR 5 (X.t (o (i (i z)))) (X.t (i (i (o (o (o z))))))) .none Gd.no [],
   .mk (stR 4 (X.t (i (i (i z)))) (X.t (o (o (i (o (o z))))))) .none Gd.no [],
   .mk (mvR (X.t (i (o (i (o (o z))))))) (.some (o (o (o (o z))))) Gd.no []])
  .skip))
  (.seq (.seq (.region [.mk (mvR (X.t (o (o (o (o z)))))) (.some (o (i (i (o (o z)))))) Gd.no [],
   .mk (binR Tryz.prog EK.iface .none true BinOp.neq (X.t (o (i (i (o (o z)))))) (X.c AV.nili)) (.some (i (i (i (o (o z)))))) Gd.no []])
  (.cond (X.t (i (i (i (o (o z))))))
  (.seq (.regionD [.mk (keepH (mvR (X.t (o (o (o (o z))))))) (.some (o (i (o (i (o z)))))) Gd.no [],
   .mk (keepH (ldR true 5 (X.t (o (o (i z)))))) (.some (i (o (o (i (o z)))))) Gd.no [],
   .mk (keepH (ldR true 8 (X.t (i (o z))))) (.some (o (o (o (i (o z)))))) Gd.no [],
   .mk (stR 8 (X.t (i (o (o z)))) (X.t (o (o (o (i (o z))))))) .none Gd.no [.mk (ldR true 5 (X.t (o (o (i z))))) (.some (i (o (o (i (o z)))))) Gd.no, .mk (mvR (X.t (o (o (o (o z)))))) (.some (o (i (o (i (o z)))))) Gd.no],
   .mk (stR 5 (X.t (o (i (o z)))) (X.t (i (o (o (i (o z))))))) .none Gd.no [.mk (mvR (X.t (o (o (o (o z)))))) (.some (o (i (o (i (o z)))))) Gd.no],
   .mk (mvR (X.t (o (i (o (i (o z))))))) (.some (i (i (o z)))) Gd.no []])
  .ret)
  .skip))
  (.seq (.regionD [.mk (keepH (ldR true 4 (X.t (i (i (i z)))))) (.some (o (i (o (o (i z)))))) Gd.no [],
   .mk (keepH (ldR true 5 (X.t (o (i (i z)))))) (.some (o (o (o (o (i z)))))) Gd.no [],
   .mk (keepH (faR 5 (X.t (i (o z))))) (.some (o (i (i (i (o z)))))) Gd.no [],
   .mk (keepH (ldR false 1 (X.t (o (i (i (i (o z)))))))) (.some (i (i (i (i (o z)))))) Gd.no [],
   .mk (keepH (faR 6 (X.t (i (o z))))) (.some (o (o (i (i (o z)))))) Gd.no [],
   .mk (keepH (ldR false 1 (X.t (o (o (i (i (o z)))))))) (.some (i (o (i (i (o z)))))) Gd.no [],
   .mk (callS Tryz.prog 139 [(X.t (i (i (i (i (o z)))))), (X.t (o (o (o (o (i z))))))]) (.some (i (o (o (o (i z)))))) Gd.no [.mk (ldR false 1 (X.t (o (o (i (i (o z))))))) (.some (i (o (i (i (o z)))))) Gd.no, .mk (faR 6 (X.t (i (o z)))) (.some (o (o (i (i (o z)))))) Gd.no, .mk (ldR true 4 (X.t (i (i (i z))))) (.some (o (i (o (o (i z)))))) Gd.no],
   .mk (callS Tryz.prog 138 [(X.t (i (o (i (i (o z)))))), (X.t (i (o (o (o (i z)))))), (X.t (o (i (o (o (i z)))))), (X.c (AV.int .i64 24))]) (.some (i (i (o (o (i z)))))) Gd.no [],
   .mk (keepH (mvR (X.t (i (i (o (o (i z)))))))) (.some (i (i (o (i (o z)))))) Gd.no [],
   .mk (keepH (extR (X.t (i (i (o (i (o z)))))) 1)) (.some (i (o (i (o (i z)))))) Gd.no [],
   .mk (keepH (extR (X.t (i (i (o (i (o z)))))) 0)) (.some (o (o (i (o (i z)))))) Gd.no [],
   .mk (keepH (faR 6 (X.t (i (o z))))) (.some (o (i (i (o (i z)))))) Gd.no [],
   .mk (stR 1 (X.t (o (i (i (o (i z)))))) (X.t (o (o (i (o (i z))))))) .none Gd.no [.mk (extR (X.t (i (i (o (i (o z)))))) 1) (.some (i (o (i (o (i z)))))) Gd.no],
   .mk (keepH (faR 5 (X.t (i (o z))))) (.some (i (i (i (o (i z)))))) Gd.no [],
   .mk (stR 1 (X.t (i (i (i (o (i z)))))) (X.t (i (o (i (o (i z))))))) .none Gd.no []])
  (.seq (.regionD [.mk (keepH (ldR true 5 (X.t (o (i (i z)))))) (.some (i (o (o (i (i z)))))) Gd.no [],
   .mk (keepH (ldR true 8 (X.t (i (o z))))) (.some (o (o (o (i (i z)))))) Gd.no [],
   .mk (stR 8 (X.t (i (o (o z)))) (X.t (o (o (o (i (i z))))))) .none Gd.no [.mk (ldR true 5 (X.t (o (i (i z))))) (.some (i (o (o (i (i z)))))) Gd.no],
   .mk (stR 5 (X.t (o (i (o z)))) (X.t (i (o (o (i (i z))))))) .none Gd.no [],
   .mk (mvR (X.c AV.nili)) (.some (i (i (o z)))) Gd.no []])
  .ret)))))))
theorem C108ok : (match Tryz.f108.body with | some c => comp Tryz.prog 57 c | none => none) = some C108 := by kernel_rfl
@[go_sem] theorem call108 (args : List AV) (H : Heap) : callC Tryz.prog 108 args H = .call 108 args := callC_ok (by kernel_rfl) args H
theorem R108ok : resKs Tryz.prog Tryz.f108.results.toList = some [(RK.cell (i (o (o z))) true 8), (RK.cell (o (i (o z))) true 5), (RK.tmp (i (i (o z))))] := by kernel_rfl

@[go_sem] theorem call109 (args : List AV) (H : Heap) : callC Tryz.prog 109 args H = .call 109 args := callC_ok (by kernel_rfl) args H
noncomputable def C136 : CC :=
  (.seq (.region [.mk (boxR false (X.t z)) (.some (i z)) Gd.no [],
   .mk (fun _ H => newC false [(AV.str []), (AV.str []), (AV.int .i64 0), (AV.bool false), (AV.int .i64 0)] H) (.some (i (o z))) Gd.no [],
   .mk (fun _ H => newC false [(AV.str []), (AV.int .i64 0), (AV.str []), (AV.bool false)] H) (.some (o (i z))) Gd.no [],
   .mk (mvR (X.c AV.nili)) (.some (i (i z))) Gd.no []])
  (.seq (.seq (.region [.mk (mvR (X.t (o z))) (.some (o (o (o z)))) Gd.no [],
   .mk (lenR LnK.str (X.t (o (o (o z))))) (.some (i (o (o z)))) Gd.no [],
   .mk (binR Tryz.prog EK.no .none true BinOp.gtr (X.t (i (o (o z)))) (X.c (AV.int .i64 12))) (.some (o (i (o z)))) Gd.no []])
  (.cond (X.t (o (i (o z))))
  (.seq (.region [.mk (ldR true 5 (X.t (i z))) (.some (i (i (o z)))) Gd.no [],
   .mk (buildR [(AV.str []), (AV.int .i64 0), (AV.str []), (AV.bool false)] []) (.some (o (o (i z)))) Gd.no [],
   .mk (mkiR 42 (X.c (AV.int .i64 13))) (.some (i (o (i z)))) Gd.no [],
   .mk (stR 5 (X.t (i (o z))) (X.t (i (i (o z))))) .none Gd.no [],
   .mk (stR 4 (X.t (o (i z))) (X.t (o (o (i z))))) .none Gd.no [],
   .mk (mvR (X.t (i (o (i z))))) (.some (i (i z))) Gd.no []])
  .ret)
  .skip))
  (.seq (.region [.mk (ldR true 5 (X.t (i z))) (.some (o (i (i z)))) Gd.no [],
   .mk (mvR (X.t (o z))) (.some (i (i (i z)))) Gd.no [],
   .mk (callS Tryz.prog 150 [(X.t (o (i (i z)))), (X.t (i (i (i z)))), (X.c (AV.bool false))]) (.some (o (o (o (o z))))) Gd.no [],
   .mk (extR (X.t (o (o (o (o z))))) 0) (.some (i (o (o (o z))))) Gd.no [],
   .mk (extR (X.t (o (o (o (o z))))) 1) (.some (o (i (o (o z))))) Gd.no [],
   .mk (extR (X.t (o (o (o (o z))))) 2) (.some (i (i (o (o z))))) Gd.no [],
   .mk (stR 5 (X.t (i (o z))) (X.t (i (o (o (o z)))))) .none Gd.no [],
   .mk (stR 4 (X.t (o (i z))) (X.t (o (i (o (o z)))))) .none Gd.no [],
   .mk (mvR (X.t (i (i (o (o z)))))) (.some (i (i z))) Gd.no []])
  .ret)))
theorem C136ok : (match Tryz.f136.body with | some c => comp Tryz.prog 19 c | none => none) = some C136 := by kernel_rfl
@[go_sem] theorem call136 (args : List AV) (H : Heap) : callC Tryz.prog 136 args H = .call 136 args := callC_ok (by kernel_rfl) args H
theorem R136ok : resKs Tryz.prog Tryz.f136.results.toList = some [(RK.cell (i (o z)) true 5), (RK.cell (o (i z)) true 4), (RK.tmp (i (i z)))] := by kernel_rfl

@[go_sem] theorem call137 (args : List AV) (H : Heap) : callC Tryz.prog 137 args H = .call 137 args := callC_ok (by kernel_rfl) args H
noncomputable def C138 : CC :=
  (.seq (.region [.mk (boxR false (X.t (i z))) (.some (i (i z))) Gd.no [],
   .mk (mvR (X.c AV.nils)) (.some (i (o (o z)))) Gd.no [],
   .mk (mvR (X.c AV.nils)) (.some (o (i (o z)))) Gd.no []])
  (.seq (.regionD [.mk (keepH (mvR (X.t (o (o z))))) (.some (i (o (o (o z))))) Gd.no [],
   .mk (keepH (mvR (X.t (o z)))) (.some (o (o (o (o z))))) Gd.no [],
   .mk (keepH (ldR true 4 (X.t (i (i z))))) (.some (i (o (i z)))) Gd.no [],
   .mk (addH (bslR 4 1 [(AV.str []), (AV.int .i64 0), (AV.str []), (AV.bool false)] [(0, (X.t (i (o (i z)))))])) (.some (o (i (i z)))) Gd.no [.mk (ldR true 4 (X.t (i (i z)))) (.some (i (o (i z)))) Gd.no, .mk (mvR (X.t (o z))) (.some (o (o (o (o z))))) Gd.no, .mk (mvR (X.t (o (o z)))) (.some (i (o (o (o z))))) Gd.no],
   .mk (keepH (mvR (X.t z))) (.some (i (i (o z)))) Gd.no [],
   .mk (callS Tryz.prog 81 [(X.t (i (i (o z))))]) (.some (o (o (i z)))) Gd.no [.mk (ldR true 4 (X.t (i (i z)))) (.some (i (o (i z)))) Gd.no, .mk (mvR (X.t (o z))) (.some (o (o (o (o z))))) Gd.no, .mk (mvR (X.t (o (o z)))) (.some (i (o (o (o z))))) Gd.no],
   .mk (appR 4 48 (X.t (o (o (i z)))) (X.t (o (i (i z))))) (.some (i (i (i z)))) Gd.no [.mk (mvR (X.t (o z))) (.some (o (o (o (o z))))) Gd.no, .mk (mvR (X.t (o (o z)))) (.some (i (o (o (o z))))) Gd.no],
   .mk (callS Tryz.prog 37 [(X.t (i (i (i z)))), (X.t (o (o (o (o z))))), (X.t (i (o (o (o z)))))]) (.some (o (i (o (o z))))) Gd.no [],
   .mk (keepH (extR (X.t (o (i (o (o z))))) 1)) (.some (o (o (i (o z))))) Gd.no [],
   .mk (keepH (extR (X.t (o (i (o (o z))))) 0)) (.some (i (i (o (o z))))) Gd.no [],
   .mk (mvR (X.t (i (i (o (o z)))))) (.some (i (o (o z)))) Gd.no [],
   .mk (mvR (X.t (o (o (i (o z)))))) (.some (o (i (o z)))) Gd.no []])
  .ret))
theorem C138ok : (match Tryz.f138.body with | some c => comp Tryz.prog 20 c | none => none) = some C138 := by kernel_rfl
@[go_sem] theorem call138 (args : List AV) (H : Heap) : callC Tryz.prog 138 args H = .call 138 args := callC_ok (by kernel_rfl) args H
theorem R138ok : resKs Tryz.prog Tryz.f138.results.toList = some [(RK.tmp (i (o (o z)))), (RK.tmp (o (i (o z))))] := by kernel_rfl

noncomputable def C150 : CC :=
  (.seq (.region [.mk (boxR false (X.t z)) (.some (o (o z))) Gd.no [],
   .mk (fun _ H => newC false [(AV.str []), (AV.str []), (AV.int .i64 0), (AV.bool false), (AV.int .i64 0)] H) (.some (i (i z))) Gd.no [],
   .mk (fun _ H => newC false [(AV.str []), (AV.int .i64 0), (AV.str []), (AV.bool false)] H) (.some (o (o (o z)))) Gd.no [],
   .mk (mvR (X.c AV.nili)) (.some (i (o (o z)))) Gd.no []])
  (.seq (.seq (.region [.mk (faR 2 (X.t (o (o z)))) (.some (o (i (o z)))) Gd.no [],
   .mk (ldR false 1 (X.t (o (i (o z))))) (.some (i (i (o z)))) Gd.no [],
   .mk (binR Tryz.prog EK.no .none true BinOp.geq (X.t (i (i (o z)))) (X.c (AV.int .i64 1000000000000))) (.some (o (o (i z)))) Gd.no []])
  (.cond (X.t (o (o (i z))))
  (.seq (.region [.mk (ldR true 5 (X.t (o (o z)))) (.some (i (o (i z)))) Gd.no [],
   .mk (buildR [(AV.str []), (AV.int .i64 0), (AV.str []), (AV.bool false)] []) (.some (o (i (i z)))) Gd.no [],
   .mk (mkiR 42 (X.c (AV.int .i64 18))) (.some (i (i (i z)))) Gd.no [],
   .mk (stR 5 (X.t (i (i z))) (X.t (i (o (i z))))) .none Gd.no [],
   .mk (stR 4 (X.t (o (o (o z)))) (X.t (o (i (i z))))) .none Gd.no [],
   .mk (mvR (X.t (i (i (i z))))) (.some (i (o (o z)))) Gd.no []])
  .ret)
  .skip))
  (.seq (.region [.mk (faR 2 (X.t (o (o z)))) (.some (o (o (o (o z))))) Gd.no [],
   .mk (ldR false 1 (X.t (o (o (o (o z)))))) (.some (i (o (o (o z))))) Gd.no [],
   .mk (binR Tryz.prog EK.no .none true BinOp.add (X.t (i (o (o (o z))))) (X.c (AV.int .i64 1))) (.some (o (i (o (o z))))) Gd.no [],
   .mk (faR 2 (X.t (o (o z)))) (.some (i (i (o (o z))))) Gd.no [],
   .mk (stR 1 (X.t (i (i (o (o z))))) (X.t (o (i (o (o z)))))) .none Gd.no []])
  (.seq (.region [.mk (mvR (X.t (o z))) (.some (o (o (i (o z))))) Gd.no [],
   .mk (mvR (X.t (i z))) (.some (i (o (i (o z))))) Gd.no [],
   .mk (faR 1 (X.t (o (o z)))) (.some (o (i (i (o z))))) Gd.no [],
   .mk (stR 1 (X.t (o (i (i (o z))))) (X.t (o (o (i (o z)))))) .none Gd.no [],
   .mk (faR 3 (X.t (o (o z)))) (.some (i (i (i (o z))))) Gd.no [],
   .mk (stR 1 (X.t (i (i (i (o z))))) (X.t (i (o (i (o z)))))) .none Gd.no []])
  (.seq (.regionD [.mk (keepH (mvR (X.t (i z)))) (.some (o (i (i (i z))))) Gd.no [],
   .mk (keepH (mvR (X.t (o z)))) (.some (i (o (i (i z))))) Gd.no [],
   .mk (keepH (faR 2 (X.t (o (o z))))) (.some (i (i (o (i z))))) Gd.no [],
   .mk (keepH (ldR false 1 (X.t (i (i (o (i z))))))) (.some (o (o (i (i z))))) Gd.no [],
   .mk (keepH (faR 0 (X.t (o (o z))))) (.some (i (o (o (i z))))) Gd.no [],
   .mk (keepH (ldR false 1 (X.t (i (o (o (i z))))))) (.some (o (i (o (i z))))) Gd.no [],
   .mk (keepH (buildR [(AV.str []), (AV.int .i64 0), (AV.str []), (AV.bool false)] [(0, (1, (X.t (o (i (o (i z))))))), (1, (1, (X.t (o (o (i (i z))))))), (2, (1, (X.t (i (o (i (i z))))))), (3, (1, (X.t (o (i (i (i z)))))))])) (.some (i (i (i (i z))))) Gd.no [],
   .mk (keepH (ldR true 5 (X.t (o (o z))))) (.some (o (o (o (i z))))) Gd.no [],
   .mk (stR 5 (X.t (i (i z))) (X.t (o (o (o (i z)))))) .none Gd.no [.mk (buildR [(AV.str []), (AV.int .i64 0), (AV.str []), (AV.bool false)] [(0, (1, (X.t (o (i (o (i z))))))), (1, (1, (X.t (o (o (i (i z))))))), (2, (1, (X.t (i (o (i (i z))))))), (3, (1, (X.t (o (i (i (i z)))))))]) (.some (i (i (i (i z))))) Gd.no, .mk (ldR false 1 (X.t (i (o (o (i z)))))) (.some (o (i (o (i z))))) Gd.no, .mk (faR 0 (X.t (o (o z)))) (.some (i (o (o (i z))))) Gd.no, .mk (ldR false 1 (X.t (i (i (o (i z)))))) (.some (o (o (i (i z))))) Gd.no, .mk (faR 2 (X.t (o (o z)))) (.some (i (i (o (i z))))) Gd.no, .mk (mvR (X.t (o z))) (.some (i (o (i (i z))))) Gd.no, .mk (mvR (X.t (i z))) (.some (o (i (i (i z))))) Gd.no],
   .mk (stR 4 (X.t (o (o (o z)))) (X.t (i (i (i (i z)))))) .none Gd.no [],
   .mk (mvR (X.c AV.nili)) (.some (i (o (o z)))) Gd.no []])
  .ret)))))
theorem C150ok : (match Tryz.f150.body with | some c => comp Tryz.prog 31 c | none => none) = some C150 := by kernel_rfl
@[go_sem] theorem call150 (args : List AV) (H : Heap) : callC Tryz.prog 150 args H = .call 150 args := callC_ok (by kernel_rfl) args H
theorem R150ok : resKs Tryz.prog Tryz.f150.results.toList = some [(RK.cell (i (i z)) true 5), (RK.cell (o (o (o z))) true 4), (RK.tmp (i (o (o z))))] := by kernel_rfl

end Go.Proofs
/- the document's next cell, Put, Add: walked. -/




set_option linter.all false
set_option linter.all false
set_option maxRecDepth 100000
namespace Go.Proofs
open Go Go.Ev
variable {H : Heap}

theorem get_two {α : Type} (l : List α) (a b : α) : (l ++ [a, b])[l.length]? = some a ∧ (l ++ [a, b])[l.length + 1]? = some b := by
  constructor
  · rw [List.getElem?_append_right (Nat.le_refl _), Nat.sub_self]; rfl
  · rw [List.getElem?_append_right (by omega), Nat.add_sub_cancel_left]; rfl
end Go.Proofs
/- the document's writes: walked. -/

set_option linter.all false
set_option linter.all false
set_option maxRecDepth 100000
namespace Go.Proofs
open Go Go.Ev
variable {H : Heap}

theorem keepC_nil (cs : List Cell) : keepC [] cs = cs := rfl
/-- a shard with a cell's next version -/
noncomputable def addS (s : Sh) (c : Cell) (e : Evn) (k0 k1 : K) : Sh := ⟨s.id, s.ep, s.fr, s.to, s.frz, keepC ((s.evs ++ [e]).take ((s.evs ++ [e]).length - 24)) (refW s.cells c), (s.evs ++ [e]).drop ((s.evs ++ [e]).length - 24), s.done, outV k0 5 (refW s.cells c).length, outV k1 4 ((s.evs ++ [e]).drop ((s.evs ++ [e]).length - 24)).length, s.dv⟩
noncomputable def addB (s : Sh) (c : Cell) (e : Evn) : List Blk := [outB 5 ((keepC ((s.evs ++ [e]).take ((s.evs ++ [e]).length - 24)) (refW s.cells c)).map Cell.enc), outB 4 (((s.evs ++ [e]).drop ((s.evs ++ [e]).length - 24)).map Evn.enc)]
end Go.Proofs
/- the document's write of a put: walked. -/

set_option linter.all false
set_option linter.all false
set_option maxRecDepth 100000
namespace Go.Proofs
open Go Go.Ev
variable {H : Heap}

theorem addS_ok {s : Sh} (h : s.ok H) {L : List Blk} {i j : Nat} {c : Cell} {e : Evn} (hcl : (refW s.cells c).length < 10000) (hel : s.evs.length < 10000) (hi : L[i]? = some (outB 5 ((keepC ((s.evs ++ [e]).take ((s.evs ++ [e]).length - 24)) (refW s.cells c)).map Cell.enc))) (hj : L[j]? = some (outB 4 (((s.evs ++ [e]).drop ((s.evs ++ [e]).length - 24)).map Evn.enc))) : (addS s c e (H.key i) (H.key j)).ok (H.ext L) where
  c := arr_outV hi (by rw [List.length_map]; exact keepC_len _ _)
  e := arr_outV hj (List.length_map ..)
  d := h.d.ext L
  dok := h.dok.ext L
  cl := by show (keepC _ _).length < _; rw [keepC_len]; omega
  el := by show (List.drop _ _).length < _; rw [List.length_drop, List.length_append]; show s.evs.length + 1 - _ < _; omega
  dl := h.dl
theorem withL_len (c : Cell) : ∀ (l : List Cell), (withL l c).length ≤ l.length + 1
  | [] => by simp [withL]
  | d :: l => by
    have := withL_len c l
    unfold withL
    split
    · simp only [List.length_cons]; omega
    · split <;> simp
/-- a shard with a key put, as it is told -/
noncomputable def putS (s : Sh) (k v : List Nat) : Sh := ⟨s.id, s.ep, s.fr, s.to, s.frz, keepC ((s.evs ++ [nextE s.cells k v false]).take ((s.evs ++ [nextE s.cells k v false]).length - 24)) (withL s.cells (nextC s.cells k v false)), (s.evs ++ [nextE s.cells k v false]).drop ((s.evs ++ [nextE s.cells k v false]).length - 24), s.done, .nils, .nils, .nils⟩
theorem putS_hist {s : Sh} (hI : isHist s.evs s.cells) {k v : List Nat} (hk : isKey k) (hv : (v.length : Int) ≤ 12) (hm : (getL s.cells k).1.ver < 1000000000000) : isHist (putS s k v).evs (putS s k v).cells :=
  hist_keep _ (hist_put hI hk hv (fun h => by cases h) hm)
end Go.Proofs
/- the document's puts, gets: asked: walked. -/


set_option linter.all false
set_option linter.all false
set_option maxRecDepth 100000
namespace Go.Proofs
open Go Go.Ev
variable {H : Heap}

/-- what a get tells -/
def getA (c : Cell) : List AV := if 0 < c.ver ∧ c.del = false then [.int .i64 0, .str c.value, .int .i64 c.ver, .nils] else [.int .i64 14, .str [], .int .i64 c.ver, .nils]
theorem getA_rens (ρ : K → K) (c : Cell) : AV.rens ρ (getA c) = getA c := by unfold getA; split <;> rfl
/-- the answer of a put -/
def putA (n : Int) : An := ⟨0, [], n, [], .nils⟩
theorem putA_ok (H : Heap) (n : Int) : (putA n).ok H := ⟨.inl ⟨rfl, rfl⟩, (by decide : (0 : Nat) ≤ 9223372036854775807)⟩
/-- a shard with a request's put done -/
noncomputable def askS (s : Sh) (k v : List Nat) (ses id : Int) (k0 k1 k2 : K) : Sh := ⟨s.id, s.ep, s.fr, s.to, s.frz, (addS s (nextC s.cells k v false) (nextE s.cells k v false) k0 k1).cells, (addS s (nextC s.cells k v false) (nextE s.cells k v false) k0 k1).evs, withD s.done ⟨ses, id, putA ((getL s.cells k).1.ver + 1)⟩, (addS s (nextC s.cells k v false) (nextE s.cells k v false) k0 k1).cv, (addS s (nextC s.cells k v false) (nextE s.cells k v false) k0 k1).ev, outV k2 6 (withD s.done ⟨ses, id, putA ((getL s.cells k).1.ver + 1)⟩).length⟩
noncomputable def askB (s : Sh) (k v : List Nat) (ses id : Int) : List Blk := addB s (nextC s.cells k v false) (nextE s.cells k v false) ++ [outB 6 ((withD s.done ⟨ses, id, putA ((getL s.cells k).1.ver + 1)⟩).map Dn.enc)]
end Go.Proofs
/- CutOnce: the plain law. -/


set_option linter.all false
set_option linter.all false
set_option maxRecDepth 100000
namespace Go.Proofs
open Go Go.Ev
variable {H : Heap}

theorem isSh_same {a b : Sh} (h : sameSh a b) (hb : isSh b) : isSh a := by
  obtain ⟨h1, h2, h3, h4, h5, h6, h7, h8⟩ := h
  unfold isSh at hb ⊢
  rw [h1, h2, h3, h4, h6, h7, h8]
  exact hb
def cK (n : Int) : Cell := ⟨[99], [118], n, false, 0⟩
/-- the shard behind so many requests -/
structure AtI (i : Nat) (s : Sh) : Prop where
  hd : s.id = 1 ∧ s.ep = 1 ∧ s.fr = [] ∧ s.to = [] ∧ s.frz = false
  hist : isHist s.evs s.cells
  len : s.evs.length = i
  keys : ∀ e ∈ s.evs, e.key = [99]
  cells : s.cells = if i = 0 then [] else [cK i]
  done : s.done = if i = 0 then [] else [⟨1, i, putA i⟩]
theorem AtI.get {i : Nat} {s : Sh} (h : AtI i s) : (getL s.cells [99]).1.ver = i ∧ (getL s.cells [99]).1.floor = 0 := by
  rw [h.cells]
  by_cases hi : i = 0
  · subst hi; exact ⟨rfl, rfl⟩
  · rw [if_neg hi]; exact ⟨rfl, rfl⟩
theorem AtI.nextC {i : Nat} {s : Sh} (h : AtI i s) : nextC s.cells [99] [118] false = cK ((i : Int) + 1) := by
  unfold Go.Proofs.nextC cK; rw [h.get.1, h.get.2]
theorem AtI.withL {i : Nat} {s : Sh} (h : AtI i s) (n : Int) : withL s.cells (cK n) = [cK n] := by
  rw [h.cells]
  by_cases hi : i = 0
  · rw [if_pos hi]; rfl
  · rw [if_neg hi, Go.Proofs.withL, if_neg (show ¬ ltS (cK i).key (cK n).key from ltS_irrefl _), if_pos (show (cK i).key = (cK n).key from rfl)]
theorem AtI.stands {i : Nat} {s : Sh} (h : AtI i s) : (stands s.done 1 ((i : Int) + 1)).2 = 0 := by
  rw [h.done]
  by_cases hi : i = 0
  · rw [if_pos hi]; rfl
  · rw [if_neg hi]
    show (if (i : Int) < (i : Int) + 1 then ((zeroA, 0) : An × Int) else _).2 = 0
    rw [if_pos (by omega)]
theorem AtI.keeps {i : Nat} {s : Sh} (h : AtI i s) (a : An) : ¬ keepsD s.done ⟨1, (i : Int) + 1, a⟩ := by
  rintro ⟨x, h1, h2⟩
  rw [h.done] at h1
  by_cases hi : i = 0
  · rw [if_pos hi] at h1; cases h1
  · rw [if_neg hi] at h1
    cases h1
    have h2 : (i : Int) + 1 < (i : Int) := h2
    omega
theorem AtI.up {i : Nat} {s : Sh} (h : AtI i s) : upD s.done := by
  rw [h.done]
  split
  · exact .nil
  · exact List.pairwise_singleton ..
theorem AtI.dlen {i : Nat} {s : Sh} (h : AtI i s) : s.done.length ≤ 1 := by rw [h.done]; split <;> exact Nat.le_of_ble_eq_true rfl
theorem AtI.clen {i : Nat} {s : Sh} (h : AtI i s) : s.cells.length ≤ 1 := by rw [h.cells]; split <;> exact Nat.le_of_ble_eq_true rfl
theorem key_c : isKey [99] := ⟨by simp, by show (1 : Int) ≤ 8; decide⟩
theorem askS_hist {s : Sh} (hI : isHist s.evs s.cells) {k v : List Nat} (hk : isKey k) (hv : (v.length : Int) ≤ 12) (hm : (getL s.cells k).1.ver < 1000000000000) (ses id : Int) (k0 k1 k2 : K) : isHist (askS s k v ses id k0 k1 k2).evs (askS s k v ses id k0 k1 k2).cells := by
  have := putS_hist hI hk hv hm
  show isHist _ (keepC _ (refW s.cells (Go.Proofs.nextC s.cells k v false)))
  rw [refW_eq hI.1]
  exact this
theorem withD_one (s : Int) {i j : Int} (hi : i ≤ j) (a b : An) : withD [⟨s, i, a⟩] ⟨s, j, b⟩ = [⟨s, j, b⟩] := by
  unfold withD putGD
  rw [if_neg (Int.lt_irrefl s), if_pos rfl, lateD, if_pos hi]
theorem AtI.next {i : Nat} {s : Sh} (h : AtI i s) (hi : i < 24) (k0 k1 k2 : K) : AtI (i + 1) (askS s [99] [118] 1 ((i : Int) + 1) k0 k1 k2) where
  hd := h.hd
  hist := askS_hist h.hist key_c (by decide) (by rw [h.get.1]; omega) ..
  len := by
    show ((s.evs ++ [nextE s.cells [99] [118] false]).drop ((s.evs ++ [nextE s.cells [99] [118] false]).length - 24)).length = _
    rw [List.length_drop, List.length_append, h.len]
    show i + 1 - (i + 1 - 24) = i + 1
    omega
  keys := by
    intro e he
    have he : e ∈ (s.evs ++ [nextE s.cells [99] [118] false]).drop _ := he
    rcases List.mem_append.1 (List.mem_of_mem_drop he) with he | he
    · exact h.keys e he
    · rw [List.mem_singleton.1 he]; rfl
  cells := by
    show keepC ((s.evs ++ [nextE s.cells [99] [118] false]).take ((s.evs ++ [nextE s.cells [99] [118] false]).length - 24)) (refW s.cells (Go.Proofs.nextC s.cells [99] [118] false)) = _
    rw [show (s.evs ++ [nextE s.cells [99] [118] false]).length - 24 = 0 by rw [List.length_append, h.len]; show i + 1 - 24 = 0; omega, List.take_zero, keepC_nil, refW_eq h.hist.1, h.nextC, h.withL]
    rfl
  done := by
    show withD s.done ⟨1, (i : Int) + 1, putA ((getL s.cells [99]).1.ver + 1)⟩ = _
    rw [h.get.1, h.done]
    by_cases hz : i = 0
    · subst hz; rfl
    · rw [if_neg hz, withD_one 1 (show (i : Int) ≤ (i : Int) + 1 by omega)]
      rfl
theorem putA_is {n : Int} (h1 : 0 ≤ n) (h2 : n < 281474976710656) : isAns (putA n) := ⟨⟨by show (0 : Int) ≤ 0; decide, by show (0 : Int) < _; decide, h1, h2, by show (0 : Int) ≤ 255; decide⟩, by show (0 : Int) ≤ 16; decide, fun ⟨r, hr, _⟩ => absurd hr List.not_mem_nil⟩
theorem done_one {k : Nat} (h1 : 1 ≤ k) (h2 : k ≤ 100) {n : Int} (h3 : 0 ≤ n) (h4 : n ≤ 100) : isDone [⟨1, k, putA n⟩] := done_iff.2 ⟨fun c hc => by
  rw [List.mem_singleton.1 hc]
  exact ⟨⟨by show (0 : Int) ≤ 1; decide, by show (1 : Int) < 3; decide, by show (1 : Int) ≤ (k : Int); omega, by show (k : Int) ≤ 1000000000000; omega⟩, putA_is h3 (by omega)⟩, List.pairwise_singleton ..⟩
theorem AtI.sh {k : Nat} {s : Sh} (h : AtI k s) (h1 : 1 ≤ k) (h2 : k ≤ 20) : isSh s := by
  obtain ⟨e1, e2, e3, e4, e5⟩ := h.hd
  refine ⟨⟨by omega, by omega, by omega, by omega⟩, by rw [e3, e4]; exact k_span, fun c hc => ?_, by rw [h.len]; omega, h.hist, ?_⟩
  · rw [h.cells, if_neg (by omega)] at hc
    rw [List.mem_singleton.1 hc, e3, e4]
    exact k_has 99
  · rw [h.done, if_neg (by omega)]
    exact done_one h1 (by omega) (by omega) (by omega)
theorem AtI.inS {k : Nat} {s : Sh} (h : AtI k s) : inSplit s [109] := by
  obtain ⟨e1, e2, e3, e4, e5⟩ := h.hd
  exact ⟨by rw [e3, e4]; exact k_has 109, by rw [e3]; rfl⟩
theorem AtI.okS {k : Nat} {s : Sh} (h : AtI k s) (h1 : 1 ≤ k) (h2 : k ≤ 20) : okSplit s 2 3 := ⟨⟨h.sh h1 h2, by rw [h.hd.2.2.2.2]; decide⟩, by decide, by decide, by decide⟩
theorem no_hi {t : List Nat} : ¬ has [109] t [99] := fun h => h.2.2.1 lt_cm
theorem hi_cells {n : Int} : withinL [109] [] [cK n] = [] := by
  unfold withinL
  rw [List.filter_cons_of_neg (by rw [decide_eq_false (show ¬ has [109] [] (cK n).key from no_hi)]; decide)]
  rfl
theorem hi_evs {l : List Evn} (h : ∀ e ∈ l, e.key = [99]) : evW [109] [] l = [] := by
  unfold evW
  refine List.filter_eq_nil_iff.2 fun e he => ?_
  rw [h e he, decide_eq_false no_hi]
  decide
/-- both parts of the shard -/
structure LoI (k : Nat) (a : Sh) : Prop where
  sh : isSh a
  to : a.to = [109]
  frz : a.frz = false
  done : a.done = [⟨1, k, putA k⟩]
  cells : a.cells.length ≤ 1
  evs : a.evs.length ≤ 24
structure HiI (k : Nat) (b : Sh) : Prop where
  hd : b.id = 3 ∧ b.ep = 1 ∧ b.fr = [109] ∧ b.to = [] ∧ b.frz = false
  done : b.done = [⟨1, k, putA k⟩]
  cells : b.cells = []
  evs : b.evs = []
theorem AtI.lo {k : Nat} {s a : Sh} (h : AtI k s) (h1 : 1 ≤ k) (h2 : k ≤ 20) (ha : sameSh a (saidPart s 2 s.fr [109])) : LoI k a := by
  have hs := h.sh h1 h2
  have hb := h.inS
  obtain ⟨a1, a2, a3, a4, a5, a6, a7, a8⟩ := id ha
  refine ⟨isSh_same ha (part_sh hs (id := 2) hb.lo ⟨by decide, by decide⟩ .z .z .z), a4, a5, by rw [a8]; show s.done = _; rw [h.done, if_neg (by omega)], ?_, ?_⟩
  · rw [a6]; exact Nat.le_trans (List.length_filter_le ..) h.clen
  · rw [a7]; refine Nat.le_trans (List.length_filter_le ..) ?_; rw [h.len]; omega
theorem AtI.hi {k : Nat} {s b : Sh} (h : AtI k s) (h1 : 1 ≤ k) (h2 : k ≤ 20) (hb : sameSh b (saidPart s 3 [109] s.to)) : HiI k b := by
  obtain ⟨e1, e2, e3, e4, e5⟩ := h.hd
  obtain ⟨a1, a2, a3, a4, a5, a6, a7, a8⟩ := id hb
  refine ⟨⟨a1, a2, a3, a4.trans e4, a5⟩, by rw [a8]; show s.done = _; rw [h.done, if_neg (by omega)], ?_, ?_⟩
  · rw [a6]; show withinL [109] s.to s.cells = []; rw [e4, h.cells, if_neg (by omega), hi_cells]
  · rw [a7]; show evW [109] s.to s.evs = []; rw [e4, hi_evs h.keys]
theorem one_up (d : Dn) : upD [d] := List.pairwise_singleton ..
theorem hist_nil : isHist [] [] := ⟨fun j h => absurd h (Nat.not_lt_zero _), fun e he => absurd he List.not_mem_nil, fun c hc => absurd hc List.not_mem_nil⟩
theorem AtI.first {s : Sh} (h : s = ⟨1, 1, [], [], false, [], [], [], .nils, .nils, .nils⟩) : AtI 0 s := by
  subst h
  exact ⟨⟨rfl, rfl, rfl, rfl, rfl⟩, hist_nil, rfl, fun e he => absurd he List.not_mem_nil, rfl, rfl⟩
end Go.Proofs
/- the code's next cell, Put, an error's number, what an op is: walked. -/

set_option linter.all false
namespace Go.Proofs
open Go.RowKit Go.Extern.Stop Go.Stop Go.Extern
theorem code1_nil (w : World) : Calls Tryz.prog 109 #[.nilIface] w fun e w' => e = .returned (.int .i64 0) ∧ Go.Ev.Grows w w' := by
  go_enter Tryz.func109, Tryz.ntmps109
  go_wp2_with (first | (go_at_call 47; refine (as_nil _ _).mono ?_; rintro e w' ⟨rfl, rfl⟩))
  go_ret
  exact ⟨rfl, Go.Ev.Grows.alloc _ _⟩
set_option maxHeartbeats 4000000 in
theorem code1_num (n : Int) (w : World) (hg : w.cell? ⟨0, 0, none⟩ = some (.iface 169 (.agg #[.pointer (some ⟨1, 32, none⟩)]))) : Calls Tryz.prog 109 #[.iface 42 (.int .i64 n)] w fun e w' => e = .returned (.int .i64 n) ∧ Go.Ev.Grows w w' := by
  have hlt : 0 < w.heap.size := by
    rcases Nat.eq_zero_or_pos w.heap.size with h0 | h
    · simp [World.cell?, h0] at hg
    · exact h
  have hgA : (w.alloc (.cells #[.int .i64 0] 42)).cell? ⟨0, 0, none⟩ = some (.iface 169 (.agg #[.pointer (some ⟨1, 32, none⟩)])) := by
    rw [World.cell?_alloc_lt _ _ ⟨0, 0, none⟩ hlt]; exact hg
  have htA : (w.alloc (.cells #[.int .i64 0] 42)).cell? ⟨w.heap.size, 0, none⟩ = some (.int .i64 0) := by simp
  have hfA : (w.alloc (.cells #[.int .i64 0] 42)).frozen? ⟨w.heap.size, 0, none⟩ = false := by simp
  go_enter Tryz.func109, Tryz.ntmps109
  go_wp2_with (first | (go_at_call 47; refine (as_hit n _ (.int .i64 0) _ hgA htA hfA).mono ?_; rintro e w' ⟨rfl, rfl⟩))
  go_ret
  refine ⟨rfl, ?_⟩
  exact ((((Go.Ev.Grows.alloc _ _).trans (Go.Ev.Grows.alloc _ _)).trans (Go.Ev.Grows.alloc _ _)).trans (Go.Ev.Grows.alloc _ _)).trans (Go.Ev.Grows.alloc _ _)
end Go.Proofs
set_option linter.all false
set_option maxRecDepth 100000
namespace Go.Proofs
open Go Go.Ev
variable {H : Heap}

theorem f109_ok (a : Option Int) : FnOk Tryz.prog 109 [errV a] H fun r G => r = .int .i64 (a.getD 0) ∧ G = H := by
  refine FnOk.of_calls fun φ w args' ha hw => ?_
  obtain ⟨v, rfl, h1⟩ := one_arg ha
  have e1 := errV_inv h1
  cases a with
  | none =>
    obtain rfl : v = .nilIface := e1
    refine (code1_nil w).mono ?_
    rintro e w' ⟨rfl, hg⟩
    exact ⟨⟨_, rfl, .int _ _⟩, hg⟩
  | some a =>
    obtain rfl : v = .iface 42 (.int .i64 a) := e1
    refine (code1_num a w (hw.rom 0 _ (List.mem_singleton.2 rfl)).1).mono ?_
    rintro e w' ⟨rfl, hg⟩
    exact ⟨⟨_, rfl, .int _ _⟩, hg⟩
theorem f150_ok {c : Cell} (h1 : 0 ≤ c.ver) (h2 : c.ver < 1000000000000) (v : List Nat) (d : Bool) : FnOk Tryz.prog 150 [.agg c.enc, .str v, .bool d] H fun r G => r = .tup [.agg (Cell.enc ⟨c.key, v, c.ver + 1, d, c.floor⟩), .agg (Evn.enc ⟨c.key, c.ver + 1, v, d⟩), .nili] ∧ G = H := by
  refine FnOk.drop (R := fun r => r = .tup [.agg (Cell.enc ⟨c.key, v, c.ver + 1, d, c.floor⟩), .agg (Evn.enc ⟨c.key, c.ver + 1, v, d⟩), .nili]) ?_ (by rintro v rfl ρ; simp only [AV.ren, AV.rens, Cell.rens, Evn.rens])
  refine FnOk.of_WW Tryz.func150 rfl C150ok R150ok E0 good_E0 ?_
  have hw : IntKind.i64.wrap (c.ver + 1) = c.ver + 1 := wrap_i64 (by omega) (by omega)
  have z1 := eq_false (show ¬ (1000000000000 : Int) ≤ c.ver by omega)
  simp only [go_sem, C150, Cell.enc, hw, z1]
  exact ⟨rfl, _, rfl⟩
theorem f136_ok {c : Cell} (h1 : 0 ≤ c.ver) (h2 : c.ver < 1000000000000) {v : List Nat} (hv : (v.length : Int) ≤ 12) : FnOk Tryz.prog 136 [.agg c.enc, .str v] H fun r G => r = .tup [.agg (Cell.enc ⟨c.key, v, c.ver + 1, false, c.floor⟩), .agg (Evn.enc ⟨c.key, c.ver + 1, v, false⟩), .nili] ∧ G = H := by
  refine FnOk.drop (R := fun r => r = .tup [.agg (Cell.enc ⟨c.key, v, c.ver + 1, false, c.floor⟩), .agg (Evn.enc ⟨c.key, c.ver + 1, v, false⟩), .nili]) ?_ (by rintro v rfl ρ; simp only [AV.ren, AV.rens, Cell.rens, Evn.rens])
  refine FnOk.of_WW Tryz.func136 rfl C136ok R136ok E0 good_E0 ?_
  have z1 := eq_false (show ¬ (12 : Int) < (v.length : Int) by omega)
  simp only [go_sem, C136, Cell.enc, z1]
  refine CL.of (f150_ok (c := c) h1 h2 v false) ?_
  rintro _ _ ⟨rfl, rfl⟩
  simp only [go_sem, Cell.enc, Evn.enc]
  exact ⟨_, rfl⟩
theorem f103_put (k v : List Nat) : FnOk Tryz.prog 103 [.agg [.int .i64 2, .str k, .str [], .str v, .int .i64 0, .nils]] H fun r G => r = .bool true ∧ G = H := by
  refine FnOk.drop (R := fun r => r = .bool true) ?_ (by rintro v rfl ρ; rw [AV.ren])
  refine FnOk.of_WW Tryz.func103 rfl C103ok R103ok E0 good_E0 ?_
  simp only [go_sem, C103]
  exact ⟨_, rfl⟩
theorem f103_get (k : List Nat) : FnOk Tryz.prog 103 [.agg [.int .i64 1, .str k, .str [], .str [], .int .i64 0, .nils]] H fun r G => r = .bool true ∧ G = H := by
  refine FnOk.drop (R := fun r => r = .bool true) ?_ (by rintro v rfl ρ; rw [AV.ren])
  refine FnOk.of_WW Tryz.func103 rfl C103ok R103ok E0 good_E0 ?_
  simp only [go_sem, C103]
  exact ⟨_, rfl⟩
theorem f103_cas (k v : List Nat) (n : Int) : FnOk Tryz.prog 103 [.agg [.int .i64 4, .str k, .str [], .str v, .int .i64 n, .nils]] H fun r G => r = .bool true ∧ G = H := by
  refine FnOk.drop (R := fun r => r = .bool true) ?_ (by rintro v rfl ρ; rw [AV.ren])
  refine FnOk.of_WW Tryz.func103 rfl C103ok R103ok E0 good_E0 ?_
  simp only [go_sem, C103]
  exact ⟨_, rfl⟩
theorem f53_put {k v : List Nat} (hk : isKey k) (hv : (v.length : Int) ≤ 12) : FnOk Tryz.prog 53 [.agg [.int .i64 2, .str k, .str [], .str v, .int .i64 0, .nils]] H fun r G => r = .bool true ∧ G = H := by
  refine FnOk.drop (R := fun r => r = .bool true) ?_ (by rintro v rfl ρ; rw [AV.ren])
  refine FnOk.of_WW Tryz.func53 rfl C53ok R53ok E0 good_E0 ?_
  have z2 := eq_true (show (v.length : Int) ≤ 40 by omega)
  simp only [go_sem, C53]
  refine CL.of (f103_put k v) ?_
  rintro _ _ ⟨rfl, rfl⟩
  simp only [go_sem]
  refine CL.bool (f105_ok k) (fun g => ?_) (fun g => absurd hk g)
  simp only [go_sem, z2]
  exact ⟨_, rfl⟩
theorem f53_get {k : List Nat} (hk : isKey k) : FnOk Tryz.prog 53 [.agg [.int .i64 1, .str k, .str [], .str [], .int .i64 0, .nils]] H fun r G => r = .bool true ∧ G = H := by
  refine FnOk.drop (R := fun r => r = .bool true) ?_ (by rintro v rfl ρ; rw [AV.ren])
  refine FnOk.of_WW Tryz.func53 rfl C53ok R53ok E0 good_E0 ?_
  simp only [go_sem, C53]
  refine CL.of (f103_get k) ?_
  rintro _ _ ⟨rfl, rfl⟩
  simp only [go_sem]
  refine CL.bool (f105_ok k) (fun g => ?_) (fun g => absurd hk g)
  simp only [go_sem]
  exact ⟨_, rfl⟩
theorem f53_cas {k v : List Nat} (hk : isKey k) (hv : (v.length : Int) ≤ 12) {n : Int} (h0 : 0 ≤ n) (h1 : n ≤ 1000000000000) : FnOk Tryz.prog 53 [.agg [.int .i64 4, .str k, .str [], .str v, .int .i64 n, .nils]] H fun r G => r = .bool true ∧ G = H := by
  refine FnOk.drop (R := fun r => r = .bool true) ?_ (by rintro v rfl ρ; rw [AV.ren])
  refine FnOk.of_WW Tryz.func53 rfl C53ok R53ok E0 good_E0 ?_
  have z2 := eq_true (show (v.length : Int) ≤ 40 by omega)
  have z3 := eq_true h0
  have z4 := eq_true h1
  simp only [go_sem, C53]
  refine CL.of (f103_cas k v n) ?_
  rintro _ _ ⟨rfl, rfl⟩
  simp only [go_sem]
  refine CL.bool (f105_ok k) (fun g => ?_) (fun g => absurd hk g)
  simp only [go_sem, z2, z3, z4]
  exact ⟨_, rfl⟩
theorem f67_put (k v : List Nat) : FnOk Tryz.prog 67 [.agg [.int .i64 2, .str k, .str [], .str v, .int .i64 0, .nils]] H fun r G => r = .bool true ∧ G = H := by
  refine FnOk.drop (R := fun r => r = .bool true) ?_ (by rintro v rfl ρ; rw [AV.ren])
  refine FnOk.of_WW Tryz.func67 rfl C67ok R67ok E0 good_E0 ?_
  simp only [go_sem, C67]
  exact ⟨_, rfl⟩
theorem f67_cas (k v : List Nat) (n : Int) : FnOk Tryz.prog 67 [.agg [.int .i64 4, .str k, .str [], .str v, .int .i64 n, .nils]] H fun r G => r = .bool true ∧ G = H := by
  refine FnOk.drop (R := fun r => r = .bool true) ?_ (by rintro v rfl ρ; rw [AV.ren])
  refine FnOk.of_WW Tryz.func67 rfl C67ok R67ok E0 good_E0 ?_
  simp only [go_sem, C67]
  exact ⟨_, rfl⟩
theorem f54_ok {s : Sh} (h : s.ok H) (k : List Nat) : FnOk Tryz.prog 54 [.agg s.enc, .str k] H fun r G => r = .agg (getA (getL s.cells k).1) ∧ G = H := by
  refine FnOk.drop (R := fun r => r = .agg (getA (getL s.cells k).1)) ?_ (by rintro v rfl ρ; simp only [AV.ren, getA_rens])
  refine FnOk.of_WW Tryz.func54 rfl C54ok R54ok E0 good_E0 ?_
  simp only [go_sem, C54, Sh.enc]
  refine CL.of (f106_ok (h.c.ext _) h.cl k) ?_
  rintro _ _ ⟨rfl, rfl⟩
  simp only [go_sem, Cell.enc]
  refine CL.bool (f107_ok (getL s.cells k).1) (fun g => ?_) (fun g => ?_)
  · simp only [go_sem, Cell.enc]
    exact ⟨by rw [getA, if_pos g], _, rfl⟩
  · simp only [go_sem, Cell.enc]
    exact ⟨by rw [getA, if_neg g], _, rfl⟩
end Go.Proofs
/- the code's Add, change, one: walked. -/

set_option linter.all false
set_option linter.all false
set_option maxRecDepth 100000
namespace Go.Proofs
open Go Go.Ev
variable {H : Heap}

def A81 (H : Heap) (args : List AV) (l : List Evn) : Prop := ∃ k, args = [outV k 4 l.length] ∧ Arr H 4 (outV k 4 l.length) (l.map Evn.enc) ∧ l.length < 100000
noncomputable def EA (f : FuncId) (args : List AV) (H : Heap) : RC :=
  match f with
  | 81 => ot (A81 H args) fun l => .ok (outV H.nx 4 l.length) (H.ext [outB 4 (l.map Evn.enc)])
  | 37 => ot (A50 H args) fun q => .ok (.tup [outV (H.key 1) 4 (q.1.drop (q.1.length - 24)).length, outV (H.key 0) 5 q.2.length]) (H.ext [outB 5 ((keepC (q.1.take (q.1.length - 24)) q.2).map Cell.enc), outB 4 ((q.1.drop (q.1.length - 24)).map Evn.enc)])
  | _ => .fail
theorem outV_null {k : K} {e n : Nat} (h : n = 0) : outV k e n = .nils := by subst h; rfl
theorem good_EA : Ev.Good Tryz.prog EA := by
  intro f args H r G he φ w args' ha hw
  refine (?_ : FnOk Tryz.prog f args H fun v' G' => v' = r ∧ G' = G).one φ w args' ha hw
  unfold EA at he
  split at he
  · obtain ⟨l, ⟨k, rfl, h1, h2⟩, hz⟩ := ot_ok he
    clear he
    cases hz
    exact clone_n clo75 (List.length_map ..) outV_null h1 (by omega) (fun _ _ => Evn.map_rens _ _)
  · obtain ⟨q, ⟨k, k', rfl, h1, h2, h3, h4⟩, hz⟩ := ot_ok he
    clear he
    cases hz
    exact f37_ok rfl rfl h1 h2 h3 h4
  · cases he
theorem e81 {k : K} {l : List Evn} (hA : Arr H 4 (outV k 4 l.length) (l.map Evn.enc)) (hl : l.length < 100000) (L : List Blk) : EA 81 [outV k 4 l.length] (H.ext L) = .ok (outV (H.key L.length) 4 l.length) (H.ext (L ++ [outB 4 (l.map Evn.enc)])) := by
  show ot (A81 (H.ext L) [outV k 4 l.length]) (fun l => .ok (outV (H.ext L).nx 4 l.length) ((H.ext L).ext [outB 4 (l.map Evn.enc)])) = _
  rw [ot_eq (p := A81 (H.ext L) [outV k 4 l.length]) (x := l) ⟨k, rfl, hA.ext L, hl⟩, Heap.nx_ext, Heap.ext_append]
  rintro l' ⟨k', h1, h2, _⟩
  injection h1 with h1
  rw [← h1] at h2
  exact (evs_uniq (hA.ext L) h2).symm
theorem e37 {k k' : K} {xs : List Evn} {cs : List Cell} {L : List Blk} (h1 : Arr (H.ext L) 4 (outV k 4 xs.length) (xs.map Evn.enc)) (h2 : Arr (H.ext L) 5 (outV k' 5 cs.length) (cs.map Cell.enc)) (hx : xs.length < 100000) (hc : cs.length < 100000) :
    EA 37 [outV k 4 xs.length, outV k' 5 cs.length, .int .i64 24] (H.ext L) = .ok (.tup [outV (H.key (L.length + 1)) 4 (xs.drop (xs.length - 24)).length, outV (H.key L.length) 5 cs.length]) (H.ext (L ++ [outB 5 ((keepC (xs.take (xs.length - 24)) cs).map Cell.enc), outB 4 ((xs.drop (xs.length - 24)).map Evn.enc)])) := by
  show ot (A50 (H.ext L) [outV k 4 xs.length, outV k' 5 cs.length, .int .i64 24]) (fun q => .ok (.tup [outV ((H.ext L).key 1) 4 (q.1.drop (q.1.length - 24)).length, outV ((H.ext L).key 0) 5 q.2.length]) ((H.ext L).ext [outB 5 ((keepC (q.1.take (q.1.length - 24)) q.2).map Cell.enc), outB 4 ((q.1.drop (q.1.length - 24)).map Evn.enc)])) = _
  rw [ot_eq (p := A50 (H.ext L) [outV k 4 xs.length, outV k' 5 cs.length, .int .i64 24]) (x := (xs, cs)) ⟨_, _, rfl, h1, h2, hx, hc⟩, Heap.key_ext, Heap.key_ext, Heap.ext_append]
  · rfl
  rintro ⟨xs', ys'⟩ ⟨k, k', h3, h4, h5, _, _⟩
  injection h3 with h3 h6
  injection h6 with h6 _
  rw [← h3] at h4
  rw [← h6] at h5
  rw [evs_uniq h1 h4, cells_uniq h2 h5]
theorem f138_ok {k k' : K} {l : List Evn} {cs : List Cell} (hA : Arr H 4 (outV k 4 l.length) (l.map Evn.enc)) (hB : Arr H 5 (outV k' 5 cs.length) (cs.map Cell.enc)) (hl : l.length < 10000) (hc : cs.length < 10000) (e : Evn) :
    FnOk Tryz.prog 138 [outV k 4 l.length, outV k' 5 cs.length, .agg e.enc, .int .i64 24] H fun r G => r = .tup [outV (H.key 1) 4 ((l ++ [e]).drop ((l ++ [e]).length - 24)).length, outV (H.key 0) 5 cs.length] ∧ G = H.ext [outB 5 ((keepC ((l ++ [e]).take ((l ++ [e]).length - 24)) cs).map Cell.enc), outB 4 (((l ++ [e]).drop ((l ++ [e]).length - 24)).map Evn.enc)] := by
  refine FnOk.assume fun hok => ?_
  refine FnOk.dropW ?_
  obtain ⟨es, hes⟩ : ∃ es, es = l ++ [e] := ⟨_, rfl⟩
  rw [← hes]
  refine FnOk.of_WW Tryz.func138 rfl C138ok R138ok EA good_EA ?_
  have i81 := e81 hA (by omega)
  have hel : es.length = l.length + 1 := by rw [hes, List.length_append]; rfl
  simp only [go_sem, C138, Evn.enc, i81, ↓appR_hide]
  rw [appQ_out (i := 2) (j := 1) rfl (List.length_map ..) rfl (okBig_le (by omega) (by decide))]
  rw [← hel, show outB 4 (l.map Evn.enc ++ [[.str e.key, .int .i64 e.ver, .str e.val, .bool e.del]]) = outB 4 (es.map Evn.enc) by rw [hes, List.map_append]; rfl]
  have i37 := fun b0 b1 b2 => e37 (H := H) (k := H.key 3) (k' := k') (xs := es) (cs := cs) (L := [b0, b1, b2, outB 4 (es.map Evn.enc)]) (arr_outV (i := 3) rfl (List.length_map ..)) (hB.ext _) (by omega) (by omega)
  simp only [go_sem, i37]
  exact ⟨_, [4, 5], by simp only [outV_ren', go_sem], rfl, rfl, by decide, by simp only [go_sem, ↓outB_ren', Cell.map_rens, Evn.map_rens, implies_true]⟩
theorem frV_pos {v : AV} {k : K} {e n : Nat} (h : 0 < n) : frV v k e n = outV k e n := by
  unfold frV
  split
  · rfl
  · exact (outV_pos h).symm
theorem frL_pos {v : AV} {e : Nat} {xs : List (List AV)} (h : 0 < xs.length) : frL v e xs = [outB e xs] := by
  cases xs with
  | nil => exact absurd h (Nat.lt_irrefl 0)
  | cons x xs => unfold frL; split <;> rfl
theorem withL_pos (c : Cell) : ∀ l : List Cell, 0 < (withL l c).length
  | [] => by simp [withL]
  | d :: l => by
    unfold withL
    split
    · simp
    · split <;> simp
theorem f139_at {v : AV} {l : List Cell} (hA : Arr H 5 v (l.map Cell.enc)) (hl : l.length < 10000) {c : Cell} (hc : cellIs c) :
    FnOk Tryz.prog 139 [v, .agg c.enc] H fun r G => r = outV H.nx 5 (withL l c).length ∧ G = H.ext [outB 5 ((withL l c).map Cell.enc)] := by
  refine (f139_ok hA (by omega) c).mono ?_
  rintro r G ⟨rfl, rfl⟩
  have hp := withL_pos c l
  rw [withC, if_pos hc, frV_pos hp, frL_pos (by rw [List.length_map]; exact hp)]
  exact ⟨rfl, rfl⟩
def A139 (H : Heap) (args : List AV) (q : List Cell × Cell) : Prop := ∃ v, args = [v, .agg q.2.enc] ∧ Arr H 5 v (q.1.map Cell.enc) ∧ q.1.length < 10000 ∧ cellIs q.2
def A138 (H : Heap) (args : List AV) (q : List Evn × List Cell × Evn) : Prop := ∃ k k', args = [outV k 4 q.1.length, outV k' 5 q.2.1.length, .agg q.2.2.enc, .int .i64 24] ∧ Arr H 4 (outV k 4 q.1.length) (q.1.map Evn.enc) ∧ Arr H 5 (outV k' 5 q.2.1.length) (q.2.1.map Cell.enc) ∧ q.1.length < 10000 ∧ q.2.1.length < 10000
noncomputable def EG (f : FuncId) (args : List AV) (H : Heap) : RC :=
  match f with
  | 139 => ot (A139 H args) fun q => .ok (outV H.nx 5 (withL q.1 q.2).length) (H.ext [outB 5 ((withL q.1 q.2).map Cell.enc)])
  | 138 => ot (A138 H args) fun q => .ok (.tup [outV (H.key 1) 4 ((q.1 ++ [q.2.2]).drop ((q.1 ++ [q.2.2]).length - 24)).length, outV (H.key 0) 5 q.2.1.length]) (H.ext [outB 5 ((keepC ((q.1 ++ [q.2.2]).take ((q.1 ++ [q.2.2]).length - 24)) q.2.1).map Cell.enc), outB 4 (((q.1 ++ [q.2.2]).drop ((q.1 ++ [q.2.2]).length - 24)).map Evn.enc)])
  | 109 => match args with | [.nili] => .ok (.int .i64 0) H | _ => .fail
  | _ => .fail
theorem good_EG : Ev.Good Tryz.prog EG := by
  intro f args H r G he φ w args' ha hw
  refine (?_ : FnOk Tryz.prog f args H fun v' G' => v' = r ∧ G' = G).one φ w args' ha hw
  unfold EG at he
  split at he
  · obtain ⟨q, ⟨v, rfl, h1, h2, h3⟩, hz⟩ := ot_ok he
    clear he
    cases hz
    exact f139_at h1 h2 h3
  · obtain ⟨q, ⟨k, k', rfl, h1, h2, h3, h4⟩, hz⟩ := ot_ok he
    clear he
    cases hz
    exact f138_ok h1 h2 h3 h4 _
  · split at he
    · cases he; exact f109_ok none
    · cases he
  · cases he
theorem e139 {v : AV} {l : List Cell} (hA : Arr H 5 v (l.map Cell.enc)) (hl : l.length < 10000) {c : Cell} (hc : cellIs c) (L : List Blk) :
    EG 139 [v, .agg [.str c.key, .str c.value, .int .i64 c.ver, .bool c.del, .int .i64 c.floor]] (H.ext L) = .ok (outV (H.key L.length) 5 (withL l c).length) (H.ext (L ++ [outB 5 ((withL l c).map Cell.enc)])) := by
  show ot (A139 (H.ext L) [v, .agg c.enc]) (fun q => .ok (outV (H.ext L).nx 5 (withL q.1 q.2).length) ((H.ext L).ext [outB 5 ((withL q.1 q.2).map Cell.enc)])) = _
  rw [ot_eq (p := A139 (H.ext L) [v, .agg c.enc]) (x := (l, c)) ⟨v, rfl, hA.ext L, hl, hc⟩, Heap.nx_ext, Heap.ext_append]
  rintro ⟨l', c'⟩ ⟨v', h1, h2, _⟩
  injection h1 with h1 h3
  injection h3 with h3 _
  injection h3 with h3
  dsimp only at h1 h2 h3
  subst h1
  rw [cells_uniq (hA.ext L) h2, Cell.enc_one h3]
theorem e138 {k k' : K} {l : List Evn} {cs : List Cell} {L : List Blk} (hA : Arr (H.ext L) 4 (outV k 4 l.length) (l.map Evn.enc)) (hB : Arr (H.ext L) 5 (outV k' 5 cs.length) (cs.map Cell.enc)) (hl : l.length < 10000) (hc : cs.length < 10000) (e : Evn) :
    EG 138 [outV k 4 l.length, outV k' 5 cs.length, .agg [.str e.key, .int .i64 e.ver, .str e.val, .bool e.del], .int .i64 24] (H.ext L) = .ok (.tup [outV (H.key (L.length + 1)) 4 ((l ++ [e]).drop ((l ++ [e]).length - 24)).length, outV (H.key L.length) 5 cs.length]) (H.ext (L ++ [outB 5 ((keepC ((l ++ [e]).take ((l ++ [e]).length - 24)) cs).map Cell.enc), outB 4 (((l ++ [e]).drop ((l ++ [e]).length - 24)).map Evn.enc)])) := by
  show ot (A138 (H.ext L) [outV k 4 l.length, outV k' 5 cs.length, .agg e.enc, .int .i64 24]) (fun q => .ok (.tup [outV ((H.ext L).key 1) 4 ((q.1 ++ [q.2.2]).drop ((q.1 ++ [q.2.2]).length - 24)).length, outV ((H.ext L).key 0) 5 q.2.1.length]) ((H.ext L).ext [outB 5 ((keepC ((q.1 ++ [q.2.2]).take ((q.1 ++ [q.2.2]).length - 24)) q.2.1).map Cell.enc), outB 4 (((q.1 ++ [q.2.2]).drop ((q.1 ++ [q.2.2]).length - 24)).map Evn.enc)])) = _
  rw [ot_eq (p := A138 (H.ext L) [outV k 4 l.length, outV k' 5 cs.length, .agg e.enc, .int .i64 24]) (x := (l, cs, e)) ⟨_, _, rfl, hA, hB, hl, hc⟩, Heap.key_ext, Heap.key_ext, Heap.ext_append]
  · rfl
  rintro ⟨l', cs', e'⟩ ⟨k, k', h1, h2, h3, _⟩
  injection h1 with h1 h4
  injection h4 with h4 h5
  injection h5 with h5 _
  injection h5 with h5
  dsimp only at h1 h2 h3 h4 h5
  rw [← h1] at h2
  rw [← h4] at h3
  rw [evs_uniq hA h2, cells_uniq hB h3, Evn.enc_one h5]
theorem e109 (H : Heap) : EG 109 [.nili] H = .ok (.int .i64 0) H := rfl
theorem f108_put {s : Sh} (h : s.ok H) {ke : K} (hev : s.ev = outV ke 4 s.evs.length) (hel : s.evs.length < 9000) (hcl : s.cells.length < 9000) {k v : List Nat} (hk : isKey k) (hv : (v.length : Int) ≤ 12) (hI : isHist s.evs s.cells) (hm : (getL s.cells k).1.ver < 1000000000000) :
    FnOk Tryz.prog 108 [.agg s.enc, .str k, .str v, .bool false] H fun r G => r = .tup [.agg (addS s (nextC s.cells k v false) (nextE s.cells k v false) (H.key 0) (H.key 1)).enc, .agg (nextC s.cells k v false).enc, .nili] ∧ G = H.ext (addB s (nextC s.cells k v false) (nextE s.cells k v false)) := by
  refine FnOk.dropW ?_
  refine FnOk.of_WW Tryz.func108 rfl C108ok R108ok EG good_EG ?_
  obtain ⟨c1, c2, c3, c4, _⟩ := cell_of hI k
  have hput := hist_put hI hk hv (d := false) (fun h => by cases h) hm
  have hw : refW s.cells (nextC s.cells k v false) = withL s.cells (nextC s.cells k v false) := refW_eq hI.1 _
  have hwl := withL_len (nextC s.cells k v false) s.cells
  have hcell : cellIs (nextC s.cells k v false) := isIdx_all hput.1 _ (getL_mem getL_withL_self).1
  have hA := h.e
  rw [hev] at hA
  obtain ⟨cs, hcs⟩ : ∃ cs, cs = withL s.cells (nextC s.cells k v false) := ⟨_, rfl⟩
  have i139 := e139 h.c (by omega) hcell
  have i138 := fun b0 b1 b2 b3 b4 b5 => e138 (H := H) (k := ke) (k' := H.key 6) (l := s.evs) (cs := cs) (L := [b0, b1, b2, b3, b4, b5, outB 5 (cs.map Cell.enc)]) (hA.ext _) (arr_outV (i := 6) rfl (List.length_map ..)) (by omega) (by rw [hcs]; omega) (nextE s.cells k v false)
  have dren := h.d.ren
  unfold addS addB
  rw [hw, ← hcs]
  rw [← hcs] at i139
  simp only [nextC, nextE] at i139 i138
  simp only [go_sem, C108, Sh.enc, hev]
  refine CL.of (f106_ok (h.c.ext _) h.cl k) ?_
  rintro _ _ ⟨rfl, rfl⟩
  simp only [go_sem, Cell.enc]
  refine CL.of (f136_ok (c := (getL s.cells k).1) c2 hm hv) ?_
  rintro _ _ ⟨rfl, rfl⟩
  simp only [go_sem, Cell.enc, Evn.enc, c1, i139, i138]
  refine ⟨_, [7, 8], by simp only [nextC, nextE, Sh.enc, Cell.enc, c1, outV_ren', dren, go_sem], rfl, rfl, by decide, by simp only [nextC, nextE, go_sem, ↓outB_ren', Cell.map_rens, Evn.map_rens, implies_true]⟩
end Go.Proofs
/- the code's Do: puts, gets, sets by version: walked. -/

set_option linter.all false
set_option linter.all false
set_option maxRecDepth 100000
namespace Go.Proofs
open Go Go.Ev
variable {H : Heap}

theorem f55_put {s : Sh} (h : s.ok H) {ke : K} (hev : s.ev = outV ke 4 s.evs.length) (hel : s.evs.length < 9000) (hcl : s.cells.length < 9000) {k v : List Nat} (hk : isKey k) (hv : (v.length : Int) ≤ 12) (hI : isHist s.evs s.cells) (hm : (getL s.cells k).1.ver < 1000000000000) :
    FnOk Tryz.prog 55 [.agg s.enc, .str k, .str v, .bool false] H fun r G => r = .tup [.agg (addS s (nextC s.cells k v false) (nextE s.cells k v false) (H.key 0) (H.key 1)).enc, .agg [.int .i64 0, .str [], .int .i64 ((getL s.cells k).1.ver + 1), .nils]] ∧ G = H.ext (addB s (nextC s.cells k v false) (nextE s.cells k v false)) := by
  refine FnOk.dropW ?_
  refine FnOk.of_WW Tryz.func55 rfl C55ok R55ok EG good_EG ?_
  have dren := h.d.ren
  simp only [go_sem, C55, Sh.enc]
  refine CL.of (f108_put (h.ext _) hev hel hcl hk hv hI hm) ?_
  rintro _ _ ⟨rfl, rfl⟩
  simp only [go_sem, Sh.enc, addS, addB, Heap.key_ext, Cell.enc, nextC, nextE, e109]
  exact ⟨_, [3, 4], by simp only [addS, nextC, nextE, Sh.enc, outV_ren', dren, go_sem], rfl, rfl, by decide, by simp only [addB, nextC, nextE, go_sem, ↓outB_ren', Cell.map_rens, Evn.map_rens, implies_true]⟩
def A54 (H : Heap) (args : List AV) (q : Sh × List Nat) : Prop := args = [.agg q.1.enc, .str q.2] ∧ q.1.ok H
noncomputable def EO5 (f : FuncId) (args : List AV) (H : Heap) : RC :=
  match f with
  | 54 => ot (A54 H args) fun q => .ok (.agg (getA (getL q.1.cells q.2).1)) H
  | _ => .fail
theorem good_EO5 : Ev.Good Tryz.prog EO5 := by
  intro f args H r G he φ w args' ha hw
  refine (?_ : FnOk Tryz.prog f args H fun v' G' => v' = r ∧ G' = G).one φ w args' ha hw
  unfold EO5 at he
  split at he
  · obtain ⟨q, ⟨rfl, h1⟩, hz⟩ := ot_ok he
    clear he
    cases hz
    exact f54_ok h1 _
  · cases he
theorem e54s {s : Sh} (h : s.ok H) (k : List Nat) (L : List Blk) : EO5 54 [.agg [.int .i64 s.id, .int .i64 s.ep, .str s.fr, .str s.to, .bool s.frz, s.cv, s.ev, s.dv], .str k] (H.ext L) = .ok (.agg (getA (getL s.cells k).1)) (H.ext L) := by
  show ot (A54 (H.ext L) [.agg s.enc, .str k]) (fun q => .ok (.agg (getA (getL q.1.cells q.2).1)) (H.ext L)) = _
  rw [ot_eq (p := A54 (H.ext L) [.agg s.enc, .str k]) (x := (s, k)) ⟨rfl, h.ext L⟩]
  rintro ⟨s', k'⟩ ⟨h1, h2⟩
  injection h1 with h1 h3
  injection h3 with h3 _
  injection h1 with h1
  injection h3 with h3
  dsimp only at h1 h2 h3
  rw [Sh.uniq h1 (h.ext L) h2, h3]
theorem f21_put {s : Sh} (h : s.ok H) {ke : K} (hev : s.ev = outV ke 4 s.evs.length) (hel : s.evs.length < 9000) (hcl : s.cells.length < 9000) {k v : List Nat} (hk : isKey k) (hv : (v.length : Int) ≤ 12) (hI : isHist s.evs s.cells) (hm : (getL s.cells k).1.ver < 1000000000000) :
    FnOk Tryz.prog 21 [.agg s.enc, .agg [.int .i64 2, .str k, .str [], .str v, .int .i64 0, .nils]] H fun r G => r = .tup [.agg (addS s (nextC s.cells k v false) (nextE s.cells k v false) (H.key 0) (H.key 1)).enc, .agg [.int .i64 0, .str [], .int .i64 ((getL s.cells k).1.ver + 1), .nils]] ∧ G = H.ext (addB s (nextC s.cells k v false) (nextE s.cells k v false)) := by
  refine FnOk.dropW ?_
  refine FnOk.of_WW Tryz.func21 rfl C21ok R21ok E0 good_E0 ?_
  have dren := h.d.ren
  simp only [go_sem, C21, Sh.enc]
  refine CL.of (f53_put hk hv) ?_
  rintro _ _ ⟨rfl, rfl⟩
  simp only [go_sem]
  refine CL.of (f55_put (h.ext _) hev hel hcl hk hv hI hm) ?_
  rintro _ _ ⟨rfl, rfl⟩
  simp only [go_sem, Sh.enc, addS, addB, Heap.key_ext]
  exact ⟨_, [4, 5], by simp only [addS, nextC, nextE, Sh.enc, outV_ren', dren, go_sem], rfl, rfl, by decide, by simp only [addB, nextC, nextE, go_sem, ↓outB_ren', Cell.map_rens, Evn.map_rens, implies_true]⟩
theorem f21_get {s : Sh} (h : s.ok H) {k : List Nat} (hk : isKey k) :
    FnOk Tryz.prog 21 [.agg s.enc, .agg [.int .i64 1, .str k, .str [], .str [], .int .i64 0, .nils]] H fun r G => r = .tup [.agg s.enc, .agg (getA (getL s.cells k).1)] ∧ G = H := by
  refine FnOk.dropOld (R := fun r => r = .tup [.agg s.enc, .agg (getA (getL s.cells k).1)]) ?_ ?_
  · refine FnOk.of_WW Tryz.func21 rfl C21ok R21ok EO5 good_EO5 ?_
    obtain ⟨x0, x1, x2, x3, hx⟩ : ∃ x0 x1 x2 x3, getA (getL s.cells k).1 = [x0, x1, x2, x3] := by unfold getA; split <;> exact ⟨_, _, _, _, rfl⟩
    have i54 := e54s h k
    rw [hx] at i54 ⊢
    simp only [go_sem, C21, Sh.enc]
    refine CL.of (f53_get hk) ?_
    rintro _ _ ⟨rfl, rfl⟩
    simp only [go_sem, Sh.enc, i54]
    exact ⟨_, rfl⟩
  · rintro _ rfl top σ
    simp only [AV.ren, AV.rens, h.ren top σ, getA_rens]
theorem f56_put {s : Sh} (h : s.ok H) {ke : K} (hev : s.ev = outV ke 4 s.evs.length) (hel : s.evs.length < 9000) (hcl : s.cells.length < 9000) {k v : List Nat} (hk : isKey k) (hv : (v.length : Int) ≤ 12) (hI : isHist s.evs s.cells) (hm : (getL s.cells k).1.ver < 1000000000000) :
    FnOk Tryz.prog 56 [.agg s.enc, .agg [.int .i64 4, .str k, .str [], .str v, .int .i64 (getL s.cells k).1.ver, .nils]] H fun r G => r = .tup [.agg (addS s (nextC s.cells k v false) (nextE s.cells k v false) (H.key 0) (H.key 1)).enc, .agg [.int .i64 0, .str [], .int .i64 ((getL s.cells k).1.ver + 1), .nils]] ∧ G = H.ext (addB s (nextC s.cells k v false) (nextE s.cells k v false)) := by
  refine FnOk.dropW ?_
  refine FnOk.of_WW Tryz.func56 rfl C56ok R56ok E0 good_E0 ?_
  have dren := h.d.ren
  simp only [go_sem, C56, Sh.enc]
  refine CL.of (f106_ok (h.c.ext _) h.cl k) ?_
  rintro _ _ ⟨rfl, rfl⟩
  simp only [go_sem, Cell.enc]
  refine CL.of (f55_put (h.ext _) hev hel hcl hk hv hI hm) ?_
  rintro _ _ ⟨rfl, rfl⟩
  simp only [go_sem, Sh.enc, addS, addB, Heap.key_ext]
  exact ⟨_, [5, 6], by simp only [addS, nextC, nextE, Sh.enc, outV_ren', dren, go_sem], rfl, rfl, by decide, by simp only [addB, nextC, nextE, go_sem, ↓outB_ren', Cell.map_rens, Evn.map_rens, implies_true]⟩
theorem f21_cas {s : Sh} (h : s.ok H) {ke : K} (hev : s.ev = outV ke 4 s.evs.length) (hel : s.evs.length < 9000) (hcl : s.cells.length < 9000) {k v : List Nat} (hk : isKey k) (hv : (v.length : Int) ≤ 12) (hI : isHist s.evs s.cells) (hm : (getL s.cells k).1.ver < 1000000000000) (hm0 : 0 ≤ (getL s.cells k).1.ver) :
    FnOk Tryz.prog 21 [.agg s.enc, .agg [.int .i64 4, .str k, .str [], .str v, .int .i64 (getL s.cells k).1.ver, .nils]] H fun r G => r = .tup [.agg (addS s (nextC s.cells k v false) (nextE s.cells k v false) (H.key 0) (H.key 1)).enc, .agg [.int .i64 0, .str [], .int .i64 ((getL s.cells k).1.ver + 1), .nils]] ∧ G = H.ext (addB s (nextC s.cells k v false) (nextE s.cells k v false)) := by
  refine FnOk.dropW ?_
  refine FnOk.of_WW Tryz.func21 rfl C21ok R21ok E0 good_E0 ?_
  have dren := h.d.ren
  simp only [go_sem, C21, Sh.enc]
  refine CL.of (f53_cas hk hv hm0 (by omega)) ?_
  rintro _ _ ⟨rfl, rfl⟩
  simp only [go_sem]
  refine CL.of (f56_put (h.ext _) hev hel hcl hk hv hI hm) ?_
  rintro _ _ ⟨rfl, rfl⟩
  simp only [go_sem, Sh.enc, addS, addB, Heap.key_ext]
  exact ⟨_, [4, 5], by simp only [addS, nextC, nextE, Sh.enc, outV_ren', dren, go_sem], rfl, rfl, by decide, by simp only [addB, nextC, nextE, go_sem, ↓outB_ren', Cell.map_rens, Evn.map_rens, implies_true]⟩
theorem f24_ok (k v : List Nat) : FnOk Tryz.prog 24 [.str k, .str v] H fun r G => r = .agg [.int .i64 2, .str k, .str [], .str v, .int .i64 0, .nils] ∧ G = H := by
  refine FnOk.drop (R := fun r => r = .agg [.int .i64 2, .str k, .str [], .str v, .int .i64 0, .nils]) ?_ (by rintro v rfl ρ; simp only [AV.ren, AV.rens])
  refine FnOk.of_WW Tryz.func24 rfl C24ok R24ok E0 good_E0 ?_
  simp only [go_sem, C24]
  exact ⟨_, rfl⟩
end Go.Proofs
/- the code's Ask: walked. -/

set_option linter.all false
set_option linter.all false
set_option maxRecDepth 100000
namespace Go.Proofs
open Go Go.Ev
variable {H : Heap}

theorem rows_le {l : List Dn} (h : ∀ d ∈ l, d.an.rows = []) : ∀ d ∈ l, (d.an.rows.length : Int) ≤ 16 := fun d hd => by rw [h d hd]; decide
theorem stands_rows {l : List Dn} (h : ∀ d ∈ l, d.an.rows = []) (s id : Int) : (stands l s id).1.rows = [] := by
  unfold stands
  cases hf : findD l s with
  | none => rfl
  | some d =>
    dsimp only
    split
    · rfl
    · split
      · exact h d (findD_mem hf).1
      · rfl
theorem f23_put {s : Sh} (h : s.ok H) {ke : K} (hev : s.ev = outV ke 4 s.evs.length) (hel : s.evs.length < 9000) (hcl : s.cells.length < 9000) {k v : List Nat} (hk : isKey k) (hv : (v.length : Int) ≤ 12) (hI : isHist s.evs s.cells) (hm : (getL s.cells k).1.ver < 1000000000000) (hdl : s.done.length < 9000) (hup : upD s.done) (hrw : ∀ d ∈ s.done, d.an.rows = []) {ses id : Int} (hn : (stands s.done ses id).2 = 0) :
    FnOk Tryz.prog 23 [.agg s.enc, .int .i64 ses, .int .i64 id, .agg [.int .i64 2, .str k, .str [], .str v, .int .i64 0, .nils]] H fun r G => r = .tup [.agg (askS s k v ses id (H.key 0) (H.key 1) (H.key 2)).enc, .agg [.int .i64 0, .str [], .int .i64 ((getL s.cells k).1.ver + 1), .nils], .int .i64 0] ∧ G = H.ext (askB s k v ses id) := by
  refine FnOk.dropW ?_
  refine FnOk.of_WW Tryz.func23 rfl C23ok R23ok E0 good_E0 ?_
  have hdok := withD_ok h.dok (putA_ok H ((getL s.cells k).1.ver + 1)) (d := ⟨ses, id, putA ((getL s.cells k).1.ver + 1)⟩)
  have drn := hdok.rens
  simp only [go_sem, C23, Sh.enc]
  refine CL.of (f66_ok (h.d.ext _) (h.dok.ext _) (by omega) hup (rows_le hrw) ses id) ?_
  rintro _ _ ⟨z, rfl, rfl⟩
  have hrr := stands_rows hrw ses id
  cases z
  all_goals
    simp only [go_sem, ansV, hn, hrr, zV, zB]
    refine CL.of (f21_put (h.ext _) hev hel hcl hk hv hI hm) ?_
    rintro _ _ ⟨rfl, rfl⟩
    simp only [go_sem, Sh.enc, addS, addB, Heap.key_ext]
    refine CL.of (f67_put k v) ?_
    rintro _ _ ⟨rfl, rfl⟩
    simp only [go_sem, Sh.enc]
    refine CL.of (f68_ok (d := ⟨ses, id, putA ((getL s.cells k).1.ver + 1)⟩) (h.d.ext _) (h.dok.ext _) (putA_ok _ _) hup (by omega)) ?_
    rintro _ _ ⟨rfl, rfl⟩
    simp only [go_sem, Sh.enc]
    exact ⟨_, [6, 7, 9], by simp only [askS, addS, nextC, nextE, Sh.enc, outV_ren', go_sem], rfl, rfl, by decide, by simp only [askB, addB, nextC, nextE, go_sem, ↓outB_ren', Cell.map_rens, Evn.map_rens, drn, implies_true]⟩
theorem f23_cas {s : Sh} (h : s.ok H) {ke : K} (hev : s.ev = outV ke 4 s.evs.length) (hel : s.evs.length < 9000) (hcl : s.cells.length < 9000) {k v : List Nat} (hk : isKey k) (hv : (v.length : Int) ≤ 12) (hI : isHist s.evs s.cells) (hm : (getL s.cells k).1.ver < 1000000000000) (hm0 : 0 ≤ (getL s.cells k).1.ver) (hdl : s.done.length < 9000) (hup : upD s.done) (hrw : ∀ d ∈ s.done, d.an.rows = []) {ses id : Int} (hn : (stands s.done ses id).2 = 0) :
    FnOk Tryz.prog 23 [.agg s.enc, .int .i64 ses, .int .i64 id, .agg [.int .i64 4, .str k, .str [], .str v, .int .i64 (getL s.cells k).1.ver, .nils]] H fun r G => r = .tup [.agg (askS s k v ses id (H.key 0) (H.key 1) (H.key 2)).enc, .agg [.int .i64 0, .str [], .int .i64 ((getL s.cells k).1.ver + 1), .nils], .int .i64 0] ∧ G = H.ext (askB s k v ses id) := by
  refine FnOk.dropW ?_
  refine FnOk.of_WW Tryz.func23 rfl C23ok R23ok E0 good_E0 ?_
  have hdok := withD_ok h.dok (putA_ok H ((getL s.cells k).1.ver + 1)) (d := ⟨ses, id, putA ((getL s.cells k).1.ver + 1)⟩)
  have drn := hdok.rens
  simp only [go_sem, C23, Sh.enc]
  refine CL.of (f66_ok (h.d.ext _) (h.dok.ext _) (by omega) hup (rows_le hrw) ses id) ?_
  rintro _ _ ⟨z, rfl, rfl⟩
  have hrr := stands_rows hrw ses id
  cases z
  all_goals
    simp only [go_sem, ansV, hn, hrr, zV, zB]
    refine CL.of (f21_cas (h.ext _) hev hel hcl hk hv hI hm hm0) ?_
    rintro _ _ ⟨rfl, rfl⟩
    simp only [go_sem, Sh.enc, addS, addB, Heap.key_ext]
    refine CL.of (f67_cas k v _) ?_
    rintro _ _ ⟨rfl, rfl⟩
    simp only [go_sem, Sh.enc]
    refine CL.of (f68_ok (d := ⟨ses, id, putA ((getL s.cells k).1.ver + 1)⟩) (h.d.ext _) (h.dok.ext _) (putA_ok _ _) hup (by omega)) ?_
    rintro _ _ ⟨rfl, rfl⟩
    simp only [go_sem, Sh.enc]
    exact ⟨_, [6, 7, 9], by simp only [askS, addS, nextC, nextE, Sh.enc, outV_ren', go_sem], rfl, rfl, by decide, by simp only [askB, addB, nextC, nextE, go_sem, ↓outB_ren', Cell.map_rens, Evn.map_rens, drn, implies_true]⟩
theorem f23_stood {s : Sh} (h : s.ok H) (hdl : s.done.length < 9000) (hup : upD s.done) (hrw : ∀ d ∈ s.done, d.an.rows = []) {ses id : Int} (hn : 0 < (stands s.done ses id).2) (k : Int) (a b c : List Nat) (n : Int) :
    FnOk Tryz.prog 23 [.agg s.enc, .int .i64 ses, .int .i64 id, .agg [.int .i64 k, .str a, .str b, .str c, .int .i64 n, .nils]] H fun r G => ∃ x L, r = .tup [.agg s.enc, .agg [.int .i64 (stands s.done ses id).1.code, .str (stands s.done ses id).1.val, .int .i64 (stands s.done ses id).1.ver, x], .int .i64 (stands s.done ses id).2] ∧ G = H.ext L := by
  refine FnOk.of_WW Tryz.func23 rfl C23ok R23ok E0 good_E0 ?_
  have z1 := eq_true hn
  simp only [go_sem, C23, Sh.enc]
  refine CL.of (f66_ok (h.d.ext _) (h.dok.ext _) (by omega) hup (rows_le hrw) ses id) ?_
  rintro _ _ ⟨z, rfl, rfl⟩
  have hrr := stands_rows hrw ses id
  cases z
  all_goals
    simp only [go_sem, ansV, z1, hrr, zV, zB]
    exact ⟨_, _, rfl, rfl⟩
end Go.Proofs
/- token: where a key is, walked. -/



set_option linter.all false
set_option maxRecDepth 100000
namespace Go.Proofs
open Go Go.Ev
variable {H : Heap}

/-- how far one has seen of a key -/
structure Sn where
  key : List Nat
  ver : Int
def Sn.enc (c : Sn) : List AV := [.str c.key, .int .i64 c.ver]
theorem Sn.rens (ρ : K → K) (c : Sn) : AV.rens ρ c.enc = c.enc := by simp only [Sn.enc, AV.rens, AV.ren]
theorem Sn.map_rens (ρ : K → K) (l : List Sn) : (l.map Sn.enc).map (AV.rens ρ) = l.map Sn.enc := by
  rw [List.map_map]; exact List.map_congr_left fun c _ => Sn.rens ρ c
def hasAt (l : List Sn) (k : List Nat) (i : Nat) : Prop := ∃ c, l[i]? = some c ∧ c.key = k
noncomputable instance (l : List Sn) (k : List Nat) (i : Nat) : Decidable (hasAt l k i) := Classical.propDecidable _
end Go.Proofs
/- token: what has been seen, the plain law. -/

set_option linter.all false
set_option maxRecDepth 100000
namespace Go.Proofs
open Go Go.Ev
def okS (c : Sn) : Prop := isKey c.key ∧ 0 ≤ c.ver ∧ c.ver ≤ 1000000000000
def okT (l : List Sn) (j : Nat) : Prop := ∃ c, l[j]? = some c ∧ okS c ∧ (0 < j → ∃ d, l[j - 1]? = some d ∧ ltS d.key c.key)
def isTok (l : List Sn) : Prop := ∀ j, j < l.length → okT l j
noncomputable instance (l : List Sn) : Decidable (isTok l) := Classical.propDecidable _
abbrev up (l : List Sn) : Prop := l.Pairwise fun c d => ltS c.key d.key
theorem up_cons {c : Sn} {l : List Sn} : up (c :: l) ↔ (∀ d ∈ l, ltS c.key d.key) ∧ up l := List.pairwise_cons
theorem isTok_cons {c : Sn} {l : List Sn} : isTok (c :: l) ↔ okS c ∧ (∀ d, l[0]? = some d → ltS c.key d.key) ∧ isTok l := by
  constructor
  · intro h
    obtain ⟨c', h0, h1, _⟩ := h 0 (by simp)
    cases h0
    refine ⟨h1, fun d hd => ?_, fun j hj => ?_⟩
    · obtain ⟨e, g0, _, g2⟩ := h 1 (by have := (List.getElem?_eq_some_iff.1 hd).1; simp; omega)
      obtain ⟨c', g3, g4⟩ := g2 (by decide)
      rw [List.getElem?_cons_succ, hd] at g0; cases g0
      cases g3; exact g4
    · obtain ⟨e, g0, g1, g2⟩ := h (j + 1) (by simp; omega)
      rw [List.getElem?_cons_succ] at g0
      refine ⟨e, g0, g1, fun h0 => ?_⟩
      obtain ⟨c', g3, g4⟩ := g2 (by omega)
      rw [show j + 1 - 1 = (j - 1) + 1 by omega, List.getElem?_cons_succ] at g3
      exact ⟨c', g3, g4⟩
  · rintro ⟨h1, h2, h3⟩ j hj
    cases j with
    | zero => exact ⟨c, rfl, h1, fun h => absurd h (by decide)⟩
    | succ j =>
      obtain ⟨e, g0, g1, g2⟩ := h3 j (by simp at hj; omega)
      refine ⟨e, by rw [List.getElem?_cons_succ]; exact g0, g1, fun _ => ?_⟩
      cases j with
      | zero => exact ⟨c, rfl, h2 e g0⟩
      | succ j => obtain ⟨d, g3, g4⟩ := g2 (by omega); exact ⟨d, by simpa using g3, g4⟩
theorem tok_iff : ∀ {l : List Sn}, isTok l ↔ (∀ c ∈ l, okS c) ∧ up l
  | [] => ⟨fun _ => ⟨by simp, .nil⟩, fun _ j hj => by simp at hj⟩
  | c :: l => by
    rw [isTok_cons, tok_iff (l := l), up_cons]
    constructor
    · rintro ⟨h1, h2, h3, h4⟩
      refine ⟨by simpa using ⟨h1, h3⟩, fun d hd => ?_, h4⟩
      cases l with
      | nil => simp at hd
      | cons e l =>
        have he := h2 e rfl
        rcases List.mem_cons.1 hd with rfl | hd
        · exact he
        · exact ltS_trans he ((up_cons.1 h4).1 d hd)
    · rintro ⟨h1, h2, h4⟩
      exact ⟨h1 c (by simp), fun d hd => h2 d (List.mem_of_getElem? hd), fun d hd => h1 d (by simp [hd]), h4⟩
theorem isTok.up {l : List Sn} (h : isTok l) : up l := (tok_iff.1 h).2
/-- what is there of a key -/
noncomputable def getS : List Sn → List Nat → Option Sn
  | [], _ => none
  | c :: l, k => if c.key = k then some c else getS l k
theorem getS_none : ∀ {l : List Sn} {k : List Nat}, (∀ c ∈ l, ¬ c.key = k) → getS l k = none
  | [], _, _ => rfl
  | d :: l, k, h => by rw [getS, if_neg (h d (by simp)), getS_none fun c hc => h c (by simp [hc])]
end Go.Proofs
/- token: whether they are any, a key's version, the same, few: walked. -/

set_option linter.all false
set_option maxRecDepth 100000
namespace Go.Proofs
open Go Go.Ev
variable {H : Heap}

noncomputable def ofT (l : List Sn) (k : List Nat) : Int := match getS l k with | some c => c.ver | none => 0
theorem getS_first : ∀ {l : List Sn} {i : Nat} {c : Sn}, l[i]? = some c → (∀ j d, j < i → l[j]? = some d → ¬ d.key = c.key) → getS l c.key = some c
  | [], i, c, h, _ => by simp at h
  | d :: l, 0, c, h, _ => by cases h; rw [getS, if_pos rfl]
  | d :: l, i + 1, c, h, hn => by rw [getS, if_neg (hn 0 d (by omega) rfl), getS_first (i := i) (by simpa using h) fun j e hj he => hn (j + 1) e (by omega) (by simpa using he)]
theorem f123_ok {v : AV} {l : List Sn} (hA : Arr H 2 v (l.map Sn.enc)) (hl : l.length < 9223372036854775807) (k : List Nat) :
    FnOk Tryz.prog 123 [v, .str k] H fun r G => r = .int .i64 (ofT l k) ∧ G = H := by
  refine FnOk.assume fun hok => ?_
  refine FnOk.drop (R := fun r => r = .int .i64 (ofT l k)) ?_ (by rintro v rfl ρ; rw [AV.ren])
  refine FnOk.of_WW Tryz.func123 rfl C123ok R123ok E0 good_E0 ?_
  have hlen := fun G => hA.len G; simp only [List.length_map] at hlen; have hren := hA.ren
  simp only [go_sem, C123, hlen]
  refine LL.st good_E0 (fun i : Nat => l.length - i) (fun i => i ≤ l.length ∧ ∀ j d, j < i → l[j]? = some d → ¬ d.key = k)
    (fun i => [((.o .z), .str k), ((.o (.o (.o .z))), v), ((.i (.o (.o .z))), .int .i64 l.length), ((.o (.i (.o .z))), .int .i64 i)]) (fun i => []) ?_ 0 (σ := []) (Wk.of rfl (by decide) (by simp only [go_sem, hren]) (by simp only [go_sem])) ⟨Nat.zero_le _, fun j d h => absurd h (Nat.not_lt_zero _)⟩
  rintro i ⟨hi, hno⟩
  by_cases hlt : i < l.length
  · obtain ⟨kk, r, ex', cap', wr, rows, hv, hrho, hgo, hrow⟩ := hA.at hok (j := i) (by rw [List.length_map]; exact hlt); simp only [List.length_map, List.getElem_map] at hv hrow; cases hv; have hget : l[i]? = some l[i] := List.getElem?_eq_getElem hlt; generalize l[i] = c at hrow hget; have hw := wrap_succ (n := i) (by omega); have hci : (i : Int) < (l.length : Int) := (by omega); have hsi : i + 1 ≤ l.length := (by omega)
    simp only [go_sem, C123L0, hci, hsi, hgo, hrow, hw, Sn.enc]
    refine ⟨fun g => ⟨?_, _, rfl⟩, fun g => ?_⟩
    · subst g
      rw [ofT, getS_first hget hno]
    · refine ⟨i + 1, by show l.length - (i + 1) < l.length - i; omega, ?_, _, [], rfl, Wk.of rfl (by decide) (by simp only [go_sem, hren, hrho, hw]) (by simp only [go_sem])⟩
      refine ⟨by omega, fun j d hj hd => ?_⟩
      rcases Nat.lt_or_ge j i with h | h
      · exact hno j d h hd
      · obtain rfl : j = i := by omega
        rw [hget] at hd; cases hd; exact g
  · have hci : ¬ (i : Int) < (l.length : Int) := by omega
    simp only [go_sem, C123L0, hci]
    refine ⟨?_, _, rfl⟩
    rw [ofT, getS_none fun c hc => ?_]
    obtain ⟨j, hj⟩ := List.mem_iff_getElem?.1 hc
    exact hno j c (by have := (List.getElem?_eq_some_iff.1 hj).1; omega) hj
noncomputable instance : DecidableEq Sn := fun _ _ => Classical.propDecidable _
theorem Sn.enc_inj {c d : Sn} (h : c.key = d.key ∧ c.ver = d.ver) : c = d := by cases c; cases d; simp_all
def fewT (l : List Sn) : Prop := (∀ c ∈ l, (c.key.length : Int) ≤ 20) ∧ (l.length : Int) ≤ 30
instance (l : List Sn) : Decidable (fewT l) := inferInstanceAs (Decidable (_ ∧ _))
end Go.Proofs
/- where two spans meet, as the code has it: walked. -/


set_option linter.all false
set_option linter.all false
set_option maxRecDepth 100000
namespace Go.Proofs
open Go Go.Ev
variable {H : Heap}

noncomputable def maxS (a b : List Nat) : List Nat := if ltS a b then b else a
@[go_sem] theorem max_str {β : Type} (a b : List Nat) (f : β) (c : AV → β) : mm2 true (.str a) (.str b) f c = c (.str (maxS a b)) := by
  show bif' (bif' true (Bool.not (ltL a b)) (Bool.or (ltL a b) (eqL a b))) (c (.str a)) (c (.str b)) = _
  unfold maxS
  rw [bif_true, ltL_dec, bif_eq]
  by_cases h : ltS a b
  · rw [decide_eq_true h, if_pos h]; rfl
  · rw [decide_eq_false h, if_neg h]; rfl
noncomputable def lowS (a b : List Nat) : List Nat := if a = [] ∨ (¬ b = [] ∧ ltS b a) then b else a
def okMeet (f t f' t' : List Nat) : Prop := isSpan f t ∧ isSpan f' t' ∧ isSpan (maxS f f') (lowS t t')
noncomputable def meetV (f t f' t' : List Nat) : AV := open Classical in if okMeet f t f' t' then .tup [.agg [.str (maxS f f'), .str (lowS t t')], .bool true] else .tup [.agg [.str [], .str []], .bool false]
noncomputable def minS (a b : List Nat) : List Nat := if ltS b a then b else a
@[go_sem] theorem min_str {β : Type} (a b : List Nat) (f : β) (c : AV → β) : mm2 false (.str a) (.str b) f c = c (.str (minS a b)) := by
  show bif' (bif' false (Bool.not (ltL a b)) (Bool.or (ltL a b) (eqL a b))) (c (.str a)) (c (.str b)) = _
  unfold minS
  rw [bif_false, ltL_dec, eqL_eq, bif_eq]
  rcases ltS_tri a b with h | h | h
  · rw [decide_eq_true h, if_neg (ltS_asymm h)]; rfl
  · subst h; rw [if_neg (ltS_irrefl a)]; simp
  · rw [decide_eq_false (ltS_asymm h), if_pos h, decide_eq_false (by rintro rfl; exact ltS_irrefl _ h)]; rfl
theorem f122_ok (a b : List Nat) : FnOk Tryz.prog 122 [.str a, .str b] H fun r G => r = .str (lowS a b) ∧ G = H := by
  refine FnOk.drop (R := fun r => r = .str (lowS a b)) ?_ (by rintro v rfl ρ; rw [AV.ren])
  refine FnOk.of_WW Tryz.func122 rfl C122ok R122ok E0 good_E0 ?_
  simp only [go_sem, C122]
  refine ⟨fun h => ⟨by unfold lowS; rw [if_pos (.inl h)], _, rfl⟩, fun h => ⟨fun h2 => ⟨by unfold lowS; rw [if_neg fun g => g.elim h fun g => g.1 h2], _, rfl⟩, fun h2 => ⟨?_, _, rfl⟩⟩⟩
  unfold lowS minS
  by_cases h3 : ltS b a
  · rw [if_pos h3, if_pos (.inr ⟨h2, h3⟩)]
  · rw [if_neg h3, if_neg fun g => g.elim h fun g => h3 g.2]
noncomputable def F122 : FuncId → List AV → Option AV
  | 122, [.str a, .str b] => some (.str (lowS a b))
  | _, _ => none
theorem good_F122 : Ev.Good Tryz.prog (pureE F122) := by
  refine good_pureE fun f args v h H => ?_
  unfold F122 at h
  split at h
  · cases h; exact f122_ok _ _
  · cases h
theorem e122 (a b : List Nat) (H : Heap) : pureE F122 122 [.str a, .str b] H = .ok (.str (lowS a b)) H := rfl
theorem okMeet_iff {f t f' t' : List Nat} (h1 : isSpan f t) (h2 : isSpan f' t') : okMeet f t f' t' ↔ lowS t t' = [] ∨ ltS (maxS f f') (lowS t t') := by
  have hm : ((maxS f f').length : Int) ≤ 8 := by
    unfold maxS; split
    · exact h2.1
    · exact h1.1
  have hl : ((lowS t t').length : Int) ≤ 8 := by
    unfold lowS; split
    · exact h2.2.1
    · exact h1.2.1
  exact ⟨fun h => h.2.2.2.2, fun h => ⟨h1, h2, hm, hl, h⟩⟩
theorem f69_ok (f t f' t' : List Nat) : FnOk Tryz.prog 69 [.agg [.str f, .str t], .agg [.str f', .str t']] H fun r G => r = meetV f t f' t' ∧ G = H := by
  refine FnOk.drop (R := fun r => r = meetV f t f' t') ?_ (by rintro v rfl ρ; unfold meetV; split <;> simp only [AV.ren, AV.rens])
  refine FnOk.of_WW Tryz.func69 rfl C69ok R69ok (pureE F122) good_F122 ?_
  simp only [go_sem, C69, e122]
  have hbad : ¬ okMeet f t f' t' → ∀ L, AV.tup [.agg [.str [], .str []], .bool false] = meetV f t f' t' ∧ ∃ l, H.ext L = H.ext l := fun g L => ⟨by unfold meetV; rw [if_neg g], L, rfl⟩
  have hgood : okMeet f t f' t' → ∀ L, AV.tup [.agg [.str (maxS f f'), .str (lowS t t')], .bool true] = meetV f t f' t' ∧ ∃ l, H.ext L = H.ext l := fun g L => ⟨by unfold meetV; rw [if_pos g], L, rfl⟩
  refine CL.bool (f62_ok f t) (fun g1 => ?_) (fun g1 => ?_)
  rotate_left
  · simp only [go_sem]
    exact hbad (fun h => g1 h.1) _
  simp only [go_sem]
  refine CL.bool (f62_ok f' t') (fun g2 => ?_) (fun g2 => ?_)
  rotate_left
  · simp only [go_sem]
    exact hbad (fun h => g2 h.2.1) _
  have hi := okMeet_iff g1 g2
  by_cases g3 : lowS t t' = []
  · have z := eq_true g3
    simp only [go_sem, z]
    exact hgood (hi.2 (.inl g3)) _
  · have z := eq_false g3
    by_cases g4 : ltS (maxS f f') (lowS t t')
    · have z2 := eq_true g4
      simp only [go_sem, z, z2]
      exact hgood (hi.2 (.inr g4)) _
    · have z2 := eq_false g4
      simp only [go_sem, z, z2]
      exact hbad (fun h => (hi.1 h).elim g3 g4) _
end Go.Proofs
