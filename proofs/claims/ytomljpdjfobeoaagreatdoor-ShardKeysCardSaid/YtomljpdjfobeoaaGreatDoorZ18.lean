/- The laid-out code of the functions that are walked. Printed by a program. -/
import Derived.Test.YtomljpdjfobeoaaGreatDoorZ17
import Derived.Test.YtomljpdjfobeoaaGreatDoorProg
import Derived.KernelRfl
set_option linter.all false
set_option maxRecDepth 100000
namespace Go.Proofs
open Go Go.Ev K
@[go_sem] theorem call9 (args : List AV) (H : Heap) : callC Tryz.prog 9 args H = .call 9 args := callC_ok (by kernel_rfl) args H
@[go_sem] theorem call10 (args : List AV) (H : Heap) : callC Tryz.prog 10 args H = .call 10 args := callC_ok (by kernel_rfl) args H
@[go_sem] theorem call11 (args : List AV) (H : Heap) : callC Tryz.prog 11 args H = .call 11 args := callC_ok (by kernel_rfl) args H
@[go_sem] theorem call12 (args : List AV) (H : Heap) : callC Tryz.prog 12 args H = .call 12 args := callC_ok (by kernel_rfl) args H
noncomputable def C20 : CC :=
  (.seq (.region [.mk (boxR false (X.t (i z))) (.some (o (i z))) Gd.no [],
   .mk (fun _ H => newC false [(AV.int .i64 0), (AV.int .i64 0), (AV.str []), (AV.str []), (AV.bool false), AV.nils, AV.nils, AV.nils] H) (.some (i (i z))) Gd.no []])
  (.seq (.region [.mk (mvR (X.t z)) (.some (o (o (o z)))) Gd.no [],
   .mk (mvR (X.t (o z))) (.some (i (o (o z)))) Gd.no [],
   .mk (ldR true 2 (X.t (o (i z)))) (.some (o (i (o z)))) Gd.no [],
   .mk (buildR [(AV.int .i64 0), (AV.int .i64 0), (AV.str []), (AV.str []), (AV.bool false), AV.nils, AV.nils, AV.nils] [(0, (1, (X.t (o (o (o z)))))), (1, (1, (X.t (i (o (o z)))))), (2, (2, (X.t (o (i (o z))))))]) (.some (i (i (o z)))) Gd.no [],
   .mk (stR 8 (X.t (i (i z))) (X.t (i (i (o z))))) .none Gd.no []])
  .ret))
theorem C20ok : (match Tryz.f20.body with | some c => comp Tryz.prog 11 c | none => none) = some C20 := by kernel_rfl
@[go_sem] theorem call20 (args : List AV) (H : Heap) : callC Tryz.prog 20 args H = .call 20 args := callC_ok (by kernel_rfl) args H
theorem R20ok : resKs Tryz.prog Tryz.f20.results.toList = some [(RK.cell (i (i z)) true 8)] := by kernel_rfl

noncomputable def C22 : CC :=
  (.seq (.region [.mk (boxR false (X.t z)) (.some (o z)) Gd.no [],
   .mk (mvR (X.c (AV.bool false))) (.some (i z)) Gd.no []])
  (.seq (.region [.mk (mkfR (Fn.func 60) [] [(X.t (o z))]) (.some (i (o z))) Gd.no [],
   .mk (mvR (X.t (i (o z)))) (.some (o (o z))) Gd.no []])
  (.seq (.block 0 (.seq (.block 4 (.block 3 (.block 2 (.block 1 (.seq (.seq (.seq (.region [.mk (faR 0 (X.t (o z))) (.some (i (i z))) Gd.no [],
   .mk (ldR false 1 (X.t (i (i z)))) (.some (o (o (o z)))) Gd.no [],
   .mk (binR Tryz.prog EK.no .none true BinOp.lss (X.t (o (o (o z)))) (X.c (AV.int .i64 1))) (.some (i (o (o z)))) Gd.no [],
   .mk (mvR (X.t (i (o (o z))))) (.some (o (i (o z)))) Gd.no [],
   .mk (faR 0 (X.t (o z))) (.some (i (i (o z)))) (Gd.on (o (i (o z))) false) [],
   .mk (ldR false 1 (X.t (i (i (o z))))) (.some (o (o (i z)))) (Gd.on (o (i (o z))) false) [],
   .mk (binR Tryz.prog EK.no .none true BinOp.gtr (X.t (o (o (i z)))) (X.c (AV.int .i64 1000000000000))) (.some (i (o (i z)))) (Gd.on (o (i (o z))) false) [],
   .mk (pickR (X.t (o (i (o z)))) (X.c (AV.bool true)) (X.t (i (o (i z))))) (.some (o (i (i z)))) Gd.no [],
   .mk (mvR (X.t (o (i (i z))))) (.some (i (i (i z)))) Gd.no [],
   .mk (faR 1 (X.t (o z))) (.some (o (o (o (o z))))) (Gd.on (i (i (i z))) false) [],
   .mk (ldR false 1 (X.t (o (o (o (o z)))))) (.some (i (o (o (o z))))) (Gd.on (i (i (i z))) false) [],
   .mk (binR Tryz.prog EK.no .none true BinOp.lss (X.t (i (o (o (o z))))) (X.c (AV.int .i64 1))) (.some (o (i (o (o z))))) (Gd.on (i (i (i z))) false) [],
   .mk (pickR (X.t (i (i (i z)))) (X.c (AV.bool true)) (X.t (o (i (o (o z)))))) (.some (i (i (o (o z))))) Gd.no [],
   .mk (mvR (X.t (i (i (o (o z)))))) (.some (o (o (i (o z))))) Gd.no [],
   .mk (faR 1 (X.t (o z))) (.some (i (o (i (o z))))) (Gd.on (o (o (i (o z)))) false) [],
   .mk (ldR false 1 (X.t (i (o (i (o z)))))) (.some (o (i (i (o z))))) (Gd.on (o (o (i (o z)))) false) [],
   .mk (binR Tryz.prog EK.no .none true BinOp.gtr (X.t (o (i (i (o z))))) (X.c (AV.int .i64 1000000))) (.some (i (i (i (o z))))) (Gd.on (o (o (i (o z)))) false) [],
   .mk (pickR (X.t (o (o (i (o z))))) (X.c (AV.bool true)) (X.t (i (i (i (o z)))))) (.some (o (o (o (i z))))) Gd.no [],
   .mk (mvR (X.t (o (o (o (i z)))))) (.some (o (i z))) Gd.no []])
  (.cond (X.t (o (i z)))
  (.exit 1)
  .skip))
  (.seq (.seq (.region [.mk (faR 2 (X.t (o z))) (.some (o (i (o (i z))))) Gd.no [],
   .mk (ldR true 2 (X.t (o (i (o (i z)))))) (.some (i (i (o (i z))))) Gd.no [],
   .mk (callS Tryz.prog 62 [(X.t (i (i (o (i z)))))]) (.some (o (o (i (i z))))) Gd.no [],
   .mk (unR UnOp.not (X.t (o (o (i (i z)))))) (.some (i (o (i (i z))))) Gd.no [],
   .mk (mvR (X.t (i (o (i (i z)))))) (.some (o (i (i (i z))))) Gd.no [],
   .mk (faR 5 (X.t (o z))) (.some (i (i (i (i z))))) (Gd.on (o (i (i (i z)))) false) [],
   .mk (ldR false 1 (X.t (i (i (i (i z)))))) (.some (o (o (o (o (o z)))))) (Gd.on (o (i (i (i z)))) false) [],
   .mk (mvR (X.t (o (o z)))) (.some (i (o (o (o (o z)))))) (Gd.on (o (i (i (i z)))) false) [],
   .mk (callS Tryz.prog 63 [(X.t (o (o (o (o (o z)))))), (X.t (i (o (o (o (o z))))))]) (.some (o (i (o (o (o z)))))) (Gd.on (o (i (i (i z)))) false) [],
   .mk (pickR (X.t (o (i (i (i z))))) (X.c (AV.bool true)) (X.t (o (i (o (o (o z))))))) (.some (i (i (o (o (o z)))))) Gd.no [],
   .mk (mvR (X.t (i (i (o (o (o z))))))) (.some (i (o (o (i z))))) Gd.no []])
  (.cond (X.t (i (o (o (i z)))))
  (.exit 2)
  .skip))
  (.seq (.seq (.region [.mk (faR 6 (X.t (o z))) (.some (i (o (i (o (o z)))))) Gd.no [],
   .mk (ldR false 1 (X.t (i (o (i (o (o z))))))) (.some (o (i (i (o (o z)))))) Gd.no [],
   .mk (lenR LnK.slice (X.t (o (i (i (o (o z))))))) (.some (i (i (i (o (o z)))))) Gd.no [],
   .mk (binR Tryz.prog EK.no .none true BinOp.gtr (X.t (i (i (i (o (o z)))))) (X.c (AV.int .i64 24))) (.some (o (o (o (i (o z)))))) Gd.no [],
   .mk (mvR (X.t (o (o (o (i (o z))))))) (.some (i (o (o (i (o z)))))) Gd.no [],
   .mk (faR 6 (X.t (o z))) (.some (o (i (o (i (o z)))))) (Gd.on (i (o (o (i (o z))))) false) [],
   .mk (ldR false 1 (X.t (o (i (o (i (o z))))))) (.some (i (i (o (i (o z)))))) (Gd.on (i (o (o (i (o z))))) false) [],
   .mk (faR 5 (X.t (o z))) (.some (o (o (i (i (o z)))))) (Gd.on (i (o (o (i (o z))))) false) [],
   .mk (ldR false 1 (X.t (o (o (i (i (o z))))))) (.some (i (o (i (i (o z)))))) (Gd.on (i (o (o (i (o z))))) false) [],
   .mk (callS Tryz.prog 64 [(X.t (i (i (o (i (o z)))))), (X.t (i (o (i (i (o z))))))]) (.some (o (i (i (i (o z)))))) (Gd.on (i (o (o (i (o z))))) false) [],
   .mk (unR UnOp.not (X.t (o (i (i (i (o z))))))) (.some (i (i (i (i (o z)))))) (Gd.on (i (o (o (i (o z))))) false) [],
   .mk (pickR (X.t (i (o (o (i (o z)))))) (X.c (AV.bool true)) (X.t (i (i (i (i (o z))))))) (.some (o (o (o (o (i z)))))) Gd.no [],
   .mk (mvR (X.t (o (o (o (o (i z))))))) (.some (o (o (i (o (o z)))))) Gd.no []])
  (.cond (X.t (o (o (i (o (o z))))))
  (.exit 3)
  .skip))
  (.seq (.region [.mk (faR 7 (X.t (o z))) (.some (o (i (o (o (i z)))))) Gd.no [],
   .mk (ldR false 1 (X.t (o (i (o (o (i z))))))) (.some (i (i (o (o (i z)))))) Gd.no [],
   .mk (callS Tryz.prog 65 [(X.t (i (i (o (o (i z))))))]) (.some (o (o (i (o (i z)))))) Gd.no [],
   .mk (unR UnOp.not (X.t (o (o (i (o (i z))))))) (.some (i (o (i (o (i z)))))) Gd.no [],
   .mk (mvR (X.t (i (o (i (o (i z))))))) (.some (i (o (o (o (i z)))))) Gd.no []])
  (.cond (X.t (i (o (o (o (i z))))))
  (.exit 4)
  .skip)))))
  (.exit 0))))))
  (.seq (.seq (.region [.mk (mvR (X.c (AV.bool false))) (.some (i z)) Gd.no []])
  .ret)
  (.exit 0))))
  (.seq (.region [.mk (mvR (X.c (AV.bool true))) (.some (i z)) Gd.no []])
  .ret))))
theorem C22ok : (match Tryz.f22.body with | some c => comp Tryz.prog 53 c | none => none) = some C22 := by kernel_rfl
@[go_sem] theorem call22 (args : List AV) (H : Heap) : callC Tryz.prog 22 args H = .call 22 args := callC_ok (by kernel_rfl) args H
theorem R22ok : resKs Tryz.prog Tryz.f22.results.toList = some [(RK.tmp (i z))] := by kernel_rfl

@[go_sem] theorem call26 (args : List AV) (H : Heap) : callC Tryz.prog 26 args H = .call 26 args := callC_ok (by kernel_rfl) args H
@[go_sem] theorem call28 (args : List AV) (H : Heap) : callC Tryz.prog 28 args H = .call 28 args := callC_ok (by kernel_rfl) args H
@[go_sem] theorem call31 (args : List AV) (H : Heap) : callC Tryz.prog 31 args H = .call 31 args := callC_ok (by kernel_rfl) args H
@[go_sem] theorem call32 (args : List AV) (H : Heap) : callC Tryz.prog 32 args H = .call 32 args := callC_ok (by kernel_rfl) args H
@[go_sem] theorem call33 (args : List AV) (H : Heap) : callC Tryz.prog 33 args H = .call 33 args := callC_ok (by kernel_rfl) args H
@[go_sem] theorem call35 (args : List AV) (H : Heap) : callC Tryz.prog 35 args H = .call 35 args := callC_ok (by kernel_rfl) args H
noncomputable def C37L0 : CC :=
  (.seq (.region [.mk (binR Tryz.prog EK.no .none false BinOp.lss (X.t (o (o (o (o (o z)))))) (X.t (i (i (i (i z)))))) (.some (i (o (o (o (o z)))))) Gd.no []])
  (.seq (.cond (X.t (i (o (o (o (o z))))))
  .skip
  (.exit 2))
  (.seq (.block 3 (.seq (.region [.mk (mvR (X.t (o (o (o (o (o z))))))) (.some (o (i (o (o (o z)))))) Gd.no [],
   .mk (mvR (X.t (o (i (o (o (o z))))))) (.some (i (o (i z)))) Gd.no []])
  (.seq (.regionD [.mk (keepH (faR 0 (X.t (o (o (i z)))))) (.some (o (o (o (i (o z)))))) Gd.no [],
   .mk (keepH (ldR false 1 (X.t (o (o (o (i (o z)))))))) (.some (i (o (o (i (o z)))))) Gd.no [],
   .mk (keepH (mvR (X.t (i (o (i z)))))) (.some (o (o (i (o (o z)))))) Gd.no [],
   .mk (keepH (mvR (X.t (o (i (o z)))))) (.some (i (i (o (o (o z)))))) Gd.no [],
   .mk (keepH (iaS 5 (X.t (i (i (o (o (o z)))))) (X.t (o (o (i (o (o z)))))))) (.some (i (o (i (o (o z)))))) Gd.no [],
   .mk (keepH (faR 0 (X.t (i (o (i (o (o z)))))))) (.some (o (i (i (o (o z)))))) Gd.no [],
   .mk (keepH (ldR false 1 (X.t (o (i (i (o (o z)))))))) (.some (i (i (i (o (o z)))))) Gd.no [],
   .mk (keepH (binR Tryz.prog EK.no .none false BinOp.eql (X.t (i (i (i (o (o z)))))) (X.t (i (o (o (i (o z)))))))) (.some (o (i (o (i (o z)))))) Gd.no []])
  (.cond (X.t (o (i (o (i (o z))))))
  (.regionD [.mk (keepH (faR 1 (X.t (o (o (i z)))))) (.some (o (i (o (o (i z)))))) Gd.no [],
   .mk (keepH (ldR false 1 (X.t (o (i (o (o (i z)))))))) (.some (i (i (o (o (i z)))))) Gd.no [],
   .mk (keepH (mvR (X.t (i (o (i z)))))) (.some (o (i (i (i (o z)))))) Gd.no [],
   .mk (keepH (mvR (X.t (o (i (o z)))))) (.some (i (o (i (i (o z)))))) Gd.no [],
   .mk (keepH (iaS 5 (X.t (i (o (i (i (o z)))))) (X.t (o (i (i (i (o z)))))))) (.some (i (i (i (i (o z)))))) Gd.no [],
   .mk (keepH (faR 4 (X.t (i (i (i (i (o z)))))))) (.some (o (o (o (o (i z)))))) Gd.no [],
   .mk (keepH (ldR false 1 (X.t (o (o (o (o (i z)))))))) (.some (i (o (o (o (i z)))))) Gd.no [],
   .mk (keepH (mmR true (X.t (i (o (o (o (i z)))))) (X.t (i (i (o (o (i z)))))))) (.some (o (o (i (o (i z)))))) Gd.no [],
   .mk (keepH (mvR (X.t (i (o (i z)))))) (.some (o (o (i (i (o z)))))) Gd.no [],
   .mk (keepH (mvR (X.t (o (i (o z)))))) (.some (i (i (o (i (o z)))))) Gd.no [],
   .mk (keepH (iaS 5 (X.t (i (i (o (i (o z)))))) (X.t (o (o (i (i (o z)))))))) (.some (i (o (i (o (i z)))))) Gd.no [],
   .mk (keepH (faR 4 (X.t (i (o (i (o (i z)))))))) (.some (o (i (i (o (i z)))))) Gd.no [],
   .mk (stR 1 (X.t (o (i (i (o (i z)))))) (X.t (o (o (i (o (i z))))))) .none Gd.no []])
  .skip))))
  (.region [.mk (binR Tryz.prog EK.no .none true BinOp.add (X.t (o (o (o (o (o z)))))) (X.c (AV.int .i64 1))) (.some (i (i (i (o (i z)))))) Gd.no [],
   .mk (mvR (X.t (i (i (i (o (i z))))))) (.some (o (o (o (o (o z)))))) Gd.no []]))))
noncomputable def C37L1 : CC :=
  (.seq (.region [.mk (binR Tryz.prog EK.no .none false BinOp.lss (X.t (o (i (o (i z))))) (X.t (i (o (o (i z)))))) (.some (i (i (o (i z))))) Gd.no []])
  (.seq (.cond (X.t (i (i (o (i z)))))
  .skip
  (.exit 0))
  (.seq (.block 1 (.seq (.region [.mk (iaS 4 (X.t (o (o (o (i z))))) (X.t (o (i (o (i z)))))) (.some (o (o (i (i z))))) Gd.no [],
   .mk (ldR true 4 (X.t (o (o (i (i z)))))) (.some (i (o (i (i z))))) Gd.no [],
   .mk (fun _ H => newC false [(AV.str []), (AV.int .i64 0), (AV.str []), (AV.bool false)] H) (.some (o (o (i z)))) Gd.no [],
   .mk (stR 4 (X.t (o (o (i z)))) (X.t (i (o (i (i z)))))) .none Gd.no []])
  (.seq (.region [.mk (mvR (X.t (o (i (o z))))) (.some (o (i (i (i z))))) Gd.no [],
   .mk (lenR LnK.slice (X.t (o (i (i (i z)))))) (.some (i (i (i (i z))))) Gd.no [],
   .mk (mvR (X.c (AV.int .i64 0))) (.some (o (o (o (o (o z)))))) Gd.no []])
  (.block 2 (.loop C37L0)))))
  (.region [.mk (binR Tryz.prog EK.no .none true BinOp.add (X.t (o (i (o (i z))))) (X.c (AV.int .i64 1))) (.some (o (o (o (i (i z)))))) Gd.no [],
   .mk (mvR (X.t (o (o (o (i (i z))))))) (.some (o (i (o (i z))))) Gd.no []]))))
noncomputable def C37 : CC :=
  (.seq (.region [.mk (mvR (X.c AV.nils)) (.some (i (i z))) Gd.no [],
   .mk (mvR (X.c AV.nils)) (.some (o (o (o z)))) Gd.no []])
  (.seq (.region [.mk (mvR (X.t z)) (.some (o (i (i z)))) Gd.no [],
   .mk (lenR LnK.slice (X.t (o (i (i z))))) (.some (i (i (i z)))) Gd.no [],
   .mk (mvR (X.t (i z))) (.some (o (o (o (o z))))) Gd.no [],
   .mk (mmR true (X.t (o (o (o (o z))))) (X.c (AV.int .i64 0))) (.some (i (o (o (o z))))) Gd.no [],
   .mk (binR Tryz.prog EK.no .none false BinOp.sub (X.t (i (i (i z)))) (X.t (i (o (o (o z)))))) (.some (o (i (o (o z))))) Gd.no [],
   .mk (mmR true (X.t (o (i (o (o z))))) (X.c (AV.int .i64 0))) (.some (i (i (o (o z))))) Gd.no [],
   .mk (mvR (X.t (i (i (o (o z)))))) (.some (i (o (o z)))) Gd.no []])
  (.seq (.region [.mk (mvR (X.t (o z))) (.some (o (o (i (o z))))) Gd.no [],
   .mk (callS Tryz.prog 80 [(X.t (o (o (i (o z)))))]) (.some (i (o (i (o z))))) Gd.no [],
   .mk (mvR (X.t (i (o (i (o z)))))) (.some (o (i (o z)))) Gd.no []])
  (.seq (.seq (.region [.mk (mvR (X.t z)) (.some (o (i (i (o z))))) Gd.no [],
   .mk (mvR (X.t (i (o (o z))))) (.some (i (i (i (o z))))) Gd.no [],
   .mk (slvR 4 (X.t (o (i (i (o z))))) .none (.some (X.t (i (i (i (o z)))))) .none) (.some (o (o (o (i z))))) Gd.no [],
   .mk (lenR LnK.slice (X.t (o (o (o (i z)))))) (.some (i (o (o (i z))))) Gd.no [],
   .mk (mvR (X.c (AV.int .i64 0))) (.some (o (i (o (i z))))) Gd.no []])
  (.block 0 (.loop C37L1)))
  (.seq (.region [.mk (mvR (X.t z)) (.some (i (o (o (i (i z)))))) Gd.no [],
   .mk (mvR (X.t (i (o (o z))))) (.some (o (i (o (i (i z)))))) Gd.no [],
   .mk (slvR 4 (X.t (i (o (o (i (i z)))))) (.some (X.t (o (i (o (i (i z))))))) .none .none) (.some (i (i (o (i (i z)))))) Gd.no [],
   .mk (callS Tryz.prog 81 [(X.t (i (i (o (i (i z))))))]) (.some (o (o (i (i (i z)))))) Gd.no [],
   .mk (mvR (X.t (o (i (o z))))) (.some (i (o (i (i (i z)))))) Gd.no [],
   .mk (mvR (X.t (o (o (i (i (i z))))))) (.some (i (i z))) Gd.no [],
   .mk (mvR (X.t (i (o (i (i (i z))))))) (.some (o (o (o z)))) Gd.no []])
  .ret)))))
theorem C37ok : (match Tryz.f37.body with | some c => comp Tryz.prog 61 c | none => none) = some C37 := by kernel_rfl
@[go_sem] theorem call37 (args : List AV) (H : Heap) : callC Tryz.prog 37 args H = .call 37 args := callC_ok (by kernel_rfl) args H
theorem R37ok : resKs Tryz.prog Tryz.f37.results.toList = some [(RK.tmp (i (i z))), (RK.tmp (o (o (o z))))] := by kernel_rfl

@[go_sem] theorem call38 (args : List AV) (H : Heap) : callC Tryz.prog 38 args H = .call 38 args := callC_ok (by kernel_rfl) args H
@[go_sem] theorem call43 (args : List AV) (H : Heap) : callC Tryz.prog 43 args H = .call 43 args := callC_ok (by kernel_rfl) args H
@[go_sem] theorem call45 (args : List AV) (H : Heap) : callC Tryz.prog 45 args H = .call 45 args := callC_ok (by kernel_rfl) args H
noncomputable def C60 : CC :=
  (.seq (.region [.mk (boxR false (X.t z)) (.some (i z)) Gd.no [],
   .mk (mvR (X.c (AV.bool false))) (.some (o (o z))) Gd.no []])
  (.seq (.region [.mk (faR 2 (X.t (o z))) (.some (i (o z))) Gd.no [],
   .mk (ldR true 2 (X.t (i (o z)))) (.some (o (i z))) Gd.no [],
   .mk (faR 0 (X.t (i z))) (.some (i (i z))) Gd.no [],
   .mk (ldR false 1 (X.t (i (i z)))) (.some (o (o (o z)))) Gd.no [],
   .mk (callS Tryz.prog 61 [(X.t (o (i z))), (X.t (o (o (o z))))]) (.some (i (o (o z)))) Gd.no [],
   .mk (unR UnOp.not (X.t (i (o (o z))))) (.some (o (i (o z)))) Gd.no [],
   .mk (mvR (X.t (o (i (o z))))) (.some (o (o z))) Gd.no []])
  .ret))
theorem C60ok : (match Tryz.f60.body with | some c => comp Tryz.prog 10 c | none => none) = some C60 := by kernel_rfl
@[go_sem] theorem call60 (args : List AV) (H : Heap) : callC Tryz.prog 60 args H = .call 60 args := callC_ok (by kernel_rfl) args H
theorem R60ok : resKs Tryz.prog Tryz.f60.results.toList = some [(RK.tmp (o (o z)))] := by kernel_rfl

noncomputable def C63 : CC :=
  (.seq (.region [.mk (mvR (X.c (AV.bool false))) (.some (i (o z))) Gd.no []])
  (.seq (.region [.mk (mvR (X.t z)) (.some (o (i z))) Gd.no [],
   .mk (mvR (X.t (o z))) (.some (i (i z))) Gd.no [],
   .mk (callS Tryz.prog 114 [(X.t (o (i z))), (X.t (i (i z)))]) (.some (o (o (o z)))) Gd.no [],
   .mk (binR Tryz.prog EK.no .none true BinOp.geq (X.t (o (o (o z)))) (X.c (AV.int .i64 0))) (.some (i (o (o z)))) Gd.no [],
   .mk (mvR (X.t (i (o (o z))))) (.some (i (o z))) Gd.no []])
  .ret))
theorem C63ok : (match Tryz.f63.body with | some c => comp Tryz.prog 9 c | none => none) = some C63 := by kernel_rfl
@[go_sem] theorem call63 (args : List AV) (H : Heap) : callC Tryz.prog 63 args H = .call 63 args := callC_ok (by kernel_rfl) args H
theorem R63ok : resKs Tryz.prog Tryz.f63.results.toList = some [(RK.tmp (i (o z)))] := by kernel_rfl

noncomputable def C64L0 : CC :=
  (.seq (.region [.mk (binR Tryz.prog EK.no .none false BinOp.lss (X.t (i (i (i z)))) (X.t (o (i (i z))))) (.some (o (o (o (o z))))) Gd.no []])
  (.seq (.cond (X.t (o (o (o (o z)))))
  .skip
  (.exit 0))
  (.seq (.block 1 (.seq (.region [.mk (iaS 4 (X.t (i (o (i z)))) (X.t (i (i (i z))))) (.some (i (o (o (o z))))) Gd.no [],
   .mk (ldR true 4 (X.t (i (o (o (o z)))))) (.some (o (i (o (o z))))) Gd.no [],
   .mk (fun _ H => newC false [(AV.str []), (AV.int .i64 0), (AV.str []), (AV.bool false)] H) (.some (i (i z))) Gd.no [],
   .mk (stR 4 (X.t (i (i z))) (X.t (o (i (o (o z)))))) .none Gd.no []])
  (.seq (.region [.mk (mvR (X.t (o z))) (.some (o (o (i (o z))))) Gd.no [],
   .mk (faR 0 (X.t (i (i z)))) (.some (i (o (i (o z))))) Gd.no [],
   .mk (ldR false 1 (X.t (i (o (i (o z)))))) (.some (o (i (i (o z))))) Gd.no [],
   .mk (callS Tryz.prog 106 [(X.t (o (o (i (o z))))), (X.t (o (i (i (o z)))))]) (.some (i (i (i (o z))))) Gd.no [],
   .mk (mvR (X.t (i (i (i (o z)))))) (.some (i (i (o (o z))))) Gd.no [],
   .mk (extR (X.t (i (i (o (o z))))) 0) (.some (o (o (o (i z))))) Gd.no [],
   .mk (extR (X.t (i (i (o (o z))))) 1) (.some (i (o (o (i z))))) Gd.no [],
   .mk (fun _ H => newC false [(AV.str []), (AV.str []), (AV.int .i64 0), (AV.bool false), (AV.int .i64 0)] H) (.some (o (o (o z)))) Gd.no [],
   .mk (stR 5 (X.t (o (o (o z)))) (X.t (o (o (o (i z)))))) .none Gd.no [],
   .mk (mvR (X.t (i (o (o (i z)))))) (.some (i (o (o z)))) Gd.no []])
  (.block 2 (.seq (.block 4 (.block 3 (.seq (.seq (.seq (.region [.mk (mvR (X.t (i (o (o z))))) (.some (i (i (o (i z))))) Gd.no [],
   .mk (unR UnOp.not (X.t (i (i (o (i z)))))) (.some (o (o (i (i z))))) Gd.no [],
   .mk (mvR (X.t (o (o (i (i z)))))) (.some (o (i (o (i z))))) Gd.no []])
  (.cond (X.t (o (i (o (i z)))))
  (.exit 3)
  .skip))
  (.seq (.region [.mk (ldR true 4 (X.t (i (i z)))) (.some (o (i (i (i z))))) Gd.no [],
   .mk (callS Tryz.prog 116 [(X.t (o (i (i (i z)))))]) (.some (i (i (i (i z))))) Gd.no [],
   .mk (unR UnOp.not (X.t (i (i (i (i z)))))) (.some (o (o (o (o (o z)))))) Gd.no [],
   .mk (mvR (X.t (o (o (o (o (o z))))))) (.some (i (o (i (i z))))) Gd.no []])
  (.cond (X.t (i (o (i (i z)))))
  (.exit 4)
  .skip)))
  (.exit 2))))
  (.seq (.seq (.region [.mk (mvR (X.c (AV.bool false))) (.some (i (o z))) Gd.no []])
  .ret)
  (.exit 2)))))))
  (.region [.mk (binR Tryz.prog EK.no .none true BinOp.add (X.t (i (i (i z)))) (X.c (AV.int .i64 1))) (.some (i (o (o (o (o z)))))) Gd.no [],
   .mk (mvR (X.t (i (o (o (o (o z))))))) (.some (i (i (i z)))) Gd.no []]))))
noncomputable def C64 : CC :=
  (.seq (.region [.mk (boxR false (X.t z)) (.some (i z)) Gd.no [],
   .mk (mvR (X.c (AV.bool false))) (.some (i (o z))) Gd.no []])
  (.seq (.seq (.region [.mk (mvR (X.t (o z))) (.some (o (i (o z)))) Gd.no [],
   .mk (callS Tryz.prog 115 [(X.t (o (i (o z))))]) (.some (i (i (o z)))) Gd.no [],
   .mk (unR UnOp.not (X.t (i (i (o z))))) (.some (o (o (i z)))) Gd.no []])
  (.cond (X.t (o (o (i z))))
  (.seq (.region [.mk (mvR (X.c (AV.bool false))) (.some (i (o z))) Gd.no []])
  .ret)
  .skip))
  (.seq (.seq (.region [.mk (ldR false 1 (X.t (i z))) (.some (i (o (i z)))) Gd.no [],
   .mk (lenR LnK.slice (X.t (i (o (i z))))) (.some (o (i (i z)))) Gd.no [],
   .mk (mvR (X.c (AV.int .i64 0))) (.some (i (i (i z)))) Gd.no []])
  (.block 0 (.loop C64L0)))
  (.seq (.region [.mk (mvR (X.t (o z))) (.some (o (i (o (o (o z)))))) Gd.no [],
   .mk (mkfR (Fn.func 117) [] [(X.t (i z))]) (.some (i (i (o (o (o z)))))) Gd.no [],
   .mk (callS Tryz.prog 63 [(X.t (o (i (o (o (o z)))))), (X.t (i (i (o (o (o z))))))]) (.some (o (o (i (o (o z)))))) Gd.no [],
   .mk (unR UnOp.not (X.t (o (o (i (o (o z))))))) (.some (i (o (i (o (o z)))))) Gd.no [],
   .mk (mvR (X.t (i (o (i (o (o z))))))) (.some (i (o z))) Gd.no []])
  .ret))))
theorem C64ok : (match Tryz.f64.body with | some c => comp Tryz.prog 37 c | none => none) = some C64 := by kernel_rfl
@[go_sem] theorem call64 (args : List AV) (H : Heap) : callC Tryz.prog 64 args H = .call 64 args := callC_ok (by kernel_rfl) args H
theorem R64ok : resKs Tryz.prog Tryz.f64.results.toList = some [(RK.tmp (i (o z)))] := by kernel_rfl

noncomputable def C69 : CC :=
  (.seq (.region [.mk (boxR false (X.t z)) (.some (i z)) Gd.no [],
   .mk (boxR false (X.t (o z))) (.some (o (o z))) Gd.no [],
   .mk (fun _ H => newC false [(AV.str []), (AV.str [])] H) (.some (i (o z))) Gd.no [],
   .mk (mvR (X.c (AV.bool false))) (.some (o (i z))) Gd.no []])
  (.seq (.regionD [.mk (addH (fun _ H => newC false [(AV.str []), (AV.str [])] H)) (.some (i (i z))) Gd.no [],
   .mk (keepH (faR 1 (X.t (o (o z))))) (.some (i (i (i z)))) Gd.no [],
   .mk (keepH (ldR false 1 (X.t (i (i (i z)))))) (.some (o (o (o (o z))))) Gd.no [],
   .mk (keepH (faR 1 (X.t (i z)))) (.some (i (o (i z)))) Gd.no [],
   .mk (keepH (ldR false 1 (X.t (i (o (i z)))))) (.some (o (i (i z)))) Gd.no [],
   .mk (keepH (faR 0 (X.t (o (o z))))) (.some (o (i (o z)))) Gd.no [],
   .mk (keepH (ldR false 1 (X.t (o (i (o z)))))) (.some (i (i (o z)))) Gd.no [],
   .mk (keepH (faR 0 (X.t (i z)))) (.some (o (o (o z)))) Gd.no [],
   .mk (keepH (ldR false 1 (X.t (o (o (o z)))))) (.some (i (o (o z)))) Gd.no [],
   .mk (keepH (mmR true (X.t (i (o (o z)))) (X.t (i (i (o z)))))) (.some (o (o (i z)))) Gd.no [],
   .mk (callS Tryz.prog 122 [(X.t (o (i (i z)))), (X.t (o (o (o (o z)))))]) (.some (i (o (o (o z))))) Gd.no [.mk (mmR true (X.t (i (o (o z)))) (X.t (i (i (o z))))) (.some (o (o (i z)))) Gd.no, .mk (ldR false 1 (X.t (o (o (o z))))) (.some (i (o (o z)))) Gd.no, .mk (faR 0 (X.t (i z))) (.some (o (o (o z)))) Gd.no, .mk (ldR false 1 (X.t (o (i (o z))))) (.some (i (i (o z)))) Gd.no, .mk (faR 0 (X.t (o (o z)))) (.some (o (i (o z)))) Gd.no],
   .mk (keepH (buildR [(AV.str []), (AV.str [])] [(0, (1, (X.t (o (o (i z)))))), (1, (1, (X.t (i (o (o (o z)))))))])) (.some (o (i (o (o z))))) Gd.no [],
   .mk (stR 2 (X.t (i (i z))) (X.t (o (i (o (o z)))))) .none Gd.no []])
  (.seq (.seq (.region [.mk (ldR true 2 (X.t (i z))) (.some (i (i (o (o z))))) Gd.no [],
   .mk (callS Tryz.prog 62 [(X.t (i (i (o (o z)))))]) (.some (o (o (i (o z))))) Gd.no [],
   .mk (unR UnOp.not (X.t (o (o (i (o z)))))) (.some (i (o (i (o z))))) Gd.no [],
   .mk (mvR (X.t (i (o (i (o z)))))) (.some (o (i (i (o z))))) Gd.no [],
   .mk (ldR true 2 (X.t (o (o z)))) (.some (i (i (i (o z))))) (Gd.on (o (i (i (o z)))) false) [],
   .mk (callS Tryz.prog 62 [(X.t (i (i (i (o z)))))]) (.some (o (o (o (i z))))) (Gd.on (o (i (i (o z)))) false) [],
   .mk (unR UnOp.not (X.t (o (o (o (i z)))))) (.some (i (o (o (i z))))) (Gd.on (o (i (i (o z)))) false) [],
   .mk (pickR (X.t (o (i (i (o z))))) (X.c (AV.bool true)) (X.t (i (o (o (i z)))))) (.some (o (i (o (i z))))) Gd.no [],
   .mk (mvR (X.t (o (i (o (i z)))))) (.some (i (i (o (i z))))) Gd.no [],
   .mk (faR 1 (X.t (i (i z)))) (.some (o (o (i (i z))))) (Gd.on (i (i (o (i z)))) false) [],
   .mk (ldR false 1 (X.t (o (o (i (i z)))))) (.some (i (o (i (i z))))) (Gd.on (i (i (o (i z)))) false) [],
   .mk (binR Tryz.prog EK.no .none true BinOp.neq (X.t (i (o (i (i z))))) (X.c (AV.str []))) (.some (o (i (i (i z))))) (Gd.on (i (i (o (i z)))) false) [],
   .mk (mvR (X.t (o (i (i (i z)))))) (.some (i (i (i (i z))))) (Gd.on (i (i (o (i z)))) false) [],
   .mk (faR 0 (X.t (i (i z)))) (.some (o (o (o (o (o z)))))) (Gd.on (i (i (i (i z)))) true) [],
   .mk (ldR false 1 (X.t (o (o (o (o (o z))))))) (.some (i (o (o (o (o z)))))) (Gd.on (i (i (i (i z)))) true) [],
   .mk (faR 1 (X.t (i (i z)))) (.some (o (i (o (o (o z)))))) (Gd.on (i (i (i (i z)))) true) [],
   .mk (ldR false 1 (X.t (o (i (o (o (o z))))))) (.some (i (i (o (o (o z)))))) (Gd.on (i (i (i (i z)))) true) [],
   .mk (binR Tryz.prog EK.no .none false BinOp.geq (X.t (i (o (o (o (o z)))))) (X.t (i (i (o (o (o z))))))) (.some (o (o (i (o (o z)))))) (Gd.on (i (i (i (i z)))) true) [],
   .mk (pickR (X.t (i (i (i (i z))))) (X.t (o (o (i (o (o z)))))) (X.c (AV.bool false))) (.some (i (o (i (o (o z)))))) (Gd.on (i (i (o (i z)))) false) [],
   .mk (pickR (X.t (i (i (o (i z))))) (X.c (AV.bool true)) (X.t (i (o (i (o (o z))))))) (.some (o (i (i (o (o z)))))) Gd.no []])
  (.cond (X.t (o (i (i (o (o z))))))
  (.seq (.region [.mk (buildR [(AV.str []), (AV.str [])] []) (.some (i (i (i (o (o z)))))) Gd.no [],
   .mk (stR 2 (X.t (i (o z))) (X.t (i (i (i (o (o z))))))) .none Gd.no [],
   .mk (mvR (X.c (AV.bool false))) (.some (o (i z))) Gd.no []])
  .ret)
  .skip))
  (.seq (.region [.mk (ldR true 2 (X.t (i (i z)))) (.some (o (o (o (i (o z)))))) Gd.no [],
   .mk (stR 2 (X.t (i (o z))) (X.t (o (o (o (i (o z))))))) .none Gd.no [],
   .mk (mvR (X.c (AV.bool true))) (.some (o (i z))) Gd.no []])
  .ret))))
theorem C69ok : (match Tryz.f69.body with | some c => comp Tryz.prog 40 c | none => none) = some C69 := by kernel_rfl
@[go_sem] theorem call69 (args : List AV) (H : Heap) : callC Tryz.prog 69 args H = .call 69 args := callC_ok (by kernel_rfl) args H
theorem R69ok : resKs Tryz.prog Tryz.f69.results.toList = some [(RK.cell (i (o z)) true 2), (RK.tmp (o (i z)))] := by kernel_rfl

noncomputable def C114L0 : CC :=
  (.seq (.region [.mk (binR Tryz.prog EK.no .none false BinOp.lss (X.t (i (o (o z)))) (X.t (o (o (o z))))) (.some (o (i (o z)))) Gd.no []])
  (.seq (.cond (X.t (o (i (o z))))
  .skip
  (.exit 0))
  (.seq (.block 1 (.seq (.region [.mk (mvR (X.t (i (o (o z))))) (.some (i (i (o z)))) Gd.no [],
   .mk (mvR (X.t (i (i (o z))))) (.some (o (i z))) Gd.no []])
  (.seq (.region [.mk (mvR (X.t (o z))) (.some (o (o (i z)))) Gd.no [],
   .mk (mvR (X.t z)) (.some (i (o (i z)))) Gd.no [],
   .mk (mvR (X.t (o (i z)))) (.some (o (i (i z)))) Gd.no [],
   .mk (iaS 5 (X.t (i (o (i z)))) (X.t (o (i (i z))))) (.some (i (i (i z)))) Gd.no [],
   .mk (ldR true 5 (X.t (i (i (i z))))) (.some (o (o (o (o z))))) Gd.no [],
   .mk (callX Tryz.prog (X.t (o (o (i z)))) [(X.t (o (o (o (o z)))))]) (.some (i (o (o (o z))))) Gd.no []])
  (.cond (X.t (i (o (o (o z)))))
  (.seq (.region [.mk (mvR (X.t (o (i z)))) (.some (o (i (o (o z))))) Gd.no [],
   .mk (mvR (X.t (o (i (o (o z)))))) (.some (i (o z))) Gd.no []])
  .ret)
  .skip))))
  (.region [.mk (binR Tryz.prog EK.no .none true BinOp.add (X.t (i (o (o z)))) (X.c (AV.int .i64 1))) (.some (i (i (o (o z))))) Gd.no [],
   .mk (mvR (X.t (i (i (o (o z)))))) (.some (i (o (o z)))) Gd.no []]))))
noncomputable def C114 : CC :=
  (.seq (.region [.mk (mvR (X.c (AV.int .i64 0))) (.some (i (o z))) Gd.no []])
  (.seq (.seq (.region [.mk (mvR (X.t z)) (.some (i (i z))) Gd.no [],
   .mk (lenR LnK.slice (X.t (i (i z)))) (.some (o (o (o z)))) Gd.no [],
   .mk (mvR (X.c (AV.int .i64 0))) (.some (i (o (o z)))) Gd.no []])
  (.block 0 (.loop C114L0)))
  (.seq (.region [.mk (mvR (X.c (AV.int .i64 (-1)))) (.some (i (o z))) Gd.no []])
  .ret)))
theorem C114ok : (match Tryz.f114.body with | some c => comp Tryz.prog 19 c | none => none) = some C114 := by kernel_rfl
@[go_sem] theorem call114 (args : List AV) (H : Heap) : callC Tryz.prog 114 args H = .call 114 args := callC_ok (by kernel_rfl) args H
theorem R114ok : resKs Tryz.prog Tryz.f114.results.toList = some [(RK.tmp (i (o z)))] := by kernel_rfl

noncomputable def C116 : CC :=
  (.seq (.region [.mk (boxR false (X.t z)) (.some (o z)) Gd.no [],
   .mk (mvR (X.c (AV.bool false))) (.some (i z)) Gd.no []])
  (.seq (.region [.mk (faR 0 (X.t (o z))) (.some (o (o z))) Gd.no [],
   .mk (ldR false 1 (X.t (o (o z)))) (.some (i (o z))) Gd.no [],
   .mk (faR 2 (X.t (o z))) (.some (o (i z))) Gd.no [],
   .mk (ldR false 1 (X.t (o (i z)))) (.some (i (i z))) Gd.no [],
   .mk (faR 1 (X.t (o z))) (.some (o (o (o z)))) Gd.no [],
   .mk (ldR false 1 (X.t (o (o (o z))))) (.some (i (o (o z)))) Gd.no [],
   .mk (faR 3 (X.t (o z))) (.some (o (i (o z)))) Gd.no [],
   .mk (ldR false 1 (X.t (o (i (o z))))) (.some (i (i (o z)))) Gd.no [],
   .mk (callS Tryz.prog 142 [(X.t (i (o z))), (X.t (i (i z))), (X.t (i (o (o z)))), (X.t (i (i (o z))))]) (.some (o (o (i z)))) Gd.no [],
   .mk (mvR (X.t (o (o (i z))))) (.some (i z)) Gd.no []])
  .ret))
theorem C116ok : (match Tryz.f116.body with | some c => comp Tryz.prog 12 c | none => none) = some C116 := by kernel_rfl
@[go_sem] theorem call116 (args : List AV) (H : Heap) : callC Tryz.prog 116 args H = .call 116 args := callC_ok (by kernel_rfl) args H
theorem R116ok : resKs Tryz.prog Tryz.f116.results.toList = some [(RK.tmp (i z))] := by kernel_rfl

noncomputable def C117 : CC :=
  (.seq (.region [.mk (boxR false (X.t z)) (.some (i z)) Gd.no [],
   .mk (mvR (X.c (AV.bool false))) (.some (o (o z))) Gd.no []])
  (.seq (.region [.mk (ldR false 1 (X.t (o z))) (.some (i (o z))) Gd.no [],
   .mk (ldR true 5 (X.t (i z))) (.some (o (i z))) Gd.no [],
   .mk (callS Tryz.prog 118 [(X.t (i (o z))), (X.t (o (i z)))]) (.some (i (i z))) Gd.no [],
   .mk (unR UnOp.not (X.t (i (i z)))) (.some (o (o (o z)))) Gd.no [],
   .mk (mvR (X.t (o (o (o z))))) (.some (o (o z))) Gd.no []])
  .ret))
theorem C117ok : (match Tryz.f117.body with | some c => comp Tryz.prog 8 c | none => none) = some C117 := by kernel_rfl
@[go_sem] theorem call117 (args : List AV) (H : Heap) : callC Tryz.prog 117 args H = .call 117 args := callC_ok (by kernel_rfl) args H
theorem R117ok : resKs Tryz.prog Tryz.f117.results.toList = some [(RK.tmp (o (o z)))] := by kernel_rfl

noncomputable def C118L0 : CC :=
  (.seq (.region [.mk (binR Tryz.prog EK.no .none false BinOp.lss (X.t (i (i (o (o z))))) (X.t (o (i (o (o z)))))) (.some (o (o (i (o z))))) Gd.no []])
  (.seq (.cond (X.t (o (o (i (o z)))))
  .skip
  (.exit 0))
  (.seq (.block 1 (.seq (.region [.mk (iaS 4 (X.t (i (o (o (o z))))) (X.t (i (i (o (o z)))))) (.some (i (o (i (o z))))) Gd.no [],
   .mk (ldR true 4 (X.t (i (o (i (o z)))))) (.some (o (i (i (o z))))) Gd.no [],
   .mk (fun _ H => newC false [(AV.str []), (AV.int .i64 0), (AV.str []), (AV.bool false)] H) (.some (i (o (o z)))) Gd.no [],
   .mk (stR 4 (X.t (i (o (o z)))) (X.t (o (i (i (o z)))))) .none Gd.no []])
  (.seq (.seq (.region [.mk (faR 0 (X.t (i (o (o z))))) (.some (i (i (i (o z))))) Gd.no [],
   .mk (ldR false 1 (X.t (i (i (i (o z)))))) (.some (o (o (o (i z))))) Gd.no [],
   .mk (faR 0 (X.t (o (o z)))) (.some (i (o (o (i z))))) Gd.no [],
   .mk (ldR false 1 (X.t (i (o (o (i z)))))) (.some (o (i (o (i z))))) Gd.no [],
   .mk (binR Tryz.prog EK.no .none false BinOp.neq (X.t (o (o (o (i z))))) (X.t (o (i (o (i z)))))) (.some (i (i (o (i z))))) Gd.no []])
  (.cond (X.t (i (i (o (i z)))))
  (.exit 1)
  .skip))
  (.seq (.seq (.region [.mk (faR 1 (X.t (i (o (o z))))) (.some (o (o (i (i z))))) Gd.no [],
   .mk (ldR false 1 (X.t (o (o (i (i z)))))) (.some (i (o (i (i z))))) Gd.no [],
   .mk (mvR (X.t (o (i z)))) (.some (o (i (i (i z))))) Gd.no [],
   .mk (binR Tryz.prog EK.no .none true BinOp.add (X.t (o (i (i (i z))))) (X.c (AV.int .i64 1))) (.some (i (i (i (i z))))) Gd.no [],
   .mk (binR Tryz.prog EK.no .none false BinOp.neq (X.t (i (o (i (i z))))) (X.t (i (i (i (i z)))))) (.some (o (o (o (o (o z)))))) Gd.no []])
  (.cond (X.t (o (o (o (o (o z))))))
  (.seq (.region [.mk (mvR (X.c (AV.bool false))) (.some (i (o z))) Gd.no []])
  .ret)
  .skip))
  (.regionD [.mk (keepH (ldR true 4 (X.t (i (o (o z)))))) (.some (i (i (o (o (o z)))))) Gd.no [],
   .mk (keepH (faR 1 (X.t (i (o (o z)))))) (.some (i (o (o (o (o z)))))) Gd.no [],
   .mk (keepH (ldR false 1 (X.t (i (o (o (o (o z)))))))) (.some (o (i (o (o (o z)))))) Gd.no [],
   .mk (mvR (X.t (o (i (o (o (o z))))))) (.some (o (i z))) Gd.no [.mk (ldR true 4 (X.t (i (o (o z))))) (.some (i (i (o (o (o z)))))) Gd.no],
   .mk (stR 4 (X.t (i (i z))) (X.t (i (i (o (o (o z))))))) .none Gd.no []])))))
  (.region [.mk (binR Tryz.prog EK.no .none true BinOp.add (X.t (i (i (o (o z))))) (X.c (AV.int .i64 1))) (.some (o (o (i (o (o z)))))) Gd.no [],
   .mk (mvR (X.t (o (o (i (o (o z))))))) (.some (i (i (o (o z))))) Gd.no []]))))
noncomputable def C118 : CC :=
  (.seq (.region [.mk (boxR false (X.t (o z))) (.some (o (o z))) Gd.no [],
   .mk (mvR (X.c (AV.bool false))) (.some (i (o z))) Gd.no []])
  (.seq (.region [.mk (faR 4 (X.t (o (o z)))) (.some (o (i (o z)))) Gd.no [],
   .mk (ldR false 1 (X.t (o (i (o z))))) (.some (i (i (o z)))) Gd.no [],
   .mk (mvR (X.t (i (i (o z))))) (.some (o (i z))) Gd.no []])
  (.seq (.region [.mk (faR 1 (X.t (o (o z)))) (.some (o (o (i z)))) Gd.no [],
   .mk (ldR false 1 (X.t (o (o (i z))))) (.some (i (o (i z)))) Gd.no [],
   .mk (faR 3 (X.t (o (o z)))) (.some (o (i (i z)))) Gd.no [],
   .mk (ldR false 1 (X.t (o (i (i z))))) (.some (i (i (i z)))) Gd.no [],
   .mk (buildR [(AV.str []), (AV.int .i64 0), (AV.str []), (AV.bool false)] [(2, (1, (X.t (i (o (i z)))))), (3, (1, (X.t (i (i (i z))))))]) (.some (o (o (o (o z))))) Gd.no [],
   .mk (fun _ H => newC false [(AV.str []), (AV.int .i64 0), (AV.str []), (AV.bool false)] H) (.some (i (i z))) Gd.no [],
   .mk (stR 4 (X.t (i (i z))) (X.t (o (o (o (o z)))))) .none Gd.no []])
  (.seq (.seq (.region [.mk (mvR (X.t z)) (.some (i (o (o (o z))))) Gd.no [],
   .mk (lenR LnK.slice (X.t (i (o (o (o z)))))) (.some (o (i (o (o z))))) Gd.no [],
   .mk (mvR (X.c (AV.int .i64 0))) (.some (i (i (o (o z))))) Gd.no []])
  (.block 0 (.loop C118L0)))
  (.seq (.region [.mk (mvR (X.t (o (i z)))) (.some (i (o (i (o (o z)))))) Gd.no [],
   .mk (faR 2 (X.t (o (o z)))) (.some (o (i (i (o (o z)))))) Gd.no [],
   .mk (ldR false 1 (X.t (o (i (i (o (o z))))))) (.some (i (i (i (o (o z)))))) Gd.no [],
   .mk (binR Tryz.prog EK.no .none false BinOp.eql (X.t (i (o (i (o (o z)))))) (X.t (i (i (i (o (o z))))))) (.some (o (o (o (i (o z)))))) Gd.no [],
   .mk (mvR (X.t (o (o (o (i (o z))))))) (.some (i (o (o (i (o z)))))) Gd.no [],
   .mk (faR 2 (X.t (i (i z)))) (.some (o (i (o (i (o z)))))) (Gd.on (i (o (o (i (o z))))) true) [],
   .mk (ldR false 1 (X.t (o (i (o (i (o z))))))) (.some (i (i (o (i (o z)))))) (Gd.on (i (o (o (i (o z))))) true) [],
   .mk (faR 1 (X.t (o (o z)))) (.some (o (o (i (i (o z)))))) (Gd.on (i (o (o (i (o z))))) true) [],
   .mk (ldR false 1 (X.t (o (o (i (i (o z))))))) (.some (i (o (i (i (o z)))))) (Gd.on (i (o (o (i (o z))))) true) [],
   .mk (binR Tryz.prog EK.no .none false BinOp.eql (X.t (i (i (o (i (o z)))))) (X.t (i (o (i (i (o z))))))) (.some (o (i (i (i (o z)))))) (Gd.on (i (o (o (i (o z))))) true) [],
   .mk (pickR (X.t (i (o (o (i (o z)))))) (X.t (o (i (i (i (o z)))))) (X.c (AV.bool false))) (.some (i (i (i (i (o z)))))) Gd.no [],
   .mk (mvR (X.t (i (i (i (i (o z))))))) (.some (o (o (o (o (i z)))))) Gd.no [],
   .mk (faR 3 (X.t (i (i z)))) (.some (i (o (o (o (i z)))))) (Gd.on (o (o (o (o (i z))))) true) [],
   .mk (ldR false 1 (X.t (i (o (o (o (i z))))))) (.some (o (i (o (o (i z)))))) (Gd.on (o (o (o (o (i z))))) true) [],
   .mk (faR 3 (X.t (o (o z)))) (.some (i (i (o (o (i z)))))) (Gd.on (o (o (o (o (i z))))) true) [],
   .mk (ldR false 1 (X.t (i (i (o (o (i z))))))) (.some (o (o (i (o (i z)))))) (Gd.on (o (o (o (o (i z))))) true) [],
   .mk (binR Tryz.prog EK.bool .none false BinOp.eql (X.t (o (i (o (o (i z)))))) (X.t (o (o (i (o (i z))))))) (.some (i (o (i (o (i z)))))) (Gd.on (o (o (o (o (i z))))) true) [],
   .mk (pickR (X.t (o (o (o (o (i z)))))) (X.t (i (o (i (o (i z)))))) (X.c (AV.bool false))) (.some (o (i (i (o (i z)))))) Gd.no [],
   .mk (mvR (X.t (o (i (i (o (i z))))))) (.some (i (o z))) Gd.no []])
  .ret)))))
theorem C118ok : (match Tryz.f118.body with | some c => comp Tryz.prog 54 c | none => none) = some C118 := by kernel_rfl
@[go_sem] theorem call118 (args : List AV) (H : Heap) : callC Tryz.prog 118 args H = .call 118 args := callC_ok (by kernel_rfl) args H
theorem R118ok : resKs Tryz.prog Tryz.f118.results.toList = some [(RK.tmp (i (o z)))] := by kernel_rfl

noncomputable def C122 : CC :=
  (.seq (.region [.mk (mvR (X.c (AV.str []))) (.some (i (o z))) Gd.no []])
  (.seq (.block 0 (.seq (.region [.mk (mvR (X.t z)) (.some (i (i z))) Gd.no [],
   .mk (binR Tryz.prog EK.no .none true BinOp.eql (X.t (i (i z))) (X.c (AV.str []))) (.some (o (o (o z)))) Gd.no [],
   .mk (mvR (X.t (o (o (o z))))) (.some (o (i z))) Gd.no []])
  (.cond (X.t (o (i z)))
  (.seq (.region [.mk (mvR (X.t (o z))) (.some (i (o (o z)))) Gd.no [],
   .mk (mvR (X.t (i (o (o z))))) (.some (i (o z))) Gd.no []])
  .ret)
  (.seq (.region [.mk (mvR (X.t (o z))) (.some (i (i (o z)))) Gd.no [],
   .mk (binR Tryz.prog EK.no .none true BinOp.eql (X.t (i (i (o z)))) (X.c (AV.str []))) (.some (o (o (i z)))) Gd.no [],
   .mk (mvR (X.t (o (o (i z))))) (.some (o (i (o z)))) Gd.no []])
  (.cond (X.t (o (i (o z))))
  (.seq (.region [.mk (mvR (X.t z)) (.some (i (o (i z)))) Gd.no [],
   .mk (mvR (X.t (i (o (i z))))) (.some (i (o z))) Gd.no []])
  .ret)
  .skip)))))
  (.seq (.region [.mk (mvR (X.t z)) (.some (o (i (i z)))) Gd.no [],
   .mk (mvR (X.t (o z))) (.some (i (i (i z)))) Gd.no [],
   .mk (mmR false (X.t (o (i (i z)))) (X.t (i (i (i z))))) (.some (o (o (o (o z))))) Gd.no [],
   .mk (mvR (X.t (o (o (o (o z)))))) (.some (i (o z))) Gd.no []])
  .ret)))
theorem C122ok : (match Tryz.f122.body with | some c => comp Tryz.prog 16 c | none => none) = some C122 := by kernel_rfl
@[go_sem] theorem call122 (args : List AV) (H : Heap) : callC Tryz.prog 122 args H = .call 122 args := callC_ok (by kernel_rfl) args H
theorem R122ok : resKs Tryz.prog Tryz.f122.results.toList = some [(RK.tmp (i (o z)))] := by kernel_rfl

@[go_sem] theorem call16 (args : List AV) (H : Heap) : callC Tryz.prog 16 args H = .call 16 args := callC_ok (by kernel_rfl) args H
end Go.Proofs
