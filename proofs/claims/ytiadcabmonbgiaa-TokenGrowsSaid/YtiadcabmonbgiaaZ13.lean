/- The laid-out code of the functions that are walked. Printed by a program. -/
import Derived.Test.YtiadcabmonbgiaaZ12
import Derived.Test.YtiadcabmonbgiaaProg
import Derived.KernelRfl
set_option linter.all false
set_option maxRecDepth 100000
namespace Go.Proofs
open Go Go.Ev
/- 12: estuary/estuarylaw12.fewCells -/
noncomputable def C12L0 : CC :=
  (.seq (.seq (.region [.mk (mvR (X.t (K.o (K.o K.z)))) (Option.some (K.i (K.o K.z))) Gd.no [],
   .mk (mvR (X.t K.z)) (Option.some (K.o (K.i K.z))) Gd.no [],
   .mk (lenR LnK.slice (X.t (K.o (K.i K.z)))) (Option.some (K.i (K.i K.z))) Gd.no [],
   .mk (binR Try.prog EK.no Option.none Bool.false BinOp.lss (X.t (K.i (K.o K.z))) (X.t (K.i (K.i K.z)))) (Option.some (K.o (K.o (K.o K.z)))) Gd.no []])
  (.cond (X.t (K.o (K.o (K.o K.z))))
  .skip
  (.exit 0)))
  (.seq (.block 1 (.seq (.region [.mk (mvR (X.t K.z)) (Option.some (K.i (K.i (K.o K.z)))) Gd.no [],
   .mk (mvR (X.t (K.o (K.o K.z)))) (Option.some (K.o (K.o (K.i K.z)))) Gd.no [],
   .mk (iaS 5 (X.t (K.i (K.i (K.o K.z)))) (X.t (K.o (K.o (K.i K.z))))) (Option.some (K.i (K.o (K.i K.z)))) Gd.no [],
   .mk (faR 0 (X.t (K.i (K.o (K.i K.z))))) (Option.some (K.o (K.i (K.i K.z)))) Gd.no [],
   .mk (ldR Bool.false 1 (X.t (K.o (K.i (K.i K.z))))) (Option.some (K.i (K.i (K.i K.z)))) Gd.no [],
   .mk (lenR LnK.str (X.t (K.i (K.i (K.i K.z))))) (Option.some (K.o (K.o (K.o (K.o K.z))))) Gd.no [],
   .mk (binR Try.prog EK.no Option.none Bool.true BinOp.gtr (X.t (K.o (K.o (K.o (K.o K.z))))) (X.c (AV.int IntKind.i64 20))) (Option.some (K.i (K.o (K.o (K.o K.z))))) Gd.no [],
   .mk (mvR (X.t (K.i (K.o (K.o (K.o K.z)))))) (Option.some (K.o (K.i (K.o (K.o K.z))))) Gd.no [],
   .mk (mvR (X.t K.z)) (Option.some (K.i (K.i (K.o (K.o K.z))))) (Gd.on (K.o (K.i (K.o (K.o K.z)))) Bool.false) [],
   .mk (mvR (X.t (K.o (K.o K.z)))) (Option.some (K.o (K.o (K.i (K.o K.z))))) (Gd.on (K.o (K.i (K.o (K.o K.z)))) Bool.false) [],
   .mk (iaS 5 (X.t (K.i (K.i (K.o (K.o K.z))))) (X.t (K.o (K.o (K.i (K.o K.z)))))) (Option.some (K.i (K.o (K.i (K.o K.z))))) (Gd.on (K.o (K.i (K.o (K.o K.z)))) Bool.false) [],
   .mk (faR 1 (X.t (K.i (K.o (K.i (K.o K.z)))))) (Option.some (K.o (K.i (K.i (K.o K.z))))) (Gd.on (K.o (K.i (K.o (K.o K.z)))) Bool.false) [],
   .mk (ldR Bool.false 1 (X.t (K.o (K.i (K.i (K.o K.z)))))) (Option.some (K.i (K.i (K.i (K.o K.z))))) (Gd.on (K.o (K.i (K.o (K.o K.z)))) Bool.false) [],
   .mk (lenR LnK.str (X.t (K.i (K.i (K.i (K.o K.z)))))) (Option.some (K.o (K.o (K.o (K.i K.z))))) (Gd.on (K.o (K.i (K.o (K.o K.z)))) Bool.false) [],
   .mk (binR Try.prog EK.no Option.none Bool.true BinOp.gtr (X.t (K.o (K.o (K.o (K.i K.z))))) (X.c (AV.int IntKind.i64 40))) (Option.some (K.i (K.o (K.o (K.i K.z))))) (Gd.on (K.o (K.i (K.o (K.o K.z)))) Bool.false) [],
   .mk (pickR (X.t (K.o (K.i (K.o (K.o K.z))))) (X.c (AV.bool Bool.true)) (X.t (K.i (K.o (K.o (K.i K.z)))))) (Option.some (K.o (K.i (K.o (K.i K.z))))) Gd.no []])
  (.cond (X.t (K.o (K.i (K.o (K.i K.z)))))
  (.seq (.region [.mk (mvR (X.c (AV.bool Bool.false))) (Option.some (K.i K.z)) Gd.no []])
  .ret)
  .skip)))
  (.region [.mk (mvR (X.t (K.o (K.o K.z)))) (Option.some (K.i (K.o (K.o K.z)))) Gd.no [],
   .mk (binR Try.prog EK.no Option.none Bool.true BinOp.add (X.t (K.i (K.o (K.o K.z)))) (X.c (AV.int IntKind.i64 1))) (Option.some (K.o (K.i (K.o K.z)))) Gd.no [],
   .mk (mvR (X.t (K.o (K.i (K.o K.z))))) (Option.some (K.o (K.o K.z))) Gd.no []])))
noncomputable def C12 : CC :=
  (.seq (.region [.mk (mvR (X.c (AV.bool Bool.false))) (Option.some (K.i K.z)) Gd.no []])
  (.seq (.seq (.region [.mk (mvR (X.c (AV.int IntKind.i64 0))) (Option.some (K.o (K.o K.z))) Gd.no []])
  (.block 0 (.loop C12L0)))
  (.seq (.region [.mk (mvR (X.t K.z)) (Option.some (K.i (K.i (K.o (K.i K.z))))) Gd.no [],
   .mk (lenR LnK.slice (X.t (K.i (K.i (K.o (K.i K.z)))))) (Option.some (K.o (K.o (K.i (K.i K.z))))) Gd.no [],
   .mk (binR Try.prog EK.no Option.none Bool.true BinOp.leq (X.t (K.o (K.o (K.i (K.i K.z))))) (X.c (AV.int IntKind.i64 30))) (Option.some (K.i (K.o (K.i (K.i K.z))))) Gd.no [],
   .mk (mvR (X.t (K.i (K.o (K.i (K.i K.z)))))) (Option.some (K.i K.z)) Gd.no []])
  .ret)))
theorem C12ok : (match Try.f12.body with | some c => comp Try.prog 29 c | none => none) = some C12 := by kernel_rfl
@[go_sem] theorem call12 (args : List AV) (H : Heap) : callC Try.prog 12 args H = .call 12 args := callC_ok (by kernel_rfl) args H
theorem R12ok : resKs Try.prog Try.f12.results.toList = some [(RK.tmp (K.i K.z))] := by kernel_rfl

/- 13: estuary/index.Get -/
noncomputable def C13L0 : CC :=
  (.seq (.region [.mk (binR Try.prog EK.no Option.none Bool.false BinOp.lss (X.t (K.i (K.i (K.o K.z)))) (X.t (K.o (K.i (K.o K.z))))) (Option.some (K.o (K.o (K.i K.z)))) Gd.no []])
  (.seq (.cond (X.t (K.o (K.o (K.i K.z))))
  .skip
  (.exit 0))
  (.seq (.block 1 (.seq (.region [.mk (iaS 5 (X.t (K.i (K.o (K.o K.z)))) (X.t (K.i (K.i (K.o K.z))))) (Option.some (K.i (K.o (K.i K.z)))) Gd.no [],
   .mk (ldR Bool.true 5 (X.t (K.i (K.o (K.i K.z))))) (Option.some (K.o (K.i (K.i K.z)))) Gd.no [],
   .mk (fun _ H => newC Bool.false [(AV.str []), (AV.str []), (AV.int IntKind.i64 0), (AV.bool Bool.false), (AV.int IntKind.i64 0)] H) (Option.some (K.o (K.o (K.o K.z)))) Gd.no [],
   .mk (stR 5 (X.t (K.o (K.o (K.o K.z)))) (X.t (K.o (K.i (K.i K.z))))) Option.none Gd.no []])
  (.seq (.region [.mk (faR 0 (X.t (K.o (K.o (K.o K.z))))) (Option.some (K.i (K.i (K.i K.z)))) Gd.no [],
   .mk (ldR Bool.false 1 (X.t (K.i (K.i (K.i K.z))))) (Option.some (K.o (K.o (K.o (K.o K.z))))) Gd.no [],
   .mk (mvR (X.t (K.o K.z))) (Option.some (K.i (K.o (K.o (K.o K.z))))) Gd.no [],
   .mk (binR Try.prog EK.no Option.none Bool.false BinOp.eql (X.t (K.o (K.o (K.o (K.o K.z))))) (X.t (K.i (K.o (K.o (K.o K.z)))))) (Option.some (K.o (K.i (K.o (K.o K.z))))) Gd.no []])
  (.cond (X.t (K.o (K.i (K.o (K.o K.z)))))
  (.seq (.region [.mk (ldR Bool.true 5 (X.t (K.o (K.o (K.o K.z))))) (Option.some (K.i (K.i (K.o (K.o K.z))))) Gd.no [],
   .mk (stR 5 (X.t (K.i (K.o K.z))) (X.t (K.i (K.i (K.o (K.o K.z)))))) Option.none Gd.no [],
   .mk (mvR (X.c (AV.bool Bool.true))) (Option.some (K.o (K.i K.z))) Gd.no []])
  .ret)
  .skip))))
  (.region [.mk (binR Try.prog EK.no Option.none Bool.true BinOp.add (X.t (K.i (K.i (K.o K.z)))) (X.c (AV.int IntKind.i64 1))) (Option.some (K.o (K.o (K.i (K.o K.z))))) Gd.no [],
   .mk (mvR (X.t (K.o (K.o (K.i (K.o K.z)))))) (Option.some (K.i (K.i (K.o K.z)))) Gd.no []]))))
noncomputable def C13 : CC :=
  (.seq (.region [.mk (fun _ H => newC Bool.false [(AV.str []), (AV.str []), (AV.int IntKind.i64 0), (AV.bool Bool.false), (AV.int IntKind.i64 0)] H) (Option.some (K.i (K.o K.z))) Gd.no [],
   .mk (mvR (X.c (AV.bool Bool.false))) (Option.some (K.o (K.i K.z))) Gd.no []])
  (.seq (.seq (.region [.mk (mvR (X.t K.z)) (Option.some (K.i (K.o (K.o K.z)))) Gd.no [],
   .mk (lenR LnK.slice (X.t (K.i (K.o (K.o K.z))))) (Option.some (K.o (K.i (K.o K.z)))) Gd.no [],
   .mk (mvR (X.c (AV.int IntKind.i64 0))) (Option.some (K.i (K.i (K.o K.z)))) Gd.no []])
  (.block 0 (.loop C13L0)))
  (.seq (.region [.mk (mvR (X.t (K.o K.z))) (Option.some (K.i (K.o (K.i (K.o K.z))))) Gd.no [],
   .mk (buildR [(AV.str []), (AV.str []), (AV.int IntKind.i64 0), (AV.bool Bool.false), (AV.int IntKind.i64 0)] [(0, (1, (X.t (K.i (K.o (K.i (K.o K.z)))))))]) (Option.some (K.o (K.i (K.i (K.o K.z))))) Gd.no [],
   .mk (stR 5 (X.t (K.i (K.o K.z))) (X.t (K.o (K.i (K.i (K.o K.z)))))) Option.none Gd.no [],
   .mk (mvR (X.c (AV.bool Bool.false))) (Option.some (K.o (K.i K.z))) Gd.no []])
  .ret)))
theorem C13ok : (match Try.f13.body with | some c => comp Try.prog 22 c | none => none) = some C13 := by kernel_rfl
@[go_sem] theorem call13 (args : List AV) (H : Heap) : callC Try.prog 13 args H = .call 13 args := callC_ok (by kernel_rfl) args H
theorem R13ok : resKs Try.prog Try.f13.results.toList = some [(RK.cell (K.i (K.o K.z)) Bool.true 5), (RK.tmp (K.o (K.i K.z)))] := by kernel_rfl

/- 14: estuary/estuaryref11.Get -/
noncomputable def C14L0 : CC :=
  (.seq (.seq (.region [.mk (mvR (X.t (K.i (K.i K.z)))) (Option.some (K.o (K.o (K.o K.z)))) Gd.no [],
   .mk (mvR (X.t K.z)) (Option.some (K.i (K.o (K.o K.z)))) Gd.no [],
   .mk (lenR LnK.slice (X.t (K.i (K.o (K.o K.z))))) (Option.some (K.o (K.i (K.o K.z)))) Gd.no [],
   .mk (binR Try.prog EK.no Option.none Bool.false BinOp.lss (X.t (K.o (K.o (K.o K.z)))) (X.t (K.o (K.i (K.o K.z))))) (Option.some (K.i (K.i (K.o K.z)))) Gd.no []])
  (.cond (X.t (K.i (K.i (K.o K.z))))
  .skip
  (.exit 0)))
  (.seq (.block 1 (.seq (.region [.mk (mvR (X.t K.z)) (Option.some (K.o (K.i (K.i K.z)))) Gd.no [],
   .mk (mvR (X.t (K.i (K.i K.z)))) (Option.some (K.i (K.i (K.i K.z)))) Gd.no [],
   .mk (iaS 5 (X.t (K.o (K.i (K.i K.z)))) (X.t (K.i (K.i (K.i K.z))))) (Option.some (K.o (K.o (K.o (K.o K.z))))) Gd.no [],
   .mk (faR 0 (X.t (K.o (K.o (K.o (K.o K.z)))))) (Option.some (K.i (K.o (K.o (K.o K.z))))) Gd.no [],
   .mk (ldR Bool.false 1 (X.t (K.i (K.o (K.o (K.o K.z)))))) (Option.some (K.o (K.i (K.o (K.o K.z))))) Gd.no [],
   .mk (mvR (X.t (K.o K.z))) (Option.some (K.i (K.i (K.o (K.o K.z))))) Gd.no [],
   .mk (binR Try.prog EK.no Option.none Bool.false BinOp.eql (X.t (K.o (K.i (K.o (K.o K.z))))) (X.t (K.i (K.i (K.o (K.o K.z)))))) (Option.some (K.o (K.o (K.i (K.o K.z))))) Gd.no []])
  (.cond (X.t (K.o (K.o (K.i (K.o K.z)))))
  (.seq (.region [.mk (mvR (X.t K.z)) (Option.some (K.i (K.o (K.i (K.o K.z))))) Gd.no [],
   .mk (mvR (X.t (K.i (K.i K.z)))) (Option.some (K.o (K.i (K.i (K.o K.z))))) Gd.no [],
   .mk (iaS 5 (X.t (K.i (K.o (K.i (K.o K.z))))) (X.t (K.o (K.i (K.i (K.o K.z)))))) (Option.some (K.i (K.i (K.i (K.o K.z))))) Gd.no [],
   .mk (ldR Bool.true 5 (X.t (K.i (K.i (K.i (K.o K.z)))))) (Option.some (K.o (K.o (K.o (K.i K.z))))) Gd.no [],
   .mk (stR 5 (X.t (K.i (K.o K.z))) (X.t (K.o (K.o (K.o (K.i K.z)))))) Option.none Gd.no [],
   .mk (mvR (X.c (AV.bool Bool.true))) (Option.some (K.o (K.i K.z))) Gd.no []])
  .ret)
  .skip)))
  (.region [.mk (mvR (X.t (K.i (K.i K.z)))) (Option.some (K.o (K.o (K.i K.z)))) Gd.no [],
   .mk (binR Try.prog EK.no Option.none Bool.true BinOp.add (X.t (K.o (K.o (K.i K.z)))) (X.c (AV.int IntKind.i64 1))) (Option.some (K.i (K.o (K.i K.z)))) Gd.no [],
   .mk (mvR (X.t (K.i (K.o (K.i K.z))))) (Option.some (K.i (K.i K.z))) Gd.no []])))
noncomputable def C14 : CC :=
  (.seq (.region [.mk (fun _ H => newC Bool.false [(AV.str []), (AV.str []), (AV.int IntKind.i64 0), (AV.bool Bool.false), (AV.int IntKind.i64 0)] H) (Option.some (K.i (K.o K.z))) Gd.no [],
   .mk (mvR (X.c (AV.bool Bool.false))) (Option.some (K.o (K.i K.z))) Gd.no []])
  (.seq (.seq (.region [.mk (mvR (X.c (AV.int IntKind.i64 0))) (Option.some (K.i (K.i K.z))) Gd.no []])
  (.block 0 (.loop C14L0)))
  (.seq (.region [.mk (mvR (X.t (K.o K.z))) (Option.some (K.i (K.o (K.o (K.i K.z))))) Gd.no [],
   .mk (buildR [(AV.str []), (AV.str []), (AV.int IntKind.i64 0), (AV.bool Bool.false), (AV.int IntKind.i64 0)] [(0, (1, (X.t (K.i (K.o (K.o (K.i K.z)))))))]) (Option.some (K.o (K.i (K.o (K.i K.z))))) Gd.no [],
   .mk (stR 5 (X.t (K.i (K.o K.z))) (X.t (K.o (K.i (K.o (K.i K.z)))))) Option.none Gd.no [],
   .mk (mvR (X.c (AV.bool Bool.false))) (Option.some (K.o (K.i K.z))) Gd.no []])
  .ret)))
theorem C14ok : (match Try.f14.body with | some c => comp Try.prog 26 c | none => none) = some C14 := by kernel_rfl
@[go_sem] theorem call14 (args : List AV) (H : Heap) : callC Try.prog 14 args H = .call 14 args := callC_ok (by kernel_rfl) args H
theorem R14ok : resKs Try.prog Try.f14.results.toList = some [(RK.cell (K.i (K.o K.z)) Bool.true 5), (RK.tmp (K.o (K.i K.z)))] := by kernel_rfl

/- 15: estuary/index.Rows -/
noncomputable def C15L0 : CC :=
  (.seq (.region [.mk (binR Try.prog EK.no Option.none Bool.false BinOp.lss (X.t (K.i (K.i (K.i K.z)))) (X.t (K.o (K.i (K.i K.z))))) (Option.some (K.o (K.o (K.o (K.o K.z))))) Gd.no []])
  (.seq (.cond (X.t (K.o (K.o (K.o (K.o K.z)))))
  .skip
  (.exit 0))
  (.seq (.block 1 (.seq (.region [.mk (iaS 5 (X.t (K.i (K.o (K.i K.z)))) (X.t (K.i (K.i (K.i K.z))))) (Option.some (K.i (K.o (K.o (K.o K.z))))) Gd.no [],
   .mk (ldR Bool.true 5 (X.t (K.i (K.o (K.o (K.o K.z)))))) (Option.some (K.o (K.i (K.o (K.o K.z))))) Gd.no [],
   .mk (fun _ H => newC Bool.false [(AV.str []), (AV.str []), (AV.int IntKind.i64 0), (AV.bool Bool.false), (AV.int IntKind.i64 0)] H) (Option.some (K.o (K.i (K.o K.z)))) Gd.no [],
   .mk (stR 5 (X.t (K.o (K.i (K.o K.z)))) (X.t (K.o (K.i (K.o (K.o K.z)))))) Option.none Gd.no []])
  (.seq (.region [.mk (ldR Bool.true 5 (X.t (K.o (K.i (K.o K.z))))) (Option.some (K.i (K.i (K.o (K.o K.z))))) Gd.no [],
   .mk (callS Try.prog 45 [(X.t (K.i (K.i (K.o (K.o K.z)))))]) (Option.some (K.o (K.o (K.i (K.o K.z))))) Gd.no [],
   .mk (mvR (X.t (K.o (K.o (K.i (K.o K.z)))))) (Option.some (K.i (K.o (K.i (K.o K.z))))) Gd.no [],
   .mk (mvR (X.t (K.o (K.o (K.o K.z))))) (Option.some (K.o (K.i (K.i (K.o K.z))))) (Gd.on (K.i (K.o (K.i (K.o K.z)))) Bool.true) [],
   .mk (lenR LnK.slice (X.t (K.o (K.i (K.i (K.o K.z)))))) (Option.some (K.i (K.i (K.i (K.o K.z))))) (Gd.on (K.i (K.o (K.i (K.o K.z)))) Bool.true) [],
   .mk (mvR (X.t (K.i K.z))) (Option.some (K.o (K.o (K.o (K.i K.z))))) (Gd.on (K.i (K.o (K.i (K.o K.z)))) Bool.true) [],
   .mk (binR Try.prog EK.no Option.none Bool.false BinOp.lss (X.t (K.i (K.i (K.i (K.o K.z))))) (X.t (K.o (K.o (K.o (K.i K.z)))))) (Option.some (K.i (K.o (K.o (K.i K.z))))) (Gd.on (K.i (K.o (K.i (K.o K.z)))) Bool.true) [],
   .mk (pickR (X.t (K.i (K.o (K.i (K.o K.z))))) (X.t (K.i (K.o (K.o (K.i K.z))))) (X.c (AV.bool Bool.false))) (Option.some (K.o (K.i (K.o (K.i K.z))))) Gd.no []])
  (.cond (X.t (K.o (K.i (K.o (K.i K.z)))))
  (.region [.mk (mvR (X.t (K.o (K.o (K.o K.z))))) (Option.some (K.i (K.i (K.o (K.i K.z))))) Gd.no [],
   .mk (faR 0 (X.t (K.o (K.i (K.o K.z))))) (Option.some (K.o (K.o (K.i (K.i K.z))))) Gd.no [],
   .mk (ldR Bool.false 1 (X.t (K.o (K.o (K.i (K.i K.z)))))) (Option.some (K.i (K.o (K.i (K.i K.z))))) Gd.no [],
   .mk (faR 1 (X.t (K.o (K.i (K.o K.z))))) (Option.some (K.o (K.i (K.i (K.i K.z))))) Gd.no [],
   .mk (ldR Bool.false 1 (X.t (K.o (K.i (K.i (K.i K.z)))))) (Option.some (K.i (K.i (K.i (K.i K.z))))) Gd.no [],
   .mk (faR 2 (X.t (K.o (K.i (K.o K.z))))) (Option.some (K.o (K.o (K.o (K.o (K.o K.z)))))) Gd.no [],
   .mk (ldR Bool.false 1 (X.t (K.o (K.o (K.o (K.o (K.o K.z))))))) (Option.some (K.i (K.o (K.o (K.o (K.o K.z)))))) Gd.no [],
   .mk (buildR [(AV.str []), (AV.str []), (AV.int IntKind.i64 0)] [(0, (1, (X.t (K.i (K.o (K.i (K.i K.z))))))), (1, (1, (X.t (K.i (K.i (K.i (K.i K.z))))))), (2, (1, (X.t (K.i (K.o (K.o (K.o (K.o K.z))))))))]) (Option.some (K.o (K.i (K.o (K.o (K.o K.z)))))) Gd.no [],
   .mk (bslR 3 1 [(AV.str []), (AV.str []), (AV.int IntKind.i64 0)] [(0, (X.t (K.o (K.i (K.o (K.o (K.o K.z)))))))]) (Option.some (K.i (K.i (K.o (K.o (K.o K.z)))))) Gd.no [],
   .mk (appR 3 40 (X.t (K.i (K.i (K.o (K.i K.z))))) (X.t (K.i (K.i (K.o (K.o (K.o K.z))))))) (Option.some (K.o (K.o (K.i (K.o (K.o K.z)))))) Gd.no [],
   .mk (mvR (X.t (K.o (K.o (K.i (K.o (K.o K.z))))))) (Option.some (K.o (K.o (K.o K.z)))) Gd.no []])
  .skip))))
  (.region [.mk (binR Try.prog EK.no Option.none Bool.true BinOp.add (X.t (K.i (K.i (K.i K.z)))) (X.c (AV.int IntKind.i64 1))) (Option.some (K.i (K.o (K.i (K.o (K.o K.z)))))) Gd.no [],
   .mk (mvR (X.t (K.i (K.o (K.i (K.o (K.o K.z))))))) (Option.some (K.i (K.i (K.i K.z)))) Gd.no []]))))
noncomputable def C15 : CC :=
  (.seq (.region [.mk (boxR Bool.false (X.t (K.o K.z))) (Option.some (K.i (K.o K.z))) Gd.no [],
   .mk (mvR (X.c AV.nils)) (Option.some (K.i (K.i K.z))) Gd.no []])
  (.seq (.region [.mk (mvR (X.c AV.nils)) (Option.some (K.o (K.o (K.o K.z)))) Gd.no []])
  (.seq (.seq (.region [.mk (mvR (X.t K.z)) (Option.some (K.i (K.i (K.o K.z)))) Gd.no [],
   .mk (ldR Bool.true 2 (X.t (K.i (K.o K.z)))) (Option.some (K.o (K.o (K.i K.z)))) Gd.no [],
   .mk (callS Try.prog 20 [(X.t (K.i (K.i (K.o K.z)))), (X.t (K.o (K.o (K.i K.z))))]) (Option.some (K.i (K.o (K.i K.z)))) Gd.no [],
   .mk (lenR LnK.slice (X.t (K.i (K.o (K.i K.z))))) (Option.some (K.o (K.i (K.i K.z)))) Gd.no [],
   .mk (mvR (X.c (AV.int IntKind.i64 0))) (Option.some (K.i (K.i (K.i K.z)))) Gd.no []])
  (.block 0 (.loop C15L0)))
  (.seq (.region [.mk (mvR (X.t (K.o (K.o (K.o K.z))))) (Option.some (K.o (K.i (K.i (K.o (K.o K.z)))))) Gd.no [],
   .mk (mvR (X.t (K.o (K.i (K.i (K.o (K.o K.z))))))) (Option.some (K.i (K.i K.z))) Gd.no []])
  .ret))))
theorem C15ok : (match Try.f15.body with | some c => comp Try.prog 38 c | none => none) = some C15 := by kernel_rfl
@[go_sem] theorem call15 (args : List AV) (H : Heap) : callC Try.prog 15 args H = .call 15 args := callC_ok (by kernel_rfl) args H
theorem R15ok : resKs Try.prog Try.f15.results.toList = some [(RK.tmp (K.i (K.i K.z)))] := by kernel_rfl

/- 16: estuary/estuaryref11.Rows -/
noncomputable def C16L0 : CC :=
  (.seq (.seq (.region [.mk (mvR (X.t (K.i (K.o (K.o K.z))))) (Option.some (K.i (K.i (K.o K.z)))) Gd.no [],
   .mk (mvR (X.t K.z)) (Option.some (K.o (K.o (K.i K.z)))) Gd.no [],
   .mk (lenR LnK.slice (X.t (K.o (K.o (K.i K.z))))) (Option.some (K.i (K.o (K.i K.z)))) Gd.no [],
   .mk (binR Try.prog EK.no Option.none Bool.false BinOp.lss (X.t (K.i (K.i (K.o K.z)))) (X.t (K.i (K.o (K.i K.z))))) (Option.some (K.o (K.i (K.i K.z)))) Gd.no [],
   .mk (mvR (X.t (K.o (K.i (K.i K.z))))) (Option.some (K.i (K.i (K.i K.z)))) Gd.no [],
   .mk (mvR (X.t (K.o (K.o (K.o K.z))))) (Option.some (K.o (K.o (K.o (K.o K.z))))) (Gd.on (K.i (K.i (K.i K.z))) Bool.true) [],
   .mk (lenR LnK.slice (X.t (K.o (K.o (K.o (K.o K.z)))))) (Option.some (K.i (K.o (K.o (K.o K.z))))) (Gd.on (K.i (K.i (K.i K.z))) Bool.true) [],
   .mk (mvR (X.t (K.i K.z))) (Option.some (K.o (K.i (K.o (K.o K.z))))) (Gd.on (K.i (K.i (K.i K.z))) Bool.true) [],
   .mk (binR Try.prog EK.no Option.none Bool.false BinOp.lss (X.t (K.i (K.o (K.o (K.o K.z))))) (X.t (K.o (K.i (K.o (K.o K.z)))))) (Option.some (K.i (K.i (K.o (K.o K.z))))) (Gd.on (K.i (K.i (K.i K.z))) Bool.true) [],
   .mk (pickR (X.t (K.i (K.i (K.i K.z)))) (X.t (K.i (K.i (K.o (K.o K.z))))) (X.c (AV.bool Bool.false))) (Option.some (K.o (K.o (K.i (K.o K.z))))) Gd.no []])
  (.cond (X.t (K.o (K.o (K.i (K.o K.z)))))
  .skip
  (.exit 0)))
  (.seq (.block 1 (.seq (.region [.mk (mvR (X.t K.z)) (Option.some (K.i (K.i (K.i (K.o K.z))))) Gd.no [],
   .mk (mvR (X.t (K.i (K.o (K.o K.z))))) (Option.some (K.o (K.o (K.o (K.i K.z))))) Gd.no [],
   .mk (iaS 5 (X.t (K.i (K.i (K.i (K.o K.z))))) (X.t (K.o (K.o (K.o (K.i K.z)))))) (Option.some (K.i (K.o (K.o (K.i K.z))))) Gd.no [],
   .mk (ldR Bool.true 5 (X.t (K.i (K.o (K.o (K.i K.z)))))) (Option.some (K.o (K.i (K.o (K.i K.z))))) Gd.no [],
   .mk (fun _ H => newC Bool.false [(AV.str []), (AV.str []), (AV.int IntKind.i64 0), (AV.bool Bool.false), (AV.int IntKind.i64 0)] H) (Option.some (K.o (K.i (K.o K.z)))) Gd.no [],
   .mk (stR 5 (X.t (K.o (K.i (K.o K.z)))) (X.t (K.o (K.i (K.o (K.i K.z)))))) Option.none Gd.no []])
  (.seq (.region [.mk (ldR Bool.true 2 (X.t (K.i (K.o K.z)))) (Option.some (K.i (K.i (K.o (K.i K.z))))) Gd.no [],
   .mk (faR 0 (X.t (K.o (K.i (K.o K.z))))) (Option.some (K.o (K.o (K.i (K.i K.z))))) Gd.no [],
   .mk (ldR Bool.false 1 (X.t (K.o (K.o (K.i (K.i K.z)))))) (Option.some (K.i (K.o (K.i (K.i K.z))))) Gd.no [],
   .mk (callS Try.prog 46 [(X.t (K.i (K.i (K.o (K.i K.z))))), (X.t (K.i (K.o (K.i (K.i K.z)))))]) (Option.some (K.o (K.i (K.i (K.i K.z))))) Gd.no [],
   .mk (mvR (X.t (K.o (K.i (K.i (K.i K.z)))))) (Option.some (K.i (K.i (K.i (K.i K.z))))) Gd.no [],
   .mk (ldR Bool.true 5 (X.t (K.o (K.i (K.o K.z))))) (Option.some (K.o (K.o (K.o (K.o (K.o K.z)))))) (Gd.on (K.i (K.i (K.i (K.i K.z)))) Bool.true) [],
   .mk (callS Try.prog 47 [(X.t (K.o (K.o (K.o (K.o (K.o K.z))))))]) (Option.some (K.i (K.o (K.o (K.o (K.o K.z)))))) (Gd.on (K.i (K.i (K.i (K.i K.z)))) Bool.true) [],
   .mk (pickR (X.t (K.i (K.i (K.i (K.i K.z))))) (X.t (K.i (K.o (K.o (K.o (K.o K.z)))))) (X.c (AV.bool Bool.false))) (Option.some (K.o (K.i (K.o (K.o (K.o K.z)))))) Gd.no []])
  (.cond (X.t (K.o (K.i (K.o (K.o (K.o K.z))))))
  (.region [.mk (mvR (X.t (K.o (K.o (K.o K.z))))) (Option.some (K.i (K.i (K.o (K.o (K.o K.z)))))) Gd.no [],
   .mk (faR 0 (X.t (K.o (K.i (K.o K.z))))) (Option.some (K.o (K.o (K.i (K.o (K.o K.z)))))) Gd.no [],
   .mk (ldR Bool.false 1 (X.t (K.o (K.o (K.i (K.o (K.o K.z))))))) (Option.some (K.i (K.o (K.i (K.o (K.o K.z)))))) Gd.no [],
   .mk (faR 1 (X.t (K.o (K.i (K.o K.z))))) (Option.some (K.o (K.i (K.i (K.o (K.o K.z)))))) Gd.no [],
   .mk (ldR Bool.false 1 (X.t (K.o (K.i (K.i (K.o (K.o K.z))))))) (Option.some (K.i (K.i (K.i (K.o (K.o K.z)))))) Gd.no [],
   .mk (faR 2 (X.t (K.o (K.i (K.o K.z))))) (Option.some (K.o (K.o (K.o (K.i (K.o K.z)))))) Gd.no [],
   .mk (ldR Bool.false 1 (X.t (K.o (K.o (K.o (K.i (K.o K.z))))))) (Option.some (K.i (K.o (K.o (K.i (K.o K.z)))))) Gd.no [],
   .mk (buildR [(AV.str []), (AV.str []), (AV.int IntKind.i64 0)] [(0, (1, (X.t (K.i (K.o (K.i (K.o (K.o K.z)))))))), (1, (1, (X.t (K.i (K.i (K.i (K.o (K.o K.z)))))))), (2, (1, (X.t (K.i (K.o (K.o (K.i (K.o K.z))))))))]) (Option.some (K.o (K.i (K.o (K.i (K.o K.z)))))) Gd.no [],
   .mk (bslR 3 1 [(AV.str []), (AV.str []), (AV.int IntKind.i64 0)] [(0, (X.t (K.o (K.i (K.o (K.i (K.o K.z)))))))]) (Option.some (K.i (K.i (K.o (K.i (K.o K.z)))))) Gd.no [],
   .mk (appR 3 40 (X.t (K.i (K.i (K.o (K.o (K.o K.z)))))) (X.t (K.i (K.i (K.o (K.i (K.o K.z))))))) (Option.some (K.o (K.o (K.i (K.i (K.o K.z)))))) Gd.no [],
   .mk (mvR (X.t (K.o (K.o (K.i (K.i (K.o K.z))))))) (Option.some (K.o (K.o (K.o K.z)))) Gd.no []])
  .skip))))
  (.region [.mk (mvR (X.t (K.i (K.o (K.o K.z))))) (Option.some (K.i (K.o (K.i (K.o K.z))))) Gd.no [],
   .mk (binR Try.prog EK.no Option.none Bool.true BinOp.add (X.t (K.i (K.o (K.i (K.o K.z))))) (X.c (AV.int IntKind.i64 1))) (Option.some (K.o (K.i (K.i (K.o K.z))))) Gd.no [],
   .mk (mvR (X.t (K.o (K.i (K.i (K.o K.z)))))) (Option.some (K.i (K.o (K.o K.z)))) Gd.no []])))
noncomputable def C16 : CC :=
  (.seq (.region [.mk (boxR Bool.false (X.t (K.o K.z))) (Option.some (K.i (K.o K.z))) Gd.no [],
   .mk (mvR (X.c AV.nils)) (Option.some (K.i (K.i K.z))) Gd.no []])
  (.seq (.region [.mk (mvR (X.c AV.nils)) (Option.some (K.o (K.o (K.o K.z)))) Gd.no []])
  (.seq (.seq (.region [.mk (mvR (X.c (AV.int IntKind.i64 0))) (Option.some (K.i (K.o (K.o K.z)))) Gd.no []])
  (.block 0 (.loop C16L0)))
  (.seq (.region [.mk (mvR (X.t (K.o (K.o (K.o K.z))))) (Option.some (K.i (K.o (K.i (K.i (K.o K.z)))))) Gd.no [],
   .mk (mvR (X.t (K.i (K.o (K.i (K.i (K.o K.z))))))) (Option.some (K.i (K.i K.z))) Gd.no []])
  .ret))))
theorem C16ok : (match Try.f16.body with | some c => comp Try.prog 45 c | none => none) = some C16 := by kernel_rfl
@[go_sem] theorem call16 (args : List AV) (H : Heap) : callC Try.prog 16 args H = .call 16 args := callC_ok (by kernel_rfl) args H
theorem R16ok : resKs Try.prog Try.f16.results.toList = some [(RK.tmp (K.i (K.i K.z)))] := by kernel_rfl

/- 17: estuary/index.Is -/
noncomputable def C17L0 : CC :=
  (.seq (.region [.mk (binR Try.prog EK.no Option.none Bool.false BinOp.lss (X.t (K.o (K.o (K.o K.z)))) (X.t (K.i (K.i K.z)))) (Option.some (K.i (K.o (K.o K.z)))) Gd.no []])
  (.seq (.cond (X.t (K.i (K.o (K.o K.z))))
  .skip
  (.exit 0))
  (.seq (.block 1 (.seq (.region [.mk (mvR (X.t (K.o (K.o (K.o K.z))))) (Option.some (K.o (K.i (K.o K.z)))) Gd.no [],
   .mk (iaS 5 (X.t (K.o (K.i K.z))) (X.t (K.o (K.o (K.o K.z))))) (Option.some (K.i (K.i (K.o K.z)))) Gd.no [],
   .mk (ldR Bool.true 5 (X.t (K.i (K.i (K.o K.z))))) (Option.some (K.o (K.o (K.i K.z)))) Gd.no [],
   .mk (fun _ H => newC Bool.false [(AV.str []), (AV.str []), (AV.int IntKind.i64 0), (AV.bool Bool.false), (AV.int IntKind.i64 0)] H) (Option.some (K.i (K.o K.z))) Gd.no [],
   .mk (mvR (X.t (K.o (K.i (K.o K.z))))) (Option.some (K.o (K.o K.z))) Gd.no [],
   .mk (stR 5 (X.t (K.i (K.o K.z))) (X.t (K.o (K.o (K.i K.z))))) Option.none Gd.no []])
  (.block 2 (.seq (.block 4 (.block 3 (.seq (.seq (.seq (.region [.mk (ldR Bool.true 5 (X.t (K.i (K.o K.z)))) (Option.some (K.o (K.i (K.i K.z)))) Gd.no [],
   .mk (callS Try.prog 48 [(X.t (K.o (K.i (K.i K.z))))]) (Option.some (K.i (K.i (K.i K.z)))) Gd.no [],
   .mk (unR UnOp.not (X.t (K.i (K.i (K.i K.z))))) (Option.some (K.o (K.o (K.o (K.o K.z))))) Gd.no [],
   .mk (mvR (X.t (K.o (K.o (K.o (K.o K.z)))))) (Option.some (K.i (K.o (K.i K.z)))) Gd.no []])
  (.cond (X.t (K.i (K.o (K.i K.z))))
  (.exit 3)
  .skip))
  (.seq (.regionD [.mk (keepH (mvR (X.t (K.o (K.o K.z))))) (Option.some (K.o (K.i (K.o (K.o K.z))))) Gd.no [],
   .mk (keepH (binR Try.prog EK.no Option.none Bool.true BinOp.gtr (X.t (K.o (K.i (K.o (K.o K.z))))) (X.c (AV.int IntKind.i64 0)))) (Option.some (K.i (K.i (K.o (K.o K.z))))) Gd.no [],
   .mk (keepH (mvR (X.t (K.i (K.i (K.o (K.o K.z))))))) (Option.some (K.o (K.o (K.i (K.o K.z))))) Gd.no [],
   .mk (keepH (faR 0 (X.t (K.i (K.o K.z))))) (Option.some (K.i (K.i (K.o (K.i K.z))))) (Gd.on (K.o (K.o (K.i (K.o K.z)))) Bool.true) [],
   .mk (keepH (ldR Bool.false 1 (X.t (K.i (K.i (K.o (K.i K.z))))))) (Option.some (K.o (K.o (K.i (K.i K.z))))) (Gd.on (K.o (K.o (K.i (K.o K.z)))) Bool.true) [],
   .mk (keepH (mvR (X.t (K.o (K.o K.z))))) (Option.some (K.o (K.i (K.i (K.o K.z))))) (Gd.on (K.o (K.o (K.i (K.o K.z)))) Bool.true) [],
   .mk (keepH (binR Try.prog EK.no Option.none Bool.true BinOp.sub (X.t (K.o (K.i (K.i (K.o K.z))))) (X.c (AV.int IntKind.i64 1)))) (Option.some (K.i (K.i (K.i (K.o K.z))))) (Gd.on (K.o (K.o (K.i (K.o K.z)))) Bool.true) [],
   .mk (keepH (mvR (X.t K.z))) (Option.some (K.i (K.o (K.i (K.o K.z))))) (Gd.on (K.o (K.o (K.i (K.o K.z)))) Bool.true) [],
   .mk (keepH (iaS 5 (X.t (K.i (K.o (K.i (K.o K.z))))) (X.t (K.i (K.i (K.i (K.o K.z))))))) (Option.some (K.o (K.o (K.o (K.i K.z))))) (Gd.on (K.o (K.o (K.i (K.o K.z)))) Bool.true) [],
   .mk (keepH (faR 0 (X.t (K.o (K.o (K.o (K.i K.z))))))) (Option.some (K.i (K.o (K.o (K.i K.z))))) (Gd.on (K.o (K.o (K.i (K.o K.z)))) Bool.true) [],
   .mk (keepH (ldR Bool.false 1 (X.t (K.i (K.o (K.o (K.i K.z))))))) (Option.some (K.o (K.i (K.o (K.i K.z))))) (Gd.on (K.o (K.o (K.i (K.o K.z)))) Bool.true) [],
   .mk (keepH (binR Try.prog EK.no Option.none Bool.false BinOp.geq (X.t (K.o (K.i (K.o (K.i K.z))))) (X.t (K.o (K.o (K.i (K.i K.z))))))) (Option.some (K.i (K.o (K.i (K.i K.z))))) (Gd.on (K.o (K.o (K.i (K.o K.z)))) Bool.true) [],
   .mk (keepH (pickR (X.t (K.o (K.o (K.i (K.o K.z))))) (X.t (K.i (K.o (K.i (K.i K.z))))) (X.c (AV.bool Bool.false)))) (Option.some (K.o (K.i (K.i (K.i K.z))))) Gd.no [],
   .mk (mvR (X.t (K.o (K.i (K.i (K.i K.z)))))) (Option.some (K.i (K.o (K.o (K.o K.z))))) Gd.no []])
  (.cond (X.t (K.i (K.o (K.o (K.o K.z)))))
  (.exit 4)
  .skip)))
  (.exit 2))))
  (.seq (.seq (.region [.mk (mvR (X.c (AV.bool Bool.false))) (Option.some (K.i K.z)) Gd.no []])
  .ret)
  (.exit 2))))))
  (.region [.mk (binR Try.prog EK.no Option.none Bool.true BinOp.add (X.t (K.o (K.o (K.o K.z)))) (X.c (AV.int IntKind.i64 1))) (Option.some (K.i (K.i (K.i (K.i K.z))))) Gd.no [],
   .mk (mvR (X.t (K.i (K.i (K.i (K.i K.z)))))) (Option.some (K.o (K.o (K.o K.z)))) Gd.no []]))))
noncomputable def C17 : CC :=
  (.seq (.region [.mk (mvR (X.c (AV.bool Bool.false))) (Option.some (K.i K.z)) Gd.no []])
  (.seq (.seq (.region [.mk (mvR (X.t K.z)) (Option.some (K.o (K.i K.z))) Gd.no [],
   .mk (lenR LnK.slice (X.t (K.o (K.i K.z)))) (Option.some (K.i (K.i K.z))) Gd.no [],
   .mk (mvR (X.c (AV.int IntKind.i64 0))) (Option.some (K.o (K.o (K.o K.z)))) Gd.no []])
  (.block 0 (.loop C17L0)))
  (.seq (.region [.mk (mvR (X.c (AV.bool Bool.true))) (Option.some (K.i K.z)) Gd.no []])
  .ret)))
theorem C17ok : (match Try.f17.body with | some c => comp Try.prog 31 c | none => none) = some C17 := by kernel_rfl
@[go_sem] theorem call17 (args : List AV) (H : Heap) : callC Try.prog 17 args H = .call 17 args := callC_ok (by kernel_rfl) args H
theorem R17ok : resKs Try.prog Try.f17.results.toList = some [(RK.tmp (K.i K.z))] := by kernel_rfl

/- 18: estuary/estuaryref11.IsIndex -/
noncomputable def C18L0 : CC :=
  (.seq (.seq (.region [.mk (mvR (X.t (K.o (K.o K.z)))) (Option.some (K.i (K.o K.z))) Gd.no [],
   .mk (mvR (X.t K.z)) (Option.some (K.o (K.i K.z))) Gd.no [],
   .mk (lenR LnK.slice (X.t (K.o (K.i K.z)))) (Option.some (K.i (K.i K.z))) Gd.no [],
   .mk (binR Try.prog EK.no Option.none Bool.false BinOp.lss (X.t (K.i (K.o K.z))) (X.t (K.i (K.i K.z)))) (Option.some (K.o (K.o (K.o K.z)))) Gd.no []])
  (.cond (X.t (K.o (K.o (K.o K.z))))
  .skip
  (.exit 0)))
  (.seq (.block 1 (.seq (.regionD [.mk (keepH (mvR (X.t (K.o (K.o K.z))))) (Option.some (K.o (K.o (K.i K.z)))) Gd.no [],
   .mk (keepH (mvR (X.t K.z))) (Option.some (K.i (K.i (K.o K.z)))) Gd.no [],
   .mk (keepH (iaS 5 (X.t (K.i (K.i (K.o K.z)))) (X.t (K.o (K.o (K.i K.z)))))) (Option.some (K.i (K.o (K.i K.z)))) Gd.no [],
   .mk (keepH (ldR Bool.true 5 (X.t (K.i (K.o (K.i K.z)))))) (Option.some (K.o (K.i (K.i K.z)))) Gd.no [],
   .mk (callS Try.prog 24 [(X.t (K.o (K.i (K.i K.z))))]) (Option.some (K.i (K.i (K.i K.z)))) Gd.no [],
   .mk (keepH (unR UnOp.not (X.t (K.i (K.i (K.i K.z)))))) (Option.some (K.o (K.o (K.o (K.o K.z))))) Gd.no [],
   .mk (keepH (mvR (X.t (K.o (K.o (K.o (K.o K.z))))))) (Option.some (K.i (K.o (K.o (K.o K.z))))) Gd.no [],
   .mk (keepH (mvR (X.t (K.o (K.o K.z))))) (Option.some (K.o (K.i (K.o (K.o K.z))))) (Gd.on (K.i (K.o (K.o (K.o K.z)))) Bool.false) [],
   .mk (keepH (binR Try.prog EK.no Option.none Bool.true BinOp.gtr (X.t (K.o (K.i (K.o (K.o K.z))))) (X.c (AV.int IntKind.i64 0)))) (Option.some (K.i (K.i (K.o (K.o K.z))))) (Gd.on (K.i (K.o (K.o (K.o K.z)))) Bool.false) [],
   .mk (keepH (mvR (X.t (K.i (K.i (K.o (K.o K.z))))))) (Option.some (K.o (K.o (K.i (K.o K.z))))) (Gd.on (K.i (K.o (K.o (K.o K.z)))) Bool.false) [],
   .mk (keepH (mvR (X.t (K.o (K.o K.z))))) (Option.some (K.o (K.o (K.i (K.i K.z))))) (Gd.on (K.o (K.o (K.i (K.o K.z)))) Bool.true) [],
   .mk (keepH (mvR (X.t K.z))) (Option.some (K.i (K.i (K.o (K.i K.z))))) (Gd.on (K.o (K.o (K.i (K.o K.z)))) Bool.true) [],
   .mk (keepH (iaS 5 (X.t (K.i (K.i (K.o (K.i K.z))))) (X.t (K.o (K.o (K.i (K.i K.z))))))) (Option.some (K.i (K.o (K.i (K.i K.z))))) (Gd.on (K.o (K.o (K.i (K.o K.z)))) Bool.true) [],
   .mk (keepH (faR 0 (X.t (K.i (K.o (K.i (K.i K.z))))))) (Option.some (K.o (K.i (K.i (K.i K.z))))) (Gd.on (K.o (K.o (K.i (K.o K.z)))) Bool.true) [],
   .mk (keepH (ldR Bool.false 1 (X.t (K.o (K.i (K.i (K.i K.z))))))) (Option.some (K.i (K.i (K.i (K.i K.z))))) (Gd.on (K.o (K.o (K.i (K.o K.z)))) Bool.true) [],
   .mk (keepH (mvR (X.t (K.o (K.o K.z))))) (Option.some (K.o (K.i (K.i (K.o K.z))))) (Gd.on (K.o (K.o (K.i (K.o K.z)))) Bool.true) [],
   .mk (keepH (binR Try.prog EK.no Option.none Bool.true BinOp.sub (X.t (K.o (K.i (K.i (K.o K.z))))) (X.c (AV.int IntKind.i64 1)))) (Option.some (K.i (K.i (K.i (K.o K.z))))) (Gd.on (K.o (K.o (K.i (K.o K.z)))) Bool.true) [],
   .mk (keepH (mvR (X.t K.z))) (Option.some (K.i (K.o (K.i (K.o K.z))))) (Gd.on (K.o (K.o (K.i (K.o K.z)))) Bool.true) [],
   .mk (keepH (iaS 5 (X.t (K.i (K.o (K.i (K.o K.z))))) (X.t (K.i (K.i (K.i (K.o K.z))))))) (Option.some (K.o (K.o (K.o (K.i K.z))))) (Gd.on (K.o (K.o (K.i (K.o K.z)))) Bool.true) [],
   .mk (keepH (faR 0 (X.t (K.o (K.o (K.o (K.i K.z))))))) (Option.some (K.i (K.o (K.o (K.i K.z))))) (Gd.on (K.o (K.o (K.i (K.o K.z)))) Bool.true) [],
   .mk (keepH (ldR Bool.false 1 (X.t (K.i (K.o (K.o (K.i K.z))))))) (Option.some (K.o (K.i (K.o (K.i K.z))))) (Gd.on (K.o (K.o (K.i (K.o K.z)))) Bool.true) [],
   .mk (keepH (binR Try.prog EK.no Option.none Bool.false BinOp.geq (X.t (K.o (K.i (K.o (K.i K.z))))) (X.t (K.i (K.i (K.i (K.i K.z))))))) (Option.some (K.o (K.o (K.o (K.o (K.o K.z)))))) (Gd.on (K.o (K.o (K.i (K.o K.z)))) Bool.true) [],
   .mk (keepH (pickR (X.t (K.o (K.o (K.i (K.o K.z))))) (X.t (K.o (K.o (K.o (K.o (K.o K.z)))))) (X.c (AV.bool Bool.false)))) (Option.some (K.i (K.o (K.o (K.o (K.o K.z)))))) (Gd.on (K.i (K.o (K.o (K.o K.z)))) Bool.false) [],
   .mk (keepH (pickR (X.t (K.i (K.o (K.o (K.o K.z))))) (X.c (AV.bool Bool.true)) (X.t (K.i (K.o (K.o (K.o (K.o K.z)))))))) (Option.some (K.o (K.i (K.o (K.o (K.o K.z)))))) Gd.no []])
  (.cond (X.t (K.o (K.i (K.o (K.o (K.o K.z))))))
  (.seq (.region [.mk (mvR (X.c (AV.bool Bool.false))) (Option.some (K.i K.z)) Gd.no []])
  .ret)
  .skip)))
  (.region [.mk (mvR (X.t (K.o (K.o K.z)))) (Option.some (K.i (K.o (K.o K.z)))) Gd.no [],
   .mk (binR Try.prog EK.no Option.none Bool.true BinOp.add (X.t (K.i (K.o (K.o K.z)))) (X.c (AV.int IntKind.i64 1))) (Option.some (K.o (K.i (K.o K.z)))) Gd.no [],
   .mk (mvR (X.t (K.o (K.i (K.o K.z))))) (Option.some (K.o (K.o K.z))) Gd.no []])))
noncomputable def C18 : CC :=
  (.seq (.region [.mk (mvR (X.c (AV.bool Bool.false))) (Option.some (K.i K.z)) Gd.no []])
  (.seq (.seq (.region [.mk (mvR (X.c (AV.int IntKind.i64 0))) (Option.some (K.o (K.o K.z))) Gd.no []])
  (.block 0 (.loop C18L0)))
  (.seq (.region [.mk (mvR (X.c (AV.bool Bool.true))) (Option.some (K.i K.z)) Gd.no []])
  .ret)))
theorem C18ok : (match Try.f18.body with | some c => comp Try.prog 34 c | none => none) = some C18 := by kernel_rfl
@[go_sem] theorem call18 (args : List AV) (H : Heap) : callC Try.prog 18 args H = .call 18 args := callC_ok (by kernel_rfl) args H
theorem R18ok : resKs Try.prog Try.f18.results.toList = some [(RK.tmp (K.i K.z))] := by kernel_rfl

/- 19: estuary/estuaryref11.SameCells -/
noncomputable def C19L0 : CC :=
  (.seq (.seq (.region [.mk (mvR (X.t (K.o (K.i K.z)))) (Option.some (K.o (K.o (K.i K.z)))) Gd.no [],
   .mk (mvR (X.t K.z)) (Option.some (K.i (K.o (K.i K.z)))) Gd.no [],
   .mk (lenR LnK.slice (X.t (K.i (K.o (K.i K.z))))) (Option.some (K.o (K.i (K.i K.z)))) Gd.no [],
   .mk (binR Try.prog EK.no Option.none Bool.false BinOp.lss (X.t (K.o (K.o (K.i K.z)))) (X.t (K.o (K.i (K.i K.z))))) (Option.some (K.i (K.i (K.i K.z)))) Gd.no []])
  (.cond (X.t (K.i (K.i (K.i K.z))))
  .skip
  (.exit 0)))
  (.seq (.block 1 (.seq (.regionD [.mk (keepH (mvR (X.t (K.o (K.i K.z))))) (Option.some (K.i (K.i (K.i (K.o K.z))))) Gd.no [],
   .mk (keepH (mvR (X.t (K.o K.z)))) (Option.some (K.o (K.i (K.i (K.o K.z))))) Gd.no [],
   .mk (keepH (iaS 5 (X.t (K.o (K.i (K.i (K.o K.z))))) (X.t (K.i (K.i (K.i (K.o K.z))))))) (Option.some (K.o (K.o (K.o (K.i K.z))))) Gd.no [],
   .mk (keepH (ldR Bool.true 5 (X.t (K.o (K.o (K.o (K.i K.z))))))) (Option.some (K.i (K.o (K.o (K.i K.z))))) Gd.no [],
   .mk (keepH (mvR (X.t (K.o (K.i K.z))))) (Option.some (K.i (K.i (K.o (K.o K.z))))) Gd.no [],
   .mk (keepH (mvR (X.t K.z))) (Option.some (K.o (K.i (K.o (K.o K.z))))) Gd.no [],
   .mk (keepH (iaS 5 (X.t (K.o (K.i (K.o (K.o K.z))))) (X.t (K.i (K.i (K.o (K.o K.z))))))) (Option.some (K.o (K.o (K.i (K.o K.z))))) Gd.no [],
   .mk (keepH (ldR Bool.true 5 (X.t (K.o (K.o (K.i (K.o K.z))))))) (Option.some (K.i (K.o (K.i (K.o K.z))))) Gd.no [],
   .mk (keepH (binR Try.prog EK.no (Option.some [LK.str, LK.str, LK.int, LK.bool, LK.int]) Bool.false BinOp.neq (X.t (K.i (K.o (K.i (K.o K.z))))) (X.t (K.i (K.o (K.o (K.i K.z))))))) (Option.some (K.o (K.i (K.o (K.i K.z))))) Gd.no []])
  (.cond (X.t (K.o (K.i (K.o (K.i K.z)))))
  (.seq (.region [.mk (mvR (X.c (AV.bool Bool.false))) (Option.some (K.i (K.o K.z))) Gd.no []])
  .ret)
  .skip)))
  (.region [.mk (mvR (X.t (K.o (K.i K.z)))) (Option.some (K.o (K.o (K.o (K.o K.z))))) Gd.no [],
   .mk (binR Try.prog EK.no Option.none Bool.true BinOp.add (X.t (K.o (K.o (K.o (K.o K.z))))) (X.c (AV.int IntKind.i64 1))) (Option.some (K.i (K.o (K.o (K.o K.z))))) Gd.no [],
   .mk (mvR (X.t (K.i (K.o (K.o (K.o K.z)))))) (Option.some (K.o (K.i K.z))) Gd.no []])))
noncomputable def C19 : CC :=
  (.seq (.region [.mk (mvR (X.c (AV.bool Bool.false))) (Option.some (K.i (K.o K.z))) Gd.no []])
  (.seq (.seq (.region [.mk (mvR (X.t K.z)) (Option.some (K.i (K.i K.z))) Gd.no [],
   .mk (lenR LnK.slice (X.t (K.i (K.i K.z)))) (Option.some (K.o (K.o (K.o K.z)))) Gd.no [],
   .mk (mvR (X.t (K.o K.z))) (Option.some (K.i (K.o (K.o K.z)))) Gd.no [],
   .mk (lenR LnK.slice (X.t (K.i (K.o (K.o K.z))))) (Option.some (K.o (K.i (K.o K.z)))) Gd.no [],
   .mk (binR Try.prog EK.no Option.none Bool.false BinOp.neq (X.t (K.o (K.o (K.o K.z)))) (X.t (K.o (K.i (K.o K.z))))) (Option.some (K.i (K.i (K.o K.z)))) Gd.no []])
  (.cond (X.t (K.i (K.i (K.o K.z))))
  (.seq (.region [.mk (mvR (X.c (AV.bool Bool.false))) (Option.some (K.i (K.o K.z))) Gd.no []])
  .ret)
  .skip))
  (.seq (.seq (.region [.mk (mvR (X.c (AV.int IntKind.i64 0))) (Option.some (K.o (K.i K.z))) Gd.no []])
  (.block 0 (.loop C19L0)))
  (.seq (.region [.mk (mvR (X.c (AV.bool Bool.true))) (Option.some (K.i (K.o K.z))) Gd.no []])
  .ret))))
theorem C19ok : (match Try.f19.body with | some c => comp Try.prog 26 c | none => none) = some C19 := by kernel_rfl
@[go_sem] theorem call19 (args : List AV) (H : Heap) : callC Try.prog 19 args H = .call 19 args := callC_ok (by kernel_rfl) args H
theorem R19ok : resKs Try.prog Try.f19.results.toList = some [(RK.tmp (K.i (K.o K.z)))] := by kernel_rfl

/- 20: estuary/index.Within -/
noncomputable def C20L0 : CC :=
  (.seq (.region [.mk (binR Try.prog EK.no Option.none Bool.false BinOp.lss (X.t (K.i (K.i (K.o K.z)))) (X.t (K.o (K.i (K.o K.z))))) (Option.some (K.o (K.o (K.i K.z)))) Gd.no []])
  (.seq (.cond (X.t (K.o (K.o (K.i K.z))))
  .skip
  (.exit 0))
  (.seq (.block 1 (.seq (.region [.mk (iaS 5 (X.t (K.i (K.o (K.o K.z)))) (X.t (K.i (K.i (K.o K.z))))) (Option.some (K.i (K.o (K.i K.z)))) Gd.no [],
   .mk (ldR Bool.true 5 (X.t (K.i (K.o (K.i K.z))))) (Option.some (K.o (K.i (K.i K.z)))) Gd.no [],
   .mk (fun _ H => newC Bool.false [(AV.str []), (AV.str []), (AV.int IntKind.i64 0), (AV.bool Bool.false), (AV.int IntKind.i64 0)] H) (Option.some (K.o (K.o (K.o K.z)))) Gd.no [],
   .mk (stR 5 (X.t (K.o (K.o (K.o K.z)))) (X.t (K.o (K.i (K.i K.z))))) Option.none Gd.no []])
  (.seq (.region [.mk (ldR Bool.true 2 (X.t (K.o (K.o K.z)))) (Option.some (K.i (K.i (K.i K.z)))) Gd.no [],
   .mk (faR 0 (X.t (K.o (K.o (K.o K.z))))) (Option.some (K.o (K.o (K.o (K.o K.z))))) Gd.no [],
   .mk (ldR Bool.false 1 (X.t (K.o (K.o (K.o (K.o K.z)))))) (Option.some (K.i (K.o (K.o (K.o K.z))))) Gd.no [],
   .mk (callS Try.prog 49 [(X.t (K.i (K.i (K.i K.z)))), (X.t (K.i (K.o (K.o (K.o K.z)))))]) (Option.some (K.o (K.i (K.o (K.o K.z))))) Gd.no []])
  (.cond (X.t (K.o (K.i (K.o (K.o K.z)))))
  (.region [.mk (mvR (X.t (K.o (K.i K.z)))) (Option.some (K.i (K.i (K.o (K.o K.z))))) Gd.no [],
   .mk (ldR Bool.true 5 (X.t (K.o (K.o (K.o K.z))))) (Option.some (K.o (K.o (K.i (K.o K.z))))) Gd.no [],
   .mk (bslR 5 1 [(AV.str []), (AV.str []), (AV.int IntKind.i64 0), (AV.bool Bool.false), (AV.int IntKind.i64 0)] [(0, (X.t (K.o (K.o (K.i (K.o K.z))))))]) (Option.some (K.i (K.o (K.i (K.o K.z))))) Gd.no [],
   .mk (appR 5 56 (X.t (K.i (K.i (K.o (K.o K.z))))) (X.t (K.i (K.o (K.i (K.o K.z)))))) (Option.some (K.o (K.i (K.i (K.o K.z))))) Gd.no [],
   .mk (mvR (X.t (K.o (K.i (K.i (K.o K.z)))))) (Option.some (K.o (K.i K.z))) Gd.no []])
  .skip))))
  (.region [.mk (binR Try.prog EK.no Option.none Bool.true BinOp.add (X.t (K.i (K.i (K.o K.z)))) (X.c (AV.int IntKind.i64 1))) (Option.some (K.i (K.i (K.i (K.o K.z))))) Gd.no [],
   .mk (mvR (X.t (K.i (K.i (K.i (K.o K.z)))))) (Option.some (K.i (K.i (K.o K.z)))) Gd.no []]))))
noncomputable def C20 : CC :=
  (.seq (.region [.mk (boxR Bool.false (X.t (K.o K.z))) (Option.some (K.o (K.o K.z))) Gd.no [],
   .mk (mvR (X.c AV.nils)) (Option.some (K.i (K.o K.z))) Gd.no []])
  (.seq (.region [.mk (mvR (X.c AV.nils)) (Option.some (K.o (K.i K.z))) Gd.no []])
  (.seq (.seq (.region [.mk (mvR (X.t K.z)) (Option.some (K.i (K.o (K.o K.z)))) Gd.no [],
   .mk (lenR LnK.slice (X.t (K.i (K.o (K.o K.z))))) (Option.some (K.o (K.i (K.o K.z)))) Gd.no [],
   .mk (mvR (X.c (AV.int IntKind.i64 0))) (Option.some (K.i (K.i (K.o K.z)))) Gd.no []])
  (.block 0 (.loop C20L0)))
  (.seq (.region [.mk (mvR (X.t (K.o (K.i K.z)))) (Option.some (K.o (K.o (K.o (K.i K.z))))) Gd.no [],
   .mk (mvR (X.t (K.o (K.o (K.o (K.i K.z)))))) (Option.some (K.i (K.o K.z))) Gd.no []])
  .ret))))
theorem C20ok : (match Try.f20.body with | some c => comp Try.prog 24 c | none => none) = some C20 := by kernel_rfl
@[go_sem] theorem call20 (args : List AV) (H : Heap) : callC Try.prog 20 args H = .call 20 args := callC_ok (by kernel_rfl) args H
theorem R20ok : resKs Try.prog Try.f20.results.toList = some [(RK.tmp (K.i (K.o K.z)))] := by kernel_rfl

/- 21: estuary/estuaryref11.Within -/
noncomputable def C21L0 : CC :=
  (.seq (.seq (.region [.mk (mvR (X.t (K.i (K.i K.z)))) (Option.some (K.o (K.o (K.o K.z)))) Gd.no [],
   .mk (mvR (X.t K.z)) (Option.some (K.i (K.o (K.o K.z)))) Gd.no [],
   .mk (lenR LnK.slice (X.t (K.i (K.o (K.o K.z))))) (Option.some (K.o (K.i (K.o K.z)))) Gd.no [],
   .mk (binR Try.prog EK.no Option.none Bool.false BinOp.lss (X.t (K.o (K.o (K.o K.z)))) (X.t (K.o (K.i (K.o K.z))))) (Option.some (K.i (K.i (K.o K.z)))) Gd.no []])
  (.cond (X.t (K.i (K.i (K.o K.z))))
  .skip
  (.exit 0)))
  (.seq (.block 1 (.seq (.regionD [.mk (keepH (mvR (X.t (K.i (K.i K.z))))) (Option.some (K.o (K.o (K.o (K.o K.z))))) Gd.no [],
   .mk (keepH (mvR (X.t K.z))) (Option.some (K.i (K.i (K.i K.z)))) Gd.no [],
   .mk (keepH (iaS 5 (X.t (K.i (K.i (K.i K.z)))) (X.t (K.o (K.o (K.o (K.o K.z))))))) (Option.some (K.i (K.o (K.o (K.o K.z))))) Gd.no [],
   .mk (keepH (faR 0 (X.t (K.i (K.o (K.o (K.o K.z))))))) (Option.some (K.o (K.i (K.o (K.o K.z))))) Gd.no [],
   .mk (keepH (ldR Bool.false 1 (X.t (K.o (K.i (K.o (K.o K.z))))))) (Option.some (K.i (K.i (K.o (K.o K.z))))) Gd.no [],
   .mk (keepH (ldR Bool.true 2 (X.t (K.o (K.o K.z))))) (Option.some (K.o (K.i (K.i K.z)))) Gd.no [],
   .mk (callS Try.prog 46 [(X.t (K.o (K.i (K.i K.z)))), (X.t (K.i (K.i (K.o (K.o K.z)))))]) (Option.some (K.o (K.o (K.i (K.o K.z))))) Gd.no []])
  (.cond (X.t (K.o (K.o (K.i (K.o K.z)))))
  (.region [.mk (mvR (X.t (K.o (K.i K.z)))) (Option.some (K.i (K.o (K.i (K.o K.z))))) Gd.no [],
   .mk (mvR (X.t K.z)) (Option.some (K.o (K.i (K.i (K.o K.z))))) Gd.no [],
   .mk (mvR (X.t (K.i (K.i K.z)))) (Option.some (K.i (K.i (K.i (K.o K.z))))) Gd.no [],
   .mk (iaS 5 (X.t (K.o (K.i (K.i (K.o K.z))))) (X.t (K.i (K.i (K.i (K.o K.z)))))) (Option.some (K.o (K.o (K.o (K.i K.z))))) Gd.no [],
   .mk (ldR Bool.true 5 (X.t (K.o (K.o (K.o (K.i K.z)))))) (Option.some (K.i (K.o (K.o (K.i K.z))))) Gd.no [],
   .mk (bslR 5 1 [(AV.str []), (AV.str []), (AV.int IntKind.i64 0), (AV.bool Bool.false), (AV.int IntKind.i64 0)] [(0, (X.t (K.i (K.o (K.o (K.i K.z))))))]) (Option.some (K.o (K.i (K.o (K.i K.z))))) Gd.no [],
   .mk (appR 5 56 (X.t (K.i (K.o (K.i (K.o K.z))))) (X.t (K.o (K.i (K.o (K.i K.z)))))) (Option.some (K.i (K.i (K.o (K.i K.z))))) Gd.no [],
   .mk (mvR (X.t (K.i (K.i (K.o (K.i K.z)))))) (Option.some (K.o (K.i K.z))) Gd.no []])
  .skip)))
  (.region [.mk (mvR (X.t (K.i (K.i K.z)))) (Option.some (K.o (K.o (K.i K.z)))) Gd.no [],
   .mk (binR Try.prog EK.no Option.none Bool.true BinOp.add (X.t (K.o (K.o (K.i K.z)))) (X.c (AV.int IntKind.i64 1))) (Option.some (K.i (K.o (K.i K.z)))) Gd.no [],
   .mk (mvR (X.t (K.i (K.o (K.i K.z))))) (Option.some (K.i (K.i K.z))) Gd.no []])))
noncomputable def C21 : CC :=
  (.seq (.region [.mk (boxR Bool.false (X.t (K.o K.z))) (Option.some (K.o (K.o K.z))) Gd.no [],
   .mk (mvR (X.c AV.nils)) (Option.some (K.i (K.o K.z))) Gd.no []])
  (.seq (.region [.mk (mvR (X.c AV.nils)) (Option.some (K.o (K.i K.z))) Gd.no []])
  (.seq (.seq (.region [.mk (mvR (X.c (AV.int IntKind.i64 0))) (Option.some (K.i (K.i K.z))) Gd.no []])
  (.block 0 (.loop C21L0)))
  (.seq (.region [.mk (mvR (X.t (K.o (K.i K.z)))) (Option.some (K.o (K.o (K.i (K.i K.z))))) Gd.no [],
   .mk (mvR (X.t (K.o (K.o (K.i (K.i K.z)))))) (Option.some (K.i (K.o K.z))) Gd.no []])
  .ret))))
theorem C21ok : (match Try.f21.body with | some c => comp Try.prog 28 c | none => none) = some C21 := by kernel_rfl
@[go_sem] theorem call21 (args : List AV) (H : Heap) : callC Try.prog 21 args H = .call 21 args := callC_ok (by kernel_rfl) args H
theorem R21ok : resKs Try.prog Try.f21.results.toList = some [(RK.tmp (K.i (K.o K.z)))] := by kernel_rfl

/- 22: estuary/index.With -/
noncomputable def C22L0 : CC :=
  (.seq (.seq (.regionD [.mk (keepH (mvR (X.t (K.o (K.i K.z))))) (Option.some (K.i (K.i (K.i K.z)))) Gd.no [],
   .mk (keepH (lenR LnK.slice (X.t (K.i (K.i (K.i K.z)))))) (Option.some (K.o (K.o (K.o (K.o K.z))))) Gd.no [],
   .mk (keepH (mvR (X.t (K.i (K.i K.z))))) (Option.some (K.o (K.i (K.i K.z)))) Gd.no [],
   .mk (keepH (binR Try.prog EK.no Option.none Bool.false BinOp.lss (X.t (K.o (K.i (K.i K.z)))) (X.t (K.o (K.o (K.o (K.o K.z))))))) (Option.some (K.i (K.o (K.o (K.o K.z))))) Gd.no [],
   .mk (keepH (mvR (X.t (K.i (K.o (K.o (K.o K.z))))))) (Option.some (K.o (K.i (K.o (K.o K.z))))) Gd.no [],
   .mk (keepH (faR 0 (X.t (K.o (K.o K.z))))) (Option.some (K.o (K.o (K.o (K.i K.z))))) (Gd.on (K.o (K.i (K.o (K.o K.z)))) Bool.true) [],
   .mk (keepH (ldR Bool.false 1 (X.t (K.o (K.o (K.o (K.i K.z))))))) (Option.some (K.i (K.o (K.o (K.i K.z))))) (Gd.on (K.o (K.i (K.o (K.o K.z)))) Bool.true) [],
   .mk (keepH (mvR (X.t (K.i (K.i K.z))))) (Option.some (K.o (K.o (K.i (K.o K.z))))) (Gd.on (K.o (K.i (K.o (K.o K.z)))) Bool.true) [],
   .mk (keepH (mvR (X.t (K.o (K.i K.z))))) (Option.some (K.i (K.i (K.o (K.o K.z))))) (Gd.on (K.o (K.i (K.o (K.o K.z)))) Bool.true) [],
   .mk (keepH (iaS 5 (X.t (K.i (K.i (K.o (K.o K.z))))) (X.t (K.o (K.o (K.i (K.o K.z))))))) (Option.some (K.i (K.o (K.i (K.o K.z))))) (Gd.on (K.o (K.i (K.o (K.o K.z)))) Bool.true) [],
   .mk (keepH (faR 0 (X.t (K.i (K.o (K.i (K.o K.z))))))) (Option.some (K.o (K.i (K.i (K.o K.z))))) (Gd.on (K.o (K.i (K.o (K.o K.z)))) Bool.true) [],
   .mk (keepH (ldR Bool.false 1 (X.t (K.o (K.i (K.i (K.o K.z))))))) (Option.some (K.i (K.i (K.i (K.o K.z))))) (Gd.on (K.o (K.i (K.o (K.o K.z)))) Bool.true) [],
   .mk (keepH (binR Try.prog EK.no Option.none Bool.false BinOp.lss (X.t (K.i (K.i (K.i (K.o K.z))))) (X.t (K.i (K.o (K.o (K.i K.z))))))) (Option.some (K.o (K.i (K.o (K.i K.z))))) (Gd.on (K.o (K.i (K.o (K.o K.z)))) Bool.true) [],
   .mk (keepH (pickR (X.t (K.o (K.i (K.o (K.o K.z))))) (X.t (K.o (K.i (K.o (K.i K.z))))) (X.c (AV.bool Bool.false)))) (Option.some (K.i (K.i (K.o (K.i K.z))))) Gd.no []])
  (.cond (X.t (K.i (K.i (K.o (K.i K.z)))))
  .skip
  (.exit 0)))
  (.block 1 (.region [.mk (mvR (X.t (K.i (K.i K.z)))) (Option.some (K.o (K.o (K.i (K.i K.z))))) Gd.no [],
   .mk (binR Try.prog EK.no Option.none Bool.true BinOp.add (X.t (K.o (K.o (K.i (K.i K.z))))) (X.c (AV.int IntKind.i64 1))) (Option.some (K.i (K.o (K.i (K.i K.z))))) Gd.no [],
   .mk (mvR (X.t (K.i (K.o (K.i (K.i K.z)))))) (Option.some (K.i (K.i K.z))) Gd.no []])))
noncomputable def C22 : CC :=
  (.seq (.region [.mk (boxR Bool.false (X.t (K.o K.z))) (Option.some (K.o (K.o K.z))) Gd.no [],
   .mk (mvR (X.c AV.nils)) (Option.some (K.i (K.o K.z))) Gd.no []])
  (.seq (.region [.mk (mvR (X.t K.z)) (Option.some (K.o (K.o (K.o K.z)))) Gd.no [],
   .mk (callS Try.prog 50 [(X.t (K.o (K.o (K.o K.z))))]) (Option.some (K.i (K.o (K.o K.z)))) Gd.no [],
   .mk (mvR (X.t (K.i (K.o (K.o K.z))))) (Option.some (K.o (K.i K.z))) Gd.no []])
  (.seq (.seq (.region [.mk (ldR Bool.true 5 (X.t (K.o (K.o K.z)))) (Option.some (K.o (K.i (K.o K.z)))) Gd.no [],
   .mk (callS Try.prog 48 [(X.t (K.o (K.i (K.o K.z))))]) (Option.some (K.i (K.i (K.o K.z)))) Gd.no [],
   .mk (unR UnOp.not (X.t (K.i (K.i (K.o K.z))))) (Option.some (K.o (K.o (K.i K.z)))) Gd.no []])
  (.cond (X.t (K.o (K.o (K.i K.z))))
  (.seq (.region [.mk (mvR (X.t (K.o (K.i K.z)))) (Option.some (K.i (K.o (K.i K.z)))) Gd.no [],
   .mk (mvR (X.t (K.i (K.o (K.i K.z))))) (Option.some (K.i (K.o K.z))) Gd.no []])
  .ret)
  .skip))
  (.seq (.region [.mk (mvR (X.c (AV.int IntKind.i64 0))) (Option.some (K.i (K.i K.z))) Gd.no []])
  (.seq (.block 0 (.loop C22L0))
  (.seq (.seq (.regionD [.mk (keepH (mvR (X.t (K.o (K.i K.z))))) (Option.some (K.i (K.i (K.i (K.i K.z))))) Gd.no [],
   .mk (keepH (lenR LnK.slice (X.t (K.i (K.i (K.i (K.i K.z))))))) (Option.some (K.o (K.o (K.o (K.o (K.o K.z)))))) Gd.no [],
   .mk (keepH (mvR (X.t (K.i (K.i K.z))))) (Option.some (K.o (K.i (K.i (K.i K.z))))) Gd.no [],
   .mk (keepH (binR Try.prog EK.no Option.none Bool.false BinOp.lss (X.t (K.o (K.i (K.i (K.i K.z))))) (X.t (K.o (K.o (K.o (K.o (K.o K.z)))))))) (Option.some (K.i (K.o (K.o (K.o (K.o K.z)))))) Gd.no [],
   .mk (keepH (mvR (X.t (K.i (K.o (K.o (K.o (K.o K.z)))))))) (Option.some (K.o (K.i (K.o (K.o (K.o K.z)))))) Gd.no [],
   .mk (keepH (faR 0 (X.t (K.o (K.o K.z))))) (Option.some (K.o (K.o (K.o (K.i (K.o K.z)))))) (Gd.on (K.o (K.i (K.o (K.o (K.o K.z))))) Bool.true) [],
   .mk (keepH (ldR Bool.false 1 (X.t (K.o (K.o (K.o (K.i (K.o K.z)))))))) (Option.some (K.i (K.o (K.o (K.i (K.o K.z)))))) (Gd.on (K.o (K.i (K.o (K.o (K.o K.z))))) Bool.true) [],
   .mk (keepH (mvR (X.t (K.i (K.i K.z))))) (Option.some (K.o (K.o (K.i (K.o (K.o K.z)))))) (Gd.on (K.o (K.i (K.o (K.o (K.o K.z))))) Bool.true) [],
   .mk (keepH (mvR (X.t (K.o (K.i K.z))))) (Option.some (K.i (K.i (K.o (K.o (K.o K.z)))))) (Gd.on (K.o (K.i (K.o (K.o (K.o K.z))))) Bool.true) [],
   .mk (keepH (iaS 5 (X.t (K.i (K.i (K.o (K.o (K.o K.z)))))) (X.t (K.o (K.o (K.i (K.o (K.o K.z)))))))) (Option.some (K.i (K.o (K.i (K.o (K.o K.z)))))) (Gd.on (K.o (K.i (K.o (K.o (K.o K.z))))) Bool.true) [],
   .mk (keepH (faR 0 (X.t (K.i (K.o (K.i (K.o (K.o K.z)))))))) (Option.some (K.o (K.i (K.i (K.o (K.o K.z)))))) (Gd.on (K.o (K.i (K.o (K.o (K.o K.z))))) Bool.true) [],
   .mk (keepH (ldR Bool.false 1 (X.t (K.o (K.i (K.i (K.o (K.o K.z)))))))) (Option.some (K.i (K.i (K.i (K.o (K.o K.z)))))) (Gd.on (K.o (K.i (K.o (K.o (K.o K.z))))) Bool.true) [],
   .mk (keepH (binR Try.prog EK.no Option.none Bool.false BinOp.eql (X.t (K.i (K.i (K.i (K.o (K.o K.z)))))) (X.t (K.i (K.o (K.o (K.i (K.o K.z)))))))) (Option.some (K.o (K.i (K.o (K.i (K.o K.z)))))) (Gd.on (K.o (K.i (K.o (K.o (K.o K.z))))) Bool.true) [],
   .mk (keepH (pickR (X.t (K.o (K.i (K.o (K.o (K.o K.z)))))) (X.t (K.o (K.i (K.o (K.i (K.o K.z)))))) (X.c (AV.bool Bool.false)))) (Option.some (K.i (K.i (K.o (K.i (K.o K.z)))))) Gd.no []])
  (.cond (X.t (K.i (K.i (K.o (K.i (K.o K.z))))))
  (.seq (.region [.mk (mvR (X.t (K.o (K.i K.z)))) (Option.some (K.o (K.o (K.i (K.i (K.o K.z)))))) Gd.no [],
   .mk (mvR (X.t (K.i (K.i K.z)))) (Option.some (K.i (K.o (K.i (K.i (K.o K.z)))))) Gd.no [],
   .mk (ldR Bool.true 5 (X.t (K.o (K.o K.z)))) (Option.some (K.o (K.i (K.i (K.i (K.o K.z)))))) Gd.no [],
   .mk (iaS 5 (X.t (K.o (K.o (K.i (K.i (K.o K.z)))))) (X.t (K.i (K.o (K.i (K.i (K.o K.z))))))) (Option.some (K.i (K.i (K.i (K.i (K.o K.z)))))) Gd.no [],
   .mk (stR 5 (X.t (K.i (K.i (K.i (K.i (K.o K.z)))))) (X.t (K.o (K.i (K.i (K.i (K.o K.z))))))) Option.none Gd.no []])
  (.seq (.region [.mk (mvR (X.t (K.o (K.i K.z)))) (Option.some (K.o (K.o (K.o (K.o (K.i K.z)))))) Gd.no [],
   .mk (mvR (X.t (K.o (K.o (K.o (K.o (K.i K.z))))))) (Option.some (K.i (K.o K.z))) Gd.no []])
  .ret))
  .skip))
  (.seq (.region [.mk (mvR (X.t (K.o (K.i K.z)))) (Option.some (K.i (K.o (K.o (K.o (K.i K.z)))))) Gd.no [],
   .mk (mvR (X.t (K.i (K.i K.z)))) (Option.some (K.o (K.i (K.o (K.o (K.i K.z)))))) Gd.no [],
   .mk (ldR Bool.true 5 (X.t (K.o (K.o K.z)))) (Option.some (K.i (K.i (K.o (K.o (K.i K.z)))))) Gd.no [],
   .mk (bslR 5 1 [(AV.str []), (AV.str []), (AV.int IntKind.i64 0), (AV.bool Bool.false), (AV.int IntKind.i64 0)] [(0, (X.t (K.i (K.i (K.o (K.o (K.i K.z)))))))]) (Option.some (K.o (K.o (K.i (K.o (K.i K.z)))))) Gd.no [],
   .mk (callS Try.prog 51 [(X.t (K.i (K.o (K.o (K.o (K.i K.z)))))), (X.t (K.o (K.i (K.o (K.o (K.i K.z)))))), (X.t (K.o (K.o (K.i (K.o (K.i K.z))))))]) (Option.some (K.i (K.o (K.i (K.o (K.i K.z)))))) Gd.no [],
   .mk (mvR (X.t (K.i (K.o (K.i (K.o (K.i K.z))))))) (Option.some (K.i (K.o K.z))) Gd.no []])
  .ret)))))))
theorem C22ok : (match Try.f22.body with | some c => comp Try.prog 53 c | none => none) = some C22 := by kernel_rfl
@[go_sem] theorem call22 (args : List AV) (H : Heap) : callC Try.prog 22 args H = .call 22 args := callC_ok (by kernel_rfl) args H
theorem R22ok : resKs Try.prog Try.f22.results.toList = some [(RK.tmp (K.i (K.o K.z)))] := by kernel_rfl

/- 23: estuary/estuaryref11.With -/
noncomputable def C23L0 : CC :=
  (.seq (.seq (.region [.mk (mvR (X.t (K.o (K.o (K.o K.z))))) (Option.some (K.i (K.o (K.i K.z)))) Gd.no [],
   .mk (mvR (X.t K.z)) (Option.some (K.o (K.i (K.i K.z)))) Gd.no [],
   .mk (lenR LnK.slice (X.t (K.o (K.i (K.i K.z))))) (Option.some (K.i (K.i (K.i K.z)))) Gd.no [],
   .mk (binR Try.prog EK.no Option.none Bool.false BinOp.lss (X.t (K.i (K.o (K.i K.z)))) (X.t (K.i (K.i (K.i K.z))))) (Option.some (K.o (K.o (K.o (K.o K.z))))) Gd.no []])
  (.cond (X.t (K.o (K.o (K.o (K.o K.z)))))
  .skip
  (.exit 0)))
  (.seq (.block 1 (.seq (.seq (.regionD [.mk (keepH (mvR (X.t (K.i (K.i K.z))))) (Option.some (K.i (K.i (K.o (K.o K.z))))) Gd.no [],
   .mk (keepH (unR UnOp.not (X.t (K.i (K.i (K.o (K.o K.z))))))) (Option.some (K.o (K.o (K.i (K.o K.z))))) Gd.no [],
   .mk (keepH (mvR (X.t (K.o (K.o (K.i (K.o K.z))))))) (Option.some (K.i (K.o (K.i (K.o K.z))))) Gd.no [],
   .mk (keepH (faR 0 (X.t (K.o (K.o K.z))))) (Option.some (K.i (K.i (K.o (K.i K.z))))) (Gd.on (K.i (K.o (K.i (K.o K.z)))) Bool.true) [],
   .mk (keepH (ldR Bool.false 1 (X.t (K.i (K.i (K.o (K.i K.z))))))) (Option.some (K.o (K.o (K.i (K.i K.z))))) (Gd.on (K.i (K.o (K.i (K.o K.z)))) Bool.true) [],
   .mk (keepH (mvR (X.t (K.o (K.o (K.o K.z)))))) (Option.some (K.i (K.i (K.i (K.o K.z))))) (Gd.on (K.i (K.o (K.i (K.o K.z)))) Bool.true) [],
   .mk (keepH (mvR (X.t K.z))) (Option.some (K.o (K.i (K.i (K.o K.z))))) (Gd.on (K.i (K.o (K.i (K.o K.z)))) Bool.true) [],
   .mk (keepH (iaS 5 (X.t (K.o (K.i (K.i (K.o K.z))))) (X.t (K.i (K.i (K.i (K.o K.z))))))) (Option.some (K.o (K.o (K.o (K.i K.z))))) (Gd.on (K.i (K.o (K.i (K.o K.z)))) Bool.true) [],
   .mk (keepH (faR 0 (X.t (K.o (K.o (K.o (K.i K.z))))))) (Option.some (K.i (K.o (K.o (K.i K.z))))) (Gd.on (K.i (K.o (K.i (K.o K.z)))) Bool.true) [],
   .mk (keepH (ldR Bool.false 1 (X.t (K.i (K.o (K.o (K.i K.z))))))) (Option.some (K.o (K.i (K.o (K.i K.z))))) (Gd.on (K.i (K.o (K.i (K.o K.z)))) Bool.true) [],
   .mk (keepH (binR Try.prog EK.no Option.none Bool.false BinOp.geq (X.t (K.o (K.i (K.o (K.i K.z))))) (X.t (K.o (K.o (K.i (K.i K.z))))))) (Option.some (K.i (K.o (K.i (K.i K.z))))) (Gd.on (K.i (K.o (K.i (K.o K.z)))) Bool.true) [],
   .mk (keepH (pickR (X.t (K.i (K.o (K.i (K.o K.z))))) (X.t (K.i (K.o (K.i (K.i K.z))))) (X.c (AV.bool Bool.false)))) (Option.some (K.o (K.i (K.i (K.i K.z))))) Gd.no []])
  (.cond (X.t (K.o (K.i (K.i (K.i K.z)))))
  (.seq (.region [.mk (mvR (X.t (K.o (K.i K.z)))) (Option.some (K.i (K.i (K.i (K.i K.z))))) Gd.no [],
   .mk (ldR Bool.true 5 (X.t (K.o (K.o K.z)))) (Option.some (K.o (K.o (K.o (K.o (K.o K.z)))))) Gd.no [],
   .mk (bslR 5 1 [(AV.str []), (AV.str []), (AV.int IntKind.i64 0), (AV.bool Bool.false), (AV.int IntKind.i64 0)] [(0, (X.t (K.o (K.o (K.o (K.o (K.o K.z)))))))]) (Option.some (K.i (K.o (K.o (K.o (K.o K.z)))))) Gd.no [],
   .mk (appR 5 56 (X.t (K.i (K.i (K.i (K.i K.z))))) (X.t (K.i (K.o (K.o (K.o (K.o K.z))))))) (Option.some (K.o (K.i (K.o (K.o (K.o K.z)))))) Gd.no [],
   .mk (mvR (X.t (K.o (K.i (K.o (K.o (K.o K.z))))))) (Option.some (K.o (K.i K.z))) Gd.no []])
  (.region [.mk (mvR (X.c (AV.bool Bool.true))) (Option.some (K.i (K.i K.z))) Gd.no []]))
  .skip))
  (.seq (.regionD [.mk (keepH (faR 0 (X.t (K.o (K.o K.z))))) (Option.some (K.o (K.o (K.o (K.i (K.o K.z)))))) Gd.no [],
   .mk (keepH (ldR Bool.false 1 (X.t (K.o (K.o (K.o (K.i (K.o K.z)))))))) (Option.some (K.i (K.o (K.o (K.i (K.o K.z)))))) Gd.no [],
   .mk (keepH (mvR (X.t (K.o (K.o (K.o K.z)))))) (Option.some (K.o (K.o (K.i (K.o (K.o K.z)))))) Gd.no [],
   .mk (keepH (mvR (X.t K.z))) (Option.some (K.i (K.i (K.o (K.o (K.o K.z)))))) Gd.no [],
   .mk (keepH (iaS 5 (X.t (K.i (K.i (K.o (K.o (K.o K.z)))))) (X.t (K.o (K.o (K.i (K.o (K.o K.z)))))))) (Option.some (K.i (K.o (K.i (K.o (K.o K.z)))))) Gd.no [],
   .mk (keepH (faR 0 (X.t (K.i (K.o (K.i (K.o (K.o K.z)))))))) (Option.some (K.o (K.i (K.i (K.o (K.o K.z)))))) Gd.no [],
   .mk (keepH (ldR Bool.false 1 (X.t (K.o (K.i (K.i (K.o (K.o K.z)))))))) (Option.some (K.i (K.i (K.i (K.o (K.o K.z)))))) Gd.no [],
   .mk (keepH (binR Try.prog EK.no Option.none Bool.false BinOp.neq (X.t (K.i (K.i (K.i (K.o (K.o K.z)))))) (X.t (K.i (K.o (K.o (K.i (K.o K.z)))))))) (Option.some (K.o (K.i (K.o (K.i (K.o K.z)))))) Gd.no []])
  (.cond (X.t (K.o (K.i (K.o (K.i (K.o K.z))))))
  (.region [.mk (mvR (X.t (K.o (K.i K.z)))) (Option.some (K.i (K.i (K.o (K.i (K.o K.z)))))) Gd.no [],
   .mk (mvR (X.t K.z)) (Option.some (K.o (K.o (K.i (K.i (K.o K.z)))))) Gd.no [],
   .mk (mvR (X.t (K.o (K.o (K.o K.z))))) (Option.some (K.i (K.o (K.i (K.i (K.o K.z)))))) Gd.no [],
   .mk (iaS 5 (X.t (K.o (K.o (K.i (K.i (K.o K.z)))))) (X.t (K.i (K.o (K.i (K.i (K.o K.z))))))) (Option.some (K.o (K.i (K.i (K.i (K.o K.z)))))) Gd.no [],
   .mk (ldR Bool.true 5 (X.t (K.o (K.i (K.i (K.i (K.o K.z))))))) (Option.some (K.i (K.i (K.i (K.i (K.o K.z)))))) Gd.no [],
   .mk (bslR 5 1 [(AV.str []), (AV.str []), (AV.int IntKind.i64 0), (AV.bool Bool.false), (AV.int IntKind.i64 0)] [(0, (X.t (K.i (K.i (K.i (K.i (K.o K.z)))))))]) (Option.some (K.o (K.o (K.o (K.o (K.i K.z)))))) Gd.no [],
   .mk (appR 5 56 (X.t (K.i (K.i (K.o (K.i (K.o K.z)))))) (X.t (K.o (K.o (K.o (K.o (K.i K.z))))))) (Option.some (K.i (K.o (K.o (K.o (K.i K.z)))))) Gd.no [],
   .mk (mvR (X.t (K.i (K.o (K.o (K.o (K.i K.z))))))) (Option.some (K.o (K.i K.z))) Gd.no []])
  .skip))))
  (.region [.mk (mvR (X.t (K.o (K.o (K.o K.z))))) (Option.some (K.i (K.o (K.o (K.o K.z))))) Gd.no [],
   .mk (binR Try.prog EK.no Option.none Bool.true BinOp.add (X.t (K.i (K.o (K.o (K.o K.z))))) (X.c (AV.int IntKind.i64 1))) (Option.some (K.o (K.i (K.o (K.o K.z))))) Gd.no [],
   .mk (mvR (X.t (K.o (K.i (K.o (K.o K.z)))))) (Option.some (K.o (K.o (K.o K.z)))) Gd.no []])))
noncomputable def C23 : CC :=
  (.seq (.region [.mk (boxR Bool.false (X.t (K.o K.z))) (Option.some (K.o (K.o K.z))) Gd.no [],
   .mk (mvR (X.c AV.nils)) (Option.some (K.i (K.o K.z))) Gd.no []])
  (.seq (.seq (.region [.mk (ldR Bool.true 5 (X.t (K.o (K.o K.z)))) (Option.some (K.i (K.o (K.o K.z)))) Gd.no [],
   .mk (callS Try.prog 24 [(X.t (K.i (K.o (K.o K.z))))]) (Option.some (K.o (K.i (K.o K.z)))) Gd.no [],
   .mk (unR UnOp.not (X.t (K.o (K.i (K.o K.z))))) (Option.some (K.i (K.i (K.o K.z)))) Gd.no []])
  (.cond (X.t (K.i (K.i (K.o K.z))))
  (.seq (.region [.mk (mvR (X.t K.z)) (Option.some (K.o (K.o (K.i K.z)))) Gd.no [],
   .mk (mvR (X.t (K.o (K.o (K.i K.z))))) (Option.some (K.i (K.o K.z))) Gd.no []])
  .ret)
  .skip))
  (.seq (.region [.mk (mvR (X.c AV.nils)) (Option.some (K.o (K.i K.z))) Gd.no []])
  (.seq (.region [.mk (mvR (X.c (AV.bool Bool.false))) (Option.some (K.i (K.i K.z))) Gd.no []])
  (.seq (.seq (.region [.mk (mvR (X.c (AV.int IntKind.i64 0))) (Option.some (K.o (K.o (K.o K.z)))) Gd.no []])
  (.block 0 (.loop C23L0)))
  (.seq (.seq (.region [.mk (mvR (X.t (K.i (K.i K.z)))) (Option.some (K.o (K.i (K.o (K.o (K.i K.z)))))) Gd.no [],
   .mk (unR UnOp.not (X.t (K.o (K.i (K.o (K.o (K.i K.z))))))) (Option.some (K.i (K.i (K.o (K.o (K.i K.z)))))) Gd.no []])
  (.cond (X.t (K.i (K.i (K.o (K.o (K.i K.z))))))
  (.region [.mk (mvR (X.t (K.o (K.i K.z)))) (Option.some (K.o (K.o (K.i (K.o (K.i K.z)))))) Gd.no [],
   .mk (ldR Bool.true 5 (X.t (K.o (K.o K.z)))) (Option.some (K.i (K.o (K.i (K.o (K.i K.z)))))) Gd.no [],
   .mk (bslR 5 1 [(AV.str []), (AV.str []), (AV.int IntKind.i64 0), (AV.bool Bool.false), (AV.int IntKind.i64 0)] [(0, (X.t (K.i (K.o (K.i (K.o (K.i K.z)))))))]) (Option.some (K.o (K.i (K.i (K.o (K.i K.z)))))) Gd.no [],
   .mk (appR 5 56 (X.t (K.o (K.o (K.i (K.o (K.i K.z)))))) (X.t (K.o (K.i (K.i (K.o (K.i K.z))))))) (Option.some (K.i (K.i (K.i (K.o (K.i K.z)))))) Gd.no [],
   .mk (mvR (X.t (K.i (K.i (K.i (K.o (K.i K.z))))))) (Option.some (K.o (K.i K.z))) Gd.no []])
  .skip))
  (.seq (.region [.mk (mvR (X.t (K.o (K.i K.z)))) (Option.some (K.o (K.o (K.o (K.i (K.i K.z)))))) Gd.no [],
   .mk (mvR (X.t (K.o (K.o (K.o (K.i (K.i K.z))))))) (Option.some (K.i (K.o K.z))) Gd.no []])
  .ret)))))))
theorem C23ok : (match Try.f23.body with | some c => comp Try.prog 56 c | none => none) = some C23 := by kernel_rfl
@[go_sem] theorem call23 (args : List AV) (H : Heap) : callC Try.prog 23 args H = .call 23 args := callC_ok (by kernel_rfl) args H
theorem R23ok : resKs Try.prog Try.f23.results.toList = some [(RK.tmp (K.i (K.o K.z)))] := by kernel_rfl

/- 24: estuary/estuaryref11.Is -/
noncomputable def C24 : CC :=
  (.seq (.region [.mk (boxR Bool.false (X.t K.z)) (Option.some (K.o K.z)) Gd.no [],
   .mk (mvR (X.c (AV.bool Bool.false))) (Option.some (K.i K.z)) Gd.no []])
  (.seq (.region [.mk (faR 0 (X.t (K.o K.z))) (Option.some (K.o (K.o K.z))) Gd.no [],
   .mk (ldR Bool.false 1 (X.t (K.o (K.o K.z)))) (Option.some (K.i (K.o K.z))) Gd.no [],
   .mk (callS Try.prog 52 [(X.t (K.i (K.o K.z)))]) (Option.some (K.o (K.i K.z))) Gd.no [],
   .mk (mvR (X.t (K.o (K.i K.z)))) (Option.some (K.i (K.i K.z))) Gd.no [],
   .mk (faR 1 (X.t (K.o K.z))) (Option.some (K.o (K.o (K.o K.z)))) (Gd.on (K.i (K.i K.z)) Bool.true) [],
   .mk (ldR Bool.false 1 (X.t (K.o (K.o (K.o K.z))))) (Option.some (K.i (K.o (K.o K.z)))) (Gd.on (K.i (K.i K.z)) Bool.true) [],
   .mk (lenR LnK.str (X.t (K.i (K.o (K.o K.z))))) (Option.some (K.o (K.i (K.o K.z)))) (Gd.on (K.i (K.i K.z)) Bool.true) [],
   .mk (binR Try.prog EK.no Option.none Bool.true BinOp.leq (X.t (K.o (K.i (K.o K.z)))) (X.c (AV.int IntKind.i64 12))) (Option.some (K.i (K.i (K.o K.z)))) (Gd.on (K.i (K.i K.z)) Bool.true) [],
   .mk (pickR (X.t (K.i (K.i K.z))) (X.t (K.i (K.i (K.o K.z)))) (X.c (AV.bool Bool.false))) (Option.some (K.o (K.o (K.i K.z)))) Gd.no [],
   .mk (mvR (X.t (K.o (K.o (K.i K.z))))) (Option.some (K.i (K.o (K.i K.z)))) Gd.no [],
   .mk (faR 3 (X.t (K.o K.z))) (Option.some (K.o (K.i (K.i K.z)))) (Gd.on (K.i (K.o (K.i K.z))) Bool.true) [],
   .mk (ldR Bool.false 1 (X.t (K.o (K.i (K.i K.z))))) (Option.some (K.i (K.i (K.i K.z)))) (Gd.on (K.i (K.o (K.i K.z))) Bool.true) [],
   .mk (mvR (X.t (K.i (K.i (K.i K.z))))) (Option.some (K.o (K.o (K.o (K.o K.z))))) (Gd.on (K.i (K.o (K.i K.z))) Bool.true) [],
   .mk (faR 1 (X.t (K.o K.z))) (Option.some (K.i (K.o (K.o (K.o K.z))))) (Gd.on (K.o (K.o (K.o (K.o K.z)))) Bool.true) [],
   .mk (ldR Bool.false 1 (X.t (K.i (K.o (K.o (K.o K.z)))))) (Option.some (K.o (K.i (K.o (K.o K.z))))) (Gd.on (K.o (K.o (K.o (K.o K.z)))) Bool.true) [],
   .mk (binR Try.prog EK.no Option.none Bool.true BinOp.neq (X.t (K.o (K.i (K.o (K.o K.z))))) (X.c (AV.str []))) (Option.some (K.i (K.i (K.o (K.o K.z))))) (Gd.on (K.o (K.o (K.o (K.o K.z)))) Bool.true) [],
   .mk (pickR (X.t (K.o (K.o (K.o (K.o K.z))))) (X.t (K.i (K.i (K.o (K.o K.z))))) (X.c (AV.bool Bool.false))) (Option.some (K.o (K.o (K.i (K.o K.z))))) (Gd.on (K.i (K.o (K.i K.z))) Bool.true) [],
   .mk (unR UnOp.not (X.t (K.o (K.o (K.i (K.o K.z)))))) (Option.some (K.i (K.o (K.i (K.o K.z))))) (Gd.on (K.i (K.o (K.i K.z))) Bool.true) [],
   .mk (pickR (X.t (K.i (K.o (K.i K.z)))) (X.t (K.i (K.o (K.i (K.o K.z))))) (X.c (AV.bool Bool.false))) (Option.some (K.o (K.i (K.i (K.o K.z))))) Gd.no [],
   .mk (mvR (X.t (K.o (K.i (K.i (K.o K.z)))))) (Option.some (K.i (K.i (K.i (K.o K.z))))) Gd.no [],
   .mk (faR 2 (X.t (K.o K.z))) (Option.some (K.o (K.o (K.o (K.i K.z))))) (Gd.on (K.i (K.i (K.i (K.o K.z)))) Bool.true) [],
   .mk (ldR Bool.false 1 (X.t (K.o (K.o (K.o (K.i K.z)))))) (Option.some (K.i (K.o (K.o (K.i K.z))))) (Gd.on (K.i (K.i (K.i (K.o K.z)))) Bool.true) [],
   .mk (binR Try.prog EK.no Option.none Bool.true BinOp.geq (X.t (K.i (K.o (K.o (K.i K.z))))) (X.c (AV.int IntKind.i64 1))) (Option.some (K.o (K.i (K.o (K.i K.z))))) (Gd.on (K.i (K.i (K.i (K.o K.z)))) Bool.true) [],
   .mk (pickR (X.t (K.i (K.i (K.i (K.o K.z))))) (X.t (K.o (K.i (K.o (K.i K.z))))) (X.c (AV.bool Bool.false))) (Option.some (K.i (K.i (K.o (K.i K.z))))) Gd.no [],
   .mk (mvR (X.t (K.i (K.i (K.o (K.i K.z)))))) (Option.some (K.o (K.o (K.i (K.i K.z))))) Gd.no [],
   .mk (faR 2 (X.t (K.o K.z))) (Option.some (K.i (K.o (K.i (K.i K.z))))) (Gd.on (K.o (K.o (K.i (K.i K.z)))) Bool.true) [],
   .mk (ldR Bool.false 1 (X.t (K.i (K.o (K.i (K.i K.z)))))) (Option.some (K.o (K.i (K.i (K.i K.z))))) (Gd.on (K.o (K.o (K.i (K.i K.z)))) Bool.true) [],
   .mk (binR Try.prog EK.no Option.none Bool.true BinOp.leq (X.t (K.o (K.i (K.i (K.i K.z))))) (X.c (AV.int IntKind.i64 1000000000000))) (Option.some (K.i (K.i (K.i (K.i K.z))))) (Gd.on (K.o (K.o (K.i (K.i K.z)))) Bool.true) [],
   .mk (pickR (X.t (K.o (K.o (K.i (K.i K.z))))) (X.t (K.i (K.i (K.i (K.i K.z))))) (X.c (AV.bool Bool.false))) (Option.some (K.o (K.o (K.o (K.o (K.o K.z)))))) Gd.no [],
   .mk (mvR (X.t (K.o (K.o (K.o (K.o (K.o K.z))))))) (Option.some (K.i (K.o (K.o (K.o (K.o K.z)))))) Gd.no [],
   .mk (faR 4 (X.t (K.o K.z))) (Option.some (K.o (K.i (K.o (K.o (K.o K.z)))))) (Gd.on (K.i (K.o (K.o (K.o (K.o K.z))))) Bool.true) [],
   .mk (ldR Bool.false 1 (X.t (K.o (K.i (K.o (K.o (K.o K.z))))))) (Option.some (K.i (K.i (K.o (K.o (K.o K.z)))))) (Gd.on (K.i (K.o (K.o (K.o (K.o K.z))))) Bool.true) [],
   .mk (binR Try.prog EK.no Option.none Bool.true BinOp.geq (X.t (K.i (K.i (K.o (K.o (K.o K.z)))))) (X.c (AV.int IntKind.i64 0))) (Option.some (K.o (K.o (K.i (K.o (K.o K.z)))))) (Gd.on (K.i (K.o (K.o (K.o (K.o K.z))))) Bool.true) [],
   .mk (pickR (X.t (K.i (K.o (K.o (K.o (K.o K.z)))))) (X.t (K.o (K.o (K.i (K.o (K.o K.z)))))) (X.c (AV.bool Bool.false))) (Option.some (K.i (K.o (K.i (K.o (K.o K.z)))))) Gd.no [],
   .mk (mvR (X.t (K.i (K.o (K.i (K.o (K.o K.z))))))) (Option.some (K.o (K.i (K.i (K.o (K.o K.z)))))) Gd.no [],
   .mk (faR 4 (X.t (K.o K.z))) (Option.some (K.i (K.i (K.i (K.o (K.o K.z)))))) (Gd.on (K.o (K.i (K.i (K.o (K.o K.z))))) Bool.true) [],
   .mk (ldR Bool.false 1 (X.t (K.i (K.i (K.i (K.o (K.o K.z))))))) (Option.some (K.o (K.o (K.o (K.i (K.o K.z)))))) (Gd.on (K.o (K.i (K.i (K.o (K.o K.z))))) Bool.true) [],
   .mk (faR 2 (X.t (K.o K.z))) (Option.some (K.i (K.o (K.o (K.i (K.o K.z)))))) (Gd.on (K.o (K.i (K.i (K.o (K.o K.z))))) Bool.true) [],
   .mk (ldR Bool.false 1 (X.t (K.i (K.o (K.o (K.i (K.o K.z))))))) (Option.some (K.o (K.i (K.o (K.i (K.o K.z)))))) (Gd.on (K.o (K.i (K.i (K.o (K.o K.z))))) Bool.true) [],
   .mk (binR Try.prog EK.no Option.none Bool.false BinOp.leq (X.t (K.o (K.o (K.o (K.i (K.o K.z)))))) (X.t (K.o (K.i (K.o (K.i (K.o K.z))))))) (Option.some (K.i (K.i (K.o (K.i (K.o K.z)))))) (Gd.on (K.o (K.i (K.i (K.o (K.o K.z))))) Bool.true) [],
   .mk (pickR (X.t (K.o (K.i (K.i (K.o (K.o K.z)))))) (X.t (K.i (K.i (K.o (K.i (K.o K.z)))))) (X.c (AV.bool Bool.false))) (Option.some (K.o (K.o (K.i (K.i (K.o K.z)))))) Gd.no [],
   .mk (mvR (X.t (K.o (K.o (K.i (K.i (K.o K.z))))))) (Option.some (K.i K.z)) Gd.no []])
  .ret))
theorem C24ok : (match Try.f24.body with | some c => comp Try.prog 44 c | none => none) = some C24 := by kernel_rfl
@[go_sem] theorem call24 (args : List AV) (H : Heap) : callC Try.prog 24 args H = .call 24 args := callC_ok (by kernel_rfl) args H
theorem R24ok : resKs Try.prog Try.f24.results.toList = some [(RK.tmp (K.i K.z))] := by kernel_rfl

/- 45: estuary/cell.There -/
noncomputable def C45 : CC :=
  (.seq (.region [.mk (boxR Bool.false (X.t K.z)) (Option.some (K.o K.z)) Gd.no [],
   .mk (mvR (X.c (AV.bool Bool.false))) (Option.some (K.i K.z)) Gd.no []])
  (.seq (.region [.mk (faR 2 (X.t (K.o K.z))) (Option.some (K.o (K.o K.z))) Gd.no [],
   .mk (ldR Bool.false 1 (X.t (K.o (K.o K.z)))) (Option.some (K.i (K.o K.z))) Gd.no [],
   .mk (binR Try.prog EK.no Option.none Bool.true BinOp.gtr (X.t (K.i (K.o K.z))) (X.c (AV.int IntKind.i64 0))) (Option.some (K.o (K.i K.z))) Gd.no [],
   .mk (mvR (X.t (K.o (K.i K.z)))) (Option.some (K.i (K.i K.z))) Gd.no [],
   .mk (faR 3 (X.t (K.o K.z))) (Option.some (K.o (K.o (K.o K.z)))) (Gd.on (K.i (K.i K.z)) Bool.true) [],
   .mk (ldR Bool.false 1 (X.t (K.o (K.o (K.o K.z))))) (Option.some (K.i (K.o (K.o K.z)))) (Gd.on (K.i (K.i K.z)) Bool.true) [],
   .mk (unR UnOp.not (X.t (K.i (K.o (K.o K.z))))) (Option.some (K.o (K.i (K.o K.z)))) (Gd.on (K.i (K.i K.z)) Bool.true) [],
   .mk (pickR (X.t (K.i (K.i K.z))) (X.t (K.o (K.i (K.o K.z)))) (X.c (AV.bool Bool.false))) (Option.some (K.i (K.i (K.o K.z)))) Gd.no [],
   .mk (mvR (X.t (K.i (K.i (K.o K.z))))) (Option.some (K.i K.z)) Gd.no []])
  .ret))
theorem C45ok : (match Try.f45.body with | some c => comp Try.prog 11 c | none => none) = some C45 := by kernel_rfl
@[go_sem] theorem call45 (args : List AV) (H : Heap) : callC Try.prog 45 args H = .call 45 args := callC_ok (by kernel_rfl) args H
theorem R45ok : resKs Try.prog Try.f45.results.toList = some [(RK.tmp (K.i K.z))] := by kernel_rfl

/- 46: estuary/estuaryref1.Has -/
noncomputable def C46 : CC :=
  (.seq (.region [.mk (boxR Bool.false (X.t K.z)) (Option.some (K.i K.z)) Gd.no [],
   .mk (mvR (X.c (AV.bool Bool.false))) (Option.some (K.i (K.o K.z))) Gd.no []])
  (.seq (.region [.mk (ldR Bool.true 2 (X.t (K.i K.z))) (Option.some (K.o (K.i K.z))) Gd.no [],
   .mk (callS Try.prog 63 [(X.t (K.o (K.i K.z)))]) (Option.some (K.i (K.i K.z))) Gd.no [],
   .mk (mvR (X.t (K.i (K.i K.z)))) (Option.some (K.o (K.o (K.o K.z)))) Gd.no [],
   .mk (mvR (X.t (K.o K.z))) (Option.some (K.i (K.o (K.o K.z)))) (Gd.on (K.o (K.o (K.o K.z))) Bool.true) [],
   .mk (callS Try.prog 52 [(X.t (K.i (K.o (K.o K.z))))]) (Option.some (K.o (K.i (K.o K.z)))) (Gd.on (K.o (K.o (K.o K.z))) Bool.true) [],
   .mk (pickR (X.t (K.o (K.o (K.o K.z)))) (X.t (K.o (K.i (K.o K.z)))) (X.c (AV.bool Bool.false))) (Option.some (K.i (K.i (K.o K.z)))) Gd.no [],
   .mk (mvR (X.t (K.i (K.i (K.o K.z))))) (Option.some (K.o (K.o (K.i K.z)))) Gd.no [],
   .mk (mvR (X.t (K.o K.z))) (Option.some (K.i (K.o (K.i K.z)))) (Gd.on (K.o (K.o (K.i K.z))) Bool.true) [],
   .mk (faR 0 (X.t (K.i K.z))) (Option.some (K.o (K.i (K.i K.z)))) (Gd.on (K.o (K.o (K.i K.z))) Bool.true) [],
   .mk (ldR Bool.false 1 (X.t (K.o (K.i (K.i K.z))))) (Option.some (K.i (K.i (K.i K.z)))) (Gd.on (K.o (K.o (K.i K.z))) Bool.true) [],
   .mk (binR Try.prog EK.no Option.none Bool.false BinOp.geq (X.t (K.i (K.o (K.i K.z)))) (X.t (K.i (K.i (K.i K.z))))) (Option.some (K.o (K.o (K.o (K.o K.z))))) (Gd.on (K.o (K.o (K.i K.z))) Bool.true) [],
   .mk (pickR (X.t (K.o (K.o (K.i K.z)))) (X.t (K.o (K.o (K.o (K.o K.z))))) (X.c (AV.bool Bool.false))) (Option.some (K.i (K.o (K.o (K.o K.z))))) Gd.no [],
   .mk (mvR (X.t (K.i (K.o (K.o (K.o K.z)))))) (Option.some (K.o (K.i (K.o (K.o K.z))))) Gd.no [],
   .mk (faR 1 (X.t (K.i K.z))) (Option.some (K.i (K.i (K.o (K.o K.z))))) (Gd.on (K.o (K.i (K.o (K.o K.z)))) Bool.true) [],
   .mk (ldR Bool.false 1 (X.t (K.i (K.i (K.o (K.o K.z)))))) (Option.some (K.o (K.o (K.i (K.o K.z))))) (Gd.on (K.o (K.i (K.o (K.o K.z)))) Bool.true) [],
   .mk (binR Try.prog EK.no Option.none Bool.true BinOp.eql (X.t (K.o (K.o (K.i (K.o K.z))))) (X.c (AV.str []))) (Option.some (K.i (K.o (K.i (K.o K.z))))) (Gd.on (K.o (K.i (K.o (K.o K.z)))) Bool.true) [],
   .mk (mvR (X.t (K.i (K.o (K.i (K.o K.z)))))) (Option.some (K.o (K.i (K.i (K.o K.z))))) (Gd.on (K.o (K.i (K.o (K.o K.z)))) Bool.true) [],
   .mk (mvR (X.t (K.o K.z))) (Option.some (K.i (K.i (K.i (K.o K.z))))) (Gd.on (K.o (K.i (K.i (K.o K.z)))) Bool.false) [],
   .mk (faR 1 (X.t (K.i K.z))) (Option.some (K.o (K.o (K.o (K.i K.z))))) (Gd.on (K.o (K.i (K.i (K.o K.z)))) Bool.false) [],
   .mk (ldR Bool.false 1 (X.t (K.o (K.o (K.o (K.i K.z)))))) (Option.some (K.i (K.o (K.o (K.i K.z))))) (Gd.on (K.o (K.i (K.i (K.o K.z)))) Bool.false) [],
   .mk (binR Try.prog EK.no Option.none Bool.false BinOp.lss (X.t (K.i (K.i (K.i (K.o K.z))))) (X.t (K.i (K.o (K.o (K.i K.z)))))) (Option.some (K.o (K.i (K.o (K.i K.z))))) (Gd.on (K.o (K.i (K.i (K.o K.z)))) Bool.false) [],
   .mk (pickR (X.t (K.o (K.i (K.i (K.o K.z))))) (X.c (AV.bool Bool.true)) (X.t (K.o (K.i (K.o (K.i K.z)))))) (Option.some (K.i (K.i (K.o (K.i K.z))))) (Gd.on (K.o (K.i (K.o (K.o K.z)))) Bool.true) [],
   .mk (pickR (X.t (K.o (K.i (K.o (K.o K.z))))) (X.t (K.i (K.i (K.o (K.i K.z))))) (X.c (AV.bool Bool.false))) (Option.some (K.o (K.o (K.i (K.i K.z))))) Gd.no [],
   .mk (mvR (X.t (K.o (K.o (K.i (K.i K.z)))))) (Option.some (K.i (K.o K.z))) Gd.no []])
  .ret))
theorem C46ok : (match Try.f46.body with | some c => comp Try.prog 28 c | none => none) = some C46 := by kernel_rfl
@[go_sem] theorem call46 (args : List AV) (H : Heap) : callC Try.prog 46 args H = .call 46 args := callC_ok (by kernel_rfl) args H
theorem R46ok : resKs Try.prog Try.f46.results.toList = some [(RK.tmp (K.i (K.o K.z)))] := by kernel_rfl

/- 47: estuary/estuaryref11.There -/
noncomputable def C47 : CC :=
  (.seq (.region [.mk (boxR Bool.false (X.t K.z)) (Option.some (K.o K.z)) Gd.no [],
   .mk (mvR (X.c (AV.bool Bool.false))) (Option.some (K.i K.z)) Gd.no []])
  (.seq (.region [.mk (faR 2 (X.t (K.o K.z))) (Option.some (K.o (K.o K.z))) Gd.no [],
   .mk (ldR Bool.false 1 (X.t (K.o (K.o K.z)))) (Option.some (K.i (K.o K.z))) Gd.no [],
   .mk (binR Try.prog EK.no Option.none Bool.true BinOp.gtr (X.t (K.i (K.o K.z))) (X.c (AV.int IntKind.i64 0))) (Option.some (K.o (K.i K.z))) Gd.no [],
   .mk (mvR (X.t (K.o (K.i K.z)))) (Option.some (K.i (K.i K.z))) Gd.no [],
   .mk (faR 3 (X.t (K.o K.z))) (Option.some (K.o (K.o (K.o K.z)))) (Gd.on (K.i (K.i K.z)) Bool.true) [],
   .mk (ldR Bool.false 1 (X.t (K.o (K.o (K.o K.z))))) (Option.some (K.i (K.o (K.o K.z)))) (Gd.on (K.i (K.i K.z)) Bool.true) [],
   .mk (unR UnOp.not (X.t (K.i (K.o (K.o K.z))))) (Option.some (K.o (K.i (K.o K.z)))) (Gd.on (K.i (K.i K.z)) Bool.true) [],
   .mk (pickR (X.t (K.i (K.i K.z))) (X.t (K.o (K.i (K.o K.z)))) (X.c (AV.bool Bool.false))) (Option.some (K.i (K.i (K.o K.z)))) Gd.no [],
   .mk (mvR (X.t (K.i (K.i (K.o K.z))))) (Option.some (K.i K.z)) Gd.no []])
  .ret))
theorem C47ok : (match Try.f47.body with | some c => comp Try.prog 11 c | none => none) = some C47 := by kernel_rfl
@[go_sem] theorem call47 (args : List AV) (H : Heap) : callC Try.prog 47 args H = .call 47 args := callC_ok (by kernel_rfl) args H
theorem R47ok : resKs Try.prog Try.f47.results.toList = some [(RK.tmp (K.i K.z))] := by kernel_rfl

/- 48: estuary/cell.Is -/
noncomputable def C48 : CC :=
  (.seq (.region [.mk (boxR Bool.false (X.t K.z)) (Option.some (K.o K.z)) Gd.no [],
   .mk (mvR (X.c (AV.bool Bool.false))) (Option.some (K.i K.z)) Gd.no []])
  (.seq (.region [.mk (faR 0 (X.t (K.o K.z))) (Option.some (K.o (K.o K.z))) Gd.no [],
   .mk (ldR Bool.false 1 (X.t (K.o (K.o K.z)))) (Option.some (K.i (K.o K.z))) Gd.no [],
   .mk (faR 1 (X.t (K.o K.z))) (Option.some (K.o (K.i K.z))) Gd.no [],
   .mk (ldR Bool.false 1 (X.t (K.o (K.i K.z)))) (Option.some (K.i (K.i K.z))) Gd.no [],
   .mk (faR 2 (X.t (K.o K.z))) (Option.some (K.o (K.o (K.o K.z)))) Gd.no [],
   .mk (ldR Bool.false 1 (X.t (K.o (K.o (K.o K.z))))) (Option.some (K.i (K.o (K.o K.z)))) Gd.no [],
   .mk (faR 3 (X.t (K.o K.z))) (Option.some (K.o (K.i (K.o K.z)))) Gd.no [],
   .mk (ldR Bool.false 1 (X.t (K.o (K.i (K.o K.z))))) (Option.some (K.i (K.i (K.o K.z)))) Gd.no [],
   .mk (callS Try.prog 64 [(X.t (K.i (K.o K.z))), (X.t (K.i (K.i K.z))), (X.t (K.i (K.o (K.o K.z)))), (X.t (K.i (K.i (K.o K.z))))]) (Option.some (K.o (K.o (K.i K.z)))) Gd.no [],
   .mk (mvR (X.t (K.o (K.o (K.i K.z))))) (Option.some (K.i (K.o (K.i K.z)))) Gd.no [],
   .mk (faR 4 (X.t (K.o K.z))) (Option.some (K.o (K.i (K.i K.z)))) (Gd.on (K.i (K.o (K.i K.z))) Bool.true) [],
   .mk (ldR Bool.false 1 (X.t (K.o (K.i (K.i K.z))))) (Option.some (K.i (K.i (K.i K.z)))) (Gd.on (K.i (K.o (K.i K.z))) Bool.true) [],
   .mk (binR Try.prog EK.no Option.none Bool.true BinOp.geq (X.t (K.i (K.i (K.i K.z)))) (X.c (AV.int IntKind.i64 0))) (Option.some (K.o (K.o (K.o (K.o K.z))))) (Gd.on (K.i (K.o (K.i K.z))) Bool.true) [],
   .mk (pickR (X.t (K.i (K.o (K.i K.z)))) (X.t (K.o (K.o (K.o (K.o K.z))))) (X.c (AV.bool Bool.false))) (Option.some (K.i (K.o (K.o (K.o K.z))))) Gd.no [],
   .mk (mvR (X.t (K.i (K.o (K.o (K.o K.z)))))) (Option.some (K.o (K.i (K.o (K.o K.z))))) Gd.no [],
   .mk (faR 4 (X.t (K.o K.z))) (Option.some (K.i (K.i (K.o (K.o K.z))))) (Gd.on (K.o (K.i (K.o (K.o K.z)))) Bool.true) [],
   .mk (ldR Bool.false 1 (X.t (K.i (K.i (K.o (K.o K.z)))))) (Option.some (K.o (K.o (K.i (K.o K.z))))) (Gd.on (K.o (K.i (K.o (K.o K.z)))) Bool.true) [],
   .mk (faR 2 (X.t (K.o K.z))) (Option.some (K.i (K.o (K.i (K.o K.z))))) (Gd.on (K.o (K.i (K.o (K.o K.z)))) Bool.true) [],
   .mk (ldR Bool.false 1 (X.t (K.i (K.o (K.i (K.o K.z)))))) (Option.some (K.o (K.i (K.i (K.o K.z))))) (Gd.on (K.o (K.i (K.o (K.o K.z)))) Bool.true) [],
   .mk (binR Try.prog EK.no Option.none Bool.false BinOp.leq (X.t (K.o (K.o (K.i (K.o K.z))))) (X.t (K.o (K.i (K.i (K.o K.z)))))) (Option.some (K.i (K.i (K.i (K.o K.z))))) (Gd.on (K.o (K.i (K.o (K.o K.z)))) Bool.true) [],
   .mk (pickR (X.t (K.o (K.i (K.o (K.o K.z))))) (X.t (K.i (K.i (K.i (K.o K.z))))) (X.c (AV.bool Bool.false))) (Option.some (K.o (K.o (K.o (K.i K.z))))) Gd.no [],
   .mk (mvR (X.t (K.o (K.o (K.o (K.i K.z)))))) (Option.some (K.i K.z)) Gd.no []])
  .ret))
theorem C48ok : (match Try.f48.body with | some c => comp Try.prog 24 c | none => none) = some C48 := by kernel_rfl
@[go_sem] theorem call48 (args : List AV) (H : Heap) : callC Try.prog 48 args H = .call 48 args := callC_ok (by kernel_rfl) args H
theorem R48ok : resKs Try.prog Try.f48.results.toList = some [(RK.tmp (K.i K.z))] := by kernel_rfl

/- 49: estuary/span.Has -/
noncomputable def C49 : CC :=
  (.seq (.region [.mk (boxR Bool.false (X.t K.z)) (Option.some (K.i K.z)) Gd.no [],
   .mk (mvR (X.c (AV.bool Bool.false))) (Option.some (K.i (K.o K.z))) Gd.no []])
  (.seq (.region [.mk (ldR Bool.true 2 (X.t (K.i K.z))) (Option.some (K.o (K.i K.z))) Gd.no [],
   .mk (callS Try.prog 65 [(X.t (K.o (K.i K.z)))]) (Option.some (K.i (K.i K.z))) Gd.no [],
   .mk (mvR (X.t (K.i (K.i K.z)))) (Option.some (K.o (K.o (K.o K.z)))) Gd.no [],
   .mk (mvR (X.t (K.o K.z))) (Option.some (K.i (K.o (K.o K.z)))) (Gd.on (K.o (K.o (K.o K.z))) Bool.true) [],
   .mk (callS Try.prog 59 [(X.t (K.i (K.o (K.o K.z))))]) (Option.some (K.o (K.i (K.o K.z)))) (Gd.on (K.o (K.o (K.o K.z))) Bool.true) [],
   .mk (pickR (X.t (K.o (K.o (K.o K.z)))) (X.t (K.o (K.i (K.o K.z)))) (X.c (AV.bool Bool.false))) (Option.some (K.i (K.i (K.o K.z)))) Gd.no [],
   .mk (mvR (X.t (K.i (K.i (K.o K.z))))) (Option.some (K.o (K.o (K.i K.z)))) Gd.no [],
   .mk (mvR (X.t (K.o K.z))) (Option.some (K.i (K.o (K.i K.z)))) (Gd.on (K.o (K.o (K.i K.z))) Bool.true) [],
   .mk (faR 0 (X.t (K.i K.z))) (Option.some (K.o (K.i (K.i K.z)))) (Gd.on (K.o (K.o (K.i K.z))) Bool.true) [],
   .mk (ldR Bool.false 1 (X.t (K.o (K.i (K.i K.z))))) (Option.some (K.i (K.i (K.i K.z)))) (Gd.on (K.o (K.o (K.i K.z))) Bool.true) [],
   .mk (binR Try.prog EK.no Option.none Bool.false BinOp.geq (X.t (K.i (K.o (K.i K.z)))) (X.t (K.i (K.i (K.i K.z))))) (Option.some (K.o (K.o (K.o (K.o K.z))))) (Gd.on (K.o (K.o (K.i K.z))) Bool.true) [],
   .mk (pickR (X.t (K.o (K.o (K.i K.z)))) (X.t (K.o (K.o (K.o (K.o K.z))))) (X.c (AV.bool Bool.false))) (Option.some (K.i (K.o (K.o (K.o K.z))))) Gd.no [],
   .mk (mvR (X.t (K.i (K.o (K.o (K.o K.z)))))) (Option.some (K.o (K.i (K.o (K.o K.z))))) Gd.no [],
   .mk (faR 1 (X.t (K.i K.z))) (Option.some (K.i (K.i (K.o (K.o K.z))))) (Gd.on (K.o (K.i (K.o (K.o K.z)))) Bool.true) [],
   .mk (ldR Bool.false 1 (X.t (K.i (K.i (K.o (K.o K.z)))))) (Option.some (K.o (K.o (K.i (K.o K.z))))) (Gd.on (K.o (K.i (K.o (K.o K.z)))) Bool.true) [],
   .mk (binR Try.prog EK.no Option.none Bool.true BinOp.eql (X.t (K.o (K.o (K.i (K.o K.z))))) (X.c (AV.str []))) (Option.some (K.i (K.o (K.i (K.o K.z))))) (Gd.on (K.o (K.i (K.o (K.o K.z)))) Bool.true) [],
   .mk (mvR (X.t (K.i (K.o (K.i (K.o K.z)))))) (Option.some (K.o (K.i (K.i (K.o K.z))))) (Gd.on (K.o (K.i (K.o (K.o K.z)))) Bool.true) [],
   .mk (mvR (X.t (K.o K.z))) (Option.some (K.i (K.i (K.i (K.o K.z))))) (Gd.on (K.o (K.i (K.i (K.o K.z)))) Bool.false) [],
   .mk (faR 1 (X.t (K.i K.z))) (Option.some (K.o (K.o (K.o (K.i K.z))))) (Gd.on (K.o (K.i (K.i (K.o K.z)))) Bool.false) [],
   .mk (ldR Bool.false 1 (X.t (K.o (K.o (K.o (K.i K.z)))))) (Option.some (K.i (K.o (K.o (K.i K.z))))) (Gd.on (K.o (K.i (K.i (K.o K.z)))) Bool.false) [],
   .mk (binR Try.prog EK.no Option.none Bool.false BinOp.lss (X.t (K.i (K.i (K.i (K.o K.z))))) (X.t (K.i (K.o (K.o (K.i K.z)))))) (Option.some (K.o (K.i (K.o (K.i K.z))))) (Gd.on (K.o (K.i (K.i (K.o K.z)))) Bool.false) [],
   .mk (pickR (X.t (K.o (K.i (K.i (K.o K.z))))) (X.c (AV.bool Bool.true)) (X.t (K.o (K.i (K.o (K.i K.z)))))) (Option.some (K.i (K.i (K.o (K.i K.z))))) (Gd.on (K.o (K.i (K.o (K.o K.z)))) Bool.true) [],
   .mk (pickR (X.t (K.o (K.i (K.o (K.o K.z))))) (X.t (K.i (K.i (K.o (K.i K.z))))) (X.c (AV.bool Bool.false))) (Option.some (K.o (K.o (K.i (K.i K.z))))) Gd.no [],
   .mk (mvR (X.t (K.o (K.o (K.i (K.i K.z)))))) (Option.some (K.i (K.o K.z))) Gd.no []])
  .ret))
theorem C49ok : (match Try.f49.body with | some c => comp Try.prog 28 c | none => none) = some C49 := by kernel_rfl
@[go_sem] theorem call49 (args : List AV) (H : Heap) : callC Try.prog 49 args H = .call 49 args := callC_ok (by kernel_rfl) args H
theorem R49ok : resKs Try.prog Try.f49.results.toList = some [(RK.tmp (K.i (K.o K.z)))] := by kernel_rfl

/- 52: estuary/estuaryref1.IsKey -/
noncomputable def C52 : CC :=
  (.seq (.region [.mk (mvR (X.c (AV.bool Bool.false))) (Option.some (K.i K.z)) Gd.no []])
  (.seq (.region [.mk (mvR (X.t K.z)) (Option.some (K.o (K.o K.z))) Gd.no [],
   .mk (lenR LnK.str (X.t (K.o (K.o K.z)))) (Option.some (K.i (K.o K.z))) Gd.no [],
   .mk (binR Try.prog EK.no Option.none Bool.true BinOp.geq (X.t (K.i (K.o K.z))) (X.c (AV.int IntKind.i64 1))) (Option.some (K.o (K.i K.z))) Gd.no [],
   .mk (mvR (X.t (K.o (K.i K.z)))) (Option.some (K.i (K.i K.z))) Gd.no [],
   .mk (mvR (X.t K.z)) (Option.some (K.o (K.o (K.o K.z)))) (Gd.on (K.i (K.i K.z)) Bool.true) [],
   .mk (lenR LnK.str (X.t (K.o (K.o (K.o K.z))))) (Option.some (K.i (K.o (K.o K.z)))) (Gd.on (K.i (K.i K.z)) Bool.true) [],
   .mk (binR Try.prog EK.no Option.none Bool.true BinOp.leq (X.t (K.i (K.o (K.o K.z)))) (X.c (AV.int IntKind.i64 8))) (Option.some (K.o (K.i (K.o K.z)))) (Gd.on (K.i (K.i K.z)) Bool.true) [],
   .mk (pickR (X.t (K.i (K.i K.z))) (X.t (K.o (K.i (K.o K.z)))) (X.c (AV.bool Bool.false))) (Option.some (K.i (K.i (K.o K.z)))) Gd.no [],
   .mk (mvR (X.t (K.i (K.i (K.o K.z))))) (Option.some (K.i K.z)) Gd.no []])
  .ret))
theorem C52ok : (match Try.f52.body with | some c => comp Try.prog 11 c | none => none) = some C52 := by kernel_rfl
@[go_sem] theorem call52 (args : List AV) (H : Heap) : callC Try.prog 52 args H = .call 52 args := callC_ok (by kernel_rfl) args H
theorem R52ok : resKs Try.prog Try.f52.results.toList = some [(RK.tmp (K.i K.z))] := by kernel_rfl

/- 59: estuary/span.IsKey -/
noncomputable def C59 : CC :=
  (.seq (.region [.mk (mvR (X.c (AV.bool Bool.false))) (Option.some (K.i K.z)) Gd.no []])
  (.seq (.region [.mk (mvR (X.t K.z)) (Option.some (K.o (K.o K.z))) Gd.no [],
   .mk (binR Try.prog EK.no Option.none Bool.true BinOp.neq (X.t (K.o (K.o K.z))) (X.c (AV.str []))) (Option.some (K.i (K.o K.z))) Gd.no [],
   .mk (mvR (X.t (K.i (K.o K.z)))) (Option.some (K.o (K.i K.z))) Gd.no [],
   .mk (mvR (X.t K.z)) (Option.some (K.i (K.i K.z))) (Gd.on (K.o (K.i K.z)) Bool.true) [],
   .mk (lenR LnK.str (X.t (K.i (K.i K.z)))) (Option.some (K.o (K.o (K.o K.z)))) (Gd.on (K.o (K.i K.z)) Bool.true) [],
   .mk (binR Try.prog EK.no Option.none Bool.true BinOp.leq (X.t (K.o (K.o (K.o K.z)))) (X.c (AV.int IntKind.i64 8))) (Option.some (K.i (K.o (K.o K.z)))) (Gd.on (K.o (K.i K.z)) Bool.true) [],
   .mk (pickR (X.t (K.o (K.i K.z))) (X.t (K.i (K.o (K.o K.z)))) (X.c (AV.bool Bool.false))) (Option.some (K.o (K.i (K.o K.z)))) Gd.no [],
   .mk (mvR (X.t (K.o (K.i (K.o K.z))))) (Option.some (K.i K.z)) Gd.no []])
  .ret))
theorem C59ok : (match Try.f59.body with | some c => comp Try.prog 10 c | none => none) = some C59 := by kernel_rfl
@[go_sem] theorem call59 (args : List AV) (H : Heap) : callC Try.prog 59 args H = .call 59 args := callC_ok (by kernel_rfl) args H
theorem R59ok : resKs Try.prog Try.f59.results.toList = some [(RK.tmp (K.i K.z))] := by kernel_rfl

/- 63: estuary/estuaryref1.Is -/
noncomputable def C63 : CC :=
  (.seq (.region [.mk (boxR Bool.false (X.t K.z)) (Option.some (K.o K.z)) Gd.no [],
   .mk (mvR (X.c (AV.bool Bool.false))) (Option.some (K.i K.z)) Gd.no []])
  (.seq (.region [.mk (faR 0 (X.t (K.o K.z))) (Option.some (K.o (K.o K.z))) Gd.no [],
   .mk (ldR Bool.false 1 (X.t (K.o (K.o K.z)))) (Option.some (K.i (K.o K.z))) Gd.no [],
   .mk (lenR LnK.str (X.t (K.i (K.o K.z)))) (Option.some (K.o (K.i K.z))) Gd.no [],
   .mk (binR Try.prog EK.no Option.none Bool.true BinOp.leq (X.t (K.o (K.i K.z))) (X.c (AV.int IntKind.i64 8))) (Option.some (K.i (K.i K.z))) Gd.no [],
   .mk (mvR (X.t (K.i (K.i K.z)))) (Option.some (K.o (K.o (K.o K.z)))) Gd.no [],
   .mk (faR 1 (X.t (K.o K.z))) (Option.some (K.i (K.o (K.o K.z)))) (Gd.on (K.o (K.o (K.o K.z))) Bool.true) [],
   .mk (ldR Bool.false 1 (X.t (K.i (K.o (K.o K.z))))) (Option.some (K.o (K.i (K.o K.z)))) (Gd.on (K.o (K.o (K.o K.z))) Bool.true) [],
   .mk (lenR LnK.str (X.t (K.o (K.i (K.o K.z))))) (Option.some (K.i (K.i (K.o K.z)))) (Gd.on (K.o (K.o (K.o K.z))) Bool.true) [],
   .mk (binR Try.prog EK.no Option.none Bool.true BinOp.leq (X.t (K.i (K.i (K.o K.z)))) (X.c (AV.int IntKind.i64 8))) (Option.some (K.o (K.o (K.i K.z)))) (Gd.on (K.o (K.o (K.o K.z))) Bool.true) [],
   .mk (pickR (X.t (K.o (K.o (K.o K.z)))) (X.t (K.o (K.o (K.i K.z)))) (X.c (AV.bool Bool.false))) (Option.some (K.i (K.o (K.i K.z)))) Gd.no [],
   .mk (mvR (X.t (K.i (K.o (K.i K.z))))) (Option.some (K.o (K.i (K.i K.z)))) Gd.no [],
   .mk (faR 1 (X.t (K.o K.z))) (Option.some (K.i (K.i (K.i K.z)))) (Gd.on (K.o (K.i (K.i K.z))) Bool.true) [],
   .mk (ldR Bool.false 1 (X.t (K.i (K.i (K.i K.z))))) (Option.some (K.o (K.o (K.o (K.o K.z))))) (Gd.on (K.o (K.i (K.i K.z))) Bool.true) [],
   .mk (binR Try.prog EK.no Option.none Bool.true BinOp.eql (X.t (K.o (K.o (K.o (K.o K.z))))) (X.c (AV.str []))) (Option.some (K.i (K.o (K.o (K.o K.z))))) (Gd.on (K.o (K.i (K.i K.z))) Bool.true) [],
   .mk (mvR (X.t (K.i (K.o (K.o (K.o K.z)))))) (Option.some (K.o (K.i (K.o (K.o K.z))))) (Gd.on (K.o (K.i (K.i K.z))) Bool.true) [],
   .mk (faR 0 (X.t (K.o K.z))) (Option.some (K.i (K.i (K.o (K.o K.z))))) (Gd.on (K.o (K.i (K.o (K.o K.z)))) Bool.false) [],
   .mk (ldR Bool.false 1 (X.t (K.i (K.i (K.o (K.o K.z)))))) (Option.some (K.o (K.o (K.i (K.o K.z))))) (Gd.on (K.o (K.i (K.o (K.o K.z)))) Bool.false) [],
   .mk (faR 1 (X.t (K.o K.z))) (Option.some (K.i (K.o (K.i (K.o K.z))))) (Gd.on (K.o (K.i (K.o (K.o K.z)))) Bool.false) [],
   .mk (ldR Bool.false 1 (X.t (K.i (K.o (K.i (K.o K.z)))))) (Option.some (K.o (K.i (K.i (K.o K.z))))) (Gd.on (K.o (K.i (K.o (K.o K.z)))) Bool.false) [],
   .mk (binR Try.prog EK.no Option.none Bool.false BinOp.lss (X.t (K.o (K.o (K.i (K.o K.z))))) (X.t (K.o (K.i (K.i (K.o K.z)))))) (Option.some (K.i (K.i (K.i (K.o K.z))))) (Gd.on (K.o (K.i (K.o (K.o K.z)))) Bool.false) [],
   .mk (pickR (X.t (K.o (K.i (K.o (K.o K.z))))) (X.c (AV.bool Bool.true)) (X.t (K.i (K.i (K.i (K.o K.z)))))) (Option.some (K.o (K.o (K.o (K.i K.z))))) (Gd.on (K.o (K.i (K.i K.z))) Bool.true) [],
   .mk (pickR (X.t (K.o (K.i (K.i K.z)))) (X.t (K.o (K.o (K.o (K.i K.z))))) (X.c (AV.bool Bool.false))) (Option.some (K.i (K.o (K.o (K.i K.z))))) Gd.no [],
   .mk (mvR (X.t (K.i (K.o (K.o (K.i K.z)))))) (Option.some (K.i K.z)) Gd.no []])
  .ret))
theorem C63ok : (match Try.f63.body with | some c => comp Try.prog 25 c | none => none) = some C63 := by kernel_rfl
@[go_sem] theorem call63 (args : List AV) (H : Heap) : callC Try.prog 63 args H = .call 63 args := callC_ok (by kernel_rfl) args H
theorem R63ok : resKs Try.prog Try.f63.results.toList = some [(RK.tmp (K.i K.z))] := by kernel_rfl

/- 64: estuary/cell.may -/
noncomputable def C64 : CC :=
  (.seq (.region [.mk (mvR (X.c (AV.bool Bool.false))) (Option.some (K.i (K.o (K.o K.z)))) Gd.no []])
  (.seq (.block 0 (.seq (.block 3 (.block 2 (.block 1 (.seq (.seq (.seq (.region [.mk (mvR (X.t K.z)) (Option.some (K.i (K.i (K.o K.z)))) Gd.no [],
   .mk (callS Try.prog 59 [(X.t (K.i (K.i (K.o K.z))))]) (Option.some (K.o (K.o (K.i K.z)))) Gd.no [],
   .mk (unR UnOp.not (X.t (K.o (K.o (K.i K.z))))) (Option.some (K.i (K.o (K.i K.z)))) Gd.no [],
   .mk (mvR (X.t (K.i (K.o (K.i K.z))))) (Option.some (K.o (K.i (K.i K.z)))) Gd.no [],
   .mk (mvR (X.t (K.o K.z))) (Option.some (K.i (K.i (K.i K.z)))) (Gd.on (K.o (K.i (K.i K.z))) Bool.false) [],
   .mk (lenR LnK.str (X.t (K.i (K.i (K.i K.z))))) (Option.some (K.o (K.o (K.o (K.o K.z))))) (Gd.on (K.o (K.i (K.i K.z))) Bool.false) [],
   .mk (binR Try.prog EK.no Option.none Bool.true BinOp.gtr (X.t (K.o (K.o (K.o (K.o K.z))))) (X.c (AV.int IntKind.i64 12))) (Option.some (K.i (K.o (K.o (K.o K.z))))) (Gd.on (K.o (K.i (K.i K.z))) Bool.false) [],
   .mk (pickR (X.t (K.o (K.i (K.i K.z)))) (X.c (AV.bool Bool.true)) (X.t (K.i (K.o (K.o (K.o K.z)))))) (Option.some (K.o (K.i (K.o (K.o K.z))))) Gd.no [],
   .mk (mvR (X.t (K.o (K.i (K.o (K.o K.z)))))) (Option.some (K.o (K.i (K.o K.z)))) Gd.no []])
  (.cond (X.t (K.o (K.i (K.o K.z))))
  (.exit 1)
  .skip))
  (.seq (.seq (.region [.mk (mvR (X.t (K.o (K.o K.z)))) (Option.some (K.o (K.o (K.i (K.o K.z))))) Gd.no [],
   .mk (mvR (X.t (K.o (K.o (K.i (K.o K.z)))))) (Option.some (K.i (K.o (K.i (K.o K.z))))) Gd.no [],
   .mk (mvR (X.t (K.o K.z))) (Option.some (K.o (K.i (K.i (K.o K.z))))) (Gd.on (K.i (K.o (K.i (K.o K.z)))) Bool.true) [],
   .mk (binR Try.prog EK.no Option.none Bool.true BinOp.neq (X.t (K.o (K.i (K.i (K.o K.z))))) (X.c (AV.str []))) (Option.some (K.i (K.i (K.i (K.o K.z))))) (Gd.on (K.i (K.o (K.i (K.o K.z)))) Bool.true) [],
   .mk (pickR (X.t (K.i (K.o (K.i (K.o K.z))))) (X.t (K.i (K.i (K.i (K.o K.z))))) (X.c (AV.bool Bool.false))) (Option.some (K.o (K.o (K.o (K.i K.z))))) Gd.no [],
   .mk (mvR (X.t (K.o (K.o (K.o (K.i K.z)))))) (Option.some (K.i (K.i (K.o (K.o K.z))))) Gd.no []])
  (.cond (X.t (K.i (K.i (K.o (K.o K.z)))))
  (.exit 2)
  .skip))
  (.seq (.region [.mk (mvR (X.t (K.i K.z))) (Option.some (K.o (K.i (K.o (K.i K.z))))) Gd.no [],
   .mk (binR Try.prog EK.no Option.none Bool.true BinOp.lss (X.t (K.o (K.i (K.o (K.i K.z))))) (X.c (AV.int IntKind.i64 1))) (Option.some (K.i (K.i (K.o (K.i K.z))))) Gd.no [],
   .mk (mvR (X.t (K.i (K.i (K.o (K.i K.z)))))) (Option.some (K.o (K.o (K.i (K.i K.z))))) Gd.no [],
   .mk (mvR (X.t (K.i K.z))) (Option.some (K.i (K.o (K.i (K.i K.z))))) (Gd.on (K.o (K.o (K.i (K.i K.z)))) Bool.false) [],
   .mk (binR Try.prog EK.no Option.none Bool.true BinOp.gtr (X.t (K.i (K.o (K.i (K.i K.z))))) (X.c (AV.int IntKind.i64 1000000000000))) (Option.some (K.o (K.i (K.i (K.i K.z))))) (Gd.on (K.o (K.o (K.i (K.i K.z)))) Bool.false) [],
   .mk (pickR (X.t (K.o (K.o (K.i (K.i K.z))))) (X.c (AV.bool Bool.true)) (X.t (K.o (K.i (K.i (K.i K.z)))))) (Option.some (K.i (K.i (K.i (K.i K.z))))) Gd.no [],
   .mk (mvR (X.t (K.i (K.i (K.i (K.i K.z)))))) (Option.some (K.i (K.o (K.o (K.i K.z))))) Gd.no []])
  (.cond (X.t (K.i (K.o (K.o (K.i K.z)))))
  (.exit 3)
  .skip))))
  (.exit 0)))))
  (.seq (.seq (.region [.mk (mvR (X.c (AV.bool Bool.false))) (Option.some (K.i (K.o (K.o K.z)))) Gd.no []])
  .ret)
  (.exit 0))))
  (.seq (.region [.mk (mvR (X.c (AV.bool Bool.true))) (Option.some (K.i (K.o (K.o K.z)))) Gd.no []])
  .ret)))
theorem C64ok : (match Try.f64.body with | some c => comp Try.prog 31 c | none => none) = some C64 := by kernel_rfl
@[go_sem] theorem call64 (args : List AV) (H : Heap) : callC Try.prog 64 args H = .call 64 args := callC_ok (by kernel_rfl) args H
theorem R64ok : resKs Try.prog Try.f64.results.toList = some [(RK.tmp (K.i (K.o (K.o K.z))))] := by kernel_rfl

/- 65: estuary/span.Is -/
noncomputable def C65 : CC :=
  (.seq (.region [.mk (boxR Bool.false (X.t K.z)) (Option.some (K.o K.z)) Gd.no [],
   .mk (mvR (X.c (AV.bool Bool.false))) (Option.some (K.i K.z)) Gd.no []])
  (.seq (.block 0 (.seq (.block 2 (.block 1 (.seq (.seq (.seq (.region [.mk (faR 0 (X.t (K.o K.z))) (Option.some (K.i (K.o K.z))) Gd.no [],
   .mk (ldR Bool.false 1 (X.t (K.i (K.o K.z)))) (Option.some (K.o (K.i K.z))) Gd.no [],
   .mk (lenR LnK.str (X.t (K.o (K.i K.z)))) (Option.some (K.i (K.i K.z))) Gd.no [],
   .mk (binR Try.prog EK.no Option.none Bool.true BinOp.gtr (X.t (K.i (K.i K.z))) (X.c (AV.int IntKind.i64 8))) (Option.some (K.o (K.o (K.o K.z)))) Gd.no [],
   .mk (mvR (X.t (K.o (K.o (K.o K.z))))) (Option.some (K.o (K.o K.z))) Gd.no []])
  (.cond (X.t (K.o (K.o K.z)))
  (.exit 1)
  .skip))
  (.seq (.region [.mk (faR 1 (X.t (K.o K.z))) (Option.some (K.o (K.i (K.o K.z)))) Gd.no [],
   .mk (ldR Bool.false 1 (X.t (K.o (K.i (K.o K.z))))) (Option.some (K.i (K.i (K.o K.z)))) Gd.no [],
   .mk (lenR LnK.str (X.t (K.i (K.i (K.o K.z))))) (Option.some (K.o (K.o (K.i K.z)))) Gd.no [],
   .mk (binR Try.prog EK.no Option.none Bool.true BinOp.gtr (X.t (K.o (K.o (K.i K.z)))) (X.c (AV.int IntKind.i64 8))) (Option.some (K.i (K.o (K.i K.z)))) Gd.no [],
   .mk (mvR (X.t (K.i (K.o (K.i K.z))))) (Option.some (K.i (K.o (K.o K.z)))) Gd.no []])
  (.cond (X.t (K.i (K.o (K.o K.z))))
  (.exit 2)
  .skip)))
  (.exit 0))))
  (.seq (.seq (.region [.mk (mvR (X.c (AV.bool Bool.false))) (Option.some (K.i K.z)) Gd.no []])
  .ret)
  (.exit 0))))
  (.seq (.region [.mk (faR 1 (X.t (K.o K.z))) (Option.some (K.o (K.i (K.i K.z)))) Gd.no [],
   .mk (ldR Bool.false 1 (X.t (K.o (K.i (K.i K.z))))) (Option.some (K.i (K.i (K.i K.z)))) Gd.no [],
   .mk (binR Try.prog EK.no Option.none Bool.true BinOp.eql (X.t (K.i (K.i (K.i K.z)))) (X.c (AV.str []))) (Option.some (K.o (K.o (K.o (K.o K.z))))) Gd.no [],
   .mk (mvR (X.t (K.o (K.o (K.o (K.o K.z)))))) (Option.some (K.i (K.o (K.o (K.o K.z))))) Gd.no [],
   .mk (faR 1 (X.t (K.o K.z))) (Option.some (K.o (K.i (K.o (K.o K.z))))) (Gd.on (K.i (K.o (K.o (K.o K.z)))) Bool.false) [],
   .mk (ldR Bool.false 1 (X.t (K.o (K.i (K.o (K.o K.z)))))) (Option.some (K.i (K.i (K.o (K.o K.z))))) (Gd.on (K.i (K.o (K.o (K.o K.z)))) Bool.false) [],
   .mk (faR 0 (X.t (K.o K.z))) (Option.some (K.o (K.o (K.i (K.o K.z))))) (Gd.on (K.i (K.o (K.o (K.o K.z)))) Bool.false) [],
   .mk (ldR Bool.false 1 (X.t (K.o (K.o (K.i (K.o K.z)))))) (Option.some (K.i (K.o (K.i (K.o K.z))))) (Gd.on (K.i (K.o (K.o (K.o K.z)))) Bool.false) [],
   .mk (binR Try.prog EK.no Option.none Bool.false BinOp.gtr (X.t (K.i (K.i (K.o (K.o K.z))))) (X.t (K.i (K.o (K.i (K.o K.z)))))) (Option.some (K.o (K.i (K.i (K.o K.z))))) (Gd.on (K.i (K.o (K.o (K.o K.z)))) Bool.false) [],
   .mk (pickR (X.t (K.i (K.o (K.o (K.o K.z))))) (X.c (AV.bool Bool.true)) (X.t (K.o (K.i (K.i (K.o K.z)))))) (Option.some (K.i (K.i (K.i (K.o K.z))))) Gd.no [],
   .mk (mvR (X.t (K.i (K.i (K.i (K.o K.z)))))) (Option.some (K.i K.z)) Gd.no []])
  .ret)))
theorem C65ok : (match Try.f65.body with | some c => comp Try.prog 23 c | none => none) = some C65 := by kernel_rfl
@[go_sem] theorem call65 (args : List AV) (H : Heap) : callC Try.prog 65 args H = .call 65 args := callC_ok (by kernel_rfl) args H
theorem R65ok : resKs Try.prog Try.f65.results.toList = some [(RK.tmp (K.i K.z))] := by kernel_rfl

-- 66: no body

end Go.Proofs
