/- The laid-out code of the functions that are walked. Printed by a program. -/
import Derived.Test.YtiadcabmonbgiaaZ11
import Derived.Test.YtiadcabmonbgiaaProg
import Derived.KernelRfl
set_option linter.all false
set_option maxRecDepth 100000
namespace Go.Proofs
open Go Go.Ev
/- 37: estuary/estuarylaw2.known -/
noncomputable def C37 : CC :=
  (.seq (.region [.mk (mvR (X.c (AV.bool Bool.false))) (Option.some K.z) Gd.no []])
  (.seq (.region [.mk (buildR [(AV.str []), (AV.int IntKind.i64 0)] [(0, (1, (X.c (AV.str [98])))), (1, (1, (X.c (AV.int IntKind.i64 3))))]) (Option.some (K.o (K.o K.z))) Gd.no [],
   .mk (callS Try.prog 43 [(X.c AV.nils), (X.t (K.o (K.o K.z)))]) (Option.some (K.i (K.o K.z))) Gd.no [],
   .mk (mvR (X.t (K.i (K.o K.z)))) (Option.some (K.o K.z)) Gd.no []])
  (.seq (.region [.mk (mvR (X.t (K.o K.z))) (Option.some (K.o (K.i K.z))) Gd.no [],
   .mk (buildR [(AV.str []), (AV.int IntKind.i64 0)] [(0, (1, (X.c (AV.str [97])))), (1, (1, (X.c (AV.int IntKind.i64 1))))]) (Option.some (K.i (K.i K.z))) Gd.no [],
   .mk (callS Try.prog 43 [(X.t (K.o (K.i K.z))), (X.t (K.i (K.i K.z)))]) (Option.some (K.o (K.o (K.o K.z)))) Gd.no [],
   .mk (mvR (X.t (K.o (K.o (K.o K.z))))) (Option.some (K.o K.z)) Gd.no []])
  (.seq (.region [.mk (mvR (X.t (K.o K.z))) (Option.some (K.i (K.o (K.o K.z)))) Gd.no [],
   .mk (buildR [(AV.str []), (AV.int IntKind.i64 0)] [(0, (1, (X.c (AV.str [97])))), (1, (1, (X.c (AV.int IntKind.i64 2))))]) (Option.some (K.o (K.i (K.o K.z)))) Gd.no [],
   .mk (bslR 2 1 [(AV.str []), (AV.int IntKind.i64 0)] [(0, (X.t (K.o (K.i (K.o K.z)))))]) (Option.some (K.i (K.i (K.o K.z)))) Gd.no [],
   .mk (callS Try.prog 40 [(X.t (K.i (K.o (K.o K.z)))), (X.t (K.i (K.i (K.o K.z))))]) (Option.some (K.o (K.o (K.i K.z)))) Gd.no [],
   .mk (mvR (X.t (K.o (K.o (K.i K.z))))) (Option.some (K.i K.z)) Gd.no []])
  (.seq (.region [.mk (mvR (X.t (K.o K.z))) (Option.some (K.i (K.o (K.i K.z)))) Gd.no [],
   .mk (lenR LnK.slice (X.t (K.i (K.o (K.i K.z))))) (Option.some (K.o (K.i (K.i K.z)))) Gd.no [],
   .mk (binR Try.prog EK.no Option.none Bool.true BinOp.eql (X.t (K.o (K.i (K.i K.z)))) (X.c (AV.int IntKind.i64 2))) (Option.some (K.i (K.i (K.i K.z)))) Gd.no [],
   .mk (mvR (X.t (K.i (K.i (K.i K.z))))) (Option.some (K.o (K.o (K.o (K.o K.z))))) Gd.no [],
   .mk (mvR (X.t (K.o K.z))) (Option.some (K.i (K.o (K.o (K.o K.z))))) (Gd.on (K.o (K.o (K.o (K.o K.z)))) Bool.true) [],
   .mk (iaS 2 (X.t (K.i (K.o (K.o (K.o K.z))))) (X.c (AV.int IntKind.i64 0))) (Option.some (K.o (K.i (K.o (K.o K.z))))) (Gd.on (K.o (K.o (K.o (K.o K.z)))) Bool.true) [],
   .mk (faR 0 (X.t (K.o (K.i (K.o (K.o K.z)))))) (Option.some (K.i (K.i (K.o (K.o K.z))))) (Gd.on (K.o (K.o (K.o (K.o K.z)))) Bool.true) [],
   .mk (ldR Bool.false 1 (X.t (K.i (K.i (K.o (K.o K.z)))))) (Option.some (K.o (K.o (K.i (K.o K.z))))) (Gd.on (K.o (K.o (K.o (K.o K.z)))) Bool.true) [],
   .mk (binR Try.prog EK.no Option.none Bool.true BinOp.eql (X.t (K.o (K.o (K.i (K.o K.z))))) (X.c (AV.str [97]))) (Option.some (K.i (K.o (K.i (K.o K.z))))) (Gd.on (K.o (K.o (K.o (K.o K.z)))) Bool.true) [],
   .mk (pickR (X.t (K.o (K.o (K.o (K.o K.z))))) (X.t (K.i (K.o (K.i (K.o K.z))))) (X.c (AV.bool Bool.false))) (Option.some (K.o (K.i (K.i (K.o K.z))))) Gd.no [],
   .mk (mvR (X.t (K.o (K.i (K.i (K.o K.z)))))) (Option.some (K.i (K.i (K.i (K.o K.z))))) Gd.no [],
   .mk (mvR (X.t (K.o K.z))) (Option.some (K.o (K.o (K.o (K.i K.z))))) (Gd.on (K.i (K.i (K.i (K.o K.z)))) Bool.true) [],
   .mk (callS Try.prog 39 [(X.t (K.o (K.o (K.o (K.i K.z)))))]) (Option.some (K.i (K.o (K.o (K.i K.z))))) (Gd.on (K.i (K.i (K.i (K.o K.z)))) Bool.true) [],
   .mk (pickR (X.t (K.i (K.i (K.i (K.o K.z))))) (X.t (K.i (K.o (K.o (K.i K.z))))) (X.c (AV.bool Bool.false))) (Option.some (K.o (K.i (K.o (K.i K.z))))) Gd.no [],
   .mk (mvR (X.t (K.o (K.i (K.o (K.i K.z)))))) (Option.some (K.i (K.i (K.o (K.i K.z))))) Gd.no [],
   .mk (mvR (X.t (K.o K.z))) (Option.some (K.o (K.o (K.i (K.i K.z))))) (Gd.on (K.i (K.i (K.o (K.i K.z)))) Bool.true) [],
   .mk (callS Try.prog 42 [(X.t (K.o (K.o (K.i (K.i K.z))))), (X.c (AV.str [98]))]) (Option.some (K.i (K.o (K.i (K.i K.z))))) (Gd.on (K.i (K.i (K.o (K.i K.z)))) Bool.true) [],
   .mk (binR Try.prog EK.no Option.none Bool.true BinOp.eql (X.t (K.i (K.o (K.i (K.i K.z))))) (X.c (AV.int IntKind.i64 3))) (Option.some (K.o (K.i (K.i (K.i K.z))))) (Gd.on (K.i (K.i (K.o (K.i K.z)))) Bool.true) [],
   .mk (pickR (X.t (K.i (K.i (K.o (K.i K.z))))) (X.t (K.o (K.i (K.i (K.i K.z))))) (X.c (AV.bool Bool.false))) (Option.some (K.i (K.i (K.i (K.i K.z))))) Gd.no [],
   .mk (mvR (X.t (K.i (K.i (K.i (K.i K.z)))))) (Option.some (K.o (K.o (K.o (K.o (K.o K.z)))))) Gd.no [],
   .mk (mvR (X.t (K.o K.z))) (Option.some (K.i (K.o (K.o (K.o (K.o K.z)))))) (Gd.on (K.o (K.o (K.o (K.o (K.o K.z))))) Bool.true) [],
   .mk (callS Try.prog 42 [(X.t (K.i (K.o (K.o (K.o (K.o K.z)))))), (X.c (AV.str [99]))]) (Option.some (K.o (K.i (K.o (K.o (K.o K.z)))))) (Gd.on (K.o (K.o (K.o (K.o (K.o K.z))))) Bool.true) [],
   .mk (binR Try.prog EK.no Option.none Bool.true BinOp.eql (X.t (K.o (K.i (K.o (K.o (K.o K.z)))))) (X.c (AV.int IntKind.i64 0))) (Option.some (K.i (K.i (K.o (K.o (K.o K.z)))))) (Gd.on (K.o (K.o (K.o (K.o (K.o K.z))))) Bool.true) [],
   .mk (pickR (X.t (K.o (K.o (K.o (K.o (K.o K.z)))))) (X.t (K.i (K.i (K.o (K.o (K.o K.z)))))) (X.c (AV.bool Bool.false))) (Option.some (K.o (K.o (K.i (K.o (K.o K.z)))))) Gd.no [],
   .mk (mvR (X.t (K.o (K.o (K.i (K.o (K.o K.z))))))) (Option.some (K.i (K.o (K.i (K.o (K.o K.z)))))) Gd.no [],
   .mk (mvR (X.t (K.o K.z))) (Option.some (K.o (K.i (K.i (K.o (K.o K.z)))))) (Gd.on (K.i (K.o (K.i (K.o (K.o K.z))))) Bool.true) [],
   .mk (buildR [(AV.str []), (AV.str [])] [(0, (1, (X.c (AV.str [98]))))]) (Option.some (K.i (K.i (K.i (K.o (K.o K.z)))))) (Gd.on (K.i (K.o (K.i (K.o (K.o K.z))))) Bool.true) [],
   .mk (callS Try.prog 44 [(X.t (K.o (K.i (K.i (K.o (K.o K.z)))))), (X.t (K.i (K.i (K.i (K.o (K.o K.z))))))]) (Option.some (K.o (K.o (K.o (K.i (K.o K.z)))))) (Gd.on (K.i (K.o (K.i (K.o (K.o K.z))))) Bool.true) [],
   .mk (lenR LnK.slice (X.t (K.o (K.o (K.o (K.i (K.o K.z))))))) (Option.some (K.i (K.o (K.o (K.i (K.o K.z)))))) (Gd.on (K.i (K.o (K.i (K.o (K.o K.z))))) Bool.true) [],
   .mk (binR Try.prog EK.no Option.none Bool.true BinOp.eql (X.t (K.i (K.o (K.o (K.i (K.o K.z)))))) (X.c (AV.int IntKind.i64 1))) (Option.some (K.o (K.i (K.o (K.i (K.o K.z)))))) (Gd.on (K.i (K.o (K.i (K.o (K.o K.z))))) Bool.true) [],
   .mk (pickR (X.t (K.i (K.o (K.i (K.o (K.o K.z)))))) (X.t (K.o (K.i (K.o (K.i (K.o K.z)))))) (X.c (AV.bool Bool.false))) (Option.some (K.i (K.i (K.o (K.i (K.o K.z)))))) Gd.no [],
   .mk (mvR (X.t (K.i (K.i (K.o (K.i (K.o K.z))))))) (Option.some (K.o (K.o (K.i (K.i (K.o K.z)))))) Gd.no [],
   .mk (mvR (X.t (K.i K.z))) (Option.some (K.i (K.o (K.i (K.i (K.o K.z)))))) (Gd.on (K.o (K.o (K.i (K.i (K.o K.z))))) Bool.true) [],
   .mk (lenR LnK.slice (X.t (K.i (K.o (K.i (K.i (K.o K.z))))))) (Option.some (K.o (K.i (K.i (K.i (K.o K.z)))))) (Gd.on (K.o (K.o (K.i (K.i (K.o K.z))))) Bool.true) [],
   .mk (binR Try.prog EK.no Option.none Bool.true BinOp.eql (X.t (K.o (K.i (K.i (K.i (K.o K.z)))))) (X.c (AV.int IntKind.i64 2))) (Option.some (K.i (K.i (K.i (K.i (K.o K.z)))))) (Gd.on (K.o (K.o (K.i (K.i (K.o K.z))))) Bool.true) [],
   .mk (pickR (X.t (K.o (K.o (K.i (K.i (K.o K.z)))))) (X.t (K.i (K.i (K.i (K.i (K.o K.z)))))) (X.c (AV.bool Bool.false))) (Option.some (K.o (K.o (K.o (K.o (K.i K.z)))))) Gd.no [],
   .mk (mvR (X.t (K.o (K.o (K.o (K.o (K.i K.z))))))) (Option.some (K.i (K.o (K.o (K.o (K.i K.z)))))) Gd.no [],
   .mk (mvR (X.t (K.i K.z))) (Option.some (K.o (K.i (K.o (K.o (K.i K.z)))))) (Gd.on (K.i (K.o (K.o (K.o (K.i K.z))))) Bool.true) [],
   .mk (iaS 2 (X.t (K.o (K.i (K.o (K.o (K.i K.z)))))) (X.c (AV.int IntKind.i64 0))) (Option.some (K.i (K.i (K.o (K.o (K.i K.z)))))) (Gd.on (K.i (K.o (K.o (K.o (K.i K.z))))) Bool.true) [],
   .mk (faR 1 (X.t (K.i (K.i (K.o (K.o (K.i K.z))))))) (Option.some (K.o (K.o (K.i (K.o (K.i K.z)))))) (Gd.on (K.i (K.o (K.o (K.o (K.i K.z))))) Bool.true) [],
   .mk (ldR Bool.false 1 (X.t (K.o (K.o (K.i (K.o (K.i K.z))))))) (Option.some (K.i (K.o (K.i (K.o (K.i K.z)))))) (Gd.on (K.i (K.o (K.o (K.o (K.i K.z))))) Bool.true) [],
   .mk (binR Try.prog EK.no Option.none Bool.true BinOp.eql (X.t (K.i (K.o (K.i (K.o (K.i K.z)))))) (X.c (AV.int IntKind.i64 2))) (Option.some (K.o (K.i (K.i (K.o (K.i K.z)))))) (Gd.on (K.i (K.o (K.o (K.o (K.i K.z))))) Bool.true) [],
   .mk (pickR (X.t (K.i (K.o (K.o (K.o (K.i K.z)))))) (X.t (K.o (K.i (K.i (K.o (K.i K.z)))))) (X.c (AV.bool Bool.false))) (Option.some (K.i (K.i (K.i (K.o (K.i K.z)))))) Gd.no [],
   .mk (mvR (X.t (K.i (K.i (K.i (K.o (K.i K.z))))))) (Option.some (K.o (K.o (K.o (K.i (K.i K.z)))))) Gd.no [],
   .mk (buildR [(AV.str []), (AV.int IntKind.i64 0)] [(0, (1, (X.c (AV.str [98]))))]) (Option.some (K.i (K.o (K.o (K.i (K.i K.z)))))) (Gd.on (K.o (K.o (K.o (K.i (K.i K.z))))) Bool.true) [],
   .mk (buildR [(AV.str []), (AV.int IntKind.i64 0)] [(0, (1, (X.c (AV.str [97]))))]) (Option.some (K.o (K.i (K.o (K.i (K.i K.z)))))) (Gd.on (K.o (K.o (K.o (K.i (K.i K.z))))) Bool.true) [],
   .mk (bslR 2 2 [(AV.str []), (AV.int IntKind.i64 0)] [(0, (X.t (K.i (K.o (K.o (K.i (K.i K.z))))))), (1, (X.t (K.o (K.i (K.o (K.i (K.i K.z)))))))]) (Option.some (K.i (K.i (K.o (K.i (K.i K.z)))))) (Gd.on (K.o (K.o (K.o (K.i (K.i K.z))))) Bool.true) [],
   .mk (callS Try.prog 39 [(X.t (K.i (K.i (K.o (K.i (K.i K.z))))))]) (Option.some (K.o (K.o (K.i (K.i (K.i K.z)))))) (Gd.on (K.o (K.o (K.o (K.i (K.i K.z))))) Bool.true) [],
   .mk (unR UnOp.not (X.t (K.o (K.o (K.i (K.i (K.i K.z))))))) (Option.some (K.i (K.o (K.i (K.i (K.i K.z)))))) (Gd.on (K.o (K.o (K.o (K.i (K.i K.z))))) Bool.true) [],
   .mk (pickR (X.t (K.o (K.o (K.o (K.i (K.i K.z)))))) (X.t (K.i (K.o (K.i (K.i (K.i K.z)))))) (X.c (AV.bool Bool.false))) (Option.some (K.o (K.i (K.i (K.i (K.i K.z)))))) Gd.no [],
   .mk (mvR (X.t (K.o (K.i (K.i (K.i (K.i K.z))))))) (Option.some K.z) Gd.no []])
  .ret)))))
theorem C37ok : (match Try.f37.body with | some c => comp Try.prog 62 c | none => none) = some C37 := by kernel_rfl
@[go_sem] theorem call37 (args : List AV) (H : Heap) : callC Try.prog 37 args H = .call 37 args := callC_ok (by kernel_rfl) args H
theorem R37ok : resKs Try.prog Try.f37.results.toList = some [(RK.tmp K.z)] := by kernel_rfl

/- 38: estuary/estuarylaw2.few -/
noncomputable def C38L0 : CC :=
  (.seq (.seq (.region [.mk (mvR (X.t (K.o (K.o K.z)))) (Option.some (K.i (K.o K.z))) Gd.no [],
   .mk (mvR (X.t K.z)) (Option.some (K.o (K.i K.z))) Gd.no [],
   .mk (lenR LnK.slice (X.t (K.o (K.i K.z)))) (Option.some (K.i (K.i K.z))) Gd.no [],
   .mk (binR Try.prog EK.no Option.none Bool.false BinOp.lss (X.t (K.i (K.o K.z))) (X.t (K.i (K.i K.z)))) (Option.some (K.o (K.o (K.o K.z)))) Gd.no []])
  (.cond (X.t (K.o (K.o (K.o K.z))))
  .skip
  (.exit 0)))
  (.seq (.block 1 (.seq (.region [.mk (mvR (X.t K.z)) (Option.some (K.i (K.i (K.o K.z)))) Gd.no [],
   .mk (mvR (X.t (K.o (K.o K.z)))) (Option.some (K.o (K.o (K.i K.z)))) Gd.no [],
   .mk (iaS 2 (X.t (K.i (K.i (K.o K.z)))) (X.t (K.o (K.o (K.i K.z))))) (Option.some (K.i (K.o (K.i K.z)))) Gd.no [],
   .mk (faR 0 (X.t (K.i (K.o (K.i K.z))))) (Option.some (K.o (K.i (K.i K.z)))) Gd.no [],
   .mk (ldR Bool.false 1 (X.t (K.o (K.i (K.i K.z))))) (Option.some (K.i (K.i (K.i K.z)))) Gd.no [],
   .mk (lenR LnK.str (X.t (K.i (K.i (K.i K.z))))) (Option.some (K.o (K.o (K.o (K.o K.z))))) Gd.no [],
   .mk (binR Try.prog EK.no Option.none Bool.true BinOp.gtr (X.t (K.o (K.o (K.o (K.o K.z))))) (X.c (AV.int IntKind.i64 20))) (Option.some (K.i (K.o (K.o (K.o K.z))))) Gd.no []])
  (.cond (X.t (K.i (K.o (K.o (K.o K.z)))))
  (.seq (.region [.mk (mvR (X.c (AV.bool Bool.false))) (Option.some (K.i K.z)) Gd.no []])
  .ret)
  .skip)))
  (.region [.mk (mvR (X.t (K.o (K.o K.z)))) (Option.some (K.i (K.o (K.o K.z)))) Gd.no [],
   .mk (binR Try.prog EK.no Option.none Bool.true BinOp.add (X.t (K.i (K.o (K.o K.z)))) (X.c (AV.int IntKind.i64 1))) (Option.some (K.o (K.i (K.o K.z)))) Gd.no [],
   .mk (mvR (X.t (K.o (K.i (K.o K.z))))) (Option.some (K.o (K.o K.z))) Gd.no []])))
noncomputable def C38 : CC :=
  (.seq (.region [.mk (mvR (X.c (AV.bool Bool.false))) (Option.some (K.i K.z)) Gd.no []])
  (.seq (.seq (.region [.mk (mvR (X.c (AV.int IntKind.i64 0))) (Option.some (K.o (K.o K.z))) Gd.no []])
  (.block 0 (.loop C38L0)))
  (.seq (.region [.mk (mvR (X.t K.z)) (Option.some (K.o (K.i (K.o (K.o K.z))))) Gd.no [],
   .mk (lenR LnK.slice (X.t (K.o (K.i (K.o (K.o K.z)))))) (Option.some (K.i (K.i (K.o (K.o K.z))))) Gd.no [],
   .mk (binR Try.prog EK.no Option.none Bool.true BinOp.leq (X.t (K.i (K.i (K.o (K.o K.z))))) (X.c (AV.int IntKind.i64 30))) (Option.some (K.o (K.o (K.i (K.o K.z))))) Gd.no [],
   .mk (mvR (X.t (K.o (K.o (K.i (K.o K.z)))))) (Option.some (K.i K.z)) Gd.no []])
  .ret)))
theorem C38ok : (match Try.f38.body with | some c => comp Try.prog 20 c | none => none) = some C38 := by kernel_rfl
@[go_sem] theorem call38 (args : List AV) (H : Heap) : callC Try.prog 38 args H = .call 38 args := callC_ok (by kernel_rfl) args H
theorem R38ok : resKs Try.prog Try.f38.results.toList = some [(RK.tmp (K.i K.z))] := by kernel_rfl

/- 39: estuary/token.Is -/
noncomputable def C39L0 : CC :=
  (.seq (.region [.mk (binR Try.prog EK.no Option.none Bool.false BinOp.lss (X.t (K.o (K.o (K.o K.z)))) (X.t (K.i (K.i K.z)))) (Option.some (K.i (K.o (K.o K.z)))) Gd.no []])
  (.seq (.cond (X.t (K.i (K.o (K.o K.z))))
  .skip
  (.exit 0))
  (.seq (.block 1 (.seq (.region [.mk (mvR (X.t (K.o (K.o (K.o K.z))))) (Option.some (K.o (K.i (K.o K.z)))) Gd.no [],
   .mk (iaS 2 (X.t (K.o (K.i K.z))) (X.t (K.o (K.o (K.o K.z))))) (Option.some (K.i (K.i (K.o K.z)))) Gd.no [],
   .mk (ldR Bool.true 2 (X.t (K.i (K.i (K.o K.z))))) (Option.some (K.o (K.o (K.i K.z)))) Gd.no [],
   .mk (fun _ H => newC Bool.false [(AV.str []), (AV.int IntKind.i64 0)] H) (Option.some (K.i (K.o K.z))) Gd.no [],
   .mk (mvR (X.t (K.o (K.i (K.o K.z))))) (Option.some (K.o (K.o K.z))) Gd.no [],
   .mk (stR 2 (X.t (K.i (K.o K.z))) (X.t (K.o (K.o (K.i K.z))))) Option.none Gd.no []])
  (.block 2 (.seq (.block 5 (.block 4 (.block 3 (.seq (.seq (.seq (.region [.mk (faR 0 (X.t (K.i (K.o K.z)))) (Option.some (K.o (K.i (K.i K.z)))) Gd.no [],
   .mk (ldR Bool.false 1 (X.t (K.o (K.i (K.i K.z))))) (Option.some (K.i (K.i (K.i K.z)))) Gd.no [],
   .mk (callS Try.prog 59 [(X.t (K.i (K.i (K.i K.z))))]) (Option.some (K.o (K.o (K.o (K.o K.z))))) Gd.no [],
   .mk (unR UnOp.not (X.t (K.o (K.o (K.o (K.o K.z)))))) (Option.some (K.i (K.o (K.o (K.o K.z))))) Gd.no [],
   .mk (mvR (X.t (K.i (K.o (K.o (K.o K.z)))))) (Option.some (K.i (K.o (K.i K.z)))) Gd.no []])
  (.cond (X.t (K.i (K.o (K.i K.z))))
  (.exit 3)
  .skip))
  (.seq (.seq (.region [.mk (faR 1 (X.t (K.i (K.o K.z)))) (Option.some (K.i (K.i (K.o (K.o K.z))))) Gd.no [],
   .mk (ldR Bool.false 1 (X.t (K.i (K.i (K.o (K.o K.z)))))) (Option.some (K.o (K.o (K.i (K.o K.z))))) Gd.no [],
   .mk (binR Try.prog EK.no Option.none Bool.true BinOp.lss (X.t (K.o (K.o (K.i (K.o K.z))))) (X.c (AV.int IntKind.i64 0))) (Option.some (K.i (K.o (K.i (K.o K.z))))) Gd.no [],
   .mk (mvR (X.t (K.i (K.o (K.i (K.o K.z)))))) (Option.some (K.o (K.i (K.i (K.o K.z))))) Gd.no [],
   .mk (faR 1 (X.t (K.i (K.o K.z)))) (Option.some (K.i (K.i (K.i (K.o K.z))))) (Gd.on (K.o (K.i (K.i (K.o K.z)))) Bool.false) [],
   .mk (ldR Bool.false 1 (X.t (K.i (K.i (K.i (K.o K.z)))))) (Option.some (K.o (K.o (K.o (K.i K.z))))) (Gd.on (K.o (K.i (K.i (K.o K.z)))) Bool.false) [],
   .mk (binR Try.prog EK.no Option.none Bool.true BinOp.gtr (X.t (K.o (K.o (K.o (K.i K.z))))) (X.c (AV.int IntKind.i64 1000000000000))) (Option.some (K.i (K.o (K.o (K.i K.z))))) (Gd.on (K.o (K.i (K.i (K.o K.z)))) Bool.false) [],
   .mk (pickR (X.t (K.o (K.i (K.i (K.o K.z))))) (X.c (AV.bool Bool.true)) (X.t (K.i (K.o (K.o (K.i K.z)))))) (Option.some (K.o (K.i (K.o (K.i K.z))))) Gd.no [],
   .mk (mvR (X.t (K.o (K.i (K.o (K.i K.z)))))) (Option.some (K.o (K.i (K.o (K.o K.z))))) Gd.no []])
  (.cond (X.t (K.o (K.i (K.o (K.o K.z)))))
  (.exit 4)
  .skip))
  (.seq (.regionD [.mk (keepH (mvR (X.t (K.o (K.o K.z))))) (Option.some (K.o (K.o (K.i (K.i K.z))))) Gd.no [],
   .mk (keepH (binR Try.prog EK.no Option.none Bool.true BinOp.gtr (X.t (K.o (K.o (K.i (K.i K.z))))) (X.c (AV.int IntKind.i64 0)))) (Option.some (K.i (K.o (K.i (K.i K.z))))) Gd.no [],
   .mk (keepH (mvR (X.t (K.i (K.o (K.i (K.i K.z))))))) (Option.some (K.o (K.i (K.i (K.i K.z))))) Gd.no [],
   .mk (keepH (faR 0 (X.t (K.i (K.o K.z))))) (Option.some (K.i (K.o (K.i (K.o (K.o K.z)))))) (Gd.on (K.o (K.i (K.i (K.i K.z)))) Bool.true) [],
   .mk (keepH (ldR Bool.false 1 (X.t (K.i (K.o (K.i (K.o (K.o K.z)))))))) (Option.some (K.o (K.i (K.i (K.o (K.o K.z)))))) (Gd.on (K.o (K.i (K.i (K.i K.z)))) Bool.true) [],
   .mk (keepH (mvR (X.t (K.o (K.o K.z))))) (Option.some (K.o (K.o (K.o (K.o (K.o K.z)))))) (Gd.on (K.o (K.i (K.i (K.i K.z)))) Bool.true) [],
   .mk (keepH (binR Try.prog EK.no Option.none Bool.true BinOp.sub (X.t (K.o (K.o (K.o (K.o (K.o K.z)))))) (X.c (AV.int IntKind.i64 1)))) (Option.some (K.i (K.o (K.o (K.o (K.o K.z)))))) (Gd.on (K.o (K.i (K.i (K.i K.z)))) Bool.true) [],
   .mk (keepH (mvR (X.t K.z))) (Option.some (K.i (K.i (K.i (K.i K.z))))) (Gd.on (K.o (K.i (K.i (K.i K.z)))) Bool.true) [],
   .mk (keepH (iaS 2 (X.t (K.i (K.i (K.i (K.i K.z))))) (X.t (K.i (K.o (K.o (K.o (K.o K.z)))))))) (Option.some (K.o (K.i (K.o (K.o (K.o K.z)))))) (Gd.on (K.o (K.i (K.i (K.i K.z)))) Bool.true) [],
   .mk (keepH (faR 0 (X.t (K.o (K.i (K.o (K.o (K.o K.z)))))))) (Option.some (K.i (K.i (K.o (K.o (K.o K.z)))))) (Gd.on (K.o (K.i (K.i (K.i K.z)))) Bool.true) [],
   .mk (keepH (ldR Bool.false 1 (X.t (K.i (K.i (K.o (K.o (K.o K.z)))))))) (Option.some (K.o (K.o (K.i (K.o (K.o K.z)))))) (Gd.on (K.o (K.i (K.i (K.i K.z)))) Bool.true) [],
   .mk (keepH (binR Try.prog EK.no Option.none Bool.false BinOp.geq (X.t (K.o (K.o (K.i (K.o (K.o K.z)))))) (X.t (K.o (K.i (K.i (K.o (K.o K.z)))))))) (Option.some (K.i (K.i (K.i (K.o (K.o K.z)))))) (Gd.on (K.o (K.i (K.i (K.i K.z)))) Bool.true) [],
   .mk (keepH (pickR (X.t (K.o (K.i (K.i (K.i K.z))))) (X.t (K.i (K.i (K.i (K.o (K.o K.z)))))) (X.c (AV.bool Bool.false)))) (Option.some (K.o (K.o (K.o (K.i (K.o K.z)))))) Gd.no [],
   .mk (mvR (X.t (K.o (K.o (K.o (K.i (K.o K.z))))))) (Option.some (K.i (K.i (K.o (K.i K.z))))) Gd.no []])
  (.cond (X.t (K.i (K.i (K.o (K.i K.z)))))
  (.exit 5)
  .skip))))
  (.exit 2)))))
  (.seq (.seq (.region [.mk (mvR (X.c (AV.bool Bool.false))) (Option.some (K.i K.z)) Gd.no []])
  .ret)
  (.exit 2))))))
  (.region [.mk (binR Try.prog EK.no Option.none Bool.true BinOp.add (X.t (K.o (K.o (K.o K.z)))) (X.c (AV.int IntKind.i64 1))) (Option.some (K.i (K.o (K.o (K.i (K.o K.z)))))) Gd.no [],
   .mk (mvR (X.t (K.i (K.o (K.o (K.i (K.o K.z))))))) (Option.some (K.o (K.o (K.o K.z)))) Gd.no []]))))
noncomputable def C39 : CC :=
  (.seq (.region [.mk (mvR (X.c (AV.bool Bool.false))) (Option.some (K.i K.z)) Gd.no []])
  (.seq (.seq (.region [.mk (mvR (X.t K.z)) (Option.some (K.o (K.i K.z))) Gd.no [],
   .mk (lenR LnK.slice (X.t (K.o (K.i K.z)))) (Option.some (K.i (K.i K.z))) Gd.no [],
   .mk (mvR (X.c (AV.int IntKind.i64 0))) (Option.some (K.o (K.o (K.o K.z)))) Gd.no []])
  (.block 0 (.loop C39L0)))
  (.seq (.region [.mk (mvR (X.c (AV.bool Bool.true))) (Option.some (K.i K.z)) Gd.no []])
  .ret)))
theorem C39ok : (match Try.f39.body with | some c => comp Try.prog 41 c | none => none) = some C39 := by kernel_rfl
@[go_sem] theorem call39 (args : List AV) (H : Heap) : callC Try.prog 39 args H = .call 39 args := callC_ok (by kernel_rfl) args H
theorem R39ok : resKs Try.prog Try.f39.results.toList = some [(RK.tmp (K.i K.z))] := by kernel_rfl

/- 40: estuary/token.Best -/
noncomputable def C40L0 : CC :=
  (.seq (.region [.mk (binR Try.prog EK.no Option.none Bool.false BinOp.lss (X.t (K.i (K.i (K.i (K.o K.z))))) (X.t (K.o (K.i (K.i (K.o K.z)))))) (Option.some (K.o (K.o (K.o (K.i K.z))))) Gd.no []])
  (.seq (.cond (X.t (K.o (K.o (K.o (K.i K.z)))))
  .skip
  (.exit 0))
  (.seq (.block 1 (.seq (.region [.mk (iaS 2 (X.t (K.i (K.o (K.i (K.o K.z))))) (X.t (K.i (K.i (K.i (K.o K.z)))))) (Option.some (K.i (K.o (K.o (K.i K.z))))) Gd.no [],
   .mk (ldR Bool.true 2 (X.t (K.i (K.o (K.o (K.i K.z)))))) (Option.some (K.o (K.i (K.o (K.i K.z))))) Gd.no [],
   .mk (fun _ H => newC Bool.false [(AV.str []), (AV.int IntKind.i64 0)] H) (Option.some (K.o (K.o (K.o K.z)))) Gd.no [],
   .mk (stR 2 (X.t (K.o (K.o (K.o K.z)))) (X.t (K.o (K.i (K.o (K.i K.z)))))) Option.none Gd.no []])
  (.seq (.region [.mk (mvR (X.t (K.o (K.i K.z)))) (Option.some (K.o (K.o (K.i (K.i K.z))))) Gd.no [],
   .mk (faR 0 (X.t (K.o (K.o (K.o K.z))))) (Option.some (K.i (K.o (K.i (K.i K.z))))) Gd.no [],
   .mk (ldR Bool.false 1 (X.t (K.i (K.o (K.i (K.i K.z)))))) (Option.some (K.o (K.i (K.i (K.i K.z))))) Gd.no [],
   .mk (callS Try.prog 61 [(X.t (K.o (K.o (K.i (K.i K.z))))), (X.t (K.o (K.i (K.i (K.i K.z)))))]) (Option.some (K.i (K.i (K.i (K.i K.z))))) Gd.no [],
   .mk (mvR (X.t (K.i (K.i (K.i (K.i K.z)))))) (Option.some (K.i (K.i (K.o (K.i K.z))))) Gd.no [],
   .mk (extR (X.t (K.i (K.i (K.o (K.i K.z))))) 0) (Option.some (K.o (K.o (K.o (K.o (K.o K.z)))))) Gd.no [],
   .mk (extR (X.t (K.i (K.i (K.o (K.i K.z))))) 1) (Option.some (K.i (K.o (K.o (K.o (K.o K.z)))))) Gd.no [],
   .mk (mvR (X.t (K.o (K.o (K.o (K.o (K.o K.z))))))) (Option.some (K.i (K.o (K.o K.z)))) Gd.no [],
   .mk (mvR (X.t (K.i (K.o (K.o (K.o (K.o K.z))))))) (Option.some (K.o (K.i (K.o K.z)))) Gd.no []])
  (.seq (.region [.mk (mvR (X.t (K.o (K.i (K.o K.z))))) (Option.some (K.o (K.i (K.o (K.o (K.o K.z)))))) Gd.no [],
   .mk (unR UnOp.not (X.t (K.o (K.i (K.o (K.o (K.o K.z))))))) (Option.some (K.i (K.i (K.o (K.o (K.o K.z)))))) Gd.no []])
  (.cond (X.t (K.i (K.i (K.o (K.o (K.o K.z))))))
  (.region [.mk (mvR (X.t (K.o (K.i K.z)))) (Option.some (K.o (K.o (K.i (K.o (K.o K.z)))))) Gd.no [],
   .mk (mvR (X.t (K.i (K.o (K.o K.z))))) (Option.some (K.i (K.o (K.i (K.o (K.o K.z)))))) Gd.no [],
   .mk (ldR Bool.true 2 (X.t (K.o (K.o (K.o K.z))))) (Option.some (K.o (K.i (K.i (K.o (K.o K.z)))))) Gd.no [],
   .mk (bslR 2 1 [(AV.str []), (AV.int IntKind.i64 0)] [(0, (X.t (K.o (K.i (K.i (K.o (K.o K.z)))))))]) (Option.some (K.i (K.i (K.i (K.o (K.o K.z)))))) Gd.no [],
   .mk (callS Try.prog 62 [(X.t (K.o (K.o (K.i (K.o (K.o K.z)))))), (X.t (K.i (K.o (K.i (K.o (K.o K.z)))))), (X.t (K.i (K.i (K.i (K.o (K.o K.z))))))]) (Option.some (K.o (K.o (K.o (K.i (K.o K.z)))))) Gd.no [],
   .mk (mvR (X.t (K.o (K.o (K.o (K.i (K.o K.z))))))) (Option.some (K.o (K.i K.z))) Gd.no []])
  (.regionD [.mk (keepH (faR 1 (X.t (K.o (K.o (K.o K.z)))))) (Option.some (K.o (K.o (K.o (K.o (K.i K.z)))))) Gd.no [],
   .mk (keepH (ldR Bool.false 1 (X.t (K.o (K.o (K.o (K.o (K.i K.z)))))))) (Option.some (K.i (K.o (K.o (K.o (K.i K.z)))))) Gd.no [],
   .mk (keepH (mvR (X.t (K.i (K.o (K.o K.z)))))) (Option.some (K.o (K.o (K.i (K.i (K.o K.z)))))) Gd.no [],
   .mk (keepH (mvR (X.t (K.o (K.i K.z))))) (Option.some (K.i (K.i (K.o (K.i (K.o K.z)))))) Gd.no [],
   .mk (keepH (iaS 2 (X.t (K.i (K.i (K.o (K.i (K.o K.z)))))) (X.t (K.o (K.o (K.i (K.i (K.o K.z)))))))) (Option.some (K.i (K.o (K.i (K.i (K.o K.z)))))) Gd.no [],
   .mk (keepH (faR 1 (X.t (K.i (K.o (K.i (K.i (K.o K.z)))))))) (Option.some (K.o (K.i (K.i (K.i (K.o K.z)))))) Gd.no [],
   .mk (keepH (ldR Bool.false 1 (X.t (K.o (K.i (K.i (K.i (K.o K.z)))))))) (Option.some (K.i (K.i (K.i (K.i (K.o K.z)))))) Gd.no [],
   .mk (keepH (mvR (X.t (K.i (K.o (K.o K.z)))))) (Option.some (K.o (K.i (K.o (K.i (K.o K.z)))))) Gd.no [],
   .mk (keepH (mvR (X.t (K.o (K.i K.z))))) (Option.some (K.i (K.o (K.o (K.i (K.o K.z)))))) Gd.no [],
   .mk (mmR Bool.true (X.t (K.i (K.i (K.i (K.i (K.o K.z)))))) (X.t (K.i (K.o (K.o (K.o (K.i K.z))))))) (Option.some (K.o (K.i (K.o (K.o (K.i K.z)))))) Gd.no [.mk (mvR (X.t (K.o (K.i K.z)))) (Option.some (K.i (K.o (K.o (K.i (K.o K.z)))))) Gd.no, .mk (mvR (X.t (K.i (K.o (K.o K.z))))) (Option.some (K.o (K.i (K.o (K.i (K.o K.z)))))) Gd.no],
   .mk (keepH (iaS 2 (X.t (K.i (K.o (K.o (K.i (K.o K.z)))))) (X.t (K.o (K.i (K.o (K.i (K.o K.z)))))))) (Option.some (K.i (K.i (K.o (K.o (K.i K.z)))))) Gd.no [],
   .mk (keepH (faR 1 (X.t (K.i (K.i (K.o (K.o (K.i K.z)))))))) (Option.some (K.o (K.o (K.i (K.o (K.i K.z)))))) Gd.no [],
   .mk (stR 1 (X.t (K.o (K.o (K.i (K.o (K.i K.z)))))) (X.t (K.o (K.i (K.o (K.o (K.i K.z))))))) Option.none Gd.no []]))))))
  (.region [.mk (binR Try.prog EK.no Option.none Bool.true BinOp.add (X.t (K.i (K.i (K.i (K.o K.z))))) (X.c (AV.int IntKind.i64 1))) (Option.some (K.i (K.o (K.i (K.o (K.i K.z)))))) Gd.no [],
   .mk (mvR (X.t (K.i (K.o (K.i (K.o (K.i K.z))))))) (Option.some (K.i (K.i (K.i (K.o K.z))))) Gd.no []]))))
noncomputable def C40 : CC :=
  (.seq (.region [.mk (mvR (X.c AV.nils)) (Option.some (K.i (K.o K.z))) Gd.no []])
  (.seq (.seq (.region [.mk (mvR (X.t K.z)) (Option.some (K.i (K.i (K.o K.z)))) Gd.no [],
   .mk (callS Try.prog 39 [(X.t (K.i (K.i (K.o K.z))))]) (Option.some (K.o (K.o (K.i K.z)))) Gd.no [],
   .mk (unR UnOp.not (X.t (K.o (K.o (K.i K.z))))) (Option.some (K.i (K.o (K.i K.z)))) Gd.no [],
   .mk (mvR (X.t (K.i (K.o (K.i K.z))))) (Option.some (K.o (K.i (K.i K.z)))) Gd.no [],
   .mk (mvR (X.t (K.o K.z))) (Option.some (K.i (K.i (K.i K.z)))) (Gd.on (K.o (K.i (K.i K.z))) Bool.false) [],
   .mk (callS Try.prog 39 [(X.t (K.i (K.i (K.i K.z))))]) (Option.some (K.o (K.o (K.o (K.o K.z))))) (Gd.on (K.o (K.i (K.i K.z))) Bool.false) [],
   .mk (unR UnOp.not (X.t (K.o (K.o (K.o (K.o K.z)))))) (Option.some (K.i (K.o (K.o (K.o K.z))))) (Gd.on (K.o (K.i (K.i K.z))) Bool.false) [],
   .mk (pickR (X.t (K.o (K.i (K.i K.z)))) (X.c (AV.bool Bool.true)) (X.t (K.i (K.o (K.o (K.o K.z)))))) (Option.some (K.o (K.i (K.o (K.o K.z))))) Gd.no []])
  (.cond (X.t (K.o (K.i (K.o (K.o K.z)))))
  (.seq (.region [.mk (mvR (X.c AV.nils)) (Option.some (K.i (K.o K.z))) Gd.no []])
  .ret)
  .skip))
  (.seq (.region [.mk (mvR (X.t K.z)) (Option.some (K.i (K.i (K.o (K.o K.z))))) Gd.no [],
   .mk (callS Try.prog 60 [(X.t (K.i (K.i (K.o (K.o K.z)))))]) (Option.some (K.o (K.o (K.i (K.o K.z))))) Gd.no [],
   .mk (mvR (X.t (K.o (K.o (K.i (K.o K.z)))))) (Option.some (K.o (K.i K.z))) Gd.no []])
  (.seq (.seq (.region [.mk (mvR (X.t (K.o K.z))) (Option.some (K.i (K.o (K.i (K.o K.z))))) Gd.no [],
   .mk (lenR LnK.slice (X.t (K.i (K.o (K.i (K.o K.z)))))) (Option.some (K.o (K.i (K.i (K.o K.z))))) Gd.no [],
   .mk (mvR (X.c (AV.int IntKind.i64 0))) (Option.some (K.i (K.i (K.i (K.o K.z))))) Gd.no []])
  (.block 0 (.loop C40L0)))
  (.seq (.region [.mk (mvR (X.t (K.o (K.i K.z)))) (Option.some (K.o (K.i (K.i (K.o (K.i K.z)))))) Gd.no [],
   .mk (mvR (X.t (K.o (K.i (K.i (K.o (K.i K.z))))))) (Option.some (K.i (K.o K.z))) Gd.no []])
  .ret)))))
theorem C40ok : (match Try.f40.body with | some c => comp Try.prog 54 c | none => none) = some C40 := by kernel_rfl
@[go_sem] theorem call40 (args : List AV) (H : Heap) : callC Try.prog 40 args H = .call 40 args := callC_ok (by kernel_rfl) args H
theorem R40ok : resKs Try.prog Try.f40.results.toList = some [(RK.tmp (K.i (K.o K.z)))] := by kernel_rfl

/- 41: estuary/estuaryref1.Same -/
noncomputable def C41L0 : CC :=
  (.seq (.seq (.region [.mk (mvR (X.t (K.o (K.i K.z)))) (Option.some (K.o (K.o (K.i K.z)))) Gd.no [],
   .mk (mvR (X.t K.z)) (Option.some (K.i (K.o (K.i K.z)))) Gd.no [],
   .mk (lenR LnK.slice (X.t (K.i (K.o (K.i K.z))))) (Option.some (K.o (K.i (K.i K.z)))) Gd.no [],
   .mk (binR Try.prog EK.no Option.none Bool.false BinOp.lss (X.t (K.o (K.o (K.i K.z)))) (X.t (K.o (K.i (K.i K.z))))) (Option.some (K.i (K.i (K.i K.z)))) Gd.no []])
  (.cond (X.t (K.i (K.i (K.i K.z))))
  .skip
  (.exit 0)))
  (.seq (.block 1 (.seq (.regionD [.mk (keepH (mvR (X.t (K.o (K.i K.z))))) (Option.some (K.i (K.i (K.i (K.o K.z))))) Gd.no [],
   .mk (keepH (mvR (X.t (K.o K.z)))) (Option.some (K.o (K.i (K.i (K.o K.z))))) Gd.no [],
   .mk (keepH (iaS 2 (X.t (K.o (K.i (K.i (K.o K.z))))) (X.t (K.i (K.i (K.i (K.o K.z))))))) (Option.some (K.o (K.o (K.o (K.i K.z))))) Gd.no [],
   .mk (keepH (ldR Bool.true 2 (X.t (K.o (K.o (K.o (K.i K.z))))))) (Option.some (K.i (K.o (K.o (K.i K.z))))) Gd.no [],
   .mk (keepH (mvR (X.t (K.o (K.i K.z))))) (Option.some (K.i (K.i (K.o (K.o K.z))))) Gd.no [],
   .mk (keepH (mvR (X.t K.z))) (Option.some (K.o (K.i (K.o (K.o K.z))))) Gd.no [],
   .mk (keepH (iaS 2 (X.t (K.o (K.i (K.o (K.o K.z))))) (X.t (K.i (K.i (K.o (K.o K.z))))))) (Option.some (K.o (K.o (K.i (K.o K.z))))) Gd.no [],
   .mk (keepH (ldR Bool.true 2 (X.t (K.o (K.o (K.i (K.o K.z))))))) (Option.some (K.i (K.o (K.i (K.o K.z))))) Gd.no [],
   .mk (keepH (binR Try.prog EK.no (Option.some [LK.str, LK.int]) Bool.false BinOp.neq (X.t (K.i (K.o (K.i (K.o K.z))))) (X.t (K.i (K.o (K.o (K.i K.z))))))) (Option.some (K.o (K.i (K.o (K.i K.z))))) Gd.no []])
  (.cond (X.t (K.o (K.i (K.o (K.i K.z)))))
  (.seq (.region [.mk (mvR (X.c (AV.bool Bool.false))) (Option.some (K.i (K.o K.z))) Gd.no []])
  .ret)
  .skip)))
  (.region [.mk (mvR (X.t (K.o (K.i K.z)))) (Option.some (K.o (K.o (K.o (K.o K.z))))) Gd.no [],
   .mk (binR Try.prog EK.no Option.none Bool.true BinOp.add (X.t (K.o (K.o (K.o (K.o K.z))))) (X.c (AV.int IntKind.i64 1))) (Option.some (K.i (K.o (K.o (K.o K.z))))) Gd.no [],
   .mk (mvR (X.t (K.i (K.o (K.o (K.o K.z)))))) (Option.some (K.o (K.i K.z))) Gd.no []])))
noncomputable def C41 : CC :=
  (.seq (.region [.mk (mvR (X.c (AV.bool Bool.false))) (Option.some (K.i (K.o K.z))) Gd.no []])
  (.seq (.seq (.region [.mk (mvR (X.t K.z)) (Option.some (K.i (K.i K.z))) Gd.no [],
   .mk (lenR LnK.slice (X.t (K.i (K.i K.z)))) (Option.some (K.o (K.o (K.o K.z)))) Gd.no [],
   .mk (mvR (X.t (K.o K.z))) (Option.some (K.i (K.o (K.o K.z)))) Gd.no [],
   .mk (lenR LnK.slice (X.t (K.i (K.o (K.o K.z))))) (Option.some (K.o (K.i (K.o K.z)))) Gd.no [],
   .mk (binR Try.prog EK.no Option.none Bool.false BinOp.neq (X.t (K.o (K.o (K.o K.z)))) (X.t (K.o (K.i (K.o K.z))))) (Option.some (K.i (K.i (K.o K.z)))) Gd.no []])
  (.cond (X.t (K.i (K.i (K.o K.z))))
  (.seq (.region [.mk (mvR (X.c (AV.bool Bool.false))) (Option.some (K.i (K.o K.z))) Gd.no []])
  .ret)
  .skip))
  (.seq (.seq (.region [.mk (mvR (X.c (AV.int IntKind.i64 0))) (Option.some (K.o (K.i K.z))) Gd.no []])
  (.block 0 (.loop C41L0)))
  (.seq (.region [.mk (mvR (X.c (AV.bool Bool.true))) (Option.some (K.i (K.o K.z))) Gd.no []])
  .ret))))
theorem C41ok : (match Try.f41.body with | some c => comp Try.prog 26 c | none => none) = some C41 := by kernel_rfl
@[go_sem] theorem call41 (args : List AV) (H : Heap) : callC Try.prog 41 args H = .call 41 args := callC_ok (by kernel_rfl) args H
theorem R41ok : resKs Try.prog Try.f41.results.toList = some [(RK.tmp (K.i (K.o K.z)))] := by kernel_rfl

/- 42: estuary/token.Of -/
noncomputable def C42L0 : CC :=
  (.seq (.region [.mk (binR Try.prog EK.no Option.none Bool.false BinOp.lss (X.t (K.o (K.i (K.o K.z)))) (X.t (K.i (K.o (K.o K.z))))) (Option.some (K.i (K.i (K.o K.z)))) Gd.no []])
  (.seq (.cond (X.t (K.i (K.i (K.o K.z))))
  .skip
  (.exit 0))
  (.seq (.block 1 (.seq (.region [.mk (iaS 2 (X.t (K.o (K.o (K.o K.z)))) (X.t (K.o (K.i (K.o K.z))))) (Option.some (K.o (K.o (K.i K.z)))) Gd.no [],
   .mk (ldR Bool.true 2 (X.t (K.o (K.o (K.i K.z))))) (Option.some (K.i (K.o (K.i K.z)))) Gd.no [],
   .mk (fun _ H => newC Bool.false [(AV.str []), (AV.int IntKind.i64 0)] H) (Option.some (K.i (K.i K.z))) Gd.no [],
   .mk (stR 2 (X.t (K.i (K.i K.z))) (X.t (K.i (K.o (K.i K.z))))) Option.none Gd.no []])
  (.seq (.region [.mk (faR 0 (X.t (K.i (K.i K.z)))) (Option.some (K.o (K.i (K.i K.z)))) Gd.no [],
   .mk (ldR Bool.false 1 (X.t (K.o (K.i (K.i K.z))))) (Option.some (K.i (K.i (K.i K.z)))) Gd.no [],
   .mk (mvR (X.t (K.o K.z))) (Option.some (K.o (K.o (K.o (K.o K.z))))) Gd.no [],
   .mk (binR Try.prog EK.no Option.none Bool.false BinOp.eql (X.t (K.i (K.i (K.i K.z)))) (X.t (K.o (K.o (K.o (K.o K.z)))))) (Option.some (K.i (K.o (K.o (K.o K.z))))) Gd.no []])
  (.cond (X.t (K.i (K.o (K.o (K.o K.z)))))
  (.seq (.region [.mk (faR 1 (X.t (K.i (K.i K.z)))) (Option.some (K.o (K.i (K.o (K.o K.z))))) Gd.no [],
   .mk (ldR Bool.false 1 (X.t (K.o (K.i (K.o (K.o K.z)))))) (Option.some (K.i (K.i (K.o (K.o K.z))))) Gd.no [],
   .mk (mvR (X.t (K.i (K.i (K.o (K.o K.z)))))) (Option.some (K.i (K.o K.z))) Gd.no []])
  .ret)
  .skip))))
  (.region [.mk (binR Try.prog EK.no Option.none Bool.true BinOp.add (X.t (K.o (K.i (K.o K.z)))) (X.c (AV.int IntKind.i64 1))) (Option.some (K.o (K.o (K.i (K.o K.z))))) Gd.no [],
   .mk (mvR (X.t (K.o (K.o (K.i (K.o K.z)))))) (Option.some (K.o (K.i (K.o K.z)))) Gd.no []]))))
noncomputable def C42 : CC :=
  (.seq (.region [.mk (mvR (X.c (AV.int IntKind.i64 0))) (Option.some (K.i (K.o K.z))) Gd.no []])
  (.seq (.seq (.region [.mk (mvR (X.t K.z)) (Option.some (K.o (K.o (K.o K.z)))) Gd.no [],
   .mk (lenR LnK.slice (X.t (K.o (K.o (K.o K.z))))) (Option.some (K.i (K.o (K.o K.z)))) Gd.no [],
   .mk (mvR (X.c (AV.int IntKind.i64 0))) (Option.some (K.o (K.i (K.o K.z)))) Gd.no []])
  (.block 0 (.loop C42L0)))
  (.seq (.region [.mk (mvR (X.c (AV.int IntKind.i64 0))) (Option.some (K.i (K.o K.z))) Gd.no []])
  .ret)))
theorem C42ok : (match Try.f42.body with | some c => comp Try.prog 20 c | none => none) = some C42 := by kernel_rfl
@[go_sem] theorem call42 (args : List AV) (H : Heap) : callC Try.prog 42 args H = .call 42 args := callC_ok (by kernel_rfl) args H
theorem R42ok : resKs Try.prog Try.f42.results.toList = some [(RK.tmp (K.i (K.o K.z)))] := by kernel_rfl

/- 43: estuary/token.With -/
noncomputable def C43 : CC :=
  (.seq (.region [.mk (boxR Bool.false (X.t (K.o K.z))) (Option.some (K.o (K.o K.z))) Gd.no [],
   .mk (mvR (X.c AV.nils)) (Option.some (K.i (K.o K.z))) Gd.no []])
  (.seq (.seq (.region [.mk (mvR (X.t K.z)) (Option.some (K.i (K.o (K.o K.z)))) Gd.no [],
   .mk (callS Try.prog 39 [(X.t (K.i (K.o (K.o K.z))))]) (Option.some (K.o (K.i (K.o K.z)))) Gd.no [],
   .mk (unR UnOp.not (X.t (K.o (K.i (K.o K.z))))) (Option.some (K.i (K.i (K.o K.z)))) Gd.no []])
  (.cond (X.t (K.i (K.i (K.o K.z))))
  (.seq (.region [.mk (mvR (X.c AV.nils)) (Option.some (K.i (K.o K.z))) Gd.no []])
  .ret)
  .skip))
  (.seq (.region [.mk (mvR (X.t K.z)) (Option.some (K.o (K.o (K.i K.z)))) Gd.no [],
   .mk (callS Try.prog 60 [(X.t (K.o (K.o (K.i K.z))))]) (Option.some (K.i (K.o (K.i K.z)))) Gd.no [],
   .mk (mvR (X.t (K.i (K.o (K.i K.z))))) (Option.some (K.o (K.i K.z))) Gd.no []])
  (.seq (.region [.mk (mvR (X.t (K.o (K.i K.z)))) (Option.some (K.i (K.i (K.i K.z)))) Gd.no [],
   .mk (faR 0 (X.t (K.o (K.o K.z)))) (Option.some (K.o (K.o (K.o (K.o K.z))))) Gd.no [],
   .mk (ldR Bool.false 1 (X.t (K.o (K.o (K.o (K.o K.z)))))) (Option.some (K.i (K.o (K.o (K.o K.z))))) Gd.no [],
   .mk (callS Try.prog 61 [(X.t (K.i (K.i (K.i K.z)))), (X.t (K.i (K.o (K.o (K.o K.z)))))]) (Option.some (K.o (K.i (K.o (K.o K.z))))) Gd.no [],
   .mk (mvR (X.t (K.o (K.i (K.o (K.o K.z)))))) (Option.some (K.o (K.i (K.i K.z)))) Gd.no [],
   .mk (extR (X.t (K.o (K.i (K.i K.z)))) 0) (Option.some (K.i (K.i (K.o (K.o K.z))))) Gd.no [],
   .mk (extR (X.t (K.o (K.i (K.i K.z)))) 1) (Option.some (K.o (K.o (K.i (K.o K.z))))) Gd.no [],
   .mk (mvR (X.t (K.i (K.i (K.o (K.o K.z)))))) (Option.some (K.i (K.i K.z))) Gd.no [],
   .mk (mvR (X.t (K.o (K.o (K.i (K.o K.z)))))) (Option.some (K.o (K.o (K.o K.z)))) Gd.no []])
  (.seq (.seq (.region [.mk (mvR (X.t (K.o (K.o (K.o K.z))))) (Option.some (K.i (K.o (K.i (K.o K.z))))) Gd.no []])
  (.cond (X.t (K.i (K.o (K.i (K.o K.z)))))
  (.seq (.region [.mk (mvR (X.t (K.o (K.i K.z)))) (Option.some (K.o (K.i (K.i (K.o K.z))))) Gd.no [],
   .mk (mvR (X.t (K.i (K.i K.z)))) (Option.some (K.i (K.i (K.i (K.o K.z))))) Gd.no [],
   .mk (ldR Bool.true 2 (X.t (K.o (K.o K.z)))) (Option.some (K.o (K.o (K.o (K.i K.z))))) Gd.no [],
   .mk (iaS 2 (X.t (K.o (K.i (K.i (K.o K.z))))) (X.t (K.i (K.i (K.i (K.o K.z)))))) (Option.some (K.i (K.o (K.o (K.i K.z))))) Gd.no [],
   .mk (stR 2 (X.t (K.i (K.o (K.o (K.i K.z))))) (X.t (K.o (K.o (K.o (K.i K.z)))))) Option.none Gd.no []])
  (.seq (.region [.mk (mvR (X.t (K.o (K.i K.z)))) (Option.some (K.o (K.i (K.o (K.i K.z))))) Gd.no [],
   .mk (mvR (X.t (K.o (K.i (K.o (K.i K.z)))))) (Option.some (K.i (K.o K.z))) Gd.no []])
  .ret))
  .skip))
  (.seq (.region [.mk (mvR (X.t (K.o (K.i K.z)))) (Option.some (K.i (K.i (K.o (K.i K.z))))) Gd.no [],
   .mk (mvR (X.t (K.i (K.i K.z)))) (Option.some (K.o (K.o (K.i (K.i K.z))))) Gd.no [],
   .mk (ldR Bool.true 2 (X.t (K.o (K.o K.z)))) (Option.some (K.i (K.o (K.i (K.i K.z))))) Gd.no [],
   .mk (bslR 2 1 [(AV.str []), (AV.int IntKind.i64 0)] [(0, (X.t (K.i (K.o (K.i (K.i K.z))))))]) (Option.some (K.o (K.i (K.i (K.i K.z))))) Gd.no [],
   .mk (callS Try.prog 62 [(X.t (K.i (K.i (K.o (K.i K.z))))), (X.t (K.o (K.o (K.i (K.i K.z))))), (X.t (K.o (K.i (K.i (K.i K.z)))))]) (Option.some (K.i (K.i (K.i (K.i K.z))))) Gd.no [],
   .mk (mvR (X.t (K.i (K.i (K.i (K.i K.z)))))) (Option.some (K.i (K.o K.z))) Gd.no []])
  .ret))))))
theorem C43ok : (match Try.f43.body with | some c => comp Try.prog 31 c | none => none) = some C43 := by kernel_rfl
@[go_sem] theorem call43 (args : List AV) (H : Heap) : callC Try.prog 43 args H = .call 43 args := callC_ok (by kernel_rfl) args H
theorem R43ok : resKs Try.prog Try.f43.results.toList = some [(RK.tmp (K.i (K.o K.z)))] := by kernel_rfl

/- 44: estuary/token.In -/
noncomputable def C44L0 : CC :=
  (.seq (.region [.mk (binR Try.prog EK.no Option.none Bool.false BinOp.lss (X.t (K.i (K.i (K.o K.z)))) (X.t (K.o (K.i (K.o K.z))))) (Option.some (K.o (K.o (K.i K.z)))) Gd.no []])
  (.seq (.cond (X.t (K.o (K.o (K.i K.z))))
  .skip
  (.exit 0))
  (.seq (.block 1 (.seq (.region [.mk (iaS 2 (X.t (K.i (K.o (K.o K.z)))) (X.t (K.i (K.i (K.o K.z))))) (Option.some (K.i (K.o (K.i K.z)))) Gd.no [],
   .mk (ldR Bool.true 2 (X.t (K.i (K.o (K.i K.z))))) (Option.some (K.o (K.i (K.i K.z)))) Gd.no [],
   .mk (fun _ H => newC Bool.false [(AV.str []), (AV.int IntKind.i64 0)] H) (Option.some (K.o (K.o (K.o K.z)))) Gd.no [],
   .mk (stR 2 (X.t (K.o (K.o (K.o K.z)))) (X.t (K.o (K.i (K.i K.z))))) Option.none Gd.no []])
  (.seq (.region [.mk (ldR Bool.true 2 (X.t (K.o (K.o K.z)))) (Option.some (K.i (K.i (K.i K.z)))) Gd.no [],
   .mk (faR 0 (X.t (K.o (K.o (K.o K.z))))) (Option.some (K.o (K.o (K.o (K.o K.z))))) Gd.no [],
   .mk (ldR Bool.false 1 (X.t (K.o (K.o (K.o (K.o K.z)))))) (Option.some (K.i (K.o (K.o (K.o K.z))))) Gd.no [],
   .mk (callS Try.prog 49 [(X.t (K.i (K.i (K.i K.z)))), (X.t (K.i (K.o (K.o (K.o K.z)))))]) (Option.some (K.o (K.i (K.o (K.o K.z))))) Gd.no []])
  (.cond (X.t (K.o (K.i (K.o (K.o K.z)))))
  (.region [.mk (mvR (X.t (K.o (K.i K.z)))) (Option.some (K.i (K.i (K.o (K.o K.z))))) Gd.no [],
   .mk (ldR Bool.true 2 (X.t (K.o (K.o (K.o K.z))))) (Option.some (K.o (K.o (K.i (K.o K.z))))) Gd.no [],
   .mk (bslR 2 1 [(AV.str []), (AV.int IntKind.i64 0)] [(0, (X.t (K.o (K.o (K.i (K.o K.z))))))]) (Option.some (K.i (K.o (K.i (K.o K.z))))) Gd.no [],
   .mk (appR 2 24 (X.t (K.i (K.i (K.o (K.o K.z))))) (X.t (K.i (K.o (K.i (K.o K.z)))))) (Option.some (K.o (K.i (K.i (K.o K.z))))) Gd.no [],
   .mk (mvR (X.t (K.o (K.i (K.i (K.o K.z)))))) (Option.some (K.o (K.i K.z))) Gd.no []])
  .skip))))
  (.region [.mk (binR Try.prog EK.no Option.none Bool.true BinOp.add (X.t (K.i (K.i (K.o K.z)))) (X.c (AV.int IntKind.i64 1))) (Option.some (K.i (K.i (K.i (K.o K.z))))) Gd.no [],
   .mk (mvR (X.t (K.i (K.i (K.i (K.o K.z)))))) (Option.some (K.i (K.i (K.o K.z)))) Gd.no []]))))
noncomputable def C44 : CC :=
  (.seq (.region [.mk (boxR Bool.false (X.t (K.o K.z))) (Option.some (K.o (K.o K.z))) Gd.no [],
   .mk (mvR (X.c AV.nils)) (Option.some (K.i (K.o K.z))) Gd.no []])
  (.seq (.region [.mk (mvR (X.c AV.nils)) (Option.some (K.o (K.i K.z))) Gd.no []])
  (.seq (.seq (.region [.mk (mvR (X.t K.z)) (Option.some (K.i (K.o (K.o K.z)))) Gd.no [],
   .mk (lenR LnK.slice (X.t (K.i (K.o (K.o K.z))))) (Option.some (K.o (K.i (K.o K.z)))) Gd.no [],
   .mk (mvR (X.c (AV.int IntKind.i64 0))) (Option.some (K.i (K.i (K.o K.z)))) Gd.no []])
  (.block 0 (.loop C44L0)))
  (.seq (.region [.mk (mvR (X.t (K.o (K.i K.z)))) (Option.some (K.o (K.o (K.o (K.i K.z))))) Gd.no [],
   .mk (mvR (X.t (K.o (K.o (K.o (K.i K.z)))))) (Option.some (K.i (K.o K.z))) Gd.no []])
  .ret))))
theorem C44ok : (match Try.f44.body with | some c => comp Try.prog 24 c | none => none) = some C44 := by kernel_rfl
@[go_sem] theorem call44 (args : List AV) (H : Heap) : callC Try.prog 44 args H = .call 44 args := callC_ok (by kernel_rfl) args H
theorem R44ok : resKs Try.prog Try.f44.results.toList = some [(RK.tmp (K.i (K.o K.z)))] := by kernel_rfl

/- 61: estuary/token.find -/
noncomputable def C61 : CC :=
  (.seq (.region [.mk (mvR (X.c (AV.int IntKind.i64 0))) (Option.some (K.i (K.o K.z))) Gd.no [],
   .mk (mvR (X.c (AV.bool Bool.false))) (Option.some (K.o (K.i K.z))) Gd.no []])
  (.seq (.region [.mk (mvR (X.t K.z)) (Option.some (K.i (K.i K.z))) Gd.no [],
   .mk (mvR (X.t (K.o K.z))) (Option.some (K.o (K.o (K.o K.z)))) Gd.no [],
   .mk (callS Try.prog 73 [(X.t (K.i (K.i K.z))), (X.t (K.o (K.o (K.o K.z)))), (X.c (AV.fn (Fn.func 74) [] []))]) (Option.some (K.i (K.o (K.o K.z)))) Gd.no [],
   .mk (extR (X.t (K.i (K.o (K.o K.z)))) 0) (Option.some (K.o (K.i (K.o K.z)))) Gd.no [],
   .mk (extR (X.t (K.i (K.o (K.o K.z)))) 1) (Option.some (K.i (K.i (K.o K.z)))) Gd.no [],
   .mk (mvR (X.t (K.o (K.i (K.o K.z))))) (Option.some (K.i (K.o K.z))) Gd.no [],
   .mk (mvR (X.t (K.i (K.i (K.o K.z))))) (Option.some (K.o (K.i K.z))) Gd.no []])
  .ret))
theorem C61ok : (match Try.f61.body with | some c => comp Try.prog 11 c | none => none) = some C61 := by kernel_rfl
@[go_sem] theorem call61 (args : List AV) (H : Heap) : callC Try.prog 61 args H = .call 61 args := callC_ok (by kernel_rfl) args H
theorem R61ok : resKs Try.prog Try.f61.results.toList = some [(RK.tmp (K.i (K.o K.z))), (RK.tmp (K.o (K.i K.z)))] := by kernel_rfl

/- 73: slices.BinarySearchFunc[[]estuary/api.Seen,estuary/api.Seen,string] -/
noncomputable def C73L0 : CC :=
  (.seq (.seq (.region [.mk (mvR (X.t (K.o (K.i (K.o K.z))))) (Option.some (K.o (K.o (K.o (K.o K.z))))) Gd.no [],
   .mk (mvR (X.t (K.i (K.i (K.o K.z))))) (Option.some (K.i (K.o (K.o (K.o K.z))))) Gd.no [],
   .mk (binR Try.prog EK.no Option.none Bool.false BinOp.lss (X.t (K.o (K.o (K.o (K.o K.z))))) (X.t (K.i (K.o (K.o (K.o K.z)))))) (Option.some (K.o (K.i (K.o (K.o K.z))))) Gd.no []])
  (.cond (X.t (K.o (K.i (K.o (K.o K.z)))))
  .skip
  (.exit 0)))
  (.block 1 (.seq (.region [.mk (mvR (X.t (K.o (K.i (K.o K.z))))) (Option.some (K.i (K.i (K.o (K.o K.z))))) Gd.no [],
   .mk (mvR (X.t (K.i (K.i (K.o K.z))))) (Option.some (K.o (K.o (K.i (K.o K.z))))) Gd.no [],
   .mk (binR Try.prog EK.no Option.none Bool.false BinOp.add (X.t (K.i (K.i (K.o (K.o K.z))))) (X.t (K.o (K.o (K.i (K.o K.z)))))) (Option.some (K.i (K.o (K.i (K.o K.z))))) Gd.no [],
   .mk (convR (Cv.int IntKind.u64) (X.t (K.i (K.o (K.i (K.o K.z)))))) (Option.some (K.o (K.i (K.i (K.o K.z))))) Gd.no [],
   .mk (binR Try.prog EK.no Option.none Bool.true BinOp.shr (X.t (K.o (K.i (K.i (K.o K.z))))) (X.c (AV.int IntKind.u64 1))) (Option.some (K.i (K.i (K.i (K.o K.z))))) Gd.no [],
   .mk (convR (Cv.int IntKind.i64) (X.t (K.i (K.i (K.i (K.o K.z)))))) (Option.some (K.o (K.o (K.o (K.i K.z))))) Gd.no [],
   .mk (mvR (X.t (K.o (K.o (K.o (K.i K.z)))))) (Option.some (K.o (K.o (K.i K.z)))) Gd.no []])
  (.seq (.region [.mk (mvR (X.t (K.i K.z))) (Option.some (K.i (K.o (K.o (K.i K.z))))) Gd.no [],
   .mk (mvR (X.t K.z)) (Option.some (K.o (K.i (K.o (K.i K.z))))) Gd.no [],
   .mk (mvR (X.t (K.o (K.o (K.i K.z))))) (Option.some (K.i (K.i (K.o (K.i K.z))))) Gd.no [],
   .mk (iaS 2 (X.t (K.o (K.i (K.o (K.i K.z))))) (X.t (K.i (K.i (K.o (K.i K.z)))))) (Option.some (K.o (K.o (K.i (K.i K.z))))) Gd.no [],
   .mk (ldR Bool.true 2 (X.t (K.o (K.o (K.i (K.i K.z)))))) (Option.some (K.i (K.o (K.i (K.i K.z))))) Gd.no [],
   .mk (mvR (X.t (K.o K.z))) (Option.some (K.o (K.i (K.i (K.i K.z))))) Gd.no [],
   .mk (callX Try.prog (X.t (K.i (K.o (K.o (K.i K.z))))) [(X.t (K.i (K.o (K.i (K.i K.z))))), (X.t (K.o (K.i (K.i (K.i K.z)))))]) (Option.some (K.i (K.i (K.i (K.i K.z))))) Gd.no [],
   .mk (binR Try.prog EK.no Option.none Bool.true BinOp.lss (X.t (K.i (K.i (K.i (K.i K.z))))) (X.c (AV.int IntKind.i64 0))) (Option.some (K.o (K.o (K.o (K.o (K.o K.z)))))) Gd.no []])
  (.cond (X.t (K.o (K.o (K.o (K.o (K.o K.z))))))
  (.region [.mk (mvR (X.t (K.o (K.o (K.i K.z))))) (Option.some (K.i (K.o (K.o (K.o (K.o K.z)))))) Gd.no [],
   .mk (binR Try.prog EK.no Option.none Bool.true BinOp.add (X.t (K.i (K.o (K.o (K.o (K.o K.z)))))) (X.c (AV.int IntKind.i64 1))) (Option.some (K.o (K.i (K.o (K.o (K.o K.z)))))) Gd.no [],
   .mk (mvR (X.t (K.o (K.i (K.o (K.o (K.o K.z))))))) (Option.some (K.o (K.i (K.o K.z)))) Gd.no []])
  (.region [.mk (mvR (X.t (K.o (K.o (K.i K.z))))) (Option.some (K.i (K.i (K.o (K.o (K.o K.z)))))) Gd.no [],
   .mk (mvR (X.t (K.i (K.i (K.o (K.o (K.o K.z))))))) (Option.some (K.i (K.i (K.o K.z)))) Gd.no []]))))))
noncomputable def C73 : CC :=
  (.seq (.region [.mk (mvR (X.c (AV.int IntKind.i64 0))) (Option.some (K.i (K.i K.z))) Gd.no [],
   .mk (mvR (X.c (AV.bool Bool.false))) (Option.some (K.o (K.o (K.o K.z)))) Gd.no []])
  (.seq (.region [.mk (mvR (X.t K.z)) (Option.some (K.i (K.o (K.i K.z)))) Gd.no [],
   .mk (lenR LnK.slice (X.t (K.i (K.o (K.i K.z))))) (Option.some (K.o (K.i (K.i K.z)))) Gd.no [],
   .mk (mvR (X.t (K.o (K.i (K.i K.z))))) (Option.some (K.i (K.o (K.o K.z)))) Gd.no []])
  (.seq (.region [.mk (mvR (X.t (K.i (K.o (K.o K.z))))) (Option.some (K.i (K.i (K.i K.z)))) Gd.no [],
   .mk (mvR (X.c (AV.int IntKind.i64 0))) (Option.some (K.o (K.i (K.o K.z)))) Gd.no [],
   .mk (mvR (X.t (K.i (K.i (K.i K.z))))) (Option.some (K.i (K.i (K.o K.z)))) Gd.no []])
  (.seq (.block 0 (.loop C73L0))
  (.seq (.region [.mk (mvR (X.t (K.o (K.i (K.o K.z))))) (Option.some (K.o (K.o (K.i (K.o (K.o K.z)))))) Gd.no [],
   .mk (mvR (X.t (K.o (K.i (K.o K.z))))) (Option.some (K.i (K.o (K.i (K.o (K.o K.z)))))) Gd.no [],
   .mk (mvR (X.t (K.i (K.o (K.o K.z))))) (Option.some (K.o (K.i (K.i (K.o (K.o K.z)))))) Gd.no [],
   .mk (binR Try.prog EK.no Option.none Bool.false BinOp.lss (X.t (K.i (K.o (K.i (K.o (K.o K.z)))))) (X.t (K.o (K.i (K.i (K.o (K.o K.z))))))) (Option.some (K.i (K.i (K.i (K.o (K.o K.z)))))) Gd.no [],
   .mk (mvR (X.t (K.i (K.i (K.i (K.o (K.o K.z))))))) (Option.some (K.o (K.o (K.o (K.i (K.o K.z)))))) Gd.no [],
   .mk (mvR (X.t (K.i K.z))) (Option.some (K.i (K.o (K.o (K.i (K.o K.z)))))) (Gd.on (K.o (K.o (K.o (K.i (K.o K.z))))) Bool.true) [],
   .mk (mvR (X.t K.z)) (Option.some (K.o (K.i (K.o (K.i (K.o K.z)))))) (Gd.on (K.o (K.o (K.o (K.i (K.o K.z))))) Bool.true) [],
   .mk (mvR (X.t (K.o (K.i (K.o K.z))))) (Option.some (K.i (K.i (K.o (K.i (K.o K.z)))))) (Gd.on (K.o (K.o (K.o (K.i (K.o K.z))))) Bool.true) [],
   .mk (iaS 2 (X.t (K.o (K.i (K.o (K.i (K.o K.z)))))) (X.t (K.i (K.i (K.o (K.i (K.o K.z))))))) (Option.some (K.o (K.o (K.i (K.i (K.o K.z)))))) (Gd.on (K.o (K.o (K.o (K.i (K.o K.z))))) Bool.true) [],
   .mk (ldR Bool.true 2 (X.t (K.o (K.o (K.i (K.i (K.o K.z))))))) (Option.some (K.i (K.o (K.i (K.i (K.o K.z)))))) (Gd.on (K.o (K.o (K.o (K.i (K.o K.z))))) Bool.true) [],
   .mk (mvR (X.t (K.o K.z))) (Option.some (K.o (K.i (K.i (K.i (K.o K.z)))))) (Gd.on (K.o (K.o (K.o (K.i (K.o K.z))))) Bool.true) [],
   .mk (callX Try.prog (X.t (K.i (K.o (K.o (K.i (K.o K.z)))))) [(X.t (K.i (K.o (K.i (K.i (K.o K.z)))))), (X.t (K.o (K.i (K.i (K.i (K.o K.z))))))]) (Option.some (K.i (K.i (K.i (K.i (K.o K.z)))))) (Gd.on (K.o (K.o (K.o (K.i (K.o K.z))))) Bool.true) [],
   .mk (binR Try.prog EK.no Option.none Bool.true BinOp.eql (X.t (K.i (K.i (K.i (K.i (K.o K.z)))))) (X.c (AV.int IntKind.i64 0))) (Option.some (K.o (K.o (K.o (K.o (K.i K.z)))))) (Gd.on (K.o (K.o (K.o (K.i (K.o K.z))))) Bool.true) [],
   .mk (pickR (X.t (K.o (K.o (K.o (K.i (K.o K.z)))))) (X.t (K.o (K.o (K.o (K.o (K.i K.z)))))) (X.c (AV.bool Bool.false))) (Option.some (K.i (K.o (K.o (K.o (K.i K.z)))))) Gd.no [],
   .mk (mvR (X.t (K.o (K.o (K.i (K.o (K.o K.z))))))) (Option.some (K.i (K.i K.z))) Gd.no [],
   .mk (mvR (X.t (K.i (K.o (K.o (K.o (K.i K.z))))))) (Option.some (K.o (K.o (K.o K.z)))) Gd.no []])
  .ret)))))
theorem C73ok : (match Try.f73.body with | some c => comp Try.prog 49 c | none => none) = some C73 := by kernel_rfl
@[go_sem] theorem call73 (args : List AV) (H : Heap) : callC Try.prog 73 args H = .call 73 args := callC_ok (by kernel_rfl) args H
theorem R73ok : resKs Try.prog Try.f73.results.toList = some [(RK.tmp (K.i (K.i K.z))), (RK.tmp (K.o (K.o (K.o K.z))))] := by kernel_rfl

/- 74: estuary/token.find$1 -/
noncomputable def C74 : CC :=
  (.seq (.region [.mk (boxR Bool.false (X.t K.z)) (Option.some (K.i K.z)) Gd.no [],
   .mk (mvR (X.c (AV.int IntKind.i64 0))) (Option.some (K.i (K.o K.z))) Gd.no []])
  (.seq (.region [.mk (faR 0 (X.t (K.i K.z))) (Option.some (K.o (K.i K.z))) Gd.no [],
   .mk (ldR Bool.false 1 (X.t (K.o (K.i K.z)))) (Option.some (K.i (K.i K.z))) Gd.no [],
   .mk (mvR (X.t (K.o K.z))) (Option.some (K.o (K.o (K.o K.z)))) Gd.no [],
   .mk (callS Try.prog 75 [(X.t (K.i (K.i K.z))), (X.t (K.o (K.o (K.o K.z))))]) (Option.some (K.i (K.o (K.o K.z)))) Gd.no [],
   .mk (mvR (X.t (K.i (K.o (K.o K.z))))) (Option.some (K.i (K.o K.z))) Gd.no []])
  .ret))
theorem C74ok : (match Try.f74.body with | some c => comp Try.prog 9 c | none => none) = some C74 := by kernel_rfl
@[go_sem] theorem call74 (args : List AV) (H : Heap) : callC Try.prog 74 args H = .call 74 args := callC_ok (by kernel_rfl) args H
theorem R74ok : resKs Try.prog Try.f74.results.toList = some [(RK.tmp (K.i (K.o K.z)))] := by kernel_rfl

/- 75: cmp.Compare[string] -/
noncomputable def C75 : CC :=
  (.seq (.region [.mk (mvR (X.c (AV.int IntKind.i64 0))) (Option.some (K.i (K.o K.z))) Gd.no []])
  (.seq (.region [.mk (mvR (X.t K.z)) (Option.some (K.o (K.o (K.o K.z)))) Gd.no [],
   .mk (callS Try.prog 82 [(X.t (K.o (K.o (K.o K.z))))]) (Option.some (K.i (K.o (K.o K.z)))) Gd.no [],
   .mk (mvR (X.t (K.i (K.o (K.o K.z))))) (Option.some (K.o (K.i K.z))) Gd.no []])
  (.seq (.region [.mk (mvR (X.t (K.o K.z))) (Option.some (K.o (K.i (K.o K.z)))) Gd.no [],
   .mk (callS Try.prog 82 [(X.t (K.o (K.i (K.o K.z))))]) (Option.some (K.i (K.i (K.o K.z)))) Gd.no [],
   .mk (mvR (X.t (K.i (K.i (K.o K.z))))) (Option.some (K.i (K.i K.z))) Gd.no []])
  (.seq (.seq (.region [.mk (mvR (X.t (K.o (K.i K.z)))) (Option.some (K.o (K.o (K.i K.z)))) Gd.no []])
  (.cond (X.t (K.o (K.o (K.i K.z))))
  (.seq (.seq (.region [.mk (mvR (X.t (K.i (K.i K.z)))) (Option.some (K.i (K.o (K.i K.z)))) Gd.no []])
  (.cond (X.t (K.i (K.o (K.i K.z))))
  (.seq (.region [.mk (mvR (X.c (AV.int IntKind.i64 0))) (Option.some (K.i (K.o K.z))) Gd.no []])
  .ret)
  .skip))
  (.seq (.region [.mk (mvR (X.c (AV.int IntKind.i64 (-1)))) (Option.some (K.i (K.o K.z))) Gd.no []])
  .ret))
  .skip))
  (.seq (.seq (.region [.mk (mvR (X.t (K.i (K.i K.z)))) (Option.some (K.o (K.i (K.i K.z)))) Gd.no []])
  (.cond (X.t (K.o (K.i (K.i K.z))))
  (.seq (.region [.mk (mvR (X.c (AV.int IntKind.i64 1))) (Option.some (K.i (K.o K.z))) Gd.no []])
  .ret)
  .skip))
  (.seq (.seq (.region [.mk (mvR (X.t K.z)) (Option.some (K.i (K.i (K.i K.z)))) Gd.no [],
   .mk (mvR (X.t (K.o K.z))) (Option.some (K.o (K.o (K.o (K.o K.z))))) Gd.no [],
   .mk (binR Try.prog EK.no Option.none Bool.false BinOp.lss (X.t (K.i (K.i (K.i K.z)))) (X.t (K.o (K.o (K.o (K.o K.z)))))) (Option.some (K.i (K.o (K.o (K.o K.z))))) Gd.no []])
  (.cond (X.t (K.i (K.o (K.o (K.o K.z)))))
  (.seq (.region [.mk (mvR (X.c (AV.int IntKind.i64 (-1)))) (Option.some (K.i (K.o K.z))) Gd.no []])
  .ret)
  .skip))
  (.seq (.seq (.region [.mk (mvR (X.t K.z)) (Option.some (K.o (K.i (K.o (K.o K.z))))) Gd.no [],
   .mk (mvR (X.t (K.o K.z))) (Option.some (K.i (K.i (K.o (K.o K.z))))) Gd.no [],
   .mk (binR Try.prog EK.no Option.none Bool.false BinOp.gtr (X.t (K.o (K.i (K.o (K.o K.z))))) (X.t (K.i (K.i (K.o (K.o K.z)))))) (Option.some (K.o (K.o (K.i (K.o K.z))))) Gd.no []])
  (.cond (X.t (K.o (K.o (K.i (K.o K.z)))))
  (.seq (.region [.mk (mvR (X.c (AV.int IntKind.i64 1))) (Option.some (K.i (K.o K.z))) Gd.no []])
  .ret)
  .skip))
  (.seq (.region [.mk (mvR (X.c (AV.int IntKind.i64 0))) (Option.some (K.i (K.o K.z))) Gd.no []])
  .ret))))))))
theorem C75ok : (match Try.f75.body with | some c => comp Try.prog 20 c | none => none) = some C75 := by kernel_rfl
@[go_sem] theorem call75 (args : List AV) (H : Heap) : callC Try.prog 75 args H = .call 75 args := callC_ok (by kernel_rfl) args H
theorem R75ok : resKs Try.prog Try.f75.results.toList = some [(RK.tmp (K.i (K.o K.z)))] := by kernel_rfl

-- 76: no body

/- 82: cmp.isNaN[string] -/
noncomputable def C82 : CC :=
  (.seq (.region [.mk (mvR (X.c (AV.bool Bool.false))) (Option.some (K.i K.z)) Gd.no []])
  (.seq (.region [.mk (mvR (X.t K.z)) (Option.some (K.o (K.o K.z))) Gd.no [],
   .mk (mvR (X.t K.z)) (Option.some (K.i (K.o K.z))) Gd.no [],
   .mk (binR Try.prog EK.no Option.none Bool.false BinOp.neq (X.t (K.o (K.o K.z))) (X.t (K.i (K.o K.z)))) (Option.some (K.o (K.i K.z))) Gd.no [],
   .mk (mvR (X.t (K.o (K.i K.z)))) (Option.some (K.i K.z)) Gd.no []])
  .ret))
theorem C82ok : (match Try.f82.body with | some c => comp Try.prog 6 c | none => none) = some C82 := by kernel_rfl
@[go_sem] theorem call82 (args : List AV) (H : Heap) : callC Try.prog 82 args H = .call 82 args := callC_ok (by kernel_rfl) args H
theorem R82ok : resKs Try.prog Try.f82.results.toList = some [(RK.tmp (K.i K.z))] := by kernel_rfl

/- 9: estuary/estuarylaw2.TokenBest -/
noncomputable def C9 : CC :=
  (.seq (.region [.mk (mvR (X.c (AV.bool Bool.false))) (Option.some (K.i (K.i K.z))) Gd.no []])
  (.seq (.seq (.region [.mk (callS Try.prog 37 []) (Option.some (K.o (K.i (K.o K.z)))) Gd.no [],
   .mk (unR UnOp.not (X.t (K.o (K.i (K.o K.z))))) (Option.some (K.i (K.i (K.o K.z)))) Gd.no []])
  (.cond (X.t (K.i (K.i (K.o K.z))))
  (.seq (.region [.mk (mvR (X.c (AV.bool Bool.false))) (Option.some (K.i (K.i K.z))) Gd.no []])
  .ret)
  .skip))
  (.seq (.seq (.region [.mk (mvR (X.t K.z)) (Option.some (K.o (K.o (K.i K.z)))) Gd.no [],
   .mk (callS Try.prog 38 [(X.t (K.o (K.o (K.i K.z))))]) (Option.some (K.i (K.o (K.i K.z)))) Gd.no [],
   .mk (unR UnOp.not (X.t (K.i (K.o (K.i K.z))))) (Option.some (K.o (K.i (K.i K.z)))) Gd.no [],
   .mk (mvR (X.t (K.o (K.i (K.i K.z))))) (Option.some (K.i (K.i (K.i K.z)))) Gd.no [],
   .mk (mvR (X.t (K.o K.z))) (Option.some (K.o (K.o (K.o (K.o K.z))))) (Gd.on (K.i (K.i (K.i K.z))) Bool.false) [],
   .mk (callS Try.prog 38 [(X.t (K.o (K.o (K.o (K.o K.z)))))]) (Option.some (K.i (K.o (K.o (K.o K.z))))) (Gd.on (K.i (K.i (K.i K.z))) Bool.false) [],
   .mk (unR UnOp.not (X.t (K.i (K.o (K.o (K.o K.z)))))) (Option.some (K.o (K.i (K.o (K.o K.z))))) (Gd.on (K.i (K.i (K.i K.z))) Bool.false) [],
   .mk (pickR (X.t (K.i (K.i (K.i K.z)))) (X.c (AV.bool Bool.true)) (X.t (K.o (K.i (K.o (K.o K.z)))))) (Option.some (K.i (K.i (K.o (K.o K.z))))) Gd.no [],
   .mk (mvR (X.t (K.i (K.i (K.o (K.o K.z)))))) (Option.some (K.o (K.o (K.i (K.o K.z))))) Gd.no [],
   .mk (mvR (X.t K.z)) (Option.some (K.i (K.o (K.i (K.o K.z))))) (Gd.on (K.o (K.o (K.i (K.o K.z)))) Bool.false) [],
   .mk (callS Try.prog 39 [(X.t (K.i (K.o (K.i (K.o K.z)))))]) (Option.some (K.o (K.i (K.i (K.o K.z))))) (Gd.on (K.o (K.o (K.i (K.o K.z)))) Bool.false) [],
   .mk (unR UnOp.not (X.t (K.o (K.i (K.i (K.o K.z)))))) (Option.some (K.i (K.i (K.i (K.o K.z))))) (Gd.on (K.o (K.o (K.i (K.o K.z)))) Bool.false) [],
   .mk (pickR (X.t (K.o (K.o (K.i (K.o K.z))))) (X.c (AV.bool Bool.true)) (X.t (K.i (K.i (K.i (K.o K.z)))))) (Option.some (K.o (K.o (K.o (K.i K.z))))) Gd.no [],
   .mk (mvR (X.t (K.o (K.o (K.o (K.i K.z)))))) (Option.some (K.i (K.o (K.o (K.i K.z))))) Gd.no [],
   .mk (mvR (X.t (K.o K.z))) (Option.some (K.o (K.i (K.o (K.i K.z))))) (Gd.on (K.i (K.o (K.o (K.i K.z)))) Bool.false) [],
   .mk (callS Try.prog 39 [(X.t (K.o (K.i (K.o (K.i K.z)))))]) (Option.some (K.i (K.i (K.o (K.i K.z))))) (Gd.on (K.i (K.o (K.o (K.i K.z)))) Bool.false) [],
   .mk (unR UnOp.not (X.t (K.i (K.i (K.o (K.i K.z)))))) (Option.some (K.o (K.o (K.i (K.i K.z))))) (Gd.on (K.i (K.o (K.o (K.i K.z)))) Bool.false) [],
   .mk (pickR (X.t (K.i (K.o (K.o (K.i K.z))))) (X.c (AV.bool Bool.true)) (X.t (K.o (K.o (K.i (K.i K.z)))))) (Option.some (K.i (K.o (K.i (K.i K.z))))) Gd.no [],
   .mk (mvR (X.t (K.i (K.o (K.i (K.i K.z)))))) (Option.some (K.o (K.i (K.i (K.i K.z))))) Gd.no [],
   .mk (mvR (X.t (K.i K.z))) (Option.some (K.i (K.i (K.i (K.i K.z))))) (Gd.on (K.o (K.i (K.i (K.i K.z)))) Bool.false) [],
   .mk (lenR LnK.str (X.t (K.i (K.i (K.i (K.i K.z)))))) (Option.some (K.o (K.o (K.o (K.o (K.o K.z)))))) (Gd.on (K.o (K.i (K.i (K.i K.z)))) Bool.false) [],
   .mk (binR Try.prog EK.no Option.none Bool.true BinOp.gtr (X.t (K.o (K.o (K.o (K.o (K.o K.z)))))) (X.c (AV.int IntKind.i64 20))) (Option.some (K.i (K.o (K.o (K.o (K.o K.z)))))) (Gd.on (K.o (K.i (K.i (K.i K.z)))) Bool.false) [],
   .mk (pickR (X.t (K.o (K.i (K.i (K.i K.z))))) (X.c (AV.bool Bool.true)) (X.t (K.i (K.o (K.o (K.o (K.o K.z))))))) (Option.some (K.o (K.i (K.o (K.o (K.o K.z)))))) Gd.no []])
  (.cond (X.t (K.o (K.i (K.o (K.o (K.o K.z))))))
  (.seq (.region [.mk (mvR (X.c (AV.bool Bool.true))) (Option.some (K.i (K.i K.z))) Gd.no []])
  .ret)
  .skip))
  (.seq (.region [.mk (mvR (X.t K.z)) (Option.some (K.i (K.i (K.o (K.o (K.o K.z)))))) Gd.no [],
   .mk (mvR (X.t (K.o K.z))) (Option.some (K.o (K.o (K.i (K.o (K.o K.z)))))) Gd.no [],
   .mk (callS Try.prog 40 [(X.t (K.i (K.i (K.o (K.o (K.o K.z)))))), (X.t (K.o (K.o (K.i (K.o (K.o K.z))))))]) (Option.some (K.i (K.o (K.i (K.o (K.o K.z)))))) Gd.no [],
   .mk (mvR (X.t (K.o K.z))) (Option.some (K.o (K.i (K.i (K.o (K.o K.z)))))) Gd.no [],
   .mk (mvR (X.t K.z)) (Option.some (K.i (K.i (K.i (K.o (K.o K.z)))))) Gd.no [],
   .mk (callS Try.prog 40 [(X.t (K.o (K.i (K.i (K.o (K.o K.z)))))), (X.t (K.i (K.i (K.i (K.o (K.o K.z))))))]) (Option.some (K.o (K.o (K.o (K.i (K.o K.z)))))) Gd.no [],
   .mk (mvR (X.t (K.i (K.o (K.i (K.o (K.o K.z))))))) (Option.some (K.o (K.o (K.o K.z)))) Gd.no [],
   .mk (mvR (X.t (K.o (K.o (K.o (K.i (K.o K.z))))))) (Option.some (K.i (K.o (K.o K.z)))) Gd.no []])
  (.seq (.region [.mk (mvR (X.t (K.o (K.o (K.o K.z))))) (Option.some (K.i (K.o (K.o (K.i (K.o K.z)))))) Gd.no [],
   .mk (callS Try.prog 39 [(X.t (K.i (K.o (K.o (K.i (K.o K.z))))))]) (Option.some (K.o (K.i (K.o (K.i (K.o K.z)))))) Gd.no [],
   .mk (mvR (X.t (K.o (K.i (K.o (K.i (K.o K.z))))))) (Option.some (K.i (K.i (K.o (K.i (K.o K.z)))))) Gd.no [],
   .mk (mvR (X.t (K.o (K.o (K.o K.z))))) (Option.some (K.o (K.o (K.i (K.i (K.o K.z)))))) (Gd.on (K.i (K.i (K.o (K.i (K.o K.z))))) Bool.true) [],
   .mk (mvR (X.t (K.i (K.o (K.o K.z))))) (Option.some (K.i (K.o (K.i (K.i (K.o K.z)))))) (Gd.on (K.i (K.i (K.o (K.i (K.o K.z))))) Bool.true) [],
   .mk (callS Try.prog 41 [(X.t (K.o (K.o (K.i (K.i (K.o K.z)))))), (X.t (K.i (K.o (K.i (K.i (K.o K.z))))))]) (Option.some (K.o (K.i (K.i (K.i (K.o K.z)))))) (Gd.on (K.i (K.i (K.o (K.i (K.o K.z))))) Bool.true) [],
   .mk (pickR (X.t (K.i (K.i (K.o (K.i (K.o K.z)))))) (X.t (K.o (K.i (K.i (K.i (K.o K.z)))))) (X.c (AV.bool Bool.false))) (Option.some (K.i (K.i (K.i (K.i (K.o K.z)))))) Gd.no [],
   .mk (mvR (X.t (K.i (K.i (K.i (K.i (K.o K.z))))))) (Option.some (K.o (K.o (K.o (K.o (K.i K.z)))))) Gd.no [],
   .mk (mvR (X.t (K.o (K.o (K.o K.z))))) (Option.some (K.i (K.o (K.o (K.o (K.i K.z)))))) (Gd.on (K.o (K.o (K.o (K.o (K.i K.z))))) Bool.true) [],
   .mk (mvR (X.t (K.i K.z))) (Option.some (K.o (K.i (K.o (K.o (K.i K.z)))))) (Gd.on (K.o (K.o (K.o (K.o (K.i K.z))))) Bool.true) [],
   .mk (callS Try.prog 42 [(X.t (K.i (K.o (K.o (K.o (K.i K.z)))))), (X.t (K.o (K.i (K.o (K.o (K.i K.z))))))]) (Option.some (K.i (K.i (K.o (K.o (K.i K.z)))))) (Gd.on (K.o (K.o (K.o (K.o (K.i K.z))))) Bool.true) [],
   .mk (mvR (X.t K.z)) (Option.some (K.o (K.o (K.i (K.o (K.i K.z)))))) (Gd.on (K.o (K.o (K.o (K.o (K.i K.z))))) Bool.true) [],
   .mk (mvR (X.t (K.i K.z))) (Option.some (K.i (K.o (K.i (K.o (K.i K.z)))))) (Gd.on (K.o (K.o (K.o (K.o (K.i K.z))))) Bool.true) [],
   .mk (callS Try.prog 42 [(X.t (K.o (K.o (K.i (K.o (K.i K.z)))))), (X.t (K.i (K.o (K.i (K.o (K.i K.z))))))]) (Option.some (K.o (K.i (K.i (K.o (K.i K.z)))))) (Gd.on (K.o (K.o (K.o (K.o (K.i K.z))))) Bool.true) [],
   .mk (mvR (X.t (K.o K.z))) (Option.some (K.i (K.i (K.i (K.o (K.i K.z)))))) (Gd.on (K.o (K.o (K.o (K.o (K.i K.z))))) Bool.true) [],
   .mk (mvR (X.t (K.i K.z))) (Option.some (K.o (K.o (K.o (K.i (K.i K.z)))))) (Gd.on (K.o (K.o (K.o (K.o (K.i K.z))))) Bool.true) [],
   .mk (callS Try.prog 42 [(X.t (K.i (K.i (K.i (K.o (K.i K.z)))))), (X.t (K.o (K.o (K.o (K.i (K.i K.z))))))]) (Option.some (K.i (K.o (K.o (K.i (K.i K.z)))))) (Gd.on (K.o (K.o (K.o (K.o (K.i K.z))))) Bool.true) [],
   .mk (mmR Bool.true (X.t (K.o (K.i (K.i (K.o (K.i K.z)))))) (X.t (K.i (K.o (K.o (K.i (K.i K.z))))))) (Option.some (K.o (K.i (K.o (K.i (K.i K.z)))))) (Gd.on (K.o (K.o (K.o (K.o (K.i K.z))))) Bool.true) [],
   .mk (binR Try.prog EK.no Option.none Bool.false BinOp.eql (X.t (K.i (K.i (K.o (K.o (K.i K.z)))))) (X.t (K.o (K.i (K.o (K.i (K.i K.z))))))) (Option.some (K.i (K.i (K.o (K.i (K.i K.z)))))) (Gd.on (K.o (K.o (K.o (K.o (K.i K.z))))) Bool.true) [],
   .mk (pickR (X.t (K.o (K.o (K.o (K.o (K.i K.z)))))) (X.t (K.i (K.i (K.o (K.i (K.i K.z)))))) (X.c (AV.bool Bool.false))) (Option.some (K.o (K.o (K.i (K.i (K.i K.z)))))) Gd.no [],
   .mk (mvR (X.t (K.o (K.o (K.i (K.i (K.i K.z))))))) (Option.some (K.i (K.o (K.i (K.i (K.i K.z)))))) Gd.no [],
   .mk (mvR (X.t (K.o (K.o (K.o K.z))))) (Option.some (K.o (K.i (K.i (K.i (K.i K.z)))))) (Gd.on (K.i (K.o (K.i (K.i (K.i K.z))))) Bool.true) [],
   .mk (mvR (X.t K.z)) (Option.some (K.i (K.i (K.i (K.i (K.i K.z)))))) (Gd.on (K.i (K.o (K.i (K.i (K.i K.z))))) Bool.true) [],
   .mk (callS Try.prog 40 [(X.t (K.o (K.i (K.i (K.i (K.i K.z)))))), (X.t (K.i (K.i (K.i (K.i (K.i K.z))))))]) (Option.some (K.o (K.o (K.o (K.o (K.o (K.o K.z))))))) (Gd.on (K.i (K.o (K.i (K.i (K.i K.z))))) Bool.true) [],
   .mk (mvR (X.t (K.o (K.o (K.o K.z))))) (Option.some (K.i (K.o (K.o (K.o (K.o (K.o K.z))))))) (Gd.on (K.i (K.o (K.i (K.i (K.i K.z))))) Bool.true) [],
   .mk (callS Try.prog 41 [(X.t (K.o (K.o (K.o (K.o (K.o (K.o K.z))))))), (X.t (K.i (K.o (K.o (K.o (K.o (K.o K.z)))))))]) (Option.some (K.o (K.i (K.o (K.o (K.o (K.o K.z))))))) (Gd.on (K.i (K.o (K.i (K.i (K.i K.z))))) Bool.true) [],
   .mk (pickR (X.t (K.i (K.o (K.i (K.i (K.i K.z)))))) (X.t (K.o (K.i (K.o (K.o (K.o (K.o K.z))))))) (X.c (AV.bool Bool.false))) (Option.some (K.i (K.i (K.o (K.o (K.o (K.o K.z))))))) Gd.no [],
   .mk (mvR (X.t (K.i (K.i (K.o (K.o (K.o (K.o K.z)))))))) (Option.some (K.o (K.o (K.i (K.o (K.o (K.o K.z))))))) Gd.no [],
   .mk (mvR (X.t K.z)) (Option.some (K.i (K.o (K.i (K.o (K.o (K.o K.z))))))) (Gd.on (K.o (K.o (K.i (K.o (K.o (K.o K.z)))))) Bool.true) [],
   .mk (mvR (X.t K.z)) (Option.some (K.o (K.i (K.i (K.o (K.o (K.o K.z))))))) (Gd.on (K.o (K.o (K.i (K.o (K.o (K.o K.z)))))) Bool.true) [],
   .mk (callS Try.prog 40 [(X.t (K.i (K.o (K.i (K.o (K.o (K.o K.z))))))), (X.t (K.o (K.i (K.i (K.o (K.o (K.o K.z)))))))]) (Option.some (K.i (K.i (K.i (K.o (K.o (K.o K.z))))))) (Gd.on (K.o (K.o (K.i (K.o (K.o (K.o K.z)))))) Bool.true) [],
   .mk (mvR (X.t K.z)) (Option.some (K.o (K.o (K.o (K.i (K.o (K.o K.z))))))) (Gd.on (K.o (K.o (K.i (K.o (K.o (K.o K.z)))))) Bool.true) [],
   .mk (callS Try.prog 41 [(X.t (K.i (K.i (K.i (K.o (K.o (K.o K.z))))))), (X.t (K.o (K.o (K.o (K.i (K.o (K.o K.z)))))))]) (Option.some (K.i (K.o (K.o (K.i (K.o (K.o K.z))))))) (Gd.on (K.o (K.o (K.i (K.o (K.o (K.o K.z)))))) Bool.true) [],
   .mk (pickR (X.t (K.o (K.o (K.i (K.o (K.o (K.o K.z))))))) (X.t (K.i (K.o (K.o (K.i (K.o (K.o K.z))))))) (X.c (AV.bool Bool.false))) (Option.some (K.o (K.i (K.o (K.i (K.o (K.o K.z))))))) Gd.no [],
   .mk (mvR (X.t (K.o (K.i (K.o (K.i (K.o (K.o K.z)))))))) (Option.some (K.i (K.i K.z))) Gd.no []])
  .ret)))))
theorem C9ok : (match Try.f9.body with | some c => comp Try.prog 74 c | none => none) = some C9 := by kernel_rfl
@[go_sem] theorem call9 (args : List AV) (H : Heap) : callC Try.prog 9 args H = .call 9 args := callC_ok (by kernel_rfl) args H
theorem R9ok : resKs Try.prog Try.f9.results.toList = some [(RK.tmp (K.i (K.i K.z)))] := by kernel_rfl

/- 10: estuary/estuarylaw2.TokenGrows -/
noncomputable def C10L0 : CC :=
  (.seq (.seq (.region [.mk (mvR (X.t (K.o (K.i (K.o K.z))))) (Option.some (K.i (K.i (K.i (K.o K.z))))) Gd.no [],
   .mk (mvR (X.t K.z)) (Option.some (K.o (K.o (K.o (K.i K.z))))) Gd.no [],
   .mk (lenR LnK.slice (X.t (K.o (K.o (K.o (K.i K.z)))))) (Option.some (K.i (K.o (K.o (K.i K.z))))) Gd.no [],
   .mk (binR Try.prog EK.no Option.none Bool.false BinOp.lss (X.t (K.i (K.i (K.i (K.o K.z))))) (X.t (K.i (K.o (K.o (K.i K.z)))))) (Option.some (K.o (K.i (K.o (K.i K.z))))) Gd.no []])
  (.cond (X.t (K.o (K.i (K.o (K.i K.z)))))
  .skip
  (.exit 0)))
  (.seq (.block 1 (.seq (.region [.mk (mvR (X.t K.z)) (Option.some (K.i (K.o (K.i (K.i K.z))))) Gd.no [],
   .mk (mvR (X.t (K.o (K.i (K.o K.z))))) (Option.some (K.o (K.i (K.i (K.i K.z))))) Gd.no [],
   .mk (iaS 1 (X.t (K.i (K.o (K.i (K.i K.z))))) (X.t (K.o (K.i (K.i (K.i K.z)))))) (Option.some (K.i (K.i (K.i (K.i K.z))))) Gd.no [],
   .mk (ldR Bool.false 1 (X.t (K.i (K.i (K.i (K.i K.z)))))) (Option.some (K.o (K.o (K.o (K.o (K.o K.z)))))) Gd.no [],
   .mk (binR Try.prog EK.no Option.none Bool.true BinOp.rem (X.t (K.o (K.o (K.o (K.o (K.o K.z)))))) (X.c (AV.int IntKind.u8 26))) (Option.some (K.i (K.o (K.o (K.o (K.o K.z)))))) Gd.no [],
   .mk (convR (Cv.int IntKind.i64) (X.t (K.i (K.o (K.o (K.o (K.o K.z))))))) (Option.some (K.o (K.i (K.o (K.o (K.o K.z)))))) Gd.no [],
   .mk (mvR (X.t (K.o (K.i (K.o (K.o (K.o K.z))))))) (Option.some (K.i (K.i (K.o K.z)))) Gd.no []])
  (.seq (.region [.mk (mvR (X.t (K.o (K.o (K.o K.z))))) (Option.some (K.i (K.i (K.o (K.o (K.o K.z)))))) Gd.no [],
   .mk (mvR (X.t (K.i (K.i (K.o K.z))))) (Option.some (K.o (K.o (K.i (K.o (K.o K.z)))))) Gd.no [],
   .mk (binR Try.prog EK.no Option.none Bool.true BinOp.add (X.c (AV.int IntKind.i64 97)) (X.t (K.o (K.o (K.i (K.o (K.o K.z))))))) (Option.some (K.i (K.o (K.i (K.o (K.o K.z)))))) Gd.no [],
   .mk (convR (Cv.int IntKind.u8) (X.t (K.i (K.o (K.i (K.o (K.o K.z))))))) (Option.some (K.o (K.i (K.i (K.o (K.o K.z)))))) Gd.no [],
   .mk (bslR 1 1 [(AV.int IntKind.u8 0)] [(0, (X.t (K.o (K.i (K.i (K.o (K.o K.z)))))))]) (Option.some (K.i (K.i (K.i (K.o (K.o K.z)))))) Gd.no [],
   .mk (convR Cv.b2s (X.t (K.i (K.i (K.i (K.o (K.o K.z))))))) (Option.some (K.o (K.o (K.o (K.i (K.o K.z)))))) Gd.no [],
   .mk (mvR (X.t (K.o (K.i (K.o K.z))))) (Option.some (K.i (K.o (K.o (K.i (K.o K.z)))))) Gd.no [],
   .mk (binR Try.prog EK.no Option.none Bool.true BinOp.add (X.t (K.i (K.o (K.o (K.i (K.o K.z)))))) (X.c (AV.int IntKind.i64 1))) (Option.some (K.o (K.i (K.o (K.i (K.o K.z)))))) Gd.no [],
   .mk (buildR [(AV.str []), (AV.int IntKind.i64 0)] [(0, (1, (X.t (K.o (K.o (K.o (K.i (K.o K.z)))))))), (1, (1, (X.t (K.o (K.i (K.o (K.i (K.o K.z))))))))]) (Option.some (K.i (K.i (K.o (K.i (K.o K.z)))))) Gd.no [],
   .mk (callS Try.prog 43 [(X.t (K.i (K.i (K.o (K.o (K.o K.z)))))), (X.t (K.i (K.i (K.o (K.i (K.o K.z))))))]) (Option.some (K.o (K.o (K.i (K.i (K.o K.z)))))) Gd.no [],
   .mk (mvR (X.t (K.o (K.o (K.i (K.i (K.o K.z))))))) (Option.some (K.o (K.o (K.o K.z)))) Gd.no []])
  (.seq (.region [.mk (mvR (X.t (K.i (K.i (K.o K.z))))) (Option.some (K.i (K.o (K.i (K.i (K.o K.z)))))) Gd.no [],
   .mk (mvR (X.t (K.o (K.i (K.o K.z))))) (Option.some (K.o (K.i (K.i (K.i (K.o K.z)))))) Gd.no [],
   .mk (binR Try.prog EK.no Option.none Bool.true BinOp.add (X.t (K.o (K.i (K.i (K.i (K.o K.z)))))) (X.c (AV.int IntKind.i64 1))) (Option.some (K.i (K.i (K.i (K.i (K.o K.z)))))) Gd.no [],
   .mk (iaA 26 1 (X.t (K.i (K.o (K.o K.z)))) (X.t (K.i (K.o (K.i (K.i (K.o K.z))))))) (Option.some (K.o (K.o (K.o (K.o (K.i K.z)))))) Gd.no [],
   .mk (stR 1 (X.t (K.o (K.o (K.o (K.o (K.i K.z)))))) (X.t (K.i (K.i (K.i (K.i (K.o K.z))))))) Option.none Gd.no []])
  (.seq (.region [.mk (mvR (X.t (K.o (K.o (K.o K.z))))) (Option.some (K.i (K.o (K.o (K.o (K.i K.z)))))) Gd.no [],
   .mk (callS Try.prog 39 [(X.t (K.i (K.o (K.o (K.o (K.i K.z))))))]) (Option.some (K.o (K.i (K.o (K.o (K.i K.z)))))) Gd.no [],
   .mk (unR UnOp.not (X.t (K.o (K.i (K.o (K.o (K.i K.z))))))) (Option.some (K.i (K.i (K.o (K.o (K.i K.z)))))) Gd.no []])
  (.cond (X.t (K.i (K.i (K.o (K.o (K.i K.z))))))
  (.seq (.region [.mk (mvR (X.c (AV.bool Bool.false))) (Option.some (K.i (K.i K.z))) Gd.no []])
  .ret)
  .skip))))))
  (.region [.mk (mvR (X.t (K.o (K.i (K.o K.z))))) (Option.some (K.i (K.i (K.o (K.i K.z))))) Gd.no [],
   .mk (binR Try.prog EK.no Option.none Bool.true BinOp.add (X.t (K.i (K.i (K.o (K.i K.z))))) (X.c (AV.int IntKind.i64 1))) (Option.some (K.o (K.o (K.i (K.i K.z))))) Gd.no [],
   .mk (mvR (X.t (K.o (K.o (K.i (K.i K.z)))))) (Option.some (K.o (K.i (K.o K.z)))) Gd.no []])))
noncomputable def C10L1 : CC :=
  (.seq (.seq (.region [.mk (mvR (X.t (K.i (K.o (K.o (K.o K.z)))))) (Option.some (K.i (K.i (K.i (K.o (K.o (K.o K.z))))))) Gd.no [],
   .mk (binR Try.prog EK.no Option.none Bool.true BinOp.lss (X.t (K.i (K.i (K.i (K.o (K.o (K.o K.z))))))) (X.c (AV.int IntKind.i64 26))) (Option.some (K.o (K.o (K.o (K.i (K.o (K.o K.z))))))) Gd.no []])
  (.cond (X.t (K.o (K.o (K.o (K.i (K.o (K.o K.z)))))))
  .skip
  (.exit 2)))
  (.seq (.block 3 (.seq (.seq (.regionD [.mk (keepH (mvR (X.t (K.i (K.o (K.o (K.o K.z))))))) (Option.some (K.o (K.i (K.o (K.o (K.i (K.o K.z))))))) Gd.no [],
   .mk (keepH (iaA 26 1 (X.t (K.i (K.o (K.o K.z)))) (X.t (K.o (K.i (K.o (K.o (K.i (K.o K.z))))))))) (Option.some (K.i (K.i (K.o (K.o (K.i (K.o K.z))))))) Gd.no [],
   .mk (keepH (ldR Bool.false 1 (X.t (K.i (K.i (K.o (K.o (K.i (K.o K.z))))))))) (Option.some (K.o (K.o (K.i (K.o (K.i (K.o K.z))))))) Gd.no [],
   .mk (keepH (mvR (X.t (K.i (K.o (K.o (K.o K.z))))))) (Option.some (K.o (K.o (K.i (K.i (K.o (K.o K.z))))))) Gd.no [],
   .mk (keepH (binR Try.prog EK.no Option.none Bool.true BinOp.add (X.c (AV.int IntKind.i64 97)) (X.t (K.o (K.o (K.i (K.i (K.o (K.o K.z))))))))) (Option.some (K.i (K.o (K.i (K.i (K.o (K.o K.z))))))) Gd.no [],
   .mk (keepH (mvR (X.t (K.o (K.o (K.o K.z)))))) (Option.some (K.i (K.i (K.o (K.i (K.o (K.o K.z))))))) Gd.no [],
   .mk (convR (Cv.int IntKind.u8) (X.t (K.i (K.o (K.i (K.i (K.o (K.o K.z)))))))) (Option.some (K.o (K.i (K.i (K.i (K.o (K.o K.z))))))) Gd.no [.mk (mvR (X.t (K.o (K.o (K.o K.z))))) (Option.some (K.i (K.i (K.o (K.i (K.o (K.o K.z))))))) Gd.no, .mk (ldR Bool.false 1 (X.t (K.i (K.i (K.o (K.o (K.i (K.o K.z)))))))) (Option.some (K.o (K.o (K.i (K.o (K.i (K.o K.z))))))) Gd.no, .mk (iaA 26 1 (X.t (K.i (K.o (K.o K.z)))) (X.t (K.o (K.i (K.o (K.o (K.i (K.o K.z)))))))) (Option.some (K.i (K.i (K.o (K.o (K.i (K.o K.z))))))) Gd.no, .mk (mvR (X.t (K.i (K.o (K.o (K.o K.z)))))) (Option.some (K.o (K.i (K.o (K.o (K.i (K.o K.z))))))) Gd.no],
   .mk (addH (bslR 1 1 [(AV.int IntKind.u8 0)] [(0, (X.t (K.o (K.i (K.i (K.i (K.o (K.o K.z))))))))])) (Option.some (K.i (K.i (K.i (K.i (K.o (K.o K.z))))))) Gd.no [.mk (mvR (X.t (K.o (K.o (K.o K.z))))) (Option.some (K.i (K.i (K.o (K.i (K.o (K.o K.z))))))) Gd.no, .mk (ldR Bool.false 1 (X.t (K.i (K.i (K.o (K.o (K.i (K.o K.z)))))))) (Option.some (K.o (K.o (K.i (K.o (K.i (K.o K.z))))))) Gd.no, .mk (iaA 26 1 (X.t (K.i (K.o (K.o K.z)))) (X.t (K.o (K.i (K.o (K.o (K.i (K.o K.z)))))))) (Option.some (K.i (K.i (K.o (K.o (K.i (K.o K.z))))))) Gd.no, .mk (mvR (X.t (K.i (K.o (K.o (K.o K.z)))))) (Option.some (K.o (K.i (K.o (K.o (K.i (K.o K.z))))))) Gd.no],
   .mk (convR Cv.b2s (X.t (K.i (K.i (K.i (K.i (K.o (K.o K.z)))))))) (Option.some (K.o (K.o (K.o (K.o (K.i (K.o K.z))))))) Gd.no [.mk (mvR (X.t (K.o (K.o (K.o K.z))))) (Option.some (K.i (K.i (K.o (K.i (K.o (K.o K.z))))))) Gd.no, .mk (ldR Bool.false 1 (X.t (K.i (K.i (K.o (K.o (K.i (K.o K.z)))))))) (Option.some (K.o (K.o (K.i (K.o (K.i (K.o K.z))))))) Gd.no, .mk (iaA 26 1 (X.t (K.i (K.o (K.o K.z)))) (X.t (K.o (K.i (K.o (K.o (K.i (K.o K.z)))))))) (Option.some (K.i (K.i (K.o (K.o (K.i (K.o K.z))))))) Gd.no, .mk (mvR (X.t (K.i (K.o (K.o (K.o K.z)))))) (Option.some (K.o (K.i (K.o (K.o (K.i (K.o K.z))))))) Gd.no],
   .mk (callS Try.prog 42 [(X.t (K.i (K.i (K.o (K.i (K.o (K.o K.z))))))), (X.t (K.o (K.o (K.o (K.o (K.i (K.o K.z)))))))]) (Option.some (K.i (K.o (K.o (K.o (K.i (K.o K.z))))))) Gd.no [.mk (ldR Bool.false 1 (X.t (K.i (K.i (K.o (K.o (K.i (K.o K.z)))))))) (Option.some (K.o (K.o (K.i (K.o (K.i (K.o K.z))))))) Gd.no, .mk (iaA 26 1 (X.t (K.i (K.o (K.o K.z)))) (X.t (K.o (K.i (K.o (K.o (K.i (K.o K.z)))))))) (Option.some (K.i (K.i (K.o (K.o (K.i (K.o K.z))))))) Gd.no, .mk (mvR (X.t (K.i (K.o (K.o (K.o K.z)))))) (Option.some (K.o (K.i (K.o (K.o (K.i (K.o K.z))))))) Gd.no],
   .mk (keepH (binR Try.prog EK.no Option.none Bool.false BinOp.neq (X.t (K.i (K.o (K.o (K.o (K.i (K.o K.z))))))) (X.t (K.o (K.o (K.i (K.o (K.i (K.o K.z))))))))) (Option.some (K.i (K.o (K.i (K.o (K.i (K.o K.z))))))) Gd.no []])
  (.cond (X.t (K.i (K.o (K.i (K.o (K.i (K.o K.z)))))))
  (.seq (.region [.mk (mvR (X.c (AV.bool Bool.false))) (Option.some (K.i (K.i K.z))) Gd.no []])
  .ret)
  .skip))
  (.seq (.region [.mk (mvR (X.t (K.i (K.o (K.o (K.o K.z)))))) (Option.some (K.o (K.i (K.i (K.o (K.i (K.o K.z))))))) Gd.no [],
   .mk (iaA 26 1 (X.t (K.i (K.o (K.o K.z)))) (X.t (K.o (K.i (K.i (K.o (K.i (K.o K.z)))))))) (Option.some (K.i (K.i (K.i (K.o (K.i (K.o K.z))))))) Gd.no [],
   .mk (ldR Bool.false 1 (X.t (K.i (K.i (K.i (K.o (K.i (K.o K.z)))))))) (Option.some (K.o (K.o (K.o (K.i (K.i (K.o K.z))))))) Gd.no [],
   .mk (binR Try.prog EK.no Option.none Bool.true BinOp.gtr (X.t (K.o (K.o (K.o (K.i (K.i (K.o K.z))))))) (X.c (AV.int IntKind.i64 0))) (Option.some (K.i (K.o (K.o (K.i (K.i (K.o K.z))))))) Gd.no []])
  (.cond (X.t (K.i (K.o (K.o (K.i (K.i (K.o K.z)))))))
  (.seq (.region [.mk (mvR (X.t (K.o (K.o (K.o (K.o K.z)))))) (Option.some (K.o (K.i (K.o (K.i (K.i (K.o K.z))))))) Gd.no [],
   .mk (binR Try.prog EK.no Option.none Bool.true BinOp.add (X.t (K.o (K.i (K.o (K.i (K.i (K.o K.z))))))) (X.c (AV.int IntKind.i64 1))) (Option.some (K.i (K.i (K.o (K.i (K.i (K.o K.z))))))) Gd.no [],
   .mk (mvR (X.t (K.i (K.i (K.o (K.i (K.i (K.o K.z)))))))) (Option.some (K.o (K.o (K.o (K.o K.z))))) Gd.no []])
  (.seq (.region [.mk (mvR (X.t (K.i (K.o (K.o (K.o K.z)))))) (Option.some (K.o (K.o (K.i (K.i (K.i (K.o K.z))))))) Gd.no [],
   .mk (mvR (X.t (K.o (K.o (K.i K.z))))) (Option.some (K.i (K.o (K.i (K.i (K.i (K.o K.z))))))) Gd.no [],
   .mk (binR Try.prog EK.no Option.none Bool.false BinOp.geq (X.t (K.o (K.o (K.i (K.i (K.i (K.o K.z))))))) (X.t (K.i (K.o (K.i (K.i (K.i (K.o K.z)))))))) (Option.some (K.o (K.i (K.i (K.i (K.i (K.o K.z))))))) Gd.no [],
   .mk (mvR (X.t (K.o (K.i (K.i (K.i (K.i (K.o K.z)))))))) (Option.some (K.i (K.i (K.i (K.i (K.i (K.o K.z))))))) Gd.no [],
   .mk (mvR (X.t (K.i (K.o (K.o (K.o K.z)))))) (Option.some (K.o (K.o (K.o (K.o (K.o (K.i K.z))))))) (Gd.on (K.i (K.i (K.i (K.i (K.i (K.o K.z)))))) Bool.true) [],
   .mk (mvR (X.t (K.i (K.o (K.i K.z))))) (Option.some (K.i (K.o (K.o (K.o (K.o (K.i K.z))))))) (Gd.on (K.i (K.i (K.i (K.i (K.i (K.o K.z)))))) Bool.true) [],
   .mk (binR Try.prog EK.no Option.none Bool.false BinOp.lss (X.t (K.o (K.o (K.o (K.o (K.o (K.i K.z))))))) (X.t (K.i (K.o (K.o (K.o (K.o (K.i K.z)))))))) (Option.some (K.o (K.i (K.o (K.o (K.o (K.i K.z))))))) (Gd.on (K.i (K.i (K.i (K.i (K.i (K.o K.z)))))) Bool.true) [],
   .mk (pickR (X.t (K.i (K.i (K.i (K.i (K.i (K.o K.z))))))) (X.t (K.o (K.i (K.o (K.o (K.o (K.i K.z))))))) (X.c (AV.bool Bool.false))) (Option.some (K.i (K.i (K.o (K.o (K.o (K.i K.z))))))) Gd.no []])
  (.cond (X.t (K.i (K.i (K.o (K.o (K.o (K.i K.z)))))))
  (.region [.mk (mvR (X.t (K.i (K.i (K.i K.z))))) (Option.some (K.o (K.o (K.i (K.o (K.o (K.i K.z))))))) Gd.no [],
   .mk (binR Try.prog EK.no Option.none Bool.true BinOp.add (X.t (K.o (K.o (K.i (K.o (K.o (K.i K.z))))))) (X.c (AV.int IntKind.i64 1))) (Option.some (K.i (K.o (K.i (K.o (K.o (K.i K.z))))))) Gd.no [],
   .mk (mvR (X.t (K.i (K.o (K.i (K.o (K.o (K.i K.z)))))))) (Option.some (K.i (K.i (K.i K.z)))) Gd.no []])
  .skip)))
  .skip))))
  (.region [.mk (mvR (X.t (K.i (K.o (K.o (K.o K.z)))))) (Option.some (K.i (K.o (K.o (K.i (K.o (K.o K.z))))))) Gd.no [],
   .mk (binR Try.prog EK.no Option.none Bool.true BinOp.add (X.t (K.i (K.o (K.o (K.i (K.o (K.o K.z))))))) (X.c (AV.int IntKind.i64 1))) (Option.some (K.o (K.i (K.o (K.i (K.o (K.o K.z))))))) Gd.no [],
   .mk (mvR (X.t (K.o (K.i (K.o (K.i (K.o (K.o K.z)))))))) (Option.some (K.i (K.o (K.o (K.o K.z))))) Gd.no []])))
noncomputable def C10 : CC :=
  (.seq (.region [.mk (mvR (X.c (AV.bool Bool.false))) (Option.some (K.i (K.i K.z))) Gd.no []])
  (.seq (.seq (.region [.mk (callS Try.prog 37 []) (Option.some (K.o (K.i (K.o (K.o K.z))))) Gd.no [],
   .mk (unR UnOp.not (X.t (K.o (K.i (K.o (K.o K.z)))))) (Option.some (K.i (K.i (K.o (K.o K.z))))) Gd.no []])
  (.cond (X.t (K.i (K.i (K.o (K.o K.z)))))
  (.seq (.region [.mk (mvR (X.c (AV.bool Bool.false))) (Option.some (K.i (K.i K.z))) Gd.no []])
  .ret)
  .skip))
  (.seq (.seq (.region [.mk (mvR (X.t K.z)) (Option.some (K.o (K.o (K.i (K.o K.z))))) Gd.no [],
   .mk (lenR LnK.slice (X.t (K.o (K.o (K.i (K.o K.z)))))) (Option.some (K.i (K.o (K.i (K.o K.z))))) Gd.no [],
   .mk (binR Try.prog EK.no Option.none Bool.true BinOp.gtr (X.t (K.i (K.o (K.i (K.o K.z))))) (X.c (AV.int IntKind.i64 40))) (Option.some (K.o (K.i (K.i (K.o K.z))))) Gd.no []])
  (.cond (X.t (K.o (K.i (K.i (K.o K.z)))))
  (.seq (.region [.mk (mvR (X.c (AV.bool Bool.true))) (Option.some (K.i (K.i K.z))) Gd.no []])
  .ret)
  .skip))
  (.seq (.region [.mk (mvR (X.c AV.nils)) (Option.some (K.o (K.o (K.o K.z)))) Gd.no []])
  (.seq (.region [.mk (fun _ H => newC Bool.true [(AV.int IntKind.i64 0), (AV.int IntKind.i64 0), (AV.int IntKind.i64 0), (AV.int IntKind.i64 0), (AV.int IntKind.i64 0), (AV.int IntKind.i64 0), (AV.int IntKind.i64 0), (AV.int IntKind.i64 0), (AV.int IntKind.i64 0), (AV.int IntKind.i64 0), (AV.int IntKind.i64 0), (AV.int IntKind.i64 0), (AV.int IntKind.i64 0), (AV.int IntKind.i64 0), (AV.int IntKind.i64 0), (AV.int IntKind.i64 0), (AV.int IntKind.i64 0), (AV.int IntKind.i64 0), (AV.int IntKind.i64 0), (AV.int IntKind.i64 0), (AV.int IntKind.i64 0), (AV.int IntKind.i64 0), (AV.int IntKind.i64 0), (AV.int IntKind.i64 0), (AV.int IntKind.i64 0), (AV.int IntKind.i64 0)] H) (Option.some (K.i (K.o (K.o K.z)))) Gd.no []])
  (.seq (.seq (.region [.mk (mvR (X.c (AV.int IntKind.i64 0))) (Option.some (K.o (K.i (K.o K.z)))) Gd.no []])
  (.block 0 (.loop C10L0)))
  (.seq (.region [.mk (mvR (X.t (K.o K.z))) (Option.some (K.o (K.o (K.i (K.o (K.i K.z)))))) Gd.no [],
   .mk (binR Try.prog EK.no Option.none Bool.true BinOp.rem (X.t (K.o (K.o (K.i (K.o (K.i K.z)))))) (X.c (AV.int IntKind.u8 26))) (Option.some (K.i (K.o (K.i (K.o (K.i K.z)))))) Gd.no [],
   .mk (convR (Cv.int IntKind.i64) (X.t (K.i (K.o (K.i (K.o (K.i K.z))))))) (Option.some (K.o (K.i (K.i (K.o (K.i K.z)))))) Gd.no [],
   .mk (mvR (X.t (K.i K.z))) (Option.some (K.i (K.i (K.i (K.o (K.i K.z)))))) Gd.no [],
   .mk (binR Try.prog EK.no Option.none Bool.true BinOp.rem (X.t (K.i (K.i (K.i (K.o (K.i K.z)))))) (X.c (AV.int IntKind.u8 26))) (Option.some (K.o (K.o (K.o (K.i (K.i K.z)))))) Gd.no [],
   .mk (convR (Cv.int IntKind.i64) (X.t (K.o (K.o (K.o (K.i (K.i K.z))))))) (Option.some (K.i (K.o (K.o (K.i (K.i K.z)))))) Gd.no [],
   .mk (mvR (X.t (K.o (K.i (K.i (K.o (K.i K.z))))))) (Option.some (K.o (K.o (K.i K.z)))) Gd.no [],
   .mk (mvR (X.t (K.i (K.o (K.o (K.i (K.i K.z))))))) (Option.some (K.i (K.o (K.i K.z)))) Gd.no []])
  (.seq (.region [.mk (mvR (X.t (K.o (K.o (K.o K.z))))) (Option.some (K.o (K.i (K.o (K.i (K.i K.z)))))) Gd.no [],
   .mk (mvR (X.t (K.o (K.o (K.i K.z))))) (Option.some (K.i (K.i (K.o (K.i (K.i K.z)))))) Gd.no [],
   .mk (binR Try.prog EK.no Option.none Bool.true BinOp.add (X.c (AV.int IntKind.i64 97)) (X.t (K.i (K.i (K.o (K.i (K.i K.z))))))) (Option.some (K.o (K.o (K.i (K.i (K.i K.z)))))) Gd.no [],
   .mk (convR (Cv.int IntKind.u8) (X.t (K.o (K.o (K.i (K.i (K.i K.z))))))) (Option.some (K.i (K.o (K.i (K.i (K.i K.z)))))) Gd.no [],
   .mk (bslR 1 1 [(AV.int IntKind.u8 0)] [(0, (X.t (K.i (K.o (K.i (K.i (K.i K.z)))))))]) (Option.some (K.o (K.i (K.i (K.i (K.i K.z)))))) Gd.no [],
   .mk (convR Cv.b2s (X.t (K.o (K.i (K.i (K.i (K.i K.z))))))) (Option.some (K.i (K.i (K.i (K.i (K.i K.z)))))) Gd.no [],
   .mk (mvR (X.t (K.i (K.o (K.i K.z))))) (Option.some (K.o (K.o (K.o (K.o (K.o (K.o K.z))))))) Gd.no [],
   .mk (binR Try.prog EK.no Option.none Bool.true BinOp.add (X.c (AV.int IntKind.i64 97)) (X.t (K.o (K.o (K.o (K.o (K.o (K.o K.z)))))))) (Option.some (K.i (K.o (K.o (K.o (K.o (K.o K.z))))))) Gd.no [],
   .mk (convR (Cv.int IntKind.u8) (X.t (K.i (K.o (K.o (K.o (K.o (K.o K.z)))))))) (Option.some (K.o (K.i (K.o (K.o (K.o (K.o K.z))))))) Gd.no [],
   .mk (bslR 1 1 [(AV.int IntKind.u8 0)] [(0, (X.t (K.o (K.i (K.o (K.o (K.o (K.o K.z))))))))]) (Option.some (K.i (K.i (K.o (K.o (K.o (K.o K.z))))))) Gd.no [],
   .mk (convR Cv.b2s (X.t (K.i (K.i (K.o (K.o (K.o (K.o K.z)))))))) (Option.some (K.o (K.o (K.i (K.o (K.o (K.o K.z))))))) Gd.no [],
   .mk (buildR [(AV.str []), (AV.str [])] [(0, (1, (X.t (K.i (K.i (K.i (K.i (K.i K.z)))))))), (1, (1, (X.t (K.o (K.o (K.i (K.o (K.o (K.o K.z)))))))))]) (Option.some (K.i (K.o (K.i (K.o (K.o (K.o K.z))))))) Gd.no [],
   .mk (callS Try.prog 44 [(X.t (K.o (K.i (K.o (K.i (K.i K.z)))))), (X.t (K.i (K.o (K.i (K.o (K.o (K.o K.z)))))))]) (Option.some (K.o (K.i (K.i (K.o (K.o (K.o K.z))))))) Gd.no [],
   .mk (mvR (X.t (K.o (K.i (K.i (K.o (K.o (K.o K.z)))))))) (Option.some (K.o (K.i (K.i K.z)))) Gd.no []])
  (.seq (.region [.mk (mvR (X.c (AV.int IntKind.i64 0))) (Option.some (K.i (K.i (K.i K.z)))) Gd.no [],
   .mk (mvR (X.c (AV.int IntKind.i64 0))) (Option.some (K.o (K.o (K.o (K.o K.z))))) Gd.no []])
  (.seq (.seq (.region [.mk (mvR (X.c (AV.int IntKind.i64 0))) (Option.some (K.i (K.o (K.o (K.o K.z))))) Gd.no []])
  (.block 2 (.loop C10L1)))
  (.seq (.region [.mk (mvR (X.t (K.o (K.i (K.i K.z))))) (Option.some (K.o (K.i (K.i (K.o (K.o (K.i K.z))))))) Gd.no [],
   .mk (lenR LnK.slice (X.t (K.o (K.i (K.i (K.o (K.o (K.i K.z)))))))) (Option.some (K.i (K.i (K.i (K.o (K.o (K.i K.z))))))) Gd.no [],
   .mk (mvR (X.t (K.i (K.i (K.i K.z))))) (Option.some (K.o (K.o (K.o (K.i (K.o (K.i K.z))))))) Gd.no [],
   .mk (binR Try.prog EK.no Option.none Bool.false BinOp.eql (X.t (K.i (K.i (K.i (K.o (K.o (K.i K.z))))))) (X.t (K.o (K.o (K.o (K.i (K.o (K.i K.z)))))))) (Option.some (K.i (K.o (K.o (K.i (K.o (K.i K.z))))))) Gd.no [],
   .mk (mvR (X.t (K.i (K.o (K.o (K.i (K.o (K.i K.z)))))))) (Option.some (K.o (K.i (K.o (K.i (K.o (K.i K.z))))))) Gd.no [],
   .mk (mvR (X.t (K.o (K.o (K.o K.z))))) (Option.some (K.i (K.i (K.o (K.i (K.o (K.i K.z))))))) (Gd.on (K.o (K.i (K.o (K.i (K.o (K.i K.z)))))) Bool.true) [],
   .mk (lenR LnK.slice (X.t (K.i (K.i (K.o (K.i (K.o (K.i K.z)))))))) (Option.some (K.o (K.o (K.i (K.i (K.o (K.i K.z))))))) (Gd.on (K.o (K.i (K.o (K.i (K.o (K.i K.z)))))) Bool.true) [],
   .mk (mvR (X.t (K.o (K.o (K.o (K.o K.z)))))) (Option.some (K.i (K.o (K.i (K.i (K.o (K.i K.z))))))) (Gd.on (K.o (K.i (K.o (K.i (K.o (K.i K.z)))))) Bool.true) [],
   .mk (binR Try.prog EK.no Option.none Bool.false BinOp.eql (X.t (K.o (K.o (K.i (K.i (K.o (K.i K.z))))))) (X.t (K.i (K.o (K.i (K.i (K.o (K.i K.z)))))))) (Option.some (K.o (K.i (K.i (K.i (K.o (K.i K.z))))))) (Gd.on (K.o (K.i (K.o (K.i (K.o (K.i K.z)))))) Bool.true) [],
   .mk (pickR (X.t (K.o (K.i (K.o (K.i (K.o (K.i K.z))))))) (X.t (K.o (K.i (K.i (K.i (K.o (K.i K.z))))))) (X.c (AV.bool Bool.false))) (Option.some (K.i (K.i (K.i (K.i (K.o (K.i K.z))))))) Gd.no [],
   .mk (mvR (X.t (K.i (K.i (K.i (K.i (K.o (K.i K.z)))))))) (Option.some (K.i (K.i K.z))) Gd.no []])
  .ret)))))))))))
theorem C10ok : (match Try.f10.body with | some c => comp Try.prog 111 c | none => none) = some C10 := by kernel_rfl
@[go_sem] theorem call10 (args : List AV) (H : Heap) : callC Try.prog 10 args H = .call 10 args := callC_ok (by kernel_rfl) args H
theorem R10ok : resKs Try.prog Try.f10.results.toList = some [(RK.tmp (K.i (K.i K.z)))] := by kernel_rfl

end Go.Proofs
