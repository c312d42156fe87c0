/- The laid-out code of the functions that are walked. Printed by a program. -/
import Derived.Test.YtiadcabmonbgiaaZ11
import Derived.Test.YtiadcabmonbgiaaProg
import Derived.KernelRfl
set_option linter.all false
set_option maxRecDepth 100000
namespace Go.Proofs
open Go Go.Ev
/- 25: estuary/estuarylaw14.known -/
noncomputable def C25 : CC :=
  (.seq (.region [.mk (mvR (X.c (AV.bool Bool.false))) (Option.some K.z) Gd.no []])
  (.seq (.region [.mk (buildR [(AV.int IntKind.i64 0), (AV.str []), (AV.int IntKind.i64 0), AV.nils] [(2, (1, (X.c (AV.int IntKind.i64 2))))]) (Option.some (K.o (K.o (K.i K.z)))) Gd.no [],
   .mk (buildR [(AV.int IntKind.i64 0), (AV.int IntKind.i64 0), (AV.int IntKind.i64 0), (AV.str []), (AV.int IntKind.i64 0), AV.nils] [(0, (1, (X.c (AV.int IntKind.i64 1)))), (1, (1, (X.c (AV.int IntKind.i64 4)))), (2, (4, (X.t (K.o (K.o (K.i K.z))))))]) (Option.some (K.i (K.o (K.i K.z)))) Gd.no [],
   .mk (callS Try.prog 33 [(X.c AV.nils), (X.t (K.i (K.o (K.i K.z))))]) (Option.some (K.o (K.i (K.i K.z)))) Gd.no [],
   .mk (mvR (X.t (K.o (K.i (K.i K.z))))) (Option.some (K.o K.z)) Gd.no []])
  (.seq (.region [.mk (mvR (X.t (K.o K.z))) (Option.some (K.o (K.o (K.o (K.o K.z))))) Gd.no [],
   .mk (callS Try.prog 29 [(X.t (K.o (K.o (K.o (K.o K.z))))), (X.c (AV.int IntKind.i64 1)), (X.c (AV.int IntKind.i64 4))]) (Option.some (K.i (K.o (K.o (K.o K.z))))) Gd.no [],
   .mk (mvR (X.t (K.i (K.o (K.o (K.o K.z)))))) (Option.some (K.i (K.i (K.i K.z)))) Gd.no [],
   .mk (extR (X.t (K.i (K.i (K.i K.z)))) 0) (Option.some (K.o (K.i (K.o (K.o K.z))))) Gd.no [],
   .mk (extR (X.t (K.i (K.i (K.i K.z)))) 1) (Option.some (K.i (K.i (K.o (K.o K.z))))) Gd.no [],
   .mk (fun _ H => newC Bool.false [(AV.int IntKind.i64 0), (AV.str []), (AV.int IntKind.i64 0), AV.nils] H) (Option.some (K.i K.z)) Gd.no [],
   .mk (stR 4 (X.t (K.i K.z)) (X.t (K.o (K.i (K.o (K.o K.z)))))) Option.none Gd.no [],
   .mk (mvR (X.t (K.i (K.i (K.o (K.o K.z)))))) (Option.some (K.o (K.o K.z))) Gd.no []])
  (.seq (.region [.mk (mvR (X.t (K.o K.z))) (Option.some (K.i (K.o (K.i (K.o K.z))))) Gd.no [],
   .mk (callS Try.prog 29 [(X.t (K.i (K.o (K.i (K.o K.z))))), (X.c (AV.int IntKind.i64 1)), (X.c (AV.int IntKind.i64 5))]) (Option.some (K.o (K.i (K.i (K.o K.z))))) Gd.no [],
   .mk (mvR (X.t (K.o (K.i (K.i (K.o K.z)))))) (Option.some (K.o (K.o (K.i (K.o K.z))))) Gd.no [],
   .mk (extR (X.t (K.o (K.o (K.i (K.o K.z))))) 0) (Option.some (K.i (K.i (K.i (K.o K.z))))) Gd.no [],
   .mk (extR (X.t (K.o (K.o (K.i (K.o K.z))))) 1) (Option.some (K.o (K.o (K.o (K.i K.z))))) Gd.no [],
   .mk (fun _ H => newC Bool.false [(AV.int IntKind.i64 0), (AV.str []), (AV.int IntKind.i64 0), AV.nils] H) (Option.some (K.i (K.o K.z))) Gd.no [],
   .mk (stR 4 (X.t (K.i (K.o K.z))) (X.t (K.i (K.i (K.i (K.o K.z)))))) Option.none Gd.no [],
   .mk (mvR (X.t (K.o (K.o (K.o (K.i K.z)))))) (Option.some (K.o (K.i K.z))) Gd.no []])
  (.seq (.region [.mk (mvR (X.t (K.o K.z))) (Option.some (K.o (K.i (K.o (K.i K.z))))) Gd.no [],
   .mk (callS Try.prog 29 [(X.t (K.o (K.i (K.o (K.i K.z))))), (X.c (AV.int IntKind.i64 1)), (X.c (AV.int IntKind.i64 3))]) (Option.some (K.i (K.i (K.o (K.i K.z))))) Gd.no [],
   .mk (mvR (X.t (K.i (K.i (K.o (K.i K.z)))))) (Option.some (K.i (K.o (K.o (K.i K.z))))) Gd.no [],
   .mk (extR (X.t (K.i (K.o (K.o (K.i K.z))))) 0) (Option.some (K.o (K.o (K.i (K.i K.z))))) Gd.no [],
   .mk (extR (X.t (K.i (K.o (K.o (K.i K.z))))) 1) (Option.some (K.i (K.o (K.i (K.i K.z))))) Gd.no [],
   .mk (fun _ H => newC Bool.false [(AV.int IntKind.i64 0), (AV.str []), (AV.int IntKind.i64 0), AV.nils] H) (Option.some (K.i (K.i K.z))) Gd.no [],
   .mk (stR 4 (X.t (K.i (K.i K.z))) (X.t (K.o (K.o (K.i (K.i K.z)))))) Option.none Gd.no [],
   .mk (mvR (X.t (K.i (K.o (K.i (K.i K.z)))))) (Option.some (K.o (K.o (K.o K.z)))) Gd.no []])
  (.seq (.region [.mk (mvR (X.t (K.o K.z))) (Option.some (K.i (K.i (K.i (K.i K.z))))) Gd.no [],
   .mk (callS Try.prog 29 [(X.t (K.i (K.i (K.i (K.i K.z))))), (X.c (AV.int IntKind.i64 0)), (X.c (AV.int IntKind.i64 1))]) (Option.some (K.o (K.o (K.o (K.o (K.o K.z)))))) Gd.no [],
   .mk (mvR (X.t (K.o (K.o (K.o (K.o (K.o K.z))))))) (Option.some (K.o (K.i (K.i (K.i K.z))))) Gd.no [],
   .mk (extR (X.t (K.o (K.i (K.i (K.i K.z))))) 0) (Option.some (K.i (K.o (K.o (K.o (K.o K.z)))))) Gd.no [],
   .mk (extR (X.t (K.o (K.i (K.i (K.i K.z))))) 1) (Option.some (K.o (K.i (K.o (K.o (K.o K.z)))))) Gd.no [],
   .mk (fun _ H => newC Bool.false [(AV.int IntKind.i64 0), (AV.str []), (AV.int IntKind.i64 0), AV.nils] H) (Option.some (K.i (K.o (K.o K.z)))) Gd.no [],
   .mk (stR 4 (X.t (K.i (K.o (K.o K.z)))) (X.t (K.i (K.o (K.o (K.o (K.o K.z))))))) Option.none Gd.no [],
   .mk (mvR (X.t (K.o (K.i (K.o (K.o (K.o K.z))))))) (Option.some (K.o (K.i (K.o K.z)))) Gd.no []])
  (.seq (.region [.mk (mvR (X.t (K.o K.z))) (Option.some (K.i (K.i (K.o (K.o (K.o K.z)))))) Gd.no [],
   .mk (buildR [(AV.int IntKind.i64 0), (AV.int IntKind.i64 0), (AV.int IntKind.i64 0), (AV.str []), (AV.int IntKind.i64 0), AV.nils] [(0, (1, (X.c (AV.int IntKind.i64 1)))), (1, (1, (X.c (AV.int IntKind.i64 9))))]) (Option.some (K.o (K.o (K.i (K.o (K.o K.z)))))) Gd.no [],
   .mk (bslR 6 1 [(AV.int IntKind.i64 0), (AV.int IntKind.i64 0), (AV.int IntKind.i64 0), (AV.str []), (AV.int IntKind.i64 0), AV.nils] [(0, (X.t (K.o (K.o (K.i (K.o (K.o K.z)))))))]) (Option.some (K.i (K.o (K.i (K.o (K.o K.z)))))) Gd.no [],
   .mk (callS Try.prog 35 [(X.t (K.i (K.i (K.o (K.o (K.o K.z)))))), (X.t (K.i (K.o (K.i (K.o (K.o K.z))))))]) (Option.some (K.o (K.i (K.i (K.o (K.o K.z)))))) Gd.no [],
   .mk (mvR (X.t (K.o (K.i (K.i (K.o (K.o K.z))))))) (Option.some (K.i (K.i (K.o K.z)))) Gd.no []])
  (.seq (.region [.mk (mvR (X.t (K.o K.z))) (Option.some (K.i (K.i (K.i (K.o (K.o K.z)))))) Gd.no [],
   .mk (callS Try.prog 27 [(X.t (K.i (K.i (K.i (K.o (K.o K.z))))))]) (Option.some (K.o (K.o (K.o (K.i (K.o K.z)))))) Gd.no [],
   .mk (mvR (X.t (K.o (K.o (K.o (K.i (K.o K.z))))))) (Option.some (K.i (K.o (K.o (K.i (K.o K.z)))))) Gd.no [],
   .mk (mvR (X.t (K.o (K.o K.z)))) (Option.some (K.o (K.i (K.o (K.i (K.o K.z)))))) (Gd.on (K.i (K.o (K.o (K.i (K.o K.z))))) Bool.true) [],
   .mk (binR Try.prog EK.no Option.none Bool.true BinOp.eql (X.t (K.o (K.i (K.o (K.i (K.o K.z)))))) (X.c (AV.int IntKind.i64 1))) (Option.some (K.i (K.i (K.o (K.i (K.o K.z)))))) (Gd.on (K.i (K.o (K.o (K.i (K.o K.z))))) Bool.true) [],
   .mk (pickR (X.t (K.i (K.o (K.o (K.i (K.o K.z)))))) (X.t (K.i (K.i (K.o (K.i (K.o K.z)))))) (X.c (AV.bool Bool.false))) (Option.some (K.o (K.o (K.i (K.i (K.o K.z)))))) Gd.no [],
   .mk (mvR (X.t (K.o (K.o (K.i (K.i (K.o K.z))))))) (Option.some (K.i (K.o (K.i (K.i (K.o K.z)))))) Gd.no [],
   .mk (faR 2 (X.t (K.i K.z))) (Option.some (K.o (K.i (K.i (K.i (K.o K.z)))))) (Gd.on (K.i (K.o (K.i (K.i (K.o K.z))))) Bool.true) [],
   .mk (ldR Bool.false 1 (X.t (K.o (K.i (K.i (K.i (K.o K.z))))))) (Option.some (K.i (K.i (K.i (K.i (K.o K.z)))))) (Gd.on (K.i (K.o (K.i (K.i (K.o K.z))))) Bool.true) [],
   .mk (binR Try.prog EK.no Option.none Bool.true BinOp.eql (X.t (K.i (K.i (K.i (K.i (K.o K.z)))))) (X.c (AV.int IntKind.i64 2))) (Option.some (K.o (K.o (K.o (K.o (K.i K.z)))))) (Gd.on (K.i (K.o (K.i (K.i (K.o K.z))))) Bool.true) [],
   .mk (pickR (X.t (K.i (K.o (K.i (K.i (K.o K.z)))))) (X.t (K.o (K.o (K.o (K.o (K.i K.z)))))) (X.c (AV.bool Bool.false))) (Option.some (K.i (K.o (K.o (K.o (K.i K.z)))))) Gd.no [],
   .mk (mvR (X.t (K.i (K.o (K.o (K.o (K.i K.z))))))) (Option.some (K.o (K.i (K.o (K.o (K.i K.z)))))) Gd.no [],
   .mk (mvR (X.t (K.o (K.i K.z)))) (Option.some (K.i (K.i (K.o (K.o (K.i K.z)))))) (Gd.on (K.o (K.i (K.o (K.o (K.i K.z))))) Bool.true) [],
   .mk (binR Try.prog EK.no Option.none Bool.true BinOp.eql (X.t (K.i (K.i (K.o (K.o (K.i K.z)))))) (X.c (AV.int IntKind.i64 0))) (Option.some (K.o (K.o (K.i (K.o (K.i K.z)))))) (Gd.on (K.o (K.i (K.o (K.o (K.i K.z))))) Bool.true) [],
   .mk (pickR (X.t (K.o (K.i (K.o (K.o (K.i K.z)))))) (X.t (K.o (K.o (K.i (K.o (K.i K.z)))))) (X.c (AV.bool Bool.false))) (Option.some (K.i (K.o (K.i (K.o (K.i K.z)))))) Gd.no [],
   .mk (mvR (X.t (K.i (K.o (K.i (K.o (K.i K.z))))))) (Option.some (K.o (K.i (K.i (K.o (K.i K.z)))))) Gd.no [],
   .mk (mvR (X.t (K.o (K.o (K.o K.z))))) (Option.some (K.i (K.i (K.i (K.o (K.i K.z)))))) (Gd.on (K.o (K.i (K.i (K.o (K.i K.z))))) Bool.true) [],
   .mk (binR Try.prog EK.no Option.none Bool.true BinOp.eql (X.t (K.i (K.i (K.i (K.o (K.i K.z)))))) (X.c (AV.int IntKind.i64 2))) (Option.some (K.o (K.o (K.o (K.i (K.i K.z)))))) (Gd.on (K.o (K.i (K.i (K.o (K.i K.z))))) Bool.true) [],
   .mk (pickR (X.t (K.o (K.i (K.i (K.o (K.i K.z)))))) (X.t (K.o (K.o (K.o (K.i (K.i K.z)))))) (X.c (AV.bool Bool.false))) (Option.some (K.i (K.o (K.o (K.i (K.i K.z)))))) Gd.no [],
   .mk (mvR (X.t (K.i (K.o (K.o (K.i (K.i K.z))))))) (Option.some (K.o (K.i (K.o (K.i (K.i K.z)))))) Gd.no [],
   .mk (mvR (X.t (K.o (K.i (K.o K.z))))) (Option.some (K.i (K.i (K.o (K.i (K.i K.z)))))) (Gd.on (K.o (K.i (K.o (K.i (K.i K.z))))) Bool.true) [],
   .mk (binR Try.prog EK.no Option.none Bool.true BinOp.eql (X.t (K.i (K.i (K.o (K.i (K.i K.z)))))) (X.c (AV.int IntKind.i64 0))) (Option.some (K.o (K.o (K.i (K.i (K.i K.z)))))) (Gd.on (K.o (K.i (K.o (K.i (K.i K.z))))) Bool.true) [],
   .mk (pickR (X.t (K.o (K.i (K.o (K.i (K.i K.z)))))) (X.t (K.o (K.o (K.i (K.i (K.i K.z)))))) (X.c (AV.bool Bool.false))) (Option.some (K.i (K.o (K.i (K.i (K.i K.z)))))) Gd.no [],
   .mk (mvR (X.t (K.i (K.o (K.i (K.i (K.i K.z))))))) (Option.some (K.o (K.i (K.i (K.i (K.i K.z)))))) Gd.no [],
   .mk (mvR (X.t (K.i (K.i (K.o K.z))))) (Option.some (K.i (K.i (K.i (K.i (K.i K.z)))))) (Gd.on (K.o (K.i (K.i (K.i (K.i K.z))))) Bool.true) [],
   .mk (lenR LnK.slice (X.t (K.i (K.i (K.i (K.i (K.i K.z))))))) (Option.some (K.o (K.o (K.o (K.o (K.o (K.o K.z))))))) (Gd.on (K.o (K.i (K.i (K.i (K.i K.z))))) Bool.true) [],
   .mk (binR Try.prog EK.no Option.none Bool.true BinOp.eql (X.t (K.o (K.o (K.o (K.o (K.o (K.o K.z))))))) (X.c (AV.int IntKind.i64 1))) (Option.some (K.i (K.o (K.o (K.o (K.o (K.o K.z))))))) (Gd.on (K.o (K.i (K.i (K.i (K.i K.z))))) Bool.true) [],
   .mk (pickR (X.t (K.o (K.i (K.i (K.i (K.i K.z)))))) (X.t (K.i (K.o (K.o (K.o (K.o (K.o K.z))))))) (X.c (AV.bool Bool.false))) (Option.some (K.o (K.i (K.o (K.o (K.o (K.o K.z))))))) Gd.no [],
   .mk (mvR (X.t (K.o (K.i (K.o (K.o (K.o (K.o K.z)))))))) (Option.some (K.i (K.i (K.o (K.o (K.o (K.o K.z))))))) Gd.no [],
   .mk (mvR (X.t (K.i (K.i (K.o K.z))))) (Option.some (K.o (K.o (K.i (K.o (K.o (K.o K.z))))))) (Gd.on (K.i (K.i (K.o (K.o (K.o (K.o K.z)))))) Bool.true) [],
   .mk (iaS 6 (X.t (K.o (K.o (K.i (K.o (K.o (K.o K.z))))))) (X.c (AV.int IntKind.i64 0))) (Option.some (K.i (K.o (K.i (K.o (K.o (K.o K.z))))))) (Gd.on (K.i (K.i (K.o (K.o (K.o (K.o K.z)))))) Bool.true) [],
   .mk (faR 1 (X.t (K.i (K.o (K.i (K.o (K.o (K.o K.z)))))))) (Option.some (K.o (K.i (K.i (K.o (K.o (K.o K.z))))))) (Gd.on (K.i (K.i (K.o (K.o (K.o (K.o K.z)))))) Bool.true) [],
   .mk (ldR Bool.false 1 (X.t (K.o (K.i (K.i (K.o (K.o (K.o K.z)))))))) (Option.some (K.i (K.i (K.i (K.o (K.o (K.o K.z))))))) (Gd.on (K.i (K.i (K.o (K.o (K.o (K.o K.z)))))) Bool.true) [],
   .mk (binR Try.prog EK.no Option.none Bool.true BinOp.eql (X.t (K.i (K.i (K.i (K.o (K.o (K.o K.z))))))) (X.c (AV.int IntKind.i64 9))) (Option.some (K.o (K.o (K.o (K.i (K.o (K.o K.z))))))) (Gd.on (K.i (K.i (K.o (K.o (K.o (K.o K.z)))))) Bool.true) [],
   .mk (pickR (X.t (K.i (K.i (K.o (K.o (K.o (K.o K.z))))))) (X.t (K.o (K.o (K.o (K.i (K.o (K.o K.z))))))) (X.c (AV.bool Bool.false))) (Option.some (K.i (K.o (K.o (K.i (K.o (K.o K.z))))))) Gd.no [],
   .mk (mvR (X.t (K.i (K.o (K.o (K.i (K.o (K.o K.z)))))))) (Option.some (K.o (K.i (K.o (K.i (K.o (K.o K.z))))))) Gd.no [],
   .mk (mvR (X.t (K.o K.z))) (Option.some (K.i (K.i (K.o (K.i (K.o (K.o K.z))))))) (Gd.on (K.o (K.i (K.o (K.i (K.o (K.o K.z)))))) Bool.true) [],
   .mk (buildR [(AV.int IntKind.i64 0), (AV.int IntKind.i64 0), (AV.int IntKind.i64 0), (AV.str []), (AV.int IntKind.i64 0), AV.nils] [(0, (1, (X.c (AV.int IntKind.i64 1)))), (1, (1, (X.c (AV.int IntKind.i64 2))))]) (Option.some (K.o (K.o (K.i (K.i (K.o (K.o K.z))))))) (Gd.on (K.o (K.i (K.o (K.i (K.o (K.o K.z)))))) Bool.true) [],
   .mk (callS Try.prog 33 [(X.t (K.i (K.i (K.o (K.i (K.o (K.o K.z))))))), (X.t (K.o (K.o (K.i (K.i (K.o (K.o K.z)))))))]) (Option.some (K.i (K.o (K.i (K.i (K.o (K.o K.z))))))) (Gd.on (K.o (K.i (K.o (K.i (K.o (K.o K.z)))))) Bool.true) [],
   .mk (lenR LnK.slice (X.t (K.i (K.o (K.i (K.i (K.o (K.o K.z)))))))) (Option.some (K.o (K.i (K.i (K.i (K.o (K.o K.z))))))) (Gd.on (K.o (K.i (K.o (K.i (K.o (K.o K.z)))))) Bool.true) [],
   .mk (binR Try.prog EK.no Option.none Bool.true BinOp.eql (X.t (K.o (K.i (K.i (K.i (K.o (K.o K.z))))))) (X.c (AV.int IntKind.i64 1))) (Option.some (K.i (K.i (K.i (K.i (K.o (K.o K.z))))))) (Gd.on (K.o (K.i (K.o (K.i (K.o (K.o K.z)))))) Bool.true) [],
   .mk (pickR (X.t (K.o (K.i (K.o (K.i (K.o (K.o K.z))))))) (X.t (K.i (K.i (K.i (K.i (K.o (K.o K.z))))))) (X.c (AV.bool Bool.false))) (Option.some (K.o (K.o (K.o (K.o (K.i (K.o K.z))))))) Gd.no [],
   .mk (mvR (X.t (K.o (K.o (K.o (K.o (K.i (K.o K.z)))))))) (Option.some (K.i (K.o (K.o (K.o (K.i (K.o K.z))))))) Gd.no [],
   .mk (buildR [(AV.int IntKind.i64 0), (AV.int IntKind.i64 0), (AV.int IntKind.i64 0), (AV.str []), (AV.int IntKind.i64 0), AV.nils] []) (Option.some (K.o (K.i (K.o (K.o (K.i (K.o K.z))))))) (Gd.on (K.i (K.o (K.o (K.o (K.i (K.o K.z)))))) Bool.true) [],
   .mk (bslR 6 1 [(AV.int IntKind.i64 0), (AV.int IntKind.i64 0), (AV.int IntKind.i64 0), (AV.str []), (AV.int IntKind.i64 0), AV.nils] [(0, (X.t (K.o (K.i (K.o (K.o (K.i (K.o K.z))))))))]) (Option.some (K.i (K.i (K.o (K.o (K.i (K.o K.z))))))) (Gd.on (K.i (K.o (K.o (K.o (K.i (K.o K.z)))))) Bool.true) [],
   .mk (callS Try.prog 27 [(X.t (K.i (K.i (K.o (K.o (K.i (K.o K.z)))))))]) (Option.some (K.o (K.o (K.i (K.o (K.i (K.o K.z))))))) (Gd.on (K.i (K.o (K.o (K.o (K.i (K.o K.z)))))) Bool.true) [],
   .mk (unR UnOp.not (X.t (K.o (K.o (K.i (K.o (K.i (K.o K.z)))))))) (Option.some (K.i (K.o (K.i (K.o (K.i (K.o K.z))))))) (Gd.on (K.i (K.o (K.o (K.o (K.i (K.o K.z)))))) Bool.true) [],
   .mk (pickR (X.t (K.i (K.o (K.o (K.o (K.i (K.o K.z))))))) (X.t (K.i (K.o (K.i (K.o (K.i (K.o K.z))))))) (X.c (AV.bool Bool.false))) (Option.some (K.o (K.i (K.i (K.o (K.i (K.o K.z))))))) Gd.no [],
   .mk (mvR (X.t (K.o (K.i (K.i (K.o (K.i (K.o K.z)))))))) (Option.some K.z) Gd.no []])
  .ret))))))))
theorem C25ok : (match Try.f25.body with | some c => comp Try.prog 86 c | none => none) = some C25 := by kernel_rfl
@[go_sem] theorem call25 (args : List AV) (H : Heap) : callC Try.prog 25 args H = .call 25 args := callC_ok (by kernel_rfl) args H
theorem R25ok : resKs Try.prog Try.f25.results.toList = some [(RK.tmp K.z)] := by kernel_rfl

/- 26: estuary/estuarylaw14.few -/
noncomputable def C26L0 : CC :=
  (.seq (.seq (.region [.mk (mvR (X.t (K.o (K.o K.z)))) (Option.some (K.i (K.o K.z))) Gd.no [],
   .mk (mvR (X.t K.z)) (Option.some (K.o (K.i K.z))) Gd.no [],
   .mk (lenR LnK.slice (X.t (K.o (K.i K.z)))) (Option.some (K.i (K.i K.z))) Gd.no [],
   .mk (binR Try.prog EK.no Option.none Bool.false BinOp.lss (X.t (K.i (K.o K.z))) (X.t (K.i (K.i K.z)))) (Option.some (K.o (K.o (K.o K.z)))) Gd.no []])
  (.cond (X.t (K.o (K.o (K.o K.z))))
  .skip
  (.exit 0)))
  (.seq (.block 1 (.seq (.region [.mk (mvR (X.t K.z)) (Option.some (K.i (K.i (K.o K.z)))) Gd.no [],
   .mk (mvR (X.t (K.o (K.o K.z)))) (Option.some (K.o (K.o (K.i K.z)))) Gd.no [],
   .mk (iaS 6 (X.t (K.i (K.i (K.o K.z)))) (X.t (K.o (K.o (K.i K.z))))) (Option.some (K.i (K.o (K.i K.z)))) Gd.no [],
   .mk (faR 2 (X.t (K.i (K.o (K.i K.z))))) (Option.some (K.o (K.i (K.i K.z)))) Gd.no [],
   .mk (faR 1 (X.t (K.o (K.i (K.i K.z))))) (Option.some (K.i (K.i (K.i K.z)))) Gd.no [],
   .mk (ldR Bool.false 1 (X.t (K.i (K.i (K.i K.z))))) (Option.some (K.o (K.o (K.o (K.o K.z))))) Gd.no [],
   .mk (lenR LnK.str (X.t (K.o (K.o (K.o (K.o K.z)))))) (Option.some (K.i (K.o (K.o (K.o K.z))))) Gd.no [],
   .mk (binR Try.prog EK.no Option.none Bool.true BinOp.gtr (X.t (K.i (K.o (K.o (K.o K.z))))) (X.c (AV.int IntKind.i64 60))) (Option.some (K.o (K.i (K.o (K.o K.z))))) Gd.no [],
   .mk (mvR (X.t (K.o (K.i (K.o (K.o K.z)))))) (Option.some (K.i (K.i (K.o (K.o K.z))))) Gd.no [],
   .mk (mvR (X.t K.z)) (Option.some (K.o (K.o (K.i (K.o K.z))))) (Gd.on (K.i (K.i (K.o (K.o K.z)))) Bool.false) [],
   .mk (mvR (X.t (K.o (K.o K.z)))) (Option.some (K.i (K.o (K.i (K.o K.z))))) (Gd.on (K.i (K.i (K.o (K.o K.z)))) Bool.false) [],
   .mk (iaS 6 (X.t (K.o (K.o (K.i (K.o K.z))))) (X.t (K.i (K.o (K.i (K.o K.z)))))) (Option.some (K.o (K.i (K.i (K.o K.z))))) (Gd.on (K.i (K.i (K.o (K.o K.z)))) Bool.false) [],
   .mk (faR 2 (X.t (K.o (K.i (K.i (K.o K.z)))))) (Option.some (K.i (K.i (K.i (K.o K.z))))) (Gd.on (K.i (K.i (K.o (K.o K.z)))) Bool.false) [],
   .mk (faR 3 (X.t (K.i (K.i (K.i (K.o K.z)))))) (Option.some (K.o (K.o (K.o (K.i K.z))))) (Gd.on (K.i (K.i (K.o (K.o K.z)))) Bool.false) [],
   .mk (ldR Bool.false 1 (X.t (K.o (K.o (K.o (K.i K.z)))))) (Option.some (K.i (K.o (K.o (K.i K.z))))) (Gd.on (K.i (K.i (K.o (K.o K.z)))) Bool.false) [],
   .mk (lenR LnK.slice (X.t (K.i (K.o (K.o (K.i K.z)))))) (Option.some (K.o (K.i (K.o (K.i K.z))))) (Gd.on (K.i (K.i (K.o (K.o K.z)))) Bool.false) [],
   .mk (binR Try.prog EK.no Option.none Bool.true BinOp.gtr (X.t (K.o (K.i (K.o (K.i K.z))))) (X.c (AV.int IntKind.i64 8))) (Option.some (K.i (K.i (K.o (K.i K.z))))) (Gd.on (K.i (K.i (K.o (K.o K.z)))) Bool.false) [],
   .mk (pickR (X.t (K.i (K.i (K.o (K.o K.z))))) (X.c (AV.bool Bool.true)) (X.t (K.i (K.i (K.o (K.i K.z)))))) (Option.some (K.o (K.o (K.i (K.i K.z))))) Gd.no []])
  (.cond (X.t (K.o (K.o (K.i (K.i K.z)))))
  (.seq (.region [.mk (mvR (X.c (AV.bool Bool.false))) (Option.some (K.i K.z)) Gd.no []])
  .ret)
  .skip)))
  (.region [.mk (mvR (X.t (K.o (K.o K.z)))) (Option.some (K.i (K.o (K.o K.z)))) Gd.no [],
   .mk (binR Try.prog EK.no Option.none Bool.true BinOp.add (X.t (K.i (K.o (K.o K.z)))) (X.c (AV.int IntKind.i64 1))) (Option.some (K.o (K.i (K.o K.z)))) Gd.no [],
   .mk (mvR (X.t (K.o (K.i (K.o K.z))))) (Option.some (K.o (K.o K.z))) Gd.no []])))
noncomputable def C26 : CC :=
  (.seq (.region [.mk (mvR (X.c (AV.bool Bool.false))) (Option.some (K.i K.z)) Gd.no []])
  (.seq (.seq (.region [.mk (mvR (X.c (AV.int IntKind.i64 0))) (Option.some (K.o (K.o K.z))) Gd.no []])
  (.block 0 (.loop C26L0)))
  (.seq (.region [.mk (mvR (X.t K.z)) (Option.some (K.i (K.o (K.i (K.i K.z))))) Gd.no [],
   .mk (lenR LnK.slice (X.t (K.i (K.o (K.i (K.i K.z)))))) (Option.some (K.o (K.i (K.i (K.i K.z))))) Gd.no [],
   .mk (binR Try.prog EK.no Option.none Bool.true BinOp.leq (X.t (K.o (K.i (K.i (K.i K.z))))) (X.c (AV.int IntKind.i64 10))) (Option.some (K.i (K.i (K.i (K.i K.z))))) Gd.no [],
   .mk (mvR (X.t (K.i (K.i (K.i (K.i K.z)))))) (Option.some (K.i K.z)) Gd.no []])
  .ret)))
theorem C26ok : (match Try.f26.body with | some c => comp Try.prog 31 c | none => none) = some C26 := by kernel_rfl
@[go_sem] theorem call26 (args : List AV) (H : Heap) : callC Try.prog 26 args H = .call 26 args := callC_ok (by kernel_rfl) args H
theorem R26ok : resKs Try.prog Try.f26.results.toList = some [(RK.tmp (K.i K.z))] := by kernel_rfl

/- 27: estuary/once.Is -/
noncomputable def C27L0 : CC :=
  (.seq (.region [.mk (binR Try.prog EK.no Option.none Bool.false BinOp.lss (X.t (K.o (K.o (K.o K.z)))) (X.t (K.i (K.i K.z)))) (Option.some (K.i (K.o (K.o K.z)))) Gd.no []])
  (.seq (.cond (X.t (K.i (K.o (K.o K.z))))
  .skip
  (.exit 0))
  (.seq (.block 1 (.seq (.region [.mk (mvR (X.t (K.o (K.o (K.o K.z))))) (Option.some (K.o (K.i (K.o K.z)))) Gd.no [],
   .mk (iaS 6 (X.t (K.o (K.i K.z))) (X.t (K.o (K.o (K.o K.z))))) (Option.some (K.i (K.i (K.o K.z)))) Gd.no [],
   .mk (ldR Bool.true 6 (X.t (K.i (K.i (K.o K.z))))) (Option.some (K.o (K.o (K.i K.z)))) Gd.no [],
   .mk (fun _ H => newC Bool.false [(AV.int IntKind.i64 0), (AV.int IntKind.i64 0), (AV.int IntKind.i64 0), (AV.str []), (AV.int IntKind.i64 0), AV.nils] H) (Option.some (K.i (K.o K.z))) Gd.no [],
   .mk (mvR (X.t (K.o (K.i (K.o K.z))))) (Option.some (K.o (K.o K.z))) Gd.no [],
   .mk (stR 6 (X.t (K.i (K.o K.z))) (X.t (K.o (K.o (K.i K.z))))) Option.none Gd.no []])
  (.block 2 (.seq (.block 5 (.block 4 (.block 3 (.seq (.seq (.seq (.region [.mk (faR 0 (X.t (K.i (K.o K.z)))) (Option.some (K.o (K.i (K.i K.z)))) Gd.no [],
   .mk (ldR Bool.false 1 (X.t (K.o (K.i (K.i K.z))))) (Option.some (K.i (K.i (K.i K.z)))) Gd.no [],
   .mk (binR Try.prog EK.no Option.none Bool.true BinOp.lss (X.t (K.i (K.i (K.i K.z)))) (X.c (AV.int IntKind.i64 0))) (Option.some (K.o (K.o (K.o (K.o K.z))))) Gd.no [],
   .mk (mvR (X.t (K.o (K.o (K.o (K.o K.z)))))) (Option.some (K.i (K.o (K.o (K.o K.z))))) Gd.no [],
   .mk (faR 0 (X.t (K.i (K.o K.z)))) (Option.some (K.o (K.i (K.o (K.o K.z))))) (Gd.on (K.i (K.o (K.o (K.o K.z)))) Bool.false) [],
   .mk (ldR Bool.false 1 (X.t (K.o (K.i (K.o (K.o K.z)))))) (Option.some (K.i (K.i (K.o (K.o K.z))))) (Gd.on (K.i (K.o (K.o (K.o K.z)))) Bool.false) [],
   .mk (binR Try.prog EK.no Option.none Bool.true BinOp.geq (X.t (K.i (K.i (K.o (K.o K.z))))) (X.c (AV.int IntKind.i64 3))) (Option.some (K.o (K.o (K.i (K.o K.z))))) (Gd.on (K.i (K.o (K.o (K.o K.z)))) Bool.false) [],
   .mk (pickR (X.t (K.i (K.o (K.o (K.o K.z))))) (X.c (AV.bool Bool.true)) (X.t (K.o (K.o (K.i (K.o K.z)))))) (Option.some (K.i (K.o (K.i (K.o K.z))))) Gd.no [],
   .mk (mvR (X.t (K.i (K.o (K.i (K.o K.z)))))) (Option.some (K.i (K.o (K.i K.z)))) Gd.no []])
  (.cond (X.t (K.i (K.o (K.i K.z))))
  (.exit 3)
  .skip))
  (.seq (.seq (.regionD [.mk (keepH (mvR (X.t (K.o (K.o K.z))))) (Option.some (K.i (K.i (K.i (K.o K.z))))) Gd.no [],
   .mk (keepH (binR Try.prog EK.no Option.none Bool.true BinOp.gtr (X.t (K.i (K.i (K.i (K.o K.z))))) (X.c (AV.int IntKind.i64 0)))) (Option.some (K.o (K.o (K.o (K.i K.z))))) Gd.no [],
   .mk (keepH (mvR (X.t (K.o (K.o (K.o (K.i K.z))))))) (Option.some (K.i (K.o (K.o (K.i K.z))))) Gd.no [],
   .mk (keepH (faR 0 (X.t (K.i (K.o K.z))))) (Option.some (K.o (K.o (K.o (K.o (K.o K.z)))))) (Gd.on (K.i (K.o (K.o (K.i K.z)))) Bool.true) [],
   .mk (keepH (ldR Bool.false 1 (X.t (K.o (K.o (K.o (K.o (K.o K.z)))))))) (Option.some (K.i (K.o (K.o (K.o (K.o K.z)))))) (Gd.on (K.i (K.o (K.o (K.i K.z)))) Bool.true) [],
   .mk (keepH (mvR (X.t (K.o (K.o K.z))))) (Option.some (K.i (K.i (K.o (K.i K.z))))) (Gd.on (K.i (K.o (K.o (K.i K.z)))) Bool.true) [],
   .mk (keepH (binR Try.prog EK.no Option.none Bool.true BinOp.sub (X.t (K.i (K.i (K.o (K.i K.z))))) (X.c (AV.int IntKind.i64 1)))) (Option.some (K.o (K.o (K.i (K.i K.z))))) (Gd.on (K.i (K.o (K.o (K.i K.z)))) Bool.true) [],
   .mk (keepH (mvR (X.t K.z))) (Option.some (K.o (K.i (K.o (K.i K.z))))) (Gd.on (K.i (K.o (K.o (K.i K.z)))) Bool.true) [],
   .mk (keepH (iaS 6 (X.t (K.o (K.i (K.o (K.i K.z))))) (X.t (K.o (K.o (K.i (K.i K.z))))))) (Option.some (K.i (K.o (K.i (K.i K.z))))) (Gd.on (K.i (K.o (K.o (K.i K.z)))) Bool.true) [],
   .mk (keepH (faR 0 (X.t (K.i (K.o (K.i (K.i K.z))))))) (Option.some (K.o (K.i (K.i (K.i K.z))))) (Gd.on (K.i (K.o (K.o (K.i K.z)))) Bool.true) [],
   .mk (keepH (ldR Bool.false 1 (X.t (K.o (K.i (K.i (K.i K.z))))))) (Option.some (K.i (K.i (K.i (K.i K.z))))) (Gd.on (K.i (K.o (K.o (K.i K.z)))) Bool.true) [],
   .mk (keepH (binR Try.prog EK.no Option.none Bool.false BinOp.geq (X.t (K.i (K.i (K.i (K.i K.z))))) (X.t (K.i (K.o (K.o (K.o (K.o K.z)))))))) (Option.some (K.o (K.i (K.o (K.o (K.o K.z)))))) (Gd.on (K.i (K.o (K.o (K.i K.z)))) Bool.true) [],
   .mk (keepH (pickR (X.t (K.i (K.o (K.o (K.i K.z))))) (X.t (K.o (K.i (K.o (K.o (K.o K.z)))))) (X.c (AV.bool Bool.false)))) (Option.some (K.i (K.i (K.o (K.o (K.o K.z)))))) Gd.no [],
   .mk (mvR (X.t (K.i (K.i (K.o (K.o (K.o K.z))))))) (Option.some (K.o (K.i (K.i (K.o K.z))))) Gd.no []])
  (.cond (X.t (K.o (K.i (K.i (K.o K.z)))))
  (.exit 4)
  .skip))
  (.seq (.region [.mk (faR 1 (X.t (K.i (K.o K.z)))) (Option.some (K.i (K.o (K.i (K.o (K.o K.z)))))) Gd.no [],
   .mk (ldR Bool.false 1 (X.t (K.i (K.o (K.i (K.o (K.o K.z))))))) (Option.some (K.o (K.i (K.i (K.o (K.o K.z)))))) Gd.no [],
   .mk (binR Try.prog EK.no Option.none Bool.true BinOp.lss (X.t (K.o (K.i (K.i (K.o (K.o K.z)))))) (X.c (AV.int IntKind.i64 1))) (Option.some (K.i (K.i (K.i (K.o (K.o K.z)))))) Gd.no [],
   .mk (mvR (X.t (K.i (K.i (K.i (K.o (K.o K.z))))))) (Option.some (K.o (K.o (K.o (K.i (K.o K.z)))))) Gd.no [],
   .mk (faR 1 (X.t (K.i (K.o K.z)))) (Option.some (K.i (K.o (K.o (K.i (K.o K.z)))))) (Gd.on (K.o (K.o (K.o (K.i (K.o K.z))))) Bool.false) [],
   .mk (ldR Bool.false 1 (X.t (K.i (K.o (K.o (K.i (K.o K.z))))))) (Option.some (K.o (K.i (K.o (K.i (K.o K.z)))))) (Gd.on (K.o (K.o (K.o (K.i (K.o K.z))))) Bool.false) [],
   .mk (binR Try.prog EK.no Option.none Bool.true BinOp.gtr (X.t (K.o (K.i (K.o (K.i (K.o K.z)))))) (X.c (AV.int IntKind.i64 1000000000000))) (Option.some (K.i (K.i (K.o (K.i (K.o K.z)))))) (Gd.on (K.o (K.o (K.o (K.i (K.o K.z))))) Bool.false) [],
   .mk (pickR (X.t (K.o (K.o (K.o (K.i (K.o K.z)))))) (X.c (AV.bool Bool.true)) (X.t (K.i (K.i (K.o (K.i (K.o K.z))))))) (Option.some (K.o (K.o (K.i (K.i (K.o K.z)))))) Gd.no [],
   .mk (mvR (X.t (K.o (K.o (K.i (K.i (K.o K.z))))))) (Option.some (K.i (K.o (K.i (K.i (K.o K.z)))))) Gd.no [],
   .mk (faR 2 (X.t (K.i (K.o K.z)))) (Option.some (K.o (K.i (K.i (K.i (K.o K.z)))))) (Gd.on (K.i (K.o (K.i (K.i (K.o K.z))))) Bool.false) [],
   .mk (ldR Bool.true 4 (X.t (K.o (K.i (K.i (K.i (K.o K.z))))))) (Option.some (K.i (K.i (K.i (K.i (K.o K.z)))))) (Gd.on (K.i (K.o (K.i (K.i (K.o K.z))))) Bool.false) [],
   .mk (callS Try.prog 53 [(X.t (K.i (K.i (K.i (K.i (K.o K.z))))))]) (Option.some (K.o (K.o (K.o (K.o (K.i K.z)))))) (Gd.on (K.i (K.o (K.i (K.i (K.o K.z))))) Bool.false) [],
   .mk (binR Try.prog EK.no Option.none Bool.true BinOp.eql (X.t (K.o (K.o (K.o (K.o (K.i K.z)))))) (X.c (AV.str []))) (Option.some (K.i (K.o (K.o (K.o (K.i K.z)))))) (Gd.on (K.i (K.o (K.i (K.i (K.o K.z))))) Bool.false) [],
   .mk (pickR (X.t (K.i (K.o (K.i (K.i (K.o K.z)))))) (X.c (AV.bool Bool.true)) (X.t (K.i (K.o (K.o (K.o (K.i K.z))))))) (Option.some (K.o (K.i (K.o (K.o (K.i K.z)))))) Gd.no [],
   .mk (mvR (X.t (K.o (K.i (K.o (K.o (K.i K.z))))))) (Option.some (K.o (K.o (K.i (K.o (K.o K.z)))))) Gd.no []])
  (.cond (X.t (K.o (K.o (K.i (K.o (K.o K.z))))))
  (.exit 5)
  .skip))))
  (.exit 2)))))
  (.seq (.seq (.region [.mk (mvR (X.c (AV.bool Bool.false))) (Option.some (K.i K.z)) Gd.no []])
  .ret)
  (.exit 2))))))
  (.region [.mk (binR Try.prog EK.no Option.none Bool.true BinOp.add (X.t (K.o (K.o (K.o K.z)))) (X.c (AV.int IntKind.i64 1))) (Option.some (K.i (K.i (K.o (K.o (K.i K.z)))))) Gd.no [],
   .mk (mvR (X.t (K.i (K.i (K.o (K.o (K.i K.z))))))) (Option.some (K.o (K.o (K.o K.z)))) Gd.no []]))))
noncomputable def C27 : CC :=
  (.seq (.region [.mk (mvR (X.c (AV.bool Bool.false))) (Option.some (K.i K.z)) Gd.no []])
  (.seq (.seq (.region [.mk (mvR (X.t K.z)) (Option.some (K.o (K.i K.z))) Gd.no [],
   .mk (lenR LnK.slice (X.t (K.o (K.i K.z)))) (Option.some (K.i (K.i K.z))) Gd.no [],
   .mk (mvR (X.c (AV.int IntKind.i64 0))) (Option.some (K.o (K.o (K.o K.z)))) Gd.no []])
  (.block 0 (.loop C27L0)))
  (.seq (.region [.mk (mvR (X.c (AV.bool Bool.true))) (Option.some (K.i K.z)) Gd.no []])
  .ret)))
theorem C27ok : (match Try.f27.body with | some c => comp Try.prog 51 c | none => none) = some C27 := by kernel_rfl
@[go_sem] theorem call27 (args : List AV) (H : Heap) : callC Try.prog 27 args H = .call 27 args := callC_ok (by kernel_rfl) args H
theorem R27ok : resKs Try.prog Try.f27.results.toList = some [(RK.tmp (K.i K.z))] := by kernel_rfl

/- 28: estuary/estuaryref11.IsDone -/
noncomputable def C28L0 : CC :=
  (.seq (.seq (.region [.mk (mvR (X.t (K.o (K.o K.z)))) (Option.some (K.i (K.o K.z))) Gd.no [],
   .mk (mvR (X.t K.z)) (Option.some (K.o (K.i K.z))) Gd.no [],
   .mk (lenR LnK.slice (X.t (K.o (K.i K.z)))) (Option.some (K.i (K.i K.z))) Gd.no [],
   .mk (binR Try.prog EK.no Option.none Bool.false BinOp.lss (X.t (K.i (K.o K.z))) (X.t (K.i (K.i K.z)))) (Option.some (K.o (K.o (K.o K.z)))) Gd.no []])
  (.cond (X.t (K.o (K.o (K.o K.z))))
  .skip
  (.exit 0)))
  (.seq (.block 1 (.seq (.regionD [.mk (keepH (mvR (X.t (K.o (K.o K.z))))) (Option.some (K.o (K.o (K.i K.z)))) Gd.no [],
   .mk (keepH (mvR (X.t K.z))) (Option.some (K.i (K.i (K.o K.z)))) Gd.no [],
   .mk (keepH (iaS 6 (X.t (K.i (K.i (K.o K.z)))) (X.t (K.o (K.o (K.i K.z)))))) (Option.some (K.i (K.o (K.i K.z)))) Gd.no [],
   .mk (keepH (faR 0 (X.t (K.i (K.o (K.i K.z)))))) (Option.some (K.o (K.i (K.i K.z)))) Gd.no [],
   .mk (keepH (ldR Bool.false 1 (X.t (K.o (K.i (K.i K.z)))))) (Option.some (K.i (K.i (K.i K.z)))) Gd.no [],
   .mk (keepH (binR Try.prog EK.no Option.none Bool.true BinOp.lss (X.t (K.i (K.i (K.i K.z)))) (X.c (AV.int IntKind.i64 0)))) (Option.some (K.o (K.o (K.o (K.o K.z))))) Gd.no [],
   .mk (keepH (mvR (X.t (K.o (K.o (K.o (K.o K.z))))))) (Option.some (K.i (K.o (K.o (K.o K.z))))) Gd.no [],
   .mk (keepH (mvR (X.t (K.o (K.o K.z))))) (Option.some (K.i (K.i (K.o (K.o K.z))))) (Gd.on (K.i (K.o (K.o (K.o K.z)))) Bool.false) [],
   .mk (keepH (mvR (X.t K.z))) (Option.some (K.o (K.i (K.o (K.o K.z))))) (Gd.on (K.i (K.o (K.o (K.o K.z)))) Bool.false) [],
   .mk (keepH (iaS 6 (X.t (K.o (K.i (K.o (K.o K.z))))) (X.t (K.i (K.i (K.o (K.o K.z))))))) (Option.some (K.o (K.o (K.i (K.o K.z))))) (Gd.on (K.i (K.o (K.o (K.o K.z)))) Bool.false) [],
   .mk (keepH (faR 0 (X.t (K.o (K.o (K.i (K.o K.z))))))) (Option.some (K.i (K.o (K.i (K.o K.z))))) (Gd.on (K.i (K.o (K.o (K.o K.z)))) Bool.false) [],
   .mk (keepH (ldR Bool.false 1 (X.t (K.i (K.o (K.i (K.o K.z))))))) (Option.some (K.o (K.i (K.i (K.o K.z))))) (Gd.on (K.i (K.o (K.o (K.o K.z)))) Bool.false) [],
   .mk (keepH (binR Try.prog EK.no Option.none Bool.true BinOp.geq (X.t (K.o (K.i (K.i (K.o K.z))))) (X.c (AV.int IntKind.i64 3)))) (Option.some (K.i (K.i (K.i (K.o K.z))))) (Gd.on (K.i (K.o (K.o (K.o K.z)))) Bool.false) [],
   .mk (keepH (pickR (X.t (K.i (K.o (K.o (K.o K.z))))) (X.c (AV.bool Bool.true)) (X.t (K.i (K.i (K.i (K.o K.z))))))) (Option.some (K.o (K.o (K.o (K.i K.z))))) Gd.no [],
   .mk (keepH (mvR (X.t (K.o (K.o (K.o (K.i K.z))))))) (Option.some (K.i (K.o (K.o (K.i K.z))))) Gd.no [],
   .mk (keepH (mvR (X.t (K.o (K.o K.z))))) (Option.some (K.i (K.i (K.o (K.i K.z))))) (Gd.on (K.i (K.o (K.o (K.i K.z)))) Bool.false) [],
   .mk (keepH (mvR (X.t K.z))) (Option.some (K.o (K.i (K.o (K.i K.z))))) (Gd.on (K.i (K.o (K.o (K.i K.z)))) Bool.false) [],
   .mk (keepH (iaS 6 (X.t (K.o (K.i (K.o (K.i K.z))))) (X.t (K.i (K.i (K.o (K.i K.z))))))) (Option.some (K.o (K.o (K.i (K.i K.z))))) (Gd.on (K.i (K.o (K.o (K.i K.z)))) Bool.false) [],
   .mk (keepH (faR 1 (X.t (K.o (K.o (K.i (K.i K.z))))))) (Option.some (K.i (K.o (K.i (K.i K.z))))) (Gd.on (K.i (K.o (K.o (K.i K.z)))) Bool.false) [],
   .mk (keepH (ldR Bool.false 1 (X.t (K.i (K.o (K.i (K.i K.z))))))) (Option.some (K.o (K.i (K.i (K.i K.z))))) (Gd.on (K.i (K.o (K.o (K.i K.z)))) Bool.false) [],
   .mk (keepH (binR Try.prog EK.no Option.none Bool.true BinOp.lss (X.t (K.o (K.i (K.i (K.i K.z))))) (X.c (AV.int IntKind.i64 1)))) (Option.some (K.i (K.i (K.i (K.i K.z))))) (Gd.on (K.i (K.o (K.o (K.i K.z)))) Bool.false) [],
   .mk (keepH (pickR (X.t (K.i (K.o (K.o (K.i K.z))))) (X.c (AV.bool Bool.true)) (X.t (K.i (K.i (K.i (K.i K.z))))))) (Option.some (K.o (K.o (K.o (K.o (K.o K.z)))))) Gd.no [],
   .mk (keepH (mvR (X.t (K.o (K.o (K.o (K.o (K.o K.z)))))))) (Option.some (K.i (K.o (K.o (K.o (K.o K.z)))))) Gd.no [],
   .mk (keepH (mvR (X.t (K.o (K.o K.z))))) (Option.some (K.i (K.i (K.o (K.o (K.o K.z)))))) (Gd.on (K.i (K.o (K.o (K.o (K.o K.z))))) Bool.false) [],
   .mk (keepH (mvR (X.t K.z))) (Option.some (K.o (K.i (K.o (K.o (K.o K.z)))))) (Gd.on (K.i (K.o (K.o (K.o (K.o K.z))))) Bool.false) [],
   .mk (keepH (iaS 6 (X.t (K.o (K.i (K.o (K.o (K.o K.z)))))) (X.t (K.i (K.i (K.o (K.o (K.o K.z)))))))) (Option.some (K.o (K.o (K.i (K.o (K.o K.z)))))) (Gd.on (K.i (K.o (K.o (K.o (K.o K.z))))) Bool.false) [],
   .mk (keepH (faR 1 (X.t (K.o (K.o (K.i (K.o (K.o K.z)))))))) (Option.some (K.i (K.o (K.i (K.o (K.o K.z)))))) (Gd.on (K.i (K.o (K.o (K.o (K.o K.z))))) Bool.false) [],
   .mk (keepH (ldR Bool.false 1 (X.t (K.i (K.o (K.i (K.o (K.o K.z)))))))) (Option.some (K.o (K.i (K.i (K.o (K.o K.z)))))) (Gd.on (K.i (K.o (K.o (K.o (K.o K.z))))) Bool.false) [],
   .mk (keepH (binR Try.prog EK.no Option.none Bool.true BinOp.gtr (X.t (K.o (K.i (K.i (K.o (K.o K.z)))))) (X.c (AV.int IntKind.i64 1000000000000)))) (Option.some (K.i (K.i (K.i (K.o (K.o K.z)))))) (Gd.on (K.i (K.o (K.o (K.o (K.o K.z))))) Bool.false) [],
   .mk (keepH (pickR (X.t (K.i (K.o (K.o (K.o (K.o K.z)))))) (X.c (AV.bool Bool.true)) (X.t (K.i (K.i (K.i (K.o (K.o K.z)))))))) (Option.some (K.o (K.o (K.o (K.i (K.o K.z)))))) Gd.no [],
   .mk (keepH (mvR (X.t (K.o (K.o (K.o (K.i (K.o K.z)))))))) (Option.some (K.i (K.o (K.o (K.i (K.o K.z)))))) Gd.no [],
   .mk (keepH (mvR (X.t (K.o (K.o K.z))))) (Option.some (K.i (K.i (K.o (K.i (K.o K.z)))))) (Gd.on (K.i (K.o (K.o (K.i (K.o K.z))))) Bool.false) [],
   .mk (keepH (mvR (X.t K.z))) (Option.some (K.o (K.i (K.o (K.i (K.o K.z)))))) (Gd.on (K.i (K.o (K.o (K.i (K.o K.z))))) Bool.false) [],
   .mk (keepH (iaS 6 (X.t (K.o (K.i (K.o (K.i (K.o K.z)))))) (X.t (K.i (K.i (K.o (K.i (K.o K.z)))))))) (Option.some (K.o (K.o (K.i (K.i (K.o K.z)))))) (Gd.on (K.i (K.o (K.o (K.i (K.o K.z))))) Bool.false) [],
   .mk (keepH (faR 2 (X.t (K.o (K.o (K.i (K.i (K.o K.z)))))))) (Option.some (K.i (K.o (K.i (K.i (K.o K.z)))))) (Gd.on (K.i (K.o (K.o (K.i (K.o K.z))))) Bool.false) [],
   .mk (keepH (ldR Bool.true 4 (X.t (K.i (K.o (K.i (K.i (K.o K.z)))))))) (Option.some (K.o (K.i (K.i (K.i (K.o K.z)))))) (Gd.on (K.i (K.o (K.o (K.i (K.o K.z))))) Bool.false) [],
   .mk (callS Try.prog 54 [(X.t (K.o (K.i (K.i (K.i (K.o K.z))))))]) (Option.some (K.i (K.i (K.i (K.i (K.o K.z)))))) (Gd.on (K.i (K.o (K.o (K.i (K.o K.z))))) Bool.false) [],
   .mk (keepH (unR UnOp.not (X.t (K.i (K.i (K.i (K.i (K.o K.z)))))))) (Option.some (K.o (K.o (K.o (K.o (K.i K.z)))))) (Gd.on (K.i (K.o (K.o (K.i (K.o K.z))))) Bool.false) [],
   .mk (keepH (pickR (X.t (K.i (K.o (K.o (K.i (K.o K.z)))))) (X.c (AV.bool Bool.true)) (X.t (K.o (K.o (K.o (K.o (K.i K.z)))))))) (Option.some (K.i (K.o (K.o (K.o (K.i K.z)))))) Gd.no [],
   .mk (keepH (mvR (X.t (K.i (K.o (K.o (K.o (K.i K.z)))))))) (Option.some (K.o (K.i (K.o (K.o (K.i K.z)))))) Gd.no [],
   .mk (keepH (mvR (X.t (K.o (K.o K.z))))) (Option.some (K.i (K.i (K.o (K.o (K.i K.z)))))) (Gd.on (K.o (K.i (K.o (K.o (K.i K.z))))) Bool.false) [],
   .mk (keepH (binR Try.prog EK.no Option.none Bool.true BinOp.gtr (X.t (K.i (K.i (K.o (K.o (K.i K.z)))))) (X.c (AV.int IntKind.i64 0)))) (Option.some (K.o (K.o (K.i (K.o (K.i K.z)))))) (Gd.on (K.o (K.i (K.o (K.o (K.i K.z))))) Bool.false) [],
   .mk (keepH (mvR (X.t (K.o (K.o (K.i (K.o (K.i K.z)))))))) (Option.some (K.i (K.o (K.i (K.o (K.i K.z)))))) (Gd.on (K.o (K.i (K.o (K.o (K.i K.z))))) Bool.false) [],
   .mk (keepH (mvR (X.t (K.o (K.o K.z))))) (Option.some (K.i (K.o (K.i (K.i (K.i K.z)))))) (Gd.on (K.i (K.o (K.i (K.o (K.i K.z))))) Bool.true) [],
   .mk (keepH (mvR (X.t K.z))) (Option.some (K.o (K.o (K.i (K.i (K.i K.z)))))) (Gd.on (K.i (K.o (K.i (K.o (K.i K.z))))) Bool.true) [],
   .mk (keepH (iaS 6 (X.t (K.o (K.o (K.i (K.i (K.i K.z)))))) (X.t (K.i (K.o (K.i (K.i (K.i K.z)))))))) (Option.some (K.o (K.i (K.i (K.i (K.i K.z)))))) (Gd.on (K.i (K.o (K.i (K.o (K.i K.z))))) Bool.true) [],
   .mk (keepH (faR 0 (X.t (K.o (K.i (K.i (K.i (K.i K.z)))))))) (Option.some (K.i (K.i (K.i (K.i (K.i K.z)))))) (Gd.on (K.i (K.o (K.i (K.o (K.i K.z))))) Bool.true) [],
   .mk (keepH (ldR Bool.false 1 (X.t (K.i (K.i (K.i (K.i (K.i K.z)))))))) (Option.some (K.o (K.o (K.o (K.o (K.o (K.o K.z))))))) (Gd.on (K.i (K.o (K.i (K.o (K.i K.z))))) Bool.true) [],
   .mk (keepH (mvR (X.t (K.o (K.o K.z))))) (Option.some (K.i (K.i (K.i (K.o (K.i K.z)))))) (Gd.on (K.i (K.o (K.i (K.o (K.i K.z))))) Bool.true) [],
   .mk (keepH (binR Try.prog EK.no Option.none Bool.true BinOp.sub (X.t (K.i (K.i (K.i (K.o (K.i K.z)))))) (X.c (AV.int IntKind.i64 1)))) (Option.some (K.o (K.o (K.o (K.i (K.i K.z)))))) (Gd.on (K.i (K.o (K.i (K.o (K.i K.z))))) Bool.true) [],
   .mk (keepH (mvR (X.t K.z))) (Option.some (K.o (K.i (K.i (K.o (K.i K.z)))))) (Gd.on (K.i (K.o (K.i (K.o (K.i K.z))))) Bool.true) [],
   .mk (keepH (iaS 6 (X.t (K.o (K.i (K.i (K.o (K.i K.z)))))) (X.t (K.o (K.o (K.o (K.i (K.i K.z)))))))) (Option.some (K.i (K.o (K.o (K.i (K.i K.z)))))) (Gd.on (K.i (K.o (K.i (K.o (K.i K.z))))) Bool.true) [],
   .mk (keepH (faR 0 (X.t (K.i (K.o (K.o (K.i (K.i K.z)))))))) (Option.some (K.o (K.i (K.o (K.i (K.i K.z)))))) (Gd.on (K.i (K.o (K.i (K.o (K.i K.z))))) Bool.true) [],
   .mk (keepH (ldR Bool.false 1 (X.t (K.o (K.i (K.o (K.i (K.i K.z)))))))) (Option.some (K.i (K.i (K.o (K.i (K.i K.z)))))) (Gd.on (K.i (K.o (K.i (K.o (K.i K.z))))) Bool.true) [],
   .mk (keepH (binR Try.prog EK.no Option.none Bool.false BinOp.geq (X.t (K.i (K.i (K.o (K.i (K.i K.z)))))) (X.t (K.o (K.o (K.o (K.o (K.o (K.o K.z))))))))) (Option.some (K.i (K.o (K.o (K.o (K.o (K.o K.z))))))) (Gd.on (K.i (K.o (K.i (K.o (K.i K.z))))) Bool.true) [],
   .mk (keepH (pickR (X.t (K.i (K.o (K.i (K.o (K.i K.z)))))) (X.t (K.i (K.o (K.o (K.o (K.o (K.o K.z))))))) (X.c (AV.bool Bool.false)))) (Option.some (K.o (K.i (K.o (K.o (K.o (K.o K.z))))))) (Gd.on (K.o (K.i (K.o (K.o (K.i K.z))))) Bool.false) [],
   .mk (keepH (pickR (X.t (K.o (K.i (K.o (K.o (K.i K.z)))))) (X.c (AV.bool Bool.true)) (X.t (K.o (K.i (K.o (K.o (K.o (K.o K.z))))))))) (Option.some (K.i (K.i (K.o (K.o (K.o (K.o K.z))))))) Gd.no []])
  (.cond (X.t (K.i (K.i (K.o (K.o (K.o (K.o K.z)))))))
  (.seq (.region [.mk (mvR (X.c (AV.bool Bool.false))) (Option.some (K.i K.z)) Gd.no []])
  .ret)
  .skip)))
  (.region [.mk (mvR (X.t (K.o (K.o K.z)))) (Option.some (K.i (K.o (K.o K.z)))) Gd.no [],
   .mk (binR Try.prog EK.no Option.none Bool.true BinOp.add (X.t (K.i (K.o (K.o K.z)))) (X.c (AV.int IntKind.i64 1))) (Option.some (K.o (K.i (K.o K.z)))) Gd.no [],
   .mk (mvR (X.t (K.o (K.i (K.o K.z))))) (Option.some (K.o (K.o K.z))) Gd.no []])))
noncomputable def C28 : CC :=
  (.seq (.region [.mk (mvR (X.c (AV.bool Bool.false))) (Option.some (K.i K.z)) Gd.no []])
  (.seq (.seq (.region [.mk (mvR (X.c (AV.int IntKind.i64 0))) (Option.some (K.o (K.o K.z))) Gd.no []])
  (.block 0 (.loop C28L0)))
  (.seq (.region [.mk (mvR (X.c (AV.bool Bool.true))) (Option.some (K.i K.z)) Gd.no []])
  .ret)))
theorem C28ok : (match Try.f28.body with | some c => comp Try.prog 67 c | none => none) = some C28 := by kernel_rfl
@[go_sem] theorem call28 (args : List AV) (H : Heap) : callC Try.prog 28 args H = .call 28 args := callC_ok (by kernel_rfl) args H
theorem R28ok : resKs Try.prog Try.f28.results.toList = some [(RK.tmp (K.i K.z))] := by kernel_rfl

/- 29: estuary/once.Find -/
noncomputable def C29L0 : CC :=
  (.seq (.region [.mk (binR Try.prog EK.no Option.none Bool.false BinOp.lss (X.t (K.i (K.o (K.i K.z)))) (X.t (K.o (K.o (K.i K.z))))) (Option.some (K.o (K.i (K.i K.z)))) Gd.no []])
  (.seq (.cond (X.t (K.o (K.i (K.i K.z))))
  .skip
  (.exit 0))
  (.seq (.block 1 (.seq (.region [.mk (iaS 6 (X.t (K.i (K.i (K.o K.z)))) (X.t (K.i (K.o (K.i K.z))))) (Option.some (K.i (K.i (K.i K.z)))) Gd.no [],
   .mk (ldR Bool.true 6 (X.t (K.i (K.i (K.i K.z))))) (Option.some (K.o (K.o (K.o (K.o K.z))))) Gd.no [],
   .mk (fun _ H => newC Bool.false [(AV.int IntKind.i64 0), (AV.int IntKind.i64 0), (AV.int IntKind.i64 0), (AV.str []), (AV.int IntKind.i64 0), AV.nils] H) (Option.some (K.o (K.i (K.o K.z)))) Gd.no [],
   .mk (stR 6 (X.t (K.o (K.i (K.o K.z)))) (X.t (K.o (K.o (K.o (K.o K.z)))))) Option.none Gd.no []])
  (.block 2 (.seq (.region [.mk (faR 0 (X.t (K.o (K.i (K.o K.z))))) (Option.some (K.i (K.i (K.o (K.o K.z))))) Gd.no [],
   .mk (ldR Bool.false 1 (X.t (K.i (K.i (K.o (K.o K.z)))))) (Option.some (K.o (K.o (K.i (K.o K.z))))) Gd.no [],
   .mk (mvR (X.t (K.o K.z))) (Option.some (K.i (K.o (K.i (K.o K.z))))) Gd.no [],
   .mk (binR Try.prog EK.no Option.none Bool.false BinOp.neq (X.t (K.o (K.o (K.i (K.o K.z))))) (X.t (K.i (K.o (K.i (K.o K.z)))))) (Option.some (K.o (K.i (K.i (K.o K.z))))) Gd.no [],
   .mk (mvR (X.t (K.o (K.i (K.i (K.o K.z)))))) (Option.some (K.i (K.i (K.i (K.o K.z))))) Gd.no [],
   .mk (mvR (X.t (K.i K.z))) (Option.some (K.o (K.o (K.o (K.i K.z))))) (Gd.on (K.i (K.i (K.i (K.o K.z)))) Bool.false) [],
   .mk (faR 1 (X.t (K.o (K.i (K.o K.z))))) (Option.some (K.i (K.o (K.o (K.i K.z))))) (Gd.on (K.i (K.i (K.i (K.o K.z)))) Bool.false) [],
   .mk (ldR Bool.false 1 (X.t (K.i (K.o (K.o (K.i K.z)))))) (Option.some (K.o (K.i (K.o (K.i K.z))))) (Gd.on (K.i (K.i (K.i (K.o K.z)))) Bool.false) [],
   .mk (binR Try.prog EK.no Option.none Bool.false BinOp.gtr (X.t (K.o (K.o (K.o (K.i K.z))))) (X.t (K.o (K.i (K.o (K.i K.z)))))) (Option.some (K.i (K.i (K.o (K.i K.z))))) (Gd.on (K.i (K.i (K.i (K.o K.z)))) Bool.false) [],
   .mk (pickR (X.t (K.i (K.i (K.i (K.o K.z))))) (X.c (AV.bool Bool.true)) (X.t (K.i (K.i (K.o (K.i K.z)))))) (Option.some (K.o (K.o (K.i (K.i K.z))))) Gd.no [],
   .mk (mvR (X.t (K.o (K.o (K.i (K.i K.z)))))) (Option.some (K.o (K.i (K.o (K.o K.z))))) Gd.no []])
  (.cond (X.t (K.o (K.i (K.o (K.o K.z)))))
  .skip
  (.seq (.region [.mk (mvR (X.t (K.i K.z))) (Option.some (K.o (K.i (K.i (K.i K.z))))) Gd.no [],
   .mk (faR 1 (X.t (K.o (K.i (K.o K.z))))) (Option.some (K.i (K.i (K.i (K.i K.z))))) Gd.no [],
   .mk (ldR Bool.false 1 (X.t (K.i (K.i (K.i (K.i K.z)))))) (Option.some (K.o (K.o (K.o (K.o (K.o K.z)))))) Gd.no [],
   .mk (binR Try.prog EK.no Option.none Bool.false BinOp.eql (X.t (K.o (K.i (K.i (K.i K.z))))) (X.t (K.o (K.o (K.o (K.o (K.o K.z))))))) (Option.some (K.i (K.o (K.o (K.o (K.o K.z)))))) Gd.no [],
   .mk (mvR (X.t (K.i (K.o (K.o (K.o (K.o K.z))))))) (Option.some (K.i (K.o (K.i (K.i K.z))))) Gd.no []])
  (.cond (X.t (K.i (K.o (K.i (K.i K.z)))))
  (.seq (.region [.mk (faR 2 (X.t (K.o (K.i (K.o K.z))))) (Option.some (K.o (K.i (K.o (K.o (K.o K.z)))))) Gd.no [],
   .mk (faR 3 (X.t (K.o (K.i (K.o (K.o (K.o K.z))))))) (Option.some (K.i (K.i (K.o (K.o (K.o K.z)))))) Gd.no [],
   .mk (ldR Bool.false 1 (X.t (K.i (K.i (K.o (K.o (K.o K.z))))))) (Option.some (K.o (K.o (K.i (K.o (K.o K.z)))))) Gd.no [],
   .mk (callS Try.prog 55 [(X.t (K.o (K.o (K.i (K.o (K.o K.z))))))]) (Option.some (K.i (K.o (K.i (K.o (K.o K.z)))))) Gd.no [],
   .mk (faR 2 (X.t (K.o (K.i (K.o K.z))))) (Option.some (K.o (K.i (K.i (K.o (K.o K.z)))))) Gd.no [],
   .mk (faR 3 (X.t (K.o (K.i (K.i (K.o (K.o K.z))))))) (Option.some (K.i (K.i (K.i (K.o (K.o K.z)))))) Gd.no [],
   .mk (stR 1 (X.t (K.i (K.i (K.i (K.o (K.o K.z)))))) (X.t (K.i (K.o (K.i (K.o (K.o K.z))))))) Option.none Gd.no []])
  (.seq (.region [.mk (faR 2 (X.t (K.o (K.i (K.o K.z))))) (Option.some (K.o (K.o (K.o (K.i (K.o K.z)))))) Gd.no [],
   .mk (ldR Bool.true 4 (X.t (K.o (K.o (K.o (K.i (K.o K.z))))))) (Option.some (K.i (K.o (K.o (K.i (K.o K.z)))))) Gd.no [],
   .mk (stR 4 (X.t (K.i (K.i K.z))) (X.t (K.i (K.o (K.o (K.i (K.o K.z))))))) Option.none Gd.no [],
   .mk (mvR (X.c (AV.int IntKind.i64 1))) (Option.some (K.o (K.o (K.o K.z)))) Gd.no []])
  .ret))
  (.seq (.region [.mk (buildR [(AV.int IntKind.i64 0), (AV.str []), (AV.int IntKind.i64 0), AV.nils] []) (Option.some (K.i (K.o (K.o (K.o K.z))))) Gd.no [],
   .mk (stR 4 (X.t (K.i (K.i K.z))) (X.t (K.i (K.o (K.o (K.o K.z)))))) Option.none Gd.no [],
   .mk (mvR (X.c (AV.int IntKind.i64 2))) (Option.some (K.o (K.o (K.o K.z)))) Gd.no []])
  .ret))))))))
  (.region [.mk (binR Try.prog EK.no Option.none Bool.true BinOp.add (X.t (K.i (K.o (K.i K.z)))) (X.c (AV.int IntKind.i64 1))) (Option.some (K.o (K.i (K.o (K.i (K.o K.z)))))) Gd.no [],
   .mk (mvR (X.t (K.o (K.i (K.o (K.i (K.o K.z))))))) (Option.some (K.i (K.o (K.i K.z)))) Gd.no []]))))
noncomputable def C29 : CC :=
  (.seq (.region [.mk (fun _ H => newC Bool.false [(AV.int IntKind.i64 0), (AV.str []), (AV.int IntKind.i64 0), AV.nils] H) (Option.some (K.i (K.i K.z))) Gd.no [],
   .mk (mvR (X.c (AV.int IntKind.i64 0))) (Option.some (K.o (K.o (K.o K.z)))) Gd.no []])
  (.seq (.seq (.region [.mk (mvR (X.t K.z)) (Option.some (K.i (K.i (K.o K.z)))) Gd.no [],
   .mk (lenR LnK.slice (X.t (K.i (K.i (K.o K.z))))) (Option.some (K.o (K.o (K.i K.z)))) Gd.no [],
   .mk (mvR (X.c (AV.int IntKind.i64 0))) (Option.some (K.i (K.o (K.i K.z)))) Gd.no []])
  (.block 0 (.loop C29L0)))
  (.seq (.region [.mk (buildR [(AV.int IntKind.i64 0), (AV.str []), (AV.int IntKind.i64 0), AV.nils] []) (Option.some (K.i (K.i (K.o (K.i (K.o K.z)))))) Gd.no [],
   .mk (stR 4 (X.t (K.i (K.i K.z))) (X.t (K.i (K.i (K.o (K.i (K.o K.z))))))) Option.none Gd.no [],
   .mk (mvR (X.c (AV.int IntKind.i64 0))) (Option.some (K.o (K.o (K.o K.z)))) Gd.no []])
  .ret)))
theorem C29ok : (match Try.f29.body with | some c => comp Try.prog 43 c | none => none) = some C29 := by kernel_rfl
@[go_sem] theorem call29 (args : List AV) (H : Heap) : callC Try.prog 29 args H = .call 29 args := callC_ok (by kernel_rfl) args H
theorem R29ok : resKs Try.prog Try.f29.results.toList = some [(RK.cell (K.i (K.i K.z)) Bool.true 4), (RK.tmp (K.o (K.o (K.o K.z))))] := by kernel_rfl

/- 30: estuary/estuaryref11.Find -/
noncomputable def C30 : CC :=
  (.seq (.region [.mk (fun _ H => newC Bool.false [(AV.int IntKind.i64 0), (AV.str []), (AV.int IntKind.i64 0), AV.nils] H) (Option.some (K.i (K.i K.z))) Gd.no [],
   .mk (mvR (X.c (AV.int IntKind.i64 0))) (Option.some (K.o (K.o (K.o K.z)))) Gd.no []])
  (.seq (.region [.mk (mvR (X.t K.z)) (Option.some (K.o (K.o (K.i K.z)))) Gd.no [],
   .mk (mvR (X.t (K.o K.z))) (Option.some (K.i (K.o (K.i K.z)))) Gd.no [],
   .mk (callS Try.prog 56 [(X.t (K.o (K.o (K.i K.z)))), (X.t (K.i (K.o (K.i K.z))))]) (Option.some (K.o (K.i (K.i K.z)))) Gd.no [],
   .mk (mvR (X.t (K.o (K.i (K.i K.z))))) (Option.some (K.i (K.i (K.o K.z)))) Gd.no [],
   .mk (extR (X.t (K.i (K.i (K.o K.z)))) 0) (Option.some (K.i (K.i (K.i K.z)))) Gd.no [],
   .mk (extR (X.t (K.i (K.i (K.o K.z)))) 1) (Option.some (K.o (K.o (K.o (K.o K.z))))) Gd.no [],
   .mk (fun _ H => newC Bool.false [(AV.int IntKind.i64 0), (AV.int IntKind.i64 0), (AV.int IntKind.i64 0), (AV.str []), (AV.int IntKind.i64 0), AV.nils] H) (Option.some (K.i (K.o (K.o K.z)))) Gd.no [],
   .mk (stR 6 (X.t (K.i (K.o (K.o K.z)))) (X.t (K.i (K.i (K.i K.z))))) Option.none Gd.no [],
   .mk (mvR (X.t (K.o (K.o (K.o (K.o K.z)))))) (Option.some (K.o (K.i (K.o K.z)))) Gd.no []])
  (.seq (.block 0 (.seq (.region [.mk (mvR (X.t (K.o (K.i (K.o K.z))))) (Option.some (K.o (K.i (K.o (K.o K.z))))) Gd.no [],
   .mk (unR UnOp.not (X.t (K.o (K.i (K.o (K.o K.z)))))) (Option.some (K.i (K.i (K.o (K.o K.z))))) Gd.no [],
   .mk (mvR (X.t (K.i (K.i (K.o (K.o K.z)))))) (Option.some (K.o (K.o (K.i (K.o K.z))))) Gd.no [],
   .mk (mvR (X.t (K.i K.z))) (Option.some (K.i (K.o (K.i (K.o K.z))))) (Gd.on (K.o (K.o (K.i (K.o K.z)))) Bool.false) [],
   .mk (faR 1 (X.t (K.i (K.o (K.o K.z))))) (Option.some (K.o (K.i (K.i (K.o K.z))))) (Gd.on (K.o (K.o (K.i (K.o K.z)))) Bool.false) [],
   .mk (ldR Bool.false 1 (X.t (K.o (K.i (K.i (K.o K.z)))))) (Option.some (K.i (K.i (K.i (K.o K.z))))) (Gd.on (K.o (K.o (K.i (K.o K.z)))) Bool.false) [],
   .mk (binR Try.prog EK.no Option.none Bool.false BinOp.gtr (X.t (K.i (K.o (K.i (K.o K.z))))) (X.t (K.i (K.i (K.i (K.o K.z)))))) (Option.some (K.o (K.o (K.o (K.i K.z))))) (Gd.on (K.o (K.o (K.i (K.o K.z)))) Bool.false) [],
   .mk (pickR (X.t (K.o (K.o (K.i (K.o K.z))))) (X.c (AV.bool Bool.true)) (X.t (K.o (K.o (K.o (K.i K.z)))))) (Option.some (K.i (K.o (K.o (K.i K.z))))) Gd.no [],
   .mk (mvR (X.t (K.i (K.o (K.o (K.i K.z)))))) (Option.some (K.i (K.o (K.o (K.o K.z))))) Gd.no []])
  (.cond (X.t (K.i (K.o (K.o (K.o K.z)))))
  (.seq (.region [.mk (buildR [(AV.int IntKind.i64 0), (AV.str []), (AV.int IntKind.i64 0), AV.nils] []) (Option.some (K.o (K.i (K.o (K.i K.z))))) Gd.no [],
   .mk (stR 4 (X.t (K.i (K.i K.z))) (X.t (K.o (K.i (K.o (K.i K.z)))))) Option.none Gd.no [],
   .mk (mvR (X.c (AV.int IntKind.i64 0))) (Option.some (K.o (K.o (K.o K.z)))) Gd.no []])
  .ret)
  (.seq (.region [.mk (mvR (X.t (K.i K.z))) (Option.some (K.o (K.o (K.i (K.i K.z))))) Gd.no [],
   .mk (faR 1 (X.t (K.i (K.o (K.o K.z))))) (Option.some (K.i (K.o (K.i (K.i K.z))))) Gd.no [],
   .mk (ldR Bool.false 1 (X.t (K.i (K.o (K.i (K.i K.z)))))) (Option.some (K.o (K.i (K.i (K.i K.z))))) Gd.no [],
   .mk (binR Try.prog EK.no Option.none Bool.false BinOp.eql (X.t (K.o (K.o (K.i (K.i K.z))))) (X.t (K.o (K.i (K.i (K.i K.z)))))) (Option.some (K.i (K.i (K.i (K.i K.z))))) Gd.no [],
   .mk (mvR (X.t (K.i (K.i (K.i (K.i K.z)))))) (Option.some (K.i (K.i (K.o (K.i K.z))))) Gd.no []])
  (.cond (X.t (K.i (K.i (K.o (K.i K.z)))))
  (.seq (.region [.mk (faR 2 (X.t (K.i (K.o (K.o K.z))))) (Option.some (K.o (K.o (K.o (K.o (K.o K.z)))))) Gd.no [],
   .mk (ldR Bool.true 4 (X.t (K.o (K.o (K.o (K.o (K.o K.z))))))) (Option.some (K.i (K.o (K.o (K.o (K.o K.z)))))) Gd.no [],
   .mk (stR 4 (X.t (K.i (K.i K.z))) (X.t (K.i (K.o (K.o (K.o (K.o K.z))))))) Option.none Gd.no [],
   .mk (mvR (X.c (AV.int IntKind.i64 1))) (Option.some (K.o (K.o (K.o K.z)))) Gd.no []])
  .ret)
  .skip)))))
  (.seq (.region [.mk (buildR [(AV.int IntKind.i64 0), (AV.str []), (AV.int IntKind.i64 0), AV.nils] []) (Option.some (K.o (K.i (K.o (K.o (K.o K.z)))))) Gd.no [],
   .mk (stR 4 (X.t (K.i (K.i K.z))) (X.t (K.o (K.i (K.o (K.o (K.o K.z))))))) Option.none Gd.no [],
   .mk (mvR (X.c (AV.int IntKind.i64 2))) (Option.some (K.o (K.o (K.o K.z)))) Gd.no []])
  .ret))))
theorem C30ok : (match Try.f30.body with | some c => comp Try.prog 34 c | none => none) = some C30 := by kernel_rfl
@[go_sem] theorem call30 (args : List AV) (H : Heap) : callC Try.prog 30 args H = .call 30 args := callC_ok (by kernel_rfl) args H
theorem R30ok : resKs Try.prog Try.f30.results.toList = some [(RK.cell (K.i (K.i K.z)) Bool.true 4), (RK.tmp (K.o (K.o (K.o K.z))))] := by kernel_rfl

/- 31: estuary/estuaryref6.SameAnswer -/
noncomputable def C31L0 : CC :=
  (.seq (.seq (.region [.mk (mvR (X.t (K.o (K.i K.z)))) (Option.some (K.i (K.i (K.o (K.o (K.o K.z)))))) Gd.no [],
   .mk (faR 3 (X.t (K.i K.z))) (Option.some (K.o (K.o (K.i (K.o (K.o K.z)))))) Gd.no [],
   .mk (ldR Bool.false 1 (X.t (K.o (K.o (K.i (K.o (K.o K.z))))))) (Option.some (K.i (K.o (K.i (K.o (K.o K.z)))))) Gd.no [],
   .mk (lenR LnK.slice (X.t (K.i (K.o (K.i (K.o (K.o K.z))))))) (Option.some (K.o (K.i (K.i (K.o (K.o K.z)))))) Gd.no [],
   .mk (binR Try.prog EK.no Option.none Bool.false BinOp.lss (X.t (K.i (K.i (K.o (K.o (K.o K.z)))))) (X.t (K.o (K.i (K.i (K.o (K.o K.z))))))) (Option.some (K.i (K.i (K.i (K.o (K.o K.z)))))) Gd.no []])
  (.cond (X.t (K.i (K.i (K.i (K.o (K.o K.z))))))
  .skip
  (.exit 0)))
  (.seq (.block 1 (.seq (.regionD [.mk (keepH (mvR (X.t (K.o (K.i K.z))))) (Option.some (K.i (K.o (K.o (K.o (K.i K.z)))))) Gd.no [],
   .mk (keepH (faR 3 (X.t (K.o (K.o K.z))))) (Option.some (K.i (K.i (K.i (K.i (K.o K.z)))))) Gd.no [],
   .mk (keepH (ldR Bool.false 1 (X.t (K.i (K.i (K.i (K.i (K.o K.z)))))))) (Option.some (K.o (K.o (K.o (K.o (K.i K.z)))))) Gd.no [],
   .mk (keepH (iaS 3 (X.t (K.o (K.o (K.o (K.o (K.i K.z)))))) (X.t (K.i (K.o (K.o (K.o (K.i K.z)))))))) (Option.some (K.o (K.i (K.o (K.o (K.i K.z)))))) Gd.no [],
   .mk (keepH (ldR Bool.true 3 (X.t (K.o (K.i (K.o (K.o (K.i K.z)))))))) (Option.some (K.i (K.i (K.o (K.o (K.i K.z)))))) Gd.no [],
   .mk (keepH (mvR (X.t (K.o (K.i K.z))))) (Option.some (K.o (K.o (K.i (K.i (K.o K.z)))))) Gd.no [],
   .mk (keepH (faR 3 (X.t (K.i K.z)))) (Option.some (K.o (K.i (K.o (K.i (K.o K.z)))))) Gd.no [],
   .mk (keepH (ldR Bool.false 1 (X.t (K.o (K.i (K.o (K.i (K.o K.z)))))))) (Option.some (K.i (K.i (K.o (K.i (K.o K.z)))))) Gd.no [],
   .mk (keepH (iaS 3 (X.t (K.i (K.i (K.o (K.i (K.o K.z)))))) (X.t (K.o (K.o (K.i (K.i (K.o K.z)))))))) (Option.some (K.i (K.o (K.i (K.i (K.o K.z)))))) Gd.no [],
   .mk (keepH (ldR Bool.true 3 (X.t (K.i (K.o (K.i (K.i (K.o K.z)))))))) (Option.some (K.o (K.i (K.i (K.i (K.o K.z)))))) Gd.no [],
   .mk (keepH (binR Try.prog EK.no (Option.some [LK.str, LK.str, LK.int]) Bool.false BinOp.neq (X.t (K.o (K.i (K.i (K.i (K.o K.z)))))) (X.t (K.i (K.i (K.o (K.o (K.i K.z)))))))) (Option.some (K.o (K.o (K.i (K.o (K.i K.z)))))) Gd.no []])
  (.cond (X.t (K.o (K.o (K.i (K.o (K.i K.z))))))
  (.seq (.region [.mk (mvR (X.c (AV.bool Bool.false))) (Option.some (K.i (K.o K.z))) Gd.no []])
  .ret)
  .skip)))
  (.region [.mk (mvR (X.t (K.o (K.i K.z)))) (Option.some (K.o (K.o (K.o (K.i (K.o K.z)))))) Gd.no [],
   .mk (binR Try.prog EK.no Option.none Bool.true BinOp.add (X.t (K.o (K.o (K.o (K.i (K.o K.z)))))) (X.c (AV.int IntKind.i64 1))) (Option.some (K.i (K.o (K.o (K.i (K.o K.z)))))) Gd.no [],
   .mk (mvR (X.t (K.i (K.o (K.o (K.i (K.o K.z))))))) (Option.some (K.o (K.i K.z))) Gd.no []])))
noncomputable def C31 : CC :=
  (.seq (.region [.mk (boxR Bool.false (X.t K.z)) (Option.some (K.i K.z)) Gd.no [],
   .mk (boxR Bool.false (X.t (K.o K.z))) (Option.some (K.o (K.o K.z))) Gd.no [],
   .mk (mvR (X.c (AV.bool Bool.false))) (Option.some (K.i (K.o K.z))) Gd.no []])
  (.seq (.seq (.region [.mk (faR 0 (X.t (K.i K.z))) (Option.some (K.i (K.i K.z))) Gd.no [],
   .mk (ldR Bool.false 1 (X.t (K.i (K.i K.z)))) (Option.some (K.o (K.o (K.o K.z)))) Gd.no [],
   .mk (faR 0 (X.t (K.o (K.o K.z)))) (Option.some (K.i (K.o (K.o K.z)))) Gd.no [],
   .mk (ldR Bool.false 1 (X.t (K.i (K.o (K.o K.z))))) (Option.some (K.o (K.i (K.o K.z)))) Gd.no [],
   .mk (binR Try.prog EK.no Option.none Bool.false BinOp.neq (X.t (K.o (K.o (K.o K.z)))) (X.t (K.o (K.i (K.o K.z))))) (Option.some (K.i (K.i (K.o K.z)))) Gd.no [],
   .mk (mvR (X.t (K.i (K.i (K.o K.z))))) (Option.some (K.o (K.o (K.i K.z)))) Gd.no [],
   .mk (faR 1 (X.t (K.i K.z))) (Option.some (K.i (K.o (K.i K.z)))) (Gd.on (K.o (K.o (K.i K.z))) Bool.false) [],
   .mk (ldR Bool.false 1 (X.t (K.i (K.o (K.i K.z))))) (Option.some (K.o (K.i (K.i K.z)))) (Gd.on (K.o (K.o (K.i K.z))) Bool.false) [],
   .mk (faR 1 (X.t (K.o (K.o K.z)))) (Option.some (K.i (K.i (K.i K.z)))) (Gd.on (K.o (K.o (K.i K.z))) Bool.false) [],
   .mk (ldR Bool.false 1 (X.t (K.i (K.i (K.i K.z))))) (Option.some (K.o (K.o (K.o (K.o K.z))))) (Gd.on (K.o (K.o (K.i K.z))) Bool.false) [],
   .mk (binR Try.prog EK.no Option.none Bool.false BinOp.neq (X.t (K.o (K.i (K.i K.z)))) (X.t (K.o (K.o (K.o (K.o K.z)))))) (Option.some (K.i (K.o (K.o (K.o K.z))))) (Gd.on (K.o (K.o (K.i K.z))) Bool.false) [],
   .mk (pickR (X.t (K.o (K.o (K.i K.z)))) (X.c (AV.bool Bool.true)) (X.t (K.i (K.o (K.o (K.o K.z)))))) (Option.some (K.o (K.i (K.o (K.o K.z))))) Gd.no [],
   .mk (mvR (X.t (K.o (K.i (K.o (K.o K.z)))))) (Option.some (K.i (K.i (K.o (K.o K.z))))) Gd.no [],
   .mk (faR 2 (X.t (K.i K.z))) (Option.some (K.o (K.o (K.i (K.o K.z))))) (Gd.on (K.i (K.i (K.o (K.o K.z)))) Bool.false) [],
   .mk (ldR Bool.false 1 (X.t (K.o (K.o (K.i (K.o K.z)))))) (Option.some (K.i (K.o (K.i (K.o K.z))))) (Gd.on (K.i (K.i (K.o (K.o K.z)))) Bool.false) [],
   .mk (faR 2 (X.t (K.o (K.o K.z)))) (Option.some (K.o (K.i (K.i (K.o K.z))))) (Gd.on (K.i (K.i (K.o (K.o K.z)))) Bool.false) [],
   .mk (ldR Bool.false 1 (X.t (K.o (K.i (K.i (K.o K.z)))))) (Option.some (K.i (K.i (K.i (K.o K.z))))) (Gd.on (K.i (K.i (K.o (K.o K.z)))) Bool.false) [],
   .mk (binR Try.prog EK.no Option.none Bool.false BinOp.neq (X.t (K.i (K.o (K.i (K.o K.z))))) (X.t (K.i (K.i (K.i (K.o K.z)))))) (Option.some (K.o (K.o (K.o (K.i K.z))))) (Gd.on (K.i (K.i (K.o (K.o K.z)))) Bool.false) [],
   .mk (pickR (X.t (K.i (K.i (K.o (K.o K.z))))) (X.c (AV.bool Bool.true)) (X.t (K.o (K.o (K.o (K.i K.z)))))) (Option.some (K.i (K.o (K.o (K.i K.z))))) Gd.no [],
   .mk (mvR (X.t (K.i (K.o (K.o (K.i K.z)))))) (Option.some (K.o (K.i (K.o (K.i K.z))))) Gd.no [],
   .mk (faR 3 (X.t (K.i K.z))) (Option.some (K.i (K.i (K.o (K.i K.z))))) (Gd.on (K.o (K.i (K.o (K.i K.z)))) Bool.false) [],
   .mk (ldR Bool.false 1 (X.t (K.i (K.i (K.o (K.i K.z)))))) (Option.some (K.o (K.o (K.i (K.i K.z))))) (Gd.on (K.o (K.i (K.o (K.i K.z)))) Bool.false) [],
   .mk (lenR LnK.slice (X.t (K.o (K.o (K.i (K.i K.z)))))) (Option.some (K.i (K.o (K.i (K.i K.z))))) (Gd.on (K.o (K.i (K.o (K.i K.z)))) Bool.false) [],
   .mk (faR 3 (X.t (K.o (K.o K.z)))) (Option.some (K.o (K.i (K.i (K.i K.z))))) (Gd.on (K.o (K.i (K.o (K.i K.z)))) Bool.false) [],
   .mk (ldR Bool.false 1 (X.t (K.o (K.i (K.i (K.i K.z)))))) (Option.some (K.i (K.i (K.i (K.i K.z))))) (Gd.on (K.o (K.i (K.o (K.i K.z)))) Bool.false) [],
   .mk (lenR LnK.slice (X.t (K.i (K.i (K.i (K.i K.z)))))) (Option.some (K.o (K.o (K.o (K.o (K.o K.z)))))) (Gd.on (K.o (K.i (K.o (K.i K.z)))) Bool.false) [],
   .mk (binR Try.prog EK.no Option.none Bool.false BinOp.neq (X.t (K.i (K.o (K.i (K.i K.z))))) (X.t (K.o (K.o (K.o (K.o (K.o K.z))))))) (Option.some (K.i (K.o (K.o (K.o (K.o K.z)))))) (Gd.on (K.o (K.i (K.o (K.i K.z)))) Bool.false) [],
   .mk (pickR (X.t (K.o (K.i (K.o (K.i K.z))))) (X.c (AV.bool Bool.true)) (X.t (K.i (K.o (K.o (K.o (K.o K.z))))))) (Option.some (K.o (K.i (K.o (K.o (K.o K.z)))))) Gd.no []])
  (.cond (X.t (K.o (K.i (K.o (K.o (K.o K.z))))))
  (.seq (.region [.mk (mvR (X.c (AV.bool Bool.false))) (Option.some (K.i (K.o K.z))) Gd.no []])
  .ret)
  .skip))
  (.seq (.seq (.region [.mk (mvR (X.c (AV.int IntKind.i64 0))) (Option.some (K.o (K.i K.z))) Gd.no []])
  (.block 0 (.loop C31L0)))
  (.seq (.region [.mk (mvR (X.c (AV.bool Bool.true))) (Option.some (K.i (K.o K.z))) Gd.no []])
  .ret))))
theorem C31ok : (match Try.f31.body with | some c => comp Try.prog 52 c | none => none) = some C31 := by kernel_rfl
@[go_sem] theorem call31 (args : List AV) (H : Heap) : callC Try.prog 31 args H = .call 31 args := callC_ok (by kernel_rfl) args H
theorem R31ok : resKs Try.prog Try.f31.results.toList = some [(RK.tmp (K.i (K.o K.z)))] := by kernel_rfl

/- 32: estuary/estuaryref11.SameDone -/
noncomputable def C32L0 : CC :=
  (.seq (.seq (.region [.mk (mvR (X.t (K.o (K.i K.z)))) (Option.some (K.o (K.o (K.i K.z)))) Gd.no [],
   .mk (mvR (X.t K.z)) (Option.some (K.i (K.o (K.i K.z)))) Gd.no [],
   .mk (lenR LnK.slice (X.t (K.i (K.o (K.i K.z))))) (Option.some (K.o (K.i (K.i K.z)))) Gd.no [],
   .mk (binR Try.prog EK.no Option.none Bool.false BinOp.lss (X.t (K.o (K.o (K.i K.z)))) (X.t (K.o (K.i (K.i K.z))))) (Option.some (K.i (K.i (K.i K.z)))) Gd.no []])
  (.cond (X.t (K.i (K.i (K.i K.z))))
  .skip
  (.exit 0)))
  (.seq (.block 1 (.seq (.regionD [.mk (keepH (mvR (X.t (K.o (K.i K.z))))) (Option.some (K.o (K.o (K.o (K.i K.z))))) Gd.no [],
   .mk (keepH (mvR (X.t (K.o K.z)))) (Option.some (K.i (K.i (K.i (K.o K.z))))) Gd.no [],
   .mk (keepH (iaS 6 (X.t (K.i (K.i (K.i (K.o K.z))))) (X.t (K.o (K.o (K.o (K.i K.z))))))) (Option.some (K.i (K.o (K.o (K.i K.z))))) Gd.no [],
   .mk (keepH (faR 0 (X.t (K.i (K.o (K.o (K.i K.z))))))) (Option.some (K.o (K.i (K.o (K.i K.z))))) Gd.no [],
   .mk (keepH (ldR Bool.false 1 (X.t (K.o (K.i (K.o (K.i K.z))))))) (Option.some (K.i (K.i (K.o (K.i K.z))))) Gd.no [],
   .mk (keepH (mvR (X.t (K.o (K.i K.z))))) (Option.some (K.i (K.i (K.o (K.o K.z))))) Gd.no [],
   .mk (keepH (mvR (X.t K.z))) (Option.some (K.o (K.i (K.o (K.o K.z))))) Gd.no [],
   .mk (keepH (iaS 6 (X.t (K.o (K.i (K.o (K.o K.z))))) (X.t (K.i (K.i (K.o (K.o K.z))))))) (Option.some (K.o (K.o (K.i (K.o K.z))))) Gd.no [],
   .mk (keepH (faR 0 (X.t (K.o (K.o (K.i (K.o K.z))))))) (Option.some (K.i (K.o (K.i (K.o K.z))))) Gd.no [],
   .mk (keepH (ldR Bool.false 1 (X.t (K.i (K.o (K.i (K.o K.z))))))) (Option.some (K.o (K.i (K.i (K.o K.z))))) Gd.no [],
   .mk (keepH (binR Try.prog EK.no Option.none Bool.false BinOp.neq (X.t (K.o (K.i (K.i (K.o K.z))))) (X.t (K.i (K.i (K.o (K.i K.z))))))) (Option.some (K.o (K.o (K.i (K.i K.z))))) Gd.no [],
   .mk (keepH (mvR (X.t (K.o (K.o (K.i (K.i K.z))))))) (Option.some (K.i (K.o (K.i (K.i K.z))))) Gd.no [],
   .mk (keepH (mvR (X.t (K.o (K.i K.z))))) (Option.some (K.o (K.o (K.i (K.o (K.o K.z)))))) (Gd.on (K.i (K.o (K.i (K.i K.z)))) Bool.false) [],
   .mk (keepH (mvR (X.t (K.o K.z)))) (Option.some (K.i (K.i (K.o (K.o (K.o K.z)))))) (Gd.on (K.i (K.o (K.i (K.i K.z)))) Bool.false) [],
   .mk (keepH (iaS 6 (X.t (K.i (K.i (K.o (K.o (K.o K.z)))))) (X.t (K.o (K.o (K.i (K.o (K.o K.z)))))))) (Option.some (K.i (K.o (K.i (K.o (K.o K.z)))))) (Gd.on (K.i (K.o (K.i (K.i K.z)))) Bool.false) [],
   .mk (keepH (faR 1 (X.t (K.i (K.o (K.i (K.o (K.o K.z)))))))) (Option.some (K.o (K.i (K.i (K.o (K.o K.z)))))) (Gd.on (K.i (K.o (K.i (K.i K.z)))) Bool.false) [],
   .mk (keepH (ldR Bool.false 1 (X.t (K.o (K.i (K.i (K.o (K.o K.z)))))))) (Option.some (K.i (K.i (K.i (K.o (K.o K.z)))))) (Gd.on (K.i (K.o (K.i (K.i K.z)))) Bool.false) [],
   .mk (keepH (mvR (X.t (K.o (K.i K.z))))) (Option.some (K.i (K.i (K.i (K.i K.z))))) (Gd.on (K.i (K.o (K.i (K.i K.z)))) Bool.false) [],
   .mk (keepH (mvR (X.t K.z))) (Option.some (K.o (K.i (K.i (K.i K.z))))) (Gd.on (K.i (K.o (K.i (K.i K.z)))) Bool.false) [],
   .mk (keepH (iaS 6 (X.t (K.o (K.i (K.i (K.i K.z))))) (X.t (K.i (K.i (K.i (K.i K.z))))))) (Option.some (K.o (K.o (K.o (K.o (K.o K.z)))))) (Gd.on (K.i (K.o (K.i (K.i K.z)))) Bool.false) [],
   .mk (keepH (faR 1 (X.t (K.o (K.o (K.o (K.o (K.o K.z)))))))) (Option.some (K.i (K.o (K.o (K.o (K.o K.z)))))) (Gd.on (K.i (K.o (K.i (K.i K.z)))) Bool.false) [],
   .mk (keepH (ldR Bool.false 1 (X.t (K.i (K.o (K.o (K.o (K.o K.z)))))))) (Option.some (K.o (K.i (K.o (K.o (K.o K.z)))))) (Gd.on (K.i (K.o (K.i (K.i K.z)))) Bool.false) [],
   .mk (keepH (binR Try.prog EK.no Option.none Bool.false BinOp.neq (X.t (K.o (K.i (K.o (K.o (K.o K.z)))))) (X.t (K.i (K.i (K.i (K.o (K.o K.z)))))))) (Option.some (K.o (K.o (K.o (K.i (K.o K.z)))))) (Gd.on (K.i (K.o (K.i (K.i K.z)))) Bool.false) [],
   .mk (keepH (pickR (X.t (K.i (K.o (K.i (K.i K.z))))) (X.c (AV.bool Bool.true)) (X.t (K.o (K.o (K.o (K.i (K.o K.z)))))))) (Option.some (K.i (K.o (K.o (K.i (K.o K.z)))))) Gd.no [],
   .mk (keepH (mvR (X.t (K.i (K.o (K.o (K.i (K.o K.z)))))))) (Option.some (K.o (K.i (K.o (K.i (K.o K.z)))))) Gd.no [],
   .mk (keepH (mvR (X.t (K.o (K.i K.z))))) (Option.some (K.i (K.o (K.o (K.o (K.i K.z)))))) (Gd.on (K.o (K.i (K.o (K.i (K.o K.z))))) Bool.false) [],
   .mk (keepH (mvR (X.t (K.o K.z)))) (Option.some (K.o (K.o (K.o (K.o (K.i K.z)))))) (Gd.on (K.o (K.i (K.o (K.i (K.o K.z))))) Bool.false) [],
   .mk (keepH (iaS 6 (X.t (K.o (K.o (K.o (K.o (K.i K.z)))))) (X.t (K.i (K.o (K.o (K.o (K.i K.z)))))))) (Option.some (K.o (K.i (K.o (K.o (K.i K.z)))))) (Gd.on (K.o (K.i (K.o (K.i (K.o K.z))))) Bool.false) [],
   .mk (keepH (faR 2 (X.t (K.o (K.i (K.o (K.o (K.i K.z)))))))) (Option.some (K.i (K.i (K.o (K.o (K.i K.z)))))) (Gd.on (K.o (K.i (K.o (K.i (K.o K.z))))) Bool.false) [],
   .mk (keepH (ldR Bool.true 4 (X.t (K.i (K.i (K.o (K.o (K.i K.z)))))))) (Option.some (K.o (K.o (K.i (K.o (K.i K.z)))))) (Gd.on (K.o (K.i (K.o (K.i (K.o K.z))))) Bool.false) [],
   .mk (keepH (mvR (X.t (K.o (K.i K.z))))) (Option.some (K.o (K.o (K.i (K.i (K.o K.z)))))) (Gd.on (K.o (K.i (K.o (K.i (K.o K.z))))) Bool.false) [],
   .mk (keepH (mvR (X.t K.z))) (Option.some (K.i (K.i (K.o (K.i (K.o K.z)))))) (Gd.on (K.o (K.i (K.o (K.i (K.o K.z))))) Bool.false) [],
   .mk (keepH (iaS 6 (X.t (K.i (K.i (K.o (K.i (K.o K.z)))))) (X.t (K.o (K.o (K.i (K.i (K.o K.z)))))))) (Option.some (K.i (K.o (K.i (K.i (K.o K.z)))))) (Gd.on (K.o (K.i (K.o (K.i (K.o K.z))))) Bool.false) [],
   .mk (keepH (faR 2 (X.t (K.i (K.o (K.i (K.i (K.o K.z)))))))) (Option.some (K.o (K.i (K.i (K.i (K.o K.z)))))) (Gd.on (K.o (K.i (K.o (K.i (K.o K.z))))) Bool.false) [],
   .mk (keepH (ldR Bool.true 4 (X.t (K.o (K.i (K.i (K.i (K.o K.z)))))))) (Option.some (K.i (K.i (K.i (K.i (K.o K.z)))))) (Gd.on (K.o (K.i (K.o (K.i (K.o K.z))))) Bool.false) [],
   .mk (callS Try.prog 31 [(X.t (K.i (K.i (K.i (K.i (K.o K.z)))))), (X.t (K.o (K.o (K.i (K.o (K.i K.z))))))]) (Option.some (K.i (K.o (K.i (K.o (K.i K.z)))))) (Gd.on (K.o (K.i (K.o (K.i (K.o K.z))))) Bool.false) [],
   .mk (keepH (unR UnOp.not (X.t (K.i (K.o (K.i (K.o (K.i K.z)))))))) (Option.some (K.o (K.i (K.i (K.o (K.i K.z)))))) (Gd.on (K.o (K.i (K.o (K.i (K.o K.z))))) Bool.false) [],
   .mk (keepH (pickR (X.t (K.o (K.i (K.o (K.i (K.o K.z)))))) (X.c (AV.bool Bool.true)) (X.t (K.o (K.i (K.i (K.o (K.i K.z)))))))) (Option.some (K.i (K.i (K.i (K.o (K.i K.z)))))) Gd.no []])
  (.cond (X.t (K.i (K.i (K.i (K.o (K.i K.z))))))
  (.seq (.region [.mk (mvR (X.c (AV.bool Bool.false))) (Option.some (K.i (K.o K.z))) Gd.no []])
  .ret)
  .skip)))
  (.region [.mk (mvR (X.t (K.o (K.i K.z)))) (Option.some (K.o (K.o (K.o (K.o K.z))))) Gd.no [],
   .mk (binR Try.prog EK.no Option.none Bool.true BinOp.add (X.t (K.o (K.o (K.o (K.o K.z))))) (X.c (AV.int IntKind.i64 1))) (Option.some (K.i (K.o (K.o (K.o K.z))))) Gd.no [],
   .mk (mvR (X.t (K.i (K.o (K.o (K.o K.z)))))) (Option.some (K.o (K.i K.z))) Gd.no []])))
noncomputable def C32 : CC :=
  (.seq (.region [.mk (mvR (X.c (AV.bool Bool.false))) (Option.some (K.i (K.o K.z))) Gd.no []])
  (.seq (.seq (.region [.mk (mvR (X.t K.z)) (Option.some (K.i (K.i K.z))) Gd.no [],
   .mk (lenR LnK.slice (X.t (K.i (K.i K.z)))) (Option.some (K.o (K.o (K.o K.z)))) Gd.no [],
   .mk (mvR (X.t (K.o K.z))) (Option.some (K.i (K.o (K.o K.z)))) Gd.no [],
   .mk (lenR LnK.slice (X.t (K.i (K.o (K.o K.z))))) (Option.some (K.o (K.i (K.o K.z)))) Gd.no [],
   .mk (binR Try.prog EK.no Option.none Bool.false BinOp.neq (X.t (K.o (K.o (K.o K.z)))) (X.t (K.o (K.i (K.o K.z))))) (Option.some (K.i (K.i (K.o K.z)))) Gd.no []])
  (.cond (X.t (K.i (K.i (K.o K.z))))
  (.seq (.region [.mk (mvR (X.c (AV.bool Bool.false))) (Option.some (K.i (K.o K.z))) Gd.no []])
  .ret)
  .skip))
  (.seq (.seq (.region [.mk (mvR (X.c (AV.int IntKind.i64 0))) (Option.some (K.o (K.i K.z))) Gd.no []])
  (.block 0 (.loop C32L0)))
  (.seq (.region [.mk (mvR (X.c (AV.bool Bool.true))) (Option.some (K.i (K.o K.z))) Gd.no []])
  .ret))))
theorem C32ok : (match Try.f32.body with | some c => comp Try.prog 55 c | none => none) = some C32 := by kernel_rfl
@[go_sem] theorem call32 (args : List AV) (H : Heap) : callC Try.prog 32 args H = .call 32 args := callC_ok (by kernel_rfl) args H
theorem R32ok : resKs Try.prog Try.f32.results.toList = some [(RK.tmp (K.i (K.o K.z)))] := by kernel_rfl

/- 33: estuary/once.With -/
noncomputable def C33L0 : CC :=
  (.seq (.seq (.regionD [.mk (keepH (mvR (X.t (K.o (K.i K.z))))) (Option.some (K.i (K.i (K.o K.z)))) Gd.no [],
   .mk (keepH (lenR LnK.slice (X.t (K.i (K.i (K.o K.z)))))) (Option.some (K.o (K.o (K.i K.z)))) Gd.no [],
   .mk (keepH (mvR (X.t (K.i (K.i K.z))))) (Option.some (K.o (K.i (K.o K.z)))) Gd.no [],
   .mk (keepH (binR Try.prog EK.no Option.none Bool.false BinOp.lss (X.t (K.o (K.i (K.o K.z)))) (X.t (K.o (K.o (K.i K.z)))))) (Option.some (K.i (K.o (K.i K.z)))) Gd.no [],
   .mk (keepH (mvR (X.t (K.i (K.o (K.i K.z)))))) (Option.some (K.o (K.i (K.i K.z)))) Gd.no [],
   .mk (keepH (faR 0 (X.t (K.o (K.o K.z))))) (Option.some (K.o (K.o (K.i (K.o K.z))))) (Gd.on (K.o (K.i (K.i K.z))) Bool.true) [],
   .mk (keepH (ldR Bool.false 1 (X.t (K.o (K.o (K.i (K.o K.z))))))) (Option.some (K.i (K.o (K.i (K.o K.z))))) (Gd.on (K.o (K.i (K.i K.z))) Bool.true) [],
   .mk (keepH (mvR (X.t (K.i (K.i K.z))))) (Option.some (K.o (K.o (K.o (K.o K.z))))) (Gd.on (K.o (K.i (K.i K.z))) Bool.true) [],
   .mk (keepH (mvR (X.t (K.o (K.i K.z))))) (Option.some (K.i (K.i (K.i K.z)))) (Gd.on (K.o (K.i (K.i K.z))) Bool.true) [],
   .mk (keepH (iaS 6 (X.t (K.i (K.i (K.i K.z)))) (X.t (K.o (K.o (K.o (K.o K.z))))))) (Option.some (K.i (K.o (K.o (K.o K.z))))) (Gd.on (K.o (K.i (K.i K.z))) Bool.true) [],
   .mk (keepH (faR 0 (X.t (K.i (K.o (K.o (K.o K.z))))))) (Option.some (K.o (K.i (K.o (K.o K.z))))) (Gd.on (K.o (K.i (K.i K.z))) Bool.true) [],
   .mk (keepH (ldR Bool.false 1 (X.t (K.o (K.i (K.o (K.o K.z))))))) (Option.some (K.i (K.i (K.o (K.o K.z))))) (Gd.on (K.o (K.i (K.i K.z))) Bool.true) [],
   .mk (keepH (binR Try.prog EK.no Option.none Bool.false BinOp.lss (X.t (K.i (K.i (K.o (K.o K.z))))) (X.t (K.i (K.o (K.i (K.o K.z))))))) (Option.some (K.o (K.i (K.i (K.o K.z))))) (Gd.on (K.o (K.i (K.i K.z))) Bool.true) [],
   .mk (keepH (pickR (X.t (K.o (K.i (K.i K.z)))) (X.t (K.o (K.i (K.i (K.o K.z))))) (X.c (AV.bool Bool.false)))) (Option.some (K.i (K.i (K.i (K.o K.z))))) Gd.no []])
  (.cond (X.t (K.i (K.i (K.i (K.o K.z)))))
  .skip
  (.exit 0)))
  (.block 1 (.region [.mk (mvR (X.t (K.i (K.i K.z)))) (Option.some (K.o (K.o (K.o (K.i K.z))))) Gd.no [],
   .mk (binR Try.prog EK.no Option.none Bool.true BinOp.add (X.t (K.o (K.o (K.o (K.i K.z))))) (X.c (AV.int IntKind.i64 1))) (Option.some (K.i (K.o (K.o (K.i K.z))))) Gd.no [],
   .mk (mvR (X.t (K.i (K.o (K.o (K.i K.z)))))) (Option.some (K.i (K.i K.z))) Gd.no []])))
noncomputable def C33 : CC :=
  (.seq (.region [.mk (boxR Bool.false (X.t (K.o K.z))) (Option.some (K.o (K.o K.z))) Gd.no [],
   .mk (mvR (X.c AV.nils)) (Option.some (K.i (K.o K.z))) Gd.no []])
  (.seq (.region [.mk (mvR (X.t K.z)) (Option.some (K.o (K.o (K.o K.z)))) Gd.no [],
   .mk (callS Try.prog 57 [(X.t (K.o (K.o (K.o K.z))))]) (Option.some (K.i (K.o (K.o K.z)))) Gd.no [],
   .mk (mvR (X.t (K.i (K.o (K.o K.z))))) (Option.some (K.o (K.i K.z))) Gd.no []])
  (.seq (.region [.mk (mvR (X.c (AV.int IntKind.i64 0))) (Option.some (K.i (K.i K.z))) Gd.no []])
  (.seq (.block 0 (.loop C33L0))
  (.seq (.seq (.regionD [.mk (keepH (mvR (X.t (K.o (K.i K.z))))) (Option.some (K.i (K.i (K.o (K.i K.z))))) Gd.no [],
   .mk (keepH (lenR LnK.slice (X.t (K.i (K.i (K.o (K.i K.z))))))) (Option.some (K.o (K.o (K.i (K.i K.z))))) Gd.no [],
   .mk (keepH (mvR (X.t (K.i (K.i K.z))))) (Option.some (K.o (K.i (K.o (K.i K.z))))) Gd.no [],
   .mk (keepH (binR Try.prog EK.no Option.none Bool.false BinOp.eql (X.t (K.o (K.i (K.o (K.i K.z))))) (X.t (K.o (K.o (K.i (K.i K.z))))))) (Option.some (K.i (K.o (K.i (K.i K.z))))) Gd.no [],
   .mk (keepH (mvR (X.t (K.i (K.o (K.i (K.i K.z))))))) (Option.some (K.o (K.i (K.i (K.i K.z))))) Gd.no [],
   .mk (keepH (faR 0 (X.t (K.o (K.o K.z))))) (Option.some (K.o (K.o (K.i (K.o (K.o K.z)))))) (Gd.on (K.o (K.i (K.i (K.i K.z)))) Bool.false) [],
   .mk (keepH (ldR Bool.false 1 (X.t (K.o (K.o (K.i (K.o (K.o K.z)))))))) (Option.some (K.i (K.o (K.i (K.o (K.o K.z)))))) (Gd.on (K.o (K.i (K.i (K.i K.z)))) Bool.false) [],
   .mk (keepH (mvR (X.t (K.i (K.i K.z))))) (Option.some (K.o (K.o (K.o (K.o (K.o K.z)))))) (Gd.on (K.o (K.i (K.i (K.i K.z)))) Bool.false) [],
   .mk (keepH (mvR (X.t (K.o (K.i K.z))))) (Option.some (K.i (K.i (K.i (K.i K.z))))) (Gd.on (K.o (K.i (K.i (K.i K.z)))) Bool.false) [],
   .mk (keepH (iaS 6 (X.t (K.i (K.i (K.i (K.i K.z))))) (X.t (K.o (K.o (K.o (K.o (K.o K.z)))))))) (Option.some (K.i (K.o (K.o (K.o (K.o K.z)))))) (Gd.on (K.o (K.i (K.i (K.i K.z)))) Bool.false) [],
   .mk (keepH (faR 0 (X.t (K.i (K.o (K.o (K.o (K.o K.z)))))))) (Option.some (K.o (K.i (K.o (K.o (K.o K.z)))))) (Gd.on (K.o (K.i (K.i (K.i K.z)))) Bool.false) [],
   .mk (keepH (ldR Bool.false 1 (X.t (K.o (K.i (K.o (K.o (K.o K.z)))))))) (Option.some (K.i (K.i (K.o (K.o (K.o K.z)))))) (Gd.on (K.o (K.i (K.i (K.i K.z)))) Bool.false) [],
   .mk (keepH (binR Try.prog EK.no Option.none Bool.false BinOp.neq (X.t (K.i (K.i (K.o (K.o (K.o K.z)))))) (X.t (K.i (K.o (K.i (K.o (K.o K.z)))))))) (Option.some (K.o (K.i (K.i (K.o (K.o K.z)))))) (Gd.on (K.o (K.i (K.i (K.i K.z)))) Bool.false) [],
   .mk (keepH (pickR (X.t (K.o (K.i (K.i (K.i K.z))))) (X.c (AV.bool Bool.true)) (X.t (K.o (K.i (K.i (K.o (K.o K.z)))))))) (Option.some (K.i (K.i (K.i (K.o (K.o K.z)))))) Gd.no []])
  (.cond (X.t (K.i (K.i (K.i (K.o (K.o K.z))))))
  (.seq (.region [.mk (mvR (X.t (K.o (K.i K.z)))) (Option.some (K.o (K.o (K.o (K.i (K.o K.z)))))) Gd.no [],
   .mk (mvR (X.t (K.i (K.i K.z)))) (Option.some (K.i (K.o (K.o (K.i (K.o K.z)))))) Gd.no [],
   .mk (ldR Bool.true 6 (X.t (K.o (K.o K.z)))) (Option.some (K.o (K.i (K.o (K.i (K.o K.z)))))) Gd.no [],
   .mk (bslR 6 1 [(AV.int IntKind.i64 0), (AV.int IntKind.i64 0), (AV.int IntKind.i64 0), (AV.str []), (AV.int IntKind.i64 0), AV.nils] [(0, (X.t (K.o (K.i (K.o (K.i (K.o K.z)))))))]) (Option.some (K.i (K.i (K.o (K.i (K.o K.z)))))) Gd.no [],
   .mk (callS Try.prog 58 [(X.t (K.o (K.o (K.o (K.i (K.o K.z)))))), (X.t (K.i (K.o (K.o (K.i (K.o K.z)))))), (X.t (K.i (K.i (K.o (K.i (K.o K.z))))))]) (Option.some (K.o (K.o (K.i (K.i (K.o K.z)))))) Gd.no [],
   .mk (mvR (X.t (K.o (K.o (K.i (K.i (K.o K.z))))))) (Option.some (K.i (K.o K.z))) Gd.no []])
  .ret)
  .skip))
  (.seq (.seq (.regionD [.mk (keepH (mvR (X.t (K.i (K.i K.z))))) (Option.some (K.o (K.o (K.o (K.o (K.i K.z)))))) Gd.no [],
   .mk (keepH (mvR (X.t (K.o (K.i K.z))))) (Option.some (K.i (K.i (K.i (K.i (K.o K.z)))))) Gd.no [],
   .mk (keepH (iaS 6 (X.t (K.i (K.i (K.i (K.i (K.o K.z)))))) (X.t (K.o (K.o (K.o (K.o (K.i K.z)))))))) (Option.some (K.i (K.o (K.o (K.o (K.i K.z)))))) Gd.no [],
   .mk (keepH (faR 1 (X.t (K.i (K.o (K.o (K.o (K.i K.z)))))))) (Option.some (K.o (K.i (K.o (K.o (K.i K.z)))))) Gd.no [],
   .mk (keepH (ldR Bool.false 1 (X.t (K.o (K.i (K.o (K.o (K.i K.z)))))))) (Option.some (K.i (K.i (K.o (K.o (K.i K.z)))))) Gd.no [],
   .mk (keepH (faR 1 (X.t (K.o (K.o K.z))))) (Option.some (K.i (K.o (K.i (K.i (K.o K.z)))))) Gd.no [],
   .mk (keepH (ldR Bool.false 1 (X.t (K.i (K.o (K.i (K.i (K.o K.z)))))))) (Option.some (K.o (K.i (K.i (K.i (K.o K.z)))))) Gd.no [],
   .mk (keepH (binR Try.prog EK.no Option.none Bool.false BinOp.geq (X.t (K.o (K.i (K.i (K.i (K.o K.z)))))) (X.t (K.i (K.i (K.o (K.o (K.i K.z)))))))) (Option.some (K.o (K.o (K.i (K.o (K.i K.z)))))) Gd.no []])
  (.cond (X.t (K.o (K.o (K.i (K.o (K.i K.z))))))
  (.region [.mk (mvR (X.t (K.o (K.i K.z)))) (Option.some (K.i (K.o (K.i (K.o (K.i K.z)))))) Gd.no [],
   .mk (mvR (X.t (K.i (K.i K.z)))) (Option.some (K.o (K.i (K.i (K.o (K.i K.z)))))) Gd.no [],
   .mk (ldR Bool.true 6 (X.t (K.o (K.o K.z)))) (Option.some (K.i (K.i (K.i (K.o (K.i K.z)))))) Gd.no [],
   .mk (iaS 6 (X.t (K.i (K.o (K.i (K.o (K.i K.z)))))) (X.t (K.o (K.i (K.i (K.o (K.i K.z))))))) (Option.some (K.o (K.o (K.o (K.i (K.i K.z)))))) Gd.no [],
   .mk (stR 6 (X.t (K.o (K.o (K.o (K.i (K.i K.z)))))) (X.t (K.i (K.i (K.i (K.o (K.i K.z))))))) Option.none Gd.no []])
  .skip))
  (.seq (.region [.mk (mvR (X.t (K.o (K.i K.z)))) (Option.some (K.i (K.o (K.o (K.i (K.i K.z)))))) Gd.no [],
   .mk (mvR (X.t (K.i (K.o (K.o (K.i (K.i K.z))))))) (Option.some (K.i (K.o K.z))) Gd.no []])
  .ret)))))))
theorem C33ok : (match Try.f33.body with | some c => comp Try.prog 57 c | none => none) = some C33 := by kernel_rfl
@[go_sem] theorem call33 (args : List AV) (H : Heap) : callC Try.prog 33 args H = .call 33 args := callC_ok (by kernel_rfl) args H
theorem R33ok : resKs Try.prog Try.f33.results.toList = some [(RK.tmp (K.i (K.o K.z)))] := by kernel_rfl

/- 34: estuary/estuaryref11.WithDone -/
noncomputable def C34L0 : CC :=
  (.seq (.seq (.region [.mk (mvR (X.t (K.o (K.i (K.o K.z))))) (Option.some (K.i (K.i (K.o (K.i K.z))))) Gd.no [],
   .mk (mvR (X.t K.z)) (Option.some (K.o (K.o (K.i (K.i K.z))))) Gd.no [],
   .mk (lenR LnK.slice (X.t (K.o (K.o (K.i (K.i K.z)))))) (Option.some (K.i (K.o (K.i (K.i K.z))))) Gd.no [],
   .mk (binR Try.prog EK.no Option.none Bool.false BinOp.lss (X.t (K.i (K.i (K.o (K.i K.z))))) (X.t (K.i (K.o (K.i (K.i K.z)))))) (Option.some (K.o (K.i (K.i (K.i K.z))))) Gd.no []])
  (.cond (X.t (K.o (K.i (K.i (K.i K.z)))))
  .skip
  (.exit 0)))
  (.seq (.block 1 (.seq (.seq (.regionD [.mk (keepH (mvR (X.t (K.i (K.o (K.o K.z)))))) (Option.some (K.i (K.o (K.o (K.o (K.o K.z)))))) Gd.no [],
   .mk (keepH (unR UnOp.not (X.t (K.i (K.o (K.o (K.o (K.o K.z)))))))) (Option.some (K.o (K.i (K.o (K.o (K.o K.z)))))) Gd.no [],
   .mk (keepH (mvR (X.t (K.o (K.i (K.o (K.o (K.o K.z)))))))) (Option.some (K.i (K.i (K.o (K.o (K.o K.z)))))) Gd.no [],
   .mk (keepH (faR 0 (X.t (K.o (K.o K.z))))) (Option.some (K.i (K.o (K.o (K.i (K.o K.z)))))) (Gd.on (K.i (K.i (K.o (K.o (K.o K.z))))) Bool.true) [],
   .mk (keepH (ldR Bool.false 1 (X.t (K.i (K.o (K.o (K.i (K.o K.z)))))))) (Option.some (K.o (K.i (K.o (K.i (K.o K.z)))))) (Gd.on (K.i (K.i (K.o (K.o (K.o K.z))))) Bool.true) [],
   .mk (keepH (mvR (X.t (K.o (K.i (K.o K.z)))))) (Option.some (K.i (K.o (K.i (K.o (K.o K.z)))))) (Gd.on (K.i (K.i (K.o (K.o (K.o K.z))))) Bool.true) [],
   .mk (keepH (mvR (X.t K.z))) (Option.some (K.o (K.o (K.i (K.o (K.o K.z)))))) (Gd.on (K.i (K.i (K.o (K.o (K.o K.z))))) Bool.true) [],
   .mk (keepH (iaS 6 (X.t (K.o (K.o (K.i (K.o (K.o K.z)))))) (X.t (K.i (K.o (K.i (K.o (K.o K.z)))))))) (Option.some (K.o (K.i (K.i (K.o (K.o K.z)))))) (Gd.on (K.i (K.i (K.o (K.o (K.o K.z))))) Bool.true) [],
   .mk (keepH (faR 0 (X.t (K.o (K.i (K.i (K.o (K.o K.z)))))))) (Option.some (K.i (K.i (K.i (K.o (K.o K.z)))))) (Gd.on (K.i (K.i (K.o (K.o (K.o K.z))))) Bool.true) [],
   .mk (keepH (ldR Bool.false 1 (X.t (K.i (K.i (K.i (K.o (K.o K.z)))))))) (Option.some (K.o (K.o (K.o (K.i (K.o K.z)))))) (Gd.on (K.i (K.i (K.o (K.o (K.o K.z))))) Bool.true) [],
   .mk (keepH (binR Try.prog EK.no Option.none Bool.false BinOp.geq (X.t (K.o (K.o (K.o (K.i (K.o K.z)))))) (X.t (K.o (K.i (K.o (K.i (K.o K.z)))))))) (Option.some (K.i (K.i (K.o (K.i (K.o K.z)))))) (Gd.on (K.i (K.i (K.o (K.o (K.o K.z))))) Bool.true) [],
   .mk (keepH (pickR (X.t (K.i (K.i (K.o (K.o (K.o K.z)))))) (X.t (K.i (K.i (K.o (K.i (K.o K.z)))))) (X.c (AV.bool Bool.false)))) (Option.some (K.o (K.o (K.i (K.i (K.o K.z)))))) Gd.no []])
  (.cond (X.t (K.o (K.o (K.i (K.i (K.o K.z))))))
  (.seq (.region [.mk (mvR (X.t (K.o (K.o (K.o K.z))))) (Option.some (K.i (K.o (K.i (K.i (K.o K.z)))))) Gd.no [],
   .mk (ldR Bool.true 6 (X.t (K.o (K.o K.z)))) (Option.some (K.o (K.i (K.i (K.i (K.o K.z)))))) Gd.no [],
   .mk (bslR 6 1 [(AV.int IntKind.i64 0), (AV.int IntKind.i64 0), (AV.int IntKind.i64 0), (AV.str []), (AV.int IntKind.i64 0), AV.nils] [(0, (X.t (K.o (K.i (K.i (K.i (K.o K.z)))))))]) (Option.some (K.i (K.i (K.i (K.i (K.o K.z)))))) Gd.no [],
   .mk (appR 6 72 (X.t (K.i (K.o (K.i (K.i (K.o K.z)))))) (X.t (K.i (K.i (K.i (K.i (K.o K.z))))))) (Option.some (K.o (K.o (K.o (K.o (K.i K.z)))))) Gd.no [],
   .mk (mvR (X.t (K.o (K.o (K.o (K.o (K.i K.z))))))) (Option.some (K.o (K.o (K.o K.z)))) Gd.no []])
  (.region [.mk (mvR (X.c (AV.bool Bool.true))) (Option.some (K.i (K.o (K.o K.z)))) Gd.no []]))
  .skip))
  (.seq (.regionD [.mk (keepH (faR 0 (X.t (K.o (K.o K.z))))) (Option.some (K.o (K.i (K.i (K.o (K.i K.z)))))) Gd.no [],
   .mk (keepH (ldR Bool.false 1 (X.t (K.o (K.i (K.i (K.o (K.i K.z)))))))) (Option.some (K.i (K.i (K.i (K.o (K.i K.z)))))) Gd.no [],
   .mk (keepH (mvR (X.t (K.o (K.i (K.o K.z)))))) (Option.some (K.o (K.i (K.o (K.o (K.i K.z)))))) Gd.no [],
   .mk (keepH (mvR (X.t K.z))) (Option.some (K.i (K.o (K.o (K.o (K.i K.z)))))) Gd.no [],
   .mk (keepH (iaS 6 (X.t (K.i (K.o (K.o (K.o (K.i K.z)))))) (X.t (K.o (K.i (K.o (K.o (K.i K.z)))))))) (Option.some (K.i (K.i (K.o (K.o (K.i K.z)))))) Gd.no [],
   .mk (keepH (faR 0 (X.t (K.i (K.i (K.o (K.o (K.i K.z)))))))) (Option.some (K.o (K.o (K.i (K.o (K.i K.z)))))) Gd.no [],
   .mk (keepH (ldR Bool.false 1 (X.t (K.o (K.o (K.i (K.o (K.i K.z)))))))) (Option.some (K.i (K.o (K.i (K.o (K.i K.z)))))) Gd.no [],
   .mk (keepH (binR Try.prog EK.no Option.none Bool.false BinOp.neq (X.t (K.i (K.o (K.i (K.o (K.i K.z)))))) (X.t (K.i (K.i (K.i (K.o (K.i K.z)))))))) (Option.some (K.o (K.o (K.o (K.i (K.i K.z)))))) Gd.no []])
  (.cond (X.t (K.o (K.o (K.o (K.i (K.i K.z))))))
  (.region [.mk (mvR (X.t (K.o (K.o (K.o K.z))))) (Option.some (K.i (K.o (K.o (K.i (K.i K.z)))))) Gd.no [],
   .mk (mvR (X.t K.z)) (Option.some (K.o (K.i (K.o (K.i (K.i K.z)))))) Gd.no [],
   .mk (mvR (X.t (K.o (K.i (K.o K.z))))) (Option.some (K.i (K.i (K.o (K.i (K.i K.z)))))) Gd.no [],
   .mk (iaS 6 (X.t (K.o (K.i (K.o (K.i (K.i K.z)))))) (X.t (K.i (K.i (K.o (K.i (K.i K.z))))))) (Option.some (K.o (K.o (K.i (K.i (K.i K.z)))))) Gd.no [],
   .mk (ldR Bool.true 6 (X.t (K.o (K.o (K.i (K.i (K.i K.z))))))) (Option.some (K.i (K.o (K.i (K.i (K.i K.z)))))) Gd.no [],
   .mk (bslR 6 1 [(AV.int IntKind.i64 0), (AV.int IntKind.i64 0), (AV.int IntKind.i64 0), (AV.str []), (AV.int IntKind.i64 0), AV.nils] [(0, (X.t (K.i (K.o (K.i (K.i (K.i K.z)))))))]) (Option.some (K.o (K.i (K.i (K.i (K.i K.z)))))) Gd.no [],
   .mk (appR 6 72 (X.t (K.i (K.o (K.o (K.i (K.i K.z)))))) (X.t (K.o (K.i (K.i (K.i (K.i K.z))))))) (Option.some (K.i (K.i (K.i (K.i (K.i K.z)))))) Gd.no [],
   .mk (mvR (X.t (K.i (K.i (K.i (K.i (K.i K.z))))))) (Option.some (K.o (K.o (K.o K.z)))) Gd.no []])
  .skip))))
  (.region [.mk (mvR (X.t (K.o (K.i (K.o K.z))))) (Option.some (K.i (K.i (K.i (K.i K.z))))) Gd.no [],
   .mk (binR Try.prog EK.no Option.none Bool.true BinOp.add (X.t (K.i (K.i (K.i (K.i K.z))))) (X.c (AV.int IntKind.i64 1))) (Option.some (K.o (K.o (K.o (K.o (K.o K.z)))))) Gd.no [],
   .mk (mvR (X.t (K.o (K.o (K.o (K.o (K.o K.z))))))) (Option.some (K.o (K.i (K.o K.z)))) Gd.no []])))
noncomputable def C34 : CC :=
  (.seq (.region [.mk (boxR Bool.false (X.t (K.o K.z))) (Option.some (K.o (K.o K.z))) Gd.no [],
   .mk (mvR (X.c AV.nils)) (Option.some (K.i (K.o K.z))) Gd.no []])
  (.seq (.seq (.region [.mk (mvR (X.t K.z)) (Option.some (K.o (K.o (K.i K.z)))) Gd.no [],
   .mk (faR 0 (X.t (K.o (K.o K.z)))) (Option.some (K.i (K.o (K.i K.z)))) Gd.no [],
   .mk (ldR Bool.false 1 (X.t (K.i (K.o (K.i K.z))))) (Option.some (K.o (K.i (K.i K.z)))) Gd.no [],
   .mk (callS Try.prog 56 [(X.t (K.o (K.o (K.i K.z)))), (X.t (K.o (K.i (K.i K.z))))]) (Option.some (K.i (K.i (K.i K.z)))) Gd.no [],
   .mk (mvR (X.t (K.i (K.i (K.i K.z))))) (Option.some (K.i (K.i (K.o K.z)))) Gd.no [],
   .mk (extR (X.t (K.i (K.i (K.o K.z)))) 0) (Option.some (K.o (K.o (K.o (K.o K.z))))) Gd.no [],
   .mk (extR (X.t (K.i (K.i (K.o K.z)))) 1) (Option.some (K.i (K.o (K.o (K.o K.z))))) Gd.no [],
   .mk (fun _ H => newC Bool.false [(AV.int IntKind.i64 0), (AV.int IntKind.i64 0), (AV.int IntKind.i64 0), (AV.str []), (AV.int IntKind.i64 0), AV.nils] H) (Option.some (K.o (K.i K.z))) Gd.no [],
   .mk (stR 6 (X.t (K.o (K.i K.z))) (X.t (K.o (K.o (K.o (K.o K.z)))))) Option.none Gd.no [],
   .mk (mvR (X.t (K.i (K.o (K.o (K.o K.z)))))) (Option.some (K.i (K.i K.z))) Gd.no []])
  (.seq (.region [.mk (mvR (X.t (K.i (K.i K.z)))) (Option.some (K.o (K.i (K.o (K.o K.z))))) Gd.no [],
   .mk (mvR (X.t (K.o (K.i (K.o (K.o K.z)))))) (Option.some (K.i (K.i (K.o (K.o K.z))))) Gd.no [],
   .mk (faR 1 (X.t (K.o (K.i K.z)))) (Option.some (K.o (K.o (K.i (K.o K.z))))) (Gd.on (K.i (K.i (K.o (K.o K.z)))) Bool.true) [],
   .mk (ldR Bool.false 1 (X.t (K.o (K.o (K.i (K.o K.z)))))) (Option.some (K.i (K.o (K.i (K.o K.z))))) (Gd.on (K.i (K.i (K.o (K.o K.z)))) Bool.true) [],
   .mk (faR 1 (X.t (K.o (K.o K.z)))) (Option.some (K.o (K.i (K.i (K.o K.z))))) (Gd.on (K.i (K.i (K.o (K.o K.z)))) Bool.true) [],
   .mk (ldR Bool.false 1 (X.t (K.o (K.i (K.i (K.o K.z)))))) (Option.some (K.i (K.i (K.i (K.o K.z))))) (Gd.on (K.i (K.i (K.o (K.o K.z)))) Bool.true) [],
   .mk (binR Try.prog EK.no Option.none Bool.false BinOp.gtr (X.t (K.i (K.o (K.i (K.o K.z))))) (X.t (K.i (K.i (K.i (K.o K.z)))))) (Option.some (K.o (K.o (K.o (K.i K.z))))) (Gd.on (K.i (K.i (K.o (K.o K.z)))) Bool.true) [],
   .mk (pickR (X.t (K.i (K.i (K.o (K.o K.z))))) (X.t (K.o (K.o (K.o (K.i K.z))))) (X.c (AV.bool Bool.false))) (Option.some (K.i (K.o (K.o (K.i K.z))))) Gd.no []])
  (.cond (X.t (K.i (K.o (K.o (K.i K.z)))))
  (.seq (.region [.mk (mvR (X.t K.z)) (Option.some (K.o (K.i (K.o (K.i K.z))))) Gd.no [],
   .mk (mvR (X.t (K.o (K.i (K.o (K.i K.z)))))) (Option.some (K.i (K.o K.z))) Gd.no []])
  .ret)
  .skip)))
  (.seq (.region [.mk (mvR (X.c AV.nils)) (Option.some (K.o (K.o (K.o K.z)))) Gd.no []])
  (.seq (.region [.mk (mvR (X.c (AV.bool Bool.false))) (Option.some (K.i (K.o (K.o K.z)))) Gd.no []])
  (.seq (.seq (.region [.mk (mvR (X.c (AV.int IntKind.i64 0))) (Option.some (K.o (K.i (K.o K.z)))) Gd.no []])
  (.block 0 (.loop C34L0)))
  (.seq (.seq (.region [.mk (mvR (X.t (K.i (K.o (K.o K.z))))) (Option.some (K.o (K.o (K.o (K.o (K.o (K.o K.z))))))) Gd.no [],
   .mk (unR UnOp.not (X.t (K.o (K.o (K.o (K.o (K.o (K.o K.z)))))))) (Option.some (K.i (K.o (K.o (K.o (K.o (K.o K.z))))))) Gd.no []])
  (.cond (X.t (K.i (K.o (K.o (K.o (K.o (K.o K.z)))))))
  (.region [.mk (mvR (X.t (K.o (K.o (K.o K.z))))) (Option.some (K.o (K.i (K.o (K.o (K.o (K.o K.z))))))) Gd.no [],
   .mk (ldR Bool.true 6 (X.t (K.o (K.o K.z)))) (Option.some (K.i (K.i (K.o (K.o (K.o (K.o K.z))))))) Gd.no [],
   .mk (bslR 6 1 [(AV.int IntKind.i64 0), (AV.int IntKind.i64 0), (AV.int IntKind.i64 0), (AV.str []), (AV.int IntKind.i64 0), AV.nils] [(0, (X.t (K.i (K.i (K.o (K.o (K.o (K.o K.z))))))))]) (Option.some (K.o (K.o (K.i (K.o (K.o (K.o K.z))))))) Gd.no [],
   .mk (appR 6 72 (X.t (K.o (K.i (K.o (K.o (K.o (K.o K.z))))))) (X.t (K.o (K.o (K.i (K.o (K.o (K.o K.z)))))))) (Option.some (K.i (K.o (K.i (K.o (K.o (K.o K.z))))))) Gd.no [],
   .mk (mvR (X.t (K.i (K.o (K.i (K.o (K.o (K.o K.z)))))))) (Option.some (K.o (K.o (K.o K.z)))) Gd.no []])
  .skip))
  (.seq (.region [.mk (mvR (X.t (K.o (K.o (K.o K.z))))) (Option.some (K.o (K.i (K.i (K.o (K.o (K.o K.z))))))) Gd.no [],
   .mk (mvR (X.t (K.o (K.i (K.i (K.o (K.o (K.o K.z)))))))) (Option.some (K.i (K.o K.z))) Gd.no []])
  .ret)))))))
theorem C34ok : (match Try.f34.body with | some c => comp Try.prog 70 c | none => none) = some C34 := by kernel_rfl
@[go_sem] theorem call34 (args : List AV) (H : Heap) : callC Try.prog 34 args H = .call 34 args := callC_ok (by kernel_rfl) args H
theorem R34ok : resKs Try.prog Try.f34.results.toList = some [(RK.tmp (K.i (K.o K.z)))] := by kernel_rfl

/- 35: estuary/once.Join -/
noncomputable def C35L0 : CC :=
  (.seq (.region [.mk (binR Try.prog EK.no Option.none Bool.false BinOp.lss (X.t (K.i (K.o (K.i K.z)))) (X.t (K.o (K.o (K.i K.z))))) (Option.some (K.o (K.i (K.i K.z)))) Gd.no []])
  (.seq (.cond (X.t (K.o (K.i (K.i K.z))))
  .skip
  (.exit 0))
  (.seq (.block 1 (.seq (.region [.mk (iaS 6 (X.t (K.i (K.i (K.o K.z)))) (X.t (K.i (K.o (K.i K.z))))) (Option.some (K.i (K.i (K.i K.z)))) Gd.no [],
   .mk (ldR Bool.true 6 (X.t (K.i (K.i (K.i K.z))))) (Option.some (K.o (K.o (K.o (K.o K.z))))) Gd.no [],
   .mk (fun _ H => newC Bool.false [(AV.int IntKind.i64 0), (AV.int IntKind.i64 0), (AV.int IntKind.i64 0), (AV.str []), (AV.int IntKind.i64 0), AV.nils] H) (Option.some (K.o (K.o (K.o K.z)))) Gd.no [],
   .mk (stR 6 (X.t (K.o (K.o (K.o K.z)))) (X.t (K.o (K.o (K.o (K.o K.z)))))) Option.none Gd.no []])
  (.region [.mk (mvR (X.t (K.o (K.i K.z)))) (Option.some (K.i (K.o (K.o (K.o K.z))))) Gd.no [],
   .mk (ldR Bool.true 6 (X.t (K.o (K.o (K.o K.z))))) (Option.some (K.o (K.i (K.o (K.o K.z))))) Gd.no [],
   .mk (callS Try.prog 33 [(X.t (K.i (K.o (K.o (K.o K.z))))), (X.t (K.o (K.i (K.o (K.o K.z)))))]) (Option.some (K.i (K.i (K.o (K.o K.z))))) Gd.no [],
   .mk (mvR (X.t (K.i (K.i (K.o (K.o K.z)))))) (Option.some (K.o (K.i K.z))) Gd.no []])))
  (.region [.mk (binR Try.prog EK.no Option.none Bool.true BinOp.add (X.t (K.i (K.o (K.i K.z)))) (X.c (AV.int IntKind.i64 1))) (Option.some (K.o (K.o (K.i (K.o K.z))))) Gd.no [],
   .mk (mvR (X.t (K.o (K.o (K.i (K.o K.z)))))) (Option.some (K.i (K.o (K.i K.z)))) Gd.no []]))))
noncomputable def C35 : CC :=
  (.seq (.region [.mk (mvR (X.c AV.nils)) (Option.some (K.i (K.o K.z))) Gd.no []])
  (.seq (.region [.mk (mvR (X.t (K.o K.z))) (Option.some (K.i (K.o (K.o K.z)))) Gd.no [],
   .mk (callS Try.prog 57 [(X.t (K.i (K.o (K.o K.z))))]) (Option.some (K.o (K.i (K.o K.z)))) Gd.no [],
   .mk (mvR (X.t (K.o (K.i (K.o K.z))))) (Option.some (K.o (K.i K.z))) Gd.no []])
  (.seq (.seq (.region [.mk (mvR (X.t K.z)) (Option.some (K.i (K.i (K.o K.z)))) Gd.no [],
   .mk (lenR LnK.slice (X.t (K.i (K.i (K.o K.z))))) (Option.some (K.o (K.o (K.i K.z)))) Gd.no [],
   .mk (mvR (X.c (AV.int IntKind.i64 0))) (Option.some (K.i (K.o (K.i K.z)))) Gd.no []])
  (.block 0 (.loop C35L0)))
  (.seq (.region [.mk (mvR (X.t (K.o (K.i K.z)))) (Option.some (K.i (K.o (K.i (K.o K.z))))) Gd.no [],
   .mk (mvR (X.t (K.i (K.o (K.i (K.o K.z)))))) (Option.some (K.i (K.o K.z))) Gd.no []])
  .ret))))
theorem C35ok : (match Try.f35.body with | some c => comp Try.prog 21 c | none => none) = some C35 := by kernel_rfl
@[go_sem] theorem call35 (args : List AV) (H : Heap) : callC Try.prog 35 args H = .call 35 args := callC_ok (by kernel_rfl) args H
theorem R35ok : resKs Try.prog Try.f35.results.toList = some [(RK.tmp (K.i (K.o K.z)))] := by kernel_rfl

/- 36: estuary/estuaryref11.JoinDone -/
noncomputable def C36L0 : CC :=
  (.seq (.seq (.region [.mk (mvR (X.t (K.i (K.i K.z)))) (Option.some (K.i (K.i (K.o K.z)))) Gd.no [],
   .mk (mvR (X.t (K.o K.z))) (Option.some (K.o (K.o (K.i K.z)))) Gd.no [],
   .mk (lenR LnK.slice (X.t (K.o (K.o (K.i K.z))))) (Option.some (K.i (K.o (K.i K.z)))) Gd.no [],
   .mk (binR Try.prog EK.no Option.none Bool.false BinOp.lss (X.t (K.i (K.i (K.o K.z)))) (X.t (K.i (K.o (K.i K.z))))) (Option.some (K.o (K.i (K.i K.z)))) Gd.no []])
  (.cond (X.t (K.o (K.i (K.i K.z))))
  .skip
  (.exit 0)))
  (.seq (.block 1 (.seq (.region [.mk (mvR (X.t K.z)) (Option.some (K.o (K.i (K.o (K.o K.z))))) Gd.no [],
   .mk (mvR (X.t (K.o K.z))) (Option.some (K.i (K.i (K.o (K.o K.z))))) Gd.no [],
   .mk (mvR (X.t (K.i (K.i K.z)))) (Option.some (K.o (K.o (K.i (K.o K.z))))) Gd.no [],
   .mk (iaS 6 (X.t (K.i (K.i (K.o (K.o K.z))))) (X.t (K.o (K.o (K.i (K.o K.z)))))) (Option.some (K.i (K.o (K.i (K.o K.z))))) Gd.no [],
   .mk (faR 0 (X.t (K.i (K.o (K.i (K.o K.z)))))) (Option.some (K.o (K.i (K.i (K.o K.z))))) Gd.no [],
   .mk (ldR Bool.false 1 (X.t (K.o (K.i (K.i (K.o K.z)))))) (Option.some (K.i (K.i (K.i (K.o K.z))))) Gd.no [],
   .mk (callS Try.prog 56 [(X.t (K.o (K.i (K.o (K.o K.z))))), (X.t (K.i (K.i (K.i (K.o K.z)))))]) (Option.some (K.o (K.o (K.o (K.i K.z))))) Gd.no [],
   .mk (mvR (X.t (K.o (K.o (K.o (K.i K.z)))))) (Option.some (K.i (K.o (K.o (K.o K.z))))) Gd.no [],
   .mk (extR (X.t (K.i (K.o (K.o (K.o K.z))))) 0) (Option.some (K.i (K.o (K.o (K.i K.z))))) Gd.no [],
   .mk (extR (X.t (K.i (K.o (K.o (K.o K.z))))) 1) (Option.some (K.o (K.i (K.o (K.i K.z))))) Gd.no [],
   .mk (fun _ H => newC Bool.false [(AV.int IntKind.i64 0), (AV.int IntKind.i64 0), (AV.int IntKind.i64 0), (AV.str []), (AV.int IntKind.i64 0), AV.nils] H) (Option.some (K.o (K.o (K.o K.z)))) Gd.no [],
   .mk (stR 6 (X.t (K.o (K.o (K.o K.z)))) (X.t (K.i (K.o (K.o (K.i K.z)))))) Option.none Gd.no [],
   .mk (mvR (X.t (K.o (K.i (K.o (K.i K.z)))))) (Option.some (K.i (K.o (K.o K.z)))) Gd.no []])
  (.seq (.regionD [.mk (keepH (mvR (X.t (K.i (K.o (K.o K.z)))))) (Option.some (K.i (K.i (K.o (K.i K.z))))) Gd.no [],
   .mk (keepH (unR UnOp.not (X.t (K.i (K.i (K.o (K.i K.z))))))) (Option.some (K.o (K.o (K.i (K.i K.z))))) Gd.no [],
   .mk (keepH (mvR (X.t (K.o (K.o (K.i (K.i K.z))))))) (Option.some (K.i (K.o (K.i (K.i K.z))))) Gd.no [],
   .mk (keepH (mvR (X.t (K.i (K.i K.z))))) (Option.some (K.i (K.o (K.o (K.o (K.o K.z)))))) (Gd.on (K.i (K.o (K.i (K.i K.z)))) Bool.false) [],
   .mk (keepH (mvR (X.t (K.o K.z)))) (Option.some (K.o (K.o (K.o (K.o (K.o K.z)))))) (Gd.on (K.i (K.o (K.i (K.i K.z)))) Bool.false) [],
   .mk (keepH (iaS 6 (X.t (K.o (K.o (K.o (K.o (K.o K.z)))))) (X.t (K.i (K.o (K.o (K.o (K.o K.z)))))))) (Option.some (K.o (K.i (K.o (K.o (K.o K.z)))))) (Gd.on (K.i (K.o (K.i (K.i K.z)))) Bool.false) [],
   .mk (keepH (faR 1 (X.t (K.o (K.i (K.o (K.o (K.o K.z)))))))) (Option.some (K.i (K.i (K.o (K.o (K.o K.z)))))) (Gd.on (K.i (K.o (K.i (K.i K.z)))) Bool.false) [],
   .mk (keepH (ldR Bool.false 1 (X.t (K.i (K.i (K.o (K.o (K.o K.z)))))))) (Option.some (K.o (K.o (K.i (K.o (K.o K.z)))))) (Gd.on (K.i (K.o (K.i (K.i K.z)))) Bool.false) [],
   .mk (keepH (faR 1 (X.t (K.o (K.o (K.o K.z)))))) (Option.some (K.o (K.i (K.i (K.i K.z))))) (Gd.on (K.i (K.o (K.i (K.i K.z)))) Bool.false) [],
   .mk (keepH (ldR Bool.false 1 (X.t (K.o (K.i (K.i (K.i K.z))))))) (Option.some (K.i (K.i (K.i (K.i K.z))))) (Gd.on (K.i (K.o (K.i (K.i K.z)))) Bool.false) [],
   .mk (keepH (binR Try.prog EK.no Option.none Bool.false BinOp.lss (X.t (K.i (K.i (K.i (K.i K.z))))) (X.t (K.o (K.o (K.i (K.o (K.o K.z)))))))) (Option.some (K.i (K.o (K.i (K.o (K.o K.z)))))) (Gd.on (K.i (K.o (K.i (K.i K.z)))) Bool.false) [],
   .mk (keepH (pickR (X.t (K.i (K.o (K.i (K.i K.z))))) (X.c (AV.bool Bool.true)) (X.t (K.i (K.o (K.i (K.o (K.o K.z)))))))) (Option.some (K.o (K.i (K.i (K.o (K.o K.z)))))) Gd.no []])
  (.cond (X.t (K.o (K.i (K.i (K.o (K.o K.z))))))
  (.region [.mk (mvR (X.t (K.o (K.i K.z)))) (Option.some (K.i (K.i (K.i (K.o (K.o K.z)))))) Gd.no [],
   .mk (mvR (X.t (K.o K.z))) (Option.some (K.o (K.o (K.o (K.i (K.o K.z)))))) Gd.no [],
   .mk (mvR (X.t (K.i (K.i K.z)))) (Option.some (K.i (K.o (K.o (K.i (K.o K.z)))))) Gd.no [],
   .mk (iaS 6 (X.t (K.o (K.o (K.o (K.i (K.o K.z)))))) (X.t (K.i (K.o (K.o (K.i (K.o K.z))))))) (Option.some (K.o (K.i (K.o (K.i (K.o K.z)))))) Gd.no [],
   .mk (ldR Bool.true 6 (X.t (K.o (K.i (K.o (K.i (K.o K.z))))))) (Option.some (K.i (K.i (K.o (K.i (K.o K.z)))))) Gd.no [],
   .mk (callS Try.prog 34 [(X.t (K.i (K.i (K.i (K.o (K.o K.z)))))), (X.t (K.i (K.i (K.o (K.i (K.o K.z))))))]) (Option.some (K.o (K.o (K.i (K.i (K.o K.z)))))) Gd.no [],
   .mk (mvR (X.t (K.o (K.o (K.i (K.i (K.o K.z))))))) (Option.some (K.o (K.i K.z))) Gd.no []])
  .skip))))
  (.region [.mk (mvR (X.t (K.i (K.i K.z)))) (Option.some (K.i (K.i (K.i K.z)))) Gd.no [],
   .mk (binR Try.prog EK.no Option.none Bool.true BinOp.add (X.t (K.i (K.i (K.i K.z)))) (X.c (AV.int IntKind.i64 1))) (Option.some (K.o (K.o (K.o (K.o K.z))))) Gd.no [],
   .mk (mvR (X.t (K.o (K.o (K.o (K.o K.z)))))) (Option.some (K.i (K.i K.z))) Gd.no []])))
noncomputable def C36 : CC :=
  (.seq (.region [.mk (mvR (X.c AV.nils)) (Option.some (K.i (K.o K.z))) Gd.no []])
  (.seq (.region [.mk (mvR (X.t K.z)) (Option.some (K.o (K.i (K.o K.z)))) Gd.no [],
   .mk (mvR (X.t (K.o (K.i (K.o K.z))))) (Option.some (K.o (K.i K.z))) Gd.no []])
  (.seq (.seq (.region [.mk (mvR (X.c (AV.int IntKind.i64 0))) (Option.some (K.i (K.i K.z))) Gd.no []])
  (.block 0 (.loop C36L0)))
  (.seq (.region [.mk (mvR (X.t (K.o (K.i K.z)))) (Option.some (K.i (K.o (K.i (K.i (K.o K.z)))))) Gd.no [],
   .mk (mvR (X.t (K.i (K.o (K.i (K.i (K.o K.z))))))) (Option.some (K.i (K.o K.z))) Gd.no []])
  .ret))))
theorem C36ok : (match Try.f36.body with | some c => comp Try.prog 45 c | none => none) = some C36 := by kernel_rfl
@[go_sem] theorem call36 (args : List AV) (H : Heap) : callC Try.prog 36 args H = .call 36 args := callC_ok (by kernel_rfl) args H
theorem R36ok : resKs Try.prog Try.f36.results.toList = some [(RK.tmp (K.i (K.o K.z)))] := by kernel_rfl

/- 53: estuary/op.AnswerBytes -/
noncomputable def C53L0 : CC :=
  (.seq (.region [.mk (binR Try.prog EK.no Option.none Bool.false BinOp.lss (X.t (K.i (K.o (K.i (K.i K.z))))) (X.t (K.o (K.o (K.i (K.i K.z)))))) (Option.some (K.o (K.i (K.i (K.i K.z))))) Gd.no []])
  (.seq (.cond (X.t (K.o (K.i (K.i (K.i K.z)))))
  .skip
  (.exit 0))
  (.seq (.block 1 (.seq (.region [.mk (iaS 3 (X.t (K.i (K.i (K.o (K.i K.z))))) (X.t (K.i (K.o (K.i (K.i K.z)))))) (Option.some (K.i (K.i (K.i (K.i K.z))))) Gd.no [],
   .mk (ldR Bool.true 3 (X.t (K.i (K.i (K.i (K.i K.z)))))) (Option.some (K.o (K.o (K.o (K.o (K.o K.z)))))) Gd.no [],
   .mk (fun _ H => newC Bool.false [(AV.str []), (AV.str []), (AV.int IntKind.i64 0)] H) (Option.some (K.o (K.i K.z))) Gd.no [],
   .mk (stR 3 (X.t (K.o (K.i K.z))) (X.t (K.o (K.o (K.o (K.o (K.o K.z))))))) Option.none Gd.no []])
  (.regionD [.mk (keepH (faR 2 (X.t (K.o (K.i K.z))))) (Option.some (K.i (K.o (K.o (K.i (K.o K.z)))))) Gd.no [],
   .mk (keepH (ldR Bool.false 1 (X.t (K.i (K.o (K.o (K.i (K.o K.z)))))))) (Option.some (K.o (K.i (K.o (K.i (K.o K.z)))))) Gd.no [],
   .mk (keepH (faR 1 (X.t (K.o (K.i K.z))))) (Option.some (K.i (K.o (K.i (K.o (K.o K.z)))))) Gd.no [],
   .mk (keepH (ldR Bool.false 1 (X.t (K.i (K.o (K.i (K.o (K.o K.z)))))))) (Option.some (K.o (K.i (K.i (K.o (K.o K.z)))))) Gd.no [],
   .mk (keepH (faR 0 (X.t (K.o (K.i K.z))))) (Option.some (K.o (K.i (K.o (K.o (K.o K.z)))))) Gd.no [],
   .mk (keepH (ldR Bool.false 1 (X.t (K.o (K.i (K.o (K.o (K.o K.z)))))))) (Option.some (K.i (K.i (K.o (K.o (K.o K.z)))))) Gd.no [],
   .mk (keepH (mvR (X.t (K.o (K.o K.z))))) (Option.some (K.i (K.o (K.o (K.o (K.o K.z)))))) Gd.no [],
   .mk (callS Try.prog 70 [(X.t (K.i (K.i (K.o (K.o (K.o K.z))))))]) (Option.some (K.o (K.o (K.i (K.o (K.o K.z)))))) Gd.no [.mk (mvR (X.t (K.o (K.o K.z)))) (Option.some (K.i (K.o (K.o (K.o (K.o K.z)))))) Gd.no, .mk (ldR Bool.false 1 (X.t (K.i (K.o (K.i (K.o (K.o K.z))))))) (Option.some (K.o (K.i (K.i (K.o (K.o K.z)))))) Gd.no, .mk (faR 1 (X.t (K.o (K.i K.z)))) (Option.some (K.i (K.o (K.i (K.o (K.o K.z)))))) Gd.no, .mk (ldR Bool.false 1 (X.t (K.i (K.o (K.o (K.i (K.o K.z))))))) (Option.some (K.o (K.i (K.o (K.i (K.o K.z)))))) Gd.no, .mk (faR 2 (X.t (K.o (K.i K.z)))) (Option.some (K.i (K.o (K.o (K.i (K.o K.z)))))) Gd.no],
   .mk (callS Try.prog 70 [(X.t (K.o (K.i (K.i (K.o (K.o K.z))))))]) (Option.some (K.i (K.i (K.i (K.o (K.o K.z)))))) Gd.no [.mk (mvR (X.t (K.o (K.o K.z)))) (Option.some (K.i (K.o (K.o (K.o (K.o K.z)))))) Gd.no, .mk (ldR Bool.false 1 (X.t (K.i (K.o (K.o (K.i (K.o K.z))))))) (Option.some (K.o (K.i (K.o (K.i (K.o K.z)))))) Gd.no, .mk (faR 2 (X.t (K.o (K.i K.z)))) (Option.some (K.i (K.o (K.o (K.i (K.o K.z)))))) Gd.no],
   .mk (keepH (binR Try.prog EK.no Option.none Bool.false BinOp.add (X.t (K.o (K.o (K.i (K.o (K.o K.z)))))) (X.t (K.i (K.i (K.i (K.o (K.o K.z)))))))) (Option.some (K.o (K.o (K.o (K.i (K.o K.z)))))) Gd.no [],
   .mk (callS Try.prog 69 [(X.t (K.o (K.i (K.o (K.i (K.o K.z))))))]) (Option.some (K.i (K.i (K.o (K.i (K.o K.z)))))) Gd.no [.mk (binR Try.prog EK.no Option.none Bool.false BinOp.add (X.t (K.o (K.o (K.i (K.o (K.o K.z)))))) (X.t (K.i (K.i (K.i (K.o (K.o K.z))))))) (Option.some (K.o (K.o (K.o (K.i (K.o K.z)))))) Gd.no, .mk (mvR (X.t (K.o (K.o K.z)))) (Option.some (K.i (K.o (K.o (K.o (K.o K.z)))))) Gd.no],
   .mk (keepH (binR Try.prog EK.no Option.none Bool.false BinOp.add (X.t (K.o (K.o (K.o (K.i (K.o K.z)))))) (X.t (K.i (K.i (K.o (K.i (K.o K.z)))))))) (Option.some (K.o (K.o (K.i (K.i (K.o K.z)))))) Gd.no [],
   .mk (keepH (binR Try.prog EK.no Option.none Bool.false BinOp.add (X.t (K.i (K.o (K.o (K.o (K.o K.z)))))) (X.t (K.o (K.o (K.i (K.i (K.o K.z)))))))) (Option.some (K.i (K.o (K.i (K.i (K.o K.z)))))) Gd.no [],
   .mk (mvR (X.t (K.i (K.o (K.i (K.i (K.o K.z))))))) (Option.some (K.o (K.o K.z))) Gd.no []])))
  (.region [.mk (binR Try.prog EK.no Option.none Bool.true BinOp.add (X.t (K.i (K.o (K.i (K.i K.z))))) (X.c (AV.int IntKind.i64 1))) (Option.some (K.o (K.i (K.i (K.i (K.o K.z)))))) Gd.no [],
   .mk (mvR (X.t (K.o (K.i (K.i (K.i (K.o K.z))))))) (Option.some (K.i (K.o (K.i (K.i K.z))))) Gd.no []]))))
noncomputable def C53 : CC :=
  (.seq (.region [.mk (boxR Bool.false (X.t K.z)) (Option.some (K.o K.z)) Gd.no [],
   .mk (mvR (X.c (AV.str []))) (Option.some (K.i K.z)) Gd.no []])
  (.seq (.seq (.region [.mk (ldR Bool.true 4 (X.t (K.o K.z))) (Option.some (K.i (K.i K.z))) Gd.no [],
   .mk (callS Try.prog 68 [(X.t (K.i (K.i K.z)))]) (Option.some (K.o (K.o (K.o K.z)))) Gd.no [],
   .mk (unR UnOp.not (X.t (K.o (K.o (K.o K.z))))) (Option.some (K.i (K.o (K.o K.z)))) Gd.no []])
  (.cond (X.t (K.i (K.o (K.o K.z))))
  (.seq (.region [.mk (mvR (X.c (AV.str []))) (Option.some (K.i K.z)) Gd.no []])
  .ret)
  .skip))
  (.seq (.regionD [.mk (keepH (faR 3 (X.t (K.o K.z)))) (Option.some (K.i (K.o (K.i (K.o K.z))))) Gd.no [],
   .mk (keepH (ldR Bool.false 1 (X.t (K.i (K.o (K.i (K.o K.z))))))) (Option.some (K.o (K.i (K.i (K.o K.z))))) Gd.no [],
   .mk (keepH (lenR LnK.slice (X.t (K.o (K.i (K.i (K.o K.z))))))) (Option.some (K.i (K.i (K.i (K.o K.z))))) Gd.no [],
   .mk (keepH (faR 2 (X.t (K.o K.z)))) (Option.some (K.i (K.o (K.o (K.o K.z))))) Gd.no [],
   .mk (keepH (ldR Bool.false 1 (X.t (K.i (K.o (K.o (K.o K.z))))))) (Option.some (K.o (K.i (K.o (K.o K.z))))) Gd.no [],
   .mk (keepH (faR 1 (X.t (K.o K.z)))) (Option.some (K.i (K.o (K.i K.z)))) Gd.no [],
   .mk (keepH (ldR Bool.false 1 (X.t (K.i (K.o (K.i K.z)))))) (Option.some (K.o (K.i (K.i K.z)))) Gd.no [],
   .mk (keepH (faR 0 (X.t (K.o K.z)))) (Option.some (K.o (K.i (K.o K.z)))) Gd.no [],
   .mk (keepH (ldR Bool.false 1 (X.t (K.o (K.i (K.o K.z)))))) (Option.some (K.i (K.i (K.o K.z)))) Gd.no [],
   .mk (callS Try.prog 69 [(X.t (K.i (K.i (K.o K.z))))]) (Option.some (K.o (K.o (K.i K.z)))) Gd.no [.mk (ldR Bool.false 1 (X.t (K.i (K.o (K.i K.z))))) (Option.some (K.o (K.i (K.i K.z)))) Gd.no, .mk (faR 1 (X.t (K.o K.z))) (Option.some (K.i (K.o (K.i K.z)))) Gd.no, .mk (ldR Bool.false 1 (X.t (K.i (K.o (K.o (K.o K.z)))))) (Option.some (K.o (K.i (K.o (K.o K.z))))) Gd.no, .mk (faR 2 (X.t (K.o K.z))) (Option.some (K.i (K.o (K.o (K.o K.z))))) Gd.no, .mk (lenR LnK.slice (X.t (K.o (K.i (K.i (K.o K.z)))))) (Option.some (K.i (K.i (K.i (K.o K.z))))) Gd.no, .mk (ldR Bool.false 1 (X.t (K.i (K.o (K.i (K.o K.z)))))) (Option.some (K.o (K.i (K.i (K.o K.z))))) Gd.no, .mk (faR 3 (X.t (K.o K.z))) (Option.some (K.i (K.o (K.i (K.o K.z))))) Gd.no],
   .mk (callS Try.prog 70 [(X.t (K.o (K.i (K.i K.z))))]) (Option.some (K.i (K.i (K.i K.z)))) Gd.no [.mk (ldR Bool.false 1 (X.t (K.i (K.o (K.o (K.o K.z)))))) (Option.some (K.o (K.i (K.o (K.o K.z))))) Gd.no, .mk (faR 2 (X.t (K.o K.z))) (Option.some (K.i (K.o (K.o (K.o K.z))))) Gd.no, .mk (lenR LnK.slice (X.t (K.o (K.i (K.i (K.o K.z)))))) (Option.some (K.i (K.i (K.i (K.o K.z))))) Gd.no, .mk (ldR Bool.false 1 (X.t (K.i (K.o (K.i (K.o K.z)))))) (Option.some (K.o (K.i (K.i (K.o K.z))))) Gd.no, .mk (faR 3 (X.t (K.o K.z))) (Option.some (K.i (K.o (K.i (K.o K.z))))) Gd.no],
   .mk (keepH (binR Try.prog EK.no Option.none Bool.false BinOp.add (X.t (K.o (K.o (K.i K.z)))) (X.t (K.i (K.i (K.i K.z)))))) (Option.some (K.o (K.o (K.o (K.o K.z))))) Gd.no [],
   .mk (callS Try.prog 69 [(X.t (K.o (K.i (K.o (K.o K.z)))))]) (Option.some (K.i (K.i (K.o (K.o K.z))))) Gd.no [.mk (binR Try.prog EK.no Option.none Bool.false BinOp.add (X.t (K.o (K.o (K.i K.z)))) (X.t (K.i (K.i (K.i K.z))))) (Option.some (K.o (K.o (K.o (K.o K.z))))) Gd.no, .mk (lenR LnK.slice (X.t (K.o (K.i (K.i (K.o K.z)))))) (Option.some (K.i (K.i (K.i (K.o K.z))))) Gd.no, .mk (ldR Bool.false 1 (X.t (K.i (K.o (K.i (K.o K.z)))))) (Option.some (K.o (K.i (K.i (K.o K.z))))) Gd.no, .mk (faR 3 (X.t (K.o K.z))) (Option.some (K.i (K.o (K.i (K.o K.z))))) Gd.no],
   .mk (keepH (binR Try.prog EK.no Option.none Bool.false BinOp.add (X.t (K.o (K.o (K.o (K.o K.z))))) (X.t (K.i (K.i (K.o (K.o K.z))))))) (Option.some (K.o (K.o (K.i (K.o K.z))))) Gd.no [],
   .mk (callS Try.prog 69 [(X.t (K.i (K.i (K.i (K.o K.z)))))]) (Option.some (K.o (K.o (K.o (K.i K.z))))) Gd.no [.mk (binR Try.prog EK.no Option.none Bool.false BinOp.add (X.t (K.o (K.o (K.o (K.o K.z))))) (X.t (K.i (K.i (K.o (K.o K.z)))))) (Option.some (K.o (K.o (K.i (K.o K.z))))) Gd.no, .mk (binR Try.prog EK.no Option.none Bool.false BinOp.add (X.t (K.o (K.o (K.i K.z)))) (X.t (K.i (K.i (K.i K.z))))) (Option.some (K.o (K.o (K.o (K.o K.z))))) Gd.no],
   .mk (keepH (binR Try.prog EK.no Option.none Bool.false BinOp.add (X.t (K.o (K.o (K.i (K.o K.z))))) (X.t (K.o (K.o (K.o (K.i K.z))))))) (Option.some (K.i (K.o (K.o (K.i K.z))))) Gd.no [],
   .mk (mvR (X.t (K.i (K.o (K.o (K.i K.z)))))) (Option.some (K.o (K.o K.z))) Gd.no []])
  (.seq (.seq (.region [.mk (faR 3 (X.t (K.o K.z))) (Option.some (K.o (K.i (K.o (K.i K.z))))) Gd.no [],
   .mk (ldR Bool.false 1 (X.t (K.o (K.i (K.o (K.i K.z)))))) (Option.some (K.i (K.i (K.o (K.i K.z))))) Gd.no [],
   .mk (lenR LnK.slice (X.t (K.i (K.i (K.o (K.i K.z)))))) (Option.some (K.o (K.o (K.i (K.i K.z))))) Gd.no [],
   .mk (mvR (X.c (AV.int IntKind.i64 0))) (Option.some (K.i (K.o (K.i (K.i K.z))))) Gd.no []])
  (.block 0 (.loop C53L0)))
  (.seq (.region [.mk (mvR (X.t (K.o (K.o K.z)))) (Option.some (K.i (K.i (K.i (K.i (K.o K.z)))))) Gd.no [],
   .mk (mvR (X.t (K.i (K.i (K.i (K.i (K.o K.z))))))) (Option.some (K.i K.z)) Gd.no []])
  .ret)))))
theorem C53ok : (match Try.f53.body with | some c => comp Try.prog 47 c | none => none) = some C53 := by kernel_rfl
@[go_sem] theorem call53 (args : List AV) (H : Heap) : callC Try.prog 53 args H = .call 53 args := callC_ok (by kernel_rfl) args H
theorem R53ok : resKs Try.prog Try.f53.results.toList = some [(RK.tmp (K.i K.z))] := by kernel_rfl

/- 54: estuary/estuaryref6.IsAnswer -/
noncomputable def C54L0 : CC :=
  (.seq (.seq (.region [.mk (mvR (X.t (K.o (K.o K.z)))) (Option.some (K.i (K.o K.z))) Gd.no [],
   .mk (faR 3 (X.t (K.o K.z))) (Option.some (K.o (K.i K.z))) Gd.no [],
   .mk (ldR Bool.false 1 (X.t (K.o (K.i K.z)))) (Option.some (K.i (K.i K.z))) Gd.no [],
   .mk (lenR LnK.slice (X.t (K.i (K.i K.z)))) (Option.some (K.o (K.o (K.o K.z)))) Gd.no [],
   .mk (binR Try.prog EK.no Option.none Bool.false BinOp.lss (X.t (K.i (K.o K.z))) (X.t (K.o (K.o (K.o K.z))))) (Option.some (K.i (K.o (K.o K.z)))) Gd.no []])
  (.cond (X.t (K.i (K.o (K.o K.z))))
  .skip
  (.exit 0)))
  (.seq (.block 1 (.seq (.region [.mk (faR 3 (X.t (K.o K.z))) (Option.some (K.o (K.o (K.i K.z)))) Gd.no [],
   .mk (ldR Bool.false 1 (X.t (K.o (K.o (K.i K.z))))) (Option.some (K.i (K.o (K.i K.z)))) Gd.no [],
   .mk (mvR (X.t (K.o (K.o K.z)))) (Option.some (K.o (K.i (K.i K.z)))) Gd.no [],
   .mk (iaS 3 (X.t (K.i (K.o (K.i K.z)))) (X.t (K.o (K.i (K.i K.z))))) (Option.some (K.i (K.i (K.i K.z)))) Gd.no [],
   .mk (faR 0 (X.t (K.i (K.i (K.i K.z))))) (Option.some (K.o (K.o (K.o (K.o K.z))))) Gd.no [],
   .mk (ldR Bool.false 1 (X.t (K.o (K.o (K.o (K.o K.z)))))) (Option.some (K.i (K.o (K.o (K.o K.z))))) Gd.no [],
   .mk (lenR LnK.str (X.t (K.i (K.o (K.o (K.o K.z)))))) (Option.some (K.o (K.i (K.o (K.o K.z))))) Gd.no [],
   .mk (binR Try.prog EK.no Option.none Bool.true BinOp.gtr (X.t (K.o (K.i (K.o (K.o K.z))))) (X.c (AV.int IntKind.i64 255))) (Option.some (K.i (K.i (K.o (K.o K.z))))) Gd.no [],
   .mk (mvR (X.t (K.i (K.i (K.o (K.o K.z)))))) (Option.some (K.o (K.o (K.i (K.o K.z))))) Gd.no [],
   .mk (faR 3 (X.t (K.o K.z))) (Option.some (K.i (K.o (K.i (K.o K.z))))) (Gd.on (K.o (K.o (K.i (K.o K.z)))) Bool.false) [],
   .mk (ldR Bool.false 1 (X.t (K.i (K.o (K.i (K.o K.z)))))) (Option.some (K.o (K.i (K.i (K.o K.z))))) (Gd.on (K.o (K.o (K.i (K.o K.z)))) Bool.false) [],
   .mk (mvR (X.t (K.o (K.o K.z)))) (Option.some (K.i (K.i (K.i (K.o K.z))))) (Gd.on (K.o (K.o (K.i (K.o K.z)))) Bool.false) [],
   .mk (iaS 3 (X.t (K.o (K.i (K.i (K.o K.z))))) (X.t (K.i (K.i (K.i (K.o K.z)))))) (Option.some (K.o (K.o (K.o (K.i K.z))))) (Gd.on (K.o (K.o (K.i (K.o K.z)))) Bool.false) [],
   .mk (faR 1 (X.t (K.o (K.o (K.o (K.i K.z)))))) (Option.some (K.i (K.o (K.o (K.i K.z))))) (Gd.on (K.o (K.o (K.i (K.o K.z)))) Bool.false) [],
   .mk (ldR Bool.false 1 (X.t (K.i (K.o (K.o (K.i K.z)))))) (Option.some (K.o (K.i (K.o (K.i K.z))))) (Gd.on (K.o (K.o (K.i (K.o K.z)))) Bool.false) [],
   .mk (lenR LnK.str (X.t (K.o (K.i (K.o (K.i K.z)))))) (Option.some (K.i (K.i (K.o (K.i K.z))))) (Gd.on (K.o (K.o (K.i (K.o K.z)))) Bool.false) [],
   .mk (binR Try.prog EK.no Option.none Bool.true BinOp.gtr (X.t (K.i (K.i (K.o (K.i K.z))))) (X.c (AV.int IntKind.i64 255))) (Option.some (K.o (K.o (K.i (K.i K.z))))) (Gd.on (K.o (K.o (K.i (K.o K.z)))) Bool.false) [],
   .mk (pickR (X.t (K.o (K.o (K.i (K.o K.z))))) (X.c (AV.bool Bool.true)) (X.t (K.o (K.o (K.i (K.i K.z)))))) (Option.some (K.i (K.o (K.i (K.i K.z))))) Gd.no [],
   .mk (mvR (X.t (K.i (K.o (K.i (K.i K.z)))))) (Option.some (K.o (K.i (K.i (K.i K.z))))) Gd.no [],
   .mk (faR 3 (X.t (K.o K.z))) (Option.some (K.i (K.i (K.i (K.i K.z))))) (Gd.on (K.o (K.i (K.i (K.i K.z)))) Bool.false) [],
   .mk (ldR Bool.false 1 (X.t (K.i (K.i (K.i (K.i K.z)))))) (Option.some (K.o (K.o (K.o (K.o (K.o K.z)))))) (Gd.on (K.o (K.i (K.i (K.i K.z)))) Bool.false) [],
   .mk (mvR (X.t (K.o (K.o K.z)))) (Option.some (K.i (K.o (K.o (K.o (K.o K.z)))))) (Gd.on (K.o (K.i (K.i (K.i K.z)))) Bool.false) [],
   .mk (iaS 3 (X.t (K.o (K.o (K.o (K.o (K.o K.z)))))) (X.t (K.i (K.o (K.o (K.o (K.o K.z))))))) (Option.some (K.o (K.i (K.o (K.o (K.o K.z)))))) (Gd.on (K.o (K.i (K.i (K.i K.z)))) Bool.false) [],
   .mk (faR 2 (X.t (K.o (K.i (K.o (K.o (K.o K.z))))))) (Option.some (K.i (K.i (K.o (K.o (K.o K.z)))))) (Gd.on (K.o (K.i (K.i (K.i K.z)))) Bool.false) [],
   .mk (ldR Bool.false 1 (X.t (K.i (K.i (K.o (K.o (K.o K.z))))))) (Option.some (K.o (K.o (K.i (K.o (K.o K.z)))))) (Gd.on (K.o (K.i (K.i (K.i K.z)))) Bool.false) [],
   .mk (binR Try.prog EK.no Option.none Bool.true BinOp.lss (X.t (K.o (K.o (K.i (K.o (K.o K.z)))))) (X.c (AV.int IntKind.i64 0))) (Option.some (K.i (K.o (K.i (K.o (K.o K.z)))))) (Gd.on (K.o (K.i (K.i (K.i K.z)))) Bool.false) [],
   .mk (pickR (X.t (K.o (K.i (K.i (K.i K.z))))) (X.c (AV.bool Bool.true)) (X.t (K.i (K.o (K.i (K.o (K.o K.z))))))) (Option.some (K.o (K.i (K.i (K.o (K.o K.z)))))) Gd.no [],
   .mk (mvR (X.t (K.o (K.i (K.i (K.o (K.o K.z))))))) (Option.some (K.i (K.i (K.i (K.o (K.o K.z)))))) Gd.no [],
   .mk (faR 3 (X.t (K.o K.z))) (Option.some (K.o (K.o (K.o (K.i (K.o K.z)))))) (Gd.on (K.i (K.i (K.i (K.o (K.o K.z))))) Bool.false) [],
   .mk (ldR Bool.false 1 (X.t (K.o (K.o (K.o (K.i (K.o K.z))))))) (Option.some (K.i (K.o (K.o (K.i (K.o K.z)))))) (Gd.on (K.i (K.i (K.i (K.o (K.o K.z))))) Bool.false) [],
   .mk (mvR (X.t (K.o (K.o K.z)))) (Option.some (K.o (K.i (K.o (K.i (K.o K.z)))))) (Gd.on (K.i (K.i (K.i (K.o (K.o K.z))))) Bool.false) [],
   .mk (iaS 3 (X.t (K.i (K.o (K.o (K.i (K.o K.z)))))) (X.t (K.o (K.i (K.o (K.i (K.o K.z))))))) (Option.some (K.i (K.i (K.o (K.i (K.o K.z)))))) (Gd.on (K.i (K.i (K.i (K.o (K.o K.z))))) Bool.false) [],
   .mk (faR 2 (X.t (K.i (K.i (K.o (K.i (K.o K.z))))))) (Option.some (K.o (K.o (K.i (K.i (K.o K.z)))))) (Gd.on (K.i (K.i (K.i (K.o (K.o K.z))))) Bool.false) [],
   .mk (ldR Bool.false 1 (X.t (K.o (K.o (K.i (K.i (K.o K.z))))))) (Option.some (K.i (K.o (K.i (K.i (K.o K.z)))))) (Gd.on (K.i (K.i (K.i (K.o (K.o K.z))))) Bool.false) [],
   .mk (binR Try.prog EK.no Option.none Bool.true BinOp.geq (X.t (K.i (K.o (K.i (K.i (K.o K.z)))))) (X.c (AV.int IntKind.i64 281474976710656))) (Option.some (K.o (K.i (K.i (K.i (K.o K.z)))))) (Gd.on (K.i (K.i (K.i (K.o (K.o K.z))))) Bool.false) [],
   .mk (pickR (X.t (K.i (K.i (K.i (K.o (K.o K.z)))))) (X.c (AV.bool Bool.true)) (X.t (K.o (K.i (K.i (K.i (K.o K.z))))))) (Option.some (K.i (K.i (K.i (K.i (K.o K.z)))))) Gd.no []])
  (.cond (X.t (K.i (K.i (K.i (K.i (K.o K.z))))))
  (.seq (.region [.mk (mvR (X.c (AV.bool Bool.false))) (Option.some (K.i K.z)) Gd.no []])
  .ret)
  .skip)))
  (.region [.mk (mvR (X.t (K.o (K.o K.z)))) (Option.some (K.o (K.i (K.o K.z)))) Gd.no [],
   .mk (binR Try.prog EK.no Option.none Bool.true BinOp.add (X.t (K.o (K.i (K.o K.z)))) (X.c (AV.int IntKind.i64 1))) (Option.some (K.i (K.i (K.o K.z)))) Gd.no [],
   .mk (mvR (X.t (K.i (K.i (K.o K.z))))) (Option.some (K.o (K.o K.z))) Gd.no []])))
noncomputable def C54 : CC :=
  (.seq (.region [.mk (boxR Bool.false (X.t K.z)) (Option.some (K.o K.z)) Gd.no [],
   .mk (mvR (X.c (AV.bool Bool.false))) (Option.some (K.i K.z)) Gd.no []])
  (.seq (.seq (.region [.mk (mvR (X.c (AV.int IntKind.i64 0))) (Option.some (K.o (K.o K.z))) Gd.no []])
  (.block 0 (.loop C54L0)))
  (.seq (.region [.mk (faR 0 (X.t (K.o K.z))) (Option.some (K.o (K.o (K.o (K.o (K.i K.z)))))) Gd.no [],
   .mk (ldR Bool.false 1 (X.t (K.o (K.o (K.o (K.o (K.i K.z))))))) (Option.some (K.i (K.o (K.o (K.o (K.i K.z)))))) Gd.no [],
   .mk (binR Try.prog EK.no Option.none Bool.true BinOp.geq (X.t (K.i (K.o (K.o (K.o (K.i K.z)))))) (X.c (AV.int IntKind.i64 0))) (Option.some (K.o (K.i (K.o (K.o (K.i K.z)))))) Gd.no [],
   .mk (mvR (X.t (K.o (K.i (K.o (K.o (K.i K.z))))))) (Option.some (K.i (K.i (K.o (K.o (K.i K.z)))))) Gd.no [],
   .mk (faR 0 (X.t (K.o K.z))) (Option.some (K.o (K.o (K.i (K.o (K.i K.z)))))) (Gd.on (K.i (K.i (K.o (K.o (K.i K.z))))) Bool.true) [],
   .mk (ldR Bool.false 1 (X.t (K.o (K.o (K.i (K.o (K.i K.z))))))) (Option.some (K.i (K.o (K.i (K.o (K.i K.z)))))) (Gd.on (K.i (K.i (K.o (K.o (K.i K.z))))) Bool.true) [],
   .mk (binR Try.prog EK.no Option.none Bool.true BinOp.lss (X.t (K.i (K.o (K.i (K.o (K.i K.z)))))) (X.c (AV.int IntKind.i64 281474976710656))) (Option.some (K.o (K.i (K.i (K.o (K.i K.z)))))) (Gd.on (K.i (K.i (K.o (K.o (K.i K.z))))) Bool.true) [],
   .mk (pickR (X.t (K.i (K.i (K.o (K.o (K.i K.z)))))) (X.t (K.o (K.i (K.i (K.o (K.i K.z)))))) (X.c (AV.bool Bool.false))) (Option.some (K.i (K.i (K.i (K.o (K.i K.z)))))) Gd.no [],
   .mk (mvR (X.t (K.i (K.i (K.i (K.o (K.i K.z))))))) (Option.some (K.o (K.o (K.o (K.i (K.i K.z)))))) Gd.no [],
   .mk (faR 2 (X.t (K.o K.z))) (Option.some (K.i (K.o (K.o (K.i (K.i K.z)))))) (Gd.on (K.o (K.o (K.o (K.i (K.i K.z))))) Bool.true) [],
   .mk (ldR Bool.false 1 (X.t (K.i (K.o (K.o (K.i (K.i K.z))))))) (Option.some (K.o (K.i (K.o (K.i (K.i K.z)))))) (Gd.on (K.o (K.o (K.o (K.i (K.i K.z))))) Bool.true) [],
   .mk (binR Try.prog EK.no Option.none Bool.true BinOp.geq (X.t (K.o (K.i (K.o (K.i (K.i K.z)))))) (X.c (AV.int IntKind.i64 0))) (Option.some (K.i (K.i (K.o (K.i (K.i K.z)))))) (Gd.on (K.o (K.o (K.o (K.i (K.i K.z))))) Bool.true) [],
   .mk (pickR (X.t (K.o (K.o (K.o (K.i (K.i K.z)))))) (X.t (K.i (K.i (K.o (K.i (K.i K.z)))))) (X.c (AV.bool Bool.false))) (Option.some (K.o (K.o (K.i (K.i (K.i K.z)))))) Gd.no [],
   .mk (mvR (X.t (K.o (K.o (K.i (K.i (K.i K.z))))))) (Option.some (K.i (K.o (K.i (K.i (K.i K.z)))))) Gd.no [],
   .mk (faR 2 (X.t (K.o K.z))) (Option.some (K.o (K.i (K.i (K.i (K.i K.z)))))) (Gd.on (K.i (K.o (K.i (K.i (K.i K.z))))) Bool.true) [],
   .mk (ldR Bool.false 1 (X.t (K.o (K.i (K.i (K.i (K.i K.z))))))) (Option.some (K.i (K.i (K.i (K.i (K.i K.z)))))) (Gd.on (K.i (K.o (K.i (K.i (K.i K.z))))) Bool.true) [],
   .mk (binR Try.prog EK.no Option.none Bool.true BinOp.lss (X.t (K.i (K.i (K.i (K.i (K.i K.z)))))) (X.c (AV.int IntKind.i64 281474976710656))) (Option.some (K.o (K.o (K.o (K.o (K.o (K.o K.z))))))) (Gd.on (K.i (K.o (K.i (K.i (K.i K.z))))) Bool.true) [],
   .mk (pickR (X.t (K.i (K.o (K.i (K.i (K.i K.z)))))) (X.t (K.o (K.o (K.o (K.o (K.o (K.o K.z))))))) (X.c (AV.bool Bool.false))) (Option.some (K.i (K.o (K.o (K.o (K.o (K.o K.z))))))) Gd.no [],
   .mk (mvR (X.t (K.i (K.o (K.o (K.o (K.o (K.o K.z)))))))) (Option.some (K.o (K.i (K.o (K.o (K.o (K.o K.z))))))) Gd.no [],
   .mk (faR 1 (X.t (K.o K.z))) (Option.some (K.i (K.i (K.o (K.o (K.o (K.o K.z))))))) (Gd.on (K.o (K.i (K.o (K.o (K.o (K.o K.z)))))) Bool.true) [],
   .mk (ldR Bool.false 1 (X.t (K.i (K.i (K.o (K.o (K.o (K.o K.z)))))))) (Option.some (K.o (K.o (K.i (K.o (K.o (K.o K.z))))))) (Gd.on (K.o (K.i (K.o (K.o (K.o (K.o K.z)))))) Bool.true) [],
   .mk (lenR LnK.str (X.t (K.o (K.o (K.i (K.o (K.o (K.o K.z)))))))) (Option.some (K.i (K.o (K.i (K.o (K.o (K.o K.z))))))) (Gd.on (K.o (K.i (K.o (K.o (K.o (K.o K.z)))))) Bool.true) [],
   .mk (binR Try.prog EK.no Option.none Bool.true BinOp.leq (X.t (K.i (K.o (K.i (K.o (K.o (K.o K.z))))))) (X.c (AV.int IntKind.i64 255))) (Option.some (K.o (K.i (K.i (K.o (K.o (K.o K.z))))))) (Gd.on (K.o (K.i (K.o (K.o (K.o (K.o K.z)))))) Bool.true) [],
   .mk (pickR (X.t (K.o (K.i (K.o (K.o (K.o (K.o K.z))))))) (X.t (K.o (K.i (K.i (K.o (K.o (K.o K.z))))))) (X.c (AV.bool Bool.false))) (Option.some (K.i (K.i (K.i (K.o (K.o (K.o K.z))))))) Gd.no [],
   .mk (mvR (X.t (K.i (K.i (K.i (K.o (K.o (K.o K.z)))))))) (Option.some (K.o (K.o (K.o (K.i (K.o (K.o K.z))))))) Gd.no [],
   .mk (faR 3 (X.t (K.o K.z))) (Option.some (K.i (K.o (K.o (K.i (K.o (K.o K.z))))))) (Gd.on (K.o (K.o (K.o (K.i (K.o (K.o K.z)))))) Bool.true) [],
   .mk (ldR Bool.false 1 (X.t (K.i (K.o (K.o (K.i (K.o (K.o K.z)))))))) (Option.some (K.o (K.i (K.o (K.i (K.o (K.o K.z))))))) (Gd.on (K.o (K.o (K.o (K.i (K.o (K.o K.z)))))) Bool.true) [],
   .mk (lenR LnK.slice (X.t (K.o (K.i (K.o (K.i (K.o (K.o K.z)))))))) (Option.some (K.i (K.i (K.o (K.i (K.o (K.o K.z))))))) (Gd.on (K.o (K.o (K.o (K.i (K.o (K.o K.z)))))) Bool.true) [],
   .mk (binR Try.prog EK.no Option.none Bool.true BinOp.leq (X.t (K.i (K.i (K.o (K.i (K.o (K.o K.z))))))) (X.c (AV.int IntKind.i64 16))) (Option.some (K.o (K.o (K.i (K.i (K.o (K.o K.z))))))) (Gd.on (K.o (K.o (K.o (K.i (K.o (K.o K.z)))))) Bool.true) [],
   .mk (pickR (X.t (K.o (K.o (K.o (K.i (K.o (K.o K.z))))))) (X.t (K.o (K.o (K.i (K.i (K.o (K.o K.z))))))) (X.c (AV.bool Bool.false))) (Option.some (K.i (K.o (K.i (K.i (K.o (K.o K.z))))))) Gd.no [],
   .mk (mvR (X.t (K.i (K.o (K.i (K.i (K.o (K.o K.z)))))))) (Option.some (K.i K.z)) Gd.no []])
  .ret)))
theorem C54ok : (match Try.f54.body with | some c => comp Try.prog 77 c | none => none) = some C54 := by kernel_rfl
@[go_sem] theorem call54 (args : List AV) (H : Heap) : callC Try.prog 54 args H = .call 54 args := callC_ok (by kernel_rfl) args H
theorem R54ok : resKs Try.prog Try.f54.results.toList = some [(RK.tmp (K.i K.z))] := by kernel_rfl

/- 55: slices.Clone[[]estuary/api.Row,estuary/api.Row] -/
noncomputable def C55 : CC :=
  (.seq (.region [.mk (mvR (X.c AV.nils)) (Option.some (K.i K.z)) Gd.no []])
  (.seq (.seq (.region [.mk (mvR (X.t K.z)) (Option.some (K.o (K.o K.z))) Gd.no [],
   .mk (binR Try.prog EK.slice Option.none Bool.true BinOp.eql (X.t (K.o (K.o K.z))) (X.c AV.nils)) (Option.some (K.i (K.o K.z))) Gd.no []])
  (.cond (X.t (K.i (K.o K.z)))
  (.seq (.region [.mk (mvR (X.c AV.nils)) (Option.some (K.i K.z)) Gd.no []])
  .ret)
  .skip))
  (.seq (.region [.mk (bslR 3 0 [(AV.str []), (AV.str []), (AV.int IntKind.i64 0)] []) (Option.some (K.o (K.i K.z))) Gd.no [],
   .mk (mvR (X.t K.z)) (Option.some (K.i (K.i K.z))) Gd.no [],
   .mk (appR 3 40 (X.t (K.o (K.i K.z))) (X.t (K.i (K.i K.z)))) (Option.some (K.o (K.o (K.o K.z)))) Gd.no [],
   .mk (mvR (X.t (K.o (K.o (K.o K.z))))) (Option.some (K.i K.z)) Gd.no []])
  .ret)))
theorem C55ok : (match Try.f55.body with | some c => comp Try.prog 8 c | none => none) = some C55 := by kernel_rfl
@[go_sem] theorem call55 (args : List AV) (H : Heap) : callC Try.prog 55 args H = .call 55 args := callC_ok (by kernel_rfl) args H
theorem R55ok : resKs Try.prog Try.f55.results.toList = some [(RK.tmp (K.i K.z))] := by kernel_rfl

/- 56: estuary/estuaryref11.find -/
noncomputable def C56L0 : CC :=
  (.seq (.seq (.region [.mk (mvR (X.t (K.i (K.i K.z)))) (Option.some (K.o (K.o (K.o K.z)))) Gd.no [],
   .mk (mvR (X.t K.z)) (Option.some (K.i (K.o (K.o K.z)))) Gd.no [],
   .mk (lenR LnK.slice (X.t (K.i (K.o (K.o K.z))))) (Option.some (K.o (K.i (K.o K.z)))) Gd.no [],
   .mk (binR Try.prog EK.no Option.none Bool.false BinOp.lss (X.t (K.o (K.o (K.o K.z)))) (X.t (K.o (K.i (K.o K.z))))) (Option.some (K.i (K.i (K.o K.z)))) Gd.no []])
  (.cond (X.t (K.i (K.i (K.o K.z))))
  .skip
  (.exit 0)))
  (.seq (.block 1 (.seq (.region [.mk (mvR (X.t K.z)) (Option.some (K.o (K.i (K.i K.z)))) Gd.no [],
   .mk (mvR (X.t (K.i (K.i K.z)))) (Option.some (K.i (K.i (K.i K.z)))) Gd.no [],
   .mk (iaS 6 (X.t (K.o (K.i (K.i K.z)))) (X.t (K.i (K.i (K.i K.z))))) (Option.some (K.o (K.o (K.o (K.o K.z))))) Gd.no [],
   .mk (faR 0 (X.t (K.o (K.o (K.o (K.o K.z)))))) (Option.some (K.i (K.o (K.o (K.o K.z))))) Gd.no [],
   .mk (ldR Bool.false 1 (X.t (K.i (K.o (K.o (K.o K.z)))))) (Option.some (K.o (K.i (K.o (K.o K.z))))) Gd.no [],
   .mk (mvR (X.t (K.o K.z))) (Option.some (K.i (K.i (K.o (K.o K.z))))) Gd.no [],
   .mk (binR Try.prog EK.no Option.none Bool.false BinOp.eql (X.t (K.o (K.i (K.o (K.o K.z))))) (X.t (K.i (K.i (K.o (K.o K.z)))))) (Option.some (K.o (K.o (K.i (K.o K.z))))) Gd.no []])
  (.cond (X.t (K.o (K.o (K.i (K.o K.z)))))
  (.seq (.region [.mk (mvR (X.t K.z)) (Option.some (K.i (K.o (K.i (K.o K.z))))) Gd.no [],
   .mk (mvR (X.t (K.i (K.i K.z)))) (Option.some (K.o (K.i (K.i (K.o K.z))))) Gd.no [],
   .mk (iaS 6 (X.t (K.i (K.o (K.i (K.o K.z))))) (X.t (K.o (K.i (K.i (K.o K.z)))))) (Option.some (K.i (K.i (K.i (K.o K.z))))) Gd.no [],
   .mk (ldR Bool.true 6 (X.t (K.i (K.i (K.i (K.o K.z)))))) (Option.some (K.o (K.o (K.o (K.i K.z))))) Gd.no [],
   .mk (stR 6 (X.t (K.i (K.o K.z))) (X.t (K.o (K.o (K.o (K.i K.z)))))) Option.none Gd.no [],
   .mk (mvR (X.c (AV.bool Bool.true))) (Option.some (K.o (K.i K.z))) Gd.no []])
  .ret)
  .skip)))
  (.region [.mk (mvR (X.t (K.i (K.i K.z)))) (Option.some (K.o (K.o (K.i K.z)))) Gd.no [],
   .mk (binR Try.prog EK.no Option.none Bool.true BinOp.add (X.t (K.o (K.o (K.i K.z)))) (X.c (AV.int IntKind.i64 1))) (Option.some (K.i (K.o (K.i K.z)))) Gd.no [],
   .mk (mvR (X.t (K.i (K.o (K.i K.z))))) (Option.some (K.i (K.i K.z))) Gd.no []])))
noncomputable def C56 : CC :=
  (.seq (.region [.mk (fun _ H => newC Bool.false [(AV.int IntKind.i64 0), (AV.int IntKind.i64 0), (AV.int IntKind.i64 0), (AV.str []), (AV.int IntKind.i64 0), AV.nils] H) (Option.some (K.i (K.o K.z))) Gd.no [],
   .mk (mvR (X.c (AV.bool Bool.false))) (Option.some (K.o (K.i K.z))) Gd.no []])
  (.seq (.seq (.region [.mk (mvR (X.c (AV.int IntKind.i64 0))) (Option.some (K.i (K.i K.z))) Gd.no []])
  (.block 0 (.loop C56L0)))
  (.seq (.region [.mk (buildR [(AV.int IntKind.i64 0), (AV.int IntKind.i64 0), (AV.int IntKind.i64 0), (AV.str []), (AV.int IntKind.i64 0), AV.nils] []) (Option.some (K.i (K.o (K.o (K.i K.z))))) Gd.no [],
   .mk (stR 6 (X.t (K.i (K.o K.z))) (X.t (K.i (K.o (K.o (K.i K.z)))))) Option.none Gd.no [],
   .mk (mvR (X.c (AV.bool Bool.false))) (Option.some (K.o (K.i K.z))) Gd.no []])
  .ret)))
theorem C56ok : (match Try.f56.body with | some c => comp Try.prog 25 c | none => none) = some C56 := by kernel_rfl
@[go_sem] theorem call56 (args : List AV) (H : Heap) : callC Try.prog 56 args H = .call 56 args := callC_ok (by kernel_rfl) args H
theorem R56ok : resKs Try.prog Try.f56.results.toList = some [(RK.cell (K.i (K.o K.z)) Bool.true 6), (RK.tmp (K.o (K.i K.z)))] := by kernel_rfl

/- 68: estuary/op.isAnswer -/
noncomputable def C68 : CC :=
  (.seq (.region [.mk (boxR Bool.false (X.t K.z)) (Option.some (K.o K.z)) Gd.no [],
   .mk (mvR (X.c (AV.bool Bool.false))) (Option.some (K.i K.z)) Gd.no []])
  (.seq (.region [.mk (mvR (X.c (AV.fn (Fn.func 79) [] []))) (Option.some (K.o (K.o K.z))) Gd.no []])
  (.seq (.block 0 (.seq (.block 2 (.block 1 (.seq (.seq (.seq (.region [.mk (faR 0 (X.t (K.o K.z))) (Option.some (K.o (K.i K.z))) Gd.no [],
   .mk (ldR Bool.false 1 (X.t (K.o (K.i K.z)))) (Option.some (K.i (K.i K.z))) Gd.no [],
   .mk (binR Try.prog EK.no Option.none Bool.true BinOp.lss (X.t (K.i (K.i K.z))) (X.c (AV.int IntKind.i64 0))) (Option.some (K.o (K.o (K.o K.z)))) Gd.no [],
   .mk (mvR (X.t (K.o (K.o (K.o K.z))))) (Option.some (K.i (K.o (K.o K.z)))) Gd.no [],
   .mk (faR 0 (X.t (K.o K.z))) (Option.some (K.o (K.i (K.o K.z)))) (Gd.on (K.i (K.o (K.o K.z))) Bool.false) [],
   .mk (ldR Bool.false 1 (X.t (K.o (K.i (K.o K.z))))) (Option.some (K.i (K.i (K.o K.z)))) (Gd.on (K.i (K.o (K.o K.z))) Bool.false) [],
   .mk (binR Try.prog EK.no Option.none Bool.true BinOp.geq (X.t (K.i (K.i (K.o K.z)))) (X.c (AV.int IntKind.i64 281474976710656))) (Option.some (K.o (K.o (K.i K.z)))) (Gd.on (K.i (K.o (K.o K.z))) Bool.false) [],
   .mk (pickR (X.t (K.i (K.o (K.o K.z)))) (X.c (AV.bool Bool.true)) (X.t (K.o (K.o (K.i K.z))))) (Option.some (K.i (K.o (K.i K.z)))) Gd.no [],
   .mk (mvR (X.t (K.i (K.o (K.i K.z))))) (Option.some (K.o (K.i (K.i K.z)))) Gd.no [],
   .mk (faR 2 (X.t (K.o K.z))) (Option.some (K.i (K.i (K.i K.z)))) (Gd.on (K.o (K.i (K.i K.z))) Bool.false) [],
   .mk (ldR Bool.false 1 (X.t (K.i (K.i (K.i K.z))))) (Option.some (K.o (K.o (K.o (K.o K.z))))) (Gd.on (K.o (K.i (K.i K.z))) Bool.false) [],
   .mk (binR Try.prog EK.no Option.none Bool.true BinOp.lss (X.t (K.o (K.o (K.o (K.o K.z))))) (X.c (AV.int IntKind.i64 0))) (Option.some (K.i (K.o (K.o (K.o K.z))))) (Gd.on (K.o (K.i (K.i K.z))) Bool.false) [],
   .mk (pickR (X.t (K.o (K.i (K.i K.z)))) (X.c (AV.bool Bool.true)) (X.t (K.i (K.o (K.o (K.o K.z)))))) (Option.some (K.o (K.i (K.o (K.o K.z))))) Gd.no [],
   .mk (mvR (X.t (K.o (K.i (K.o (K.o K.z)))))) (Option.some (K.i (K.i (K.o (K.o K.z))))) Gd.no [],
   .mk (faR 2 (X.t (K.o K.z))) (Option.some (K.o (K.o (K.i (K.o K.z))))) (Gd.on (K.i (K.i (K.o (K.o K.z)))) Bool.false) [],
   .mk (ldR Bool.false 1 (X.t (K.o (K.o (K.i (K.o K.z)))))) (Option.some (K.i (K.o (K.i (K.o K.z))))) (Gd.on (K.i (K.i (K.o (K.o K.z)))) Bool.false) [],
   .mk (binR Try.prog EK.no Option.none Bool.true BinOp.geq (X.t (K.i (K.o (K.i (K.o K.z))))) (X.c (AV.int IntKind.i64 281474976710656))) (Option.some (K.o (K.i (K.i (K.o K.z))))) (Gd.on (K.i (K.i (K.o (K.o K.z)))) Bool.false) [],
   .mk (pickR (X.t (K.i (K.i (K.o (K.o K.z))))) (X.c (AV.bool Bool.true)) (X.t (K.o (K.i (K.i (K.o K.z)))))) (Option.some (K.i (K.i (K.i (K.o K.z))))) Gd.no [],
   .mk (mvR (X.t (K.i (K.i (K.i (K.o K.z)))))) (Option.some (K.o (K.o (K.o (K.i K.z))))) Gd.no [],
   .mk (faR 1 (X.t (K.o K.z))) (Option.some (K.i (K.o (K.o (K.i K.z))))) (Gd.on (K.o (K.o (K.o (K.i K.z)))) Bool.false) [],
   .mk (ldR Bool.false 1 (X.t (K.i (K.o (K.o (K.i K.z)))))) (Option.some (K.o (K.i (K.o (K.i K.z))))) (Gd.on (K.o (K.o (K.o (K.i K.z)))) Bool.false) [],
   .mk (lenR LnK.str (X.t (K.o (K.i (K.o (K.i K.z)))))) (Option.some (K.i (K.i (K.o (K.i K.z))))) (Gd.on (K.o (K.o (K.o (K.i K.z)))) Bool.false) [],
   .mk (binR Try.prog EK.no Option.none Bool.true BinOp.gtr (X.t (K.i (K.i (K.o (K.i K.z))))) (X.c (AV.int IntKind.i64 255))) (Option.some (K.o (K.o (K.i (K.i K.z))))) (Gd.on (K.o (K.o (K.o (K.i K.z)))) Bool.false) [],
   .mk (pickR (X.t (K.o (K.o (K.o (K.i K.z))))) (X.c (AV.bool Bool.true)) (X.t (K.o (K.o (K.i (K.i K.z)))))) (Option.some (K.i (K.o (K.i (K.i K.z))))) Gd.no [],
   .mk (mvR (X.t (K.i (K.o (K.i (K.i K.z)))))) (Option.some (K.i (K.o K.z))) Gd.no []])
  (.cond (X.t (K.i (K.o K.z)))
  (.exit 1)
  .skip))
  (.seq (.region [.mk (faR 3 (X.t (K.o K.z))) (Option.some (K.i (K.i (K.i (K.i K.z))))) Gd.no [],
   .mk (ldR Bool.false 1 (X.t (K.i (K.i (K.i (K.i K.z)))))) (Option.some (K.o (K.o (K.o (K.o (K.o K.z)))))) Gd.no [],
   .mk (lenR LnK.slice (X.t (K.o (K.o (K.o (K.o (K.o K.z))))))) (Option.some (K.i (K.o (K.o (K.o (K.o K.z)))))) Gd.no [],
   .mk (binR Try.prog EK.no Option.none Bool.true BinOp.gtr (X.t (K.i (K.o (K.o (K.o (K.o K.z)))))) (X.c (AV.int IntKind.i64 16))) (Option.some (K.o (K.i (K.o (K.o (K.o K.z)))))) Gd.no [],
   .mk (mvR (X.t (K.o (K.i (K.o (K.o (K.o K.z))))))) (Option.some (K.i (K.i (K.o (K.o (K.o K.z)))))) Gd.no [],
   .mk (faR 3 (X.t (K.o K.z))) (Option.some (K.o (K.o (K.i (K.o (K.o K.z)))))) (Gd.on (K.i (K.i (K.o (K.o (K.o K.z))))) Bool.false) [],
   .mk (ldR Bool.false 1 (X.t (K.o (K.o (K.i (K.o (K.o K.z))))))) (Option.some (K.i (K.o (K.i (K.o (K.o K.z)))))) (Gd.on (K.i (K.i (K.o (K.o (K.o K.z))))) Bool.false) [],
   .mk (mvR (X.t (K.o (K.o K.z)))) (Option.some (K.o (K.i (K.i (K.o (K.o K.z)))))) (Gd.on (K.i (K.i (K.o (K.o (K.o K.z))))) Bool.false) [],
   .mk (callS Try.prog 80 [(X.t (K.i (K.o (K.i (K.o (K.o K.z)))))), (X.t (K.o (K.i (K.i (K.o (K.o K.z))))))]) (Option.some (K.i (K.i (K.i (K.o (K.o K.z)))))) (Gd.on (K.i (K.i (K.o (K.o (K.o K.z))))) Bool.false) [],
   .mk (pickR (X.t (K.i (K.i (K.o (K.o (K.o K.z)))))) (X.c (AV.bool Bool.true)) (X.t (K.i (K.i (K.i (K.o (K.o K.z))))))) (Option.some (K.o (K.o (K.o (K.i (K.o K.z)))))) Gd.no [],
   .mk (mvR (X.t (K.o (K.o (K.o (K.i (K.o K.z))))))) (Option.some (K.o (K.i (K.i (K.i K.z))))) Gd.no []])
  (.cond (X.t (K.o (K.i (K.i (K.i K.z)))))
  (.exit 2)
  .skip)))
  (.exit 0))))
  (.seq (.seq (.region [.mk (mvR (X.c (AV.bool Bool.false))) (Option.some (K.i K.z)) Gd.no []])
  .ret)
  (.exit 0))))
  (.seq (.region [.mk (mvR (X.c (AV.bool Bool.true))) (Option.some (K.i K.z)) Gd.no []])
  .ret))))
theorem C68ok : (match Try.f68.body with | some c => comp Try.prog 40 c | none => none) = some C68 := by kernel_rfl
@[go_sem] theorem call68 (args : List AV) (H : Heap) : callC Try.prog 68 args H = .call 68 args := callC_ok (by kernel_rfl) args H
theorem R68ok : resKs Try.prog Try.f68.results.toList = some [(RK.tmp (K.i K.z))] := by kernel_rfl

/- 69: estuary/pack.Num -/
noncomputable def C69L0 : CC :=
  (.seq (.seq (.region [.mk (mvR (X.t K.z)) (Option.some (K.i (K.i K.z))) Gd.no [],
   .mk (binR Try.prog EK.no Option.none Bool.true BinOp.geq (X.t (K.i (K.i K.z))) (X.c (AV.int IntKind.i64 64))) (Option.some (K.o (K.o (K.o K.z)))) Gd.no []])
  (.cond (X.t (K.o (K.o (K.o K.z))))
  .skip
  (.exit 0)))
  (.block 1 (.seq (.region [.mk (mvR (X.t (K.o (K.o K.z)))) (Option.some (K.i (K.o (K.o K.z)))) Gd.no [],
   .mk (mvR (X.t K.z)) (Option.some (K.o (K.i (K.o K.z)))) Gd.no [],
   .mk (binR Try.prog EK.no Option.none Bool.true BinOp.and (X.t (K.o (K.i (K.o K.z)))) (X.c (AV.int IntKind.i64 63))) (Option.some (K.i (K.i (K.o K.z)))) Gd.no [],
   .mk (binR Try.prog EK.no Option.none Bool.true BinOp.or (X.c (AV.int IntKind.i64 64)) (X.t (K.i (K.i (K.o K.z))))) (Option.some (K.o (K.o (K.i K.z)))) Gd.no [],
   .mk (convR (Cv.int IntKind.u8) (X.t (K.o (K.o (K.i K.z))))) (Option.some (K.i (K.o (K.i K.z)))) Gd.no [],
   .mk (bslR 1 1 [(AV.int IntKind.u8 0)] [(0, (X.t (K.i (K.o (K.i K.z)))))]) (Option.some (K.o (K.i (K.i K.z)))) Gd.no [],
   .mk (appR 1 1 (X.t (K.i (K.o (K.o K.z)))) (X.t (K.o (K.i (K.i K.z))))) (Option.some (K.i (K.i (K.i K.z)))) Gd.no [],
   .mk (mvR (X.t (K.i (K.i (K.i K.z))))) (Option.some (K.o (K.o K.z))) Gd.no []])
  (.region [.mk (mvR (X.t K.z)) (Option.some (K.o (K.o (K.o (K.o K.z))))) Gd.no [],
   .mk (binR Try.prog EK.no Option.none Bool.true BinOp.shr (X.t (K.o (K.o (K.o (K.o K.z))))) (X.c (AV.int IntKind.u64 6))) (Option.some (K.i (K.o (K.o (K.o K.z))))) Gd.no [],
   .mk (mvR (X.t (K.i (K.o (K.o (K.o K.z)))))) (Option.some K.z) Gd.no []]))))
noncomputable def C69 : CC :=
  (.seq (.region [.mk (mvR (X.c (AV.str []))) (Option.some (K.i K.z)) Gd.no []])
  (.seq (.region [.mk (mvR (X.t K.z)) (Option.some (K.i (K.o K.z))) Gd.no [],
   .mk (mmR Bool.true (X.t (K.i (K.o K.z))) (X.c (AV.int IntKind.i64 0))) (Option.some (K.o (K.i K.z))) Gd.no [],
   .mk (mvR (X.t (K.o (K.i K.z)))) (Option.some K.z) Gd.no []])
  (.seq (.region [.mk (mvR (X.c AV.nils)) (Option.some (K.o (K.o K.z))) Gd.no []])
  (.seq (.block 0 (.loop C69L0))
  (.seq (.region [.mk (mvR (X.t (K.o (K.o K.z)))) (Option.some (K.o (K.i (K.o (K.o K.z))))) Gd.no [],
   .mk (mvR (X.t K.z)) (Option.some (K.i (K.i (K.o (K.o K.z))))) Gd.no [],
   .mk (convR (Cv.int IntKind.u8) (X.t (K.i (K.i (K.o (K.o K.z)))))) (Option.some (K.o (K.o (K.i (K.o K.z))))) Gd.no [],
   .mk (bslR 1 1 [(AV.int IntKind.u8 0)] [(0, (X.t (K.o (K.o (K.i (K.o K.z))))))]) (Option.some (K.i (K.o (K.i (K.o K.z))))) Gd.no [],
   .mk (appR 1 1 (X.t (K.o (K.i (K.o (K.o K.z))))) (X.t (K.i (K.o (K.i (K.o K.z)))))) (Option.some (K.o (K.i (K.i (K.o K.z))))) Gd.no [],
   .mk (convR Cv.b2s (X.t (K.o (K.i (K.i (K.o K.z)))))) (Option.some (K.i (K.i (K.i (K.o K.z))))) Gd.no [],
   .mk (mvR (X.t (K.i (K.i (K.i (K.o K.z)))))) (Option.some (K.i K.z)) Gd.no []])
  .ret)))))
theorem C69ok : (match Try.f69.body with | some c => comp Try.prog 23 c | none => none) = some C69 := by kernel_rfl
@[go_sem] theorem call69 (args : List AV) (H : Heap) : callC Try.prog 69 args H = .call 69 args := callC_ok (by kernel_rfl) args H
theorem R69ok : resKs Try.prog Try.f69.results.toList = some [(RK.tmp (K.i K.z))] := by kernel_rfl

/- 70: estuary/pack.Text -/
noncomputable def C70 : CC :=
  (.seq (.region [.mk (mvR (X.c (AV.str []))) (Option.some (K.i K.z)) Gd.no []])
  (.seq (.region [.mk (mvR (X.t K.z)) (Option.some (K.o (K.o K.z))) Gd.no [],
   .mk (lenR LnK.str (X.t (K.o (K.o K.z)))) (Option.some (K.i (K.o K.z))) Gd.no [],
   .mk (callS Try.prog 69 [(X.t (K.i (K.o K.z)))]) (Option.some (K.o (K.i K.z))) Gd.no [],
   .mk (mvR (X.t K.z)) (Option.some (K.i (K.i K.z))) Gd.no [],
   .mk (binR Try.prog EK.no Option.none Bool.false BinOp.add (X.t (K.o (K.i K.z))) (X.t (K.i (K.i K.z)))) (Option.some (K.o (K.o (K.o K.z)))) Gd.no [],
   .mk (mvR (X.t (K.o (K.o (K.o K.z))))) (Option.some (K.i K.z)) Gd.no []])
  .ret))
theorem C70ok : (match Try.f70.body with | some c => comp Try.prog 8 c | none => none) = some C70 := by kernel_rfl
@[go_sem] theorem call70 (args : List AV) (H : Heap) : callC Try.prog 70 args H = .call 70 args := callC_ok (by kernel_rfl) args H
theorem R70ok : resKs Try.prog Try.f70.results.toList = some [(RK.tmp (K.i K.z))] := by kernel_rfl

-- 71: no body

/- 79: estuary/op.isAnswer$1 -/
noncomputable def C79 : CC :=
  (.seq (.region [.mk (boxR Bool.false (X.t K.z)) (Option.some (K.o K.z)) Gd.no [],
   .mk (mvR (X.c (AV.bool Bool.false))) (Option.some (K.i K.z)) Gd.no []])
  (.seq (.region [.mk (faR 0 (X.t (K.o K.z))) (Option.some (K.o (K.o K.z))) Gd.no [],
   .mk (ldR Bool.false 1 (X.t (K.o (K.o K.z)))) (Option.some (K.i (K.o K.z))) Gd.no [],
   .mk (lenR LnK.str (X.t (K.i (K.o K.z)))) (Option.some (K.o (K.i K.z))) Gd.no [],
   .mk (binR Try.prog EK.no Option.none Bool.true BinOp.gtr (X.t (K.o (K.i K.z))) (X.c (AV.int IntKind.i64 255))) (Option.some (K.i (K.i K.z))) Gd.no [],
   .mk (mvR (X.t (K.i (K.i K.z)))) (Option.some (K.o (K.o (K.o K.z)))) Gd.no [],
   .mk (faR 1 (X.t (K.o K.z))) (Option.some (K.i (K.o (K.o K.z)))) (Gd.on (K.o (K.o (K.o K.z))) Bool.false) [],
   .mk (ldR Bool.false 1 (X.t (K.i (K.o (K.o K.z))))) (Option.some (K.o (K.i (K.o K.z)))) (Gd.on (K.o (K.o (K.o K.z))) Bool.false) [],
   .mk (lenR LnK.str (X.t (K.o (K.i (K.o K.z))))) (Option.some (K.i (K.i (K.o K.z)))) (Gd.on (K.o (K.o (K.o K.z))) Bool.false) [],
   .mk (binR Try.prog EK.no Option.none Bool.true BinOp.gtr (X.t (K.i (K.i (K.o K.z)))) (X.c (AV.int IntKind.i64 255))) (Option.some (K.o (K.o (K.i K.z)))) (Gd.on (K.o (K.o (K.o K.z))) Bool.false) [],
   .mk (pickR (X.t (K.o (K.o (K.o K.z)))) (X.c (AV.bool Bool.true)) (X.t (K.o (K.o (K.i K.z))))) (Option.some (K.i (K.o (K.i K.z)))) Gd.no [],
   .mk (mvR (X.t (K.i (K.o (K.i K.z))))) (Option.some (K.o (K.i (K.i K.z)))) Gd.no [],
   .mk (faR 2 (X.t (K.o K.z))) (Option.some (K.i (K.i (K.i K.z)))) (Gd.on (K.o (K.i (K.i K.z))) Bool.false) [],
   .mk (ldR Bool.false 1 (X.t (K.i (K.i (K.i K.z))))) (Option.some (K.o (K.o (K.o (K.o K.z))))) (Gd.on (K.o (K.i (K.i K.z))) Bool.false) [],
   .mk (binR Try.prog EK.no Option.none Bool.true BinOp.lss (X.t (K.o (K.o (K.o (K.o K.z))))) (X.c (AV.int IntKind.i64 0))) (Option.some (K.i (K.o (K.o (K.o K.z))))) (Gd.on (K.o (K.i (K.i K.z))) Bool.false) [],
   .mk (pickR (X.t (K.o (K.i (K.i K.z)))) (X.c (AV.bool Bool.true)) (X.t (K.i (K.o (K.o (K.o K.z)))))) (Option.some (K.o (K.i (K.o (K.o K.z))))) Gd.no [],
   .mk (mvR (X.t (K.o (K.i (K.o (K.o K.z)))))) (Option.some (K.i (K.i (K.o (K.o K.z))))) Gd.no [],
   .mk (faR 2 (X.t (K.o K.z))) (Option.some (K.o (K.o (K.i (K.o K.z))))) (Gd.on (K.i (K.i (K.o (K.o K.z)))) Bool.false) [],
   .mk (ldR Bool.false 1 (X.t (K.o (K.o (K.i (K.o K.z)))))) (Option.some (K.i (K.o (K.i (K.o K.z))))) (Gd.on (K.i (K.i (K.o (K.o K.z)))) Bool.false) [],
   .mk (binR Try.prog EK.no Option.none Bool.true BinOp.geq (X.t (K.i (K.o (K.i (K.o K.z))))) (X.c (AV.int IntKind.i64 281474976710656))) (Option.some (K.o (K.i (K.i (K.o K.z))))) (Gd.on (K.i (K.i (K.o (K.o K.z)))) Bool.false) [],
   .mk (pickR (X.t (K.i (K.i (K.o (K.o K.z))))) (X.c (AV.bool Bool.true)) (X.t (K.o (K.i (K.i (K.o K.z)))))) (Option.some (K.i (K.i (K.i (K.o K.z))))) Gd.no [],
   .mk (mvR (X.t (K.i (K.i (K.i (K.o K.z)))))) (Option.some (K.i K.z)) Gd.no []])
  .ret))
theorem C79ok : (match Try.f79.body with | some c => comp Try.prog 23 c | none => none) = some C79 := by kernel_rfl
@[go_sem] theorem call79 (args : List AV) (H : Heap) : callC Try.prog 79 args H = .call 79 args := callC_ok (by kernel_rfl) args H
theorem R79ok : resKs Try.prog Try.f79.results.toList = some [(RK.tmp (K.i K.z))] := by kernel_rfl

/- 80: slices.ContainsFunc[[]estuary/api.Row,estuary/api.Row] -/
noncomputable def C80 : CC :=
  (.seq (.region [.mk (mvR (X.c (AV.bool Bool.false))) (Option.some (K.i (K.o K.z))) Gd.no []])
  (.seq (.region [.mk (mvR (X.t K.z)) (Option.some (K.o (K.i K.z))) Gd.no [],
   .mk (mvR (X.t (K.o K.z))) (Option.some (K.i (K.i K.z))) Gd.no [],
   .mk (callS Try.prog 85 [(X.t (K.o (K.i K.z))), (X.t (K.i (K.i K.z)))]) (Option.some (K.o (K.o (K.o K.z)))) Gd.no [],
   .mk (binR Try.prog EK.no Option.none Bool.true BinOp.geq (X.t (K.o (K.o (K.o K.z)))) (X.c (AV.int IntKind.i64 0))) (Option.some (K.i (K.o (K.o K.z)))) Gd.no [],
   .mk (mvR (X.t (K.i (K.o (K.o K.z))))) (Option.some (K.i (K.o K.z))) Gd.no []])
  .ret))
theorem C80ok : (match Try.f80.body with | some c => comp Try.prog 9 c | none => none) = some C80 := by kernel_rfl
@[go_sem] theorem call80 (args : List AV) (H : Heap) : callC Try.prog 80 args H = .call 80 args := callC_ok (by kernel_rfl) args H
theorem R80ok : resKs Try.prog Try.f80.results.toList = some [(RK.tmp (K.i (K.o K.z)))] := by kernel_rfl

/- 85: slices.IndexFunc[[]estuary/api.Row,estuary/api.Row] -/
noncomputable def C85L0 : CC :=
  (.seq (.region [.mk (binR Try.prog EK.no Option.none Bool.false BinOp.lss (X.t (K.i (K.o (K.o K.z)))) (X.t (K.o (K.o (K.o K.z))))) (Option.some (K.o (K.i (K.o K.z)))) Gd.no []])
  (.seq (.cond (X.t (K.o (K.i (K.o K.z))))
  .skip
  (.exit 0))
  (.seq (.block 1 (.seq (.region [.mk (mvR (X.t (K.i (K.o (K.o K.z))))) (Option.some (K.i (K.i (K.o K.z)))) Gd.no [],
   .mk (mvR (X.t (K.i (K.i (K.o K.z))))) (Option.some (K.o (K.i K.z))) Gd.no []])
  (.seq (.region [.mk (mvR (X.t (K.o K.z))) (Option.some (K.o (K.o (K.i K.z)))) Gd.no [],
   .mk (mvR (X.t K.z)) (Option.some (K.i (K.o (K.i K.z)))) Gd.no [],
   .mk (mvR (X.t (K.o (K.i K.z)))) (Option.some (K.o (K.i (K.i K.z)))) Gd.no [],
   .mk (iaS 3 (X.t (K.i (K.o (K.i K.z)))) (X.t (K.o (K.i (K.i K.z))))) (Option.some (K.i (K.i (K.i K.z)))) Gd.no [],
   .mk (ldR Bool.true 3 (X.t (K.i (K.i (K.i K.z))))) (Option.some (K.o (K.o (K.o (K.o K.z))))) Gd.no [],
   .mk (callX Try.prog (X.t (K.o (K.o (K.i K.z)))) [(X.t (K.o (K.o (K.o (K.o K.z)))))]) (Option.some (K.i (K.o (K.o (K.o K.z))))) Gd.no []])
  (.cond (X.t (K.i (K.o (K.o (K.o K.z)))))
  (.seq (.region [.mk (mvR (X.t (K.o (K.i K.z)))) (Option.some (K.o (K.i (K.o (K.o K.z))))) Gd.no [],
   .mk (mvR (X.t (K.o (K.i (K.o (K.o K.z)))))) (Option.some (K.i (K.o K.z))) Gd.no []])
  .ret)
  .skip))))
  (.region [.mk (binR Try.prog EK.no Option.none Bool.true BinOp.add (X.t (K.i (K.o (K.o K.z)))) (X.c (AV.int IntKind.i64 1))) (Option.some (K.i (K.i (K.o (K.o K.z))))) Gd.no [],
   .mk (mvR (X.t (K.i (K.i (K.o (K.o K.z)))))) (Option.some (K.i (K.o (K.o K.z)))) Gd.no []]))))
noncomputable def C85 : CC :=
  (.seq (.region [.mk (mvR (X.c (AV.int IntKind.i64 0))) (Option.some (K.i (K.o K.z))) Gd.no []])
  (.seq (.seq (.region [.mk (mvR (X.t K.z)) (Option.some (K.i (K.i K.z))) Gd.no [],
   .mk (lenR LnK.slice (X.t (K.i (K.i K.z)))) (Option.some (K.o (K.o (K.o K.z)))) Gd.no [],
   .mk (mvR (X.c (AV.int IntKind.i64 0))) (Option.some (K.i (K.o (K.o K.z)))) Gd.no []])
  (.block 0 (.loop C85L0)))
  (.seq (.region [.mk (mvR (X.c (AV.int IntKind.i64 (-1)))) (Option.some (K.i (K.o K.z))) Gd.no []])
  .ret)))
theorem C85ok : (match Try.f85.body with | some c => comp Try.prog 19 c | none => none) = some C85 := by kernel_rfl
@[go_sem] theorem call85 (args : List AV) (H : Heap) : callC Try.prog 85 args H = .call 85 args := callC_ok (by kernel_rfl) args H
theorem R85ok : resKs Try.prog Try.f85.results.toList = some [(RK.tmp (K.i (K.o K.z)))] := by kernel_rfl

/- 6: estuary/estuarylaw14.OnceTells -/
noncomputable def C6 : CC :=
  (.seq (.region [.mk (boxR Bool.false (X.t (K.i K.z))) (Option.some (K.o (K.o (K.o K.z)))) Gd.no [],
   .mk (mvR (X.c (AV.bool Bool.false))) (Option.some (K.i (K.i (K.o K.z)))) Gd.no []])
  (.seq (.seq (.region [.mk (callS Try.prog 25 []) (Option.some (K.o (K.o (K.o (K.o K.z))))) Gd.no [],
   .mk (unR UnOp.not (X.t (K.o (K.o (K.o (K.o K.z)))))) (Option.some (K.i (K.o (K.o (K.o K.z))))) Gd.no []])
  (.cond (X.t (K.i (K.o (K.o (K.o K.z)))))
  (.seq (.region [.mk (mvR (X.c (AV.bool Bool.false))) (Option.some (K.i (K.i (K.o K.z)))) Gd.no []])
  .ret)
  .skip))
  (.seq (.seq (.region [.mk (mvR (X.t K.z)) (Option.some (K.o (K.i (K.o (K.o K.z))))) Gd.no [],
   .mk (callS Try.prog 26 [(X.t (K.o (K.i (K.o (K.o K.z)))))]) (Option.some (K.i (K.i (K.o (K.o K.z))))) Gd.no [],
   .mk (unR UnOp.not (X.t (K.i (K.i (K.o (K.o K.z)))))) (Option.some (K.o (K.o (K.i (K.o K.z))))) Gd.no [],
   .mk (mvR (X.t (K.o (K.o (K.i (K.o K.z)))))) (Option.some (K.i (K.o (K.i (K.o K.z))))) Gd.no [],
   .mk (mvR (X.t (K.o K.z))) (Option.some (K.o (K.i (K.i (K.o K.z))))) (Gd.on (K.i (K.o (K.i (K.o K.z)))) Bool.false) [],
   .mk (callS Try.prog 26 [(X.t (K.o (K.i (K.i (K.o K.z)))))]) (Option.some (K.i (K.i (K.i (K.o K.z))))) (Gd.on (K.i (K.o (K.i (K.o K.z)))) Bool.false) [],
   .mk (unR UnOp.not (X.t (K.i (K.i (K.i (K.o K.z)))))) (Option.some (K.o (K.o (K.o (K.i K.z))))) (Gd.on (K.i (K.o (K.i (K.o K.z)))) Bool.false) [],
   .mk (pickR (X.t (K.i (K.o (K.i (K.o K.z))))) (X.c (AV.bool Bool.true)) (X.t (K.o (K.o (K.o (K.i K.z)))))) (Option.some (K.i (K.o (K.o (K.i K.z))))) Gd.no [],
   .mk (mvR (X.t (K.i (K.o (K.o (K.i K.z)))))) (Option.some (K.o (K.i (K.o (K.i K.z))))) Gd.no [],
   .mk (ldR Bool.true 6 (X.t (K.o (K.o (K.o K.z))))) (Option.some (K.i (K.i (K.o (K.i K.z))))) (Gd.on (K.o (K.i (K.o (K.i K.z)))) Bool.false) [],
   .mk (bslR 6 1 [(AV.int IntKind.i64 0), (AV.int IntKind.i64 0), (AV.int IntKind.i64 0), (AV.str []), (AV.int IntKind.i64 0), AV.nils] [(0, (X.t (K.i (K.i (K.o (K.i K.z))))))]) (Option.some (K.o (K.o (K.i (K.i K.z))))) (Gd.on (K.o (K.i (K.o (K.i K.z)))) Bool.false) [],
   .mk (callS Try.prog 26 [(X.t (K.o (K.o (K.i (K.i K.z)))))]) (Option.some (K.i (K.o (K.i (K.i K.z))))) (Gd.on (K.o (K.i (K.o (K.i K.z)))) Bool.false) [],
   .mk (unR UnOp.not (X.t (K.i (K.o (K.i (K.i K.z)))))) (Option.some (K.o (K.i (K.i (K.i K.z))))) (Gd.on (K.o (K.i (K.o (K.i K.z)))) Bool.false) [],
   .mk (pickR (X.t (K.o (K.i (K.o (K.i K.z))))) (X.c (AV.bool Bool.true)) (X.t (K.o (K.i (K.i (K.i K.z)))))) (Option.some (K.i (K.i (K.i (K.i K.z))))) Gd.no []])
  (.cond (X.t (K.i (K.i (K.i (K.i K.z)))))
  (.seq (.region [.mk (mvR (X.c (AV.bool Bool.true))) (Option.some (K.i (K.i (K.o K.z)))) Gd.no []])
  .ret)
  .skip))
  (.seq (.seq (.region [.mk (mvR (X.t K.z)) (Option.some (K.o (K.o (K.o (K.o (K.o K.z)))))) Gd.no [],
   .mk (callS Try.prog 27 [(X.t (K.o (K.o (K.o (K.o (K.o K.z))))))]) (Option.some (K.i (K.o (K.o (K.o (K.o K.z)))))) Gd.no [],
   .mk (mvR (X.t K.z)) (Option.some (K.o (K.i (K.o (K.o (K.o K.z)))))) Gd.no [],
   .mk (callS Try.prog 28 [(X.t (K.o (K.i (K.o (K.o (K.o K.z))))))]) (Option.some (K.i (K.i (K.o (K.o (K.o K.z)))))) Gd.no [],
   .mk (binR Try.prog EK.bool Option.none Bool.false BinOp.neq (X.t (K.i (K.o (K.o (K.o (K.o K.z)))))) (X.t (K.i (K.i (K.o (K.o (K.o K.z))))))) (Option.some (K.o (K.o (K.i (K.o (K.o K.z)))))) Gd.no []])
  (.cond (X.t (K.o (K.o (K.i (K.o (K.o K.z))))))
  (.seq (.region [.mk (mvR (X.c (AV.bool Bool.false))) (Option.some (K.i (K.i (K.o K.z)))) Gd.no []])
  .ret)
  .skip))
  (.seq (.seq (.region [.mk (mvR (X.t K.z)) (Option.some (K.i (K.o (K.i (K.o (K.o K.z)))))) Gd.no [],
   .mk (callS Try.prog 28 [(X.t (K.i (K.o (K.i (K.o (K.o K.z))))))]) (Option.some (K.o (K.i (K.i (K.o (K.o K.z)))))) Gd.no [],
   .mk (unR UnOp.not (X.t (K.o (K.i (K.i (K.o (K.o K.z))))))) (Option.some (K.i (K.i (K.i (K.o (K.o K.z)))))) Gd.no [],
   .mk (mvR (X.t (K.i (K.i (K.i (K.o (K.o K.z))))))) (Option.some (K.o (K.o (K.o (K.i (K.o K.z)))))) Gd.no [],
   .mk (mvR (X.t (K.o K.z))) (Option.some (K.i (K.o (K.o (K.i (K.o K.z)))))) (Gd.on (K.o (K.o (K.o (K.i (K.o K.z))))) Bool.false) [],
   .mk (callS Try.prog 28 [(X.t (K.i (K.o (K.o (K.i (K.o K.z))))))]) (Option.some (K.o (K.i (K.o (K.i (K.o K.z)))))) (Gd.on (K.o (K.o (K.o (K.i (K.o K.z))))) Bool.false) [],
   .mk (unR UnOp.not (X.t (K.o (K.i (K.o (K.i (K.o K.z))))))) (Option.some (K.i (K.i (K.o (K.i (K.o K.z)))))) (Gd.on (K.o (K.o (K.o (K.i (K.o K.z))))) Bool.false) [],
   .mk (pickR (X.t (K.o (K.o (K.o (K.i (K.o K.z)))))) (X.c (AV.bool Bool.true)) (X.t (K.i (K.i (K.o (K.i (K.o K.z))))))) (Option.some (K.o (K.o (K.i (K.i (K.o K.z)))))) Gd.no [],
   .mk (mvR (X.t (K.o (K.o (K.i (K.i (K.o K.z))))))) (Option.some (K.i (K.o (K.i (K.i (K.o K.z)))))) Gd.no [],
   .mk (ldR Bool.true 6 (X.t (K.o (K.o (K.o K.z))))) (Option.some (K.o (K.i (K.i (K.i (K.o K.z)))))) (Gd.on (K.i (K.o (K.i (K.i (K.o K.z))))) Bool.false) [],
   .mk (bslR 6 1 [(AV.int IntKind.i64 0), (AV.int IntKind.i64 0), (AV.int IntKind.i64 0), (AV.str []), (AV.int IntKind.i64 0), AV.nils] [(0, (X.t (K.o (K.i (K.i (K.i (K.o K.z)))))))]) (Option.some (K.i (K.i (K.i (K.i (K.o K.z)))))) (Gd.on (K.i (K.o (K.i (K.i (K.o K.z))))) Bool.false) [],
   .mk (callS Try.prog 28 [(X.t (K.i (K.i (K.i (K.i (K.o K.z))))))]) (Option.some (K.o (K.o (K.o (K.o (K.i K.z)))))) (Gd.on (K.i (K.o (K.i (K.i (K.o K.z))))) Bool.false) [],
   .mk (unR UnOp.not (X.t (K.o (K.o (K.o (K.o (K.i K.z))))))) (Option.some (K.i (K.o (K.o (K.o (K.i K.z)))))) (Gd.on (K.i (K.o (K.i (K.i (K.o K.z))))) Bool.false) [],
   .mk (pickR (X.t (K.i (K.o (K.i (K.i (K.o K.z)))))) (X.c (AV.bool Bool.true)) (X.t (K.i (K.o (K.o (K.o (K.i K.z))))))) (Option.some (K.o (K.i (K.o (K.o (K.i K.z)))))) Gd.no []])
  (.cond (X.t (K.o (K.i (K.o (K.o (K.i K.z))))))
  (.seq (.region [.mk (mvR (X.c (AV.bool Bool.true))) (Option.some (K.i (K.i (K.o K.z)))) Gd.no []])
  .ret)
  .skip))
  (.seq (.region [.mk (mvR (X.t K.z)) (Option.some (K.o (K.o (K.i (K.o (K.i K.z)))))) Gd.no [],
   .mk (mvR (X.t (K.o (K.o K.z)))) (Option.some (K.i (K.o (K.i (K.o (K.i K.z)))))) Gd.no [],
   .mk (mvR (X.t (K.i (K.o K.z)))) (Option.some (K.o (K.i (K.i (K.o (K.i K.z)))))) Gd.no [],
   .mk (callS Try.prog 29 [(X.t (K.o (K.o (K.i (K.o (K.i K.z)))))), (X.t (K.i (K.o (K.i (K.o (K.i K.z)))))), (X.t (K.o (K.i (K.i (K.o (K.i K.z))))))]) (Option.some (K.i (K.i (K.i (K.o (K.i K.z)))))) Gd.no [],
   .mk (mvR (X.t (K.i (K.i (K.i (K.o (K.i K.z))))))) (Option.some (K.i (K.i (K.o (K.o (K.i K.z)))))) Gd.no [],
   .mk (extR (X.t (K.i (K.i (K.o (K.o (K.i K.z)))))) 0) (Option.some (K.o (K.o (K.o (K.i (K.i K.z)))))) Gd.no [],
   .mk (extR (X.t (K.i (K.i (K.o (K.o (K.i K.z)))))) 1) (Option.some (K.i (K.o (K.o (K.i (K.i K.z)))))) Gd.no [],
   .mk (fun _ H => newC Bool.false [(AV.int IntKind.i64 0), (AV.str []), (AV.int IntKind.i64 0), AV.nils] H) (Option.some (K.o (K.o (K.i K.z)))) Gd.no [],
   .mk (stR 4 (X.t (K.o (K.o (K.i K.z)))) (X.t (K.o (K.o (K.o (K.i (K.i K.z))))))) Option.none Gd.no [],
   .mk (mvR (X.t (K.i (K.o (K.o (K.i (K.i K.z))))))) (Option.some (K.i (K.o (K.i K.z)))) Gd.no []])
  (.seq (.region [.mk (mvR (X.t K.z)) (Option.some (K.i (K.i (K.o (K.i (K.i K.z)))))) Gd.no [],
   .mk (mvR (X.t (K.o (K.o K.z)))) (Option.some (K.o (K.o (K.i (K.i (K.i K.z)))))) Gd.no [],
   .mk (mvR (X.t (K.i (K.o K.z)))) (Option.some (K.i (K.o (K.i (K.i (K.i K.z)))))) Gd.no [],
   .mk (callS Try.prog 30 [(X.t (K.i (K.i (K.o (K.i (K.i K.z)))))), (X.t (K.o (K.o (K.i (K.i (K.i K.z)))))), (X.t (K.i (K.o (K.i (K.i (K.i K.z))))))]) (Option.some (K.o (K.i (K.i (K.i (K.i K.z)))))) Gd.no [],
   .mk (mvR (X.t (K.o (K.i (K.i (K.i (K.i K.z))))))) (Option.some (K.o (K.i (K.o (K.i (K.i K.z)))))) Gd.no [],
   .mk (extR (X.t (K.o (K.i (K.o (K.i (K.i K.z)))))) 0) (Option.some (K.i (K.i (K.i (K.i (K.i K.z)))))) Gd.no [],
   .mk (extR (X.t (K.o (K.i (K.o (K.i (K.i K.z)))))) 1) (Option.some (K.o (K.o (K.o (K.o (K.o (K.o K.z))))))) Gd.no [],
   .mk (fun _ H => newC Bool.false [(AV.int IntKind.i64 0), (AV.str []), (AV.int IntKind.i64 0), AV.nils] H) (Option.some (K.o (K.i (K.i K.z)))) Gd.no [],
   .mk (stR 4 (X.t (K.o (K.i (K.i K.z)))) (X.t (K.i (K.i (K.i (K.i (K.i K.z))))))) Option.none Gd.no [],
   .mk (mvR (X.t (K.o (K.o (K.o (K.o (K.o (K.o K.z)))))))) (Option.some (K.i (K.i (K.i K.z)))) Gd.no []])
  (.seq (.regionD [.mk (keepH (ldR Bool.true 4 (X.t (K.o (K.i (K.i K.z)))))) (Option.some (K.o (K.i (K.o (K.o (K.o (K.o K.z))))))) Gd.no [],
   .mk (keepH (ldR Bool.true 4 (X.t (K.o (K.o (K.i K.z)))))) (Option.some (K.i (K.o (K.o (K.o (K.o (K.o K.z))))))) Gd.no [],
   .mk (callS Try.prog 31 [(X.t (K.i (K.o (K.o (K.o (K.o (K.o K.z))))))), (X.t (K.o (K.i (K.o (K.o (K.o (K.o K.z)))))))]) (Option.some (K.i (K.i (K.o (K.o (K.o (K.o K.z))))))) Gd.no [],
   .mk (keepH (mvR (X.t (K.i (K.i (K.o (K.o (K.o (K.o K.z))))))))) (Option.some (K.o (K.o (K.i (K.o (K.o (K.o K.z))))))) Gd.no [],
   .mk (keepH (mvR (X.t (K.i (K.i (K.i K.z)))))) (Option.some (K.o (K.i (K.i (K.o (K.o (K.o K.z))))))) (Gd.on (K.o (K.o (K.i (K.o (K.o (K.o K.z)))))) Bool.true) [],
   .mk (keepH (mvR (X.t (K.i (K.o (K.i K.z)))))) (Option.some (K.i (K.o (K.i (K.o (K.o (K.o K.z))))))) (Gd.on (K.o (K.o (K.i (K.o (K.o (K.o K.z)))))) Bool.true) [],
   .mk (keepH (binR Try.prog EK.no Option.none Bool.false BinOp.eql (X.t (K.i (K.o (K.i (K.o (K.o (K.o K.z))))))) (X.t (K.o (K.i (K.i (K.o (K.o (K.o K.z))))))))) (Option.some (K.i (K.i (K.i (K.o (K.o (K.o K.z))))))) (Gd.on (K.o (K.o (K.i (K.o (K.o (K.o K.z)))))) Bool.true) [],
   .mk (keepH (pickR (X.t (K.o (K.o (K.i (K.o (K.o (K.o K.z))))))) (X.t (K.i (K.i (K.i (K.o (K.o (K.o K.z))))))) (X.c (AV.bool Bool.false)))) (Option.some (K.o (K.o (K.o (K.i (K.o (K.o K.z))))))) Gd.no [],
   .mk (keepH (mvR (X.t (K.o (K.o (K.o (K.i (K.o (K.o K.z))))))))) (Option.some (K.i (K.o (K.o (K.i (K.o (K.o K.z))))))) Gd.no [],
   .mk (keepH (ldR Bool.true 6 (X.t (K.o (K.o (K.o K.z)))))) (Option.some (K.o (K.i (K.i (K.i (K.o (K.o K.z))))))) (Gd.on (K.i (K.o (K.o (K.i (K.o (K.o K.z)))))) Bool.true) [],
   .mk (keepH (mvR (X.t K.z))) (Option.some (K.i (K.o (K.i (K.i (K.o (K.o K.z))))))) (Gd.on (K.i (K.o (K.o (K.i (K.o (K.o K.z)))))) Bool.true) [],
   .mk (keepH (ldR Bool.true 6 (X.t (K.o (K.o (K.o K.z)))))) (Option.some (K.i (K.i (K.o (K.i (K.o (K.o K.z))))))) (Gd.on (K.i (K.o (K.o (K.i (K.o (K.o K.z)))))) Bool.true) [],
   .mk (keepH (mvR (X.t K.z))) (Option.some (K.o (K.i (K.o (K.i (K.o (K.o K.z))))))) (Gd.on (K.i (K.o (K.o (K.i (K.o (K.o K.z)))))) Bool.true) [],
   .mk (callS Try.prog 33 [(X.t (K.o (K.i (K.o (K.i (K.o (K.o K.z))))))), (X.t (K.i (K.i (K.o (K.i (K.o (K.o K.z)))))))]) (Option.some (K.o (K.o (K.i (K.i (K.o (K.o K.z))))))) (Gd.on (K.i (K.o (K.o (K.i (K.o (K.o K.z)))))) Bool.true) [.mk (mvR (X.t K.z)) (Option.some (K.i (K.o (K.i (K.i (K.o (K.o K.z))))))) (Gd.on (K.i (K.o (K.o (K.i (K.o (K.o K.z)))))) Bool.true), .mk (ldR Bool.true 6 (X.t (K.o (K.o (K.o K.z))))) (Option.some (K.o (K.i (K.i (K.i (K.o (K.o K.z))))))) (Gd.on (K.i (K.o (K.o (K.i (K.o (K.o K.z)))))) Bool.true)],
   .mk (callS Try.prog 34 [(X.t (K.i (K.o (K.i (K.i (K.o (K.o K.z))))))), (X.t (K.o (K.i (K.i (K.i (K.o (K.o K.z)))))))]) (Option.some (K.i (K.i (K.i (K.i (K.o (K.o K.z))))))) (Gd.on (K.i (K.o (K.o (K.i (K.o (K.o K.z)))))) Bool.true) [],
   .mk (callS Try.prog 32 [(X.t (K.o (K.o (K.i (K.i (K.o (K.o K.z))))))), (X.t (K.i (K.i (K.i (K.i (K.o (K.o K.z)))))))]) (Option.some (K.o (K.o (K.o (K.o (K.i (K.o K.z))))))) (Gd.on (K.i (K.o (K.o (K.i (K.o (K.o K.z)))))) Bool.true) [],
   .mk (keepH (pickR (X.t (K.i (K.o (K.o (K.i (K.o (K.o K.z))))))) (X.t (K.o (K.o (K.o (K.o (K.i (K.o K.z))))))) (X.c (AV.bool Bool.false)))) (Option.some (K.i (K.o (K.o (K.o (K.i (K.o K.z))))))) Gd.no [],
   .mk (keepH (mvR (X.t (K.i (K.o (K.o (K.o (K.i (K.o K.z))))))))) (Option.some (K.o (K.i (K.o (K.o (K.i (K.o K.z))))))) Gd.no [],
   .mk (keepH (mvR (X.t (K.o K.z)))) (Option.some (K.i (K.i (K.i (K.o (K.i (K.o K.z))))))) (Gd.on (K.o (K.i (K.o (K.o (K.i (K.o K.z)))))) Bool.true) [],
   .mk (keepH (mvR (X.t K.z))) (Option.some (K.o (K.i (K.i (K.o (K.i (K.o K.z))))))) (Gd.on (K.o (K.i (K.o (K.o (K.i (K.o K.z)))))) Bool.true) [],
   .mk (keepH (mvR (X.t (K.o K.z)))) (Option.some (K.o (K.o (K.i (K.o (K.i (K.o K.z))))))) (Gd.on (K.o (K.i (K.o (K.o (K.i (K.o K.z)))))) Bool.true) [],
   .mk (keepH (mvR (X.t K.z))) (Option.some (K.i (K.i (K.o (K.o (K.i (K.o K.z))))))) (Gd.on (K.o (K.i (K.o (K.o (K.i (K.o K.z)))))) Bool.true) [],
   .mk (callS Try.prog 35 [(X.t (K.i (K.i (K.o (K.o (K.i (K.o K.z))))))), (X.t (K.o (K.o (K.i (K.o (K.i (K.o K.z)))))))]) (Option.some (K.i (K.o (K.i (K.o (K.i (K.o K.z))))))) (Gd.on (K.o (K.i (K.o (K.o (K.i (K.o K.z)))))) Bool.true) [.mk (mvR (X.t K.z)) (Option.some (K.o (K.i (K.i (K.o (K.i (K.o K.z))))))) (Gd.on (K.o (K.i (K.o (K.o (K.i (K.o K.z)))))) Bool.true), .mk (mvR (X.t (K.o K.z))) (Option.some (K.i (K.i (K.i (K.o (K.i (K.o K.z))))))) (Gd.on (K.o (K.i (K.o (K.o (K.i (K.o K.z)))))) Bool.true)],
   .mk (callS Try.prog 36 [(X.t (K.o (K.i (K.i (K.o (K.i (K.o K.z))))))), (X.t (K.i (K.i (K.i (K.o (K.i (K.o K.z)))))))]) (Option.some (K.o (K.o (K.o (K.i (K.i (K.o K.z))))))) (Gd.on (K.o (K.i (K.o (K.o (K.i (K.o K.z)))))) Bool.true) [],
   .mk (callS Try.prog 32 [(X.t (K.i (K.o (K.i (K.o (K.i (K.o K.z))))))), (X.t (K.o (K.o (K.o (K.i (K.i (K.o K.z)))))))]) (Option.some (K.i (K.o (K.o (K.i (K.i (K.o K.z))))))) (Gd.on (K.o (K.i (K.o (K.o (K.i (K.o K.z)))))) Bool.true) [],
   .mk (keepH (pickR (X.t (K.o (K.i (K.o (K.o (K.i (K.o K.z))))))) (X.t (K.i (K.o (K.o (K.i (K.i (K.o K.z))))))) (X.c (AV.bool Bool.false)))) (Option.some (K.o (K.i (K.o (K.i (K.i (K.o K.z))))))) Gd.no [],
   .mk (mvR (X.t (K.o (K.i (K.o (K.i (K.i (K.o K.z)))))))) (Option.some (K.i (K.i (K.o K.z)))) Gd.no []])
  .ret))))))))
theorem C6ok : (match Try.f6.body with | some c => comp Try.prog 90 c | none => none) = some C6 := by kernel_rfl
@[go_sem] theorem call6 (args : List AV) (H : Heap) : callC Try.prog 6 args H = .call 6 args := callC_ok (by kernel_rfl) args H
theorem R6ok : resKs Try.prog Try.f6.results.toList = some [(RK.tmp (K.i (K.i (K.o K.z))))] := by kernel_rfl

/- 7: estuary/estuarylaw14.OnceJoins -/
noncomputable def C7 : CC :=
  (.seq (.region [.mk (mvR (X.c (AV.bool Bool.false))) (Option.some (K.i (K.o (K.o K.z)))) Gd.no []])
  (.seq (.seq (.region [.mk (callS Try.prog 25 []) (Option.some (K.o (K.i (K.i (K.o K.z))))) Gd.no [],
   .mk (unR UnOp.not (X.t (K.o (K.i (K.i (K.o K.z)))))) (Option.some (K.i (K.i (K.i (K.o K.z))))) Gd.no []])
  (.cond (X.t (K.i (K.i (K.i (K.o K.z)))))
  (.seq (.region [.mk (mvR (X.c (AV.bool Bool.false))) (Option.some (K.i (K.o (K.o K.z)))) Gd.no []])
  .ret)
  .skip))
  (.seq (.seq (.region [.mk (mvR (X.t K.z)) (Option.some (K.o (K.o (K.o (K.i K.z))))) Gd.no [],
   .mk (callS Try.prog 26 [(X.t (K.o (K.o (K.o (K.i K.z)))))]) (Option.some (K.i (K.o (K.o (K.i K.z))))) Gd.no [],
   .mk (unR UnOp.not (X.t (K.i (K.o (K.o (K.i K.z)))))) (Option.some (K.o (K.i (K.o (K.i K.z))))) Gd.no [],
   .mk (mvR (X.t (K.o (K.i (K.o (K.i K.z)))))) (Option.some (K.i (K.i (K.o (K.i K.z))))) Gd.no [],
   .mk (mvR (X.t (K.o K.z))) (Option.some (K.o (K.o (K.i (K.i K.z))))) (Gd.on (K.i (K.i (K.o (K.i K.z)))) Bool.false) [],
   .mk (callS Try.prog 26 [(X.t (K.o (K.o (K.i (K.i K.z)))))]) (Option.some (K.i (K.o (K.i (K.i K.z))))) (Gd.on (K.i (K.i (K.o (K.i K.z)))) Bool.false) [],
   .mk (unR UnOp.not (X.t (K.i (K.o (K.i (K.i K.z)))))) (Option.some (K.o (K.i (K.i (K.i K.z))))) (Gd.on (K.i (K.i (K.o (K.i K.z)))) Bool.false) [],
   .mk (pickR (X.t (K.i (K.i (K.o (K.i K.z))))) (X.c (AV.bool Bool.true)) (X.t (K.o (K.i (K.i (K.i K.z)))))) (Option.some (K.i (K.i (K.i (K.i K.z))))) Gd.no [],
   .mk (mvR (X.t (K.i (K.i (K.i (K.i K.z)))))) (Option.some (K.o (K.o (K.o (K.o (K.o K.z)))))) Gd.no [],
   .mk (mvR (X.t K.z)) (Option.some (K.i (K.o (K.o (K.o (K.o K.z)))))) (Gd.on (K.o (K.o (K.o (K.o (K.o K.z))))) Bool.false) [],
   .mk (callS Try.prog 28 [(X.t (K.i (K.o (K.o (K.o (K.o K.z))))))]) (Option.some (K.o (K.i (K.o (K.o (K.o K.z)))))) (Gd.on (K.o (K.o (K.o (K.o (K.o K.z))))) Bool.false) [],
   .mk (unR UnOp.not (X.t (K.o (K.i (K.o (K.o (K.o K.z))))))) (Option.some (K.i (K.i (K.o (K.o (K.o K.z)))))) (Gd.on (K.o (K.o (K.o (K.o (K.o K.z))))) Bool.false) [],
   .mk (pickR (X.t (K.o (K.o (K.o (K.o (K.o K.z)))))) (X.c (AV.bool Bool.true)) (X.t (K.i (K.i (K.o (K.o (K.o K.z))))))) (Option.some (K.o (K.o (K.i (K.o (K.o K.z)))))) Gd.no [],
   .mk (mvR (X.t (K.o (K.o (K.i (K.o (K.o K.z))))))) (Option.some (K.i (K.o (K.i (K.o (K.o K.z)))))) Gd.no [],
   .mk (mvR (X.t (K.o K.z))) (Option.some (K.o (K.i (K.i (K.o (K.o K.z)))))) (Gd.on (K.i (K.o (K.i (K.o (K.o K.z))))) Bool.false) [],
   .mk (callS Try.prog 28 [(X.t (K.o (K.i (K.i (K.o (K.o K.z))))))]) (Option.some (K.i (K.i (K.i (K.o (K.o K.z)))))) (Gd.on (K.i (K.o (K.i (K.o (K.o K.z))))) Bool.false) [],
   .mk (unR UnOp.not (X.t (K.i (K.i (K.i (K.o (K.o K.z))))))) (Option.some (K.o (K.o (K.o (K.i (K.o K.z)))))) (Gd.on (K.i (K.o (K.i (K.o (K.o K.z))))) Bool.false) [],
   .mk (pickR (X.t (K.i (K.o (K.i (K.o (K.o K.z)))))) (X.c (AV.bool Bool.true)) (X.t (K.o (K.o (K.o (K.i (K.o K.z))))))) (Option.some (K.i (K.o (K.o (K.i (K.o K.z)))))) Gd.no []])
  (.cond (X.t (K.i (K.o (K.o (K.i (K.o K.z))))))
  (.seq (.region [.mk (mvR (X.c (AV.bool Bool.true))) (Option.some (K.i (K.o (K.o K.z)))) Gd.no []])
  .ret)
  .skip))
  (.seq (.region [.mk (mvR (X.t K.z)) (Option.some (K.o (K.i (K.o (K.i (K.o K.z)))))) Gd.no [],
   .mk (mvR (X.t (K.o K.z))) (Option.some (K.i (K.i (K.o (K.i (K.o K.z)))))) Gd.no [],
   .mk (callS Try.prog 35 [(X.t (K.o (K.i (K.o (K.i (K.o K.z)))))), (X.t (K.i (K.i (K.o (K.i (K.o K.z))))))]) (Option.some (K.o (K.o (K.i (K.i (K.o K.z)))))) Gd.no [],
   .mk (mvR (X.t (K.o K.z))) (Option.some (K.i (K.o (K.i (K.i (K.o K.z)))))) Gd.no [],
   .mk (mvR (X.t K.z)) (Option.some (K.o (K.i (K.i (K.i (K.o K.z)))))) Gd.no [],
   .mk (callS Try.prog 35 [(X.t (K.i (K.o (K.i (K.i (K.o K.z)))))), (X.t (K.o (K.i (K.i (K.i (K.o K.z))))))]) (Option.some (K.i (K.i (K.i (K.i (K.o K.z)))))) Gd.no [],
   .mk (mvR (X.t (K.o (K.o (K.i (K.i (K.o K.z))))))) (Option.some (K.o (K.i (K.o K.z)))) Gd.no [],
   .mk (mvR (X.t (K.i (K.i (K.i (K.i (K.o K.z))))))) (Option.some (K.i (K.i (K.o K.z)))) Gd.no []])
  (.seq (.region [.mk (mvR (X.t (K.i K.z))) (Option.some (K.o (K.o (K.o (K.o (K.i K.z)))))) Gd.no [],
   .mk (binR Try.prog EK.no Option.none Bool.true BinOp.rem (X.t (K.o (K.o (K.o (K.o (K.i K.z)))))) (X.c (AV.int IntKind.u8 3))) (Option.some (K.i (K.o (K.o (K.o (K.i K.z)))))) Gd.no [],
   .mk (convR (Cv.int IntKind.i64) (X.t (K.i (K.o (K.o (K.o (K.i K.z))))))) (Option.some (K.o (K.i (K.o (K.o (K.i K.z)))))) Gd.no [],
   .mk (mvR (X.t (K.o (K.o K.z)))) (Option.some (K.i (K.i (K.o (K.o (K.i K.z)))))) Gd.no [],
   .mk (convR (Cv.int IntKind.i64) (X.t (K.i (K.i (K.o (K.o (K.i K.z))))))) (Option.some (K.o (K.o (K.i (K.o (K.i K.z)))))) Gd.no [],
   .mk (binR Try.prog EK.no Option.none Bool.true BinOp.add (X.t (K.o (K.o (K.i (K.o (K.i K.z)))))) (X.c (AV.int IntKind.i64 1))) (Option.some (K.i (K.o (K.i (K.o (K.i K.z)))))) Gd.no [],
   .mk (mvR (X.t (K.o (K.i (K.o (K.o (K.i K.z))))))) (Option.some (K.o (K.o (K.i K.z)))) Gd.no [],
   .mk (mvR (X.t (K.i (K.o (K.i (K.o (K.i K.z))))))) (Option.some (K.i (K.o (K.i K.z)))) Gd.no []])
  (.seq (.region [.mk (mvR (X.t K.z)) (Option.some (K.i (K.i (K.i (K.o (K.i K.z)))))) Gd.no [],
   .mk (mvR (X.t (K.o (K.o (K.i K.z))))) (Option.some (K.o (K.o (K.o (K.i (K.i K.z)))))) Gd.no [],
   .mk (mvR (X.t (K.i (K.o (K.i K.z))))) (Option.some (K.i (K.o (K.o (K.i (K.i K.z)))))) Gd.no [],
   .mk (callS Try.prog 29 [(X.t (K.i (K.i (K.i (K.o (K.i K.z)))))), (X.t (K.o (K.o (K.o (K.i (K.i K.z)))))), (X.t (K.i (K.o (K.o (K.i (K.i K.z))))))]) (Option.some (K.o (K.i (K.o (K.i (K.i K.z)))))) Gd.no [],
   .mk (mvR (X.t (K.o (K.i (K.o (K.i (K.i K.z))))))) (Option.some (K.o (K.i (K.i (K.o (K.i K.z)))))) Gd.no [],
   .mk (extR (X.t (K.o (K.i (K.i (K.o (K.i K.z)))))) 0) (Option.some (K.i (K.i (K.o (K.i (K.i K.z)))))) Gd.no [],
   .mk (extR (X.t (K.o (K.i (K.i (K.o (K.i K.z)))))) 1) (Option.some (K.o (K.o (K.i (K.i (K.i K.z)))))) Gd.no [],
   .mk (fun _ H => newC Bool.false [(AV.int IntKind.i64 0), (AV.str []), (AV.int IntKind.i64 0), AV.nils] H) (Option.some (K.o (K.i (K.i K.z)))) Gd.no [],
   .mk (stR 4 (X.t (K.o (K.i (K.i K.z)))) (X.t (K.i (K.i (K.o (K.i (K.i K.z))))))) Option.none Gd.no [],
   .mk (mvR (X.t (K.o (K.o (K.i (K.i (K.i K.z))))))) (Option.some (K.i (K.i (K.i K.z)))) Gd.no []])
  (.seq (.region [.mk (mvR (X.t (K.o K.z))) (Option.some (K.o (K.i (K.i (K.i (K.i K.z)))))) Gd.no [],
   .mk (mvR (X.t (K.o (K.o (K.i K.z))))) (Option.some (K.i (K.i (K.i (K.i (K.i K.z)))))) Gd.no [],
   .mk (mvR (X.t (K.i (K.o (K.i K.z))))) (Option.some (K.o (K.o (K.o (K.o (K.o (K.o K.z))))))) Gd.no [],
   .mk (callS Try.prog 29 [(X.t (K.o (K.i (K.i (K.i (K.i K.z)))))), (X.t (K.i (K.i (K.i (K.i (K.i K.z)))))), (X.t (K.o (K.o (K.o (K.o (K.o (K.o K.z)))))))]) (Option.some (K.i (K.o (K.o (K.o (K.o (K.o K.z))))))) Gd.no [],
   .mk (mvR (X.t (K.i (K.o (K.o (K.o (K.o (K.o K.z)))))))) (Option.some (K.i (K.o (K.i (K.i (K.i K.z)))))) Gd.no [],
   .mk (extR (X.t (K.i (K.o (K.i (K.i (K.i K.z)))))) 0) (Option.some (K.o (K.i (K.o (K.o (K.o (K.o K.z))))))) Gd.no [],
   .mk (extR (X.t (K.i (K.o (K.i (K.i (K.i K.z)))))) 1) (Option.some (K.i (K.i (K.o (K.o (K.o (K.o K.z))))))) Gd.no [],
   .mk (fun _ H => newC Bool.false [(AV.int IntKind.i64 0), (AV.str []), (AV.int IntKind.i64 0), AV.nils] H) (Option.some (K.o (K.o (K.o (K.o K.z))))) Gd.no [],
   .mk (stR 4 (X.t (K.o (K.o (K.o (K.o K.z))))) (X.t (K.o (K.i (K.o (K.o (K.o (K.o K.z)))))))) Option.none Gd.no [],
   .mk (mvR (X.t (K.i (K.i (K.o (K.o (K.o (K.o K.z)))))))) (Option.some (K.i (K.o (K.o (K.o K.z))))) Gd.no []])
  (.seq (.region [.mk (mvR (X.t (K.o (K.i (K.o K.z))))) (Option.some (K.i (K.o (K.i (K.o (K.o (K.o K.z))))))) Gd.no [],
   .mk (mvR (X.t (K.o (K.o (K.i K.z))))) (Option.some (K.o (K.i (K.i (K.o (K.o (K.o K.z))))))) Gd.no [],
   .mk (mvR (X.t (K.i (K.o (K.i K.z))))) (Option.some (K.i (K.i (K.i (K.o (K.o (K.o K.z))))))) Gd.no [],
   .mk (callS Try.prog 29 [(X.t (K.i (K.o (K.i (K.o (K.o (K.o K.z))))))), (X.t (K.o (K.i (K.i (K.o (K.o (K.o K.z))))))), (X.t (K.i (K.i (K.i (K.o (K.o (K.o K.z)))))))]) (Option.some (K.o (K.o (K.o (K.i (K.o (K.o K.z))))))) Gd.no [],
   .mk (mvR (X.t (K.o (K.o (K.o (K.i (K.o (K.o K.z)))))))) (Option.some (K.o (K.o (K.i (K.o (K.o (K.o K.z))))))) Gd.no [],
   .mk (extR (X.t (K.o (K.o (K.i (K.o (K.o (K.o K.z))))))) 0) (Option.some (K.i (K.o (K.o (K.i (K.o (K.o K.z))))))) Gd.no [],
   .mk (extR (X.t (K.o (K.o (K.i (K.o (K.o (K.o K.z))))))) 1) (Option.some (K.o (K.i (K.o (K.i (K.o (K.o K.z))))))) Gd.no [],
   .mk (fun _ H => newC Bool.false [(AV.int IntKind.i64 0), (AV.str []), (AV.int IntKind.i64 0), AV.nils] H) (Option.some (K.o (K.i (K.o (K.o K.z))))) Gd.no [],
   .mk (stR 4 (X.t (K.o (K.i (K.o (K.o K.z))))) (X.t (K.i (K.o (K.o (K.i (K.o (K.o K.z)))))))) Option.none Gd.no [],
   .mk (mvR (X.t (K.o (K.i (K.o (K.i (K.o (K.o K.z)))))))) (Option.some (K.i (K.i (K.o (K.o K.z))))) Gd.no []])
  (.seq (.region [.mk (mvR (X.t (K.i (K.i (K.o K.z))))) (Option.some (K.o (K.o (K.i (K.i (K.o (K.o K.z))))))) Gd.no [],
   .mk (mvR (X.t (K.o (K.o (K.i K.z))))) (Option.some (K.i (K.o (K.i (K.i (K.o (K.o K.z))))))) Gd.no [],
   .mk (mvR (X.t (K.i (K.o (K.i K.z))))) (Option.some (K.o (K.i (K.i (K.i (K.o (K.o K.z))))))) Gd.no [],
   .mk (callS Try.prog 29 [(X.t (K.o (K.o (K.i (K.i (K.o (K.o K.z))))))), (X.t (K.i (K.o (K.i (K.i (K.o (K.o K.z))))))), (X.t (K.o (K.i (K.i (K.i (K.o (K.o K.z)))))))]) (Option.some (K.i (K.i (K.i (K.i (K.o (K.o K.z))))))) Gd.no [],
   .mk (mvR (X.t (K.i (K.i (K.i (K.i (K.o (K.o K.z)))))))) (Option.some (K.i (K.i (K.o (K.i (K.o (K.o K.z))))))) Gd.no [],
   .mk (extR (X.t (K.i (K.i (K.o (K.i (K.o (K.o K.z))))))) 0) (Option.some (K.o (K.o (K.o (K.o (K.i (K.o K.z))))))) Gd.no [],
   .mk (extR (X.t (K.i (K.i (K.o (K.i (K.o (K.o K.z))))))) 1) (Option.some (K.i (K.o (K.o (K.o (K.i (K.o K.z))))))) Gd.no [],
   .mk (fun _ H => newC Bool.false [(AV.int IntKind.i64 0), (AV.str []), (AV.int IntKind.i64 0), AV.nils] H) (Option.some (K.o (K.o (K.i (K.o K.z))))) Gd.no [],
   .mk (stR 4 (X.t (K.o (K.o (K.i (K.o K.z))))) (X.t (K.o (K.o (K.o (K.o (K.i (K.o K.z)))))))) Option.none Gd.no [],
   .mk (mvR (X.t (K.i (K.o (K.o (K.o (K.i (K.o K.z)))))))) (Option.some (K.i (K.o (K.i (K.o K.z))))) Gd.no []])
  (.seq (.region [.mk (mvR (X.t (K.o (K.i (K.o K.z))))) (Option.some (K.o (K.i (K.o (K.o (K.i (K.o K.z))))))) Gd.no [],
   .mk (callS Try.prog 27 [(X.t (K.o (K.i (K.o (K.o (K.i (K.o K.z)))))))]) (Option.some (K.i (K.i (K.o (K.o (K.i (K.o K.z))))))) Gd.no [],
   .mk (mvR (X.t (K.i (K.i (K.o (K.o (K.i (K.o K.z)))))))) (Option.some (K.o (K.o (K.i (K.o (K.i (K.o K.z))))))) Gd.no [],
   .mk (mvR (X.t (K.i (K.i (K.o (K.o K.z)))))) (Option.some (K.i (K.o (K.i (K.o (K.i (K.o K.z))))))) (Gd.on (K.o (K.o (K.i (K.o (K.i (K.o K.z)))))) Bool.true) [],
   .mk (mvR (X.t (K.i (K.o (K.i (K.o K.z)))))) (Option.some (K.o (K.i (K.i (K.o (K.i (K.o K.z))))))) (Gd.on (K.o (K.o (K.i (K.o (K.i (K.o K.z)))))) Bool.true) [],
   .mk (binR Try.prog EK.no Option.none Bool.false BinOp.eql (X.t (K.i (K.o (K.i (K.o (K.i (K.o K.z))))))) (X.t (K.o (K.i (K.i (K.o (K.i (K.o K.z)))))))) (Option.some (K.i (K.i (K.i (K.o (K.i (K.o K.z))))))) (Gd.on (K.o (K.o (K.i (K.o (K.i (K.o K.z)))))) Bool.true) [],
   .mk (pickR (X.t (K.o (K.o (K.i (K.o (K.i (K.o K.z))))))) (X.t (K.i (K.i (K.i (K.o (K.i (K.o K.z))))))) (X.c (AV.bool Bool.false))) (Option.some (K.o (K.o (K.o (K.i (K.i (K.o K.z))))))) Gd.no [],
   .mk (mvR (X.t (K.o (K.o (K.o (K.i (K.i (K.o K.z)))))))) (Option.some (K.i (K.o (K.o (K.i (K.i (K.o K.z))))))) Gd.no [],
   .mk (mvR (X.t (K.i (K.i (K.o (K.o K.z)))))) (Option.some (K.o (K.i (K.o (K.i (K.i (K.o K.z))))))) (Gd.on (K.i (K.o (K.o (K.i (K.i (K.o K.z)))))) Bool.true) [],
   .mk (mvR (X.t (K.i (K.i (K.i K.z))))) (Option.some (K.i (K.i (K.o (K.i (K.i (K.o K.z))))))) (Gd.on (K.i (K.o (K.o (K.i (K.i (K.o K.z)))))) Bool.true) [],
   .mk (mvR (X.t (K.i (K.o (K.o (K.o K.z)))))) (Option.some (K.o (K.o (K.i (K.i (K.i (K.o K.z))))))) (Gd.on (K.i (K.o (K.o (K.i (K.i (K.o K.z)))))) Bool.true) [],
   .mk (mmR Bool.true (X.t (K.i (K.i (K.o (K.i (K.i (K.o K.z))))))) (X.t (K.o (K.o (K.i (K.i (K.i (K.o K.z)))))))) (Option.some (K.i (K.o (K.i (K.i (K.i (K.o K.z))))))) (Gd.on (K.i (K.o (K.o (K.i (K.i (K.o K.z)))))) Bool.true) [],
   .mk (binR Try.prog EK.no Option.none Bool.false BinOp.eql (X.t (K.o (K.i (K.o (K.i (K.i (K.o K.z))))))) (X.t (K.i (K.o (K.i (K.i (K.i (K.o K.z)))))))) (Option.some (K.o (K.i (K.i (K.i (K.i (K.o K.z))))))) (Gd.on (K.i (K.o (K.o (K.i (K.i (K.o K.z)))))) Bool.true) [],
   .mk (pickR (X.t (K.i (K.o (K.o (K.i (K.i (K.o K.z))))))) (X.t (K.o (K.i (K.i (K.i (K.i (K.o K.z))))))) (X.c (AV.bool Bool.false))) (Option.some (K.i (K.i (K.i (K.i (K.i (K.o K.z))))))) Gd.no [],
   .mk (mvR (X.t (K.i (K.i (K.i (K.i (K.i (K.o K.z)))))))) (Option.some (K.o (K.o (K.o (K.o (K.o (K.i K.z))))))) Gd.no [],
   .mk (mvR (X.t K.z)) (Option.some (K.i (K.o (K.o (K.o (K.o (K.i K.z))))))) (Gd.on (K.o (K.o (K.o (K.o (K.o (K.i K.z)))))) Bool.true) [],
   .mk (mvR (X.t K.z)) (Option.some (K.o (K.i (K.o (K.o (K.o (K.i K.z))))))) (Gd.on (K.o (K.o (K.o (K.o (K.o (K.i K.z)))))) Bool.true) [],
   .mk (callS Try.prog 35 [(X.t (K.i (K.o (K.o (K.o (K.o (K.i K.z))))))), (X.t (K.o (K.i (K.o (K.o (K.o (K.i K.z)))))))]) (Option.some (K.i (K.i (K.o (K.o (K.o (K.i K.z))))))) (Gd.on (K.o (K.o (K.o (K.o (K.o (K.i K.z)))))) Bool.true) [],
   .mk (mvR (X.t K.z)) (Option.some (K.o (K.o (K.i (K.o (K.o (K.i K.z))))))) (Gd.on (K.o (K.o (K.o (K.o (K.o (K.i K.z)))))) Bool.true) [],
   .mk (callS Try.prog 32 [(X.t (K.i (K.i (K.o (K.o (K.o (K.i K.z))))))), (X.t (K.o (K.o (K.i (K.o (K.o (K.i K.z)))))))]) (Option.some (K.i (K.o (K.i (K.o (K.o (K.i K.z))))))) (Gd.on (K.o (K.o (K.o (K.o (K.o (K.i K.z)))))) Bool.true) [],
   .mk (pickR (X.t (K.o (K.o (K.o (K.o (K.o (K.i K.z))))))) (X.t (K.i (K.o (K.i (K.o (K.o (K.i K.z))))))) (X.c (AV.bool Bool.false))) (Option.some (K.o (K.i (K.i (K.o (K.o (K.i K.z))))))) Gd.no [],
   .mk (mvR (X.t (K.o (K.i (K.i (K.o (K.o (K.i K.z)))))))) (Option.some (K.i (K.i (K.i (K.o (K.o (K.i K.z))))))) Gd.no [],
   .mk (mvR (X.t (K.o (K.i (K.o K.z))))) (Option.some (K.o (K.o (K.o (K.i (K.o (K.i K.z))))))) (Gd.on (K.i (K.i (K.i (K.o (K.o (K.i K.z)))))) Bool.true) [],
   .mk (lenR LnK.slice (X.t (K.o (K.o (K.o (K.i (K.o (K.i K.z)))))))) (Option.some (K.i (K.o (K.o (K.i (K.o (K.i K.z))))))) (Gd.on (K.i (K.i (K.i (K.o (K.o (K.i K.z)))))) Bool.true) [],
   .mk (mvR (X.t (K.i (K.i (K.o K.z))))) (Option.some (K.o (K.i (K.o (K.i (K.o (K.i K.z))))))) (Gd.on (K.i (K.i (K.i (K.o (K.o (K.i K.z)))))) Bool.true) [],
   .mk (lenR LnK.slice (X.t (K.o (K.i (K.o (K.i (K.o (K.i K.z)))))))) (Option.some (K.i (K.i (K.o (K.i (K.o (K.i K.z))))))) (Gd.on (K.i (K.i (K.i (K.o (K.o (K.i K.z)))))) Bool.true) [],
   .mk (binR Try.prog EK.no Option.none Bool.false BinOp.eql (X.t (K.i (K.o (K.o (K.i (K.o (K.i K.z))))))) (X.t (K.i (K.i (K.o (K.i (K.o (K.i K.z)))))))) (Option.some (K.o (K.o (K.i (K.i (K.o (K.i K.z))))))) (Gd.on (K.i (K.i (K.i (K.o (K.o (K.i K.z)))))) Bool.true) [],
   .mk (pickR (X.t (K.i (K.i (K.i (K.o (K.o (K.i K.z))))))) (X.t (K.o (K.o (K.i (K.i (K.o (K.i K.z))))))) (X.c (AV.bool Bool.false))) (Option.some (K.i (K.o (K.i (K.i (K.o (K.i K.z))))))) Gd.no [],
   .mk (mvR (X.t (K.i (K.o (K.i (K.i (K.o (K.i K.z)))))))) (Option.some (K.i (K.o (K.o K.z)))) Gd.no []])
  .ret))))))))))
theorem C7ok : (match Try.f7.body with | some c => comp Try.prog 109 c | none => none) = some C7 := by kernel_rfl
@[go_sem] theorem call7 (args : List AV) (H : Heap) : callC Try.prog 7 args H = .call 7 args := callC_ok (by kernel_rfl) args H
theorem R7ok : resKs Try.prog Try.f7.results.toList = some [(RK.tmp (K.i (K.o (K.o K.z))))] := by kernel_rfl

/- 8: estuary/estuarylaw14.OnceRuns -/
noncomputable def C8L0 : CC :=
  (.seq (.seq (.region [.mk (mvR (X.t (K.o (K.o (K.o K.z))))) (Option.some (K.o (K.i (K.i (K.o K.z))))) Gd.no [],
   .mk (mvR (X.t K.z)) (Option.some (K.i (K.i (K.i (K.o K.z))))) Gd.no [],
   .mk (lenR LnK.slice (X.t (K.i (K.i (K.i (K.o K.z)))))) (Option.some (K.o (K.o (K.o (K.i K.z))))) Gd.no [],
   .mk (binR Try.prog EK.no Option.none Bool.false BinOp.lss (X.t (K.o (K.i (K.i (K.o K.z))))) (X.t (K.o (K.o (K.o (K.i K.z)))))) (Option.some (K.i (K.o (K.o (K.i K.z))))) Gd.no []])
  (.cond (X.t (K.i (K.o (K.o (K.i K.z)))))
  .skip
  (.exit 0)))
  (.seq (.block 1 (.seq (.region [.mk (mvR (X.t K.z)) (Option.some (K.o (K.o (K.i (K.i K.z))))) Gd.no [],
   .mk (mvR (X.t (K.o (K.o (K.o K.z))))) (Option.some (K.i (K.o (K.i (K.i K.z))))) Gd.no [],
   .mk (iaS 1 (X.t (K.o (K.o (K.i (K.i K.z))))) (X.t (K.i (K.o (K.i (K.i K.z)))))) (Option.some (K.o (K.i (K.i (K.i K.z))))) Gd.no [],
   .mk (ldR Bool.false 1 (X.t (K.o (K.i (K.i (K.i K.z)))))) (Option.some (K.i (K.i (K.i (K.i K.z))))) Gd.no [],
   .mk (binR Try.prog EK.no Option.none Bool.true BinOp.rem (X.t (K.i (K.i (K.i (K.i K.z))))) (X.c (AV.int IntKind.u8 3))) (Option.some (K.o (K.o (K.o (K.o (K.o K.z)))))) Gd.no [],
   .mk (convR (Cv.int IntKind.i64) (X.t (K.o (K.o (K.o (K.o (K.o K.z))))))) (Option.some (K.i (K.o (K.o (K.o (K.o K.z)))))) Gd.no [],
   .mk (mvR (X.t (K.i (K.o (K.o (K.o (K.o K.z))))))) (Option.some (K.i (K.o (K.o K.z)))) Gd.no []])
  (.seq (.regionD [.mk (keepH (mvR (X.t (K.o (K.o (K.o K.z)))))) (Option.some (K.o (K.o (K.o (K.i (K.o K.z)))))) Gd.no [],
   .mk (keepH (mvR (X.t K.z))) (Option.some (K.i (K.i (K.i (K.o (K.o K.z)))))) Gd.no [],
   .mk (keepH (iaS 1 (X.t (K.i (K.i (K.i (K.o (K.o K.z)))))) (X.t (K.o (K.o (K.o (K.i (K.o K.z)))))))) (Option.some (K.i (K.o (K.o (K.i (K.o K.z)))))) Gd.no [],
   .mk (keepH (ldR Bool.false 1 (X.t (K.i (K.o (K.o (K.i (K.o K.z)))))))) (Option.some (K.o (K.i (K.o (K.i (K.o K.z)))))) Gd.no [],
   .mk (keepH (binR Try.prog EK.no Option.none Bool.true BinOp.quo (X.t (K.o (K.i (K.o (K.i (K.o K.z)))))) (X.c (AV.int IntKind.u8 3)))) (Option.some (K.i (K.i (K.o (K.i (K.o K.z)))))) Gd.no [],
   .mk (keepH (binR Try.prog EK.no Option.none Bool.true BinOp.rem (X.t (K.i (K.i (K.o (K.i (K.o K.z)))))) (X.c (AV.int IntKind.u8 4)))) (Option.some (K.o (K.o (K.i (K.i (K.o K.z)))))) Gd.no [],
   .mk (keepH (mvR (X.t (K.i (K.o (K.o K.z)))))) (Option.some (K.i (K.i (K.o (K.o (K.o K.z)))))) Gd.no [],
   .mk (keepH (iaA 3 1 (X.t (K.i (K.i K.z))) (X.t (K.i (K.i (K.o (K.o (K.o K.z)))))))) (Option.some (K.o (K.o (K.i (K.o (K.o K.z)))))) Gd.no [],
   .mk (keepH (ldR Bool.false 1 (X.t (K.o (K.o (K.i (K.o (K.o K.z)))))))) (Option.some (K.i (K.o (K.i (K.o (K.o K.z)))))) Gd.no [],
   .mk (keepH (binR Try.prog EK.no Option.none Bool.true BinOp.add (X.t (K.i (K.o (K.i (K.o (K.o K.z)))))) (X.c (AV.int IntKind.i64 1)))) (Option.some (K.o (K.i (K.i (K.o (K.o K.z)))))) Gd.no [],
   .mk (keepH (mvR (X.t (K.i (K.o (K.o K.z)))))) (Option.some (K.o (K.i (K.o (K.o (K.o K.z)))))) Gd.no [],
   .mk (convR (Cv.int IntKind.i64) (X.t (K.o (K.o (K.i (K.i (K.o K.z))))))) (Option.some (K.i (K.o (K.i (K.i (K.o K.z)))))) Gd.no [.mk (mvR (X.t (K.i (K.o (K.o K.z))))) (Option.some (K.o (K.i (K.o (K.o (K.o K.z)))))) Gd.no, .mk (binR Try.prog EK.no Option.none Bool.true BinOp.add (X.t (K.i (K.o (K.i (K.o (K.o K.z)))))) (X.c (AV.int IntKind.i64 1))) (Option.some (K.o (K.i (K.i (K.o (K.o K.z)))))) Gd.no, .mk (ldR Bool.false 1 (X.t (K.o (K.o (K.i (K.o (K.o K.z))))))) (Option.some (K.i (K.o (K.i (K.o (K.o K.z)))))) Gd.no, .mk (iaA 3 1 (X.t (K.i (K.i K.z))) (X.t (K.i (K.i (K.o (K.o (K.o K.z))))))) (Option.some (K.o (K.o (K.i (K.o (K.o K.z)))))) Gd.no, .mk (mvR (X.t (K.i (K.o (K.o K.z))))) (Option.some (K.i (K.i (K.o (K.o (K.o K.z)))))) Gd.no],
   .mk (keepH (binR Try.prog EK.no Option.none Bool.false BinOp.add (X.t (K.o (K.i (K.i (K.o (K.o K.z)))))) (X.t (K.i (K.o (K.i (K.i (K.o K.z)))))))) (Option.some (K.o (K.i (K.i (K.i (K.o K.z)))))) Gd.no [],
   .mk (keepH (iaA 3 1 (X.t (K.i (K.i K.z))) (X.t (K.o (K.i (K.o (K.o (K.o K.z)))))))) (Option.some (K.i (K.i (K.i (K.i (K.o K.z)))))) Gd.no [],
   .mk (stR 1 (X.t (K.i (K.i (K.i (K.i (K.o K.z)))))) (X.t (K.o (K.i (K.i (K.i (K.o K.z))))))) Option.none Gd.no []])
  (.seq (.region [.mk (mvR (X.t (K.o (K.i K.z)))) (Option.some (K.o (K.o (K.o (K.o (K.i K.z)))))) Gd.no [],
   .mk (mvR (X.t (K.i (K.o (K.o K.z))))) (Option.some (K.i (K.o (K.o (K.o (K.i K.z)))))) Gd.no [],
   .mk (mvR (X.t (K.i (K.o (K.o K.z))))) (Option.some (K.o (K.i (K.o (K.o (K.i K.z)))))) Gd.no [],
   .mk (iaA 3 1 (X.t (K.i (K.i K.z))) (X.t (K.o (K.i (K.o (K.o (K.i K.z))))))) (Option.some (K.i (K.i (K.o (K.o (K.i K.z)))))) Gd.no [],
   .mk (ldR Bool.false 1 (X.t (K.i (K.i (K.o (K.o (K.i K.z))))))) (Option.some (K.o (K.o (K.i (K.o (K.i K.z)))))) Gd.no [],
   .mk (mvR (X.t (K.o (K.o (K.o K.z))))) (Option.some (K.i (K.o (K.i (K.o (K.i K.z)))))) Gd.no [],
   .mk (buildR [(AV.int IntKind.i64 0), (AV.str []), (AV.int IntKind.i64 0), AV.nils] [(2, (1, (X.t (K.i (K.o (K.i (K.o (K.i K.z))))))))]) (Option.some (K.o (K.i (K.i (K.o (K.i K.z)))))) Gd.no [],
   .mk (buildR [(AV.int IntKind.i64 0), (AV.int IntKind.i64 0), (AV.int IntKind.i64 0), (AV.str []), (AV.int IntKind.i64 0), AV.nils] [(0, (1, (X.t (K.i (K.o (K.o (K.o (K.i K.z)))))))), (1, (1, (X.t (K.o (K.o (K.i (K.o (K.i K.z)))))))), (2, (4, (X.t (K.o (K.i (K.i (K.o (K.i K.z))))))))]) (Option.some (K.i (K.i (K.i (K.o (K.i K.z)))))) Gd.no [],
   .mk (callS Try.prog 33 [(X.t (K.o (K.o (K.o (K.o (K.i K.z)))))), (X.t (K.i (K.i (K.i (K.o (K.i K.z))))))]) (Option.some (K.o (K.o (K.o (K.i (K.i K.z)))))) Gd.no [],
   .mk (mvR (X.t (K.o (K.o (K.o (K.i (K.i K.z))))))) (Option.some (K.o (K.i K.z))) Gd.no []])
  (.seq (.seq (.region [.mk (mvR (X.t (K.o (K.i K.z)))) (Option.some (K.i (K.o (K.o (K.i (K.i K.z)))))) Gd.no [],
   .mk (callS Try.prog 27 [(X.t (K.i (K.o (K.o (K.i (K.i K.z))))))]) (Option.some (K.o (K.i (K.o (K.i (K.i K.z)))))) Gd.no [],
   .mk (unR UnOp.not (X.t (K.o (K.i (K.o (K.i (K.i K.z))))))) (Option.some (K.i (K.i (K.o (K.i (K.i K.z)))))) Gd.no []])
  (.cond (X.t (K.i (K.i (K.o (K.i (K.i K.z))))))
  (.seq (.region [.mk (mvR (X.c (AV.bool Bool.false))) (Option.some (K.i (K.o K.z))) Gd.no []])
  .ret)
  .skip))
  (.seq (.region [.mk (mvR (X.t (K.o (K.i K.z)))) (Option.some (K.i (K.o (K.i (K.i (K.i K.z)))))) Gd.no [],
   .mk (mvR (X.t (K.i (K.o (K.o K.z))))) (Option.some (K.o (K.i (K.i (K.i (K.i K.z)))))) Gd.no [],
   .mk (mvR (X.t (K.i (K.o (K.o K.z))))) (Option.some (K.i (K.i (K.i (K.i (K.i K.z)))))) Gd.no [],
   .mk (iaA 3 1 (X.t (K.i (K.i K.z))) (X.t (K.i (K.i (K.i (K.i (K.i K.z))))))) (Option.some (K.o (K.o (K.o (K.o (K.o (K.o K.z))))))) Gd.no [],
   .mk (ldR Bool.false 1 (X.t (K.o (K.o (K.o (K.o (K.o (K.o K.z)))))))) (Option.some (K.i (K.o (K.o (K.o (K.o (K.o K.z))))))) Gd.no [],
   .mk (callS Try.prog 29 [(X.t (K.i (K.o (K.i (K.i (K.i K.z)))))), (X.t (K.o (K.i (K.i (K.i (K.i K.z)))))), (X.t (K.i (K.o (K.o (K.o (K.o (K.o K.z)))))))]) (Option.some (K.o (K.i (K.o (K.o (K.o (K.o K.z))))))) Gd.no [],
   .mk (mvR (X.t (K.o (K.i (K.o (K.o (K.o (K.o K.z)))))))) (Option.some (K.o (K.o (K.i (K.i (K.i K.z)))))) Gd.no [],
   .mk (extR (X.t (K.o (K.o (K.i (K.i (K.i K.z)))))) 0) (Option.some (K.i (K.i (K.o (K.o (K.o (K.o K.z))))))) Gd.no [],
   .mk (extR (X.t (K.o (K.o (K.i (K.i (K.i K.z)))))) 1) (Option.some (K.o (K.o (K.i (K.o (K.o (K.o K.z))))))) Gd.no [],
   .mk (fun _ H => newC Bool.false [(AV.int IntKind.i64 0), (AV.str []), (AV.int IntKind.i64 0), AV.nils] H) (Option.some (K.o (K.i (K.o K.z)))) Gd.no [],
   .mk (stR 4 (X.t (K.o (K.i (K.o K.z)))) (X.t (K.i (K.i (K.o (K.o (K.o (K.o K.z)))))))) Option.none Gd.no [],
   .mk (mvR (X.t (K.o (K.o (K.i (K.o (K.o (K.o K.z)))))))) (Option.some (K.i (K.i (K.o K.z)))) Gd.no []])
  (.seq (.region [.mk (mvR (X.t (K.i (K.i (K.o K.z))))) (Option.some (K.i (K.o (K.i (K.o (K.o (K.o K.z))))))) Gd.no [],
   .mk (binR Try.prog EK.no Option.none Bool.true BinOp.neq (X.t (K.i (K.o (K.i (K.o (K.o (K.o K.z))))))) (X.c (AV.int IntKind.i64 1))) (Option.some (K.o (K.i (K.i (K.o (K.o (K.o K.z))))))) Gd.no [],
   .mk (mvR (X.t (K.o (K.i (K.i (K.o (K.o (K.o K.z)))))))) (Option.some (K.i (K.i (K.i (K.o (K.o (K.o K.z))))))) Gd.no [],
   .mk (faR 2 (X.t (K.o (K.i (K.o K.z))))) (Option.some (K.o (K.o (K.o (K.i (K.o (K.o K.z))))))) (Gd.on (K.i (K.i (K.i (K.o (K.o (K.o K.z)))))) Bool.false) [],
   .mk (ldR Bool.false 1 (X.t (K.o (K.o (K.o (K.i (K.o (K.o K.z)))))))) (Option.some (K.i (K.o (K.o (K.i (K.o (K.o K.z))))))) (Gd.on (K.i (K.i (K.i (K.o (K.o (K.o K.z)))))) Bool.false) [],
   .mk (mvR (X.t (K.o (K.o (K.o K.z))))) (Option.some (K.o (K.i (K.o (K.i (K.o (K.o K.z))))))) (Gd.on (K.i (K.i (K.i (K.o (K.o (K.o K.z)))))) Bool.false) [],
   .mk (binR Try.prog EK.no Option.none Bool.false BinOp.neq (X.t (K.i (K.o (K.o (K.i (K.o (K.o K.z))))))) (X.t (K.o (K.i (K.o (K.i (K.o (K.o K.z)))))))) (Option.some (K.i (K.i (K.o (K.i (K.o (K.o K.z))))))) (Gd.on (K.i (K.i (K.i (K.o (K.o (K.o K.z)))))) Bool.false) [],
   .mk (pickR (X.t (K.i (K.i (K.i (K.o (K.o (K.o K.z))))))) (X.c (AV.bool Bool.true)) (X.t (K.i (K.i (K.o (K.i (K.o (K.o K.z)))))))) (Option.some (K.o (K.o (K.i (K.i (K.o (K.o K.z))))))) Gd.no []])
  (.cond (X.t (K.o (K.o (K.i (K.i (K.o (K.o K.z)))))))
  (.seq (.region [.mk (mvR (X.c (AV.bool Bool.false))) (Option.some (K.i (K.o K.z))) Gd.no []])
  .ret)
  .skip))))))))
  (.region [.mk (mvR (X.t (K.o (K.o (K.o K.z))))) (Option.some (K.o (K.i (K.o (K.i K.z))))) Gd.no [],
   .mk (binR Try.prog EK.no Option.none Bool.true BinOp.add (X.t (K.o (K.i (K.o (K.i K.z))))) (X.c (AV.int IntKind.i64 1))) (Option.some (K.i (K.i (K.o (K.i K.z))))) Gd.no [],
   .mk (mvR (X.t (K.i (K.i (K.o (K.i K.z)))))) (Option.some (K.o (K.o (K.o K.z)))) Gd.no []])))
noncomputable def C8 : CC :=
  (.seq (.region [.mk (mvR (X.c (AV.bool Bool.false))) (Option.some (K.i (K.o K.z))) Gd.no []])
  (.seq (.seq (.region [.mk (callS Try.prog 25 []) (Option.some (K.i (K.o (K.o (K.o K.z))))) Gd.no [],
   .mk (unR UnOp.not (X.t (K.i (K.o (K.o (K.o K.z)))))) (Option.some (K.o (K.i (K.o (K.o K.z))))) Gd.no []])
  (.cond (X.t (K.o (K.i (K.o (K.o K.z)))))
  (.seq (.region [.mk (mvR (X.c (AV.bool Bool.false))) (Option.some (K.i (K.o K.z))) Gd.no []])
  .ret)
  .skip))
  (.seq (.seq (.region [.mk (mvR (X.t K.z)) (Option.some (K.i (K.i (K.o (K.o K.z))))) Gd.no [],
   .mk (lenR LnK.slice (X.t (K.i (K.i (K.o (K.o K.z)))))) (Option.some (K.o (K.o (K.i (K.o K.z))))) Gd.no [],
   .mk (binR Try.prog EK.no Option.none Bool.true BinOp.gtr (X.t (K.o (K.o (K.i (K.o K.z))))) (X.c (AV.int IntKind.i64 60))) (Option.some (K.i (K.o (K.i (K.o K.z))))) Gd.no []])
  (.cond (X.t (K.i (K.o (K.i (K.o K.z)))))
  (.seq (.region [.mk (mvR (X.c (AV.bool Bool.true))) (Option.some (K.i (K.o K.z))) Gd.no []])
  .ret)
  .skip))
  (.seq (.region [.mk (mvR (X.c AV.nils)) (Option.some (K.o (K.i K.z))) Gd.no []])
  (.seq (.region [.mk (fun _ H => newC Bool.true [(AV.int IntKind.i64 0), (AV.int IntKind.i64 0), (AV.int IntKind.i64 0)] H) (Option.some (K.i (K.i K.z))) Gd.no []])
  (.seq (.seq (.region [.mk (mvR (X.c (AV.int IntKind.i64 0))) (Option.some (K.o (K.o (K.o K.z)))) Gd.no []])
  (.block 0 (.loop C8L0)))
  (.seq (.region [.mk (mvR (X.t (K.o K.z))) (Option.some (K.i (K.o (K.i (K.i (K.o (K.o K.z))))))) Gd.no [],
   .mk (binR Try.prog EK.no Option.none Bool.true BinOp.rem (X.t (K.i (K.o (K.i (K.i (K.o (K.o K.z))))))) (X.c (AV.int IntKind.u8 3))) (Option.some (K.o (K.i (K.i (K.i (K.o (K.o K.z))))))) Gd.no [],
   .mk (convR (Cv.int IntKind.i64) (X.t (K.o (K.i (K.i (K.i (K.o (K.o K.z)))))))) (Option.some (K.i (K.i (K.i (K.i (K.o (K.o K.z))))))) Gd.no [],
   .mk (mvR (X.t (K.i (K.i (K.i (K.i (K.o (K.o K.z)))))))) (Option.some (K.o (K.o (K.i K.z)))) Gd.no []])
  (.seq (.region [.mk (mvR (X.t (K.o (K.i K.z)))) (Option.some (K.i (K.o (K.o (K.o (K.i (K.o K.z))))))) Gd.no [],
   .mk (mvR (X.t (K.o (K.o (K.i K.z))))) (Option.some (K.o (K.i (K.o (K.o (K.i (K.o K.z))))))) Gd.no [],
   .mk (mvR (X.t (K.o (K.o (K.i K.z))))) (Option.some (K.i (K.i (K.o (K.o (K.i (K.o K.z))))))) Gd.no [],
   .mk (iaA 3 1 (X.t (K.i (K.i K.z))) (X.t (K.i (K.i (K.o (K.o (K.i (K.o K.z)))))))) (Option.some (K.o (K.o (K.i (K.o (K.i (K.o K.z))))))) Gd.no [],
   .mk (ldR Bool.false 1 (X.t (K.o (K.o (K.i (K.o (K.i (K.o K.z)))))))) (Option.some (K.i (K.o (K.i (K.o (K.i (K.o K.z))))))) Gd.no [],
   .mk (binR Try.prog EK.no Option.none Bool.true BinOp.add (X.t (K.i (K.o (K.i (K.o (K.i (K.o K.z))))))) (X.c (AV.int IntKind.i64 1))) (Option.some (K.o (K.i (K.i (K.o (K.i (K.o K.z))))))) Gd.no [],
   .mk (callS Try.prog 29 [(X.t (K.i (K.o (K.o (K.o (K.i (K.o K.z))))))), (X.t (K.o (K.i (K.o (K.o (K.i (K.o K.z))))))), (X.t (K.o (K.i (K.i (K.o (K.i (K.o K.z)))))))]) (Option.some (K.i (K.i (K.i (K.o (K.i (K.o K.z))))))) Gd.no [],
   .mk (mvR (X.t (K.i (K.i (K.i (K.o (K.i (K.o K.z)))))))) (Option.some (K.o (K.o (K.o (K.o (K.i (K.o K.z))))))) Gd.no [],
   .mk (extR (X.t (K.o (K.o (K.o (K.o (K.i (K.o K.z))))))) 0) (Option.some (K.o (K.o (K.o (K.i (K.i (K.o K.z))))))) Gd.no [],
   .mk (extR (X.t (K.o (K.o (K.o (K.o (K.i (K.o K.z))))))) 1) (Option.some (K.i (K.o (K.o (K.i (K.i (K.o K.z))))))) Gd.no [],
   .mk (fun _ H => newC Bool.false [(AV.int IntKind.i64 0), (AV.str []), (AV.int IntKind.i64 0), AV.nils] H) (Option.some (K.i (K.o (K.i K.z)))) Gd.no [],
   .mk (stR 4 (X.t (K.i (K.o (K.i K.z)))) (X.t (K.o (K.o (K.o (K.i (K.i (K.o K.z)))))))) Option.none Gd.no [],
   .mk (mvR (X.t (K.i (K.o (K.o (K.i (K.i (K.o K.z)))))))) (Option.some (K.o (K.i (K.i K.z)))) Gd.no []])
  (.seq (.region [.mk (mvR (X.t (K.o (K.i K.z)))) (Option.some (K.i (K.i (K.o (K.i (K.i (K.o K.z))))))) Gd.no [],
   .mk (mvR (X.t (K.o (K.o (K.i K.z))))) (Option.some (K.o (K.o (K.i (K.i (K.i (K.o K.z))))))) Gd.no [],
   .mk (mvR (X.t (K.o (K.o (K.i K.z))))) (Option.some (K.i (K.o (K.i (K.i (K.i (K.o K.z))))))) Gd.no [],
   .mk (iaA 3 1 (X.t (K.i (K.i K.z))) (X.t (K.i (K.o (K.i (K.i (K.i (K.o K.z)))))))) (Option.some (K.o (K.i (K.i (K.i (K.i (K.o K.z))))))) Gd.no [],
   .mk (ldR Bool.false 1 (X.t (K.o (K.i (K.i (K.i (K.i (K.o K.z)))))))) (Option.some (K.i (K.i (K.i (K.i (K.i (K.o K.z))))))) Gd.no [],
   .mk (binR Try.prog EK.no Option.none Bool.true BinOp.sub (X.t (K.i (K.i (K.i (K.i (K.i (K.o K.z))))))) (X.c (AV.int IntKind.i64 1))) (Option.some (K.o (K.o (K.o (K.o (K.o (K.i K.z))))))) Gd.no [],
   .mk (callS Try.prog 29 [(X.t (K.i (K.i (K.o (K.i (K.i (K.o K.z))))))), (X.t (K.o (K.o (K.i (K.i (K.i (K.o K.z))))))), (X.t (K.o (K.o (K.o (K.o (K.o (K.i K.z)))))))]) (Option.some (K.i (K.o (K.o (K.o (K.o (K.i K.z))))))) Gd.no [],
   .mk (mvR (X.t (K.i (K.o (K.o (K.o (K.o (K.i K.z)))))))) (Option.some (K.o (K.i (K.o (K.i (K.i (K.o K.z))))))) Gd.no [],
   .mk (extR (X.t (K.o (K.i (K.o (K.i (K.i (K.o K.z))))))) 0) (Option.some (K.o (K.i (K.o (K.o (K.o (K.i K.z))))))) Gd.no [],
   .mk (extR (X.t (K.o (K.i (K.o (K.i (K.i (K.o K.z))))))) 1) (Option.some (K.i (K.i (K.o (K.o (K.o (K.i K.z))))))) Gd.no [],
   .mk (fun _ H => newC Bool.false [(AV.int IntKind.i64 0), (AV.str []), (AV.int IntKind.i64 0), AV.nils] H) (Option.some (K.i (K.i (K.i K.z)))) Gd.no [],
   .mk (stR 4 (X.t (K.i (K.i (K.i K.z)))) (X.t (K.o (K.i (K.o (K.o (K.o (K.i K.z)))))))) Option.none Gd.no [],
   .mk (mvR (X.t (K.i (K.i (K.o (K.o (K.o (K.i K.z)))))))) (Option.some (K.o (K.o (K.o (K.o K.z))))) Gd.no []])
  (.seq (.region [.mk (mvR (X.t (K.o (K.i (K.i K.z))))) (Option.some (K.o (K.o (K.i (K.o (K.o (K.i K.z))))))) Gd.no [],
   .mk (binR Try.prog EK.no Option.none Bool.true BinOp.eql (X.t (K.o (K.o (K.i (K.o (K.o (K.i K.z))))))) (X.c (AV.int IntKind.i64 0))) (Option.some (K.i (K.o (K.i (K.o (K.o (K.i K.z))))))) Gd.no [],
   .mk (mvR (X.t (K.i (K.o (K.i (K.o (K.o (K.i K.z)))))))) (Option.some (K.o (K.i (K.i (K.o (K.o (K.i K.z))))))) Gd.no [],
   .mk (mvR (X.t (K.o (K.o (K.i K.z))))) (Option.some (K.i (K.i (K.i (K.o (K.o (K.i K.z))))))) (Gd.on (K.o (K.i (K.i (K.o (K.o (K.i K.z)))))) Bool.true) [],
   .mk (iaA 3 1 (X.t (K.i (K.i K.z))) (X.t (K.i (K.i (K.i (K.o (K.o (K.i K.z)))))))) (Option.some (K.o (K.o (K.o (K.i (K.o (K.i K.z))))))) (Gd.on (K.o (K.i (K.i (K.o (K.o (K.i K.z)))))) Bool.true) [],
   .mk (ldR Bool.false 1 (X.t (K.o (K.o (K.o (K.i (K.o (K.i K.z)))))))) (Option.some (K.i (K.o (K.o (K.i (K.o (K.i K.z))))))) (Gd.on (K.o (K.i (K.i (K.o (K.o (K.i K.z)))))) Bool.true) [],
   .mk (binR Try.prog EK.no Option.none Bool.true BinOp.eql (X.t (K.i (K.o (K.o (K.i (K.o (K.i K.z))))))) (X.c (AV.int IntKind.i64 0))) (Option.some (K.o (K.i (K.o (K.i (K.o (K.i K.z))))))) (Gd.on (K.o (K.i (K.i (K.o (K.o (K.i K.z)))))) Bool.true) [],
   .mk (mvR (X.t (K.o (K.i (K.o (K.i (K.o (K.i K.z)))))))) (Option.some (K.i (K.i (K.o (K.i (K.o (K.i K.z))))))) (Gd.on (K.o (K.i (K.i (K.o (K.o (K.i K.z)))))) Bool.true) [],
   .mk (mvR (X.t (K.o (K.o (K.o (K.o K.z)))))) (Option.some (K.o (K.o (K.i (K.i (K.o (K.i K.z))))))) (Gd.on (K.i (K.i (K.o (K.i (K.o (K.i K.z)))))) Bool.false) [],
   .mk (binR Try.prog EK.no Option.none Bool.true BinOp.eql (X.t (K.o (K.o (K.i (K.i (K.o (K.i K.z))))))) (X.c (AV.int IntKind.i64 2))) (Option.some (K.i (K.o (K.i (K.i (K.o (K.i K.z))))))) (Gd.on (K.i (K.i (K.o (K.i (K.o (K.i K.z)))))) Bool.false) [],
   .mk (pickR (X.t (K.i (K.i (K.o (K.i (K.o (K.i K.z))))))) (X.c (AV.bool Bool.true)) (X.t (K.i (K.o (K.i (K.i (K.o (K.i K.z)))))))) (Option.some (K.o (K.i (K.i (K.i (K.o (K.i K.z))))))) (Gd.on (K.o (K.i (K.i (K.o (K.o (K.i K.z)))))) Bool.true) [],
   .mk (pickR (X.t (K.o (K.i (K.i (K.o (K.o (K.i K.z))))))) (X.t (K.o (K.i (K.i (K.i (K.o (K.i K.z))))))) (X.c (AV.bool Bool.false))) (Option.some (K.i (K.i (K.i (K.i (K.o (K.i K.z))))))) Gd.no [],
   .mk (mvR (X.t (K.i (K.i (K.i (K.i (K.o (K.i K.z)))))))) (Option.some (K.i (K.o K.z))) Gd.no []])
  .ret))))))))))
theorem C8ok : (match Try.f8.body with | some c => comp Try.prog 111 c | none => none) = some C8 := by kernel_rfl
@[go_sem] theorem call8 (args : List AV) (H : Heap) : callC Try.prog 8 args H = .call 8 args := callC_ok (by kernel_rfl) args H
theorem R8ok : resKs Try.prog Try.f8.results.toList = some [(RK.tmp (K.i (K.o K.z)))] := by kernel_rfl

end Go.Proofs
