/- The laid-out code of the functions that are walked. Printed by a program. -/
import Derived.Test.YtiadcabmonbgiaaZ11
import Derived.Test.YtiadcabmonbgiaaProg
import Derived.KernelRfl
set_option linter.all false
set_option maxRecDepth 100000
namespace Go.Proofs
open Go Go.Ev
/- 3: estuary/estuarylaw12.IndexTells -/
noncomputable def C3L0 : CC :=
  (.seq (.seq (.region [.mk (mvR (X.t (K.o (K.i (K.o (K.o K.z)))))) (Option.some (K.o (K.o (K.o (K.i (K.o (K.o K.z))))))) Gd.no [],
   .mk (mvR (X.t (K.o (K.o (K.o (K.o K.z)))))) (Option.some (K.i (K.o (K.o (K.i (K.o (K.o K.z))))))) Gd.no [],
   .mk (lenR LnK.slice (X.t (K.i (K.o (K.o (K.i (K.o (K.o K.z)))))))) (Option.some (K.o (K.i (K.o (K.i (K.o (K.o K.z))))))) Gd.no [],
   .mk (binR Try.prog EK.no Option.none Bool.false BinOp.lss (X.t (K.o (K.o (K.o (K.i (K.o (K.o K.z))))))) (X.t (K.o (K.i (K.o (K.i (K.o (K.o K.z)))))))) (Option.some (K.i (K.i (K.o (K.i (K.o (K.o K.z))))))) Gd.no []])
  (.cond (X.t (K.i (K.i (K.o (K.i (K.o (K.o K.z)))))))
  .skip
  (.exit 0)))
  (.seq (.block 1 (.seq (.regionD [.mk (keepH (mvR (X.t (K.o (K.i (K.o (K.o K.z))))))) (Option.some (K.i (K.i (K.o (K.o (K.i (K.o K.z))))))) Gd.no [],
   .mk (keepH (mvR (X.t (K.i (K.o (K.o (K.o K.z))))))) (Option.some (K.o (K.i (K.o (K.o (K.i (K.o K.z))))))) Gd.no [],
   .mk (keepH (iaS 3 (X.t (K.o (K.i (K.o (K.o (K.i (K.o K.z))))))) (X.t (K.i (K.i (K.o (K.o (K.i (K.o K.z))))))))) (Option.some (K.o (K.o (K.i (K.o (K.i (K.o K.z))))))) Gd.no [],
   .mk (keepH (ldR Bool.true 3 (X.t (K.o (K.o (K.i (K.o (K.i (K.o K.z))))))))) (Option.some (K.i (K.o (K.i (K.o (K.i (K.o K.z))))))) Gd.no [],
   .mk (keepH (mvR (X.t (K.o (K.i (K.o (K.o K.z))))))) (Option.some (K.i (K.i (K.i (K.i (K.o (K.o K.z))))))) Gd.no [],
   .mk (keepH (mvR (X.t (K.o (K.o (K.o (K.o K.z))))))) (Option.some (K.o (K.i (K.i (K.i (K.o (K.o K.z))))))) Gd.no [],
   .mk (keepH (iaS 3 (X.t (K.o (K.i (K.i (K.i (K.o (K.o K.z))))))) (X.t (K.i (K.i (K.i (K.i (K.o (K.o K.z))))))))) (Option.some (K.o (K.o (K.o (K.o (K.i (K.o K.z))))))) Gd.no [],
   .mk (keepH (ldR Bool.true 3 (X.t (K.o (K.o (K.o (K.o (K.i (K.o K.z))))))))) (Option.some (K.i (K.o (K.o (K.o (K.i (K.o K.z))))))) Gd.no [],
   .mk (keepH (binR Try.prog EK.no (Option.some [LK.str, LK.str, LK.int]) Bool.false BinOp.neq (X.t (K.i (K.o (K.o (K.o (K.i (K.o K.z))))))) (X.t (K.i (K.o (K.i (K.o (K.i (K.o K.z))))))))) (Option.some (K.o (K.i (K.i (K.o (K.i (K.o K.z))))))) Gd.no []])
  (.cond (X.t (K.o (K.i (K.i (K.o (K.i (K.o K.z)))))))
  (.seq (.region [.mk (mvR (X.c (AV.bool Bool.false))) (Option.some (K.i (K.i (K.o K.z)))) Gd.no []])
  .ret)
  .skip)))
  (.region [.mk (mvR (X.t (K.o (K.i (K.o (K.o K.z)))))) (Option.some (K.o (K.o (K.i (K.i (K.o (K.o K.z))))))) Gd.no [],
   .mk (binR Try.prog EK.no Option.none Bool.true BinOp.add (X.t (K.o (K.o (K.i (K.i (K.o (K.o K.z))))))) (X.c (AV.int IntKind.i64 1))) (Option.some (K.i (K.o (K.i (K.i (K.o (K.o K.z))))))) Gd.no [],
   .mk (mvR (X.t (K.i (K.o (K.i (K.i (K.o (K.o K.z)))))))) (Option.some (K.o (K.i (K.o (K.o K.z))))) Gd.no []])))
noncomputable def C3 : CC :=
  (.seq (.region [.mk (boxR Bool.false (X.t (K.o K.z))) (Option.some (K.i (K.i K.z))) Gd.no [],
   .mk (boxR Bool.false (X.t (K.o (K.o K.z)))) (Option.some (K.i (K.o (K.o K.z)))) Gd.no [],
   .mk (mvR (X.c (AV.bool Bool.false))) (Option.some (K.i (K.i (K.o K.z)))) Gd.no []])
  (.seq (.seq (.region [.mk (callS Try.prog 11 []) (Option.some (K.i (K.i (K.o (K.o K.z))))) Gd.no [],
   .mk (unR UnOp.not (X.t (K.i (K.i (K.o (K.o K.z)))))) (Option.some (K.o (K.o (K.i (K.o K.z))))) Gd.no []])
  (.cond (X.t (K.o (K.o (K.i (K.o K.z)))))
  (.seq (.region [.mk (mvR (X.c (AV.bool Bool.false))) (Option.some (K.i (K.i (K.o K.z)))) Gd.no []])
  .ret)
  .skip))
  (.seq (.seq (.region [.mk (mvR (X.t K.z)) (Option.some (K.i (K.o (K.i (K.o K.z))))) Gd.no [],
   .mk (callS Try.prog 12 [(X.t (K.i (K.o (K.i (K.o K.z)))))]) (Option.some (K.o (K.i (K.i (K.o K.z))))) Gd.no [],
   .mk (unR UnOp.not (X.t (K.o (K.i (K.i (K.o K.z)))))) (Option.some (K.i (K.i (K.i (K.o K.z))))) Gd.no [],
   .mk (mvR (X.t (K.i (K.i (K.i (K.o K.z)))))) (Option.some (K.o (K.o (K.o (K.i K.z))))) Gd.no [],
   .mk (ldR Bool.true 5 (X.t (K.i (K.i K.z)))) (Option.some (K.i (K.o (K.o (K.i K.z))))) (Gd.on (K.o (K.o (K.o (K.i K.z)))) Bool.false) [],
   .mk (bslR 5 1 [(AV.str []), (AV.str []), (AV.int IntKind.i64 0), (AV.bool Bool.false), (AV.int IntKind.i64 0)] [(0, (X.t (K.i (K.o (K.o (K.i K.z))))))]) (Option.some (K.o (K.i (K.o (K.i K.z))))) (Gd.on (K.o (K.o (K.o (K.i K.z)))) Bool.false) [],
   .mk (callS Try.prog 12 [(X.t (K.o (K.i (K.o (K.i K.z)))))]) (Option.some (K.i (K.i (K.o (K.i K.z))))) (Gd.on (K.o (K.o (K.o (K.i K.z)))) Bool.false) [],
   .mk (unR UnOp.not (X.t (K.i (K.i (K.o (K.i K.z)))))) (Option.some (K.o (K.o (K.i (K.i K.z))))) (Gd.on (K.o (K.o (K.o (K.i K.z)))) Bool.false) [],
   .mk (pickR (X.t (K.o (K.o (K.o (K.i K.z))))) (X.c (AV.bool Bool.true)) (X.t (K.o (K.o (K.i (K.i K.z)))))) (Option.some (K.i (K.o (K.i (K.i K.z))))) Gd.no [],
   .mk (mvR (X.t (K.i (K.o (K.i (K.i K.z)))))) (Option.some (K.o (K.i (K.i (K.i K.z))))) Gd.no [],
   .mk (mvR (X.t (K.i K.z))) (Option.some (K.i (K.i (K.i (K.i K.z))))) (Gd.on (K.o (K.i (K.i (K.i K.z)))) Bool.false) [],
   .mk (lenR LnK.str (X.t (K.i (K.i (K.i (K.i K.z)))))) (Option.some (K.o (K.o (K.o (K.o (K.o K.z)))))) (Gd.on (K.o (K.i (K.i (K.i K.z)))) Bool.false) [],
   .mk (binR Try.prog EK.no Option.none Bool.true BinOp.gtr (X.t (K.o (K.o (K.o (K.o (K.o K.z)))))) (X.c (AV.int IntKind.i64 20))) (Option.some (K.i (K.o (K.o (K.o (K.o K.z)))))) (Gd.on (K.o (K.i (K.i (K.i K.z)))) Bool.false) [],
   .mk (pickR (X.t (K.o (K.i (K.i (K.i K.z))))) (X.c (AV.bool Bool.true)) (X.t (K.i (K.o (K.o (K.o (K.o K.z))))))) (Option.some (K.o (K.i (K.o (K.o (K.o K.z)))))) Gd.no [],
   .mk (mvR (X.t (K.o (K.i (K.o (K.o (K.o K.z))))))) (Option.some (K.i (K.i (K.o (K.o (K.o K.z)))))) Gd.no [],
   .mk (faR 0 (X.t (K.i (K.o (K.o K.z))))) (Option.some (K.o (K.o (K.i (K.o (K.o K.z)))))) (Gd.on (K.i (K.i (K.o (K.o (K.o K.z))))) Bool.false) [],
   .mk (ldR Bool.false 1 (X.t (K.o (K.o (K.i (K.o (K.o K.z))))))) (Option.some (K.i (K.o (K.i (K.o (K.o K.z)))))) (Gd.on (K.i (K.i (K.o (K.o (K.o K.z))))) Bool.false) [],
   .mk (lenR LnK.str (X.t (K.i (K.o (K.i (K.o (K.o K.z))))))) (Option.some (K.o (K.i (K.i (K.o (K.o K.z)))))) (Gd.on (K.i (K.i (K.o (K.o (K.o K.z))))) Bool.false) [],
   .mk (binR Try.prog EK.no Option.none Bool.true BinOp.gtr (X.t (K.o (K.i (K.i (K.o (K.o K.z)))))) (X.c (AV.int IntKind.i64 20))) (Option.some (K.i (K.i (K.i (K.o (K.o K.z)))))) (Gd.on (K.i (K.i (K.o (K.o (K.o K.z))))) Bool.false) [],
   .mk (pickR (X.t (K.i (K.i (K.o (K.o (K.o K.z)))))) (X.c (AV.bool Bool.true)) (X.t (K.i (K.i (K.i (K.o (K.o K.z))))))) (Option.some (K.o (K.o (K.o (K.i (K.o K.z)))))) Gd.no [],
   .mk (mvR (X.t (K.o (K.o (K.o (K.i (K.o K.z))))))) (Option.some (K.i (K.o (K.o (K.i (K.o K.z)))))) Gd.no [],
   .mk (faR 1 (X.t (K.i (K.o (K.o K.z))))) (Option.some (K.o (K.i (K.o (K.i (K.o K.z)))))) (Gd.on (K.i (K.o (K.o (K.i (K.o K.z))))) Bool.false) [],
   .mk (ldR Bool.false 1 (X.t (K.o (K.i (K.o (K.i (K.o K.z))))))) (Option.some (K.i (K.i (K.o (K.i (K.o K.z)))))) (Gd.on (K.i (K.o (K.o (K.i (K.o K.z))))) Bool.false) [],
   .mk (lenR LnK.str (X.t (K.i (K.i (K.o (K.i (K.o K.z))))))) (Option.some (K.o (K.o (K.i (K.i (K.o K.z)))))) (Gd.on (K.i (K.o (K.o (K.i (K.o K.z))))) Bool.false) [],
   .mk (binR Try.prog EK.no Option.none Bool.true BinOp.gtr (X.t (K.o (K.o (K.i (K.i (K.o K.z)))))) (X.c (AV.int IntKind.i64 20))) (Option.some (K.i (K.o (K.i (K.i (K.o K.z)))))) (Gd.on (K.i (K.o (K.o (K.i (K.o K.z))))) Bool.false) [],
   .mk (pickR (X.t (K.i (K.o (K.o (K.i (K.o K.z)))))) (X.c (AV.bool Bool.true)) (X.t (K.i (K.o (K.i (K.i (K.o K.z))))))) (Option.some (K.o (K.i (K.i (K.i (K.o K.z)))))) Gd.no []])
  (.cond (X.t (K.o (K.i (K.i (K.i (K.o K.z))))))
  (.seq (.region [.mk (mvR (X.c (AV.bool Bool.true))) (Option.some (K.i (K.i (K.o K.z)))) Gd.no []])
  .ret)
  .skip))
  (.seq (.region [.mk (mvR (X.t K.z)) (Option.some (K.o (K.o (K.o (K.o (K.i K.z)))))) Gd.no [],
   .mk (mvR (X.t (K.i K.z))) (Option.some (K.i (K.o (K.o (K.o (K.i K.z)))))) Gd.no [],
   .mk (callS Try.prog 13 [(X.t (K.o (K.o (K.o (K.o (K.i K.z)))))), (X.t (K.i (K.o (K.o (K.o (K.i K.z))))))]) (Option.some (K.o (K.i (K.o (K.o (K.i K.z)))))) Gd.no [],
   .mk (mvR (X.t (K.o (K.i (K.o (K.o (K.i K.z))))))) (Option.some (K.i (K.i (K.i (K.i (K.o K.z)))))) Gd.no [],
   .mk (extR (X.t (K.i (K.i (K.i (K.i (K.o K.z)))))) 0) (Option.some (K.i (K.i (K.o (K.o (K.i K.z)))))) Gd.no [],
   .mk (extR (X.t (K.i (K.i (K.i (K.i (K.o K.z)))))) 1) (Option.some (K.o (K.o (K.i (K.o (K.i K.z)))))) Gd.no [],
   .mk (fun _ H => newC Bool.false [(AV.str []), (AV.str []), (AV.int IntKind.i64 0), (AV.bool Bool.false), (AV.int IntKind.i64 0)] H) (Option.some (K.o (K.o (K.i K.z)))) Gd.no [],
   .mk (stR 5 (X.t (K.o (K.o (K.i K.z)))) (X.t (K.i (K.i (K.o (K.o (K.i K.z))))))) Option.none Gd.no [],
   .mk (mvR (X.t (K.o (K.o (K.i (K.o (K.i K.z))))))) (Option.some (K.i (K.o (K.i K.z)))) Gd.no []])
  (.seq (.region [.mk (mvR (X.t K.z)) (Option.some (K.o (K.i (K.i (K.o (K.i K.z)))))) Gd.no [],
   .mk (mvR (X.t (K.i K.z))) (Option.some (K.i (K.i (K.i (K.o (K.i K.z)))))) Gd.no [],
   .mk (callS Try.prog 14 [(X.t (K.o (K.i (K.i (K.o (K.i K.z)))))), (X.t (K.i (K.i (K.i (K.o (K.i K.z))))))]) (Option.some (K.o (K.o (K.o (K.i (K.i K.z)))))) Gd.no [],
   .mk (mvR (X.t (K.o (K.o (K.o (K.i (K.i K.z))))))) (Option.some (K.i (K.o (K.i (K.o (K.i K.z)))))) Gd.no [],
   .mk (extR (X.t (K.i (K.o (K.i (K.o (K.i K.z)))))) 0) (Option.some (K.i (K.o (K.o (K.i (K.i K.z)))))) Gd.no [],
   .mk (extR (X.t (K.i (K.o (K.i (K.o (K.i K.z)))))) 1) (Option.some (K.o (K.i (K.o (K.i (K.i K.z)))))) Gd.no [],
   .mk (fun _ H => newC Bool.false [(AV.str []), (AV.str []), (AV.int IntKind.i64 0), (AV.bool Bool.false), (AV.int IntKind.i64 0)] H) (Option.some (K.o (K.i (K.i K.z)))) Gd.no [],
   .mk (stR 5 (X.t (K.o (K.i (K.i K.z)))) (X.t (K.i (K.o (K.o (K.i (K.i K.z))))))) Option.none Gd.no [],
   .mk (mvR (X.t (K.o (K.i (K.o (K.i (K.i K.z))))))) (Option.some (K.i (K.i (K.i K.z)))) Gd.no []])
  (.seq (.regionD [.mk (keepH (mvR (X.t (K.i (K.o K.z))))) (Option.some (K.i (K.o (K.o (K.o (K.o (K.o K.z))))))) Gd.no [],
   .mk (keepH (ldR Bool.true 2 (X.t (K.i (K.o (K.o K.z)))))) (Option.some (K.o (K.o (K.o (K.o (K.o (K.o K.z))))))) Gd.no [],
   .mk (keepH (mvR (X.t K.z))) (Option.some (K.i (K.i (K.i (K.i (K.i K.z)))))) Gd.no [],
   .mk (keepH (mvR (X.t (K.i (K.o K.z))))) (Option.some (K.i (K.o (K.i (K.i (K.i K.z)))))) Gd.no [],
   .mk (keepH (ldR Bool.true 2 (X.t (K.i (K.o (K.o K.z)))))) (Option.some (K.o (K.o (K.i (K.i (K.i K.z)))))) Gd.no [],
   .mk (keepH (mvR (X.t K.z))) (Option.some (K.i (K.i (K.o (K.i (K.i K.z)))))) Gd.no [],
   .mk (callS Try.prog 15 [(X.t (K.i (K.i (K.o (K.i (K.i K.z)))))), (X.t (K.o (K.o (K.i (K.i (K.i K.z)))))), (X.t (K.i (K.o (K.i (K.i (K.i K.z))))))]) (Option.some (K.o (K.i (K.i (K.i (K.i K.z)))))) Gd.no [.mk (mvR (X.t K.z)) (Option.some (K.i (K.i (K.i (K.i (K.i K.z)))))) Gd.no, .mk (ldR Bool.true 2 (X.t (K.i (K.o (K.o K.z))))) (Option.some (K.o (K.o (K.o (K.o (K.o (K.o K.z))))))) Gd.no, .mk (mvR (X.t (K.i (K.o K.z)))) (Option.some (K.i (K.o (K.o (K.o (K.o (K.o K.z))))))) Gd.no],
   .mk (callS Try.prog 16 [(X.t (K.i (K.i (K.i (K.i (K.i K.z)))))), (X.t (K.o (K.o (K.o (K.o (K.o (K.o K.z))))))), (X.t (K.i (K.o (K.o (K.o (K.o (K.o K.z)))))))]) (Option.some (K.o (K.i (K.o (K.o (K.o (K.o K.z))))))) Gd.no [],
   .mk (mvR (X.t (K.o (K.i (K.i (K.i (K.i K.z))))))) (Option.some (K.o (K.o (K.o (K.o K.z))))) Gd.no [],
   .mk (mvR (X.t (K.o (K.i (K.o (K.o (K.o (K.o K.z)))))))) (Option.some (K.i (K.o (K.o (K.o K.z))))) Gd.no []])
  (.seq (.seq (.region [.mk (mvR (X.t (K.o (K.o (K.o (K.o K.z)))))) (Option.some (K.i (K.i (K.o (K.o (K.o (K.o K.z))))))) Gd.no [],
   .mk (lenR LnK.slice (X.t (K.i (K.i (K.o (K.o (K.o (K.o K.z)))))))) (Option.some (K.o (K.o (K.i (K.o (K.o (K.o K.z))))))) Gd.no [],
   .mk (mvR (X.t (K.i (K.o (K.o (K.o K.z)))))) (Option.some (K.i (K.o (K.i (K.o (K.o (K.o K.z))))))) Gd.no [],
   .mk (lenR LnK.slice (X.t (K.i (K.o (K.i (K.o (K.o (K.o K.z)))))))) (Option.some (K.o (K.i (K.i (K.o (K.o (K.o K.z))))))) Gd.no [],
   .mk (binR Try.prog EK.no Option.none Bool.false BinOp.neq (X.t (K.o (K.o (K.i (K.o (K.o (K.o K.z))))))) (X.t (K.o (K.i (K.i (K.o (K.o (K.o K.z)))))))) (Option.some (K.i (K.i (K.i (K.o (K.o (K.o K.z))))))) Gd.no []])
  (.cond (X.t (K.i (K.i (K.i (K.o (K.o (K.o K.z)))))))
  (.seq (.region [.mk (mvR (X.c (AV.bool Bool.false))) (Option.some (K.i (K.i (K.o K.z)))) Gd.no []])
  .ret)
  .skip))
  (.seq (.seq (.region [.mk (mvR (X.c (AV.int IntKind.i64 0))) (Option.some (K.o (K.i (K.o (K.o K.z))))) Gd.no []])
  (.block 0 (.loop C3L0)))
  (.seq (.seq (.regionD [.mk (keepH (mvR (X.t K.z))) (Option.some (K.i (K.o (K.o (K.i (K.i (K.o K.z))))))) Gd.no [],
   .mk (keepH (mvR (X.t K.z))) (Option.some (K.i (K.i (K.i (K.o (K.i (K.o K.z))))))) Gd.no [],
   .mk (callS Try.prog 17 [(X.t (K.i (K.i (K.i (K.o (K.i (K.o K.z)))))))]) (Option.some (K.o (K.o (K.o (K.i (K.i (K.o K.z))))))) Gd.no [.mk (mvR (X.t K.z)) (Option.some (K.i (K.o (K.o (K.i (K.i (K.o K.z))))))) Gd.no],
   .mk (callS Try.prog 18 [(X.t (K.i (K.o (K.o (K.i (K.i (K.o K.z)))))))]) (Option.some (K.o (K.i (K.o (K.i (K.i (K.o K.z))))))) Gd.no [],
   .mk (keepH (binR Try.prog EK.bool Option.none Bool.false BinOp.neq (X.t (K.o (K.o (K.o (K.i (K.i (K.o K.z))))))) (X.t (K.o (K.i (K.o (K.i (K.i (K.o K.z))))))))) (Option.some (K.i (K.i (K.o (K.i (K.i (K.o K.z))))))) Gd.no [],
   .mk (keepH (mvR (X.t (K.i (K.i (K.o (K.i (K.i (K.o K.z))))))))) (Option.some (K.o (K.o (K.i (K.i (K.i (K.o K.z))))))) Gd.no [],
   .mk (keepH (ldR Bool.true 2 (X.t (K.i (K.o (K.o K.z)))))) (Option.some (K.i (K.o (K.o (K.o (K.o (K.i K.z))))))) (Gd.on (K.o (K.o (K.i (K.i (K.i (K.o K.z)))))) Bool.false) [],
   .mk (keepH (mvR (X.t K.z))) (Option.some (K.o (K.o (K.o (K.o (K.o (K.i K.z))))))) (Gd.on (K.o (K.o (K.i (K.i (K.i (K.o K.z)))))) Bool.false) [],
   .mk (keepH (ldR Bool.true 2 (X.t (K.i (K.o (K.o K.z)))))) (Option.some (K.o (K.i (K.i (K.i (K.i (K.o K.z))))))) (Gd.on (K.o (K.o (K.i (K.i (K.i (K.o K.z)))))) Bool.false) [],
   .mk (keepH (mvR (X.t K.z))) (Option.some (K.i (K.o (K.i (K.i (K.i (K.o K.z))))))) (Gd.on (K.o (K.o (K.i (K.i (K.i (K.o K.z)))))) Bool.false) [],
   .mk (callS Try.prog 20 [(X.t (K.i (K.o (K.i (K.i (K.i (K.o K.z))))))), (X.t (K.o (K.i (K.i (K.i (K.i (K.o K.z)))))))]) (Option.some (K.i (K.i (K.i (K.i (K.i (K.o K.z))))))) (Gd.on (K.o (K.o (K.i (K.i (K.i (K.o K.z)))))) Bool.false) [.mk (mvR (X.t K.z)) (Option.some (K.o (K.o (K.o (K.o (K.o (K.i K.z))))))) (Gd.on (K.o (K.o (K.i (K.i (K.i (K.o K.z)))))) Bool.false), .mk (ldR Bool.true 2 (X.t (K.i (K.o (K.o K.z))))) (Option.some (K.i (K.o (K.o (K.o (K.o (K.i K.z))))))) (Gd.on (K.o (K.o (K.i (K.i (K.i (K.o K.z)))))) Bool.false)],
   .mk (callS Try.prog 21 [(X.t (K.o (K.o (K.o (K.o (K.o (K.i K.z))))))), (X.t (K.i (K.o (K.o (K.o (K.o (K.i K.z)))))))]) (Option.some (K.o (K.i (K.o (K.o (K.o (K.i K.z))))))) (Gd.on (K.o (K.o (K.i (K.i (K.i (K.o K.z)))))) Bool.false) [],
   .mk (callS Try.prog 19 [(X.t (K.i (K.i (K.i (K.i (K.i (K.o K.z))))))), (X.t (K.o (K.i (K.o (K.o (K.o (K.i K.z)))))))]) (Option.some (K.i (K.i (K.o (K.o (K.o (K.i K.z))))))) (Gd.on (K.o (K.o (K.i (K.i (K.i (K.o K.z)))))) Bool.false) [],
   .mk (keepH (unR UnOp.not (X.t (K.i (K.i (K.o (K.o (K.o (K.i K.z))))))))) (Option.some (K.o (K.o (K.i (K.o (K.o (K.i K.z))))))) (Gd.on (K.o (K.o (K.i (K.i (K.i (K.o K.z)))))) Bool.false) [],
   .mk (keepH (pickR (X.t (K.o (K.o (K.i (K.i (K.i (K.o K.z))))))) (X.c (AV.bool Bool.true)) (X.t (K.o (K.o (K.i (K.o (K.o (K.i K.z))))))))) (Option.some (K.i (K.o (K.i (K.o (K.o (K.i K.z))))))) Gd.no []])
  (.cond (X.t (K.i (K.o (K.i (K.o (K.o (K.i K.z)))))))
  (.seq (.region [.mk (mvR (X.c (AV.bool Bool.false))) (Option.some (K.i (K.i (K.o K.z)))) Gd.no []])
  .ret)
  .skip))
  (.seq (.regionD [.mk (keepH (mvR (X.t K.z))) (Option.some (K.o (K.i (K.i (K.o (K.o (K.i K.z))))))) Gd.no [],
   .mk (callS Try.prog 18 [(X.t (K.o (K.i (K.i (K.o (K.o (K.i K.z)))))))]) (Option.some (K.i (K.i (K.i (K.o (K.o (K.i K.z))))))) Gd.no [],
   .mk (keepH (unR UnOp.not (X.t (K.i (K.i (K.i (K.o (K.o (K.i K.z))))))))) (Option.some (K.o (K.o (K.o (K.i (K.o (K.i K.z))))))) Gd.no [],
   .mk (keepH (mvR (X.t (K.o (K.o (K.o (K.i (K.o (K.i K.z))))))))) (Option.some (K.i (K.o (K.o (K.i (K.o (K.i K.z))))))) Gd.no [],
   .mk (keepH (ldR Bool.true 5 (X.t (K.o (K.i (K.i K.z)))))) (Option.some (K.i (K.i (K.o (K.i (K.o (K.i K.z))))))) (Gd.on (K.i (K.o (K.o (K.i (K.o (K.i K.z)))))) Bool.false) [],
   .mk (keepH (ldR Bool.true 5 (X.t (K.o (K.o (K.i K.z)))))) (Option.some (K.o (K.i (K.o (K.i (K.o (K.i K.z))))))) (Gd.on (K.i (K.o (K.o (K.i (K.o (K.i K.z)))))) Bool.false) [],
   .mk (keepH (binR Try.prog EK.no (Option.some [LK.str, LK.str, LK.int, LK.bool, LK.int]) Bool.false BinOp.eql (X.t (K.o (K.i (K.o (K.i (K.o (K.i K.z))))))) (X.t (K.i (K.i (K.o (K.i (K.o (K.i K.z))))))))) (Option.some (K.o (K.o (K.i (K.i (K.o (K.i K.z))))))) (Gd.on (K.i (K.o (K.o (K.i (K.o (K.i K.z)))))) Bool.false) [],
   .mk (keepH (mvR (X.t (K.o (K.o (K.i (K.i (K.o (K.i K.z))))))))) (Option.some (K.i (K.o (K.i (K.i (K.o (K.i K.z))))))) (Gd.on (K.i (K.o (K.o (K.i (K.o (K.i K.z)))))) Bool.false) [],
   .mk (keepH (mvR (X.t (K.i (K.i (K.i K.z)))))) (Option.some (K.i (K.i (K.i (K.i (K.o (K.i K.z))))))) (Gd.on (K.i (K.o (K.i (K.i (K.o (K.i K.z)))))) Bool.true) [],
   .mk (keepH (mvR (X.t (K.i (K.o (K.i K.z)))))) (Option.some (K.o (K.i (K.i (K.i (K.o (K.i K.z))))))) (Gd.on (K.i (K.o (K.i (K.i (K.o (K.i K.z)))))) Bool.true) [],
   .mk (keepH (binR Try.prog EK.bool Option.none Bool.false BinOp.eql (X.t (K.o (K.i (K.i (K.i (K.o (K.i K.z))))))) (X.t (K.i (K.i (K.i (K.i (K.o (K.i K.z))))))))) (Option.some (K.o (K.o (K.o (K.o (K.i (K.i K.z))))))) (Gd.on (K.i (K.o (K.i (K.i (K.o (K.i K.z)))))) Bool.true) [],
   .mk (keepH (pickR (X.t (K.i (K.o (K.i (K.i (K.o (K.i K.z))))))) (X.t (K.o (K.o (K.o (K.o (K.i (K.i K.z))))))) (X.c (AV.bool Bool.false)))) (Option.some (K.i (K.o (K.o (K.o (K.i (K.i K.z))))))) (Gd.on (K.i (K.o (K.o (K.i (K.o (K.i K.z)))))) Bool.false) [],
   .mk (keepH (mvR (X.t (K.i (K.o (K.o (K.o (K.i (K.i K.z))))))))) (Option.some (K.o (K.i (K.o (K.o (K.i (K.i K.z))))))) (Gd.on (K.i (K.o (K.o (K.i (K.o (K.i K.z)))))) Bool.false) [],
   .mk (keepH (ldR Bool.true 5 (X.t (K.i (K.i K.z))))) (Option.some (K.i (K.i (K.i (K.o (K.i (K.i K.z))))))) (Gd.on (K.o (K.i (K.o (K.o (K.i (K.i K.z)))))) Bool.true) [],
   .mk (keepH (mvR (X.t K.z))) (Option.some (K.o (K.i (K.i (K.o (K.i (K.i K.z))))))) (Gd.on (K.o (K.i (K.o (K.o (K.i (K.i K.z)))))) Bool.true) [],
   .mk (keepH (ldR Bool.true 5 (X.t (K.i (K.i K.z))))) (Option.some (K.o (K.o (K.i (K.o (K.i (K.i K.z))))))) (Gd.on (K.o (K.i (K.o (K.o (K.i (K.i K.z)))))) Bool.true) [],
   .mk (keepH (mvR (X.t K.z))) (Option.some (K.i (K.i (K.o (K.o (K.i (K.i K.z))))))) (Gd.on (K.o (K.i (K.o (K.o (K.i (K.i K.z)))))) Bool.true) [],
   .mk (callS Try.prog 22 [(X.t (K.i (K.i (K.o (K.o (K.i (K.i K.z))))))), (X.t (K.o (K.o (K.i (K.o (K.i (K.i K.z)))))))]) (Option.some (K.i (K.o (K.i (K.o (K.i (K.i K.z))))))) (Gd.on (K.o (K.i (K.o (K.o (K.i (K.i K.z)))))) Bool.true) [.mk (mvR (X.t K.z)) (Option.some (K.o (K.i (K.i (K.o (K.i (K.i K.z))))))) (Gd.on (K.o (K.i (K.o (K.o (K.i (K.i K.z)))))) Bool.true), .mk (ldR Bool.true 5 (X.t (K.i (K.i K.z)))) (Option.some (K.i (K.i (K.i (K.o (K.i (K.i K.z))))))) (Gd.on (K.o (K.i (K.o (K.o (K.i (K.i K.z)))))) Bool.true)],
   .mk (callS Try.prog 23 [(X.t (K.o (K.i (K.i (K.o (K.i (K.i K.z))))))), (X.t (K.i (K.i (K.i (K.o (K.i (K.i K.z)))))))]) (Option.some (K.o (K.o (K.o (K.i (K.i (K.i K.z))))))) (Gd.on (K.o (K.i (K.o (K.o (K.i (K.i K.z)))))) Bool.true) [],
   .mk (callS Try.prog 19 [(X.t (K.i (K.o (K.i (K.o (K.i (K.i K.z))))))), (X.t (K.o (K.o (K.o (K.i (K.i (K.i K.z)))))))]) (Option.some (K.i (K.o (K.o (K.i (K.i (K.i K.z))))))) (Gd.on (K.o (K.i (K.o (K.o (K.i (K.i K.z)))))) Bool.true) [],
   .mk (keepH (pickR (X.t (K.o (K.i (K.o (K.o (K.i (K.i K.z))))))) (X.t (K.i (K.o (K.o (K.i (K.i (K.i K.z))))))) (X.c (AV.bool Bool.false)))) (Option.some (K.o (K.i (K.o (K.i (K.i (K.i K.z))))))) (Gd.on (K.i (K.o (K.o (K.i (K.o (K.i K.z)))))) Bool.false) [],
   .mk (keepH (pickR (X.t (K.i (K.o (K.o (K.i (K.o (K.i K.z))))))) (X.c (AV.bool Bool.true)) (X.t (K.o (K.i (K.o (K.i (K.i (K.i K.z))))))))) (Option.some (K.i (K.i (K.o (K.i (K.i (K.i K.z))))))) Gd.no [],
   .mk (mvR (X.t (K.i (K.i (K.o (K.i (K.i (K.i K.z)))))))) (Option.some (K.i (K.i (K.o K.z)))) Gd.no []])
  .ret))))))))))
theorem C3ok : (match Try.f3.body with | some c => comp Try.prog 123 c | none => none) = some C3 := by kernel_rfl
@[go_sem] theorem call3 (args : List AV) (H : Heap) : callC Try.prog 3 args H = .call 3 args := callC_ok (by kernel_rfl) args H
theorem R3ok : resKs Try.prog Try.f3.results.toList = some [(RK.tmp (K.i (K.i (K.o K.z))))] := by kernel_rfl

/- 4: estuary/estuarylaw12.IndexBuilds -/
noncomputable def C4L0 : CC :=
  (.seq (.seq (.region [.mk (mvR (X.t (K.i (K.o K.z)))) (Option.some (K.i (K.o (K.o (K.o K.z))))) Gd.no [],
   .mk (mvR (X.t K.z)) (Option.some (K.o (K.i (K.o (K.o K.z))))) Gd.no [],
   .mk (lenR LnK.slice (X.t (K.o (K.i (K.o (K.o K.z)))))) (Option.some (K.i (K.i (K.o (K.o K.z))))) Gd.no [],
   .mk (binR Try.prog EK.no Option.none Bool.false BinOp.lss (X.t (K.i (K.o (K.o (K.o K.z))))) (X.t (K.i (K.i (K.o (K.o K.z)))))) (Option.some (K.o (K.o (K.i (K.o K.z))))) Gd.no []])
  (.cond (X.t (K.o (K.o (K.i (K.o K.z)))))
  .skip
  (.exit 0)))
  (.seq (.block 1 (.region [.mk (mvR (X.t (K.o (K.o K.z)))) (Option.some (K.i (K.i (K.i (K.o K.z))))) Gd.no [],
   .mk (mvR (X.t K.z)) (Option.some (K.o (K.o (K.o (K.i K.z))))) Gd.no [],
   .mk (mvR (X.t (K.i (K.o K.z)))) (Option.some (K.i (K.o (K.o (K.i K.z))))) Gd.no [],
   .mk (iaS 5 (X.t (K.o (K.o (K.o (K.i K.z))))) (X.t (K.i (K.o (K.o (K.i K.z)))))) (Option.some (K.o (K.i (K.o (K.i K.z))))) Gd.no [],
   .mk (ldR Bool.true 5 (X.t (K.o (K.i (K.o (K.i K.z)))))) (Option.some (K.i (K.i (K.o (K.i K.z))))) Gd.no [],
   .mk (callS Try.prog 22 [(X.t (K.i (K.i (K.i (K.o K.z))))), (X.t (K.i (K.i (K.o (K.i K.z)))))]) (Option.some (K.o (K.o (K.i (K.i K.z))))) Gd.no [],
   .mk (mvR (X.t (K.o (K.o (K.i (K.i K.z)))))) (Option.some (K.o (K.o K.z))) Gd.no []]))
  (.region [.mk (mvR (X.t (K.i (K.o K.z)))) (Option.some (K.i (K.o (K.i (K.o K.z))))) Gd.no [],
   .mk (binR Try.prog EK.no Option.none Bool.true BinOp.add (X.t (K.i (K.o (K.i (K.o K.z))))) (X.c (AV.int IntKind.i64 1))) (Option.some (K.o (K.i (K.i (K.o K.z))))) Gd.no [],
   .mk (mvR (X.t (K.o (K.i (K.i (K.o K.z)))))) (Option.some (K.i (K.o K.z))) Gd.no []])))
noncomputable def C4L1 : CC :=
  (.seq (.seq (.region [.mk (mvR (X.t (K.i (K.o (K.o K.z))))) (Option.some (K.o (K.o (K.o (K.i (K.o K.z)))))) Gd.no [],
   .mk (mvR (X.t K.z)) (Option.some (K.i (K.o (K.o (K.i (K.o K.z)))))) Gd.no [],
   .mk (lenR LnK.slice (X.t (K.i (K.o (K.o (K.i (K.o K.z))))))) (Option.some (K.o (K.i (K.o (K.i (K.o K.z)))))) Gd.no [],
   .mk (binR Try.prog EK.no Option.none Bool.false BinOp.lss (X.t (K.o (K.o (K.o (K.i (K.o K.z)))))) (X.t (K.o (K.i (K.o (K.i (K.o K.z))))))) (Option.some (K.i (K.i (K.o (K.i (K.o K.z)))))) Gd.no []])
  (.cond (X.t (K.i (K.i (K.o (K.i (K.o K.z))))))
  .skip
  (.exit 4)))
  (.seq (.block 5 (.regionD [.mk (keepH (mvR (X.t (K.o (K.o (K.o K.z)))))) (Option.some (K.o (K.i (K.i (K.i (K.o K.z)))))) Gd.no [],
   .mk (keepH (mvR (X.t (K.o (K.i (K.i (K.i (K.o K.z)))))))) (Option.some (K.i (K.i (K.i (K.i (K.o K.z)))))) Gd.no [],
   .mk (keepH (mvR (X.t (K.i (K.i K.z))))) (Option.some (K.o (K.i (K.i (K.o (K.i K.z)))))) (Gd.on (K.i (K.i (K.i (K.i (K.o K.z))))) Bool.true) [],
   .mk (keepH (mvR (X.t K.z))) (Option.some (K.i (K.o (K.i (K.o (K.i K.z)))))) (Gd.on (K.i (K.i (K.i (K.i (K.o K.z))))) Bool.true) [],
   .mk (keepH (iaS 5 (X.t (K.i (K.o (K.i (K.o (K.i K.z)))))) (X.t (K.o (K.i (K.i (K.o (K.i K.z)))))))) (Option.some (K.i (K.i (K.i (K.o (K.i K.z)))))) (Gd.on (K.i (K.i (K.i (K.i (K.o K.z))))) Bool.true) [],
   .mk (keepH (faR 0 (X.t (K.i (K.i (K.i (K.o (K.i K.z)))))))) (Option.some (K.o (K.o (K.o (K.i (K.i K.z)))))) (Gd.on (K.i (K.i (K.i (K.i (K.o K.z))))) Bool.true) [],
   .mk (keepH (ldR Bool.false 1 (X.t (K.o (K.o (K.o (K.i (K.i K.z)))))))) (Option.some (K.i (K.o (K.o (K.i (K.i K.z)))))) (Gd.on (K.i (K.i (K.i (K.i (K.o K.z))))) Bool.true) [],
   .mk (keepH (mvR (X.t (K.i (K.o (K.o K.z)))))) (Option.some (K.i (K.o (K.o (K.o (K.i K.z)))))) (Gd.on (K.i (K.i (K.i (K.i (K.o K.z))))) Bool.true) [],
   .mk (keepH (mvR (X.t K.z))) (Option.some (K.o (K.o (K.o (K.o (K.i K.z)))))) (Gd.on (K.i (K.i (K.i (K.i (K.o K.z))))) Bool.true) [],
   .mk (keepH (iaS 5 (X.t (K.o (K.o (K.o (K.o (K.i K.z)))))) (X.t (K.i (K.o (K.o (K.o (K.i K.z)))))))) (Option.some (K.o (K.i (K.o (K.o (K.i K.z)))))) (Gd.on (K.i (K.i (K.i (K.i (K.o K.z))))) Bool.true) [],
   .mk (keepH (faR 0 (X.t (K.o (K.i (K.o (K.o (K.i K.z)))))))) (Option.some (K.i (K.i (K.o (K.o (K.i K.z)))))) (Gd.on (K.i (K.i (K.i (K.i (K.o K.z))))) Bool.true) [],
   .mk (keepH (ldR Bool.false 1 (X.t (K.i (K.i (K.o (K.o (K.i K.z)))))))) (Option.some (K.o (K.o (K.i (K.o (K.i K.z)))))) (Gd.on (K.i (K.i (K.i (K.i (K.o K.z))))) Bool.true) [],
   .mk (keepH (binR Try.prog EK.no Option.none Bool.false BinOp.eql (X.t (K.o (K.o (K.i (K.o (K.i K.z)))))) (X.t (K.i (K.o (K.o (K.i (K.i K.z)))))))) (Option.some (K.o (K.i (K.o (K.i (K.i K.z)))))) (Gd.on (K.i (K.i (K.i (K.i (K.o K.z))))) Bool.true) [],
   .mk (keepH (mvR (X.t (K.o (K.i (K.o (K.i (K.i K.z)))))))) (Option.some (K.i (K.i (K.o (K.i (K.i K.z)))))) (Gd.on (K.i (K.i (K.i (K.i (K.o K.z))))) Bool.true) [],
   .mk (keepH (mvR (X.t (K.i (K.o (K.o K.z)))))) (Option.some (K.i (K.o (K.i (K.i (K.i K.z)))))) (Gd.on (K.i (K.i (K.o (K.i (K.i K.z))))) Bool.true) [],
   .mk (keepH (mvR (X.t K.z))) (Option.some (K.o (K.o (K.i (K.i (K.i K.z)))))) (Gd.on (K.i (K.i (K.o (K.i (K.i K.z))))) Bool.true) [],
   .mk (keepH (iaS 5 (X.t (K.o (K.o (K.i (K.i (K.i K.z)))))) (X.t (K.i (K.o (K.i (K.i (K.i K.z)))))))) (Option.some (K.o (K.i (K.i (K.i (K.i K.z)))))) (Gd.on (K.i (K.i (K.o (K.i (K.i K.z))))) Bool.true) [],
   .mk (keepH (ldR Bool.true 5 (X.t (K.o (K.i (K.i (K.i (K.i K.z)))))))) (Option.some (K.i (K.i (K.i (K.i (K.i K.z)))))) (Gd.on (K.i (K.i (K.o (K.i (K.i K.z))))) Bool.true) [],
   .mk (callS Try.prog 24 [(X.t (K.i (K.i (K.i (K.i (K.i K.z))))))]) (Option.some (K.o (K.o (K.o (K.o (K.o (K.o K.z))))))) (Gd.on (K.i (K.i (K.o (K.i (K.i K.z))))) Bool.true) [],
   .mk (keepH (pickR (X.t (K.i (K.i (K.o (K.i (K.i K.z)))))) (X.t (K.o (K.o (K.o (K.o (K.o (K.o K.z))))))) (X.c (AV.bool Bool.false)))) (Option.some (K.i (K.o (K.o (K.o (K.o (K.o K.z))))))) (Gd.on (K.i (K.i (K.i (K.i (K.o K.z))))) Bool.true) [],
   .mk (keepH (unR UnOp.not (X.t (K.i (K.o (K.o (K.o (K.o (K.o K.z))))))))) (Option.some (K.o (K.i (K.o (K.o (K.o (K.o K.z))))))) (Gd.on (K.i (K.i (K.i (K.i (K.o K.z))))) Bool.true) [],
   .mk (keepH (pickR (X.t (K.i (K.i (K.i (K.i (K.o K.z)))))) (X.t (K.o (K.i (K.o (K.o (K.o (K.o K.z))))))) (X.c (AV.bool Bool.false)))) (Option.some (K.i (K.i (K.o (K.o (K.o (K.o K.z))))))) Gd.no [],
   .mk (mvR (X.t (K.i (K.i (K.o (K.o (K.o (K.o K.z)))))))) (Option.some (K.o (K.o (K.o K.z)))) Gd.no []]))
  (.region [.mk (mvR (X.t (K.i (K.o (K.o K.z))))) (Option.some (K.o (K.o (K.i (K.i (K.o K.z)))))) Gd.no [],
   .mk (binR Try.prog EK.no Option.none Bool.true BinOp.add (X.t (K.o (K.o (K.i (K.i (K.o K.z)))))) (X.c (AV.int IntKind.i64 1))) (Option.some (K.i (K.o (K.i (K.i (K.o K.z)))))) Gd.no [],
   .mk (mvR (X.t (K.i (K.o (K.i (K.i (K.o K.z))))))) (Option.some (K.i (K.o (K.o K.z)))) Gd.no []])))
noncomputable def C4L2 : CC :=
  (.seq (.seq (.region [.mk (mvR (X.t (K.i (K.i K.z)))) (Option.some (K.o (K.o (K.o (K.o (K.o K.z)))))) Gd.no [],
   .mk (mvR (X.t K.z)) (Option.some (K.i (K.o (K.o (K.o (K.o K.z)))))) Gd.no [],
   .mk (lenR LnK.slice (X.t (K.i (K.o (K.o (K.o (K.o K.z))))))) (Option.some (K.o (K.i (K.o (K.o (K.o K.z)))))) Gd.no [],
   .mk (binR Try.prog EK.no Option.none Bool.false BinOp.lss (X.t (K.o (K.o (K.o (K.o (K.o K.z)))))) (X.t (K.o (K.i (K.o (K.o (K.o K.z))))))) (Option.some (K.i (K.i (K.o (K.o (K.o K.z)))))) Gd.no []])
  (.cond (X.t (K.i (K.i (K.o (K.o (K.o K.z))))))
  .skip
  (.exit 2)))
  (.seq (.block 3 (.seq (.region [.mk (mvR (X.c (AV.bool Bool.true))) (Option.some (K.o (K.o (K.o K.z)))) Gd.no []])
  (.seq (.seq (.region [.mk (mvR (X.t (K.i (K.i K.z)))) (Option.some (K.o (K.i (K.i (K.o (K.o K.z)))))) Gd.no [],
   .mk (binR Try.prog EK.no Option.none Bool.true BinOp.add (X.t (K.o (K.i (K.i (K.o (K.o K.z)))))) (X.c (AV.int IntKind.i64 1))) (Option.some (K.i (K.i (K.i (K.o (K.o K.z)))))) Gd.no [],
   .mk (mvR (X.t (K.i (K.i (K.i (K.o (K.o K.z))))))) (Option.some (K.i (K.o (K.o K.z)))) Gd.no []])
  (.block 4 (.loop C4L1)))
  (.seq (.seq (.region [.mk (mvR (X.t K.z)) (Option.some (K.o (K.o (K.i (K.o (K.o (K.o K.z))))))) Gd.no [],
   .mk (mvR (X.t (K.i (K.i K.z)))) (Option.some (K.i (K.o (K.i (K.o (K.o (K.o K.z))))))) Gd.no [],
   .mk (iaS 5 (X.t (K.o (K.o (K.i (K.o (K.o (K.o K.z))))))) (X.t (K.i (K.o (K.i (K.o (K.o (K.o K.z)))))))) (Option.some (K.o (K.i (K.i (K.o (K.o (K.o K.z))))))) Gd.no [],
   .mk (ldR Bool.true 5 (X.t (K.o (K.i (K.i (K.o (K.o (K.o K.z)))))))) (Option.some (K.i (K.i (K.i (K.o (K.o (K.o K.z))))))) Gd.no [],
   .mk (callS Try.prog 24 [(X.t (K.i (K.i (K.i (K.o (K.o (K.o K.z)))))))]) (Option.some (K.o (K.o (K.o (K.i (K.o (K.o K.z))))))) Gd.no [],
   .mk (unR UnOp.not (X.t (K.o (K.o (K.o (K.i (K.o (K.o K.z)))))))) (Option.some (K.i (K.o (K.o (K.i (K.o (K.o K.z))))))) Gd.no [],
   .mk (mvR (X.t (K.i (K.o (K.o (K.i (K.o (K.o K.z)))))))) (Option.some (K.o (K.i (K.o (K.i (K.o (K.o K.z))))))) Gd.no [],
   .mk (mvR (X.t (K.o (K.o (K.o K.z))))) (Option.some (K.i (K.i (K.o (K.i (K.o (K.o K.z))))))) (Gd.on (K.o (K.i (K.o (K.i (K.o (K.o K.z)))))) Bool.false) [],
   .mk (unR UnOp.not (X.t (K.i (K.i (K.o (K.i (K.o (K.o K.z)))))))) (Option.some (K.o (K.o (K.i (K.i (K.o (K.o K.z))))))) (Gd.on (K.o (K.i (K.o (K.i (K.o (K.o K.z)))))) Bool.false) [],
   .mk (pickR (X.t (K.o (K.i (K.o (K.i (K.o (K.o K.z))))))) (X.c (AV.bool Bool.true)) (X.t (K.o (K.o (K.i (K.i (K.o (K.o K.z)))))))) (Option.some (K.i (K.o (K.i (K.i (K.o (K.o K.z))))))) Gd.no []])
  (.cond (X.t (K.i (K.o (K.i (K.i (K.o (K.o K.z)))))))
  (.exit 3)
  .skip))
  (.seq (.region [.mk (mvR (X.t (K.o (K.i K.z)))) (Option.some (K.o (K.i (K.i (K.i (K.o (K.o K.z))))))) Gd.no [],
   .mk (binR Try.prog EK.no Option.none Bool.true BinOp.add (X.t (K.o (K.i (K.i (K.i (K.o (K.o K.z))))))) (X.c (AV.int IntKind.i64 1))) (Option.some (K.i (K.i (K.i (K.i (K.o (K.o K.z))))))) Gd.no [],
   .mk (mvR (X.t (K.i (K.i (K.i (K.i (K.o (K.o K.z)))))))) (Option.some (K.o (K.i K.z))) Gd.no []])
  (.seq (.region [.mk (mvR (X.t (K.o (K.o K.z)))) (Option.some (K.i (K.o (K.o (K.o (K.i (K.o K.z))))))) Gd.no [],
   .mk (mvR (X.t K.z)) (Option.some (K.o (K.i (K.o (K.o (K.i (K.o K.z))))))) Gd.no [],
   .mk (mvR (X.t (K.i (K.i K.z)))) (Option.some (K.i (K.i (K.o (K.o (K.i (K.o K.z))))))) Gd.no [],
   .mk (iaS 5 (X.t (K.o (K.i (K.o (K.o (K.i (K.o K.z))))))) (X.t (K.i (K.i (K.o (K.o (K.i (K.o K.z)))))))) (Option.some (K.o (K.o (K.i (K.o (K.i (K.o K.z))))))) Gd.no [],
   .mk (faR 0 (X.t (K.o (K.o (K.i (K.o (K.i (K.o K.z)))))))) (Option.some (K.i (K.o (K.i (K.o (K.i (K.o K.z))))))) Gd.no [],
   .mk (ldR Bool.false 1 (X.t (K.i (K.o (K.i (K.o (K.i (K.o K.z)))))))) (Option.some (K.o (K.i (K.i (K.o (K.i (K.o K.z))))))) Gd.no [],
   .mk (callS Try.prog 13 [(X.t (K.i (K.o (K.o (K.o (K.i (K.o K.z))))))), (X.t (K.o (K.i (K.i (K.o (K.i (K.o K.z)))))))]) (Option.some (K.i (K.i (K.i (K.o (K.i (K.o K.z))))))) Gd.no [],
   .mk (mvR (X.t (K.i (K.i (K.i (K.o (K.i (K.o K.z)))))))) (Option.some (K.o (K.o (K.o (K.o (K.i (K.o K.z))))))) Gd.no [],
   .mk (extR (X.t (K.o (K.o (K.o (K.o (K.i (K.o K.z))))))) 0) (Option.some (K.o (K.o (K.o (K.i (K.i (K.o K.z))))))) Gd.no [],
   .mk (extR (X.t (K.o (K.o (K.o (K.o (K.i (K.o K.z))))))) 1) (Option.some (K.i (K.o (K.o (K.i (K.i (K.o K.z))))))) Gd.no [],
   .mk (fun _ H => newC Bool.false [(AV.str []), (AV.str []), (AV.int IntKind.i64 0), (AV.bool Bool.false), (AV.int IntKind.i64 0)] H) (Option.some (K.o (K.i (K.o K.z)))) Gd.no [],
   .mk (stR 5 (X.t (K.o (K.i (K.o K.z)))) (X.t (K.o (K.o (K.o (K.i (K.i (K.o K.z)))))))) Option.none Gd.no [],
   .mk (mvR (X.t (K.i (K.o (K.o (K.i (K.i (K.o K.z)))))))) (Option.some (K.i (K.i (K.o K.z)))) Gd.no []])
  (.seq (.regionD [.mk (keepH (mvR (X.t (K.i (K.i (K.o K.z)))))) (Option.some (K.o (K.i (K.o (K.i (K.i (K.o K.z))))))) Gd.no [],
   .mk (keepH (unR UnOp.not (X.t (K.o (K.i (K.o (K.i (K.i (K.o K.z))))))))) (Option.some (K.i (K.i (K.o (K.i (K.i (K.o K.z))))))) Gd.no [],
   .mk (keepH (mvR (X.t (K.i (K.i (K.o (K.i (K.i (K.o K.z))))))))) (Option.some (K.o (K.o (K.i (K.i (K.i (K.o K.z))))))) Gd.no [],
   .mk (keepH (mvR (X.t (K.i (K.i K.z))))) (Option.some (K.i (K.i (K.i (K.i (K.i (K.o K.z))))))) (Gd.on (K.o (K.o (K.i (K.i (K.i (K.o K.z)))))) Bool.false) [],
   .mk (keepH (mvR (X.t K.z))) (Option.some (K.o (K.i (K.i (K.i (K.i (K.o K.z))))))) (Gd.on (K.o (K.o (K.i (K.i (K.i (K.o K.z)))))) Bool.false) [],
   .mk (keepH (iaS 5 (X.t (K.o (K.i (K.i (K.i (K.i (K.o K.z))))))) (X.t (K.i (K.i (K.i (K.i (K.i (K.o K.z))))))))) (Option.some (K.o (K.o (K.o (K.o (K.o (K.i K.z))))))) (Gd.on (K.o (K.o (K.i (K.i (K.i (K.o K.z)))))) Bool.false) [],
   .mk (keepH (ldR Bool.true 5 (X.t (K.o (K.o (K.o (K.o (K.o (K.i K.z))))))))) (Option.some (K.i (K.o (K.o (K.o (K.o (K.i K.z))))))) (Gd.on (K.o (K.o (K.i (K.i (K.i (K.o K.z)))))) Bool.false) [],
   .mk (keepH (ldR Bool.true 5 (X.t (K.o (K.i (K.o K.z)))))) (Option.some (K.i (K.o (K.i (K.i (K.i (K.o K.z))))))) (Gd.on (K.o (K.o (K.i (K.i (K.i (K.o K.z)))))) Bool.false) [],
   .mk (keepH (binR Try.prog EK.no (Option.some [LK.str, LK.str, LK.int, LK.bool, LK.int]) Bool.false BinOp.neq (X.t (K.i (K.o (K.i (K.i (K.i (K.o K.z))))))) (X.t (K.i (K.o (K.o (K.o (K.o (K.i K.z))))))))) (Option.some (K.o (K.i (K.o (K.o (K.o (K.i K.z))))))) (Gd.on (K.o (K.o (K.i (K.i (K.i (K.o K.z)))))) Bool.false) [],
   .mk (keepH (pickR (X.t (K.o (K.o (K.i (K.i (K.i (K.o K.z))))))) (X.c (AV.bool Bool.true)) (X.t (K.o (K.i (K.o (K.o (K.o (K.i K.z))))))))) (Option.some (K.i (K.i (K.o (K.o (K.o (K.i K.z))))))) Gd.no []])
  (.cond (X.t (K.i (K.i (K.o (K.o (K.o (K.i K.z)))))))
  (.seq (.region [.mk (mvR (X.c (AV.bool Bool.false))) (Option.some (K.i K.z)) Gd.no []])
  .ret)
  .skip))))))))
  (.region [.mk (mvR (X.t (K.i (K.i K.z)))) (Option.some (K.o (K.o (K.i (K.o (K.o K.z)))))) Gd.no [],
   .mk (binR Try.prog EK.no Option.none Bool.true BinOp.add (X.t (K.o (K.o (K.i (K.o (K.o K.z)))))) (X.c (AV.int IntKind.i64 1))) (Option.some (K.i (K.o (K.i (K.o (K.o K.z)))))) Gd.no [],
   .mk (mvR (X.t (K.i (K.o (K.i (K.o (K.o K.z))))))) (Option.some (K.i (K.i K.z))) Gd.no []])))
noncomputable def C4 : CC :=
  (.seq (.region [.mk (mvR (X.c (AV.bool Bool.false))) (Option.some (K.i K.z)) Gd.no []])
  (.seq (.seq (.region [.mk (callS Try.prog 11 []) (Option.some (K.o (K.o (K.i K.z)))) Gd.no [],
   .mk (unR UnOp.not (X.t (K.o (K.o (K.i K.z))))) (Option.some (K.i (K.o (K.i K.z)))) Gd.no []])
  (.cond (X.t (K.i (K.o (K.i K.z))))
  (.seq (.region [.mk (mvR (X.c (AV.bool Bool.false))) (Option.some (K.i K.z)) Gd.no []])
  .ret)
  .skip))
  (.seq (.seq (.region [.mk (mvR (X.t K.z)) (Option.some (K.o (K.i (K.i K.z)))) Gd.no [],
   .mk (callS Try.prog 12 [(X.t (K.o (K.i (K.i K.z))))]) (Option.some (K.i (K.i (K.i K.z)))) Gd.no [],
   .mk (unR UnOp.not (X.t (K.i (K.i (K.i K.z))))) (Option.some (K.o (K.o (K.o (K.o K.z))))) Gd.no []])
  (.cond (X.t (K.o (K.o (K.o (K.o K.z)))))
  (.seq (.region [.mk (mvR (X.c (AV.bool Bool.true))) (Option.some (K.i K.z)) Gd.no []])
  .ret)
  .skip))
  (.seq (.region [.mk (mvR (X.c AV.nils)) (Option.some (K.o (K.o K.z))) Gd.no []])
  (.seq (.seq (.region [.mk (mvR (X.c (AV.int IntKind.i64 0))) (Option.some (K.i (K.o K.z))) Gd.no []])
  (.block 0 (.loop C4L0)))
  (.seq (.seq (.region [.mk (mvR (X.t (K.o (K.o K.z)))) (Option.some (K.i (K.o (K.i (K.i K.z))))) Gd.no [],
   .mk (callS Try.prog 17 [(X.t (K.i (K.o (K.i (K.i K.z)))))]) (Option.some (K.o (K.i (K.i (K.i K.z))))) Gd.no [],
   .mk (unR UnOp.not (X.t (K.o (K.i (K.i (K.i K.z)))))) (Option.some (K.i (K.i (K.i (K.i K.z))))) Gd.no []])
  (.cond (X.t (K.i (K.i (K.i (K.i K.z)))))
  (.seq (.region [.mk (mvR (X.c (AV.bool Bool.false))) (Option.some (K.i K.z)) Gd.no []])
  .ret)
  .skip))
  (.seq (.region [.mk (mvR (X.c (AV.int IntKind.i64 0))) (Option.some (K.o (K.i K.z))) Gd.no []])
  (.seq (.seq (.region [.mk (mvR (X.c (AV.int IntKind.i64 0))) (Option.some (K.i (K.i K.z))) Gd.no []])
  (.block 2 (.loop C4L2)))
  (.seq (.region [.mk (mvR (X.t (K.o (K.i K.z)))) (Option.some (K.o (K.o (K.i (K.o (K.o (K.i K.z))))))) Gd.no [],
   .mk (mvR (X.t (K.o (K.o K.z)))) (Option.some (K.i (K.o (K.i (K.o (K.o (K.i K.z))))))) Gd.no [],
   .mk (lenR LnK.slice (X.t (K.i (K.o (K.i (K.o (K.o (K.i K.z)))))))) (Option.some (K.o (K.i (K.i (K.o (K.o (K.i K.z))))))) Gd.no [],
   .mk (binR Try.prog EK.no Option.none Bool.false BinOp.eql (X.t (K.o (K.o (K.i (K.o (K.o (K.i K.z))))))) (X.t (K.o (K.i (K.i (K.o (K.o (K.i K.z)))))))) (Option.some (K.i (K.i (K.i (K.o (K.o (K.i K.z))))))) Gd.no [],
   .mk (mvR (X.t (K.i (K.i (K.i (K.o (K.o (K.i K.z)))))))) (Option.some (K.i K.z)) Gd.no []])
  .ret)))))))))
theorem C4ok : (match Try.f4.body with | some c => comp Try.prog 103 c | none => none) = some C4 := by kernel_rfl
@[go_sem] theorem call4 (args : List AV) (H : Heap) : callC Try.prog 4 args H = .call 4 args := callC_ok (by kernel_rfl) args H
theorem R4ok : resKs Try.prog Try.f4.results.toList = some [(RK.tmp (K.i K.z))] := by kernel_rfl

/- 5: estuary/estuarylaw12.IndexRows -/
noncomputable def C5L0 : CC :=
  (.seq (.seq (.region [.mk (mvR (X.t (K.i (K.i (K.o K.z))))) (Option.some (K.i (K.i (K.o (K.i K.z))))) Gd.no [],
   .mk (binR Try.prog EK.no Option.none Bool.true BinOp.geq (X.t (K.i (K.i (K.o (K.i K.z))))) (X.c (AV.int IntKind.i64 0))) (Option.some (K.o (K.o (K.i (K.i K.z))))) Gd.no []])
  (.cond (X.t (K.o (K.o (K.i (K.i K.z)))))
  .skip
  (.exit 0)))
  (.seq (.block 1 (.regionD [.mk (keepH (mvR (X.t (K.i (K.i (K.o K.z)))))) (Option.some (K.o (K.o (K.o (K.i (K.o K.z)))))) Gd.no [],
   .mk (keepH (mvR (X.t K.z))) (Option.some (K.i (K.i (K.i (K.o (K.o K.z)))))) Gd.no [],
   .mk (keepH (iaS 1 (X.t (K.i (K.i (K.i (K.o (K.o K.z)))))) (X.t (K.o (K.o (K.o (K.i (K.o K.z)))))))) (Option.some (K.i (K.o (K.o (K.i (K.o K.z)))))) Gd.no [],
   .mk (keepH (ldR Bool.false 1 (X.t (K.i (K.o (K.o (K.i (K.o K.z)))))))) (Option.some (K.o (K.i (K.o (K.i (K.o K.z)))))) Gd.no [],
   .mk (keepH (mvR (X.t (K.i (K.i (K.o K.z)))))) (Option.some (K.i (K.o (K.i (K.o (K.o K.z)))))) Gd.no [],
   .mk (keepH (binR Try.prog EK.no Option.none Bool.true BinOp.add (X.t (K.i (K.o (K.i (K.o (K.o K.z)))))) (X.c (AV.int IntKind.i64 1)))) (Option.some (K.o (K.i (K.i (K.o (K.o K.z)))))) Gd.no [],
   .mk (keepH (mvR (X.t (K.i (K.i (K.o K.z)))))) (Option.some (K.o (K.o (K.o (K.o (K.o K.z)))))) Gd.no [],
   .mk (keepH (binR Try.prog EK.no Option.none Bool.true BinOp.add (X.c (AV.int IntKind.i64 97)) (X.t (K.o (K.o (K.o (K.o (K.o K.z)))))))) (Option.some (K.i (K.o (K.o (K.o (K.o K.z)))))) Gd.no [],
   .mk (keepH (mvR (X.t (K.o (K.i (K.o K.z)))))) (Option.some (K.i (K.i (K.i (K.i K.z))))) Gd.no [],
   .mk (convR (Cv.int IntKind.u8) (X.t (K.i (K.o (K.o (K.o (K.o K.z))))))) (Option.some (K.o (K.i (K.o (K.o (K.o K.z)))))) Gd.no [.mk (mvR (X.t (K.o (K.i (K.o K.z))))) (Option.some (K.i (K.i (K.i (K.i K.z))))) Gd.no, .mk (binR Try.prog EK.no Option.none Bool.true BinOp.add (X.t (K.i (K.o (K.i (K.o (K.o K.z)))))) (X.c (AV.int IntKind.i64 1))) (Option.some (K.o (K.i (K.i (K.o (K.o K.z)))))) Gd.no, .mk (mvR (X.t (K.i (K.i (K.o K.z))))) (Option.some (K.i (K.o (K.i (K.o (K.o K.z)))))) Gd.no, .mk (ldR Bool.false 1 (X.t (K.i (K.o (K.o (K.i (K.o K.z))))))) (Option.some (K.o (K.i (K.o (K.i (K.o K.z)))))) Gd.no, .mk (iaS 1 (X.t (K.i (K.i (K.i (K.o (K.o K.z)))))) (X.t (K.o (K.o (K.o (K.i (K.o K.z))))))) (Option.some (K.i (K.o (K.o (K.i (K.o K.z)))))) Gd.no, .mk (mvR (X.t K.z)) (Option.some (K.i (K.i (K.i (K.o (K.o K.z)))))) Gd.no, .mk (mvR (X.t (K.i (K.i (K.o K.z))))) (Option.some (K.o (K.o (K.o (K.i (K.o K.z)))))) Gd.no],
   .mk (addH (bslR 1 1 [(AV.int IntKind.u8 0)] [(0, (X.t (K.o (K.i (K.o (K.o (K.o K.z)))))))])) (Option.some (K.i (K.i (K.o (K.o (K.o K.z)))))) Gd.no [.mk (mvR (X.t (K.o (K.i (K.o K.z))))) (Option.some (K.i (K.i (K.i (K.i K.z))))) Gd.no, .mk (binR Try.prog EK.no Option.none Bool.true BinOp.add (X.t (K.i (K.o (K.i (K.o (K.o K.z)))))) (X.c (AV.int IntKind.i64 1))) (Option.some (K.o (K.i (K.i (K.o (K.o K.z)))))) Gd.no, .mk (mvR (X.t (K.i (K.i (K.o K.z))))) (Option.some (K.i (K.o (K.i (K.o (K.o K.z)))))) Gd.no, .mk (ldR Bool.false 1 (X.t (K.i (K.o (K.o (K.i (K.o K.z))))))) (Option.some (K.o (K.i (K.o (K.i (K.o K.z)))))) Gd.no, .mk (iaS 1 (X.t (K.i (K.i (K.i (K.o (K.o K.z)))))) (X.t (K.o (K.o (K.o (K.i (K.o K.z))))))) (Option.some (K.i (K.o (K.o (K.i (K.o K.z)))))) Gd.no, .mk (mvR (X.t K.z)) (Option.some (K.i (K.i (K.i (K.o (K.o K.z)))))) Gd.no, .mk (mvR (X.t (K.i (K.i (K.o K.z))))) (Option.some (K.o (K.o (K.o (K.i (K.o K.z)))))) Gd.no],
   .mk (convR Cv.b2s (X.t (K.i (K.i (K.o (K.o (K.o K.z))))))) (Option.some (K.o (K.o (K.i (K.o (K.o K.z)))))) Gd.no [.mk (mvR (X.t (K.o (K.i (K.o K.z))))) (Option.some (K.i (K.i (K.i (K.i K.z))))) Gd.no, .mk (binR Try.prog EK.no Option.none Bool.true BinOp.add (X.t (K.i (K.o (K.i (K.o (K.o K.z)))))) (X.c (AV.int IntKind.i64 1))) (Option.some (K.o (K.i (K.i (K.o (K.o K.z)))))) Gd.no, .mk (mvR (X.t (K.i (K.i (K.o K.z))))) (Option.some (K.i (K.o (K.i (K.o (K.o K.z)))))) Gd.no, .mk (ldR Bool.false 1 (X.t (K.i (K.o (K.o (K.i (K.o K.z))))))) (Option.some (K.o (K.i (K.o (K.i (K.o K.z)))))) Gd.no, .mk (iaS 1 (X.t (K.i (K.i (K.i (K.o (K.o K.z)))))) (X.t (K.o (K.o (K.o (K.i (K.o K.z))))))) (Option.some (K.i (K.o (K.o (K.i (K.o K.z)))))) Gd.no, .mk (mvR (X.t K.z)) (Option.some (K.i (K.i (K.i (K.o (K.o K.z)))))) Gd.no, .mk (mvR (X.t (K.i (K.i (K.o K.z))))) (Option.some (K.o (K.o (K.o (K.i (K.o K.z)))))) Gd.no],
   .mk (buildR [(AV.str []), (AV.str []), (AV.int IntKind.i64 0), (AV.bool Bool.false), (AV.int IntKind.i64 0)] [(0, (1, (X.t (K.o (K.o (K.i (K.o (K.o K.z)))))))), (2, (1, (X.t (K.o (K.i (K.i (K.o (K.o K.z)))))))), (3, (1, (X.t (K.o (K.i (K.o (K.i (K.o K.z))))))))]) (Option.some (K.i (K.i (K.o (K.i (K.o K.z)))))) Gd.no [.mk (mvR (X.t (K.o (K.i (K.o K.z))))) (Option.some (K.i (K.i (K.i (K.i K.z))))) Gd.no],
   .mk (callS Try.prog 22 [(X.t (K.i (K.i (K.i (K.i K.z))))), (X.t (K.i (K.i (K.o (K.i (K.o K.z))))))]) (Option.some (K.o (K.o (K.i (K.i (K.o K.z)))))) Gd.no [],
   .mk (mvR (X.t (K.o (K.o (K.i (K.i (K.o K.z))))))) (Option.some (K.o (K.i (K.o K.z)))) Gd.no []]))
  (.region [.mk (mvR (X.t (K.i (K.i (K.o K.z))))) (Option.some (K.i (K.o (K.i (K.i K.z))))) Gd.no [],
   .mk (binR Try.prog EK.no Option.none Bool.true BinOp.sub (X.t (K.i (K.o (K.i (K.i K.z))))) (X.c (AV.int IntKind.i64 1))) (Option.some (K.o (K.i (K.i (K.i K.z))))) Gd.no [],
   .mk (mvR (X.t (K.o (K.i (K.i (K.i K.z)))))) (Option.some (K.i (K.i (K.o K.z)))) Gd.no []])))
noncomputable def C5L1 : CC :=
  (.seq (.seq (.region [.mk (mvR (X.t (K.o (K.o (K.o (K.o K.z)))))) (Option.some (K.o (K.i (K.i (K.i (K.i K.z)))))) Gd.no [],
   .mk (mvR (X.t K.z)) (Option.some (K.i (K.i (K.i (K.i (K.i K.z)))))) Gd.no [],
   .mk (lenR LnK.slice (X.t (K.i (K.i (K.i (K.i (K.i K.z))))))) (Option.some (K.o (K.o (K.o (K.o (K.o (K.o K.z))))))) Gd.no [],
   .mk (binR Try.prog EK.no Option.none Bool.false BinOp.lss (X.t (K.o (K.i (K.i (K.i (K.i K.z)))))) (X.t (K.o (K.o (K.o (K.o (K.o (K.o K.z)))))))) (Option.some (K.i (K.o (K.o (K.o (K.o (K.o K.z))))))) Gd.no []])
  (.cond (X.t (K.i (K.o (K.o (K.o (K.o (K.o K.z)))))))
  .skip
  (.exit 2)))
  (.seq (.block 3 (.seq (.region [.mk (mvR (X.t K.z)) (Option.some (K.o (K.o (K.i (K.o (K.o (K.o K.z))))))) Gd.no [],
   .mk (mvR (X.t (K.o (K.o (K.o (K.o K.z)))))) (Option.some (K.i (K.o (K.i (K.o (K.o (K.o K.z))))))) Gd.no [],
   .mk (iaS 1 (X.t (K.o (K.o (K.i (K.o (K.o (K.o K.z))))))) (X.t (K.i (K.o (K.i (K.o (K.o (K.o K.z)))))))) (Option.some (K.o (K.i (K.i (K.o (K.o (K.o K.z))))))) Gd.no [],
   .mk (ldR Bool.false 1 (X.t (K.o (K.i (K.i (K.o (K.o (K.o K.z)))))))) (Option.some (K.i (K.i (K.i (K.o (K.o (K.o K.z))))))) Gd.no [],
   .mk (unR UnOp.not (X.t (K.i (K.i (K.i (K.o (K.o (K.o K.z)))))))) (Option.some (K.o (K.o (K.o (K.i (K.o (K.o K.z))))))) Gd.no [],
   .mk (mvR (X.t (K.o (K.o (K.o (K.i (K.o (K.o K.z)))))))) (Option.some (K.i (K.o (K.o (K.i (K.o (K.o K.z))))))) Gd.no [],
   .mk (mvR (X.t (K.o (K.o (K.o (K.o K.z)))))) (Option.some (K.o (K.i (K.o (K.i (K.o (K.o K.z))))))) (Gd.on (K.i (K.o (K.o (K.i (K.o (K.o K.z)))))) Bool.true) [],
   .mk (mvR (X.t (K.o (K.o (K.i K.z))))) (Option.some (K.i (K.i (K.o (K.i (K.o (K.o K.z))))))) (Gd.on (K.i (K.o (K.o (K.i (K.o (K.o K.z)))))) Bool.true) [],
   .mk (binR Try.prog EK.no Option.none Bool.false BinOp.geq (X.t (K.o (K.i (K.o (K.i (K.o (K.o K.z))))))) (X.t (K.i (K.i (K.o (K.i (K.o (K.o K.z)))))))) (Option.some (K.o (K.o (K.i (K.i (K.o (K.o K.z))))))) (Gd.on (K.i (K.o (K.o (K.i (K.o (K.o K.z)))))) Bool.true) [],
   .mk (pickR (X.t (K.i (K.o (K.o (K.i (K.o (K.o K.z))))))) (X.t (K.o (K.o (K.i (K.i (K.o (K.o K.z))))))) (X.c (AV.bool Bool.false))) (Option.some (K.i (K.o (K.i (K.i (K.o (K.o K.z))))))) Gd.no [],
   .mk (mvR (X.t (K.i (K.o (K.i (K.i (K.o (K.o K.z)))))))) (Option.some (K.o (K.i (K.i (K.i (K.o (K.o K.z))))))) Gd.no [],
   .mk (mvR (X.t (K.o (K.o (K.o (K.o K.z)))))) (Option.some (K.i (K.i (K.i (K.i (K.o (K.o K.z))))))) (Gd.on (K.o (K.i (K.i (K.i (K.o (K.o K.z)))))) Bool.true) [],
   .mk (mvR (X.t (K.i (K.o (K.i K.z))))) (Option.some (K.o (K.o (K.o (K.o (K.i (K.o K.z))))))) (Gd.on (K.o (K.i (K.i (K.i (K.o (K.o K.z)))))) Bool.true) [],
   .mk (binR Try.prog EK.no Option.none Bool.false BinOp.lss (X.t (K.i (K.i (K.i (K.i (K.o (K.o K.z))))))) (X.t (K.o (K.o (K.o (K.o (K.i (K.o K.z)))))))) (Option.some (K.i (K.o (K.o (K.o (K.i (K.o K.z))))))) (Gd.on (K.o (K.i (K.i (K.i (K.o (K.o K.z)))))) Bool.true) [],
   .mk (pickR (X.t (K.o (K.i (K.i (K.i (K.o (K.o K.z))))))) (X.t (K.i (K.o (K.o (K.o (K.i (K.o K.z))))))) (X.c (AV.bool Bool.false))) (Option.some (K.o (K.i (K.o (K.o (K.i (K.o K.z))))))) Gd.no [],
   .mk (mvR (X.t (K.o (K.i (K.o (K.o (K.i (K.o K.z)))))))) (Option.some (K.i (K.i (K.o (K.o (K.i (K.o K.z))))))) Gd.no [],
   .mk (mvR (X.t (K.i (K.i (K.i K.z))))) (Option.some (K.o (K.o (K.i (K.o (K.i (K.o K.z))))))) (Gd.on (K.i (K.i (K.o (K.o (K.i (K.o K.z)))))) Bool.true) [],
   .mk (lenR LnK.slice (X.t (K.o (K.o (K.i (K.o (K.i (K.o K.z)))))))) (Option.some (K.i (K.o (K.i (K.o (K.i (K.o K.z))))))) (Gd.on (K.i (K.i (K.o (K.o (K.i (K.o K.z)))))) Bool.true) [],
   .mk (mvR (X.t (K.o (K.o K.z)))) (Option.some (K.o (K.i (K.i (K.o (K.i (K.o K.z))))))) (Gd.on (K.i (K.i (K.o (K.o (K.i (K.o K.z)))))) Bool.true) [],
   .mk (binR Try.prog EK.no Option.none Bool.false BinOp.lss (X.t (K.i (K.o (K.i (K.o (K.i (K.o K.z))))))) (X.t (K.o (K.i (K.i (K.o (K.i (K.o K.z)))))))) (Option.some (K.i (K.i (K.i (K.o (K.i (K.o K.z))))))) (Gd.on (K.i (K.i (K.o (K.o (K.i (K.o K.z)))))) Bool.true) [],
   .mk (pickR (X.t (K.i (K.i (K.o (K.o (K.i (K.o K.z))))))) (X.t (K.i (K.i (K.i (K.o (K.i (K.o K.z))))))) (X.c (AV.bool Bool.false))) (Option.some (K.o (K.o (K.o (K.i (K.i (K.o K.z))))))) Gd.no []])
  (.cond (X.t (K.o (K.o (K.o (K.i (K.i (K.o K.z)))))))
  (.region [.mk (mvR (X.t (K.i (K.i (K.i K.z))))) (Option.some (K.i (K.o (K.o (K.i (K.i (K.o K.z))))))) Gd.no [],
   .mk (mvR (X.t (K.o (K.o (K.o (K.o K.z)))))) (Option.some (K.o (K.i (K.o (K.i (K.i (K.o K.z))))))) Gd.no [],
   .mk (bslR 1 1 [(AV.int IntKind.i64 0)] [(0, (X.t (K.o (K.i (K.o (K.i (K.i (K.o K.z))))))))]) (Option.some (K.i (K.i (K.o (K.i (K.i (K.o K.z))))))) Gd.no [],
   .mk (appR 1 8 (X.t (K.i (K.o (K.o (K.i (K.i (K.o K.z))))))) (X.t (K.i (K.i (K.o (K.i (K.i (K.o K.z)))))))) (Option.some (K.o (K.o (K.i (K.i (K.i (K.o K.z))))))) Gd.no [],
   .mk (mvR (X.t (K.o (K.o (K.i (K.i (K.i (K.o K.z)))))))) (Option.some (K.i (K.i (K.i K.z)))) Gd.no []])
  .skip)))
  (.region [.mk (mvR (X.t (K.o (K.o (K.o (K.o K.z)))))) (Option.some (K.o (K.i (K.o (K.o (K.o (K.o K.z))))))) Gd.no [],
   .mk (binR Try.prog EK.no Option.none Bool.true BinOp.add (X.t (K.o (K.i (K.o (K.o (K.o (K.o K.z))))))) (X.c (AV.int IntKind.i64 1))) (Option.some (K.i (K.i (K.o (K.o (K.o (K.o K.z))))))) Gd.no [],
   .mk (mvR (X.t (K.i (K.i (K.o (K.o (K.o (K.o K.z)))))))) (Option.some (K.o (K.o (K.o (K.o K.z))))) Gd.no []])))
noncomputable def C5L2 : CC :=
  (.seq (.seq (.region [.mk (mvR (X.t (K.o (K.i (K.o (K.o K.z)))))) (Option.some (K.o (K.i (K.i (K.o (K.o (K.i K.z))))))) Gd.no [],
   .mk (mvR (X.t (K.i (K.o (K.o (K.o K.z)))))) (Option.some (K.i (K.i (K.i (K.o (K.o (K.i K.z))))))) Gd.no [],
   .mk (lenR LnK.slice (X.t (K.i (K.i (K.i (K.o (K.o (K.i K.z)))))))) (Option.some (K.o (K.o (K.o (K.i (K.o (K.i K.z))))))) Gd.no [],
   .mk (binR Try.prog EK.no Option.none Bool.false BinOp.lss (X.t (K.o (K.i (K.i (K.o (K.o (K.i K.z))))))) (X.t (K.o (K.o (K.o (K.i (K.o (K.i K.z)))))))) (Option.some (K.i (K.o (K.o (K.i (K.o (K.i K.z))))))) Gd.no []])
  (.cond (X.t (K.i (K.o (K.o (K.i (K.o (K.i K.z)))))))
  .skip
  (.exit 4)))
  (.seq (.block 5 (.seq (.regionD [.mk (keepH (mvR (X.t (K.o (K.i (K.o (K.o K.z))))))) (Option.some (K.o (K.i (K.o (K.o (K.i (K.i K.z))))))) Gd.no [],
   .mk (keepH (mvR (X.t (K.i (K.i (K.i K.z)))))) (Option.some (K.i (K.o (K.o (K.o (K.i (K.i K.z))))))) Gd.no [],
   .mk (keepH (iaS 1 (X.t (K.i (K.o (K.o (K.o (K.i (K.i K.z))))))) (X.t (K.o (K.i (K.o (K.o (K.i (K.i K.z))))))))) (Option.some (K.i (K.i (K.o (K.o (K.i (K.i K.z))))))) Gd.no [],
   .mk (keepH (ldR Bool.false 1 (X.t (K.i (K.i (K.o (K.o (K.i (K.i K.z))))))))) (Option.some (K.o (K.o (K.i (K.o (K.i (K.i K.z))))))) Gd.no [],
   .mk (keepH (binR Try.prog EK.no Option.none Bool.true BinOp.add (X.t (K.o (K.o (K.i (K.o (K.i (K.i K.z))))))) (X.c (AV.int IntKind.i64 1)))) (Option.some (K.i (K.o (K.i (K.o (K.i (K.i K.z))))))) Gd.no [],
   .mk (keepH (mvR (X.t (K.o (K.i (K.o (K.o K.z))))))) (Option.some (K.i (K.o (K.i (K.i (K.o (K.i K.z))))))) Gd.no [],
   .mk (keepH (mvR (X.t (K.i (K.o (K.o (K.o K.z))))))) (Option.some (K.o (K.o (K.i (K.i (K.o (K.i K.z))))))) Gd.no [],
   .mk (keepH (iaS 3 (X.t (K.o (K.o (K.i (K.i (K.o (K.i K.z))))))) (X.t (K.i (K.o (K.i (K.i (K.o (K.i K.z))))))))) (Option.some (K.o (K.i (K.i (K.i (K.o (K.i K.z))))))) Gd.no [],
   .mk (keepH (faR 2 (X.t (K.o (K.i (K.i (K.i (K.o (K.i K.z))))))))) (Option.some (K.i (K.i (K.i (K.i (K.o (K.i K.z))))))) Gd.no [],
   .mk (keepH (ldR Bool.false 1 (X.t (K.i (K.i (K.i (K.i (K.o (K.i K.z))))))))) (Option.some (K.o (K.o (K.o (K.o (K.i (K.i K.z))))))) Gd.no [],
   .mk (keepH (binR Try.prog EK.no Option.none Bool.false BinOp.neq (X.t (K.o (K.o (K.o (K.o (K.i (K.i K.z))))))) (X.t (K.i (K.o (K.i (K.o (K.i (K.i K.z))))))))) (Option.some (K.o (K.i (K.i (K.o (K.i (K.i K.z))))))) Gd.no [],
   .mk (keepH (mvR (X.t (K.o (K.i (K.i (K.o (K.i (K.i K.z))))))))) (Option.some (K.i (K.i (K.i (K.o (K.i (K.i K.z))))))) Gd.no [],
   .mk (keepH (mvR (X.t (K.o (K.i (K.o (K.o K.z))))))) (Option.some (K.o (K.i (K.i (K.i (K.i (K.i K.z))))))) (Gd.on (K.i (K.i (K.i (K.o (K.i (K.i K.z)))))) Bool.false) [],
   .mk (keepH (mvR (X.t (K.i (K.i (K.i K.z)))))) (Option.some (K.i (K.o (K.i (K.i (K.i (K.i K.z))))))) (Gd.on (K.i (K.i (K.i (K.o (K.i (K.i K.z)))))) Bool.false) [],
   .mk (keepH (iaS 1 (X.t (K.i (K.o (K.i (K.i (K.i (K.i K.z))))))) (X.t (K.o (K.i (K.i (K.i (K.i (K.i K.z))))))))) (Option.some (K.i (K.i (K.i (K.i (K.i (K.i K.z))))))) (Gd.on (K.i (K.i (K.i (K.o (K.i (K.i K.z)))))) Bool.false) [],
   .mk (keepH (ldR Bool.false 1 (X.t (K.i (K.i (K.i (K.i (K.i (K.i K.z))))))))) (Option.some (K.o (K.o (K.o (K.o (K.o (K.o (K.o K.z)))))))) (Gd.on (K.i (K.i (K.i (K.o (K.i (K.i K.z)))))) Bool.false) [],
   .mk (keepH (binR Try.prog EK.no Option.none Bool.true BinOp.add (X.c (AV.int IntKind.i64 97)) (X.t (K.o (K.o (K.o (K.o (K.o (K.o (K.o K.z)))))))))) (Option.some (K.i (K.o (K.o (K.o (K.o (K.o (K.o K.z)))))))) (Gd.on (K.i (K.i (K.i (K.o (K.i (K.i K.z)))))) Bool.false) [],
   .mk (keepH (mvR (X.t (K.o (K.i (K.o (K.o K.z))))))) (Option.some (K.i (K.o (K.o (K.i (K.i (K.i K.z))))))) (Gd.on (K.i (K.i (K.i (K.o (K.i (K.i K.z)))))) Bool.false) [],
   .mk (keepH (mvR (X.t (K.i (K.o (K.o (K.o K.z))))))) (Option.some (K.o (K.o (K.o (K.i (K.i (K.i K.z))))))) (Gd.on (K.i (K.i (K.i (K.o (K.i (K.i K.z)))))) Bool.false) [],
   .mk (keepH (iaS 3 (X.t (K.o (K.o (K.o (K.i (K.i (K.i K.z))))))) (X.t (K.i (K.o (K.o (K.i (K.i (K.i K.z))))))))) (Option.some (K.o (K.i (K.o (K.i (K.i (K.i K.z))))))) (Gd.on (K.i (K.i (K.i (K.o (K.i (K.i K.z)))))) Bool.false) [],
   .mk (keepH (faR 0 (X.t (K.o (K.i (K.o (K.i (K.i (K.i K.z))))))))) (Option.some (K.i (K.i (K.o (K.i (K.i (K.i K.z))))))) (Gd.on (K.i (K.i (K.i (K.o (K.i (K.i K.z)))))) Bool.false) [],
   .mk (keepH (ldR Bool.false 1 (X.t (K.i (K.i (K.o (K.i (K.i (K.i K.z))))))))) (Option.some (K.o (K.o (K.i (K.i (K.i (K.i K.z))))))) (Gd.on (K.i (K.i (K.i (K.o (K.i (K.i K.z)))))) Bool.false) [],
   .mk (convR (Cv.int IntKind.u8) (X.t (K.i (K.o (K.o (K.o (K.o (K.o (K.o K.z))))))))) (Option.some (K.o (K.i (K.o (K.o (K.o (K.o (K.o K.z)))))))) (Gd.on (K.i (K.i (K.i (K.o (K.i (K.i K.z)))))) Bool.false) [.mk (ldR Bool.false 1 (X.t (K.i (K.i (K.o (K.i (K.i (K.i K.z)))))))) (Option.some (K.o (K.o (K.i (K.i (K.i (K.i K.z))))))) (Gd.on (K.i (K.i (K.i (K.o (K.i (K.i K.z)))))) Bool.false), .mk (faR 0 (X.t (K.o (K.i (K.o (K.i (K.i (K.i K.z)))))))) (Option.some (K.i (K.i (K.o (K.i (K.i (K.i K.z))))))) (Gd.on (K.i (K.i (K.i (K.o (K.i (K.i K.z)))))) Bool.false), .mk (iaS 3 (X.t (K.o (K.o (K.o (K.i (K.i (K.i K.z))))))) (X.t (K.i (K.o (K.o (K.i (K.i (K.i K.z)))))))) (Option.some (K.o (K.i (K.o (K.i (K.i (K.i K.z))))))) (Gd.on (K.i (K.i (K.i (K.o (K.i (K.i K.z)))))) Bool.false), .mk (mvR (X.t (K.i (K.o (K.o (K.o K.z)))))) (Option.some (K.o (K.o (K.o (K.i (K.i (K.i K.z))))))) (Gd.on (K.i (K.i (K.i (K.o (K.i (K.i K.z)))))) Bool.false), .mk (mvR (X.t (K.o (K.i (K.o (K.o K.z)))))) (Option.some (K.i (K.o (K.o (K.i (K.i (K.i K.z))))))) (Gd.on (K.i (K.i (K.i (K.o (K.i (K.i K.z)))))) Bool.false)],
   .mk (addH (bslR 1 1 [(AV.int IntKind.u8 0)] [(0, (X.t (K.o (K.i (K.o (K.o (K.o (K.o (K.o K.z)))))))))])) (Option.some (K.i (K.i (K.o (K.o (K.o (K.o (K.o K.z)))))))) (Gd.on (K.i (K.i (K.i (K.o (K.i (K.i K.z)))))) Bool.false) [.mk (ldR Bool.false 1 (X.t (K.i (K.i (K.o (K.i (K.i (K.i K.z)))))))) (Option.some (K.o (K.o (K.i (K.i (K.i (K.i K.z))))))) (Gd.on (K.i (K.i (K.i (K.o (K.i (K.i K.z)))))) Bool.false), .mk (faR 0 (X.t (K.o (K.i (K.o (K.i (K.i (K.i K.z)))))))) (Option.some (K.i (K.i (K.o (K.i (K.i (K.i K.z))))))) (Gd.on (K.i (K.i (K.i (K.o (K.i (K.i K.z)))))) Bool.false), .mk (iaS 3 (X.t (K.o (K.o (K.o (K.i (K.i (K.i K.z))))))) (X.t (K.i (K.o (K.o (K.i (K.i (K.i K.z)))))))) (Option.some (K.o (K.i (K.o (K.i (K.i (K.i K.z))))))) (Gd.on (K.i (K.i (K.i (K.o (K.i (K.i K.z)))))) Bool.false), .mk (mvR (X.t (K.i (K.o (K.o (K.o K.z)))))) (Option.some (K.o (K.o (K.o (K.i (K.i (K.i K.z))))))) (Gd.on (K.i (K.i (K.i (K.o (K.i (K.i K.z)))))) Bool.false), .mk (mvR (X.t (K.o (K.i (K.o (K.o K.z)))))) (Option.some (K.i (K.o (K.o (K.i (K.i (K.i K.z))))))) (Gd.on (K.i (K.i (K.i (K.o (K.i (K.i K.z)))))) Bool.false)],
   .mk (convR Cv.b2s (X.t (K.i (K.i (K.o (K.o (K.o (K.o (K.o K.z))))))))) (Option.some (K.o (K.o (K.i (K.o (K.o (K.o (K.o K.z)))))))) (Gd.on (K.i (K.i (K.i (K.o (K.i (K.i K.z)))))) Bool.false) [.mk (ldR Bool.false 1 (X.t (K.i (K.i (K.o (K.i (K.i (K.i K.z)))))))) (Option.some (K.o (K.o (K.i (K.i (K.i (K.i K.z))))))) (Gd.on (K.i (K.i (K.i (K.o (K.i (K.i K.z)))))) Bool.false), .mk (faR 0 (X.t (K.o (K.i (K.o (K.i (K.i (K.i K.z)))))))) (Option.some (K.i (K.i (K.o (K.i (K.i (K.i K.z))))))) (Gd.on (K.i (K.i (K.i (K.o (K.i (K.i K.z)))))) Bool.false), .mk (iaS 3 (X.t (K.o (K.o (K.o (K.i (K.i (K.i K.z))))))) (X.t (K.i (K.o (K.o (K.i (K.i (K.i K.z)))))))) (Option.some (K.o (K.i (K.o (K.i (K.i (K.i K.z))))))) (Gd.on (K.i (K.i (K.i (K.o (K.i (K.i K.z)))))) Bool.false), .mk (mvR (X.t (K.i (K.o (K.o (K.o K.z)))))) (Option.some (K.o (K.o (K.o (K.i (K.i (K.i K.z))))))) (Gd.on (K.i (K.i (K.i (K.o (K.i (K.i K.z)))))) Bool.false), .mk (mvR (X.t (K.o (K.i (K.o (K.o K.z)))))) (Option.some (K.i (K.o (K.o (K.i (K.i (K.i K.z))))))) (Gd.on (K.i (K.i (K.i (K.o (K.i (K.i K.z)))))) Bool.false)],
   .mk (keepH (binR Try.prog EK.no Option.none Bool.false BinOp.neq (X.t (K.o (K.o (K.i (K.i (K.i (K.i K.z))))))) (X.t (K.o (K.o (K.i (K.o (K.o (K.o (K.o K.z)))))))))) (Option.some (K.i (K.o (K.i (K.o (K.o (K.o (K.o K.z)))))))) (Gd.on (K.i (K.i (K.i (K.o (K.i (K.i K.z)))))) Bool.false) [],
   .mk (keepH (pickR (X.t (K.i (K.i (K.i (K.o (K.i (K.i K.z))))))) (X.c (AV.bool Bool.true)) (X.t (K.i (K.o (K.i (K.o (K.o (K.o (K.o K.z)))))))))) (Option.some (K.o (K.i (K.i (K.o (K.o (K.o (K.o K.z)))))))) Gd.no []])
  (.cond (X.t (K.o (K.i (K.i (K.o (K.o (K.o (K.o K.z))))))))
  (.seq (.region [.mk (mvR (X.c (AV.bool Bool.false))) (Option.some (K.i (K.o (K.o K.z)))) Gd.no []])
  .ret)
  .skip)))
  (.region [.mk (mvR (X.t (K.o (K.i (K.o (K.o K.z)))))) (Option.some (K.o (K.i (K.o (K.i (K.o (K.i K.z))))))) Gd.no [],
   .mk (binR Try.prog EK.no Option.none Bool.true BinOp.add (X.t (K.o (K.i (K.o (K.i (K.o (K.i K.z))))))) (X.c (AV.int IntKind.i64 1))) (Option.some (K.i (K.i (K.o (K.i (K.o (K.i K.z))))))) Gd.no [],
   .mk (mvR (X.t (K.i (K.i (K.o (K.i (K.o (K.i K.z)))))))) (Option.some (K.o (K.i (K.o (K.o K.z))))) Gd.no []])))
noncomputable def C5 : CC :=
  (.seq (.region [.mk (mvR (X.c (AV.bool Bool.false))) (Option.some (K.i (K.o (K.o K.z)))) Gd.no []])
  (.seq (.seq (.region [.mk (callS Try.prog 11 []) (Option.some (K.i (K.i (K.o (K.o K.z))))) Gd.no [],
   .mk (unR UnOp.not (X.t (K.i (K.i (K.o (K.o K.z)))))) (Option.some (K.o (K.o (K.i (K.o K.z))))) Gd.no []])
  (.cond (X.t (K.o (K.o (K.i (K.o K.z)))))
  (.seq (.region [.mk (mvR (X.c (AV.bool Bool.false))) (Option.some (K.i (K.o (K.o K.z)))) Gd.no []])
  .ret)
  .skip))
  (.seq (.seq (.region [.mk (mvR (X.t K.z)) (Option.some (K.i (K.o (K.i (K.o K.z))))) Gd.no [],
   .mk (lenR LnK.slice (X.t (K.i (K.o (K.i (K.o K.z)))))) (Option.some (K.o (K.i (K.i (K.o K.z))))) Gd.no [],
   .mk (binR Try.prog EK.no Option.none Bool.true BinOp.gtr (X.t (K.o (K.i (K.i (K.o K.z))))) (X.c (AV.int IntKind.i64 26))) (Option.some (K.i (K.i (K.i (K.o K.z))))) Gd.no []])
  (.cond (X.t (K.i (K.i (K.i (K.o K.z)))))
  (.seq (.region [.mk (mvR (X.c (AV.bool Bool.true))) (Option.some (K.i (K.o (K.o K.z)))) Gd.no []])
  .ret)
  .skip))
  (.seq (.region [.mk (mvR (X.c AV.nils)) (Option.some (K.o (K.i (K.o K.z)))) Gd.no []])
  (.seq (.seq (.region [.mk (mvR (X.t K.z)) (Option.some (K.o (K.o (K.o (K.i K.z))))) Gd.no [],
   .mk (lenR LnK.slice (X.t (K.o (K.o (K.o (K.i K.z)))))) (Option.some (K.i (K.o (K.o (K.i K.z))))) Gd.no [],
   .mk (binR Try.prog EK.no Option.none Bool.true BinOp.sub (X.t (K.i (K.o (K.o (K.i K.z))))) (X.c (AV.int IntKind.i64 1))) (Option.some (K.o (K.i (K.o (K.i K.z))))) Gd.no [],
   .mk (mvR (X.t (K.o (K.i (K.o (K.i K.z)))))) (Option.some (K.i (K.i (K.o K.z)))) Gd.no []])
  (.block 0 (.loop C5L0)))
  (.seq (.region [.mk (mvR (X.t (K.o K.z))) (Option.some (K.i (K.o (K.i (K.i (K.o K.z)))))) Gd.no [],
   .mk (convR (Cv.int IntKind.i64) (X.t (K.i (K.o (K.i (K.i (K.o K.z))))))) (Option.some (K.o (K.i (K.i (K.i (K.o K.z)))))) Gd.no [],
   .mk (binR Try.prog EK.no Option.none Bool.true BinOp.rem (X.t (K.o (K.i (K.i (K.i (K.o K.z)))))) (X.c (AV.int IntKind.i64 27))) (Option.some (K.i (K.i (K.i (K.i (K.o K.z)))))) Gd.no [],
   .mk (mvR (X.t (K.i K.z))) (Option.some (K.o (K.o (K.o (K.o (K.i K.z)))))) Gd.no [],
   .mk (convR (Cv.int IntKind.i64) (X.t (K.o (K.o (K.o (K.o (K.i K.z))))))) (Option.some (K.i (K.o (K.o (K.o (K.i K.z)))))) Gd.no [],
   .mk (binR Try.prog EK.no Option.none Bool.true BinOp.rem (X.t (K.i (K.o (K.o (K.o (K.i K.z)))))) (X.c (AV.int IntKind.i64 27))) (Option.some (K.o (K.i (K.o (K.o (K.i K.z)))))) Gd.no [],
   .mk (mvR (X.t (K.i (K.i (K.i (K.i (K.o K.z))))))) (Option.some (K.o (K.o (K.i K.z)))) Gd.no [],
   .mk (mvR (X.t (K.o (K.i (K.o (K.o (K.i K.z))))))) (Option.some (K.i (K.o (K.i K.z)))) Gd.no []])
  (.seq (.region [.mk (mvR (X.t (K.o (K.o (K.i K.z))))) (Option.some (K.i (K.i (K.o (K.o (K.i K.z)))))) Gd.no [],
   .mk (binR Try.prog EK.no Option.none Bool.true BinOp.add (X.c (AV.int IntKind.i64 97)) (X.t (K.i (K.i (K.o (K.o (K.i K.z))))))) (Option.some (K.o (K.o (K.i (K.o (K.i K.z)))))) Gd.no [],
   .mk (convR (Cv.int IntKind.u8) (X.t (K.o (K.o (K.i (K.o (K.i K.z))))))) (Option.some (K.i (K.o (K.i (K.o (K.i K.z)))))) Gd.no [],
   .mk (bslR 1 1 [(AV.int IntKind.u8 0)] [(0, (X.t (K.i (K.o (K.i (K.o (K.i K.z)))))))]) (Option.some (K.o (K.i (K.i (K.o (K.i K.z)))))) Gd.no [],
   .mk (convR Cv.b2s (X.t (K.o (K.i (K.i (K.o (K.i K.z))))))) (Option.some (K.i (K.i (K.i (K.o (K.i K.z)))))) Gd.no [],
   .mk (mvR (X.t (K.i (K.o (K.i K.z))))) (Option.some (K.o (K.o (K.o (K.i (K.i K.z)))))) Gd.no [],
   .mk (binR Try.prog EK.no Option.none Bool.true BinOp.add (X.c (AV.int IntKind.i64 97)) (X.t (K.o (K.o (K.o (K.i (K.i K.z))))))) (Option.some (K.i (K.o (K.o (K.i (K.i K.z)))))) Gd.no [],
   .mk (convR (Cv.int IntKind.u8) (X.t (K.i (K.o (K.o (K.i (K.i K.z))))))) (Option.some (K.o (K.i (K.o (K.i (K.i K.z)))))) Gd.no [],
   .mk (bslR 1 1 [(AV.int IntKind.u8 0)] [(0, (X.t (K.o (K.i (K.o (K.i (K.i K.z)))))))]) (Option.some (K.i (K.i (K.o (K.i (K.i K.z)))))) Gd.no [],
   .mk (convR Cv.b2s (X.t (K.i (K.i (K.o (K.i (K.i K.z))))))) (Option.some (K.o (K.o (K.i (K.i (K.i K.z)))))) Gd.no [],
   .mk (buildR [(AV.str []), (AV.str [])] [(0, (1, (X.t (K.i (K.i (K.i (K.o (K.i K.z)))))))), (1, (1, (X.t (K.o (K.o (K.i (K.i (K.i K.z))))))))]) (Option.some (K.i (K.o (K.i (K.i (K.i K.z)))))) Gd.no [],
   .mk (fun _ H => newC Bool.false [(AV.str []), (AV.str [])] H) (Option.some (K.o (K.i (K.i K.z)))) Gd.no [],
   .mk (stR 2 (X.t (K.o (K.i (K.i K.z)))) (X.t (K.i (K.o (K.i (K.i (K.i K.z))))))) Option.none Gd.no []])
  (.seq (.region [.mk (mvR (X.c AV.nils)) (Option.some (K.i (K.i (K.i K.z)))) Gd.no []])
  (.seq (.seq (.region [.mk (mvR (X.c (AV.int IntKind.i64 0))) (Option.some (K.o (K.o (K.o (K.o K.z))))) Gd.no []])
  (.block 2 (.loop C5L1)))
  (.seq (.region [.mk (mvR (X.t (K.o (K.i (K.o K.z))))) (Option.some (K.i (K.o (K.i (K.i (K.i (K.o K.z))))))) Gd.no [],
   .mk (ldR Bool.true 2 (X.t (K.o (K.i (K.i K.z))))) (Option.some (K.o (K.i (K.i (K.i (K.i (K.o K.z))))))) Gd.no [],
   .mk (mvR (X.t (K.o (K.o K.z)))) (Option.some (K.i (K.i (K.i (K.i (K.i (K.o K.z))))))) Gd.no [],
   .mk (callS Try.prog 15 [(X.t (K.i (K.o (K.i (K.i (K.i (K.o K.z))))))), (X.t (K.o (K.i (K.i (K.i (K.i (K.o K.z))))))), (X.t (K.i (K.i (K.i (K.i (K.i (K.o K.z)))))))]) (Option.some (K.o (K.o (K.o (K.o (K.o (K.i K.z))))))) Gd.no [],
   .mk (mvR (X.t (K.o (K.o (K.o (K.o (K.o (K.i K.z)))))))) (Option.some (K.i (K.o (K.o (K.o K.z))))) Gd.no []])
  (.seq (.seq (.region [.mk (mvR (X.t (K.i (K.o (K.o (K.o K.z)))))) (Option.some (K.i (K.o (K.o (K.o (K.o (K.i K.z))))))) Gd.no [],
   .mk (lenR LnK.slice (X.t (K.i (K.o (K.o (K.o (K.o (K.i K.z)))))))) (Option.some (K.o (K.i (K.o (K.o (K.o (K.i K.z))))))) Gd.no [],
   .mk (mvR (X.t (K.i (K.i (K.i K.z))))) (Option.some (K.i (K.i (K.o (K.o (K.o (K.i K.z))))))) Gd.no [],
   .mk (lenR LnK.slice (X.t (K.i (K.i (K.o (K.o (K.o (K.i K.z)))))))) (Option.some (K.o (K.o (K.i (K.o (K.o (K.i K.z))))))) Gd.no [],
   .mk (binR Try.prog EK.no Option.none Bool.false BinOp.neq (X.t (K.o (K.i (K.o (K.o (K.o (K.i K.z))))))) (X.t (K.o (K.o (K.i (K.o (K.o (K.i K.z)))))))) (Option.some (K.i (K.o (K.i (K.o (K.o (K.i K.z))))))) Gd.no []])
  (.cond (X.t (K.i (K.o (K.i (K.o (K.o (K.i K.z)))))))
  (.seq (.region [.mk (mvR (X.c (AV.bool Bool.false))) (Option.some (K.i (K.o (K.o K.z)))) Gd.no []])
  .ret)
  .skip))
  (.seq (.seq (.region [.mk (mvR (X.c (AV.int IntKind.i64 0))) (Option.some (K.o (K.i (K.o (K.o K.z))))) Gd.no []])
  (.block 4 (.loop C5L2)))
  (.seq (.region [.mk (mvR (X.t (K.o (K.i (K.o K.z))))) (Option.some (K.i (K.i (K.i (K.o (K.o (K.o (K.o K.z)))))))) Gd.no [],
   .mk (lenR LnK.slice (X.t (K.i (K.i (K.i (K.o (K.o (K.o (K.o K.z))))))))) (Option.some (K.o (K.o (K.o (K.i (K.o (K.o (K.o K.z)))))))) Gd.no [],
   .mk (mvR (X.t K.z)) (Option.some (K.i (K.o (K.o (K.i (K.o (K.o (K.o K.z)))))))) Gd.no [],
   .mk (lenR LnK.slice (X.t (K.i (K.o (K.o (K.i (K.o (K.o (K.o K.z))))))))) (Option.some (K.o (K.i (K.o (K.i (K.o (K.o (K.o K.z)))))))) Gd.no [],
   .mk (binR Try.prog EK.no Option.none Bool.false BinOp.eql (X.t (K.o (K.o (K.o (K.i (K.o (K.o (K.o K.z)))))))) (X.t (K.o (K.i (K.o (K.i (K.o (K.o (K.o K.z))))))))) (Option.some (K.i (K.i (K.o (K.i (K.o (K.o (K.o K.z)))))))) Gd.no [],
   .mk (mvR (X.t (K.i (K.i (K.o (K.i (K.o (K.o (K.o K.z))))))))) (Option.some (K.i (K.o (K.o K.z)))) Gd.no []])
  .ret)))))))))))))
theorem C5ok : (match Try.f5.body with | some c => comp Try.prog 139 c | none => none) = some C5 := by kernel_rfl
@[go_sem] theorem call5 (args : List AV) (H : Heap) : callC Try.prog 5 args H = .call 5 args := callC_ok (by kernel_rfl) args H
theorem R5ok : resKs Try.prog Try.f5.results.toList = some [(RK.tmp (K.i (K.o (K.o K.z))))] := by kernel_rfl

/- 11: estuary/estuarylaw12.known -/
noncomputable def C11 : CC :=
  (.seq (.region [.mk (mvR (X.c (AV.bool Bool.false))) (Option.some K.z) Gd.no []])
  (.seq (.region [.mk (buildR [(AV.str []), (AV.str []), (AV.int IntKind.i64 0), (AV.bool Bool.false), (AV.int IntKind.i64 0)] [(0, (1, (X.c (AV.str [97])))), (2, (1, (X.c (AV.int IntKind.i64 2)))), (1, (1, (X.c (AV.str [120]))))]) (Option.some (K.i (K.o (K.o K.z)))) Gd.no [],
   .mk (buildR [(AV.str []), (AV.str []), (AV.int IntKind.i64 0), (AV.bool Bool.false), (AV.int IntKind.i64 0)] [(0, (1, (X.c (AV.str [98])))), (2, (1, (X.c (AV.int IntKind.i64 1)))), (3, (1, (X.c (AV.bool Bool.true))))]) (Option.some (K.o (K.i (K.o K.z)))) Gd.no [],
   .mk (fun _ H => newC Bool.false [(AV.str []), (AV.str []), (AV.int IntKind.i64 0), (AV.bool Bool.false), (AV.int IntKind.i64 0)] H) (Option.some (K.o K.z)) Gd.no [],
   .mk (fun _ H => newC Bool.false [(AV.str []), (AV.str []), (AV.int IntKind.i64 0), (AV.bool Bool.false), (AV.int IntKind.i64 0)] H) (Option.some (K.i K.z)) Gd.no [],
   .mk (stR 5 (X.t (K.o K.z)) (X.t (K.i (K.o (K.o K.z))))) Option.none Gd.no [],
   .mk (stR 5 (X.t (K.i K.z)) (X.t (K.o (K.i (K.o K.z))))) Option.none Gd.no []])
  (.seq (.regionD [.mk (keepH (ldR Bool.true 5 (X.t (K.o K.z)))) (Option.some (K.i (K.o (K.i K.z)))) Gd.no [],
   .mk (keepH (ldR Bool.true 5 (X.t (K.i K.z)))) (Option.some (K.i (K.i (K.o K.z)))) Gd.no [],
   .mk (callS Try.prog 22 [(X.c AV.nils), (X.t (K.i (K.i (K.o K.z))))]) (Option.some (K.o (K.o (K.i K.z)))) Gd.no [.mk (ldR Bool.true 5 (X.t (K.o K.z))) (Option.some (K.i (K.o (K.i K.z)))) Gd.no],
   .mk (callS Try.prog 22 [(X.t (K.o (K.o (K.i K.z)))), (X.t (K.i (K.o (K.i K.z))))]) (Option.some (K.o (K.i (K.i K.z)))) Gd.no [],
   .mk (mvR (X.t (K.o (K.i (K.i K.z))))) (Option.some (K.o (K.o K.z))) Gd.no []])
  (.seq (.region [.mk (mvR (X.t (K.o (K.o K.z)))) (Option.some (K.o (K.o (K.o (K.o K.z))))) Gd.no [],
   .mk (callS Try.prog 13 [(X.t (K.o (K.o (K.o (K.o K.z))))), (X.c (AV.str [97]))]) (Option.some (K.i (K.o (K.o (K.o K.z))))) Gd.no [],
   .mk (mvR (X.t (K.i (K.o (K.o (K.o K.z)))))) (Option.some (K.i (K.i (K.i K.z)))) Gd.no [],
   .mk (extR (X.t (K.i (K.i (K.i K.z)))) 0) (Option.some (K.o (K.i (K.o (K.o K.z))))) Gd.no [],
   .mk (extR (X.t (K.i (K.i (K.i K.z)))) 1) (Option.some (K.i (K.i (K.o (K.o K.z))))) Gd.no [],
   .mk (fun _ H => newC Bool.false [(AV.str []), (AV.str []), (AV.int IntKind.i64 0), (AV.bool Bool.false), (AV.int IntKind.i64 0)] H) (Option.some (K.i (K.o K.z))) Gd.no [],
   .mk (stR 5 (X.t (K.i (K.o K.z))) (X.t (K.o (K.i (K.o (K.o K.z)))))) Option.none Gd.no [],
   .mk (mvR (X.t (K.i (K.i (K.o (K.o K.z)))))) (Option.some (K.o (K.i K.z))) Gd.no []])
  (.seq (.region [.mk (mvR (X.t (K.o (K.o K.z)))) (Option.some (K.i (K.o (K.i (K.o K.z))))) Gd.no [],
   .mk (callS Try.prog 13 [(X.t (K.i (K.o (K.i (K.o K.z))))), (X.c (AV.str [99]))]) (Option.some (K.o (K.i (K.i (K.o K.z))))) Gd.no [],
   .mk (mvR (X.t (K.o (K.i (K.i (K.o K.z)))))) (Option.some (K.o (K.o (K.i (K.o K.z))))) Gd.no [],
   .mk (extR (X.t (K.o (K.o (K.i (K.o K.z))))) 0) (Option.some (K.i (K.i (K.i (K.o K.z))))) Gd.no [],
   .mk (extR (X.t (K.o (K.o (K.i (K.o K.z))))) 1) (Option.some (K.o (K.o (K.o (K.i K.z))))) Gd.no [],
   .mk (fun _ H => newC Bool.false [(AV.str []), (AV.str []), (AV.int IntKind.i64 0), (AV.bool Bool.false), (AV.int IntKind.i64 0)] H) (Option.some (K.i (K.i K.z))) Gd.no [],
   .mk (stR 5 (X.t (K.i (K.i K.z))) (X.t (K.i (K.i (K.i (K.o K.z)))))) Option.none Gd.no [],
   .mk (mvR (X.t (K.o (K.o (K.o (K.i K.z)))))) (Option.some (K.o (K.o (K.o K.z)))) Gd.no []])
  (.seq (.regionD [.mk (keepH (mvR (X.t (K.o (K.o K.z))))) (Option.some (K.i (K.o (K.o (K.i K.z))))) Gd.no [],
   .mk (callS Try.prog 17 [(X.t (K.i (K.o (K.o (K.i K.z)))))]) (Option.some (K.o (K.i (K.o (K.i K.z))))) Gd.no [],
   .mk (keepH (mvR (X.t (K.o (K.i (K.o (K.i K.z))))))) (Option.some (K.i (K.i (K.o (K.i K.z))))) Gd.no [],
   .mk (keepH (mvR (X.t (K.o (K.o K.z))))) (Option.some (K.o (K.o (K.i (K.i K.z))))) (Gd.on (K.i (K.i (K.o (K.i K.z)))) Bool.true) [],
   .mk (keepH (lenR LnK.slice (X.t (K.o (K.o (K.i (K.i K.z))))))) (Option.some (K.i (K.o (K.i (K.i K.z))))) (Gd.on (K.i (K.i (K.o (K.i K.z)))) Bool.true) [],
   .mk (keepH (binR Try.prog EK.no Option.none Bool.true BinOp.eql (X.t (K.i (K.o (K.i (K.i K.z))))) (X.c (AV.int IntKind.i64 2)))) (Option.some (K.o (K.i (K.i (K.i K.z))))) (Gd.on (K.i (K.i (K.o (K.i K.z)))) Bool.true) [],
   .mk (keepH (pickR (X.t (K.i (K.i (K.o (K.i K.z))))) (X.t (K.o (K.i (K.i (K.i K.z))))) (X.c (AV.bool Bool.false)))) (Option.some (K.i (K.i (K.i (K.i K.z))))) Gd.no [],
   .mk (keepH (mvR (X.t (K.i (K.i (K.i (K.i K.z))))))) (Option.some (K.o (K.o (K.o (K.o (K.o K.z)))))) Gd.no [],
   .mk (keepH (ldR Bool.true 5 (X.t (K.o K.z)))) (Option.some (K.o (K.o (K.i (K.o (K.o K.z)))))) (Gd.on (K.o (K.o (K.o (K.o (K.o K.z))))) Bool.true) [],
   .mk (keepH (mvR (X.t (K.o (K.o K.z))))) (Option.some (K.i (K.o (K.o (K.o (K.o K.z)))))) (Gd.on (K.o (K.o (K.o (K.o (K.o K.z))))) Bool.true) [],
   .mk (keepH (iaS 5 (X.t (K.i (K.o (K.o (K.o (K.o K.z)))))) (X.c (AV.int IntKind.i64 0)))) (Option.some (K.o (K.i (K.o (K.o (K.o K.z)))))) (Gd.on (K.o (K.o (K.o (K.o (K.o K.z))))) Bool.true) [],
   .mk (keepH (ldR Bool.true 5 (X.t (K.o (K.i (K.o (K.o (K.o K.z)))))))) (Option.some (K.i (K.i (K.o (K.o (K.o K.z)))))) (Gd.on (K.o (K.o (K.o (K.o (K.o K.z))))) Bool.true) [],
   .mk (keepH (binR Try.prog EK.no (Option.some [LK.str, LK.str, LK.int, LK.bool, LK.int]) Bool.false BinOp.eql (X.t (K.i (K.i (K.o (K.o (K.o K.z)))))) (X.t (K.o (K.o (K.i (K.o (K.o K.z)))))))) (Option.some (K.i (K.o (K.i (K.o (K.o K.z)))))) (Gd.on (K.o (K.o (K.o (K.o (K.o K.z))))) Bool.true) [],
   .mk (keepH (pickR (X.t (K.o (K.o (K.o (K.o (K.o K.z)))))) (X.t (K.i (K.o (K.i (K.o (K.o K.z)))))) (X.c (AV.bool Bool.false)))) (Option.some (K.o (K.i (K.i (K.o (K.o K.z)))))) Gd.no [],
   .mk (keepH (mvR (X.t (K.o (K.i (K.i (K.o (K.o K.z)))))))) (Option.some (K.i (K.i (K.i (K.o (K.o K.z)))))) Gd.no [],
   .mk (keepH (mvR (X.t (K.o (K.i K.z))))) (Option.some (K.o (K.o (K.o (K.i (K.o K.z)))))) (Gd.on (K.i (K.i (K.i (K.o (K.o K.z))))) Bool.true) [],
   .mk (keepH (pickR (X.t (K.i (K.i (K.i (K.o (K.o K.z)))))) (X.t (K.o (K.o (K.o (K.i (K.o K.z)))))) (X.c (AV.bool Bool.false)))) (Option.some (K.i (K.o (K.o (K.i (K.o K.z)))))) Gd.no [],
   .mk (keepH (mvR (X.t (K.i (K.o (K.o (K.i (K.o K.z)))))))) (Option.some (K.o (K.i (K.o (K.i (K.o K.z)))))) Gd.no [],
   .mk (keepH (ldR Bool.true 5 (X.t (K.o K.z)))) (Option.some (K.o (K.o (K.i (K.i (K.o K.z)))))) (Gd.on (K.o (K.i (K.o (K.i (K.o K.z))))) Bool.true) [],
   .mk (keepH (ldR Bool.true 5 (X.t (K.i (K.o K.z))))) (Option.some (K.i (K.i (K.o (K.i (K.o K.z)))))) (Gd.on (K.o (K.i (K.o (K.i (K.o K.z))))) Bool.true) [],
   .mk (keepH (binR Try.prog EK.no (Option.some [LK.str, LK.str, LK.int, LK.bool, LK.int]) Bool.false BinOp.eql (X.t (K.i (K.i (K.o (K.i (K.o K.z)))))) (X.t (K.o (K.o (K.i (K.i (K.o K.z)))))))) (Option.some (K.i (K.o (K.i (K.i (K.o K.z)))))) (Gd.on (K.o (K.i (K.o (K.i (K.o K.z))))) Bool.true) [],
   .mk (keepH (pickR (X.t (K.o (K.i (K.o (K.i (K.o K.z)))))) (X.t (K.i (K.o (K.i (K.i (K.o K.z)))))) (X.c (AV.bool Bool.false)))) (Option.some (K.o (K.i (K.i (K.i (K.o K.z)))))) Gd.no [],
   .mk (keepH (mvR (X.t (K.o (K.i (K.i (K.i (K.o K.z)))))))) (Option.some (K.i (K.i (K.i (K.i (K.o K.z)))))) Gd.no [],
   .mk (keepH (mvR (X.t (K.o (K.o (K.o K.z)))))) (Option.some (K.o (K.o (K.o (K.o (K.i K.z)))))) (Gd.on (K.i (K.i (K.i (K.i (K.o K.z))))) Bool.true) [],
   .mk (keepH (unR UnOp.not (X.t (K.o (K.o (K.o (K.o (K.i K.z)))))))) (Option.some (K.i (K.o (K.o (K.o (K.i K.z)))))) (Gd.on (K.i (K.i (K.i (K.i (K.o K.z))))) Bool.true) [],
   .mk (keepH (pickR (X.t (K.i (K.i (K.i (K.i (K.o K.z)))))) (X.t (K.i (K.o (K.o (K.o (K.i K.z)))))) (X.c (AV.bool Bool.false)))) (Option.some (K.o (K.i (K.o (K.o (K.i K.z)))))) Gd.no [],
   .mk (keepH (mvR (X.t (K.o (K.i (K.o (K.o (K.i K.z)))))))) (Option.some (K.i (K.i (K.o (K.o (K.i K.z)))))) Gd.no [],
   .mk (keepH (ldR Bool.true 5 (X.t (K.i (K.i K.z))))) (Option.some (K.o (K.o (K.i (K.o (K.i K.z)))))) (Gd.on (K.i (K.i (K.o (K.o (K.i K.z))))) Bool.true) [],
   .mk (buildR [(AV.str []), (AV.str []), (AV.int IntKind.i64 0), (AV.bool Bool.false), (AV.int IntKind.i64 0)] [(0, (1, (X.c (AV.str [99]))))]) (Option.some (K.i (K.o (K.i (K.o (K.i K.z)))))) (Gd.on (K.i (K.i (K.o (K.o (K.i K.z))))) Bool.true) [.mk (ldR Bool.true 5 (X.t (K.i (K.i K.z)))) (Option.some (K.o (K.o (K.i (K.o (K.i K.z)))))) (Gd.on (K.i (K.i (K.o (K.o (K.i K.z))))) Bool.true)],
   .mk (keepH (binR Try.prog EK.no (Option.some [LK.str, LK.str, LK.int, LK.bool, LK.int]) Bool.false BinOp.eql (X.t (K.o (K.o (K.i (K.o (K.i K.z)))))) (X.t (K.i (K.o (K.i (K.o (K.i K.z)))))))) (Option.some (K.o (K.i (K.i (K.o (K.i K.z)))))) (Gd.on (K.i (K.i (K.o (K.o (K.i K.z))))) Bool.true) [],
   .mk (keepH (pickR (X.t (K.i (K.i (K.o (K.o (K.i K.z)))))) (X.t (K.o (K.i (K.i (K.o (K.i K.z)))))) (X.c (AV.bool Bool.false)))) (Option.some (K.i (K.i (K.i (K.o (K.i K.z)))))) Gd.no [],
   .mk (keepH (mvR (X.t (K.i (K.i (K.i (K.o (K.i K.z)))))))) (Option.some (K.o (K.o (K.o (K.i (K.i K.z)))))) Gd.no [],
   .mk (keepH (mvR (X.t (K.o (K.o K.z))))) (Option.some (K.i (K.o (K.o (K.i (K.i K.z)))))) (Gd.on (K.o (K.o (K.o (K.i (K.i K.z))))) Bool.true) [],
   .mk (buildR [(AV.str []), (AV.str [])] [(0, (1, (X.c (AV.str [98]))))]) (Option.some (K.o (K.i (K.o (K.i (K.i K.z)))))) (Gd.on (K.o (K.o (K.o (K.i (K.i K.z))))) Bool.true) [.mk (mvR (X.t (K.o (K.o K.z)))) (Option.some (K.i (K.o (K.o (K.i (K.i K.z)))))) (Gd.on (K.o (K.o (K.o (K.i (K.i K.z))))) Bool.true)],
   .mk (callS Try.prog 20 [(X.t (K.i (K.o (K.o (K.i (K.i K.z)))))), (X.t (K.o (K.i (K.o (K.i (K.i K.z))))))]) (Option.some (K.i (K.i (K.o (K.i (K.i K.z)))))) (Gd.on (K.o (K.o (K.o (K.i (K.i K.z))))) Bool.true) [],
   .mk (keepH (lenR LnK.slice (X.t (K.i (K.i (K.o (K.i (K.i K.z)))))))) (Option.some (K.o (K.o (K.i (K.i (K.i K.z)))))) (Gd.on (K.o (K.o (K.o (K.i (K.i K.z))))) Bool.true) [],
   .mk (keepH (binR Try.prog EK.no Option.none Bool.true BinOp.eql (X.t (K.o (K.o (K.i (K.i (K.i K.z)))))) (X.c (AV.int IntKind.i64 1)))) (Option.some (K.i (K.o (K.i (K.i (K.i K.z)))))) (Gd.on (K.o (K.o (K.o (K.i (K.i K.z))))) Bool.true) [],
   .mk (keepH (pickR (X.t (K.o (K.o (K.o (K.i (K.i K.z)))))) (X.t (K.i (K.o (K.i (K.i (K.i K.z)))))) (X.c (AV.bool Bool.false)))) (Option.some (K.o (K.i (K.i (K.i (K.i K.z)))))) Gd.no [],
   .mk (keepH (mvR (X.t (K.o (K.i (K.i (K.i (K.i K.z)))))))) (Option.some (K.i (K.i (K.i (K.i (K.i K.z)))))) Gd.no [],
   .mk (keepH (mvR (X.t (K.o (K.o K.z))))) (Option.some (K.o (K.o (K.o (K.o (K.o (K.o K.z))))))) (Gd.on (K.i (K.i (K.i (K.i (K.i K.z))))) Bool.true) [],
   .mk (buildR [(AV.str []), (AV.str [])] []) (Option.some (K.i (K.o (K.o (K.o (K.o (K.o K.z))))))) (Gd.on (K.i (K.i (K.i (K.i (K.i K.z))))) Bool.true) [.mk (mvR (X.t (K.o (K.o K.z)))) (Option.some (K.o (K.o (K.o (K.o (K.o (K.o K.z))))))) (Gd.on (K.i (K.i (K.i (K.i (K.i K.z))))) Bool.true)],
   .mk (callS Try.prog 15 [(X.t (K.o (K.o (K.o (K.o (K.o (K.o K.z))))))), (X.t (K.i (K.o (K.o (K.o (K.o (K.o K.z))))))), (X.c (AV.int IntKind.i64 9))]) (Option.some (K.o (K.i (K.o (K.o (K.o (K.o K.z))))))) (Gd.on (K.i (K.i (K.i (K.i (K.i K.z))))) Bool.true) [],
   .mk (keepH (lenR LnK.slice (X.t (K.o (K.i (K.o (K.o (K.o (K.o K.z))))))))) (Option.some (K.i (K.i (K.o (K.o (K.o (K.o K.z))))))) (Gd.on (K.i (K.i (K.i (K.i (K.i K.z))))) Bool.true) [],
   .mk (keepH (binR Try.prog EK.no Option.none Bool.true BinOp.eql (X.t (K.i (K.i (K.o (K.o (K.o (K.o K.z))))))) (X.c (AV.int IntKind.i64 1)))) (Option.some (K.o (K.o (K.i (K.o (K.o (K.o K.z))))))) (Gd.on (K.i (K.i (K.i (K.i (K.i K.z))))) Bool.true) [],
   .mk (keepH (pickR (X.t (K.i (K.i (K.i (K.i (K.i K.z)))))) (X.t (K.o (K.o (K.i (K.o (K.o (K.o K.z))))))) (X.c (AV.bool Bool.false)))) (Option.some (K.i (K.o (K.i (K.o (K.o (K.o K.z))))))) Gd.no [],
   .mk (mvR (X.t (K.i (K.o (K.i (K.o (K.o (K.o K.z)))))))) (Option.some K.z) Gd.no []])
  .ret))))))
theorem C11ok : (match Try.f11.body with | some c => comp Try.prog 69 c | none => none) = some C11 := by kernel_rfl
@[go_sem] theorem call11 (args : List AV) (H : Heap) : callC Try.prog 11 args H = .call 11 args := callC_ok (by kernel_rfl) args H
theorem R11ok : resKs Try.prog Try.f11.results.toList = some [(RK.tmp K.z)] := by kernel_rfl

end Go.Proofs
/- index: the known example, walked. -/


set_option linter.all false
set_option maxRecDepth 100000
namespace Go.Proofs
open Go Go.Ev
variable {H : Heap}

def kA : Cell := ⟨[97], [120], 2, false, 0⟩
def kB : Cell := ⟨[98], [], 1, true, 0⟩
theorem kA_is : cellIs kA := by decide
theorem kB_is : cellIs kB := by decide
theorem ltAB : ltS [97] [98] := by rw [ltS_cons]; exact .inl (by decide)
theorem ltBA : ¬ ltS [98] [97] := ltS_asymm ltAB
theorem w1 : withC [] kB = [kB] := by rw [withC, if_pos kB_is]; rfl
theorem w2 : withC [kB] kA = [kA, kB] := by
  rw [withC, if_pos kA_is, withL, if_neg (show ¬ ltS kB.key kA.key from ltBA), if_neg (by decide)]
theorem k1 (H : Heap) : EI 22 [.nils, .agg [.str [98], .str [], .int .i64 1, .bool true, .int .i64 0]] H = .ok (.slice H.nx 0 1 5 false 1) (H.ext [.row true 5 [[.str [98], .str [], .int .i64 1, .bool true, .int .i64 0]]]) := by
  refine (e22 (v := .nils) (l := []) (.inl ⟨rfl, rfl⟩) (by decide) kB).trans ?_
  rw [w1]; rfl
theorem arr1 {L : List Blk} (h : L[2]? = some (.row true 5 [[.str [98], .str [], .int .i64 1, .bool true, .int .i64 0]])) : Arr (H.ext L) 5 (.slice (H.key 2) 0 1 5 false 1) ([kB].map Cell.enc) := outB_arr (xs := [kB.enc]) h
theorem arr2 {L : List Blk} (h : L[3]? = some (.row true 5 [[.str [97], .str [120], .int .i64 2, .bool false, .int .i64 0], [.str [98], .str [], .int .i64 1, .bool true, .int .i64 0]])) : Arr (H.ext L) 5 (.slice (H.key 3) 0 2 5 false 2) ([kA, kB].map Cell.enc) := outB_arr (xs := [kA.enc, kB.enc]) h
theorem k2 {L : List Blk} (h : L[2]? = some (.row true 5 [[.str [98], .str [], .int .i64 1, .bool true, .int .i64 0]])) : EI 22 [.slice (H.key 2) 0 1 5 false 1, .agg [.str [97], .str [120], .int .i64 2, .bool false, .int .i64 0]] (H.ext L) = .ok (.slice (H.key L.length) 0 2 5 false 2) (H.ext (L ++ [.row true 5 [[.str [97], .str [120], .int .i64 2, .bool false, .int .i64 0], [.str [98], .str [], .int .i64 1, .bool true, .int .i64 0]]])) := by
  refine (e22 (l := [kB]) (arr1 h) (by decide) kA).trans ?_
  rw [w2, Heap.nx_ext, Heap.ext_append]; rfl
theorem idx2 : isIdx [kA, kB] := by
  intro j hj
  match j, hj with
  | 0, _ => exact ⟨_, rfl, kA_is, fun h => absurd h (by decide)⟩
  | 1, _ => exact ⟨_, rfl, kB_is, fun _ => ⟨_, rfl, ltAB⟩⟩
theorem k17 {L : List Blk} (h : L[3]? = some (.row true 5 [[.str [97], .str [120], .int .i64 2, .bool false, .int .i64 0], [.str [98], .str [], .int .i64 1, .bool true, .int .i64 0]])) : EI 17 [.slice (H.key 3) 0 2 5 false 2] (H.ext L) = .ok (.bool true) (H.ext L) := by
  refine (e17 (l := [kA, kB]) (arr2 h) (by decide)).trans ?_
  rw [decide_eq_true idx2]
theorem isKey1 (x : Nat) : isKey [x] := ⟨by simp, by simp⟩
theorem win2 : withinL [98] [] [kA, kB] = [kB] := by
  have h1 : ¬ has [98] [] kA.key := fun h => h.2.2.1 ltAB
  have h2 : has [98] [] kB.key := ⟨⟨by decide, by decide, .inl rfl⟩, isKey1 _, ltS_irrefl _, .inl rfl⟩
  simp [withinL, h1, h2]
theorem k20 {L : List Blk} (h : L[3]? = some (.row true 5 [[.str [97], .str [120], .int .i64 2, .bool false, .int .i64 0], [.str [98], .str [], .int .i64 1, .bool true, .int .i64 0]])) : EI 20 [.slice (H.key 3) 0 2 5 false 2, .agg [.str [98], .str []]] (H.ext L) = .ok (.slice (H.key L.length) 0 1 5 false 1) (H.ext (L ++ [.row true 5 [[.str [98], .str [], .int .i64 1, .bool true, .int .i64 0]]])) := by
  refine (e20 (l := [kA, kB]) (arr2 h) (by decide) _ _).trans ?_
  rw [win2, Heap.nx_ext, Heap.ext_append]; rfl
theorem rows2 : rowsL [] [] 9 [kA, kB] = [kA] := by
  have h1 : has [] [] kA.key := ⟨⟨by decide, by decide, .inl rfl⟩, isKey1 _, not_ltS_nil _, .inl rfl⟩
  have h2 : ¬ there kB := by decide
  have h3 : there kA := by decide
  simp [rowsL, h1, h2, h3]
theorem k15 {L : List Blk} (h : L[3]? = some (.row true 5 [[.str [97], .str [120], .int .i64 2, .bool false, .int .i64 0], [.str [98], .str [], .int .i64 1, .bool true, .int .i64 0]])) : EI 15 [.slice (H.key 3) 0 2 5 false 2, .agg [.str [], .str []], .int .i64 9] (H.ext L) = .ok (.slice (H.key L.length) 0 1 3 false 1) (H.ext (L ++ [.row true 3 [[.str [97], .str [120], .int .i64 2]]])) := by
  refine (e15 (l := [kA, kB]) (arr2 h) (by decide) _ _ _).trans ?_
  rw [rows2, Heap.nx_ext, Heap.ext_append]; rfl
theorem g97 {L : List Blk} (h : L[3]? = some (.row true 5 [[.str [97], .str [120], .int .i64 2, .bool false, .int .i64 0], [.str [98], .str [], .int .i64 1, .bool true, .int .i64 0]])) : FnOk Try.prog 13 [.slice (H.key 3) 0 2 5 false 2, .str [97]] (H.ext L) fun r G => r = .tup [.agg [.str [97], .str [120], .int .i64 2, .bool false, .int .i64 0], .bool true] ∧ G = H.ext L := f13_ok (l := [kA, kB]) (arr2 h) (by decide) [97]
theorem g99 {L : List Blk} (h : L[3]? = some (.row true 5 [[.str [97], .str [120], .int .i64 2, .bool false, .int .i64 0], [.str [98], .str [], .int .i64 1, .bool true, .int .i64 0]])) : FnOk Try.prog 13 [.slice (H.key 3) 0 2 5 false 2, .str [99]] (H.ext L) fun r G => r = .tup [.agg [.str [99], .str [], .int .i64 0, .bool false, .int .i64 0], .bool false] ∧ G = H.ext L := f13_ok (l := [kA, kB]) (arr2 h) (by decide) [99]
theorem readC_z {β : Type} (f : β) (esz : Nat) (x y : List AV) (rows : List (List AV)) (n : Nat) (c : List AV → β) (hp : 0 < esz) (hn : n ≤ esz) : readC f esz (x :: y :: rows) 0 n c = bif' (Nat.beq n esz) (c x) (takeC f n x c) := by
  have := readC_at0 f esz (x :: y :: rows) 0 n c hp hn
  rwa [Nat.zero_mul] at this
theorem f11_ok : FnOk Try.prog 11 [] H fun r G => r = .bool true ∧ G = H := by
  refine FnOk.assume fun hok => ?_
  refine FnOk.drop (R := fun r => r = .bool true) ?_ (by rintro v rfl ρ; rw [AV.ren])
  refine FnOk.of_WW Try.func11 rfl C11ok R11ok EI good_EI ?_
  simp only [go_sem, C11, Nat.reduceAdd, Nat.reduceSub, Nat.reduceMul, Nat.reduceDiv, Nat.reduceMod, Nat.reduceEqDiff, Nat.reduceLeDiff, Nat.reduceLT, Int.reduceLT, Int.reduceLE, Int.reduceEq, Int.reduceToNat, reduceIte, reduceCtorEq]
  simp only [go_sem, k1, k2, Nat.reduceAdd, Nat.reduceSub, Nat.reduceMul, Nat.reduceDiv, Nat.reduceMod, Nat.reduceEqDiff, Nat.reduceLeDiff, Nat.reduceLT, Int.reduceLT, Int.reduceLE, Int.reduceEq, Int.reduceToNat, reduceIte, reduceCtorEq]
  refine CL.of (g97 rfl) ?_
  rintro _ _ ⟨rfl, rfl⟩
  simp only [go_sem, Nat.reduceAdd, Nat.reduceSub, Nat.reduceMul, Nat.reduceDiv, Nat.reduceMod, Nat.reduceEqDiff, Nat.reduceLeDiff, Nat.reduceLT, Int.reduceLT, Int.reduceLE, Int.reduceEq, Int.reduceToNat, reduceIte, reduceCtorEq]
  refine CL.of (g99 rfl) ?_
  rintro _ _ ⟨rfl, rfl⟩
  simp only [go_sem, Nat.reduceAdd, Nat.reduceSub, Nat.reduceMul, Nat.reduceDiv, Nat.reduceMod, Nat.reduceEqDiff, Nat.reduceLeDiff, Nat.reduceLT, Int.reduceLT, Int.reduceLE, Int.reduceEq, Int.reduceToNat, reduceIte, reduceCtorEq, k17, k20, k15, readC_z]
  exact ⟨_, rfl⟩

end Go.Proofs
