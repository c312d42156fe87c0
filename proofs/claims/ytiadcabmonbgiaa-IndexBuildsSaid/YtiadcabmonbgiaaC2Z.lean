/- The laid-out code of the functions that are walked. Printed by a program. -/
import Derived.Test.YtiadcabmonbgiaaEvAD
import Derived.Test.YtiadcabmonbgiaaProg
import Derived.KernelRfl
set_option linter.all false
set_option maxRecDepth 100000
namespace Go.Proofs
open Go Go.Ev
/- 3: estuary/estuarylaw12.IndexTells -/
noncomputable def C3L0 : CC :=
  (.seq (.seq (.region [.mk (mvR (X.t (K.o (K.i (K.o (K.o K.z)))))) (Option.some (K.o (K.o (K.o (K.i (K.o (K.o K.z))))))) Gd.no [],
   .mk (mvR (X.t (K.o (K.o (K.o (K.o K.z)))))) (Option.some (K.i (K.o (K.o (K.i (K.o (K.o K.z))))))) Gd.no [],
   .mk (lenR LnK.slice (X.t (K.i (K.o (K.o (K.i (K.o (K.o K.z)))))))) (Option.some (K.o (K.i (K.o (K.i (K.o (K.o K.z))))))) Gd.no [],
   .mk (binR Try.prog EK.no Option.none Bool.false BinOp.lss (X.t (K.o (K.o (K.o (K.i (K.o (K.o K.z))))))) (X.t (K.o (K.i (K.o (K.i (K.o (K.o K.z)))))))) (Option.some (K.i (K.i (K.o (K.i (K.o (K.o K.z))))))) Gd.no []])
  (.cond (X.t (K.i (K.i (K.o (K.i (K.o (K.o K.z)))))))
  .skip
  (.exit 0)))
  (.seq (.block 1 (.seq (.regionD [.mk (keepH (mvR (X.t (K.o (K.i (K.o (K.o K.z))))))) (Option.some (K.i (K.i (K.o (K.o (K.i (K.o K.z))))))) Gd.no [],
   .mk (keepH (mvR (X.t (K.i (K.o (K.o (K.o K.z))))))) (Option.some (K.o (K.i (K.o (K.o (K.i (K.o K.z))))))) Gd.no [],
   .mk (keepH (iaS 3 (X.t (K.o (K.i (K.o (K.o (K.i (K.o K.z))))))) (X.t (K.i (K.i (K.o (K.o (K.i (K.o K.z))))))))) (Option.some (K.o (K.o (K.i (K.o (K.i (K.o K.z))))))) Gd.no [],
   .mk (keepH (ldR Bool.true 3 (X.t (K.o (K.o (K.i (K.o (K.i (K.o K.z))))))))) (Option.some (K.i (K.o (K.i (K.o (K.i (K.o K.z))))))) Gd.no [],
   .mk (keepH (mvR (X.t (K.o (K.i (K.o (K.o K.z))))))) (Option.some (K.i (K.i (K.i (K.i (K.o (K.o K.z))))))) Gd.no [],
   .mk (keepH (mvR (X.t (K.o (K.o (K.o (K.o K.z))))))) (Option.some (K.o (K.i (K.i (K.i (K.o (K.o K.z))))))) Gd.no [],
   .mk (keepH (iaS 3 (X.t (K.o (K.i (K.i (K.i (K.o (K.o K.z))))))) (X.t (K.i (K.i (K.i (K.i (K.o (K.o K.z))))))))) (Option.some (K.o (K.o (K.o (K.o (K.i (K.o K.z))))))) Gd.no [],
   .mk (keepH (ldR Bool.true 3 (X.t (K.o (K.o (K.o (K.o (K.i (K.o K.z))))))))) (Option.some (K.i (K.o (K.o (K.o (K.i (K.o K.z))))))) Gd.no [],
   .mk (keepH (binR Try.prog EK.no (Option.some [LK.str, LK.str, LK.int]) Bool.false BinOp.neq (X.t (K.i (K.o (K.o (K.o (K.i (K.o K.z))))))) (X.t (K.i (K.o (K.i (K.o (K.i (K.o K.z))))))))) (Option.some (K.o (K.i (K.i (K.o (K.i (K.o K.z))))))) Gd.no []])
  (.cond (X.t (K.o (K.i (K.i (K.o (K.i (K.o K.z)))))))
  (.seq (.region [.mk (mvR (X.c (AV.bool Bool.false))) (Option.some (K.i (K.i (K.o K.z)))) Gd.no []])
  .ret)
  .skip)))
  (.region [.mk (mvR (X.t (K.o (K.i (K.o (K.o K.z)))))) (Option.some (K.o (K.o (K.i (K.i (K.o (K.o K.z))))))) Gd.no [],
   .mk (binR Try.prog EK.no Option.none Bool.true BinOp.add (X.t (K.o (K.o (K.i (K.i (K.o (K.o K.z))))))) (X.c (AV.int IntKind.i64 1))) (Option.some (K.i (K.o (K.i (K.i (K.o (K.o K.z))))))) Gd.no [],
   .mk (mvR (X.t (K.i (K.o (K.i (K.i (K.o (K.o K.z)))))))) (Option.some (K.o (K.i (K.o (K.o K.z))))) Gd.no []])))
noncomputable def C3 : CC :=
  (.seq (.region [.mk (boxR Bool.false (X.t (K.o K.z))) (Option.some (K.i (K.i K.z))) Gd.no [],
   .mk (boxR Bool.false (X.t (K.o (K.o K.z)))) (Option.some (K.i (K.o (K.o K.z)))) Gd.no [],
   .mk (mvR (X.c (AV.bool Bool.false))) (Option.some (K.i (K.i (K.o K.z)))) Gd.no []])
  (.seq (.seq (.region [.mk (callS Try.prog 11 []) (Option.some (K.i (K.i (K.o (K.o K.z))))) Gd.no [],
   .mk (unR UnOp.not (X.t (K.i (K.i (K.o (K.o K.z)))))) (Option.some (K.o (K.o (K.i (K.o K.z))))) Gd.no []])
  (.cond (X.t (K.o (K.o (K.i (K.o K.z)))))
  (.seq (.region [.mk (mvR (X.c (AV.bool Bool.false))) (Option.some (K.i (K.i (K.o K.z)))) Gd.no []])
  .ret)
  .skip))
  (.seq (.seq (.region [.mk (mvR (X.t K.z)) (Option.some (K.i (K.o (K.i (K.o K.z))))) Gd.no [],
   .mk (callS Try.prog 12 [(X.t (K.i (K.o (K.i (K.o K.z)))))]) (Option.some (K.o (K.i (K.i (K.o K.z))))) Gd.no [],
   .mk (unR UnOp.not (X.t (K.o (K.i (K.i (K.o K.z)))))) (Option.some (K.i (K.i (K.i (K.o K.z))))) Gd.no [],
   .mk (mvR (X.t (K.i (K.i (K.i (K.o K.z)))))) (Option.some (K.o (K.o (K.o (K.i K.z))))) Gd.no [],
   .mk (ldR Bool.true 5 (X.t (K.i (K.i K.z)))) (Option.some (K.i (K.o (K.o (K.i K.z))))) (Gd.on (K.o (K.o (K.o (K.i K.z)))) Bool.false) [],
   .mk (bslR 5 1 [(AV.str []), (AV.str []), (AV.int IntKind.i64 0), (AV.bool Bool.false), (AV.int IntKind.i64 0)] [(0, (X.t (K.i (K.o (K.o (K.i K.z))))))]) (Option.some (K.o (K.i (K.o (K.i K.z))))) (Gd.on (K.o (K.o (K.o (K.i K.z)))) Bool.false) [],
   .mk (callS Try.prog 12 [(X.t (K.o (K.i (K.o (K.i K.z)))))]) (Option.some (K.i (K.i (K.o (K.i K.z))))) (Gd.on (K.o (K.o (K.o (K.i K.z)))) Bool.false) [],
   .mk (unR UnOp.not (X.t (K.i (K.i (K.o (K.i K.z)))))) (Option.some (K.o (K.o (K.i (K.i K.z))))) (Gd.on (K.o (K.o (K.o (K.i K.z)))) Bool.false) [],
   .mk (pickR (X.t (K.o (K.o (K.o (K.i K.z))))) (X.c (AV.bool Bool.true)) (X.t (K.o (K.o (K.i (K.i K.z)))))) (Option.some (K.i (K.o (K.i (K.i K.z))))) Gd.no [],
   .mk (mvR (X.t (K.i (K.o (K.i (K.i K.z)))))) (Option.some (K.o (K.i (K.i (K.i K.z))))) Gd.no [],
   .mk (mvR (X.t (K.i K.z))) (Option.some (K.i (K.i (K.i (K.i K.z))))) (Gd.on (K.o (K.i (K.i (K.i K.z)))) Bool.false) [],
   .mk (lenR LnK.str (X.t (K.i (K.i (K.i (K.i K.z)))))) (Option.some (K.o (K.o (K.o (K.o (K.o K.z)))))) (Gd.on (K.o (K.i (K.i (K.i K.z)))) Bool.false) [],
   .mk (binR Try.prog EK.no Option.none Bool.true BinOp.gtr (X.t (K.o (K.o (K.o (K.o (K.o K.z)))))) (X.c (AV.int IntKind.i64 20))) (Option.some (K.i (K.o (K.o (K.o (K.o K.z)))))) (Gd.on (K.o (K.i (K.i (K.i K.z)))) Bool.false) [],
   .mk (pickR (X.t (K.o (K.i (K.i (K.i K.z))))) (X.c (AV.bool Bool.true)) (X.t (K.i (K.o (K.o (K.o (K.o K.z))))))) (Option.some (K.o (K.i (K.o (K.o (K.o K.z)))))) Gd.no [],
   .mk (mvR (X.t (K.o (K.i (K.o (K.o (K.o K.z))))))) (Option.some (K.i (K.i (K.o (K.o (K.o K.z)))))) Gd.no [],
   .mk (faR 0 (X.t (K.i (K.o (K.o K.z))))) (Option.some (K.o (K.o (K.i (K.o (K.o K.z)))))) (Gd.on (K.i (K.i (K.o (K.o (K.o K.z))))) Bool.false) [],
   .mk (ldR Bool.false 1 (X.t (K.o (K.o (K.i (K.o (K.o K.z))))))) (Option.some (K.i (K.o (K.i (K.o (K.o K.z)))))) (Gd.on (K.i (K.i (K.o (K.o (K.o K.z))))) Bool.false) [],
   .mk (lenR LnK.str (X.t (K.i (K.o (K.i (K.o (K.o K.z))))))) (Option.some (K.o (K.i (K.i (K.o (K.o K.z)))))) (Gd.on (K.i (K.i (K.o (K.o (K.o K.z))))) Bool.false) [],
   .mk (binR Try.prog EK.no Option.none Bool.true BinOp.gtr (X.t (K.o (K.i (K.i (K.o (K.o K.z)))))) (X.c (AV.int IntKind.i64 20))) (Option.some (K.i (K.i (K.i (K.o (K.o K.z)))))) (Gd.on (K.i (K.i (K.o (K.o (K.o K.z))))) Bool.false) [],
   .mk (pickR (X.t (K.i (K.i (K.o (K.o (K.o K.z)))))) (X.c (AV.bool Bool.true)) (X.t (K.i (K.i (K.i (K.o (K.o K.z))))))) (Option.some (K.o (K.o (K.o (K.i (K.o K.z)))))) Gd.no [],
   .mk (mvR (X.t (K.o (K.o (K.o (K.i (K.o K.z))))))) (Option.some (K.i (K.o (K.o (K.i (K.o K.z)))))) Gd.no [],
   .mk (faR 1 (X.t (K.i (K.o (K.o K.z))))) (Option.some (K.o (K.i (K.o (K.i (K.o K.z)))))) (Gd.on (K.i (K.o (K.o (K.i (K.o K.z))))) Bool.false) [],
   .mk (ldR Bool.false 1 (X.t (K.o (K.i (K.o (K.i (K.o K.z))))))) (Option.some (K.i (K.i (K.o (K.i (K.o K.z)))))) (Gd.on (K.i (K.o (K.o (K.i (K.o K.z))))) Bool.false) [],
   .mk (lenR LnK.str (X.t (K.i (K.i (K.o (K.i (K.o K.z))))))) (Option.some (K.o (K.o (K.i (K.i (K.o K.z)))))) (Gd.on (K.i (K.o (K.o (K.i (K.o K.z))))) Bool.false) [],
   .mk (binR Try.prog EK.no Option.none Bool.true BinOp.gtr (X.t (K.o (K.o (K.i (K.i (K.o K.z)))))) (X.c (AV.int IntKind.i64 20))) (Option.some (K.i (K.o (K.i (K.i (K.o K.z)))))) (Gd.on (K.i (K.o (K.o (K.i (K.o K.z))))) Bool.false) [],
   .mk (pickR (X.t (K.i (K.o (K.o (K.i (K.o K.z)))))) (X.c (AV.bool Bool.true)) (X.t (K.i (K.o (K.i (K.i (K.o K.z))))))) (Option.some (K.o (K.i (K.i (K.i (K.o K.z)))))) Gd.no []])
  (.cond (X.t (K.o (K.i (K.i (K.i (K.o K.z))))))
  (.seq (.region [.mk (mvR (X.c (AV.bool Bool.true))) (Option.some (K.i (K.i (K.o K.z)))) Gd.no []])
  .ret)
  .skip))
  (.seq (.region [.mk (mvR (X.t K.z)) (Option.some (K.o (K.o (K.o (K.o (K.i K.z)))))) Gd.no [],
   .mk (mvR (X.t (K.i K.z))) (Option.some (K.i (K.o (K.o (K.o (K.i K.z)))))) Gd.no [],
   .mk (callS Try.prog 13 [(X.t (K.o (K.o (K.o (K.o (K.i K.z)))))), (X.t (K.i (K.o (K.o (K.o (K.i K.z))))))]) (Option.some (K.o (K.i (K.o (K.o (K.i K.z)))))) Gd.no [],
   .mk (mvR (X.t (K.o (K.i (K.o (K.o (K.i K.z))))))) (Option.some (K.i (K.i (K.i (K.i (K.o K.z)))))) Gd.no [],
   .mk (extR (X.t (K.i (K.i (K.i (K.i (K.o K.z)))))) 0) (Option.some (K.i (K.i (K.o (K.o (K.i K.z)))))) Gd.no [],
   .mk (extR (X.t (K.i (K.i (K.i (K.i (K.o K.z)))))) 1) (Option.some (K.o (K.o (K.i (K.o (K.i K.z)))))) Gd.no [],
   .mk (fun _ H => newC Bool.false [(AV.str []), (AV.str []), (AV.int IntKind.i64 0), (AV.bool Bool.false), (AV.int IntKind.i64 0)] H) (Option.some (K.o (K.o (K.i K.z)))) Gd.no [],
   .mk (stR 5 (X.t (K.o (K.o (K.i K.z)))) (X.t (K.i (K.i (K.o (K.o (K.i K.z))))))) Option.none Gd.no [],
   .mk (mvR (X.t (K.o (K.o (K.i (K.o (K.i K.z))))))) (Option.some (K.i (K.o (K.i K.z)))) Gd.no []])
  (.seq (.region [.mk (mvR (X.t K.z)) (Option.some (K.o (K.i (K.i (K.o (K.i K.z)))))) Gd.no [],
   .mk (mvR (X.t (K.i K.z))) (Option.some (K.i (K.i (K.i (K.o (K.i K.z)))))) Gd.no [],
   .mk (callS Try.prog 14 [(X.t (K.o (K.i (K.i (K.o (K.i K.z)))))), (X.t (K.i (K.i (K.i (K.o (K.i K.z))))))]) (Option.some (K.o (K.o (K.o (K.i (K.i K.z)))))) Gd.no [],
   .mk (mvR (X.t (K.o (K.o (K.o (K.i (K.i K.z))))))) (Option.some (K.i (K.o (K.i (K.o (K.i K.z)))))) Gd.no [],
   .mk (extR (X.t (K.i (K.o (K.i (K.o (K.i K.z)))))) 0) (Option.some (K.i (K.o (K.o (K.i (K.i K.z)))))) Gd.no [],
   .mk (extR (X.t (K.i (K.o (K.i (K.o (K.i K.z)))))) 1) (Option.some (K.o (K.i (K.o (K.i (K.i K.z)))))) Gd.no [],
   .mk (fun _ H => newC Bool.false [(AV.str []), (AV.str []), (AV.int IntKind.i64 0), (AV.bool Bool.false), (AV.int IntKind.i64 0)] H) (Option.some (K.o (K.i (K.i K.z)))) Gd.no [],
   .mk (stR 5 (X.t (K.o (K.i (K.i K.z)))) (X.t (K.i (K.o (K.o (K.i (K.i K.z))))))) Option.none Gd.no [],
   .mk (mvR (X.t (K.o (K.i (K.o (K.i (K.i K.z))))))) (Option.some (K.i (K.i (K.i K.z)))) Gd.no []])
  (.seq (.regionD [.mk (keepH (mvR (X.t (K.i (K.o K.z))))) (Option.some (K.i (K.o (K.o (K.o (K.o (K.o K.z))))))) Gd.no [],
   .mk (keepH (ldR Bool.true 2 (X.t (K.i (K.o (K.o K.z)))))) (Option.some (K.o (K.o (K.o (K.o (K.o (K.o K.z))))))) Gd.no [],
   .mk (keepH (mvR (X.t K.z))) (Option.some (K.i (K.i (K.i (K.i (K.i K.z)))))) Gd.no [],
   .mk (keepH (mvR (X.t (K.i (K.o K.z))))) (Option.some (K.i (K.o (K.i (K.i (K.i K.z)))))) Gd.no [],
   .mk (keepH (ldR Bool.true 2 (X.t (K.i (K.o (K.o K.z)))))) (Option.some (K.o (K.o (K.i (K.i (K.i K.z)))))) Gd.no [],
   .mk (keepH (mvR (X.t K.z))) (Option.some (K.i (K.i (K.o (K.i (K.i K.z)))))) Gd.no [],
   .mk (callS Try.prog 15 [(X.t (K.i (K.i (K.o (K.i (K.i K.z)))))), (X.t (K.o (K.o (K.i (K.i (K.i K.z)))))), (X.t (K.i (K.o (K.i (K.i (K.i K.z))))))]) (Option.some (K.o (K.i (K.i (K.i (K.i K.z)))))) Gd.no [.mk (mvR (X.t K.z)) (Option.some (K.i (K.i (K.i (K.i (K.i K.z)))))) Gd.no, .mk (ldR Bool.true 2 (X.t (K.i (K.o (K.o K.z))))) (Option.some (K.o (K.o (K.o (K.o (K.o (K.o K.z))))))) Gd.no, .mk (mvR (X.t (K.i (K.o K.z)))) (Option.some (K.i (K.o (K.o (K.o (K.o (K.o K.z))))))) Gd.no],
   .mk (callS Try.prog 16 [(X.t (K.i (K.i (K.i (K.i (K.i K.z)))))), (X.t (K.o (K.o (K.o (K.o (K.o (K.o K.z))))))), (X.t (K.i (K.o (K.o (K.o (K.o (K.o K.z)))))))]) (Option.some (K.o (K.i (K.o (K.o (K.o (K.o K.z))))))) Gd.no [],
   .mk (mvR (X.t (K.o (K.i (K.i (K.i (K.i K.z))))))) (Option.some (K.o (K.o (K.o (K.o K.z))))) Gd.no [],
   .mk (mvR (X.t (K.o (K.i (K.o (K.o (K.o (K.o K.z)))))))) (Option.some (K.i (K.o (K.o (K.o K.z))))) Gd.no []])
  (.seq (.seq (.region [.mk (mvR (X.t (K.o (K.o (K.o (K.o K.z)))))) (Option.some (K.i (K.i (K.o (K.o (K.o (K.o K.z))))))) Gd.no [],
   .mk (lenR LnK.slice (X.t (K.i (K.i (K.o (K.o (K.o (K.o K.z)))))))) (Option.some (K.o (K.o (K.i (K.o (K.o (K.o K.z))))))) Gd.no [],
   .mk (mvR (X.t (K.i (K.o (K.o (K.o K.z)))))) (Option.some (K.i (K.o (K.i (K.o (K.o (K.o K.z))))))) Gd.no [],
   .mk (lenR LnK.slice (X.t (K.i (K.o (K.i (K.o (K.o (K.o K.z)))))))) (Option.some (K.o (K.i (K.i (K.o (K.o (K.o K.z))))))) Gd.no [],
   .mk (binR Try.prog EK.no Option.none Bool.false BinOp.neq (X.t (K.o (K.o (K.i (K.o (K.o (K.o K.z))))))) (X.t (K.o (K.i (K.i (K.o (K.o (K.o K.z)))))))) (Option.some (K.i (K.i (K.i (K.o (K.o (K.o K.z))))))) Gd.no []])
  (.cond (X.t (K.i (K.i (K.i (K.o (K.o (K.o K.z)))))))
  (.seq (.region [.mk (mvR (X.c (AV.bool Bool.false))) (Option.some (K.i (K.i (K.o K.z)))) Gd.no []])
  .ret)
  .skip))
  (.seq (.seq (.region [.mk (mvR (X.c (AV.int IntKind.i64 0))) (Option.some (K.o (K.i (K.o (K.o K.z))))) Gd.no []])
  (.block 0 (.loop C3L0)))
  (.seq (.seq (.regionD [.mk (keepH (mvR (X.t K.z))) (Option.some (K.i (K.o (K.o (K.i (K.i (K.o K.z))))))) Gd.no [],
   .mk (keepH (mvR (X.t K.z))) (Option.some (K.i (K.i (K.i (K.o (K.i (K.o K.z))))))) Gd.no [],
   .mk (callS Try.prog 17 [(X.t (K.i (K.i (K.i (K.o (K.i (K.o K.z)))))))]) (Option.some (K.o (K.o (K.o (K.i (K.i (K.o K.z))))))) Gd.no [.mk (mvR (X.t K.z)) (Option.some (K.i (K.o (K.o (K.i (K.i (K.o K.z))))))) Gd.no],
   .mk (callS Try.prog 18 [(X.t (K.i (K.o (K.o (K.i (K.i (K.o K.z)))))))]) (Option.some (K.o (K.i (K.o (K.i (K.i (K.o K.z))))))) Gd.no [],
   .mk (keepH (binR Try.prog EK.bool Option.none Bool.false BinOp.neq (X.t (K.o (K.o (K.o (K.i (K.i (K.o K.z))))))) (X.t (K.o (K.i (K.o (K.i (K.i (K.o K.z))))))))) (Option.some (K.i (K.i (K.o (K.i (K.i (K.o K.z))))))) Gd.no [],
   .mk (keepH (mvR (X.t (K.i (K.i (K.o (K.i (K.i (K.o K.z))))))))) (Option.some (K.o (K.o (K.i (K.i (K.i (K.o K.z))))))) Gd.no [],
   .mk (keepH (ldR Bool.true 2 (X.t (K.i (K.o (K.o K.z)))))) (Option.some (K.i (K.o (K.o (K.o (K.o (K.i K.z))))))) (Gd.on (K.o (K.o (K.i (K.i (K.i (K.o K.z)))))) Bool.false) [],
   .mk (keepH (mvR (X.t K.z))) (Option.some (K.o (K.o (K.o (K.o (K.o (K.i K.z))))))) (Gd.on (K.o (K.o (K.i (K.i (K.i (K.o K.z)))))) Bool.false) [],
   .mk (keepH (ldR Bool.true 2 (X.t (K.i (K.o (K.o K.z)))))) (Option.some (K.o (K.i (K.i (K.i (K.i (K.o K.z))))))) (Gd.on (K.o (K.o (K.i (K.i (K.i (K.o K.z)))))) Bool.false) [],
   .mk (keepH (mvR (X.t K.z))) (Option.some (K.i (K.o (K.i (K.i (K.i (K.o K.z))))))) (Gd.on (K.o (K.o (K.i (K.i (K.i (K.o K.z)))))) Bool.false) [],
   .mk (callS Try.prog 20 [(X.t (K.i (K.o (K.i (K.i (K.i (K.o K.z))))))), (X.t (K.o (K.i (K.i (K.i (K.i (K.o K.z)))))))]) (Option.some (K.i (K.i (K.i (K.i (K.i (K.o K.z))))))) (Gd.on (K.o (K.o (K.i (K.i (K.i (K.o K.z)))))) Bool.false) [.mk (mvR (X.t K.z)) (Option.some (K.o (K.o (K.o (K.o (K.o (K.i K.z))))))) (Gd.on (K.o (K.o (K.i (K.i (K.i (K.o K.z)))))) Bool.false), .mk (ldR Bool.true 2 (X.t (K.i (K.o (K.o K.z))))) (Option.some (K.i (K.o (K.o (K.o (K.o (K.i K.z))))))) (Gd.on (K.o (K.o (K.i (K.i (K.i (K.o K.z)))))) Bool.false)],
   .mk (callS Try.prog 21 [(X.t (K.o (K.o (K.o (K.o (K.o (K.i K.z))))))), (X.t (K.i (K.o (K.o (K.o (K.o (K.i K.z)))))))]) (Option.some (K.o (K.i (K.o (K.o (K.o (K.i K.z))))))) (Gd.on (K.o (K.o (K.i (K.i (K.i (K.o K.z)))))) Bool.false) [],
   .mk (callS Try.prog 19 [(X.t (K.i (K.i (K.i (K.i (K.i (K.o K.z))))))), (X.t (K.o (K.i (K.o (K.o (K.o (K.i K.z)))))))]) (Option.some (K.i (K.i (K.o (K.o (K.o (K.i K.z))))))) (Gd.on (K.o (K.o (K.i (K.i (K.i (K.o K.z)))))) Bool.false) [],
   .mk (keepH (unR UnOp.not (X.t (K.i (K.i (K.o (K.o (K.o (K.i K.z))))))))) (Option.some (K.o (K.o (K.i (K.o (K.o (K.i K.z))))))) (Gd.on (K.o (K.o (K.i (K.i (K.i (K.o K.z)))))) Bool.false) [],
   .mk (keepH (pickR (X.t (K.o (K.o (K.i (K.i (K.i (K.o K.z))))))) (X.c (AV.bool Bool.true)) (X.t (K.o (K.o (K.i (K.o (K.o (K.i K.z))))))))) (Option.some (K.i (K.o (K.i (K.o (K.o (K.i K.z))))))) Gd.no []])
  (.cond (X.t (K.i (K.o (K.i (K.o (K.o (K.i K.z)))))))
  (.seq (.region [.mk (mvR (X.c (AV.bool Bool.false))) (Option.some (K.i (K.i (K.o K.z)))) Gd.no []])
  .ret)
  .skip))
  (.seq (.regionD [.mk (keepH (mvR (X.t K.z))) (Option.some (K.o (K.i (K.i (K.o (K.o (K.i K.z))))))) Gd.no [],
   .mk (callS Try.prog 18 [(X.t (K.o (K.i (K.i (K.o (K.o (K.i K.z)))))))]) (Option.some (K.i (K.i (K.i (K.o (K.o (K.i K.z))))))) Gd.no [],
   .mk (keepH (unR UnOp.not (X.t (K.i (K.i (K.i (K.o (K.o (K.i K.z))))))))) (Option.some (K.o (K.o (K.o (K.i (K.o (K.i K.z))))))) Gd.no [],
   .mk (keepH (mvR (X.t (K.o (K.o (K.o (K.i (K.o (K.i K.z))))))))) (Option.some (K.i (K.o (K.o (K.i (K.o (K.i K.z))))))) Gd.no [],
   .mk (keepH (ldR Bool.true 5 (X.t (K.o (K.i (K.i K.z)))))) (Option.some (K.i (K.i (K.o (K.i (K.o (K.i K.z))))))) (Gd.on (K.i (K.o (K.o (K.i (K.o (K.i K.z)))))) Bool.false) [],
   .mk (keepH (ldR Bool.true 5 (X.t (K.o (K.o (K.i K.z)))))) (Option.some (K.o (K.i (K.o (K.i (K.o (K.i K.z))))))) (Gd.on (K.i (K.o (K.o (K.i (K.o (K.i K.z)))))) Bool.false) [],
   .mk (keepH (binR Try.prog EK.no (Option.some [LK.str, LK.str, LK.int, LK.bool, LK.int]) Bool.false BinOp.eql (X.t (K.o (K.i (K.o (K.i (K.o (K.i K.z))))))) (X.t (K.i (K.i (K.o (K.i (K.o (K.i K.z))))))))) (Option.some (K.o (K.o (K.i (K.i (K.o (K.i K.z))))))) (Gd.on (K.i (K.o (K.o (K.i (K.o (K.i K.z)))))) Bool.false) [],
   .mk (keepH (mvR (X.t (K.o (K.o (K.i (K.i (K.o (K.i K.z))))))))) (Option.some (K.i (K.o (K.i (K.i (K.o (K.i K.z))))))) (Gd.on (K.i (K.o (K.o (K.i (K.o (K.i K.z)))))) Bool.false) [],
   .mk (keepH (mvR (X.t (K.i (K.i (K.i K.z)))))) (Option.some (K.i (K.i (K.i (K.i (K.o (K.i K.z))))))) (Gd.on (K.i (K.o (K.i (K.i (K.o (K.i K.z)))))) Bool.true) [],
   .mk (keepH (mvR (X.t (K.i (K.o (K.i K.z)))))) (Option.some (K.o (K.i (K.i (K.i (K.o (K.i K.z))))))) (Gd.on (K.i (K.o (K.i (K.i (K.o (K.i K.z)))))) Bool.true) [],
   .mk (keepH (binR Try.prog EK.bool Option.none Bool.false BinOp.eql (X.t (K.o (K.i (K.i (K.i (K.o (K.i K.z))))))) (X.t (K.i (K.i (K.i (K.i (K.o (K.i K.z))))))))) (Option.some (K.o (K.o (K.o (K.o (K.i (K.i K.z))))))) (Gd.on (K.i (K.o (K.i (K.i (K.o (K.i K.z)))))) Bool.true) [],
   .mk (keepH (pickR (X.t (K.i (K.o (K.i (K.i (K.o (K.i K.z))))))) (X.t (K.o (K.o (K.o (K.o (K.i (K.i K.z))))))) (X.c (AV.bool Bool.false)))) (Option.some (K.i (K.o (K.o (K.o (K.i (K.i K.z))))))) (Gd.on (K.i (K.o (K.o (K.i (K.o (K.i K.z)))))) Bool.false) [],
   .mk (keepH (mvR (X.t (K.i (K.o (K.o (K.o (K.i (K.i K.z))))))))) (Option.some (K.o (K.i (K.o (K.o (K.i (K.i K.z))))))) (Gd.on (K.i (K.o (K.o (K.i (K.o (K.i K.z)))))) Bool.false) [],
   .mk (keepH (ldR Bool.true 5 (X.t (K.i (K.i K.z))))) (Option.some (K.i (K.i (K.i (K.o (K.i (K.i K.z))))))) (Gd.on (K.o (K.i (K.o (K.o (K.i (K.i K.z)))))) Bool.true) [],
   .mk (keepH (mvR (X.t K.z))) (Option.some (K.o (K.i (K.i (K.o (K.i (K.i K.z))))))) (Gd.on (K.o (K.i (K.o (K.o (K.i (K.i K.z)))))) Bool.true) [],
   .mk (keepH (ldR Bool.true 5 (X.t (K.i (K.i K.z))))) (Option.some (K.o (K.o (K.i (K.o (K.i (K.i K.z))))))) (Gd.on (K.o (K.i (K.o (K.o (K.i (K.i K.z)))))) Bool.true) [],
   .mk (keepH (mvR (X.t K.z))) (Option.some (K.i (K.i (K.o (K.o (K.i (K.i K.z))))))) (Gd.on (K.o (K.i (K.o (K.o (K.i (K.i K.z)))))) Bool.true) [],
   .mk (callS Try.prog 22 [(X.t (K.i (K.i (K.o (K.o (K.i (K.i K.z))))))), (X.t (K.o (K.o (K.i (K.o (K.i (K.i K.z)))))))]) (Option.some (K.i (K.o (K.i (K.o (K.i (K.i K.z))))))) (Gd.on (K.o (K.i (K.o (K.o (K.i (K.i K.z)))))) Bool.true) [.mk (mvR (X.t K.z)) (Option.some (K.o (K.i (K.i (K.o (K.i (K.i K.z))))))) (Gd.on (K.o (K.i (K.o (K.o (K.i (K.i K.z)))))) Bool.true), .mk (ldR Bool.true 5 (X.t (K.i (K.i K.z)))) (Option.some (K.i (K.i (K.i (K.o (K.i (K.i K.z))))))) (Gd.on (K.o (K.i (K.o (K.o (K.i (K.i K.z)))))) Bool.true)],
   .mk (callS Try.prog 23 [(X.t (K.o (K.i (K.i (K.o (K.i (K.i K.z))))))), (X.t (K.i (K.i (K.i (K.o (K.i (K.i K.z)))))))]) (Option.some (K.o (K.o (K.o (K.i (K.i (K.i K.z))))))) (Gd.on (K.o (K.i (K.o (K.o (K.i (K.i K.z)))))) Bool.true) [],
   .mk (callS Try.prog 19 [(X.t (K.i (K.o (K.i (K.o (K.i (K.i K.z))))))), (X.t (K.o (K.o (K.o (K.i (K.i (K.i K.z)))))))]) (Option.some (K.i (K.o (K.o (K.i (K.i (K.i K.z))))))) (Gd.on (K.o (K.i (K.o (K.o (K.i (K.i K.z)))))) Bool.true) [],
   .mk (keepH (pickR (X.t (K.o (K.i (K.o (K.o (K.i (K.i K.z))))))) (X.t (K.i (K.o (K.o (K.i (K.i (K.i K.z))))))) (X.c (AV.bool Bool.false)))) (Option.some (K.o (K.i (K.o (K.i (K.i (K.i K.z))))))) (Gd.on (K.i (K.o (K.o (K.i (K.o (K.i K.z)))))) Bool.false) [],
   .mk (keepH (pickR (X.t (K.i (K.o (K.o (K.i (K.o (K.i K.z))))))) (X.c (AV.bool Bool.true)) (X.t (K.o (K.i (K.o (K.i (K.i (K.i K.z))))))))) (Option.some (K.i (K.i (K.o (K.i (K.i (K.i K.z))))))) Gd.no [],
   .mk (mvR (X.t (K.i (K.i (K.o (K.i (K.i (K.i K.z)))))))) (Option.some (K.i (K.i (K.o K.z)))) Gd.no []])
  .ret))))))))))
theorem C3ok : (match Try.f3.body with | some c => comp Try.prog 123 c | none => none) = some C3 := by kernel_rfl
@[go_sem] theorem call3 (args : List AV) (H : Heap) : callC Try.prog 3 args H = .call 3 args := callC_ok (by kernel_rfl) args H
theorem R3ok : resKs Try.prog Try.f3.results.toList = some [(RK.tmp (K.i (K.i (K.o K.z))))] := by kernel_rfl

/- 4: estuary/estuarylaw12.IndexBuilds -/
noncomputable def C4L0 : CC :=
  (.seq (.seq (.region [.mk (mvR (X.t (K.i (K.o K.z)))) (Option.some (K.i (K.o (K.o (K.o K.z))))) Gd.no [],
   .mk (mvR (X.t K.z)) (Option.some (K.o (K.i (K.o (K.o K.z))))) Gd.no [],
   .mk (lenR LnK.slice (X.t (K.o (K.i (K.o (K.o K.z)))))) (Option.some (K.i (K.i (K.o (K.o K.z))))) Gd.no [],
   .mk (binR Try.prog EK.no Option.none Bool.false BinOp.lss (X.t (K.i (K.o (K.o (K.o K.z))))) (X.t (K.i (K.i (K.o (K.o K.z)))))) (Option.some (K.o (K.o (K.i (K.o K.z))))) Gd.no []])
  (.cond (X.t (K.o (K.o (K.i (K.o K.z)))))
  .skip
  (.exit 0)))
  (.seq (.block 1 (.region [.mk (mvR (X.t (K.o (K.o K.z)))) (Option.some (K.i (K.i (K.i (K.o K.z))))) Gd.no [],
   .mk (mvR (X.t K.z)) (Option.some (K.o (K.o (K.o (K.i K.z))))) Gd.no [],
   .mk (mvR (X.t (K.i (K.o K.z)))) (Option.some (K.i (K.o (K.o (K.i K.z))))) Gd.no [],
   .mk (iaS 5 (X.t (K.o (K.o (K.o (K.i K.z))))) (X.t (K.i (K.o (K.o (K.i K.z)))))) (Option.some (K.o (K.i (K.o (K.i K.z))))) Gd.no [],
   .mk (ldR Bool.true 5 (X.t (K.o (K.i (K.o (K.i K.z)))))) (Option.some (K.i (K.i (K.o (K.i K.z))))) Gd.no [],
   .mk (callS Try.prog 22 [(X.t (K.i (K.i (K.i (K.o K.z))))), (X.t (K.i (K.i (K.o (K.i K.z)))))]) (Option.some (K.o (K.o (K.i (K.i K.z))))) Gd.no [],
   .mk (mvR (X.t (K.o (K.o (K.i (K.i K.z)))))) (Option.some (K.o (K.o K.z))) Gd.no []]))
  (.region [.mk (mvR (X.t (K.i (K.o K.z)))) (Option.some (K.i (K.o (K.i (K.o K.z))))) Gd.no [],
   .mk (binR Try.prog EK.no Option.none Bool.true BinOp.add (X.t (K.i (K.o (K.i (K.o K.z))))) (X.c (AV.int IntKind.i64 1))) (Option.some (K.o (K.i (K.i (K.o K.z))))) Gd.no [],
   .mk (mvR (X.t (K.o (K.i (K.i (K.o K.z)))))) (Option.some (K.i (K.o K.z))) Gd.no []])))
noncomputable def C4L1 : CC :=
  (.seq (.seq (.region [.mk (mvR (X.t (K.i (K.o (K.o K.z))))) (Option.some (K.o (K.o (K.o (K.i (K.o K.z)))))) Gd.no [],
   .mk (mvR (X.t K.z)) (Option.some (K.i (K.o (K.o (K.i (K.o K.z)))))) Gd.no [],
   .mk (lenR LnK.slice (X.t (K.i (K.o (K.o (K.i (K.o K.z))))))) (Option.some (K.o (K.i (K.o (K.i (K.o K.z)))))) Gd.no [],
   .mk (binR Try.prog EK.no Option.none Bool.false BinOp.lss (X.t (K.o (K.o (K.o (K.i (K.o K.z)))))) (X.t (K.o (K.i (K.o (K.i (K.o K.z))))))) (Option.some (K.i (K.i (K.o (K.i (K.o K.z)))))) Gd.no []])
  (.cond (X.t (K.i (K.i (K.o (K.i (K.o K.z))))))
  .skip
  (.exit 4)))
  (.seq (.block 5 (.regionD [.mk (keepH (mvR (X.t (K.o (K.o (K.o K.z)))))) (Option.some (K.o (K.i (K.i (K.i (K.o K.z)))))) Gd.no [],
   .mk (keepH (mvR (X.t (K.o (K.i (K.i (K.i (K.o K.z)))))))) (Option.some (K.i (K.i (K.i (K.i (K.o K.z)))))) Gd.no [],
   .mk (keepH (mvR (X.t (K.i (K.i K.z))))) (Option.some (K.o (K.i (K.i (K.o (K.i K.z)))))) (Gd.on (K.i (K.i (K.i (K.i (K.o K.z))))) Bool.true) [],
   .mk (keepH (mvR (X.t K.z))) (Option.some (K.i (K.o (K.i (K.o (K.i K.z)))))) (Gd.on (K.i (K.i (K.i (K.i (K.o K.z))))) Bool.true) [],
   .mk (keepH (iaS 5 (X.t (K.i (K.o (K.i (K.o (K.i K.z)))))) (X.t (K.o (K.i (K.i (K.o (K.i K.z)))))))) (Option.some (K.i (K.i (K.i (K.o (K.i K.z)))))) (Gd.on (K.i (K.i (K.i (K.i (K.o K.z))))) Bool.true) [],
   .mk (keepH (faR 0 (X.t (K.i (K.i (K.i (K.o (K.i K.z)))))))) (Option.some (K.o (K.o (K.o (K.i (K.i K.z)))))) (Gd.on (K.i (K.i (K.i (K.i (K.o K.z))))) Bool.true) [],
   .mk (keepH (ldR Bool.false 1 (X.t (K.o (K.o (K.o (K.i (K.i K.z)))))))) (Option.some (K.i (K.o (K.o (K.i (K.i K.z)))))) (Gd.on (K.i (K.i (K.i (K.i (K.o K.z))))) Bool.true) [],
   .mk (keepH (mvR (X.t (K.i (K.o (K.o K.z)))))) (Option.some (K.i (K.o (K.o (K.o (K.i K.z)))))) (Gd.on (K.i (K.i (K.i (K.i (K.o K.z))))) Bool.true) [],
   .mk (keepH (mvR (X.t K.z))) (Option.some (K.o (K.o (K.o (K.o (K.i K.z)))))) (Gd.on (K.i (K.i (K.i (K.i (K.o K.z))))) Bool.true) [],
   .mk (keepH (iaS 5 (X.t (K.o (K.o (K.o (K.o (K.i K.z)))))) (X.t (K.i (K.o (K.o (K.o (K.i K.z)))))))) (Option.some (K.o (K.i (K.o (K.o (K.i K.z)))))) (Gd.on (K.i (K.i (K.i (K.i (K.o K.z))))) Bool.true) [],
   .mk (keepH (faR 0 (X.t (K.o (K.i (K.o (K.o (K.i K.z)))))))) (Option.some (K.i (K.i (K.o (K.o (K.i K.z)))))) (Gd.on (K.i (K.i (K.i (K.i (K.o K.z))))) Bool.true) [],
   .mk (keepH (ldR Bool.false 1 (X.t (K.i (K.i (K.o (K.o (K.i K.z)))))))) (Option.some (K.o (K.o (K.i (K.o (K.i K.z)))))) (Gd.on (K.i (K.i (K.i (K.i (K.o K.z))))) Bool.true) [],
   .mk (keepH (binR Try.prog EK.no Option.none Bool.false BinOp.eql (X.t (K.o (K.o (K.i (K.o (K.i K.z)))))) (X.t (K.i (K.o (K.o (K.i (K.i K.z)))))))) (Option.some (K.o (K.i (K.o (K.i (K.i K.z)))))) (Gd.on (K.i (K.i (K.i (K.i (K.o K.z))))) Bool.true) [],
   .mk (keepH (mvR (X.t (K.o (K.i (K.o (K.i (K.i K.z)))))))) (Option.some (K.i (K.i (K.o (K.i (K.i K.z)))))) (Gd.on (K.i (K.i (K.i (K.i (K.o K.z))))) Bool.true) [],
   .mk (keepH (mvR (X.t (K.i (K.o (K.o K.z)))))) (Option.some (K.i (K.o (K.i (K.i (K.i K.z)))))) (Gd.on (K.i (K.i (K.o (K.i (K.i K.z))))) Bool.true) [],
   .mk (keepH (mvR (X.t K.z))) (Option.some (K.o (K.o (K.i (K.i (K.i K.z)))))) (Gd.on (K.i (K.i (K.o (K.i (K.i K.z))))) Bool.true) [],
   .mk (keepH (iaS 5 (X.t (K.o (K.o (K.i (K.i (K.i K.z)))))) (X.t (K.i (K.o (K.i (K.i (K.i K.z)))))))) (Option.some (K.o (K.i (K.i (K.i (K.i K.z)))))) (Gd.on (K.i (K.i (K.o (K.i (K.i K.z))))) Bool.true) [],
   .mk (keepH (ldR Bool.true 5 (X.t (K.o (K.i (K.i (K.i (K.i K.z)))))))) (Option.some (K.i (K.i (K.i (K.i (K.i K.z)))))) (Gd.on (K.i (K.i (K.o (K.i (K.i K.z))))) Bool.true) [],
   .mk (callS Try.prog 24 [(X.t (K.i (K.i (K.i (K.i (K.i K.z))))))]) (Option.some (K.o (K.o (K.o (K.o (K.o (K.o K.z))))))) (Gd.on (K.i (K.i (K.o (K.i (K.i K.z))))) Bool.true) [],
   .mk (keepH (pickR (X.t (K.i (K.i (K.o (K.i (K.i K.z)))))) (X.t (K.o (K.o (K.o (K.o (K.o (K.o K.z))))))) (X.c (AV.bool Bool.false)))) (Option.some (K.i (K.o (K.o (K.o (K.o (K.o K.z))))))) (Gd.on (K.i (K.i (K.i (K.i (K.o K.z))))) Bool.true) [],
   .mk (keepH (unR UnOp.not (X.t (K.i (K.o (K.o (K.o (K.o (K.o K.z))))))))) (Option.some (K.o (K.i (K.o (K.o (K.o (K.o K.z))))))) (Gd.on (K.i (K.i (K.i (K.i (K.o K.z))))) Bool.true) [],
   .mk (keepH (pickR (X.t (K.i (K.i (K.i (K.i (K.o K.z)))))) (X.t (K.o (K.i (K.o (K.o (K.o (K.o K.z))))))) (X.c (AV.bool Bool.false)))) (Option.some (K.i (K.i (K.o (K.o (K.o (K.o K.z))))))) Gd.no [],
   .mk (mvR (X.t (K.i (K.i (K.o (K.o (K.o (K.o K.z)))))))) (Option.some (K.o (K.o (K.o K.z)))) Gd.no []]))
  (.region [.mk (mvR (X.t (K.i (K.o (K.o K.z))))) (Option.some (K.o (K.o (K.i (K.i (K.o K.z)))))) Gd.no [],
   .mk (binR Try.prog EK.no Option.none Bool.true BinOp.add (X.t (K.o (K.o (K.i (K.i (K.o K.z)))))) (X.c (AV.int IntKind.i64 1))) (Option.some (K.i (K.o (K.i (K.i (K.o K.z)))))) Gd.no [],
   .mk (mvR (X.t (K.i (K.o (K.i (K.i (K.o K.z))))))) (Option.some (K.i (K.o (K.o K.z)))) Gd.no []])))
noncomputable def C4L2 : CC :=
  (.seq (.seq (.region [.mk (mvR (X.t (K.i (K.i K.z)))) (Option.some (K.o (K.o (K.o (K.o (K.o K.z)))))) Gd.no [],
   .mk (mvR (X.t K.z)) (Option.some (K.i (K.o (K.o (K.o (K.o K.z)))))) Gd.no [],
   .mk (lenR LnK.slice (X.t (K.i (K.o (K.o (K.o (K.o K.z))))))) (Option.some (K.o (K.i (K.o (K.o (K.o K.z)))))) Gd.no [],
   .mk (binR Try.prog EK.no Option.none Bool.false BinOp.lss (X.t (K.o (K.o (K.o (K.o (K.o K.z)))))) (X.t (K.o (K.i (K.o (K.o (K.o K.z))))))) (Option.some (K.i (K.i (K.o (K.o (K.o K.z)))))) Gd.no []])
  (.cond (X.t (K.i (K.i (K.o (K.o (K.o K.z))))))
  .skip
  (.exit 2)))
  (.seq (.block 3 (.seq (.region [.mk (mvR (X.c (AV.bool Bool.true))) (Option.some (K.o (K.o (K.o K.z)))) Gd.no []])
  (.seq (.seq (.region [.mk (mvR (X.t (K.i (K.i K.z)))) (Option.some (K.o (K.i (K.i (K.o (K.o K.z)))))) Gd.no [],
   .mk (binR Try.prog EK.no Option.none Bool.true BinOp.add (X.t (K.o (K.i (K.i (K.o (K.o K.z)))))) (X.c (AV.int IntKind.i64 1))) (Option.some (K.i (K.i (K.i (K.o (K.o K.z)))))) Gd.no [],
   .mk (mvR (X.t (K.i (K.i (K.i (K.o (K.o K.z))))))) (Option.some (K.i (K.o (K.o K.z)))) Gd.no []])
  (.block 4 (.loop C4L1)))
  (.seq (.seq (.region [.mk (mvR (X.t K.z)) (Option.some (K.o (K.o (K.i (K.o (K.o (K.o K.z))))))) Gd.no [],
   .mk (mvR (X.t (K.i (K.i K.z)))) (Option.some (K.i (K.o (K.i (K.o (K.o (K.o K.z))))))) Gd.no [],
   .mk (iaS 5 (X.t (K.o (K.o (K.i (K.o (K.o (K.o K.z))))))) (X.t (K.i (K.o (K.i (K.o (K.o (K.o K.z)))))))) (Option.some (K.o (K.i (K.i (K.o (K.o (K.o K.z))))))) Gd.no [],
   .mk (ldR Bool.true 5 (X.t (K.o (K.i (K.i (K.o (K.o (K.o K.z)))))))) (Option.some (K.i (K.i (K.i (K.o (K.o (K.o K.z))))))) Gd.no [],
   .mk (callS Try.prog 24 [(X.t (K.i (K.i (K.i (K.o (K.o (K.o K.z)))))))]) (Option.some (K.o (K.o (K.o (K.i (K.o (K.o K.z))))))) Gd.no [],
   .mk (unR UnOp.not (X.t (K.o (K.o (K.o (K.i (K.o (K.o K.z)))))))) (Option.some (K.i (K.o (K.o (K.i (K.o (K.o K.z))))))) Gd.no [],
   .mk (mvR (X.t (K.i (K.o (K.o (K.i (K.o (K.o K.z)))))))) (Option.some (K.o (K.i (K.o (K.i (K.o (K.o K.z))))))) Gd.no [],
   .mk (mvR (X.t (K.o (K.o (K.o K.z))))) (Option.some (K.i (K.i (K.o (K.i (K.o (K.o K.z))))))) (Gd.on (K.o (K.i (K.o (K.i (K.o (K.o K.z)))))) Bool.false) [],
   .mk (unR UnOp.not (X.t (K.i (K.i (K.o (K.i (K.o (K.o K.z)))))))) (Option.some (K.o (K.o (K.i (K.i (K.o (K.o K.z))))))) (Gd.on (K.o (K.i (K.o (K.i (K.o (K.o K.z)))))) Bool.false) [],
   .mk (pickR (X.t (K.o (K.i (K.o (K.i (K.o (K.o K.z))))))) (X.c (AV.bool Bool.true)) (X.t (K.o (K.o (K.i (K.i (K.o (K.o K.z)))))))) (Option.some (K.i (K.o (K.i (K.i (K.o (K.o K.z))))))) Gd.no []])
  (.cond (X.t (K.i (K.o (K.i (K.i (K.o (K.o K.z)))))))
  (.exit 3)
  .skip))
  (.seq (.region [.mk (mvR (X.t (K.o (K.i K.z)))) (Option.some (K.o (K.i (K.i (K.i (K.o (K.o K.z))))))) Gd.no [],
   .mk (binR Try.prog EK.no Option.none Bool.true BinOp.add (X.t (K.o (K.i (K.i (K.i (K.o (K.o K.z))))))) (X.c (AV.int IntKind.i64 1))) (Option.some (K.i (K.i (K.i (K.i (K.o (K.o K.z))))))) Gd.no [],
   .mk (mvR (X.t (K.i (K.i (K.i (K.i (K.o (K.o K.z)))))))) (Option.some (K.o (K.i K.z))) Gd.no []])
  (.seq (.region [.mk (mvR (X.t (K.o (K.o K.z)))) (Option.some (K.i (K.o (K.o (K.o (K.i (K.o K.z))))))) Gd.no [],
   .mk (mvR (X.t K.z)) (Option.some (K.o (K.i (K.o (K.o (K.i (K.o K.z))))))) Gd.no [],
   .mk (mvR (X.t (K.i (K.i K.z)))) (Option.some (K.i (K.i (K.o (K.o (K.i (K.o K.z))))))) Gd.no [],
   .mk (iaS 5 (X.t (K.o (K.i (K.o (K.o (K.i (K.o K.z))))))) (X.t (K.i (K.i (K.o (K.o (K.i (K.o K.z)))))))) (Option.some (K.o (K.o (K.i (K.o (K.i (K.o K.z))))))) Gd.no [],
   .mk (faR 0 (X.t (K.o (K.o (K.i (K.o (K.i (K.o K.z)))))))) (Option.some (K.i (K.o (K.i (K.o (K.i (K.o K.z))))))) Gd.no [],
   .mk (ldR Bool.false 1 (X.t (K.i (K.o (K.i (K.o (K.i (K.o K.z)))))))) (Option.some (K.o (K.i (K.i (K.o (K.i (K.o K.z))))))) Gd.no [],
   .mk (callS Try.prog 13 [(X.t (K.i (K.o (K.o (K.o (K.i (K.o K.z))))))), (X.t (K.o (K.i (K.i (K.o (K.i (K.o K.z)))))))]) (Option.some (K.i (K.i (K.i (K.o (K.i (K.o K.z))))))) Gd.no [],
   .mk (mvR (X.t (K.i (K.i (K.i (K.o (K.i (K.o K.z)))))))) (Option.some (K.o (K.o (K.o (K.o (K.i (K.o K.z))))))) Gd.no [],
   .mk (extR (X.t (K.o (K.o (K.o (K.o (K.i (K.o K.z))))))) 0) (Option.some (K.o (K.o (K.o (K.i (K.i (K.o K.z))))))) Gd.no [],
   .mk (extR (X.t (K.o (K.o (K.o (K.o (K.i (K.o K.z))))))) 1) (Option.some (K.i (K.o (K.o (K.i (K.i (K.o K.z))))))) Gd.no [],
   .mk (fun _ H => newC Bool.false [(AV.str []), (AV.str []), (AV.int IntKind.i64 0), (AV.bool Bool.false), (AV.int IntKind.i64 0)] H) (Option.some (K.o (K.i (K.o K.z)))) Gd.no [],
   .mk (stR 5 (X.t (K.o (K.i (K.o K.z)))) (X.t (K.o (K.o (K.o (K.i (K.i (K.o K.z)))))))) Option.none Gd.no [],
   .mk (mvR (X.t (K.i (K.o (K.o (K.i (K.i (K.o K.z)))))))) (Option.some (K.i (K.i (K.o K.z)))) Gd.no []])
  (.seq (.regionD [.mk (keepH (mvR (X.t (K.i (K.i (K.o K.z)))))) (Option.some (K.o (K.i (K.o (K.i (K.i (K.o K.z))))))) Gd.no [],
   .mk (keepH (unR UnOp.not (X.t (K.o (K.i (K.o (K.i (K.i (K.o K.z))))))))) (Option.some (K.i (K.i (K.o (K.i (K.i (K.o K.z))))))) Gd.no [],
   .mk (keepH (mvR (X.t (K.i (K.i (K.o (K.i (K.i (K.o K.z))))))))) (Option.some (K.o (K.o (K.i (K.i (K.i (K.o K.z))))))) Gd.no [],
   .mk (keepH (mvR (X.t (K.i (K.i K.z))))) (Option.some (K.i (K.i (K.i (K.i (K.i (K.o K.z))))))) (Gd.on (K.o (K.o (K.i (K.i (K.i (K.o K.z)))))) Bool.false) [],
   .mk (keepH (mvR (X.t K.z))) (Option.some (K.o (K.i (K.i (K.i (K.i (K.o K.z))))))) (Gd.on (K.o (K.o (K.i (K.i (K.i (K.o K.z)))))) Bool.false) [],
   .mk (keepH (iaS 5 (X.t (K.o (K.i (K.i (K.i (K.i (K.o K.z))))))) (X.t (K.i (K.i (K.i (K.i (K.i (K.o K.z))))))))) (Option.some (K.o (K.o (K.o (K.o (K.o (K.i K.z))))))) (Gd.on (K.o (K.o (K.i (K.i (K.i (K.o K.z)))))) Bool.false) [],
   .mk (keepH (ldR Bool.true 5 (X.t (K.o (K.o (K.o (K.o (K.o (K.i K.z))))))))) (Option.some (K.i (K.o (K.o (K.o (K.o (K.i K.z))))))) (Gd.on (K.o (K.o (K.i (K.i (K.i (K.o K.z)))))) Bool.false) [],
   .mk (keepH (ldR Bool.true 5 (X.t (K.o (K.i (K.o K.z)))))) (Option.some (K.i (K.o (K.i (K.i (K.i (K.o K.z))))))) (Gd.on (K.o (K.o (K.i (K.i (K.i (K.o K.z)))))) Bool.false) [],
   .mk (keepH (binR Try.prog EK.no (Option.some [LK.str, LK.str, LK.int, LK.bool, LK.int]) Bool.false BinOp.neq (X.t (K.i (K.o (K.i (K.i (K.i (K.o K.z))))))) (X.t (K.i (K.o (K.o (K.o (K.o (K.i K.z))))))))) (Option.some (K.o (K.i (K.o (K.o (K.o (K.i K.z))))))) (Gd.on (K.o (K.o (K.i (K.i (K.i (K.o K.z)))))) Bool.false) [],
   .mk (keepH (pickR (X.t (K.o (K.o (K.i (K.i (K.i (K.o K.z))))))) (X.c (AV.bool Bool.true)) (X.t (K.o (K.i (K.o (K.o (K.o (K.i K.z))))))))) (Option.some (K.i (K.i (K.o (K.o (K.o (K.i K.z))))))) Gd.no []])
  (.cond (X.t (K.i (K.i (K.o (K.o (K.o (K.i K.z)))))))
  (.seq (.region [.mk (mvR (X.c (AV.bool Bool.false))) (Option.some (K.i K.z)) Gd.no []])
  .ret)
  .skip))))))))
  (.region [.mk (mvR (X.t (K.i (K.i K.z)))) (Option.some (K.o (K.o (K.i (K.o (K.o K.z)))))) Gd.no [],
   .mk (binR Try.prog EK.no Option.none Bool.true BinOp.add (X.t (K.o (K.o (K.i (K.o (K.o K.z)))))) (X.c (AV.int IntKind.i64 1))) (Option.some (K.i (K.o (K.i (K.o (K.o K.z)))))) Gd.no [],
   .mk (mvR (X.t (K.i (K.o (K.i (K.o (K.o K.z))))))) (Option.some (K.i (K.i K.z))) Gd.no []])))
noncomputable def C4 : CC :=
  (.seq (.region [.mk (mvR (X.c (AV.bool Bool.false))) (Option.some (K.i K.z)) Gd.no []])
  (.seq (.seq (.region [.mk (callS Try.prog 11 []) (Option.some (K.o (K.o (K.i K.z)))) Gd.no [],
   .mk (unR UnOp.not (X.t (K.o (K.o (K.i K.z))))) (Option.some (K.i (K.o (K.i K.z)))) Gd.no []])
  (.cond (X.t (K.i (K.o (K.i K.z))))
  (.seq (.region [.mk (mvR (X.c (AV.bool Bool.false))) (Option.some (K.i K.z)) Gd.no []])
  .ret)
  .skip))
  (.seq (.seq (.region [.mk (mvR (X.t K.z)) (Option.some (K.o (K.i (K.i K.z)))) Gd.no [],
   .mk (callS Try.prog 12 [(X.t (K.o (K.i (K.i K.z))))]) (Option.some (K.i (K.i (K.i K.z)))) Gd.no [],
   .mk (unR UnOp.not (X.t (K.i (K.i (K.i K.z))))) (Option.some (K.o (K.o (K.o (K.o K.z))))) Gd.no []])
  (.cond (X.t (K.o (K.o (K.o (K.o K.z)))))
  (.seq (.region [.mk (mvR (X.c (AV.bool Bool.true))) (Option.some (K.i K.z)) Gd.no []])
  .ret)
  .skip))
  (.seq (.region [.mk (mvR (X.c AV.nils)) (Option.some (K.o (K.o K.z))) Gd.no []])
  (.seq (.seq (.region [.mk (mvR (X.c (AV.int IntKind.i64 0))) (Option.some (K.i (K.o K.z))) Gd.no []])
  (.block 0 (.loop C4L0)))
  (.seq (.seq (.region [.mk (mvR (X.t (K.o (K.o K.z)))) (Option.some (K.i (K.o (K.i (K.i K.z))))) Gd.no [],
   .mk (callS Try.prog 17 [(X.t (K.i (K.o (K.i (K.i K.z)))))]) (Option.some (K.o (K.i (K.i (K.i K.z))))) Gd.no [],
   .mk (unR UnOp.not (X.t (K.o (K.i (K.i (K.i K.z)))))) (Option.some (K.i (K.i (K.i (K.i K.z))))) Gd.no []])
  (.cond (X.t (K.i (K.i (K.i (K.i K.z)))))
  (.seq (.region [.mk (mvR (X.c (AV.bool Bool.false))) (Option.some (K.i K.z)) Gd.no []])
  .ret)
  .skip))
  (.seq (.region [.mk (mvR (X.c (AV.int IntKind.i64 0))) (Option.some (K.o (K.i K.z))) Gd.no []])
  (.seq (.seq (.region [.mk (mvR (X.c (AV.int IntKind.i64 0))) (Option.some (K.i (K.i K.z))) Gd.no []])
  (.block 2 (.loop C4L2)))
  (.seq (.region [.mk (mvR (X.t (K.o (K.i K.z)))) (Option.some (K.o (K.o (K.i (K.o (K.o (K.i K.z))))))) Gd.no [],
   .mk (mvR (X.t (K.o (K.o K.z)))) (Option.some (K.i (K.o (K.i (K.o (K.o (K.i K.z))))))) Gd.no [],
   .mk (lenR LnK.slice (X.t (K.i (K.o (K.i (K.o (K.o (K.i K.z)))))))) (Option.some (K.o (K.i (K.i (K.o (K.o (K.i K.z))))))) Gd.no [],
   .mk (binR Try.prog EK.no Option.none Bool.false BinOp.eql (X.t (K.o (K.o (K.i (K.o (K.o (K.i K.z))))))) (X.t (K.o (K.i (K.i (K.o (K.o (K.i K.z)))))))) (Option.some (K.i (K.i (K.i (K.o (K.o (K.i K.z))))))) Gd.no [],
   .mk (mvR (X.t (K.i (K.i (K.i (K.o (K.o (K.i K.z)))))))) (Option.some (K.i K.z)) Gd.no []])
  .ret)))))))))
theorem C4ok : (match Try.f4.body with | some c => comp Try.prog 103 c | none => none) = some C4 := by kernel_rfl
@[go_sem] theorem call4 (args : List AV) (H : Heap) : callC Try.prog 4 args H = .call 4 args := callC_ok (by kernel_rfl) args H
theorem R4ok : resKs Try.prog Try.f4.results.toList = some [(RK.tmp (K.i K.z))] := by kernel_rfl

/- 5: estuary/estuarylaw12.IndexRows -/
noncomputable def C5L0 : CC :=
  (.seq (.seq (.region [.mk (mvR (X.t (K.i (K.i (K.o K.z))))) (Option.some (K.i (K.i (K.o (K.i K.z))))) Gd.no [],
   .mk (binR Try.prog EK.no Option.none Bool.true BinOp.geq (X.t (K.i (K.i (K.o (K.i K.z))))) (X.c (AV.int IntKind.i64 0))) (Option.some (K.o (K.o (K.i (K.i K.z))))) Gd.no []])
  (.cond (X.t (K.o (K.o (K.i (K.i K.z)))))
  .skip
  (.exit 0)))
  (.seq (.block 1 (.regionD [.mk (keepH (mvR (X.t (K.i (K.i (K.o K.z)))))) (Option.some (K.o (K.o (K.o (K.i (K.o K.z)))))) Gd.no [],
   .mk (keepH (mvR (X.t K.z))) (Option.some (K.i (K.i (K.i (K.o (K.o K.z)))))) Gd.no [],
   .mk (keepH (iaS 1 (X.t (K.i (K.i (K.i (K.o (K.o K.z)))))) (X.t (K.o (K.o (K.o (K.i (K.o K.z)))))))) (Option.some (K.i (K.o (K.o (K.i (K.o K.z)))))) Gd.no [],
   .mk (keepH (ldR Bool.false 1 (X.t (K.i (K.o (K.o (K.i (K.o K.z)))))))) (Option.some (K.o (K.i (K.o (K.i (K.o K.z)))))) Gd.no [],
   .mk (keepH (mvR (X.t (K.i (K.i (K.o K.z)))))) (Option.some (K.i (K.o (K.i (K.o (K.o K.z)))))) Gd.no [],
   .mk (keepH (binR Try.prog EK.no Option.none Bool.true BinOp.add (X.t (K.i (K.o (K.i (K.o (K.o K.z)))))) (X.c (AV.int IntKind.i64 1)))) (Option.some (K.o (K.i (K.i (K.o (K.o K.z)))))) Gd.no [],
   .mk (keepH (mvR (X.t (K.i (K.i (K.o K.z)))))) (Option.some (K.o (K.o (K.o (K.o (K.o K.z)))))) Gd.no [],
   .mk (keepH (binR Try.prog EK.no Option.none Bool.true BinOp.add (X.c (AV.int IntKind.i64 97)) (X.t (K.o (K.o (K.o (K.o (K.o K.z)))))))) (Option.some (K.i (K.o (K.o (K.o (K.o K.z)))))) Gd.no [],
   .mk (keepH (mvR (X.t (K.o (K.i (K.o K.z)))))) (Option.some (K.i (K.i (K.i (K.i K.z))))) Gd.no [],
   .mk (convR (Cv.int IntKind.u8) (X.t (K.i (K.o (K.o (K.o (K.o K.z))))))) (Option.some (K.o (K.i (K.o (K.o (K.o K.z)))))) Gd.no [.mk (mvR (X.t (K.o (K.i (K.o K.z))))) (Option.some (K.i (K.i (K.i (K.i K.z))))) Gd.no, .mk (binR Try.prog EK.no Option.none Bool.true BinOp.add (X.t (K.i (K.o (K.i (K.o (K.o K.z)))))) (X.c (AV.int IntKind.i64 1))) (Option.some (K.o (K.i (K.i (K.o (K.o K.z)))))) Gd.no, .mk (mvR (X.t (K.i (K.i (K.o K.z))))) (Option.some (K.i (K.o (K.i (K.o (K.o K.z)))))) Gd.no, .mk (ldR Bool.false 1 (X.t (K.i (K.o (K.o (K.i (K.o K.z))))))) (Option.some (K.o (K.i (K.o (K.i (K.o K.z)))))) Gd.no, .mk (iaS 1 (X.t (K.i (K.i (K.i (K.o (K.o K.z)))))) (X.t (K.o (K.o (K.o (K.i (K.o K.z))))))) (Option.some (K.i (K.o (K.o (K.i (K.o K.z)))))) Gd.no, .mk (mvR (X.t K.z)) (Option.some (K.i (K.i (K.i (K.o (K.o K.z)))))) Gd.no, .mk (mvR (X.t (K.i (K.i (K.o K.z))))) (Option.some (K.o (K.o (K.o (K.i (K.o K.z)))))) Gd.no],
   .mk (addH (bslR 1 1 [(AV.int IntKind.u8 0)] [(0, (X.t (K.o (K.i (K.o (K.o (K.o K.z)))))))])) (Option.some (K.i (K.i (K.o (K.o (K.o K.z)))))) Gd.no [.mk (mvR (X.t (K.o (K.i (K.o K.z))))) (Option.some (K.i (K.i (K.i (K.i K.z))))) Gd.no, .mk (binR Try.prog EK.no Option.none Bool.true BinOp.add (X.t (K.i (K.o (K.i (K.o (K.o K.z)))))) (X.c (AV.int IntKind.i64 1))) (Option.some (K.o (K.i (K.i (K.o (K.o K.z)))))) Gd.no, .mk (mvR (X.t (K.i (K.i (K.o K.z))))) (Option.some (K.i (K.o (K.i (K.o (K.o K.z)))))) Gd.no, .mk (ldR Bool.false 1 (X.t (K.i (K.o (K.o (K.i (K.o K.z))))))) (Option.some (K.o (K.i (K.o (K.i (K.o K.z)))))) Gd.no, .mk (iaS 1 (X.t (K.i (K.i (K.i (K.o (K.o K.z)))))) (X.t (K.o (K.o (K.o (K.i (K.o K.z))))))) (Option.some (K.i (K.o (K.o (K.i (K.o K.z)))))) Gd.no, .mk (mvR (X.t K.z)) (Option.some (K.i (K.i (K.i (K.o (K.o K.z)))))) Gd.no, .mk (mvR (X.t (K.i (K.i (K.o K.z))))) (Option.some (K.o (K.o (K.o (K.i (K.o K.z)))))) Gd.no],
   .mk (convR Cv.b2s (X.t (K.i (K.i (K.o (K.o (K.o K.z))))))) (Option.some (K.o (K.o (K.i (K.o (K.o K.z)))))) Gd.no [.mk (mvR (X.t (K.o (K.i (K.o K.z))))) (Option.some (K.i (K.i (K.i (K.i K.z))))) Gd.no, .mk (binR Try.prog EK.no Option.none Bool.true BinOp.add (X.t (K.i (K.o (K.i (K.o (K.o K.z)))))) (X.c (AV.int IntKind.i64 1))) (Option.some (K.o (K.i (K.i (K.o (K.o K.z)))))) Gd.no, .mk (mvR (X.t (K.i (K.i (K.o K.z))))) (Option.some (K.i (K.o (K.i (K.o (K.o K.z)))))) Gd.no, .mk (ldR Bool.false 1 (X.t (K.i (K.o (K.o (K.i (K.o K.z))))))) (Option.some (K.o (K.i (K.o (K.i (K.o K.z)))))) Gd.no, .mk (iaS 1 (X.t (K.i (K.i (K.i (K.o (K.o K.z)))))) (X.t (K.o (K.o (K.o (K.i (K.o K.z))))))) (Option.some (K.i (K.o (K.o (K.i (K.o K.z)))))) Gd.no, .mk (mvR (X.t K.z)) (Option.some (K.i (K.i (K.i (K.o (K.o K.z)))))) Gd.no, .mk (mvR (X.t (K.i (K.i (K.o K.z))))) (Option.some (K.o (K.o (K.o (K.i (K.o K.z)))))) Gd.no],
   .mk (buildR [(AV.str []), (AV.str []), (AV.int IntKind.i64 0), (AV.bool Bool.false), (AV.int IntKind.i64 0)] [(0, (1, (X.t (K.o (K.o (K.i (K.o (K.o K.z)))))))), (2, (1, (X.t (K.o (K.i (K.i (K.o (K.o K.z)))))))), (3, (1, (X.t (K.o (K.i (K.o (K.i (K.o K.z))))))))]) (Option.some (K.i (K.i (K.o (K.i (K.o K.z)))))) Gd.no [.mk (mvR (X.t (K.o (K.i (K.o K.z))))) (Option.some (K.i (K.i (K.i (K.i K.z))))) Gd.no],
   .mk (callS Try.prog 22 [(X.t (K.i (K.i (K.i (K.i K.z))))), (X.t (K.i (K.i (K.o (K.i (K.o K.z))))))]) (Option.some (K.o (K.o (K.i (K.i (K.o K.z)))))) Gd.no [],
   .mk (mvR (X.t (K.o (K.o (K.i (K.i (K.o K.z))))))) (Option.some (K.o (K.i (K.o K.z)))) Gd.no []]))
  (.region [.mk (mvR (X.t (K.i (K.i (K.o K.z))))) (Option.some (K.i (K.o (K.i (K.i K.z))))) Gd.no [],
   .mk (binR Try.prog EK.no Option.none Bool.true BinOp.sub (X.t (K.i (K.o (K.i (K.i K.z))))) (X.c (AV.int IntKind.i64 1))) (Option.some (K.o (K.i (K.i (K.i K.z))))) Gd.no [],
   .mk (mvR (X.t (K.o (K.i (K.i (K.i K.z)))))) (Option.some (K.i (K.i (K.o K.z)))) Gd.no []])))
noncomputable def C5L1 : CC :=
  (.seq (.seq (.region [.mk (mvR (X.t (K.o (K.o (K.o (K.o K.z)))))) (Option.some (K.o (K.i (K.i (K.i (K.i K.z)))))) Gd.no [],
   .mk (mvR (X.t K.z)) (Option.some (K.i (K.i (K.i (K.i (K.i K.z)))))) Gd.no [],
   .mk (lenR LnK.slice (X.t (K.i (K.i (K.i (K.i (K.i K.z))))))) (Option.some (K.o (K.o (K.o (K.o (K.o (K.o K.z))))))) Gd.no [],
   .mk (binR Try.prog EK.no Option.none Bool.false BinOp.lss (X.t (K.o (K.i (K.i (K.i (K.i K.z)))))) (X.t (K.o (K.o (K.o (K.o (K.o (K.o K.z)))))))) (Option.some (K.i (K.o (K.o (K.o (K.o (K.o K.z))))))) Gd.no []])
  (.cond (X.t (K.i (K.o (K.o (K.o (K.o (K.o K.z)))))))
  .skip
  (.exit 2)))
  (.seq (.block 3 (.seq (.region [.mk (mvR (X.t K.z)) (Option.some (K.o (K.o (K.i (K.o (K.o (K.o K.z))))))) Gd.no [],
   .mk (mvR (X.t (K.o (K.o (K.o (K.o K.z)))))) (Option.some (K.i (K.o (K.i (K.o (K.o (K.o K.z))))))) Gd.no [],
   .mk (iaS 1 (X.t (K.o (K.o (K.i (K.o (K.o (K.o K.z))))))) (X.t (K.i (K.o (K.i (K.o (K.o (K.o K.z)))))))) (Option.some (K.o (K.i (K.i (K.o (K.o (K.o K.z))))))) Gd.no [],
   .mk (ldR Bool.false 1 (X.t (K.o (K.i (K.i (K.o (K.o (K.o K.z)))))))) (Option.some (K.i (K.i (K.i (K.o (K.o (K.o K.z))))))) Gd.no [],
   .mk (unR UnOp.not (X.t (K.i (K.i (K.i (K.o (K.o (K.o K.z)))))))) (Option.some (K.o (K.o (K.o (K.i (K.o (K.o K.z))))))) Gd.no [],
   .mk (mvR (X.t (K.o (K.o (K.o (K.i (K.o (K.o K.z)))))))) (Option.some (K.i (K.o (K.o (K.i (K.o (K.o K.z))))))) Gd.no [],
   .mk (mvR (X.t (K.o (K.o (K.o (K.o K.z)))))) (Option.some (K.o (K.i (K.o (K.i (K.o (K.o K.z))))))) (Gd.on (K.i (K.o (K.o (K.i (K.o (K.o K.z)))))) Bool.true) [],
   .mk (mvR (X.t (K.o (K.o (K.i K.z))))) (Option.some (K.i (K.i (K.o (K.i (K.o (K.o K.z))))))) (Gd.on (K.i (K.o (K.o (K.i (K.o (K.o K.z)))))) Bool.true) [],
   .mk (binR Try.prog EK.no Option.none Bool.false BinOp.geq (X.t (K.o (K.i (K.o (K.i (K.o (K.o K.z))))))) (X.t (K.i (K.i (K.o (K.i (K.o (K.o K.z)))))))) (Option.some (K.o (K.o (K.i (K.i (K.o (K.o K.z))))))) (Gd.on (K.i (K.o (K.o (K.i (K.o (K.o K.z)))))) Bool.true) [],
   .mk (pickR (X.t (K.i (K.o (K.o (K.i (K.o (K.o K.z))))))) (X.t (K.o (K.o (K.i (K.i (K.o (K.o K.z))))))) (X.c (AV.bool Bool.false))) (Option.some (K.i (K.o (K.i (K.i (K.o (K.o K.z))))))) Gd.no [],
   .mk (mvR (X.t (K.i (K.o (K.i (K.i (K.o (K.o K.z)))))))) (Option.some (K.o (K.i (K.i (K.i (K.o (K.o K.z))))))) Gd.no [],
   .mk (mvR (X.t (K.o (K.o (K.o (K.o K.z)))))) (Option.some (K.i (K.i (K.i (K.i (K.o (K.o K.z))))))) (Gd.on (K.o (K.i (K.i (K.i (K.o (K.o K.z)))))) Bool.true) [],
   .mk (mvR (X.t (K.i (K.o (K.i K.z))))) (Option.some (K.o (K.o (K.o (K.o (K.i (K.o K.z))))))) (Gd.on (K.o (K.i (K.i (K.i (K.o (K.o K.z)))))) Bool.true) [],
   .mk (binR Try.prog EK.no Option.none Bool.false BinOp.lss (X.t (K.i (K.i (K.i (K.i (K.o (K.o K.z))))))) (X.t (K.o (K.o (K.o (K.o (K.i (K.o K.z)))))))) (Option.some (K.i (K.o (K.o (K.o (K.i (K.o K.z))))))) (Gd.on (K.o (K.i (K.i (K.i (K.o (K.o K.z)))))) Bool.true) [],
   .mk (pickR (X.t (K.o (K.i (K.i (K.i (K.o (K.o K.z))))))) (X.t (K.i (K.o (K.o (K.o (K.i (K.o K.z))))))) (X.c (AV.bool Bool.false))) (Option.some (K.o (K.i (K.o (K.o (K.i (K.o K.z))))))) Gd.no [],
   .mk (mvR (X.t (K.o (K.i (K.o (K.o (K.i (K.o K.z)))))))) (Option.some (K.i (K.i (K.o (K.o (K.i (K.o K.z))))))) Gd.no [],
   .mk (mvR (X.t (K.i (K.i (K.i K.z))))) (Option.some (K.o (K.o (K.i (K.o (K.i (K.o K.z))))))) (Gd.on (K.i (K.i (K.o (K.o (K.i (K.o K.z)))))) Bool.true) [],
   .mk (lenR LnK.slice (X.t (K.o (K.o (K.i (K.o (K.i (K.o K.z)))))))) (Option.some (K.i (K.o (K.i (K.o (K.i (K.o K.z))))))) (Gd.on (K.i (K.i (K.o (K.o (K.i (K.o K.z)))))) Bool.true) [],
   .mk (mvR (X.t (K.o (K.o K.z)))) (Option.some (K.o (K.i (K.i (K.o (K.i (K.o K.z))))))) (Gd.on (K.i (K.i (K.o (K.o (K.i (K.o K.z)))))) Bool.true) [],
   .mk (binR Try.prog EK.no Option.none Bool.false BinOp.lss (X.t (K.i (K.o (K.i (K.o (K.i (K.o K.z))))))) (X.t (K.o (K.i (K.i (K.o (K.i (K.o K.z)))))))) (Option.some (K.i (K.i (K.i (K.o (K.i (K.o K.z))))))) (Gd.on (K.i (K.i (K.o (K.o (K.i (K.o K.z)))))) Bool.true) [],
   .mk (pickR (X.t (K.i (K.i (K.o (K.o (K.i (K.o K.z))))))) (X.t (K.i (K.i (K.i (K.o (K.i (K.o K.z))))))) (X.c (AV.bool Bool.false))) (Option.some (K.o (K.o (K.o (K.i (K.i (K.o K.z))))))) Gd.no []])
  (.cond (X.t (K.o (K.o (K.o (K.i (K.i (K.o K.z)))))))
  (.region [.mk (mvR (X.t (K.i (K.i (K.i K.z))))) (Option.some (K.i (K.o (K.o (K.i (K.i (K.o K.z))))))) Gd.no [],
   .mk (mvR (X.t (K.o (K.o (K.o (K.o K.z)))))) (Option.some (K.o (K.i (K.o (K.i (K.i (K.o K.z))))))) Gd.no [],
   .mk (bslR 1 1 [(AV.int IntKind.i64 0)] [(0, (X.t (K.o (K.i (K.o (K.i (K.i (K.o K.z))))))))]) (Option.some (K.i (K.i (K.o (K.i (K.i (K.o K.z))))))) Gd.no [],
   .mk (appR 1 8 (X.t (K.i (K.o (K.o (K.i (K.i (K.o K.z))))))) (X.t (K.i (K.i (K.o (K.i (K.i (K.o K.z)))))))) (Option.some (K.o (K.o (K.i (K.i (K.i (K.o K.z))))))) Gd.no [],
   .mk (mvR (X.t (K.o (K.o (K.i (K.i (K.i (K.o K.z)))))))) (Option.some (K.i (K.i (K.i K.z)))) Gd.no []])
  .skip)))
  (.region [.mk (mvR (X.t (K.o (K.o (K.o (K.o K.z)))))) (Option.some (K.o (K.i (K.o (K.o (K.o (K.o K.z))))))) Gd.no [],
   .mk (binR Try.prog EK.no Option.none Bool.true BinOp.add (X.t (K.o (K.i (K.o (K.o (K.o (K.o K.z))))))) (X.c (AV.int IntKind.i64 1))) (Option.some (K.i (K.i (K.o (K.o (K.o (K.o K.z))))))) Gd.no [],
   .mk (mvR (X.t (K.i (K.i (K.o (K.o (K.o (K.o K.z)))))))) (Option.some (K.o (K.o (K.o (K.o K.z))))) Gd.no []])))
noncomputable def C5L2 : CC :=
  (.seq (.seq (.region [.mk (mvR (X.t (K.o (K.i (K.o (K.o K.z)))))) (Option.some (K.o (K.i (K.i (K.o (K.o (K.i K.z))))))) Gd.no [],
   .mk (mvR (X.t (K.i (K.o (K.o (K.o K.z)))))) (Option.some (K.i (K.i (K.i (K.o (K.o (K.i K.z))))))) Gd.no [],
   .mk (lenR LnK.slice (X.t (K.i (K.i (K.i (K.o (K.o (K.i K.z)))))))) (Option.some (K.o (K.o (K.o (K.i (K.o (K.i K.z))))))) Gd.no [],
   .mk (binR Try.prog EK.no Option.none Bool.false BinOp.lss (X.t (K.o (K.i (K.i (K.o (K.o (K.i K.z))))))) (X.t (K.o (K.o (K.o (K.i (K.o (K.i K.z)))))))) (Option.some (K.i (K.o (K.o (K.i (K.o (K.i K.z))))))) Gd.no []])
  (.cond (X.t (K.i (K.o (K.o (K.i (K.o (K.i K.z)))))))
  .skip
  (.exit 4)))
  (.seq (.block 5 (.seq (.regionD [.mk (keepH (mvR (X.t (K.o (K.i (K.o (K.o K.z))))))) (Option.some (K.o (K.i (K.o (K.o (K.i (K.i K.z))))))) Gd.no [],
   .mk (keepH (mvR (X.t (K.i (K.i (K.i K.z)))))) (Option.some (K.i (K.o (K.o (K.o (K.i (K.i K.z))))))) Gd.no [],
   .mk (keepH (iaS 1 (X.t (K.i (K.o (K.o (K.o (K.i (K.i K.z))))))) (X.t (K.o (K.i (K.o (K.o (K.i (K.i K.z))))))))) (Option.some (K.i (K.i (K.o (K.o (K.i (K.i K.z))))))) Gd.no [],
   .mk (keepH (ldR Bool.false 1 (X.t (K.i (K.i (K.o (K.o (K.i (K.i K.z))))))))) (Option.some (K.o (K.o (K.i (K.o (K.i (K.i K.z))))))) Gd.no [],
   .mk (keepH (binR Try.prog EK.no Option.none Bool.true BinOp.add (X.t (K.o (K.o (K.i (K.o (K.i (K.i K.z))))))) (X.c (AV.int IntKind.i64 1)))) (Option.some (K.i (K.o (K.i (K.o (K.i (K.i K.z))))))) Gd.no [],
   .mk (keepH (mvR (X.t (K.o (K.i (K.o (K.o K.z))))))) (Option.some (K.i (K.o (K.i (K.i (K.o (K.i K.z))))))) Gd.no [],
   .mk (keepH (mvR (X.t (K.i (K.o (K.o (K.o K.z))))))) (Option.some (K.o (K.o (K.i (K.i (K.o (K.i K.z))))))) Gd.no [],
   .mk (keepH (iaS 3 (X.t (K.o (K.o (K.i (K.i (K.o (K.i K.z))))))) (X.t (K.i (K.o (K.i (K.i (K.o (K.i K.z))))))))) (Option.some (K.o (K.i (K.i (K.i (K.o (K.i K.z))))))) Gd.no [],
   .mk (keepH (faR 2 (X.t (K.o (K.i (K.i (K.i (K.o (K.i K.z))))))))) (Option.some (K.i (K.i (K.i (K.i (K.o (K.i K.z))))))) Gd.no [],
   .mk (keepH (ldR Bool.false 1 (X.t (K.i (K.i (K.i (K.i (K.o (K.i K.z))))))))) (Option.some (K.o (K.o (K.o (K.o (K.i (K.i K.z))))))) Gd.no [],
   .mk (keepH (binR Try.prog EK.no Option.none Bool.false BinOp.neq (X.t (K.o (K.o (K.o (K.o (K.i (K.i K.z))))))) (X.t (K.i (K.o (K.i (K.o (K.i (K.i K.z))))))))) (Option.some (K.o (K.i (K.i (K.o (K.i (K.i K.z))))))) Gd.no [],
   .mk (keepH (mvR (X.t (K.o (K.i (K.i (K.o (K.i (K.i K.z))))))))) (Option.some (K.i (K.i (K.i (K.o (K.i (K.i K.z))))))) Gd.no [],
   .mk (keepH (mvR (X.t (K.o (K.i (K.o (K.o K.z))))))) (Option.some (K.o (K.i (K.i (K.i (K.i (K.i K.z))))))) (Gd.on (K.i (K.i (K.i (K.o (K.i (K.i K.z)))))) Bool.false) [],
   .mk (keepH (mvR (X.t (K.i (K.i (K.i K.z)))))) (Option.some (K.i (K.o (K.i (K.i (K.i (K.i K.z))))))) (Gd.on (K.i (K.i (K.i (K.o (K.i (K.i K.z)))))) Bool.false) [],
   .mk (keepH (iaS 1 (X.t (K.i (K.o (K.i (K.i (K.i (K.i K.z))))))) (X.t (K.o (K.i (K.i (K.i (K.i (K.i K.z))))))))) (Option.some (K.i (K.i (K.i (K.i (K.i (K.i K.z))))))) (Gd.on (K.i (K.i (K.i (K.o (K.i (K.i K.z)))))) Bool.false) [],
   .mk (keepH (ldR Bool.false 1 (X.t (K.i (K.i (K.i (K.i (K.i (K.i K.z))))))))) (Option.some (K.o (K.o (K.o (K.o (K.o (K.o (K.o K.z)))))))) (Gd.on (K.i (K.i (K.i (K.o (K.i (K.i K.z)))))) Bool.false) [],
   .mk (keepH (binR Try.prog EK.no Option.none Bool.true BinOp.add (X.c (AV.int IntKind.i64 97)) (X.t (K.o (K.o (K.o (K.o (K.o (K.o (K.o K.z)))))))))) (Option.some (K.i (K.o (K.o (K.o (K.o (K.o (K.o K.z)))))))) (Gd.on (K.i (K.i (K.i (K.o (K.i (K.i K.z)))))) Bool.false) [],
   .mk (keepH (mvR (X.t (K.o (K.i (K.o (K.o K.z))))))) (Option.some (K.i (K.o (K.o (K.i (K.i (K.i K.z))))))) (Gd.on (K.i (K.i (K.i (K.o (K.i (K.i K.z)))))) Bool.false) [],
   .mk (keepH (mvR (X.t (K.i (K.o (K.o (K.o K.z))))))) (Option.some (K.o (K.o (K.o (K.i (K.i (K.i K.z))))))) (Gd.on (K.i (K.i (K.i (K.o (K.i (K.i K.z)))))) Bool.false) [],
   .mk (keepH (iaS 3 (X.t (K.o (K.o (K.o (K.i (K.i (K.i K.z))))))) (X.t (K.i (K.o (K.o (K.i (K.i (K.i K.z))))))))) (Option.some (K.o (K.i (K.o (K.i (K.i (K.i K.z))))))) (Gd.on (K.i (K.i (K.i (K.o (K.i (K.i K.z)))))) Bool.false) [],
   .mk (keepH (faR 0 (X.t (K.o (K.i (K.o (K.i (K.i (K.i K.z))))))))) (Option.some (K.i (K.i (K.o (K.i (K.i (K.i K.z))))))) (Gd.on (K.i (K.i (K.i (K.o (K.i (K.i K.z)))))) Bool.false) [],
   .mk (keepH (ldR Bool.false 1 (X.t (K.i (K.i (K.o (K.i (K.i (K.i K.z))))))))) (Option.some (K.o (K.o (K.i (K.i (K.i (K.i K.z))))))) (Gd.on (K.i (K.i (K.i (K.o (K.i (K.i K.z)))))) Bool.false) [],
   .mk (convR (Cv.int IntKind.u8) (X.t (K.i (K.o (K.o (K.o (K.o (K.o (K.o K.z))))))))) (Option.some (K.o (K.i (K.o (K.o (K.o (K.o (K.o K.z)))))))) (Gd.on (K.i (K.i (K.i (K.o (K.i (K.i K.z)))))) Bool.false) [.mk (ldR Bool.false 1 (X.t (K.i (K.i (K.o (K.i (K.i (K.i K.z)))))))) (Option.some (K.o (K.o (K.i (K.i (K.i (K.i K.z))))))) (Gd.on (K.i (K.i (K.i (K.o (K.i (K.i K.z)))))) Bool.false), .mk (faR 0 (X.t (K.o (K.i (K.o (K.i (K.i (K.i K.z)))))))) (Option.some (K.i (K.i (K.o (K.i (K.i (K.i K.z))))))) (Gd.on (K.i (K.i (K.i (K.o (K.i (K.i K.z)))))) Bool.false), .mk (iaS 3 (X.t (K.o (K.o (K.o (K.i (K.i (K.i K.z))))))) (X.t (K.i (K.o (K.o (K.i (K.i (K.i K.z)))))))) (Option.some (K.o (K.i (K.o (K.i (K.i (K.i K.z))))))) (Gd.on (K.i (K.i (K.i (K.o (K.i (K.i K.z)))))) Bool.false), .mk (mvR (X.t (K.i (K.o (K.o (K.o K.z)))))) (Option.some (K.o (K.o (K.o (K.i (K.i (K.i K.z))))))) (Gd.on (K.i (K.i (K.i (K.o (K.i (K.i K.z)))))) Bool.false), .mk (mvR (X.t (K.o (K.i (K.o (K.o K.z)))))) (Option.some (K.i (K.o (K.o (K.i (K.i (K.i K.z))))))) (Gd.on (K.i (K.i (K.i (K.o (K.i (K.i K.z)))))) Bool.false)],
   .mk (addH (bslR 1 1 [(AV.int IntKind.u8 0)] [(0, (X.t (K.o (K.i (K.o (K.o (K.o (K.o (K.o K.z)))))))))])) (Option.some (K.i (K.i (K.o (K.o (K.o (K.o (K.o K.z)))))))) (Gd.on (K.i (K.i (K.i (K.o (K.i (K.i K.z)))))) Bool.false) [.mk (ldR Bool.false 1 (X.t (K.i (K.i (K.o (K.i (K.i (K.i K.z)))))))) (Option.some (K.o (K.o (K.i (K.i (K.i (K.i K.z))))))) (Gd.on (K.i (K.i (K.i (K.o (K.i (K.i K.z)))))) Bool.false), .mk (faR 0 (X.t (K.o (K.i (K.o (K.i (K.i (K.i K.z)))))))) (Option.some (K.i (K.i (K.o (K.i (K.i (K.i K.z))))))) (Gd.on (K.i (K.i (K.i (K.o (K.i (K.i K.z)))))) Bool.false), .mk (iaS 3 (X.t (K.o (K.o (K.o (K.i (K.i (K.i K.z))))))) (X.t (K.i (K.o (K.o (K.i (K.i (K.i K.z)))))))) (Option.some (K.o (K.i (K.o (K.i (K.i (K.i K.z))))))) (Gd.on (K.i (K.i (K.i (K.o (K.i (K.i K.z)))))) Bool.false), .mk (mvR (X.t (K.i (K.o (K.o (K.o K.z)))))) (Option.some (K.o (K.o (K.o (K.i (K.i (K.i K.z))))))) (Gd.on (K.i (K.i (K.i (K.o (K.i (K.i K.z)))))) Bool.false), .mk (mvR (X.t (K.o (K.i (K.o (K.o K.z)))))) (Option.some (K.i (K.o (K.o (K.i (K.i (K.i K.z))))))) (Gd.on (K.i (K.i (K.i (K.o (K.i (K.i K.z)))))) Bool.false)],
   .mk (convR Cv.b2s (X.t (K.i (K.i (K.o (K.o (K.o (K.o (K.o K.z))))))))) (Option.some (K.o (K.o (K.i (K.o (K.o (K.o (K.o K.z)))))))) (Gd.on (K.i (K.i (K.i (K.o (K.i (K.i K.z)))))) Bool.false) [.mk (ldR Bool.false 1 (X.t (K.i (K.i (K.o (K.i (K.i (K.i K.z)))))))) (Option.some (K.o (K.o (K.i (K.i (K.i (K.i K.z))))))) (Gd.on (K.i (K.i (K.i (K.o (K.i (K.i K.z)))))) Bool.false), .mk (faR 0 (X.t (K.o (K.i (K.o (K.i (K.i (K.i K.z)))))))) (Option.some (K.i (K.i (K.o (K.i (K.i (K.i K.z))))))) (Gd.on (K.i (K.i (K.i (K.o (K.i (K.i K.z)))))) Bool.false), .mk (iaS 3 (X.t (K.o (K.o (K.o (K.i (K.i (K.i K.z))))))) (X.t (K.i (K.o (K.o (K.i (K.i (K.i K.z)))))))) (Option.some (K.o (K.i (K.o (K.i (K.i (K.i K.z))))))) (Gd.on (K.i (K.i (K.i (K.o (K.i (K.i K.z)))))) Bool.false), .mk (mvR (X.t (K.i (K.o (K.o (K.o K.z)))))) (Option.some (K.o (K.o (K.o (K.i (K.i (K.i K.z))))))) (Gd.on (K.i (K.i (K.i (K.o (K.i (K.i K.z)))))) Bool.false), .mk (mvR (X.t (K.o (K.i (K.o (K.o K.z)))))) (Option.some (K.i (K.o (K.o (K.i (K.i (K.i K.z))))))) (Gd.on (K.i (K.i (K.i (K.o (K.i (K.i K.z)))))) Bool.false)],
   .mk (keepH (binR Try.prog EK.no Option.none Bool.false BinOp.neq (X.t (K.o (K.o (K.i (K.i (K.i (K.i K.z))))))) (X.t (K.o (K.o (K.i (K.o (K.o (K.o (K.o K.z)))))))))) (Option.some (K.i (K.o (K.i (K.o (K.o (K.o (K.o K.z)))))))) (Gd.on (K.i (K.i (K.i (K.o (K.i (K.i K.z)))))) Bool.false) [],
   .mk (keepH (pickR (X.t (K.i (K.i (K.i (K.o (K.i (K.i K.z))))))) (X.c (AV.bool Bool.true)) (X.t (K.i (K.o (K.i (K.o (K.o (K.o (K.o K.z)))))))))) (Option.some (K.o (K.i (K.i (K.o (K.o (K.o (K.o K.z)))))))) Gd.no []])
  (.cond (X.t (K.o (K.i (K.i (K.o (K.o (K.o (K.o K.z))))))))
  (.seq (.region [.mk (mvR (X.c (AV.bool Bool.false))) (Option.some (K.i (K.o (K.o K.z)))) Gd.no []])
  .ret)
  .skip)))
  (.region [.mk (mvR (X.t (K.o (K.i (K.o (K.o K.z)))))) (Option.some (K.o (K.i (K.o (K.i (K.o (K.i K.z))))))) Gd.no [],
   .mk (binR Try.prog EK.no Option.none Bool.true BinOp.add (X.t (K.o (K.i (K.o (K.i (K.o (K.i K.z))))))) (X.c (AV.int IntKind.i64 1))) (Option.some (K.i (K.i (K.o (K.i (K.o (K.i K.z))))))) Gd.no [],
   .mk (mvR (X.t (K.i (K.i (K.o (K.i (K.o (K.i K.z)))))))) (Option.some (K.o (K.i (K.o (K.o K.z))))) Gd.no []])))
noncomputable def C5 : CC :=
  (.seq (.region [.mk (mvR (X.c (AV.bool Bool.false))) (Option.some (K.i (K.o (K.o K.z)))) Gd.no []])
  (.seq (.seq (.region [.mk (callS Try.prog 11 []) (Option.some (K.i (K.i (K.o (K.o K.z))))) Gd.no [],
   .mk (unR UnOp.not (X.t (K.i (K.i (K.o (K.o K.z)))))) (Option.some (K.o (K.o (K.i (K.o K.z))))) Gd.no []])
  (.cond (X.t (K.o (K.o (K.i (K.o K.z)))))
  (.seq (.region [.mk (mvR (X.c (AV.bool Bool.false))) (Option.some (K.i (K.o (K.o K.z)))) Gd.no []])
  .ret)
  .skip))
  (.seq (.seq (.region [.mk (mvR (X.t K.z)) (Option.some (K.i (K.o (K.i (K.o K.z))))) Gd.no [],
   .mk (lenR LnK.slice (X.t (K.i (K.o (K.i (K.o K.z)))))) (Option.some (K.o (K.i (K.i (K.o K.z))))) Gd.no [],
   .mk (binR Try.prog EK.no Option.none Bool.true BinOp.gtr (X.t (K.o (K.i (K.i (K.o K.z))))) (X.c (AV.int IntKind.i64 26))) (Option.some (K.i (K.i (K.i (K.o K.z))))) Gd.no []])
  (.cond (X.t (K.i (K.i (K.i (K.o K.z)))))
  (.seq (.region [.mk (mvR (X.c (AV.bool Bool.true))) (Option.some (K.i (K.o (K.o K.z)))) Gd.no []])
  .ret)
  .skip))
  (.seq (.region [.mk (mvR (X.c AV.nils)) (Option.some (K.o (K.i (K.o K.z)))) Gd.no []])
  (.seq (.seq (.region [.mk (mvR (X.t K.z)) (Option.some (K.o (K.o (K.o (K.i K.z))))) Gd.no [],
   .mk (lenR LnK.slice (X.t (K.o (K.o (K.o (K.i K.z)))))) (Option.some (K.i (K.o (K.o (K.i K.z))))) Gd.no [],
   .mk (binR Try.prog EK.no Option.none Bool.true BinOp.sub (X.t (K.i (K.o (K.o (K.i K.z))))) (X.c (AV.int IntKind.i64 1))) (Option.some (K.o (K.i (K.o (K.i K.z))))) Gd.no [],
   .mk (mvR (X.t (K.o (K.i (K.o (K.i K.z)))))) (Option.some (K.i (K.i (K.o K.z)))) Gd.no []])
  (.block 0 (.loop C5L0)))
  (.seq (.region [.mk (mvR (X.t (K.o K.z))) (Option.some (K.i (K.o (K.i (K.i (K.o K.z)))))) Gd.no [],
   .mk (convR (Cv.int IntKind.i64) (X.t (K.i (K.o (K.i (K.i (K.o K.z))))))) (Option.some (K.o (K.i (K.i (K.i (K.o K.z)))))) Gd.no [],
   .mk (binR Try.prog EK.no Option.none Bool.true BinOp.rem (X.t (K.o (K.i (K.i (K.i (K.o K.z)))))) (X.c (AV.int IntKind.i64 27))) (Option.some (K.i (K.i (K.i (K.i (K.o K.z)))))) Gd.no [],
   .mk (mvR (X.t (K.i K.z))) (Option.some (K.o (K.o (K.o (K.o (K.i K.z)))))) Gd.no [],
   .mk (convR (Cv.int IntKind.i64) (X.t (K.o (K.o (K.o (K.o (K.i K.z))))))) (Option.some (K.i (K.o (K.o (K.o (K.i K.z)))))) Gd.no [],
   .mk (binR Try.prog EK.no Option.none Bool.true BinOp.rem (X.t (K.i (K.o (K.o (K.o (K.i K.z)))))) (X.c (AV.int IntKind.i64 27))) (Option.some (K.o (K.i (K.o (K.o (K.i K.z)))))) Gd.no [],
   .mk (mvR (X.t (K.i (K.i (K.i (K.i (K.o K.z))))))) (Option.some (K.o (K.o (K.i K.z)))) Gd.no [],
   .mk (mvR (X.t (K.o (K.i (K.o (K.o (K.i K.z))))))) (Option.some (K.i (K.o (K.i K.z)))) Gd.no []])
  (.seq (.region [.mk (mvR (X.t (K.o (K.o (K.i K.z))))) (Option.some (K.i (K.i (K.o (K.o (K.i K.z)))))) Gd.no [],
   .mk (binR Try.prog EK.no Option.none Bool.true BinOp.add (X.c (AV.int IntKind.i64 97)) (X.t (K.i (K.i (K.o (K.o (K.i K.z))))))) (Option.some (K.o (K.o (K.i (K.o (K.i K.z)))))) Gd.no [],
   .mk (convR (Cv.int IntKind.u8) (X.t (K.o (K.o (K.i (K.o (K.i K.z))))))) (Option.some (K.i (K.o (K.i (K.o (K.i K.z)))))) Gd.no [],
   .mk (bslR 1 1 [(AV.int IntKind.u8 0)] [(0, (X.t (K.i (K.o (K.i (K.o (K.i K.z)))))))]) (Option.some (K.o (K.i (K.i (K.o (K.i K.z)))))) Gd.no [],
   .mk (convR Cv.b2s (X.t (K.o (K.i (K.i (K.o (K.i K.z))))))) (Option.some (K.i (K.i (K.i (K.o (K.i K.z)))))) Gd.no [],
   .mk (mvR (X.t (K.i (K.o (K.i K.z))))) (Option.some (K.o (K.o (K.o (K.i (K.i K.z)))))) Gd.no [],
   .mk (binR Try.prog EK.no Option.none Bool.true BinOp.add (X.c (AV.int IntKind.i64 97)) (X.t (K.o (K.o (K.o (K.i (K.i K.z))))))) (Option.some (K.i (K.o (K.o (K.i (K.i K.z)))))) Gd.no [],
   .mk (convR (Cv.int IntKind.u8) (X.t (K.i (K.o (K.o (K.i (K.i K.z))))))) (Option.some (K.o (K.i (K.o (K.i (K.i K.z)))))) Gd.no [],
   .mk (bslR 1 1 [(AV.int IntKind.u8 0)] [(0, (X.t (K.o (K.i (K.o (K.i (K.i K.z)))))))]) (Option.some (K.i (K.i (K.o (K.i (K.i K.z)))))) Gd.no [],
   .mk (convR Cv.b2s (X.t (K.i (K.i (K.o (K.i (K.i K.z))))))) (Option.some (K.o (K.o (K.i (K.i (K.i K.z)))))) Gd.no [],
   .mk (buildR [(AV.str []), (AV.str [])] [(0, (1, (X.t (K.i (K.i (K.i (K.o (K.i K.z)))))))), (1, (1, (X.t (K.o (K.o (K.i (K.i (K.i K.z))))))))]) (Option.some (K.i (K.o (K.i (K.i (K.i K.z)))))) Gd.no [],
   .mk (fun _ H => newC Bool.false [(AV.str []), (AV.str [])] H) (Option.some (K.o (K.i (K.i K.z)))) Gd.no [],
   .mk (stR 2 (X.t (K.o (K.i (K.i K.z)))) (X.t (K.i (K.o (K.i (K.i (K.i K.z))))))) Option.none Gd.no []])
  (.seq (.region [.mk (mvR (X.c AV.nils)) (Option.some (K.i (K.i (K.i K.z)))) Gd.no []])
  (.seq (.seq (.region [.mk (mvR (X.c (AV.int IntKind.i64 0))) (Option.some (K.o (K.o (K.o (K.o K.z))))) Gd.no []])
  (.block 2 (.loop C5L1)))
  (.seq (.region [.mk (mvR (X.t (K.o (K.i (K.o K.z))))) (Option.some (K.i (K.o (K.i (K.i (K.i (K.o K.z))))))) Gd.no [],
   .mk (ldR Bool.true 2 (X.t (K.o (K.i (K.i K.z))))) (Option.some (K.o (K.i (K.i (K.i (K.i (K.o K.z))))))) Gd.no [],
   .mk (mvR (X.t (K.o (K.o K.z)))) (Option.some (K.i (K.i (K.i (K.i (K.i (K.o K.z))))))) Gd.no [],
   .mk (callS Try.prog 15 [(X.t (K.i (K.o (K.i (K.i (K.i (K.o K.z))))))), (X.t (K.o (K.i (K.i (K.i (K.i (K.o K.z))))))), (X.t (K.i (K.i (K.i (K.i (K.i (K.o K.z)))))))]) (Option.some (K.o (K.o (K.o (K.o (K.o (K.i K.z))))))) Gd.no [],
   .mk (mvR (X.t (K.o (K.o (K.o (K.o (K.o (K.i K.z)))))))) (Option.some (K.i (K.o (K.o (K.o K.z))))) Gd.no []])
  (.seq (.seq (.region [.mk (mvR (X.t (K.i (K.o (K.o (K.o K.z)))))) (Option.some (K.i (K.o (K.o (K.o (K.o (K.i K.z))))))) Gd.no [],
   .mk (lenR LnK.slice (X.t (K.i (K.o (K.o (K.o (K.o (K.i K.z)))))))) (Option.some (K.o (K.i (K.o (K.o (K.o (K.i K.z))))))) Gd.no [],
   .mk (mvR (X.t (K.i (K.i (K.i K.z))))) (Option.some (K.i (K.i (K.o (K.o (K.o (K.i K.z))))))) Gd.no [],
   .mk (lenR LnK.slice (X.t (K.i (K.i (K.o (K.o (K.o (K.i K.z)))))))) (Option.some (K.o (K.o (K.i (K.o (K.o (K.i K.z))))))) Gd.no [],
   .mk (binR Try.prog EK.no Option.none Bool.false BinOp.neq (X.t (K.o (K.i (K.o (K.o (K.o (K.i K.z))))))) (X.t (K.o (K.o (K.i (K.o (K.o (K.i K.z)))))))) (Option.some (K.i (K.o (K.i (K.o (K.o (K.i K.z))))))) Gd.no []])
  (.cond (X.t (K.i (K.o (K.i (K.o (K.o (K.i K.z)))))))
  (.seq (.region [.mk (mvR (X.c (AV.bool Bool.false))) (Option.some (K.i (K.o (K.o K.z)))) Gd.no []])
  .ret)
  .skip))
  (.seq (.seq (.region [.mk (mvR (X.c (AV.int IntKind.i64 0))) (Option.some (K.o (K.i (K.o (K.o K.z))))) Gd.no []])
  (.block 4 (.loop C5L2)))
  (.seq (.region [.mk (mvR (X.t (K.o (K.i (K.o K.z))))) (Option.some (K.i (K.i (K.i (K.o (K.o (K.o (K.o K.z)))))))) Gd.no [],
   .mk (lenR LnK.slice (X.t (K.i (K.i (K.i (K.o (K.o (K.o (K.o K.z))))))))) (Option.some (K.o (K.o (K.o (K.i (K.o (K.o (K.o K.z)))))))) Gd.no [],
   .mk (mvR (X.t K.z)) (Option.some (K.i (K.o (K.o (K.i (K.o (K.o (K.o K.z)))))))) Gd.no [],
   .mk (lenR LnK.slice (X.t (K.i (K.o (K.o (K.i (K.o (K.o (K.o K.z))))))))) (Option.some (K.o (K.i (K.o (K.i (K.o (K.o (K.o K.z)))))))) Gd.no [],
   .mk (binR Try.prog EK.no Option.none Bool.false BinOp.eql (X.t (K.o (K.o (K.o (K.i (K.o (K.o (K.o K.z)))))))) (X.t (K.o (K.i (K.o (K.i (K.o (K.o (K.o K.z))))))))) (Option.some (K.i (K.i (K.o (K.i (K.o (K.o (K.o K.z)))))))) Gd.no [],
   .mk (mvR (X.t (K.i (K.i (K.o (K.i (K.o (K.o (K.o K.z))))))))) (Option.some (K.i (K.o (K.o K.z)))) Gd.no []])
  .ret)))))))))))))
theorem C5ok : (match Try.f5.body with | some c => comp Try.prog 139 c | none => none) = some C5 := by kernel_rfl
@[go_sem] theorem call5 (args : List AV) (H : Heap) : callC Try.prog 5 args H = .call 5 args := callC_ok (by kernel_rfl) args H
theorem R5ok : resKs Try.prog Try.f5.results.toList = some [(RK.tmp (K.i (K.o (K.o K.z))))] := by kernel_rfl

/- 11: estuary/estuarylaw12.known -/
noncomputable def C11 : CC :=
  (.seq (.region [.mk (mvR (X.c (AV.bool Bool.false))) (Option.some K.z) Gd.no []])
  (.seq (.region [.mk (buildR [(AV.str []), (AV.str []), (AV.int IntKind.i64 0), (AV.bool Bool.false), (AV.int IntKind.i64 0)] [(0, (1, (X.c (AV.str [97])))), (2, (1, (X.c (AV.int IntKind.i64 2)))), (1, (1, (X.c (AV.str [120]))))]) (Option.some (K.i (K.o (K.o K.z)))) Gd.no [],
   .mk (buildR [(AV.str []), (AV.str []), (AV.int IntKind.i64 0), (AV.bool Bool.false), (AV.int IntKind.i64 0)] [(0, (1, (X.c (AV.str [98])))), (2, (1, (X.c (AV.int IntKind.i64 1)))), (3, (1, (X.c (AV.bool Bool.true))))]) (Option.some (K.o (K.i (K.o K.z)))) Gd.no [],
   .mk (fun _ H => newC Bool.false [(AV.str []), (AV.str []), (AV.int IntKind.i64 0), (AV.bool Bool.false), (AV.int IntKind.i64 0)] H) (Option.some (K.o K.z)) Gd.no [],
   .mk (fun _ H => newC Bool.false [(AV.str []), (AV.str []), (AV.int IntKind.i64 0), (AV.bool Bool.false), (AV.int IntKind.i64 0)] H) (Option.some (K.i K.z)) Gd.no [],
   .mk (stR 5 (X.t (K.o K.z)) (X.t (K.i (K.o (K.o K.z))))) Option.none Gd.no [],
   .mk (stR 5 (X.t (K.i K.z)) (X.t (K.o (K.i (K.o K.z))))) Option.none Gd.no []])
  (.seq (.regionD [.mk (keepH (ldR Bool.true 5 (X.t (K.o K.z)))) (Option.some (K.i (K.o (K.i K.z)))) Gd.no [],
   .mk (keepH (ldR Bool.true 5 (X.t (K.i K.z)))) (Option.some (K.i (K.i (K.o K.z)))) Gd.no [],
   .mk (callS Try.prog 22 [(X.c AV.nils), (X.t (K.i (K.i (K.o K.z))))]) (Option.some (K.o (K.o (K.i K.z)))) Gd.no [.mk (ldR Bool.true 5 (X.t (K.o K.z))) (Option.some (K.i (K.o (K.i K.z)))) Gd.no],
   .mk (callS Try.prog 22 [(X.t (K.o (K.o (K.i K.z)))), (X.t (K.i (K.o (K.i K.z))))]) (Option.some (K.o (K.i (K.i K.z)))) Gd.no [],
   .mk (mvR (X.t (K.o (K.i (K.i K.z))))) (Option.some (K.o (K.o K.z))) Gd.no []])
  (.seq (.region [.mk (mvR (X.t (K.o (K.o K.z)))) (Option.some (K.o (K.o (K.o (K.o K.z))))) Gd.no [],
   .mk (callS Try.prog 13 [(X.t (K.o (K.o (K.o (K.o K.z))))), (X.c (AV.str [97]))]) (Option.some (K.i (K.o (K.o (K.o K.z))))) Gd.no [],
   .mk (mvR (X.t (K.i (K.o (K.o (K.o K.z)))))) (Option.some (K.i (K.i (K.i K.z)))) Gd.no [],
   .mk (extR (X.t (K.i (K.i (K.i K.z)))) 0) (Option.some (K.o (K.i (K.o (K.o K.z))))) Gd.no [],
   .mk (extR (X.t (K.i (K.i (K.i K.z)))) 1) (Option.some (K.i (K.i (K.o (K.o K.z))))) Gd.no [],
   .mk (fun _ H => newC Bool.false [(AV.str []), (AV.str []), (AV.int IntKind.i64 0), (AV.bool Bool.false), (AV.int IntKind.i64 0)] H) (Option.some (K.i (K.o K.z))) Gd.no [],
   .mk (stR 5 (X.t (K.i (K.o K.z))) (X.t (K.o (K.i (K.o (K.o K.z)))))) Option.none Gd.no [],
   .mk (mvR (X.t (K.i (K.i (K.o (K.o K.z)))))) (Option.some (K.o (K.i K.z))) Gd.no []])
  (.seq (.region [.mk (mvR (X.t (K.o (K.o K.z)))) (Option.some (K.i (K.o (K.i (K.o K.z))))) Gd.no [],
   .mk (callS Try.prog 13 [(X.t (K.i (K.o (K.i (K.o K.z))))), (X.c (AV.str [99]))]) (Option.some (K.o (K.i (K.i (K.o K.z))))) Gd.no [],
   .mk (mvR (X.t (K.o (K.i (K.i (K.o K.z)))))) (Option.some (K.o (K.o (K.i (K.o K.z))))) Gd.no [],
   .mk (extR (X.t (K.o (K.o (K.i (K.o K.z))))) 0) (Option.some (K.i (K.i (K.i (K.o K.z))))) Gd.no [],
   .mk (extR (X.t (K.o (K.o (K.i (K.o K.z))))) 1) (Option.some (K.o (K.o (K.o (K.i K.z))))) Gd.no [],
   .mk (fun _ H => newC Bool.false [(AV.str []), (AV.str []), (AV.int IntKind.i64 0), (AV.bool Bool.false), (AV.int IntKind.i64 0)] H) (Option.some (K.i (K.i K.z))) Gd.no [],
   .mk (stR 5 (X.t (K.i (K.i K.z))) (X.t (K.i (K.i (K.i (K.o K.z)))))) Option.none Gd.no [],
   .mk (mvR (X.t (K.o (K.o (K.o (K.i K.z)))))) (Option.some (K.o (K.o (K.o K.z)))) Gd.no []])
  (.seq (.regionD [.mk (keepH (mvR (X.t (K.o (K.o K.z))))) (Option.some (K.i (K.o (K.o (K.i K.z))))) Gd.no [],
   .mk (callS Try.prog 17 [(X.t (K.i (K.o (K.o (K.i K.z)))))]) (Option.some (K.o (K.i (K.o (K.i K.z))))) Gd.no [],
   .mk (keepH (mvR (X.t (K.o (K.i (K.o (K.i K.z))))))) (Option.some (K.i (K.i (K.o (K.i K.z))))) Gd.no [],
   .mk (keepH (mvR (X.t (K.o (K.o K.z))))) (Option.some (K.o (K.o (K.i (K.i K.z))))) (Gd.on (K.i (K.i (K.o (K.i K.z)))) Bool.true) [],
   .mk (keepH (lenR LnK.slice (X.t (K.o (K.o (K.i (K.i K.z))))))) (Option.some (K.i (K.o (K.i (K.i K.z))))) (Gd.on (K.i (K.i (K.o (K.i K.z)))) Bool.true) [],
   .mk (keepH (binR Try.prog EK.no Option.none Bool.true BinOp.eql (X.t (K.i (K.o (K.i (K.i K.z))))) (X.c (AV.int IntKind.i64 2)))) (Option.some (K.o (K.i (K.i (K.i K.z))))) (Gd.on (K.i (K.i (K.o (K.i K.z)))) Bool.true) [],
   .mk (keepH (pickR (X.t (K.i (K.i (K.o (K.i K.z))))) (X.t (K.o (K.i (K.i (K.i K.z))))) (X.c (AV.bool Bool.false)))) (Option.some (K.i (K.i (K.i (K.i K.z))))) Gd.no [],
   .mk (keepH (mvR (X.t (K.i (K.i (K.i (K.i K.z))))))) (Option.some (K.o (K.o (K.o (K.o (K.o K.z)))))) Gd.no [],
   .mk (keepH (ldR Bool.true 5 (X.t (K.o K.z)))) (Option.some (K.o (K.o (K.i (K.o (K.o K.z)))))) (Gd.on (K.o (K.o (K.o (K.o (K.o K.z))))) Bool.true) [],
   .mk (keepH (mvR (X.t (K.o (K.o K.z))))) (Option.some (K.i (K.o (K.o (K.o (K.o K.z)))))) (Gd.on (K.o (K.o (K.o (K.o (K.o K.z))))) Bool.true) [],
   .mk (keepH (iaS 5 (X.t (K.i (K.o (K.o (K.o (K.o K.z)))))) (X.c (AV.int IntKind.i64 0)))) (Option.some (K.o (K.i (K.o (K.o (K.o K.z)))))) (Gd.on (K.o (K.o (K.o (K.o (K.o K.z))))) Bool.true) [],
   .mk (keepH (ldR Bool.true 5 (X.t (K.o (K.i (K.o (K.o (K.o K.z)))))))) (Option.some (K.i (K.i (K.o (K.o (K.o K.z)))))) (Gd.on (K.o (K.o (K.o (K.o (K.o K.z))))) Bool.true) [],
   .mk (keepH (binR Try.prog EK.no (Option.some [LK.str, LK.str, LK.int, LK.bool, LK.int]) Bool.false BinOp.eql (X.t (K.i (K.i (K.o (K.o (K.o K.z)))))) (X.t (K.o (K.o (K.i (K.o (K.o K.z)))))))) (Option.some (K.i (K.o (K.i (K.o (K.o K.z)))))) (Gd.on (K.o (K.o (K.o (K.o (K.o K.z))))) Bool.true) [],
   .mk (keepH (pickR (X.t (K.o (K.o (K.o (K.o (K.o K.z)))))) (X.t (K.i (K.o (K.i (K.o (K.o K.z)))))) (X.c (AV.bool Bool.false)))) (Option.some (K.o (K.i (K.i (K.o (K.o K.z)))))) Gd.no [],
   .mk (keepH (mvR (X.t (K.o (K.i (K.i (K.o (K.o K.z)))))))) (Option.some (K.i (K.i (K.i (K.o (K.o K.z)))))) Gd.no [],
   .mk (keepH (mvR (X.t (K.o (K.i K.z))))) (Option.some (K.o (K.o (K.o (K.i (K.o K.z)))))) (Gd.on (K.i (K.i (K.i (K.o (K.o K.z))))) Bool.true) [],
   .mk (keepH (pickR (X.t (K.i (K.i (K.i (K.o (K.o K.z)))))) (X.t (K.o (K.o (K.o (K.i (K.o K.z)))))) (X.c (AV.bool Bool.false)))) (Option.some (K.i (K.o (K.o (K.i (K.o K.z)))))) Gd.no [],
   .mk (keepH (mvR (X.t (K.i (K.o (K.o (K.i (K.o K.z)))))))) (Option.some (K.o (K.i (K.o (K.i (K.o K.z)))))) Gd.no [],
   .mk (keepH (ldR Bool.true 5 (X.t (K.o K.z)))) (Option.some (K.o (K.o (K.i (K.i (K.o K.z)))))) (Gd.on (K.o (K.i (K.o (K.i (K.o K.z))))) Bool.true) [],
   .mk (keepH (ldR Bool.true 5 (X.t (K.i (K.o K.z))))) (Option.some (K.i (K.i (K.o (K.i (K.o K.z)))))) (Gd.on (K.o (K.i (K.o (K.i (K.o K.z))))) Bool.true) [],
   .mk (keepH (binR Try.prog EK.no (Option.some [LK.str, LK.str, LK.int, LK.bool, LK.int]) Bool.false BinOp.eql (X.t (K.i (K.i (K.o (K.i (K.o K.z)))))) (X.t (K.o (K.o (K.i (K.i (K.o K.z)))))))) (Option.some (K.i (K.o (K.i (K.i (K.o K.z)))))) (Gd.on (K.o (K.i (K.o (K.i (K.o K.z))))) Bool.true) [],
   .mk (keepH (pickR (X.t (K.o (K.i (K.o (K.i (K.o K.z)))))) (X.t (K.i (K.o (K.i (K.i (K.o K.z)))))) (X.c (AV.bool Bool.false)))) (Option.some (K.o (K.i (K.i (K.i (K.o K.z)))))) Gd.no [],
   .mk (keepH (mvR (X.t (K.o (K.i (K.i (K.i (K.o K.z)))))))) (Option.some (K.i (K.i (K.i (K.i (K.o K.z)))))) Gd.no [],
   .mk (keepH (mvR (X.t (K.o (K.o (K.o K.z)))))) (Option.some (K.o (K.o (K.o (K.o (K.i K.z)))))) (Gd.on (K.i (K.i (K.i (K.i (K.o K.z))))) Bool.true) [],
   .mk (keepH (unR UnOp.not (X.t (K.o (K.o (K.o (K.o (K.i K.z)))))))) (Option.some (K.i (K.o (K.o (K.o (K.i K.z)))))) (Gd.on (K.i (K.i (K.i (K.i (K.o K.z))))) Bool.true) [],
   .mk (keepH (pickR (X.t (K.i (K.i (K.i (K.i (K.o K.z)))))) (X.t (K.i (K.o (K.o (K.o (K.i K.z)))))) (X.c (AV.bool Bool.false)))) (Option.some (K.o (K.i (K.o (K.o (K.i K.z)))))) Gd.no [],
   .mk (keepH (mvR (X.t (K.o (K.i (K.o (K.o (K.i K.z)))))))) (Option.some (K.i (K.i (K.o (K.o (K.i K.z)))))) Gd.no [],
   .mk (keepH (ldR Bool.true 5 (X.t (K.i (K.i K.z))))) (Option.some (K.o (K.o (K.i (K.o (K.i K.z)))))) (Gd.on (K.i (K.i (K.o (K.o (K.i K.z))))) Bool.true) [],
   .mk (buildR [(AV.str []), (AV.str []), (AV.int IntKind.i64 0), (AV.bool Bool.false), (AV.int IntKind.i64 0)] [(0, (1, (X.c (AV.str [99]))))]) (Option.some (K.i (K.o (K.i (K.o (K.i K.z)))))) (Gd.on (K.i (K.i (K.o (K.o (K.i K.z))))) Bool.true) [.mk (ldR Bool.true 5 (X.t (K.i (K.i K.z)))) (Option.some (K.o (K.o (K.i (K.o (K.i K.z)))))) (Gd.on (K.i (K.i (K.o (K.o (K.i K.z))))) Bool.true)],
   .mk (keepH (binR Try.prog EK.no (Option.some [LK.str, LK.str, LK.int, LK.bool, LK.int]) Bool.false BinOp.eql (X.t (K.o (K.o (K.i (K.o (K.i K.z)))))) (X.t (K.i (K.o (K.i (K.o (K.i K.z)))))))) (Option.some (K.o (K.i (K.i (K.o (K.i K.z)))))) (Gd.on (K.i (K.i (K.o (K.o (K.i K.z))))) Bool.true) [],
   .mk (keepH (pickR (X.t (K.i (K.i (K.o (K.o (K.i K.z)))))) (X.t (K.o (K.i (K.i (K.o (K.i K.z)))))) (X.c (AV.bool Bool.false)))) (Option.some (K.i (K.i (K.i (K.o (K.i K.z)))))) Gd.no [],
   .mk (keepH (mvR (X.t (K.i (K.i (K.i (K.o (K.i K.z)))))))) (Option.some (K.o (K.o (K.o (K.i (K.i K.z)))))) Gd.no [],
   .mk (keepH (mvR (X.t (K.o (K.o K.z))))) (Option.some (K.i (K.o (K.o (K.i (K.i K.z)))))) (Gd.on (K.o (K.o (K.o (K.i (K.i K.z))))) Bool.true) [],
   .mk (buildR [(AV.str []), (AV.str [])] [(0, (1, (X.c (AV.str [98]))))]) (Option.some (K.o (K.i (K.o (K.i (K.i K.z)))))) (Gd.on (K.o (K.o (K.o (K.i (K.i K.z))))) Bool.true) [.mk (mvR (X.t (K.o (K.o K.z)))) (Option.some (K.i (K.o (K.o (K.i (K.i K.z)))))) (Gd.on (K.o (K.o (K.o (K.i (K.i K.z))))) Bool.true)],
   .mk (callS Try.prog 20 [(X.t (K.i (K.o (K.o (K.i (K.i K.z)))))), (X.t (K.o (K.i (K.o (K.i (K.i K.z))))))]) (Option.some (K.i (K.i (K.o (K.i (K.i K.z)))))) (Gd.on (K.o (K.o (K.o (K.i (K.i K.z))))) Bool.true) [],
   .mk (keepH (lenR LnK.slice (X.t (K.i (K.i (K.o (K.i (K.i K.z)))))))) (Option.some (K.o (K.o (K.i (K.i (K.i K.z)))))) (Gd.on (K.o (K.o (K.o (K.i (K.i K.z))))) Bool.true) [],
   .mk (keepH (binR Try.prog EK.no Option.none Bool.true BinOp.eql (X.t (K.o (K.o (K.i (K.i (K.i K.z)))))) (X.c (AV.int IntKind.i64 1)))) (Option.some (K.i (K.o (K.i (K.i (K.i K.z)))))) (Gd.on (K.o (K.o (K.o (K.i (K.i K.z))))) Bool.true) [],
   .mk (keepH (pickR (X.t (K.o (K.o (K.o (K.i (K.i K.z)))))) (X.t (K.i (K.o (K.i (K.i (K.i K.z)))))) (X.c (AV.bool Bool.false)))) (Option.some (K.o (K.i (K.i (K.i (K.i K.z)))))) Gd.no [],
   .mk (keepH (mvR (X.t (K.o (K.i (K.i (K.i (K.i K.z)))))))) (Option.some (K.i (K.i (K.i (K.i (K.i K.z)))))) Gd.no [],
   .mk (keepH (mvR (X.t (K.o (K.o K.z))))) (Option.some (K.o (K.o (K.o (K.o (K.o (K.o K.z))))))) (Gd.on (K.i (K.i (K.i (K.i (K.i K.z))))) Bool.true) [],
   .mk (buildR [(AV.str []), (AV.str [])] []) (Option.some (K.i (K.o (K.o (K.o (K.o (K.o K.z))))))) (Gd.on (K.i (K.i (K.i (K.i (K.i K.z))))) Bool.true) [.mk (mvR (X.t (K.o (K.o K.z)))) (Option.some (K.o (K.o (K.o (K.o (K.o (K.o K.z))))))) (Gd.on (K.i (K.i (K.i (K.i (K.i K.z))))) Bool.true)],
   .mk (callS Try.prog 15 [(X.t (K.o (K.o (K.o (K.o (K.o (K.o K.z))))))), (X.t (K.i (K.o (K.o (K.o (K.o (K.o K.z))))))), (X.c (AV.int IntKind.i64 9))]) (Option.some (K.o (K.i (K.o (K.o (K.o (K.o K.z))))))) (Gd.on (K.i (K.i (K.i (K.i (K.i K.z))))) Bool.true) [],
   .mk (keepH (lenR LnK.slice (X.t (K.o (K.i (K.o (K.o (K.o (K.o K.z))))))))) (Option.some (K.i (K.i (K.o (K.o (K.o (K.o K.z))))))) (Gd.on (K.i (K.i (K.i (K.i (K.i K.z))))) Bool.true) [],
   .mk (keepH (binR Try.prog EK.no Option.none Bool.true BinOp.eql (X.t (K.i (K.i (K.o (K.o (K.o (K.o K.z))))))) (X.c (AV.int IntKind.i64 1)))) (Option.some (K.o (K.o (K.i (K.o (K.o (K.o K.z))))))) (Gd.on (K.i (K.i (K.i (K.i (K.i K.z))))) Bool.true) [],
   .mk (keepH (pickR (X.t (K.i (K.i (K.i (K.i (K.i K.z)))))) (X.t (K.o (K.o (K.i (K.o (K.o (K.o K.z))))))) (X.c (AV.bool Bool.false)))) (Option.some (K.i (K.o (K.i (K.o (K.o (K.o K.z))))))) Gd.no [],
   .mk (mvR (X.t (K.i (K.o (K.i (K.o (K.o (K.o K.z)))))))) (Option.some K.z) Gd.no []])
  .ret))))))
theorem C11ok : (match Try.f11.body with | some c => comp Try.prog 69 c | none => none) = some C11 := by kernel_rfl
@[go_sem] theorem call11 (args : List AV) (H : Heap) : callC Try.prog 11 args H = .call 11 args := callC_ok (by kernel_rfl) args H
theorem R11ok : resKs Try.prog Try.f11.results.toList = some [(RK.tmp K.z)] := by kernel_rfl

end Go.Proofs
