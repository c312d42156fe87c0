/- The laid-out code of the functions that are walked. Printed by a program. -/
import Derived.Test.YtomljpdjfobeoaaGreatDoorZ23
import Derived.Test.YtomljpdjfobeoaaGreatDoorProg
import Derived.KernelRfl
set_option linter.all false
set_option maxRecDepth 100000
namespace Go.Proofs
open Go Go.Ev K
noncomputable def C4L0 : CC :=
  (.seq (.seq (.region [.mk (mvR (X.t (o (i (o z))))) (.some (o (o (i (o (o z)))))) Gd.no [],
   .mk (mvR (X.t (i (o (o z))))) (.some (i (o (i (o (o z)))))) Gd.no [],
   .mk (binR Tryz.prog EK.no .none false BinOp.leq (X.t (o (o (i (o (o z)))))) (X.t (i (o (i (o (o z))))))) (.some (o (i (i (o (o z)))))) Gd.no []])
  (.cond (X.t (o (i (i (o (o z))))))
  .skip
  (.exit 0)))
  (.seq (.block 1 (.region [.mk (ldR true 8 (X.t (o (o (o z))))) (.some (o (i (o (i (o z)))))) Gd.no [],
   .mk (mvR (X.t (o (i (o z))))) (.some (i (i (o (i (o z)))))) Gd.no [],
   .mk (buildR [(AV.int .i64 0), (AV.str []), (AV.str []), (AV.str []), (AV.int .i64 0), AV.nils] [(0, (1, (X.c (AV.int .i64 2)))), (1, (1, (X.c (AV.str [99])))), (3, (1, (X.c (AV.str [118]))))]) (.some (o (o (i (i (o z)))))) Gd.no [],
   .mk (callS Tryz.prog 17 [(X.t (o (i (o (i (o z)))))), (X.c (AV.int .i64 1)), (X.t (i (i (o (i (o z)))))), (X.t (o (o (i (i (o z))))))]) (.some (i (o (i (i (o z)))))) Gd.no [],
   .mk (mvR (X.t (i (o (i (i (o z))))))) (.some (i (o (o (i (o z)))))) Gd.no [],
   .mk (extR (X.t (i (o (o (i (o z)))))) 0) (.some (o (i (i (i (o z)))))) Gd.no [],
   .mk (extR (X.t (i (o (o (i (o z)))))) 1) (.some (i (i (i (i (o z)))))) Gd.no [],
   .mk (extR (X.t (i (o (o (i (o z)))))) 2) (.some (o (o (o (o (i z)))))) Gd.no [],
   .mk (stR 8 (X.t (o (o (o z)))) (X.t (o (i (i (i (o z))))))) .none Gd.no []]))
  (.region [.mk (mvR (X.t (o (i (o z))))) (.some (i (i (i (o (o z)))))) Gd.no [],
   .mk (binR Tryz.prog EK.no .none true BinOp.add (X.t (i (i (i (o (o z)))))) (X.c (AV.int .i64 1))) (.some (o (o (o (i (o z)))))) Gd.no [],
   .mk (mvR (X.t (o (o (o (i (o z))))))) (.some (o (i (o z)))) Gd.no []])))
noncomputable def C4 : CC :=
  (.seq (.region [.mk (mvR (X.c (AV.bool false))) (.some (i (i z))) Gd.no []])
  (.seq (.seq (.region [.mk (callS Tryz.prog 9 []) (.some (i (o (i (i z))))) Gd.no [],
   .mk (unR UnOp.not (X.t (i (o (i (i z)))))) (.some (o (i (i (i z))))) Gd.no []])
  (.cond (X.t (o (i (i (i z)))))
  (.seq (.region [.mk (mvR (X.c (AV.bool false))) (.some (i (i z))) Gd.no []])
  .ret)
  .skip))
  (.seq (.region [.mk (buildR [(AV.int .i64 0), (AV.int .i64 0), (AV.str []), (AV.str []), (AV.bool false), AV.nils, AV.nils, AV.nils] [(0, (1, (X.c (AV.int .i64 1)))), (1, (1, (X.c (AV.int .i64 1))))]) (.some (i (i (i (i z))))) Gd.no [],
   .mk (fun _ H => newC false [(AV.int .i64 0), (AV.int .i64 0), (AV.str []), (AV.str []), (AV.bool false), AV.nils, AV.nils, AV.nils] H) (.some (o (o (o z)))) Gd.no [],
   .mk (stR 8 (X.t (o (o (o z)))) (X.t (i (i (i (i z)))))) .none Gd.no []])
  (.seq (.region [.mk (mvR (X.t z)) (.some (o (o (o (o (o z)))))) Gd.no [],
   .mk (binR Tryz.prog EK.no .none true BinOp.rem (X.t (o (o (o (o (o z)))))) (X.c (AV.int IntKind.u8 20))) (.some (i (o (o (o (o z)))))) Gd.no [],
   .mk (convR (Cv.int .i64) (X.t (i (o (o (o (o z))))))) (.some (o (i (o (o (o z)))))) Gd.no [],
   .mk (binR Tryz.prog EK.no .none true BinOp.add (X.t (o (i (o (o (o z)))))) (X.c (AV.int .i64 1))) (.some (i (i (o (o (o z)))))) Gd.no [],
   .mk (mvR (X.t (i (i (o (o (o z))))))) (.some (i (o (o z)))) Gd.no []])
  (.seq (.seq (.region [.mk (mvR (X.c (AV.int .i64 1))) (.some (o (i (o z)))) Gd.no []])
  (.block 0 (.loop C4L0)))
  (.seq (.region [.mk (ldR true 8 (X.t (o (o (o z))))) (.some (o (i (o (o (i z)))))) Gd.no [],
   .mk (callS Tryz.prog 11 [(X.t (o (i (o (o (i z)))))), (X.c (AV.str [109])), (X.c (AV.int .i64 2)), (X.c (AV.int .i64 3))]) (.some (i (i (o (o (i z)))))) Gd.no [],
   .mk (mvR (X.t (i (i (o (o (i z))))))) (.some (i (o (o (o (i z)))))) Gd.no [],
   .mk (extR (X.t (i (o (o (o (i z)))))) 0) (.some (o (o (i (o (i z)))))) Gd.no [],
   .mk (extR (X.t (i (o (o (o (i z)))))) 1) (.some (i (o (i (o (i z)))))) Gd.no [],
   .mk (extR (X.t (i (o (o (o (i z)))))) 2) (.some (o (i (i (o (i z)))))) Gd.no [],
   .mk (fun _ H => newC false [(AV.int .i64 0), (AV.int .i64 0), (AV.str []), (AV.str []), (AV.bool false), AV.nils, AV.nils, AV.nils] H) (.some (i (i (o z)))) Gd.no [],
   .mk (fun _ H => newC false [(AV.int .i64 0), (AV.int .i64 0), (AV.str []), (AV.str []), (AV.bool false), AV.nils, AV.nils, AV.nils] H) (.some (o (o (i z)))) Gd.no [],
   .mk (stR 8 (X.t (i (i (o z)))) (X.t (o (o (i (o (i z))))))) .none Gd.no [],
   .mk (stR 8 (X.t (o (o (i z)))) (X.t (i (o (i (o (i z))))))) .none Gd.no [],
   .mk (mvR (X.t (o (i (i (o (i z))))))) (.some (i (o (i z)))) Gd.no []])
  (.seq (.seq (.region [.mk (mvR (X.t (i (o (i z))))) (.some (i (i (i (o (i z)))))) Gd.no [],
   .mk (binR Tryz.prog EK.iface .none true BinOp.neq (X.t (i (i (i (o (i z)))))) (X.c AV.nili)) (.some (o (o (o (i (i z)))))) Gd.no []])
  (.cond (X.t (o (o (o (i (i z))))))
  (.seq (.region [.mk (mvR (X.c (AV.bool false))) (.some (i (i z))) Gd.no []])
  .ret)
  .skip))
  (.seq (.seq (.region [.mk (mvR (X.t (i z))) (.some (i (o (o (i (i z)))))) Gd.no []])
  (.cond (X.t (i (o (o (i (i z))))))
  (.seq (.region [.mk (ldR true 8 (X.t (o (o (i z))))) (.some (i (i (o (i (i z)))))) Gd.no [],
   .mk (mvR (X.t (i (o (o z))))) (.some (o (o (i (i (i z)))))) Gd.no [],
   .mk (binR Tryz.prog EK.no .none true BinOp.add (X.t (o (o (i (i (i z)))))) (X.c (AV.int .i64 1))) (.some (i (o (i (i (i z)))))) Gd.no [],
   .mk (buildR [(AV.int .i64 0), (AV.str []), (AV.str []), (AV.str []), (AV.int .i64 0), AV.nils] [(0, (1, (X.c (AV.int .i64 2)))), (1, (1, (X.c (AV.str [120])))), (3, (1, (X.c (AV.str [118]))))]) (.some (o (i (i (i (i z)))))) Gd.no [],
   .mk (callS Tryz.prog 17 [(X.t (i (i (o (i (i z)))))), (X.c (AV.int .i64 1)), (X.t (i (o (i (i (i z)))))), (X.t (o (i (i (i (i z))))))]) (.some (i (i (i (i (i z)))))) Gd.no [],
   .mk (mvR (X.t (i (i (i (i (i z))))))) (.some (o (i (o (i (i z)))))) Gd.no [],
   .mk (extR (X.t (o (i (o (i (i z)))))) 0) (.some (o (o (o (o (o (o z))))))) Gd.no [],
   .mk (extR (X.t (o (i (o (i (i z)))))) 1) (.some (i (o (o (o (o (o z))))))) Gd.no [],
   .mk (extR (X.t (o (i (o (i (i z)))))) 2) (.some (o (i (o (o (o (o z))))))) Gd.no [],
   .mk (stR 8 (X.t (o (o (i z)))) (X.t (o (o (o (o (o (o z)))))))) .none Gd.no []])
  (.seq (.region [.mk (ldR true 8 (X.t (i (i (o z))))) (.some (o (o (i (o (o (o z))))))) Gd.no [],
   .mk (ldR true 8 (X.t (o (o (i z))))) (.some (i (o (i (o (o (o z))))))) Gd.no [],
   .mk (callS Tryz.prog 13 [(X.t (o (o (i (o (o (o z))))))), (X.t (i (o (i (o (o (o z))))))), (X.c (AV.int .i64 4))]) (.some (o (i (i (o (o (o z))))))) Gd.no [],
   .mk (mvR (X.t (o (i (i (o (o (o z)))))))) (.some (i (i (o (o (o (o z))))))) Gd.no [],
   .mk (extR (X.t (i (i (o (o (o (o z))))))) 0) (.some (i (i (i (o (o (o z))))))) Gd.no [],
   .mk (extR (X.t (i (i (o (o (o (o z))))))) 1) (.some (o (o (o (i (o (o z))))))) Gd.no [],
   .mk (fun _ H => newC false [(AV.int .i64 0), (AV.int .i64 0), (AV.str []), (AV.str []), (AV.bool false), AV.nils, AV.nils, AV.nils] H) (.some (o (i (i z)))) Gd.no [],
   .mk (stR 8 (X.t (o (i (i z)))) (X.t (i (i (i (o (o (o z)))))))) .none Gd.no [],
   .mk (mvR (X.t (o (o (o (i (o (o z)))))))) (.some (i (i (i z)))) Gd.no []])
  (.seq (.seq (.region [.mk (mvR (X.t (i (i (i z))))) (.some (i (o (o (i (o (o z))))))) Gd.no [],
   .mk (binR Tryz.prog EK.iface .none true BinOp.neq (X.t (i (o (o (i (o (o z))))))) (X.c AV.nili)) (.some (o (i (o (i (o (o z))))))) Gd.no []])
  (.cond (X.t (o (i (o (i (o (o z)))))))
  (.seq (.region [.mk (mvR (X.c (AV.bool false))) (.some (i (i z))) Gd.no []])
  .ret)
  .skip))
  (.seq (.region [.mk (ldR true 8 (X.t (o (i (i z))))) (.some (o (o (i (i (o (o z))))))) Gd.no [],
   .mk (mvR (X.t (i (o (o z))))) (.some (i (o (i (i (o (o z))))))) Gd.no [],
   .mk (buildR [(AV.int .i64 0), (AV.str []), (AV.str []), (AV.str []), (AV.int .i64 0), AV.nils] [(0, (1, (X.c (AV.int .i64 2)))), (1, (1, (X.c (AV.str [99])))), (3, (1, (X.c (AV.str [97, 103, 97, 105, 110]))))]) (.some (o (i (i (i (o (o z))))))) Gd.no [],
   .mk (callS Tryz.prog 17 [(X.t (o (o (i (i (o (o z))))))), (X.c (AV.int .i64 1)), (X.t (i (o (i (i (o (o z))))))), (X.t (o (i (i (i (o (o z)))))))]) (.some (i (i (i (i (o (o z))))))) Gd.no [],
   .mk (mvR (X.t (i (i (i (i (o (o z)))))))) (.some (i (i (o (i (o (o z))))))) Gd.no [],
   .mk (extR (X.t (i (i (o (i (o (o z))))))) 0) (.some (o (o (o (o (i (o z))))))) Gd.no [],
   .mk (extR (X.t (i (i (o (i (o (o z))))))) 1) (.some (i (o (o (o (i (o z))))))) Gd.no [],
   .mk (extR (X.t (i (i (o (i (o (o z))))))) 2) (.some (o (i (o (o (i (o z))))))) Gd.no [],
   .mk (fun _ H => newC false [(AV.int .i64 0), (AV.int .i64 0), (AV.str []), (AV.str []), (AV.bool false), AV.nils, AV.nils, AV.nils] H) (.some (o (o (o (o z))))) Gd.no [],
   .mk (fun _ H => newC false [(AV.int .i64 0), (AV.str []), (AV.int .i64 0), AV.nils] H) (.some (i (o (o (o z))))) Gd.no [],
   .mk (stR 8 (X.t (o (o (o (o z))))) (X.t (o (o (o (o (i (o z)))))))) .none Gd.no [],
   .mk (stR 4 (X.t (i (o (o (o z))))) (X.t (i (o (o (o (i (o z)))))))) .none Gd.no [],
   .mk (mvR (X.t (o (i (o (o (i (o z)))))))) (.some (o (i (o (o z))))) Gd.no []])
  (.seq (.region [.mk (ldR true 8 (X.t (o (i (i z))))) (.some (o (o (i (o (i (o z))))))) Gd.no [],
   .mk (mvR (X.t (i (o (o z))))) (.some (i (o (i (o (i (o z))))))) Gd.no [],
   .mk (binR Tryz.prog EK.no .none true BinOp.add (X.t (i (o (i (o (i (o z))))))) (X.c (AV.int .i64 1))) (.some (o (i (i (o (i (o z))))))) Gd.no [],
   .mk (buildR [(AV.int .i64 0), (AV.str []), (AV.str []), (AV.str []), (AV.int .i64 0), AV.nils] [(0, (1, (X.c (AV.int .i64 2)))), (1, (1, (X.c (AV.str [120])))), (3, (1, (X.c (AV.str [97, 103, 97, 105, 110]))))]) (.some (i (i (i (o (i (o z))))))) Gd.no [],
   .mk (callS Tryz.prog 17 [(X.t (o (o (i (o (i (o z))))))), (X.c (AV.int .i64 1)), (X.t (o (i (i (o (i (o z))))))), (X.t (i (i (i (o (i (o z)))))))]) (.some (o (o (o (i (i (o z))))))) Gd.no [],
   .mk (mvR (X.t (o (o (o (i (i (o z)))))))) (.some (i (i (o (o (i (o z))))))) Gd.no [],
   .mk (extR (X.t (i (i (o (o (i (o z))))))) 0) (.some (i (o (o (i (i (o z))))))) Gd.no [],
   .mk (extR (X.t (i (i (o (o (i (o z))))))) 1) (.some (o (i (o (i (i (o z))))))) Gd.no [],
   .mk (extR (X.t (i (i (o (o (i (o z))))))) 2) (.some (i (i (o (i (i (o z))))))) Gd.no [],
   .mk (fun _ H => newC false [(AV.int .i64 0), (AV.int .i64 0), (AV.str []), (AV.str []), (AV.bool false), AV.nils, AV.nils, AV.nils] H) (.some (i (i (o (o z))))) Gd.no [],
   .mk (fun _ H => newC false [(AV.int .i64 0), (AV.str []), (AV.int .i64 0), AV.nils] H) (.some (o (o (i (o z))))) Gd.no [],
   .mk (stR 8 (X.t (i (i (o (o z))))) (X.t (i (o (o (i (i (o z)))))))) .none Gd.no [],
   .mk (stR 4 (X.t (o (o (i (o z))))) (X.t (o (i (o (i (i (o z)))))))) .none Gd.no [],
   .mk (mvR (X.t (i (i (o (i (i (o z)))))))) (.some (i (o (i (o z))))) Gd.no []])
  (.seq (.region [.mk (mvR (X.t (o (i (o (o z)))))) (.some (o (o (i (i (i (o z))))))) Gd.no [],
   .mk (binR Tryz.prog EK.no .none true BinOp.eql (X.t (o (o (i (i (i (o z))))))) (X.c (AV.int .i64 2))) (.some (i (o (i (i (i (o z))))))) Gd.no [],
   .mk (mvR (X.t (i (o (i (i (i (o z)))))))) (.some (o (i (i (i (i (o z))))))) Gd.no [],
   .mk (mvR (X.t (i (o (i (o z)))))) (.some (i (i (i (i (i (o z))))))) (Gd.on (o (i (i (i (i (o z)))))) true) [],
   .mk (binR Tryz.prog EK.no .none true BinOp.eql (X.t (i (i (i (i (i (o z))))))) (X.c (AV.int .i64 1))) (.some (o (o (o (o (o (i z))))))) (Gd.on (o (i (i (i (i (o z)))))) true) [],
   .mk (pickR (X.t (o (i (i (i (i (o z))))))) (X.t (o (o (o (o (o (i z))))))) (X.c (AV.bool false))) (.some (i (o (o (o (o (i z))))))) Gd.no [],
   .mk (mvR (X.t (i (o (o (o (o (i z)))))))) (.some (i (i z))) Gd.no []])
  .ret))))))
  .skip))
  (.seq (.region [.mk (ldR true 8 (X.t (o (o (i z))))) (.some (o (i (o (o (o (i z))))))) Gd.no [],
   .mk (fun _ H => newC false [(AV.int .i64 0), (AV.int .i64 0), (AV.str []), (AV.str []), (AV.bool false), AV.nils, AV.nils, AV.nils] H) (.some (o (i (i (o z))))) Gd.no [],
   .mk (stR 8 (X.t (o (i (i (o z))))) (X.t (o (i (o (o (o (i z)))))))) .none Gd.no []])
  (.seq (.seq (.region [.mk (mvR (X.t (o z))) (.some (i (i (o (o (o (i z))))))) Gd.no []])
  (.cond (X.t (i (i (o (o (o (i z)))))))
  (.region [.mk (ldR true 8 (X.t (i (i (o z))))) (.some (o (o (i (o (o (i z))))))) Gd.no [],
   .mk (stR 8 (X.t (o (i (i (o z))))) (X.t (o (o (i (o (o (i z)))))))) .none Gd.no []])
  .skip))
  (.seq (.region [.mk (ldR true 8 (X.t (o (i (i (o z)))))) (.some (o (i (i (o (o (i z))))))) Gd.no [],
   .mk (mvR (X.t (i (o (o z))))) (.some (i (i (i (o (o (i z))))))) Gd.no [],
   .mk (buildR [(AV.int .i64 0), (AV.str []), (AV.str []), (AV.str []), (AV.int .i64 0), AV.nils] [(0, (1, (X.c (AV.int .i64 2)))), (1, (1, (X.c (AV.str [99])))), (3, (1, (X.c (AV.str [97, 103, 97, 105, 110]))))]) (.some (o (o (o (i (o (i z))))))) Gd.no [],
   .mk (callS Tryz.prog 17 [(X.t (o (i (i (o (o (i z))))))), (X.c (AV.int .i64 1)), (X.t (i (i (i (o (o (i z))))))), (X.t (o (o (o (i (o (i z)))))))]) (.some (i (o (o (i (o (i z))))))) Gd.no [],
   .mk (mvR (X.t (i (o (o (i (o (i z)))))))) (.some (i (o (i (o (o (i z))))))) Gd.no [],
   .mk (extR (X.t (i (o (i (o (o (i z))))))) 0) (.some (o (i (o (i (o (i z))))))) Gd.no [],
   .mk (extR (X.t (i (o (i (o (o (i z))))))) 1) (.some (i (i (o (i (o (i z))))))) Gd.no [],
   .mk (extR (X.t (i (o (i (o (o (i z))))))) 2) (.some (o (o (i (i (o (i z))))))) Gd.no [],
   .mk (fun _ H => newC false [(AV.int .i64 0), (AV.int .i64 0), (AV.str []), (AV.str []), (AV.bool false), AV.nils, AV.nils, AV.nils] H) (.some (i (i (i (o z))))) Gd.no [],
   .mk (fun _ H => newC false [(AV.int .i64 0), (AV.str []), (AV.int .i64 0), AV.nils] H) (.some (o (o (o (i z))))) Gd.no [],
   .mk (stR 8 (X.t (i (i (i (o z))))) (X.t (o (i (o (i (o (i z)))))))) .none Gd.no [],
   .mk (stR 4 (X.t (o (o (o (i z))))) (X.t (i (i (o (i (o (i z)))))))) .none Gd.no [],
   .mk (mvR (X.t (o (o (i (i (o (i z)))))))) (.some (i (o (o (i z))))) Gd.no []])
  (.seq (.region [.mk (ldR true 8 (X.t (o (i (i (o z)))))) (.some (o (i (i (i (o (i z))))))) Gd.no [],
   .mk (mvR (X.t (i (o (o z))))) (.some (i (i (i (i (o (i z))))))) Gd.no [],
   .mk (binR Tryz.prog EK.no .none true BinOp.add (X.t (i (i (i (i (o (i z))))))) (X.c (AV.int .i64 1))) (.some (o (o (o (o (i (i z))))))) Gd.no [],
   .mk (buildR [(AV.int .i64 0), (AV.str []), (AV.str []), (AV.str []), (AV.int .i64 0), AV.nils] [(0, (1, (X.c (AV.int .i64 1)))), (1, (1, (X.c (AV.str [99]))))]) (.some (i (o (o (o (i (i z))))))) Gd.no [],
   .mk (callS Tryz.prog 17 [(X.t (o (i (i (i (o (i z))))))), (X.c (AV.int .i64 1)), (X.t (o (o (o (o (i (i z))))))), (X.t (i (o (o (o (i (i z)))))))]) (.some (o (i (o (o (i (i z))))))) Gd.no [],
   .mk (mvR (X.t (o (i (o (o (i (i z)))))))) (.some (i (o (i (i (o (i z))))))) Gd.no [],
   .mk (extR (X.t (i (o (i (i (o (i z))))))) 0) (.some (i (i (o (o (i (i z))))))) Gd.no [],
   .mk (extR (X.t (i (o (i (i (o (i z))))))) 1) (.some (o (o (i (o (i (i z))))))) Gd.no [],
   .mk (extR (X.t (i (o (i (i (o (i z))))))) 2) (.some (i (o (i (o (i (i z))))))) Gd.no [],
   .mk (fun _ H => newC false [(AV.int .i64 0), (AV.int .i64 0), (AV.str []), (AV.str []), (AV.bool false), AV.nils, AV.nils, AV.nils] H) (.some (o (i (o (i z))))) Gd.no [],
   .mk (fun _ H => newC false [(AV.int .i64 0), (AV.str []), (AV.int .i64 0), AV.nils] H) (.some (i (i (o (i z))))) Gd.no [],
   .mk (stR 8 (X.t (o (i (o (i z))))) (X.t (i (i (o (o (i (i z)))))))) .none Gd.no [],
   .mk (stR 4 (X.t (i (i (o (i z))))) (X.t (o (o (i (o (i (i z)))))))) .none Gd.no [],
   .mk (mvR (X.t (i (o (i (o (i (i z)))))))) (.some (o (o (i (i z))))) Gd.no []])
  (.seq (.region [.mk (mvR (X.t (i (o (o (i z)))))) (.some (o (i (i (o (i (i z))))))) Gd.no [],
   .mk (binR Tryz.prog EK.no .none true BinOp.eql (X.t (o (i (i (o (i (i z))))))) (X.c (AV.int .i64 1))) (.some (i (i (i (o (i (i z))))))) Gd.no [],
   .mk (mvR (X.t (i (i (i (o (i (i z)))))))) (.some (o (o (o (i (i (i z))))))) Gd.no [],
   .mk (faR 2 (X.t (o (o (o (i z)))))) (.some (i (o (o (i (i (i z))))))) (Gd.on (o (o (o (i (i (i z)))))) true) [],
   .mk (ldR false 1 (X.t (i (o (o (i (i (i z)))))))) (.some (o (i (o (i (i (i z))))))) (Gd.on (o (o (o (i (i (i z)))))) true) [],
   .mk (mvR (X.t (i (o (o z))))) (.some (i (i (o (i (i (i z))))))) (Gd.on (o (o (o (i (i (i z)))))) true) [],
   .mk (binR Tryz.prog EK.no .none false BinOp.eql (X.t (o (i (o (i (i (i z))))))) (X.t (i (i (o (i (i (i z)))))))) (.some (o (o (i (i (i (i z))))))) (Gd.on (o (o (o (i (i (i z)))))) true) [],
   .mk (pickR (X.t (o (o (o (i (i (i z))))))) (X.t (o (o (i (i (i (i z))))))) (X.c (AV.bool false))) (.some (i (o (i (i (i (i z))))))) Gd.no [],
   .mk (mvR (X.t (i (o (i (i (i (i z)))))))) (.some (o (i (i (i (i (i z))))))) Gd.no [],
   .mk (mvR (X.t (o (o (i (i z)))))) (.some (i (i (i (i (i (i z))))))) (Gd.on (o (i (i (i (i (i z)))))) true) [],
   .mk (binR Tryz.prog EK.no .none true BinOp.eql (X.t (i (i (i (i (i (i z))))))) (X.c (AV.int .i64 0))) (.some (o (o (o (o (o (o (o z)))))))) (Gd.on (o (i (i (i (i (i z)))))) true) [],
   .mk (pickR (X.t (o (i (i (i (i (i z))))))) (X.t (o (o (o (o (o (o (o z)))))))) (X.c (AV.bool false))) (.some (i (o (o (o (o (o (o z)))))))) Gd.no [],
   .mk (mvR (X.t (i (o (o (o (o (o (o z))))))))) (.some (i (i z))) Gd.no []])
  .ret)))))))))))))
theorem C4ok : (match Tryz.f4.body with | some c => comp Tryz.prog 129 c | none => none) = some C4 := by kernel_rfl
@[go_sem] theorem call4 (args : List AV) (H : Heap) : callC Tryz.prog 4 args H = .call 4 args := callC_ok (by kernel_rfl) args H
theorem R4ok : resKs Tryz.prog Tryz.f4.results.toList = some [(RK.tmp (i (i z)))] := by kernel_rfl

@[go_sem] theorem call8 (args : List AV) (H : Heap) : callC Tryz.prog 8 args H = .call 8 args := callC_ok (by kernel_rfl) args H
noncomputable def C17 : CC :=
  (.seq (.region [.mk (boxR false (X.t z)) (.some (i (o z))) Gd.no [],
   .mk (boxR false (X.t (o (o z)))) (.some (o (o (o z)))) Gd.no [],
   .mk (fun _ H => newC false [(AV.int .i64 0), (AV.int .i64 0), (AV.str []), (AV.str []), (AV.bool false), AV.nils, AV.nils, AV.nils] H) (.some (i (o (o z)))) Gd.no [],
   .mk (fun _ H => newC false [(AV.int .i64 0), (AV.str []), (AV.int .i64 0), AV.nils] H) (.some (o (i (o z)))) Gd.no [],
   .mk (mvR (X.c (AV.int .i64 0))) (.some (i (i (o z)))) Gd.no []])
  (.seq (.region [.mk (faR 7 (X.t (i (o z)))) (.some (i (o (o (o z))))) Gd.no [],
   .mk (ldR false 1 (X.t (i (o (o (o z)))))) (.some (o (i (o (o z))))) Gd.no [],
   .mk (mvR (X.t (o z))) (.some (i (i (o (o z))))) Gd.no [],
   .mk (mvR (X.t (i z))) (.some (o (o (i (o z))))) Gd.no [],
   .mk (callS Tryz.prog 48 [(X.t (o (i (o (o z))))), (X.t (i (i (o (o z))))), (X.t (o (o (i (o z)))))]) (.some (i (o (i (o z))))) Gd.no [],
   .mk (mvR (X.t (i (o (i (o z)))))) (.some (o (o (o (o z))))) Gd.no [],
   .mk (extR (X.t (o (o (o (o z))))) 0) (.some (o (i (i (o z))))) Gd.no [],
   .mk (extR (X.t (o (o (o (o z))))) 1) (.some (i (i (i (o z))))) Gd.no [],
   .mk (fun _ H => newC false [(AV.int .i64 0), (AV.str []), (AV.int .i64 0), AV.nils] H) (.some (o (o (i z)))) Gd.no [],
   .mk (stR 4 (X.t (o (o (i z)))) (X.t (o (i (i (o z)))))) .none Gd.no [],
   .mk (mvR (X.t (i (i (i (o z)))))) (.some (i (o (i z)))) Gd.no []])
  (.seq (.seq (.region [.mk (mvR (X.t (i (o (i z))))) (.some (o (o (o (i z))))) Gd.no [],
   .mk (binR Tryz.prog EK.no .none true BinOp.neq (X.t (o (o (o (i z))))) (X.c (AV.int .i64 0))) (.some (i (o (o (i z))))) Gd.no []])
  (.cond (X.t (i (o (o (i z)))))
  (.seq (.regionD [.mk (keepH (mvR (X.t (i (o (i z)))))) (.some (o (o (i (i z))))) Gd.no [],
   .mk (keepH (ldR true 4 (X.t (o (o (i z)))))) (.some (i (i (o (i z))))) Gd.no [],
   .mk (keepH (ldR true 8 (X.t (i (o z))))) (.some (o (i (o (i z))))) Gd.no [],
   .mk (stR 8 (X.t (i (o (o z)))) (X.t (o (i (o (i z)))))) .none Gd.no [.mk (ldR true 4 (X.t (o (o (i z))))) (.some (i (i (o (i z))))) Gd.no, .mk (mvR (X.t (i (o (i z))))) (.some (o (o (i (i z))))) Gd.no],
   .mk (stR 4 (X.t (o (i (o z)))) (X.t (i (i (o (i z)))))) .none Gd.no [.mk (mvR (X.t (i (o (i z))))) (.some (o (o (i (i z))))) Gd.no],
   .mk (mvR (X.t (o (o (i (i z)))))) (.some (i (i (o z)))) Gd.no []])
  .ret)
  .skip))
  (.seq (.region [.mk (ldR true 8 (X.t (i (o z)))) (.some (o (i (i (i z))))) Gd.no [],
   .mk (ldR true 6 (X.t (o (o (o z))))) (.some (i (i (i (i z))))) Gd.no [],
   .mk (callS Tryz.prog 49 [(X.t (o (i (i (i z))))), (X.t (i (i (i (i z)))))]) (.some (o (o (o (o (o z)))))) Gd.no [],
   .mk (mvR (X.t (o (o (o (o (o z))))))) (.some (i (o (i (i z))))) Gd.no [],
   .mk (extR (X.t (i (o (i (i z))))) 0) (.some (i (o (o (o (o z)))))) Gd.no [],
   .mk (extR (X.t (i (o (i (i z))))) 1) (.some (o (i (o (o (o z)))))) Gd.no [],
   .mk (fun _ H => newC false [(AV.int .i64 0), (AV.int .i64 0), (AV.str []), (AV.str []), (AV.bool false), AV.nils, AV.nils, AV.nils] H) (.some (o (i (i z)))) Gd.no [],
   .mk (fun _ H => newC false [(AV.int .i64 0), (AV.str []), (AV.int .i64 0), AV.nils] H) (.some (i (i (i z)))) Gd.no [],
   .mk (stR 8 (X.t (o (i (i z)))) (X.t (i (o (o (o (o z))))))) .none Gd.no [],
   .mk (stR 4 (X.t (i (i (i z)))) (X.t (o (i (o (o (o z))))))) .none Gd.no []])
  (.seq (.seq (.region [.mk (ldR true 6 (X.t (o (o (o z))))) (.some (i (i (o (o (o z)))))) Gd.no [],
   .mk (callS Tryz.prog 50 [(X.t (i (i (o (o (o z))))))]) (.some (o (o (i (o (o z)))))) Gd.no []])
  (.cond (X.t (o (o (i (o (o z))))))
  (.region [.mk (faR 7 (X.t (o (i (i z))))) (.some (i (o (i (o (o z)))))) Gd.no [],
   .mk (ldR false 1 (X.t (i (o (i (o (o z))))))) (.some (o (i (i (o (o z)))))) Gd.no [],
   .mk (mvR (X.t (o z))) (.some (i (i (i (o (o z)))))) Gd.no [],
   .mk (mvR (X.t (i z))) (.some (o (o (o (i (o z)))))) Gd.no [],
   .mk (ldR true 4 (X.t (i (i (i z))))) (.some (i (o (o (i (o z)))))) Gd.no [],
   .mk (buildR [(AV.int .i64 0), (AV.int .i64 0), (AV.int .i64 0), (AV.str []), (AV.int .i64 0), AV.nils] [(0, (1, (X.t (i (i (i (o (o z)))))))), (1, (1, (X.t (o (o (o (i (o z)))))))), (2, (4, (X.t (i (o (o (i (o z))))))))]) (.some (o (i (o (i (o z)))))) Gd.no [],
   .mk (callS Tryz.prog 51 [(X.t (o (i (i (o (o z)))))), (X.t (o (i (o (i (o z))))))]) (.some (i (i (o (i (o z)))))) Gd.no [],
   .mk (faR 7 (X.t (o (i (i z))))) (.some (o (o (i (i (o z)))))) Gd.no [],
   .mk (stR 1 (X.t (o (o (i (i (o z)))))) (X.t (i (i (o (i (o z))))))) .none Gd.no []])
  .skip))
  (.seq (.regionD [.mk (keepH (ldR true 4 (X.t (i (i (i z)))))) (.some (o (i (i (i (o z)))))) Gd.no [],
   .mk (keepH (ldR true 8 (X.t (o (i (i z)))))) (.some (i (o (i (i (o z)))))) Gd.no [],
   .mk (stR 8 (X.t (i (o (o z)))) (X.t (i (o (i (i (o z))))))) .none Gd.no [.mk (ldR true 4 (X.t (i (i (i z))))) (.some (o (i (i (i (o z)))))) Gd.no],
   .mk (stR 4 (X.t (o (i (o z)))) (X.t (o (i (i (i (o z))))))) .none Gd.no [],
   .mk (mvR (X.c (AV.int .i64 0))) (.some (i (i (o z)))) Gd.no []])
  .ret))))))
theorem C17ok : (match Tryz.f17.body with | some c => comp Tryz.prog 46 c | none => none) = some C17 := by kernel_rfl
@[go_sem] theorem call17 (args : List AV) (H : Heap) : callC Tryz.prog 17 args H = .call 17 args := callC_ok (by kernel_rfl) args H
theorem R17ok : resKs Tryz.prog Tryz.f17.results.toList = some [(RK.cell (i (o (o z))) true 8), (RK.cell (o (i (o z))) true 4), (RK.tmp (i (i (o z))))] := by kernel_rfl

@[go_sem] theorem call19 (args : List AV) (H : Heap) : callC Tryz.prog 19 args H = .call 19 args := callC_ok (by kernel_rfl) args H
@[go_sem] theorem call21 (args : List AV) (H : Heap) : callC Tryz.prog 21 args H = .call 21 args := callC_ok (by kernel_rfl) args H
@[go_sem] theorem call23 (args : List AV) (H : Heap) : callC Tryz.prog 23 args H = .call 23 args := callC_ok (by kernel_rfl) args H
@[go_sem] theorem call24 (args : List AV) (H : Heap) : callC Tryz.prog 24 args H = .call 24 args := callC_ok (by kernel_rfl) args H
@[go_sem] theorem call25 (args : List AV) (H : Heap) : callC Tryz.prog 25 args H = .call 25 args := callC_ok (by kernel_rfl) args H
noncomputable def C49 : CC :=
  (.seq (.region [.mk (boxR false (X.t z)) (.some (i z)) Gd.no [],
   .mk (boxR false (X.t (o z))) (.some (o (o z))) Gd.no [],
   .mk (fun _ H => newC false [(AV.int .i64 0), (AV.int .i64 0), (AV.str []), (AV.str []), (AV.bool false), AV.nils, AV.nils, AV.nils] H) (.some (i (o z))) Gd.no [],
   .mk (fun _ H => newC false [(AV.int .i64 0), (AV.str []), (AV.int .i64 0), AV.nils] H) (.some (o (i z))) Gd.no []])
  (.seq (.seq (.region [.mk (ldR true 6 (X.t (o (o z)))) (.some (i (i (o z)))) Gd.no [],
   .mk (callS Tryz.prog 92 [(X.t (i (i (o z))))]) (.some (o (o (i z)))) Gd.no [],
   .mk (unR UnOp.not (X.t (o (o (i z))))) (.some (i (o (i z)))) Gd.no []])
  (.cond (X.t (i (o (i z))))
  (.seq (.region [.mk (ldR true 8 (X.t (i z))) (.some (o (i (i z)))) Gd.no [],
   .mk (buildR [(AV.int .i64 0), (AV.str []), (AV.int .i64 0), AV.nils] [(0, (1, (X.c (AV.int .i64 10))))]) (.some (i (i (i z)))) Gd.no [],
   .mk (stR 8 (X.t (i (o z))) (X.t (o (i (i z))))) .none Gd.no [],
   .mk (stR 4 (X.t (o (i z))) (X.t (i (i (i z))))) .none Gd.no []])
  .ret)
  .skip))
  (.seq (.region [.mk (faR 5 (X.t (i z))) (.some (i (o (o (o z))))) Gd.no [],
   .mk (ldR false 1 (X.t (i (o (o (o z)))))) (.some (o (i (o (o z))))) Gd.no [],
   .mk (faR 1 (X.t (o (o z)))) (.some (i (i (o (o z))))) Gd.no [],
   .mk (ldR false 1 (X.t (i (i (o (o z)))))) (.some (o (o (i (o z))))) Gd.no [],
   .mk (callS Tryz.prog 85 [(X.t (o (i (o (o z))))), (X.t (o (o (i (o z)))))]) (.some (i (o (i (o z))))) Gd.no [],
   .mk (mvR (X.t (i (o (i (o z)))))) (.some (o (o (o (o z))))) Gd.no [],
   .mk (extR (X.t (o (o (o (o z))))) 0) (.some (o (i (i (o z))))) Gd.no [],
   .mk (extR (X.t (o (o (o (o z))))) 1) (.some (i (i (i (o z))))) Gd.no [],
   .mk (fun _ H => newC false [(AV.str []), (AV.str []), (AV.int .i64 0), (AV.bool false), (AV.int .i64 0)] H) (.some (i (i z))) Gd.no [],
   .mk (stR 5 (X.t (i (i z))) (X.t (o (i (i (o z)))))) .none Gd.no [],
   .mk (mvR (X.t (i (i (i (o z)))))) (.some (o (o (o z)))) Gd.no []])
  (.seq (.seq (.region [.mk (faR 0 (X.t (o (o z)))) (.some (o (o (o (i z))))) Gd.no [],
   .mk (ldR false 1 (X.t (o (o (o (i z)))))) (.some (i (o (o (i z))))) Gd.no []])
  (.block 0 (.seq (.region [.mk (binR Tryz.prog EK.no .none true BinOp.eql (X.t (i (o (o (i z))))) (X.c (AV.int .i64 1))) (.some (i (i (o (i z))))) Gd.no [],
   .mk (mvR (X.t (i (i (o (i z)))))) (.some (o (i (o (i z))))) Gd.no []])
  (.cond (X.t (o (i (o (i z)))))
  (.seq (.seq (.region [.mk (ldR true 5 (X.t (i (i z)))) (.some (o (o (i (i z))))) Gd.no [],
   .mk (callS Tryz.prog 93 [(X.t (o (o (i (i z)))))]) (.some (i (o (i (i z))))) Gd.no [],
   .mk (unR UnOp.not (X.t (i (o (i (i z)))))) (.some (o (i (i (i z))))) Gd.no []])
  (.cond (X.t (o (i (i (i z)))))
  (.seq (.regionD [.mk (keepH (faR 2 (X.t (i (i z))))) (.some (o (o (o (o (o z)))))) Gd.no [],
   .mk (keepH (ldR false 1 (X.t (o (o (o (o (o z)))))))) (.some (i (o (o (o (o z)))))) Gd.no [],
   .mk (keepH (buildR [(AV.int .i64 0), (AV.str []), (AV.int .i64 0), AV.nils] [(0, (1, (X.c (AV.int .i64 14)))), (2, (1, (X.t (i (o (o (o (o z))))))))])) (.some (o (i (o (o (o z)))))) Gd.no [],
   .mk (keepH (ldR true 8 (X.t (i z)))) (.some (i (i (i (i z))))) Gd.no [],
   .mk (stR 8 (X.t (i (o z))) (X.t (i (i (i (i z)))))) .none Gd.no [.mk (buildR [(AV.int .i64 0), (AV.str []), (AV.int .i64 0), AV.nils] [(0, (1, (X.c (AV.int .i64 14)))), (2, (1, (X.t (i (o (o (o (o z))))))))]) (.some (o (i (o (o (o z)))))) Gd.no, .mk (ldR false 1 (X.t (o (o (o (o (o z))))))) (.some (i (o (o (o (o z)))))) Gd.no, .mk (faR 2 (X.t (i (i z)))) (.some (o (o (o (o (o z)))))) Gd.no],
   .mk (stR 4 (X.t (o (i z))) (X.t (o (i (o (o (o z))))))) .none Gd.no []])
  .ret)
  .skip))
  (.seq (.regionD [.mk (keepH (faR 2 (X.t (i (i z))))) (.some (o (i (i (o (o z)))))) Gd.no [],
   .mk (keepH (ldR false 1 (X.t (o (i (i (o (o z)))))))) (.some (i (i (i (o (o z)))))) Gd.no [],
   .mk (keepH (faR 1 (X.t (i (i z))))) (.some (o (o (i (o (o z)))))) Gd.no [],
   .mk (keepH (ldR false 1 (X.t (o (o (i (o (o z)))))))) (.some (i (o (i (o (o z)))))) Gd.no [],
   .mk (keepH (buildR [(AV.int .i64 0), (AV.str []), (AV.int .i64 0), AV.nils] [(1, (1, (X.t (i (o (i (o (o z)))))))), (2, (1, (X.t (i (i (i (o (o z))))))))])) (.some (o (o (o (i (o z)))))) Gd.no [],
   .mk (keepH (ldR true 8 (X.t (i z)))) (.some (i (i (o (o (o z)))))) Gd.no [],
   .mk (stR 8 (X.t (i (o z))) (X.t (i (i (o (o (o z))))))) .none Gd.no [.mk (buildR [(AV.int .i64 0), (AV.str []), (AV.int .i64 0), AV.nils] [(1, (1, (X.t (i (o (i (o (o z)))))))), (2, (1, (X.t (i (i (i (o (o z))))))))]) (.some (o (o (o (i (o z)))))) Gd.no, .mk (ldR false 1 (X.t (o (o (i (o (o z))))))) (.some (i (o (i (o (o z)))))) Gd.no, .mk (faR 1 (X.t (i (i z)))) (.some (o (o (i (o (o z)))))) Gd.no, .mk (ldR false 1 (X.t (o (i (i (o (o z))))))) (.some (i (i (i (o (o z)))))) Gd.no, .mk (faR 2 (X.t (i (i z)))) (.some (o (i (i (o (o z)))))) Gd.no],
   .mk (stR 4 (X.t (o (i z))) (X.t (o (o (o (i (o z))))))) .none Gd.no []])
  .ret))
  (.seq (.seq (.region [.mk (binR Tryz.prog EK.no .none true BinOp.eql (X.t (i (o (o (i z))))) (X.c (AV.int .i64 2))) (.some (o (i (o (i (o z)))))) Gd.no [],
   .mk (mvR (X.t (o (i (o (i (o z))))))) (.some (i (o (o (i (o z)))))) Gd.no []])
  (.cond (X.t (i (o (o (i (o z))))))
  .skip
  (.region [.mk (binR Tryz.prog EK.no .none true BinOp.eql (X.t (i (o (o (i z))))) (X.c (AV.int .i64 3))) (.some (i (i (o (i (o z)))))) Gd.no [],
   .mk (mvR (X.t (i (i (o (i (o z))))))) (.some (i (o (o (i (o z)))))) Gd.no []])))
  (.cond (X.t (i (o (o (i (o z))))))
  (.seq (.region [.mk (ldR true 8 (X.t (i z))) (.some (o (o (i (i (o z)))))) Gd.no [],
   .mk (faR 1 (X.t (o (o z)))) (.some (i (o (i (i (o z)))))) Gd.no [],
   .mk (ldR false 1 (X.t (i (o (i (i (o z))))))) (.some (o (i (i (i (o z)))))) Gd.no [],
   .mk (faR 3 (X.t (o (o z)))) (.some (i (i (i (i (o z)))))) Gd.no [],
   .mk (ldR false 1 (X.t (i (i (i (i (o z))))))) (.some (o (o (o (o (i z)))))) Gd.no [],
   .mk (faR 0 (X.t (o (o z)))) (.some (i (o (o (o (i z)))))) Gd.no [],
   .mk (ldR false 1 (X.t (i (o (o (o (i z))))))) (.some (o (i (o (o (i z)))))) Gd.no [],
   .mk (binR Tryz.prog EK.no .none true BinOp.eql (X.t (o (i (o (o (i z)))))) (X.c (AV.int .i64 3))) (.some (i (i (o (o (i z)))))) Gd.no [],
   .mk (callS Tryz.prog 94 [(X.t (o (o (i (i (o z)))))), (X.t (o (i (i (i (o z)))))), (X.t (o (o (o (o (i z)))))), (X.t (i (i (o (o (i z))))))]) (.some (o (o (i (o (i z)))))) Gd.no [],
   .mk (extR (X.t (o (o (i (o (i z)))))) 0) (.some (i (o (i (o (i z)))))) Gd.no [],
   .mk (extR (X.t (o (o (i (o (i z)))))) 1) (.some (o (i (i (o (i z)))))) Gd.no [],
   .mk (stR 8 (X.t (i (o z))) (X.t (i (o (i (o (i z))))))) .none Gd.no [],
   .mk (stR 4 (X.t (o (i z))) (X.t (o (i (i (o (i z))))))) .none Gd.no []])
  .ret)
  (.seq (.region [.mk (binR Tryz.prog EK.no .none true BinOp.eql (X.t (i (o (o (i z))))) (X.c (AV.int .i64 4))) (.some (o (o (o (i (i z)))))) Gd.no [],
   .mk (mvR (X.t (o (o (o (i (i z))))))) (.some (i (i (i (o (i z)))))) Gd.no []])
  (.cond (X.t (i (i (i (o (i z))))))
  (.seq (.seq (.region [.mk (faR 2 (X.t (i (i z)))) (.some (i (o (o (i (i z)))))) Gd.no [],
   .mk (ldR false 1 (X.t (i (o (o (i (i z))))))) (.some (o (i (o (i (i z)))))) Gd.no [],
   .mk (faR 4 (X.t (o (o z)))) (.some (i (i (o (i (i z)))))) Gd.no [],
   .mk (ldR false 1 (X.t (i (i (o (i (i z))))))) (.some (o (o (i (i (i z)))))) Gd.no [],
   .mk (binR Tryz.prog EK.no .none false BinOp.neq (X.t (o (i (o (i (i z)))))) (X.t (o (o (i (i (i z))))))) (.some (i (o (i (i (i z)))))) Gd.no []])
  (.cond (X.t (i (o (i (i (i z))))))
  (.seq (.regionD [.mk (keepH (faR 2 (X.t (i (i z))))) (.some (i (i (i (i (i z)))))) Gd.no [],
   .mk (keepH (ldR false 1 (X.t (i (i (i (i (i z)))))))) (.some (o (o (o (o (o (o z))))))) Gd.no [],
   .mk (keepH (buildR [(AV.int .i64 0), (AV.str []), (AV.int .i64 0), AV.nils] [(0, (1, (X.c (AV.int .i64 15)))), (2, (1, (X.t (o (o (o (o (o (o z)))))))))])) (.some (i (o (o (o (o (o z))))))) Gd.no [],
   .mk (keepH (ldR true 8 (X.t (i z)))) (.some (o (i (i (i (i z)))))) Gd.no [],
   .mk (stR 8 (X.t (i (o z))) (X.t (o (i (i (i (i z))))))) .none Gd.no [.mk (buildR [(AV.int .i64 0), (AV.str []), (AV.int .i64 0), AV.nils] [(0, (1, (X.c (AV.int .i64 15)))), (2, (1, (X.t (o (o (o (o (o (o z)))))))))]) (.some (i (o (o (o (o (o z))))))) Gd.no, .mk (ldR false 1 (X.t (i (i (i (i (i z))))))) (.some (o (o (o (o (o (o z))))))) Gd.no, .mk (faR 2 (X.t (i (i z)))) (.some (i (i (i (i (i z)))))) Gd.no],
   .mk (stR 4 (X.t (o (i z))) (X.t (i (o (o (o (o (o z)))))))) .none Gd.no []])
  .ret)
  .skip))
  (.seq (.region [.mk (ldR true 8 (X.t (i z))) (.some (o (i (o (o (o (o z))))))) Gd.no [],
   .mk (faR 1 (X.t (o (o z)))) (.some (i (i (o (o (o (o z))))))) Gd.no [],
   .mk (ldR false 1 (X.t (i (i (o (o (o (o z)))))))) (.some (o (o (i (o (o (o z))))))) Gd.no [],
   .mk (faR 3 (X.t (o (o z)))) (.some (i (o (i (o (o (o z))))))) Gd.no [],
   .mk (ldR false 1 (X.t (i (o (i (o (o (o z)))))))) (.some (o (i (i (o (o (o z))))))) Gd.no [],
   .mk (callS Tryz.prog 94 [(X.t (o (i (o (o (o (o z))))))), (X.t (o (o (i (o (o (o z))))))), (X.t (o (i (i (o (o (o z))))))), (X.c (AV.bool false))]) (.some (i (i (i (o (o (o z))))))) Gd.no [],
   .mk (extR (X.t (i (i (i (o (o (o z))))))) 0) (.some (o (o (o (i (o (o z))))))) Gd.no [],
   .mk (extR (X.t (i (i (i (o (o (o z))))))) 1) (.some (i (o (o (i (o (o z))))))) Gd.no [],
   .mk (stR 8 (X.t (i (o z))) (X.t (o (o (o (i (o (o z)))))))) .none Gd.no [],
   .mk (stR 4 (X.t (o (i z))) (X.t (i (o (o (i (o (o z)))))))) .none Gd.no []])
  .ret))
  (.seq (.region [.mk (binR Tryz.prog EK.no .none true BinOp.eql (X.t (i (o (o (i z))))) (X.c (AV.int .i64 5))) (.some (i (i (o (i (o (o z))))))) Gd.no [],
   .mk (mvR (X.t (i (i (o (i (o (o z)))))))) (.some (o (i (o (i (o (o z))))))) Gd.no []])
  (.cond (X.t (o (i (o (i (o (o z)))))))
  (.seq (.region [.mk (faR 1 (X.t (o (o z)))) (.some (o (o (i (i (o (o z))))))) Gd.no [],
   .mk (ldR false 1 (X.t (o (o (i (i (o (o z)))))))) (.some (i (o (i (i (o (o z))))))) Gd.no [],
   .mk (faR 2 (X.t (o (o z)))) (.some (o (i (i (i (o (o z))))))) Gd.no [],
   .mk (ldR false 1 (X.t (o (i (i (i (o (o z)))))))) (.some (i (i (i (i (o (o z))))))) Gd.no [],
   .mk (buildR [(AV.str []), (AV.str [])] [(0, (1, (X.t (i (o (i (i (o (o z))))))))), (1, (1, (X.t (i (i (i (i (o (o z)))))))))]) (.some (o (o (o (o (i (o z))))))) Gd.no [],
   .mk (fun _ H => newC false [(AV.str []), (AV.str [])] H) (.some (i (o (o z)))) Gd.no [],
   .mk (stR 2 (X.t (i (o (o z)))) (X.t (o (o (o (o (i (o z)))))))) .none Gd.no []])
  (.seq (.seq (.region [.mk (ldR true 2 (X.t (i (o (o z))))) (.some (i (o (o (o (i (o z))))))) Gd.no [],
   .mk (faR 2 (X.t (i z))) (.some (o (i (o (o (i (o z))))))) Gd.no [],
   .mk (ldR true 2 (X.t (o (i (o (o (i (o z)))))))) (.some (i (i (o (o (i (o z))))))) Gd.no [],
   .mk (callS Tryz.prog 95 [(X.t (i (o (o (o (i (o z))))))), (X.t (i (i (o (o (i (o z)))))))]) (.some (o (o (i (o (i (o z))))))) Gd.no [],
   .mk (unR UnOp.not (X.t (o (o (i (o (i (o z)))))))) (.some (i (o (i (o (i (o z))))))) Gd.no []])
  (.cond (X.t (i (o (i (o (i (o z)))))))
  (.seq (.region [.mk (ldR true 8 (X.t (i z))) (.some (o (i (i (o (i (o z))))))) Gd.no [],
   .mk (buildR [(AV.int .i64 0), (AV.str []), (AV.int .i64 0), AV.nils] [(0, (1, (X.c (AV.int .i64 16))))]) (.some (i (i (i (o (i (o z))))))) Gd.no [],
   .mk (stR 8 (X.t (i (o z))) (X.t (o (i (i (o (i (o z)))))))) .none Gd.no [],
   .mk (stR 4 (X.t (o (i z))) (X.t (i (i (i (o (i (o z)))))))) .none Gd.no []])
  .ret)
  .skip))
  (.seq (.regionD [.mk (keepH (ldR true 2 (X.t (i (o (o z)))))) (.some (i (i (o (i (i (o z))))))) Gd.no [],
   .mk (keepH (faR 5 (X.t (i z)))) (.some (i (o (o (i (i (o z))))))) Gd.no [],
   .mk (keepH (ldR false 1 (X.t (i (o (o (i (i (o z))))))))) (.some (o (i (o (i (i (o z))))))) Gd.no [],
   .mk (keepH (ldR true 8 (X.t (i z)))) (.some (o (o (o (i (i (o z))))))) Gd.no [],
   .mk (callS Tryz.prog 96 [(X.t (o (i (o (i (i (o z))))))), (X.t (i (i (o (i (i (o z))))))), (X.c (AV.int .i64 16))]) (.some (o (o (i (i (i (o z))))))) Gd.no [.mk (ldR true 8 (X.t (i z))) (.some (o (o (o (i (i (o z))))))) Gd.no],
   .mk (keepH (buildR [(AV.int .i64 0), (AV.str []), (AV.int .i64 0), AV.nils] [(3, (1, (X.t (o (o (i (i (i (o z)))))))))])) (.some (i (o (i (i (i (o z))))))) Gd.no [],
   .mk (stR 8 (X.t (i (o z))) (X.t (o (o (o (i (i (o z)))))))) .none Gd.no [.mk (buildR [(AV.int .i64 0), (AV.str []), (AV.int .i64 0), AV.nils] [(3, (1, (X.t (o (o (i (i (i (o z)))))))))]) (.some (i (o (i (i (i (o z))))))) Gd.no],
   .mk (stR 4 (X.t (o (i z))) (X.t (i (o (i (i (i (o z)))))))) .none Gd.no []])
  .ret)))
  (.seq (.region [.mk (binR Tryz.prog EK.no .none true BinOp.eql (X.t (i (o (o (i z))))) (X.c (AV.int .i64 6))) (.some (i (i (i (i (i (o z))))))) Gd.no [],
   .mk (mvR (X.t (i (i (i (i (i (o z)))))))) (.some (o (i (i (i (i (o z))))))) Gd.no []])
  (.cond (X.t (o (i (i (i (i (o z)))))))
  (.seq (.region [.mk (ldR true 8 (X.t (i z))) (.some (o (o (o (o (o (i z))))))) Gd.no [],
   .mk (faR 5 (X.t (o (o z)))) (.some (i (o (o (o (o (i z))))))) Gd.no [],
   .mk (ldR false 1 (X.t (i (o (o (o (o (i z)))))))) (.some (o (i (o (o (o (i z))))))) Gd.no [],
   .mk (callS Tryz.prog 97 [(X.t (o (o (o (o (o (i z))))))), (X.t (o (i (o (o (o (i z)))))))]) (.some (i (i (o (o (o (i z))))))) Gd.no [],
   .mk (extR (X.t (i (i (o (o (o (i z))))))) 0) (.some (o (o (i (o (o (i z))))))) Gd.no [],
   .mk (extR (X.t (i (i (o (o (o (i z))))))) 1) (.some (i (o (i (o (o (i z))))))) Gd.no [],
   .mk (stR 8 (X.t (i (o z))) (X.t (o (o (i (o (o (i z)))))))) .none Gd.no [],
   .mk (stR 4 (X.t (o (i z))) (X.t (i (o (i (o (o (i z)))))))) .none Gd.no []])
  .ret)
  .skip))))))))))))
  (.seq (.region [.mk (faR 6 (X.t (i z))) (.some (o (i (i (o (o (i z))))))) Gd.no [],
   .mk (ldR false 1 (X.t (o (i (i (o (o (i z)))))))) (.some (i (i (i (o (o (i z))))))) Gd.no [],
   .mk (lenR LnK.slice (X.t (i (i (i (o (o (i z)))))))) (.some (o (o (o (i (o (i z))))))) Gd.no [],
   .mk (mvR (X.t (o (o (o (i (o (i z)))))))) (.some (o (i (o z)))) Gd.no []])
  (.seq (.region [.mk (faR 6 (X.t (i z))) (.some (o (i (o (i (o (i z))))))) Gd.no [],
   .mk (ldR false 1 (X.t (o (i (o (i (o (i z)))))))) (.some (i (i (o (i (o (i z))))))) Gd.no [],
   .mk (faR 5 (X.t (i z))) (.some (o (o (i (i (o (i z))))))) Gd.no [],
   .mk (ldR false 1 (X.t (o (o (i (i (o (i z)))))))) (.some (i (o (i (i (o (i z))))))) Gd.no [],
   .mk (faR 4 (X.t (o (o z)))) (.some (o (i (i (i (o (i z))))))) Gd.no [],
   .mk (ldR false 1 (X.t (o (i (i (i (o (i z)))))))) (.some (i (i (i (i (o (i z))))))) Gd.no [],
   .mk (callS Tryz.prog 43 [(X.t (i (i (o (i (o (i z))))))), (X.t (i (o (i (i (o (i z))))))), (X.t (i (i (i (i (o (i z)))))))]) (.some (o (o (o (o (i (i z))))))) Gd.no [],
   .mk (mvR (X.t (o (o (o (o (i (i z)))))))) (.some (i (o (o (i (o (i z))))))) Gd.no [],
   .mk (extR (X.t (i (o (o (i (o (i z))))))) 0) (.some (i (o (o (o (i (i z))))))) Gd.no [],
   .mk (extR (X.t (i (o (o (i (o (i z))))))) 1) (.some (o (i (o (o (i (i z))))))) Gd.no [],
   .mk (faR 6 (X.t (i z))) (.some (i (i (o (o (i (i z))))))) Gd.no [],
   .mk (stR 1 (X.t (i (i (o (o (i (i z))))))) (X.t (i (o (o (o (i (i z)))))))) .none Gd.no [],
   .mk (faR 5 (X.t (i z))) (.some (o (o (i (o (i (i z))))))) Gd.no [],
   .mk (stR 1 (X.t (o (o (i (o (i (i z))))))) (X.t (o (i (o (o (i (i z)))))))) .none Gd.no []])
  (.seq (.regionD [.mk (keepH (faR 6 (X.t (i z)))) (.some (i (i (i (o (i (i z))))))) Gd.no [],
   .mk (keepH (ldR false 1 (X.t (i (i (i (o (i (i z))))))))) (.some (o (o (o (i (i (i z))))))) Gd.no [],
   .mk (keepH (lenR LnK.slice (X.t (o (o (o (i (i (i z))))))))) (.some (i (o (o (i (i (i z))))))) Gd.no [],
   .mk (keepH (mvR (X.t (o (i (o z)))))) (.some (o (i (i (o (i (i z))))))) Gd.no [],
   .mk (keepH (binR Tryz.prog EK.no .none false BinOp.sub (X.t (o (i (i (o (i (i z))))))) (X.t (i (o (o (i (i (i z))))))))) (.some (o (i (o (i (i (i z))))))) Gd.no [],
   .mk (keepH (buildR [(AV.int .i64 0), (AV.str []), (AV.int .i64 0), AV.nils] [(2, (1, (X.t (o (i (o (i (i (i z)))))))))])) (.some (i (i (o (i (i (i z))))))) Gd.no [],
   .mk (keepH (ldR true 8 (X.t (i z)))) (.some (i (o (i (o (i (i z))))))) Gd.no [],
   .mk (stR 8 (X.t (i (o z))) (X.t (i (o (i (o (i (i z)))))))) .none Gd.no [.mk (buildR [(AV.int .i64 0), (AV.str []), (AV.int .i64 0), AV.nils] [(2, (1, (X.t (o (i (o (i (i (i z)))))))))]) (.some (i (i (o (i (i (i z))))))) Gd.no, .mk (binR Tryz.prog EK.no .none false BinOp.sub (X.t (o (i (i (o (i (i z))))))) (X.t (i (o (o (i (i (i z)))))))) (.some (o (i (o (i (i (i z))))))) Gd.no, .mk (mvR (X.t (o (i (o z))))) (.some (o (i (i (o (i (i z))))))) Gd.no, .mk (lenR LnK.slice (X.t (o (o (o (i (i (i z)))))))) (.some (i (o (o (i (i (i z))))))) Gd.no, .mk (ldR false 1 (X.t (i (i (i (o (i (i z)))))))) (.some (o (o (o (i (i (i z))))))) Gd.no, .mk (faR 6 (X.t (i z))) (.some (i (i (i (o (i (i z))))))) Gd.no],
   .mk (stR 4 (X.t (o (i z))) (X.t (i (i (o (i (i (i z)))))))) .none Gd.no []])
  .ret)))))))
theorem C49ok : (match Tryz.f49.body with | some c => comp Tryz.prog 123 c | none => none) = some C49 := by kernel_rfl
@[go_sem] theorem call49 (args : List AV) (H : Heap) : callC Tryz.prog 49 args H = .call 49 args := callC_ok (by kernel_rfl) args H
theorem R49ok : resKs Tryz.prog Tryz.f49.results.toList = some [(RK.cell (i (o z)) true 8), (RK.cell (o (i z)) true 4)] := by kernel_rfl

noncomputable def C50 : CC :=
  (.seq (.region [.mk (boxR false (X.t z)) (.some (o z)) Gd.no [],
   .mk (mvR (X.c (AV.bool false))) (.some (i z)) Gd.no []])
  (.seq (.region [.mk (faR 0 (X.t (o z))) (.some (o (o z))) Gd.no [],
   .mk (ldR false 1 (X.t (o (o z)))) (.some (i (o z))) Gd.no [],
   .mk (binR Tryz.prog EK.no .none true BinOp.neq (X.t (i (o z))) (X.c (AV.int .i64 1))) (.some (o (i z))) Gd.no [],
   .mk (mvR (X.t (o (i z)))) (.some (i (i z))) Gd.no [],
   .mk (faR 0 (X.t (o z))) (.some (o (o (o z)))) (Gd.on (i (i z)) true) [],
   .mk (ldR false 1 (X.t (o (o (o z))))) (.some (i (o (o z)))) (Gd.on (i (i z)) true) [],
   .mk (binR Tryz.prog EK.no .none true BinOp.neq (X.t (i (o (o z)))) (X.c (AV.int .i64 5))) (.some (o (i (o z)))) (Gd.on (i (i z)) true) [],
   .mk (pickR (X.t (i (i z))) (X.t (o (i (o z)))) (X.c (AV.bool false))) (.some (i (i (o z)))) Gd.no [],
   .mk (mvR (X.t (i (i (o z))))) (.some (i z)) Gd.no []])
  .ret))
theorem C50ok : (match Tryz.f50.body with | some c => comp Tryz.prog 11 c | none => none) = some C50 := by kernel_rfl
@[go_sem] theorem call50 (args : List AV) (H : Heap) : callC Tryz.prog 50 args H = .call 50 args := callC_ok (by kernel_rfl) args H
theorem R50ok : resKs Tryz.prog Tryz.f50.results.toList = some [(RK.tmp (i z))] := by kernel_rfl

@[go_sem] theorem call52 (args : List AV) (H : Heap) : callC Tryz.prog 52 args H = .call 52 args := callC_ok (by kernel_rfl) args H
@[go_sem] theorem call53 (args : List AV) (H : Heap) : callC Tryz.prog 53 args H = .call 53 args := callC_ok (by kernel_rfl) args H
@[go_sem] theorem call54 (args : List AV) (H : Heap) : callC Tryz.prog 54 args H = .call 54 args := callC_ok (by kernel_rfl) args H
@[go_sem] theorem call56 (args : List AV) (H : Heap) : callC Tryz.prog 56 args H = .call 56 args := callC_ok (by kernel_rfl) args H
@[go_sem] theorem call57 (args : List AV) (H : Heap) : callC Tryz.prog 57 args H = .call 57 args := callC_ok (by kernel_rfl) args H
@[go_sem] theorem call59 (args : List AV) (H : Heap) : callC Tryz.prog 59 args H = .call 59 args := callC_ok (by kernel_rfl) args H
@[go_sem] theorem call70 (args : List AV) (H : Heap) : callC Tryz.prog 70 args H = .call 70 args := callC_ok (by kernel_rfl) args H
@[go_sem] theorem call81 (args : List AV) (H : Heap) : callC Tryz.prog 81 args H = .call 81 args := callC_ok (by kernel_rfl) args H
noncomputable def C92 : CC :=
  (.seq (.region [.mk (boxR false (X.t z)) (.some (o z)) Gd.no [],
   .mk (mvR (X.c (AV.bool false))) (.some (i z)) Gd.no []])
  (.seq (.seq (.region [.mk (faR 0 (X.t (o z))) (.some (o (o z))) Gd.no [],
   .mk (ldR false 1 (X.t (o (o z)))) (.some (i (o z))) Gd.no [],
   .mk (binR Tryz.prog EK.no .none true BinOp.lss (X.t (i (o z))) (X.c (AV.int .i64 1))) (.some (o (i z))) Gd.no [],
   .mk (mvR (X.t (o (i z)))) (.some (i (i z))) Gd.no [],
   .mk (faR 0 (X.t (o z))) (.some (o (o (o z)))) (Gd.on (i (i z)) false) [],
   .mk (ldR false 1 (X.t (o (o (o z))))) (.some (i (o (o z)))) (Gd.on (i (i z)) false) [],
   .mk (binR Tryz.prog EK.no .none true BinOp.gtr (X.t (i (o (o z)))) (X.c (AV.int .i64 7))) (.some (o (i (o z)))) (Gd.on (i (i z)) false) [],
   .mk (pickR (X.t (i (i z))) (X.c (AV.bool true)) (X.t (o (i (o z))))) (.some (i (i (o z)))) Gd.no [],
   .mk (mvR (X.t (i (i (o z))))) (.some (o (o (i z)))) Gd.no [],
   .mk (faR 0 (X.t (o z))) (.some (i (o (i z)))) (Gd.on (o (o (i z))) false) [],
   .mk (ldR false 1 (X.t (i (o (i z))))) (.some (o (i (i z)))) (Gd.on (o (o (i z))) false) [],
   .mk (binR Tryz.prog EK.no .none true BinOp.eql (X.t (o (i (i z)))) (X.c (AV.int .i64 6))) (.some (i (i (i z)))) (Gd.on (o (o (i z))) false) [],
   .mk (faR 1 (X.t (o z))) (.some (o (o (o (o z))))) (Gd.on (o (o (i z))) false) [],
   .mk (ldR false 1 (X.t (o (o (o (o z)))))) (.some (i (o (o (o z))))) (Gd.on (o (o (i z))) false) [],
   .mk (binR Tryz.prog EK.no .none true BinOp.eql (X.t (i (o (o (o z))))) (X.c (AV.str []))) (.some (o (i (o (o z))))) (Gd.on (o (o (i z))) false) [],
   .mk (binR Tryz.prog EK.bool .none false BinOp.neq (X.t (i (i (i z)))) (X.t (o (i (o (o z)))))) (.some (i (i (o (o z))))) (Gd.on (o (o (i z))) false) [],
   .mk (pickR (X.t (o (o (i z)))) (X.c (AV.bool true)) (X.t (i (i (o (o z)))))) (.some (o (o (i (o z))))) Gd.no [],
   .mk (mvR (X.t (o (o (i (o z)))))) (.some (i (o (i (o z))))) Gd.no [],
   .mk (faR 1 (X.t (o z))) (.some (o (i (i (o z))))) (Gd.on (i (o (i (o z)))) false) [],
   .mk (ldR false 1 (X.t (o (i (i (o z)))))) (.some (i (i (i (o z))))) (Gd.on (i (o (i (o z)))) false) [],
   .mk (binR Tryz.prog EK.no .none true BinOp.neq (X.t (i (i (i (o z))))) (X.c (AV.str []))) (.some (o (o (o (i z))))) (Gd.on (i (o (i (o z)))) false) [],
   .mk (mvR (X.t (o (o (o (i z)))))) (.some (i (o (o (i z))))) (Gd.on (i (o (i (o z)))) false) [],
   .mk (faR 1 (X.t (o z))) (.some (o (i (o (i z))))) (Gd.on (i (o (o (i z)))) true) [],
   .mk (ldR false 1 (X.t (o (i (o (i z)))))) (.some (i (i (o (i z))))) (Gd.on (i (o (o (i z)))) true) [],
   .mk (callS Tryz.prog 127 [(X.t (i (i (o (i z)))))]) (.some (o (o (i (i z))))) (Gd.on (i (o (o (i z)))) true) [],
   .mk (unR UnOp.not (X.t (o (o (i (i z)))))) (.some (i (o (i (i z))))) (Gd.on (i (o (o (i z)))) true) [],
   .mk (pickR (X.t (i (o (o (i z))))) (X.t (i (o (i (i z))))) (X.c (AV.bool false))) (.some (o (i (i (i z))))) (Gd.on (i (o (i (o z)))) false) [],
   .mk (pickR (X.t (i (o (i (o z))))) (X.c (AV.bool true)) (X.t (o (i (i (i z)))))) (.some (i (i (i (i z))))) Gd.no []])
  (.cond (X.t (i (i (i (i z)))))
  (.seq (.region [.mk (mvR (X.c (AV.bool false))) (.some (i z)) Gd.no []])
  .ret)
  .skip))
  (.seq (.block 0 (.seq (.seq (.region [.mk (faR 0 (X.t (o z))) (.some (i (o (o (o (o z)))))) Gd.no [],
   .mk (ldR false 1 (X.t (i (o (o (o (o z))))))) (.some (o (i (o (o (o z)))))) Gd.no [],
   .mk (binR Tryz.prog EK.no .none true BinOp.neq (X.t (o (i (o (o (o z)))))) (X.c (AV.int .i64 5))) (.some (i (i (o (o (o z)))))) Gd.no [],
   .mk (mvR (X.t (i (i (o (o (o z))))))) (.some (o (o (i (o (o z)))))) Gd.no [],
   .mk (faR 2 (X.t (o z))) (.some (i (o (i (o (o z)))))) (Gd.on (o (o (i (o (o z))))) true) [],
   .mk (ldR false 1 (X.t (i (o (i (o (o z))))))) (.some (o (i (i (o (o z)))))) (Gd.on (o (o (i (o (o z))))) true) [],
   .mk (binR Tryz.prog EK.no .none true BinOp.neq (X.t (o (i (i (o (o z)))))) (X.c (AV.str []))) (.some (i (i (i (o (o z)))))) (Gd.on (o (o (i (o (o z))))) true) [],
   .mk (pickR (X.t (o (o (i (o (o z)))))) (X.t (i (i (i (o (o z)))))) (X.c (AV.bool false))) (.some (o (o (o (i (o z)))))) Gd.no [],
   .mk (mvR (X.t (o (o (o (i (o z))))))) (.some (o (o (o (o (o z)))))) Gd.no []])
  (.cond (X.t (o (o (o (o (o z))))))
  .skip
  (.region [.mk (faR 0 (X.t (o z))) (.some (i (o (o (i (o z)))))) Gd.no [],
   .mk (ldR false 1 (X.t (i (o (o (i (o z))))))) (.some (o (i (o (i (o z)))))) Gd.no [],
   .mk (binR Tryz.prog EK.no .none true BinOp.eql (X.t (o (i (o (i (o z)))))) (X.c (AV.int .i64 5))) (.some (i (i (o (i (o z)))))) Gd.no [],
   .mk (mvR (X.t (i (i (o (i (o z))))))) (.some (o (o (i (i (o z)))))) Gd.no [],
   .mk (faR 1 (X.t (o z))) (.some (i (o (i (i (o z)))))) (Gd.on (o (o (i (i (o z))))) true) [],
   .mk (ldR false 1 (X.t (i (o (i (i (o z))))))) (.some (o (i (i (i (o z)))))) (Gd.on (o (o (i (i (o z))))) true) [],
   .mk (faR 2 (X.t (o z))) (.some (i (i (i (i (o z)))))) (Gd.on (o (o (i (i (o z))))) true) [],
   .mk (ldR false 1 (X.t (i (i (i (i (o z))))))) (.some (o (o (o (o (i z)))))) (Gd.on (o (o (i (i (o z))))) true) [],
   .mk (buildR [(AV.str []), (AV.str [])] [(0, (1, (X.t (o (i (i (i (o z)))))))), (1, (1, (X.t (o (o (o (o (i z))))))))]) (.some (i (o (o (o (i z)))))) (Gd.on (o (o (i (i (o z))))) true) [],
   .mk (callS Tryz.prog 75 [(X.t (i (o (o (o (i z))))))]) (.some (o (i (o (o (i z)))))) (Gd.on (o (o (i (i (o z))))) true) [],
   .mk (unR UnOp.not (X.t (o (i (o (o (i z))))))) (.some (i (i (o (o (i z)))))) (Gd.on (o (o (i (i (o z))))) true) [],
   .mk (pickR (X.t (o (o (i (i (o z)))))) (X.t (i (i (o (o (i z)))))) (X.c (AV.bool false))) (.some (o (o (i (o (i z)))))) Gd.no [],
   .mk (mvR (X.t (o (o (i (o (i z))))))) (.some (o (o (o (o (o z)))))) Gd.no []])))
  (.cond (X.t (o (o (o (o (o z))))))
  (.seq (.region [.mk (mvR (X.c (AV.bool false))) (.some (i z)) Gd.no []])
  .ret)
  (.seq (.seq (.region [.mk (faR 0 (X.t (o z))) (.some (o (i (i (o (i z)))))) Gd.no [],
   .mk (ldR false 1 (X.t (o (i (i (o (i z))))))) (.some (i (i (i (o (i z)))))) Gd.no [],
   .mk (binR Tryz.prog EK.no .none true BinOp.neq (X.t (i (i (i (o (i z)))))) (X.c (AV.int .i64 2))) (.some (o (o (o (i (i z)))))) Gd.no [],
   .mk (mvR (X.t (o (o (o (i (i z))))))) (.some (i (o (o (i (i z)))))) Gd.no [],
   .mk (faR 0 (X.t (o z))) (.some (o (i (o (i (i z)))))) (Gd.on (i (o (o (i (i z))))) true) [],
   .mk (ldR false 1 (X.t (o (i (o (i (i z))))))) (.some (i (i (o (i (i z)))))) (Gd.on (i (o (o (i (i z))))) true) [],
   .mk (binR Tryz.prog EK.no .none true BinOp.neq (X.t (i (i (o (i (i z)))))) (X.c (AV.int .i64 4))) (.some (o (o (i (i (i z)))))) (Gd.on (i (o (o (i (i z))))) true) [],
   .mk (pickR (X.t (i (o (o (i (i z)))))) (X.t (o (o (i (i (i z)))))) (X.c (AV.bool false))) (.some (i (o (i (i (i z)))))) Gd.no [],
   .mk (mvR (X.t (i (o (i (i (i z))))))) (.some (o (i (i (i (i z)))))) Gd.no [],
   .mk (faR 3 (X.t (o z))) (.some (i (i (i (i (i z)))))) (Gd.on (o (i (i (i (i z))))) true) [],
   .mk (ldR false 1 (X.t (i (i (i (i (i z))))))) (.some (o (o (o (o (o (o z))))))) (Gd.on (o (i (i (i (i z))))) true) [],
   .mk (binR Tryz.prog EK.no .none true BinOp.neq (X.t (o (o (o (o (o (o z))))))) (X.c (AV.str []))) (.some (i (o (o (o (o (o z))))))) (Gd.on (o (i (i (i (i z))))) true) [],
   .mk (pickR (X.t (o (i (i (i (i z)))))) (X.t (i (o (o (o (o (o z))))))) (X.c (AV.bool false))) (.some (o (i (o (o (o (o z))))))) Gd.no [],
   .mk (mvR (X.t (o (i (o (o (o (o z)))))))) (.some (i (o (i (o (i z)))))) Gd.no []])
  (.cond (X.t (i (o (i (o (i z))))))
  .skip
  (.seq (.region [.mk (faR 3 (X.t (o z))) (.some (i (i (o (o (o (o z))))))) Gd.no [],
   .mk (ldR false 1 (X.t (i (i (o (o (o (o z)))))))) (.some (o (o (i (o (o (o z))))))) Gd.no [],
   .mk (lenR LnK.str (X.t (o (o (i (o (o (o z)))))))) (.some (i (o (i (o (o (o z))))))) Gd.no [],
   .mk (binR Tryz.prog EK.no .none true BinOp.gtr (X.t (i (o (i (o (o (o z))))))) (X.c (AV.int .i64 40))) (.some (o (i (i (o (o (o z))))))) Gd.no [],
   .mk (mvR (X.t (o (i (i (o (o (o z)))))))) (.some (i (o (i (o (i z)))))) Gd.no []])
  (.cond (X.t (i (o (i (o (i z))))))
  .skip
  (.region [.mk (faR 4 (X.t (o z))) (.some (i (i (i (o (o (o z))))))) Gd.no [],
   .mk (ldR false 1 (X.t (i (i (i (o (o (o z)))))))) (.some (o (o (o (i (o (o z))))))) Gd.no [],
   .mk (binR Tryz.prog EK.no .none true BinOp.lss (X.t (o (o (o (i (o (o z))))))) (X.c (AV.int .i64 0))) (.some (i (o (o (i (o (o z))))))) Gd.no [],
   .mk (mvR (X.t (i (o (o (i (o (o z)))))))) (.some (i (o (i (o (i z)))))) Gd.no []])))))
  (.cond (X.t (i (o (i (o (i z))))))
  (.seq (.region [.mk (mvR (X.c (AV.bool false))) (.some (i z)) Gd.no []])
  .ret)
  (.seq (.seq (.region [.mk (faR 0 (X.t (o z))) (.some (i (i (o (i (o (o z))))))) Gd.no [],
   .mk (ldR false 1 (X.t (i (i (o (i (o (o z)))))))) (.some (o (o (i (i (o (o z))))))) Gd.no [],
   .mk (binR Tryz.prog EK.no .none true BinOp.eql (X.t (o (o (i (i (o (o z))))))) (X.c (AV.int .i64 4))) (.some (i (o (i (i (o (o z))))))) Gd.no [],
   .mk (mvR (X.t (i (o (i (i (o (o z)))))))) (.some (o (i (i (i (o (o z))))))) Gd.no [],
   .mk (faR 4 (X.t (o z))) (.some (i (i (i (i (o (o z))))))) (Gd.on (o (i (i (i (o (o z)))))) true) [],
   .mk (ldR false 1 (X.t (i (i (i (i (o (o z)))))))) (.some (o (o (o (o (i (o z))))))) (Gd.on (o (i (i (i (o (o z)))))) true) [],
   .mk (binR Tryz.prog EK.no .none true BinOp.gtr (X.t (o (o (o (o (i (o z))))))) (X.c (AV.int .i64 1000000000000))) (.some (i (o (o (o (i (o z))))))) (Gd.on (o (i (i (i (o (o z)))))) true) [],
   .mk (pickR (X.t (o (i (i (i (o (o z))))))) (X.t (i (o (o (o (i (o z))))))) (X.c (AV.bool false))) (.some (o (i (o (o (i (o z))))))) Gd.no [],
   .mk (mvR (X.t (o (i (o (o (i (o z)))))))) (.some (o (i (o (i (o (o z))))))) Gd.no []])
  (.cond (X.t (o (i (o (i (o (o z)))))))
  .skip
  (.region [.mk (faR 0 (X.t (o z))) (.some (i (i (o (o (i (o z))))))) Gd.no [],
   .mk (ldR false 1 (X.t (i (i (o (o (i (o z)))))))) (.some (o (o (i (o (i (o z))))))) Gd.no [],
   .mk (binR Tryz.prog EK.no .none true BinOp.eql (X.t (o (o (i (o (i (o z))))))) (X.c (AV.int .i64 7))) (.some (i (o (i (o (i (o z))))))) Gd.no [],
   .mk (mvR (X.t (i (o (i (o (i (o z)))))))) (.some (o (i (i (o (i (o z))))))) Gd.no [],
   .mk (faR 4 (X.t (o z))) (.some (i (i (i (o (i (o z))))))) (Gd.on (o (i (i (o (i (o z)))))) true) [],
   .mk (ldR false 1 (X.t (i (i (i (o (i (o z)))))))) (.some (o (o (o (i (i (o z))))))) (Gd.on (o (i (i (o (i (o z)))))) true) [],
   .mk (binR Tryz.prog EK.no .none true BinOp.gtr (X.t (o (o (o (i (i (o z))))))) (X.c (AV.int .i64 24))) (.some (i (o (o (i (i (o z))))))) (Gd.on (o (i (i (o (i (o z)))))) true) [],
   .mk (pickR (X.t (o (i (i (o (i (o z))))))) (X.t (i (o (o (i (i (o z))))))) (X.c (AV.bool false))) (.some (o (i (o (i (i (o z))))))) Gd.no [],
   .mk (mvR (X.t (o (i (o (i (i (o z)))))))) (.some (o (i (o (i (o (o z))))))) Gd.no []])))
  (.cond (X.t (o (i (o (i (o (o z)))))))
  (.seq (.region [.mk (mvR (X.c (AV.bool false))) (.some (i z)) Gd.no []])
  .ret)
  (.seq (.seq (.region [.mk (faR 0 (X.t (o z))) (.some (o (o (i (i (i (o z))))))) Gd.no [],
   .mk (ldR false 1 (X.t (o (o (i (i (i (o z)))))))) (.some (i (o (i (i (i (o z))))))) Gd.no [],
   .mk (binR Tryz.prog EK.no .none true BinOp.neq (X.t (i (o (i (i (i (o z))))))) (X.c (AV.int .i64 4))) (.some (o (i (i (i (i (o z))))))) Gd.no [],
   .mk (mvR (X.t (o (i (i (i (i (o z)))))))) (.some (i (i (i (i (i (o z))))))) Gd.no [],
   .mk (faR 0 (X.t (o z))) (.some (o (o (o (o (o (i z))))))) (Gd.on (i (i (i (i (i (o z)))))) true) [],
   .mk (ldR false 1 (X.t (o (o (o (o (o (i z)))))))) (.some (i (o (o (o (o (i z))))))) (Gd.on (i (i (i (i (i (o z)))))) true) [],
   .mk (binR Tryz.prog EK.no .none true BinOp.neq (X.t (i (o (o (o (o (i z))))))) (X.c (AV.int .i64 7))) (.some (o (i (o (o (o (i z))))))) (Gd.on (i (i (i (i (i (o z)))))) true) [],
   .mk (pickR (X.t (i (i (i (i (i (o z))))))) (X.t (o (i (o (o (o (i z))))))) (X.c (AV.bool false))) (.some (i (i (o (o (o (i z))))))) Gd.no [],
   .mk (mvR (X.t (i (i (o (o (o (i z)))))))) (.some (o (o (i (o (o (i z))))))) Gd.no [],
   .mk (faR 4 (X.t (o z))) (.some (i (o (i (o (o (i z))))))) (Gd.on (o (o (i (o (o (i z)))))) true) [],
   .mk (ldR false 1 (X.t (i (o (i (o (o (i z)))))))) (.some (o (i (i (o (o (i z))))))) (Gd.on (o (o (i (o (o (i z)))))) true) [],
   .mk (binR Tryz.prog EK.no .none true BinOp.neq (X.t (o (i (i (o (o (i z))))))) (X.c (AV.int .i64 0))) (.some (i (i (i (o (o (i z))))))) (Gd.on (o (o (i (o (o (i z)))))) true) [],
   .mk (pickR (X.t (o (o (i (o (o (i z))))))) (X.t (i (i (i (o (o (i z))))))) (X.c (AV.bool false))) (.some (o (o (o (i (o (i z))))))) Gd.no [],
   .mk (mvR (X.t (o (o (o (i (o (i z)))))))) (.some (i (i (o (i (i (o z))))))) Gd.no []])
  (.cond (X.t (i (i (o (i (i (o z)))))))
  .skip
  (.region [.mk (faR 0 (X.t (o z))) (.some (i (o (o (i (o (i z))))))) Gd.no [],
   .mk (ldR false 1 (X.t (i (o (o (i (o (i z)))))))) (.some (o (i (o (i (o (i z))))))) Gd.no [],
   .mk (binR Tryz.prog EK.no .none true BinOp.neq (X.t (o (i (o (i (o (i z))))))) (X.c (AV.int .i64 6))) (.some (i (i (o (i (o (i z))))))) Gd.no [],
   .mk (mvR (X.t (i (i (o (i (o (i z)))))))) (.some (o (o (i (i (o (i z))))))) Gd.no [],
   .mk (faR 5 (X.t (o z))) (.some (i (o (i (i (o (i z))))))) (Gd.on (o (o (i (i (o (i z)))))) true) [],
   .mk (ldR false 1 (X.t (i (o (i (i (o (i z)))))))) (.some (o (i (i (i (o (i z))))))) (Gd.on (o (o (i (i (o (i z)))))) true) [],
   .mk (lenR LnK.slice (X.t (o (i (i (i (o (i z)))))))) (.some (i (i (i (i (o (i z))))))) (Gd.on (o (o (i (i (o (i z)))))) true) [],
   .mk (binR Tryz.prog EK.no .none true BinOp.gtr (X.t (i (i (i (i (o (i z))))))) (X.c (AV.int .i64 0))) (.some (o (o (o (o (i (i z))))))) (Gd.on (o (o (i (i (o (i z)))))) true) [],
   .mk (pickR (X.t (o (o (i (i (o (i z))))))) (X.t (o (o (o (o (i (i z))))))) (X.c (AV.bool false))) (.some (i (o (o (o (i (i z))))))) Gd.no [],
   .mk (mvR (X.t (i (o (o (o (i (i z)))))))) (.some (i (i (o (i (i (o z))))))) Gd.no []])))
  (.cond (X.t (i (i (o (i (i (o z)))))))
  (.seq (.region [.mk (mvR (X.c (AV.bool false))) (.some (i z)) Gd.no []])
  .ret)
  .skip)))))))))
  (.seq (.region [.mk (faR 0 (X.t (o z))) (.some (o (i (o (o (i (i z))))))) Gd.no [],
   .mk (ldR false 1 (X.t (o (i (o (o (i (i z)))))))) (.some (i (i (o (o (i (i z))))))) Gd.no [],
   .mk (binR Tryz.prog EK.no .none true BinOp.neq (X.t (i (i (o (o (i (i z))))))) (X.c (AV.int .i64 6))) (.some (o (o (i (o (i (i z))))))) Gd.no [],
   .mk (mvR (X.t (o (o (i (o (i (i z)))))))) (.some (i (o (i (o (i (i z))))))) Gd.no [],
   .mk (faR 5 (X.t (o z))) (.some (o (i (i (o (i (i z))))))) (Gd.on (i (o (i (o (i (i z)))))) false) [],
   .mk (ldR false 1 (X.t (o (i (i (o (i (i z)))))))) (.some (i (i (i (o (i (i z))))))) (Gd.on (i (o (i (o (i (i z)))))) false) [],
   .mk (callS Tryz.prog 131 [(X.t (i (i (i (o (i (i z)))))))]) (.some (o (o (o (i (i (i z))))))) (Gd.on (i (o (i (o (i (i z)))))) false) [],
   .mk (pickR (X.t (i (o (i (o (i (i z))))))) (X.c (AV.bool true)) (X.t (o (o (o (i (i (i z)))))))) (.some (i (o (o (i (i (i z))))))) Gd.no [],
   .mk (mvR (X.t (i (o (o (i (i (i z)))))))) (.some (i z)) Gd.no []])
  .ret))))
theorem C92ok : (match Tryz.f92.body with | some c => comp Tryz.prog 121 c | none => none) = some C92 := by kernel_rfl
@[go_sem] theorem call92 (args : List AV) (H : Heap) : callC Tryz.prog 92 args H = .call 92 args := callC_ok (by kernel_rfl) args H
theorem R92ok : resKs Tryz.prog Tryz.f92.results.toList = some [(RK.tmp (i z))] := by kernel_rfl

noncomputable def C94 : CC :=
  (.seq (.region [.mk (boxR false (X.t z)) (.some (i (o z))) Gd.no [],
   .mk (fun _ H => newC false [(AV.int .i64 0), (AV.int .i64 0), (AV.str []), (AV.str []), (AV.bool false), AV.nils, AV.nils, AV.nils] H) (.some (i (o (o z)))) Gd.no [],
   .mk (fun _ H => newC false [(AV.int .i64 0), (AV.str []), (AV.int .i64 0), AV.nils] H) (.some (o (i (o z)))) Gd.no []])
  (.seq (.region [.mk (faR 5 (X.t (i (o z)))) (.some (i (o (o (o z))))) Gd.no [],
   .mk (ldR false 1 (X.t (i (o (o (o z)))))) (.some (o (i (o (o z))))) Gd.no [],
   .mk (mvR (X.t (o z))) (.some (i (i (o (o z))))) Gd.no [],
   .mk (callS Tryz.prog 85 [(X.t (o (i (o (o z))))), (X.t (i (i (o (o z)))))]) (.some (o (o (i (o z))))) Gd.no [],
   .mk (mvR (X.t (o (o (i (o z)))))) (.some (o (o (o (o z))))) Gd.no [],
   .mk (extR (X.t (o (o (o (o z))))) 0) (.some (i (o (i (o z))))) Gd.no [],
   .mk (extR (X.t (o (o (o (o z))))) 1) (.some (o (i (i (o z))))) Gd.no [],
   .mk (fun _ H => newC false [(AV.str []), (AV.str []), (AV.int .i64 0), (AV.bool false), (AV.int .i64 0)] H) (.some (i (i (o z)))) Gd.no [],
   .mk (stR 5 (X.t (i (i (o z)))) (X.t (i (o (i (o z)))))) .none Gd.no [],
   .mk (mvR (X.t (o (i (i (o z)))))) (.some (o (o (i z)))) Gd.no []])
  (.seq (.region [.mk (ldR true 5 (X.t (i (i (o z))))) (.some (i (i (i (o z))))) Gd.no [],
   .mk (buildR [(AV.str []), (AV.int .i64 0), (AV.str []), (AV.bool false)] []) (.some (o (o (o (i z))))) Gd.no [],
   .mk (fun _ H => newC false [(AV.str []), (AV.str []), (AV.int .i64 0), (AV.bool false), (AV.int .i64 0)] H) (.some (i (o (i z)))) Gd.no [],
   .mk (fun _ H => newC false [(AV.str []), (AV.int .i64 0), (AV.str []), (AV.bool false)] H) (.some (o (i (i z)))) Gd.no [],
   .mk (stR 5 (X.t (i (o (i z)))) (X.t (i (i (i (o z)))))) .none Gd.no [],
   .mk (stR 4 (X.t (o (i (i z)))) (X.t (o (o (o (i z)))))) .none Gd.no [],
   .mk (mvR (X.c (AV.int .i64 0))) (.some (i (i (i z)))) Gd.no []])
  (.seq (.seq (.region [.mk (mvR (X.t (o (o z)))) (.some (i (o (o (i z))))) Gd.no []])
  (.cond (X.t (i (o (o (i z)))))
  (.region [.mk (ldR true 5 (X.t (i (i (o z))))) (.some (i (i (o (i z))))) Gd.no [],
   .mk (callS Tryz.prog 132 [(X.t (i (i (o (i z)))))]) (.some (o (o (i (i z))))) Gd.no [],
   .mk (mvR (X.t (o (o (i (i z)))))) (.some (o (i (o (i z))))) Gd.no [],
   .mk (extR (X.t (o (i (o (i z))))) 0) (.some (i (o (i (i z))))) Gd.no [],
   .mk (extR (X.t (o (i (o (i z))))) 1) (.some (o (i (i (i z))))) Gd.no [],
   .mk (extR (X.t (o (i (o (i z))))) 2) (.some (i (i (i (i z))))) Gd.no [],
   .mk (stR 5 (X.t (i (o (i z)))) (X.t (i (o (i (i z)))))) .none Gd.no [],
   .mk (stR 4 (X.t (o (i (i z)))) (X.t (o (i (i (i z)))))) .none Gd.no [],
   .mk (mvR (X.t (i (i (i (i z)))))) (.some (i (i (i z)))) Gd.no []])
  (.region [.mk (ldR true 5 (X.t (i (i (o z))))) (.some (i (o (o (o (o z)))))) Gd.no [],
   .mk (mvR (X.t (i z))) (.some (o (i (o (o (o z)))))) Gd.no [],
   .mk (callS Tryz.prog 133 [(X.t (i (o (o (o (o z)))))), (X.t (o (i (o (o (o z))))))]) (.some (i (i (o (o (o z)))))) Gd.no [],
   .mk (mvR (X.t (i (i (o (o (o z))))))) (.some (o (o (o (o (o z)))))) Gd.no [],
   .mk (extR (X.t (o (o (o (o (o z)))))) 0) (.some (o (o (i (o (o z)))))) Gd.no [],
   .mk (extR (X.t (o (o (o (o (o z)))))) 1) (.some (i (o (i (o (o z)))))) Gd.no [],
   .mk (extR (X.t (o (o (o (o (o z)))))) 2) (.some (o (i (i (o (o z)))))) Gd.no [],
   .mk (stR 5 (X.t (i (o (i z)))) (X.t (o (o (i (o (o z))))))) .none Gd.no [],
   .mk (stR 4 (X.t (o (i (i z)))) (X.t (i (o (i (o (o z))))))) .none Gd.no [],
   .mk (mvR (X.t (o (i (i (o (o z))))))) (.some (i (i (i z)))) Gd.no []])))
  (.seq (.seq (.region [.mk (mvR (X.t (i (i (i z))))) (.some (i (i (i (o (o z)))))) Gd.no [],
   .mk (binR Tryz.prog EK.no .none true BinOp.neq (X.t (i (i (i (o (o z)))))) (X.c (AV.int .i64 0))) (.some (o (o (o (i (o z)))))) Gd.no []])
  (.cond (X.t (o (o (o (i (o z))))))
  (.seq (.regionD [.mk (keepH (faR 2 (X.t (i (i (o z)))))) (.some (i (i (o (i (o z)))))) Gd.no [],
   .mk (keepH (ldR false 1 (X.t (i (i (o (i (o z)))))))) (.some (o (o (i (i (o z)))))) Gd.no [],
   .mk (keepH (mvR (X.t (i (i (i z)))))) (.some (o (i (o (i (o z)))))) Gd.no [],
   .mk (keepH (buildR [(AV.int .i64 0), (AV.str []), (AV.int .i64 0), AV.nils] [(0, (1, (X.t (o (i (o (i (o z)))))))), (2, (1, (X.t (o (o (i (i (o z))))))))])) (.some (i (o (i (i (o z)))))) Gd.no [],
   .mk (keepH (ldR true 8 (X.t (i (o z))))) (.some (i (o (o (i (o z)))))) Gd.no [],
   .mk (stR 8 (X.t (i (o (o z)))) (X.t (i (o (o (i (o z))))))) .none Gd.no [.mk (buildR [(AV.int .i64 0), (AV.str []), (AV.int .i64 0), AV.nils] [(0, (1, (X.t (o (i (o (i (o z)))))))), (2, (1, (X.t (o (o (i (i (o z))))))))]) (.some (i (o (i (i (o z)))))) Gd.no, .mk (mvR (X.t (i (i (i z))))) (.some (o (i (o (i (o z)))))) Gd.no, .mk (ldR false 1 (X.t (i (i (o (i (o z))))))) (.some (o (o (i (i (o z)))))) Gd.no, .mk (faR 2 (X.t (i (i (o z))))) (.some (i (i (o (i (o z)))))) Gd.no],
   .mk (stR 4 (X.t (o (i (o z)))) (X.t (i (o (i (i (o z))))))) .none Gd.no []])
  .ret)
  .skip))
  (.seq (.regionD [.mk (keepH (faR 2 (X.t (i (o (i z)))))) (.some (o (i (o (o (i z)))))) Gd.no [],
   .mk (keepH (ldR false 1 (X.t (o (i (o (o (i z)))))))) (.some (i (i (o (o (i z)))))) Gd.no [],
   .mk (keepH (buildR [(AV.int .i64 0), (AV.str []), (AV.int .i64 0), AV.nils] [(2, (1, (X.t (i (i (o (o (i z))))))))])) (.some (o (o (i (o (i z)))))) Gd.no [],
   .mk (keepH (ldR true 4 (X.t (o (i (i z)))))) (.some (o (o (o (o (i z)))))) Gd.no [],
   .mk (keepH (ldR true 5 (X.t (i (o (i z)))))) (.some (i (i (i (i (o z)))))) Gd.no [],
   .mk (keepH (ldR true 8 (X.t (i (o z))))) (.some (o (i (i (i (o z)))))) Gd.no [],
   .mk (callS Tryz.prog 134 [(X.t (o (i (i (i (o z)))))), (X.t (i (i (i (i (o z)))))), (X.t (o (o (o (o (i z))))))]) (.some (i (o (o (o (i z)))))) Gd.no [.mk (buildR [(AV.int .i64 0), (AV.str []), (AV.int .i64 0), AV.nils] [(2, (1, (X.t (i (i (o (o (i z))))))))]) (.some (o (o (i (o (i z)))))) Gd.no, .mk (ldR false 1 (X.t (o (i (o (o (i z))))))) (.some (i (i (o (o (i z)))))) Gd.no, .mk (faR 2 (X.t (i (o (i z))))) (.some (o (i (o (o (i z)))))) Gd.no],
   .mk (stR 8 (X.t (i (o (o z)))) (X.t (i (o (o (o (i z))))))) .none Gd.no [.mk (buildR [(AV.int .i64 0), (AV.str []), (AV.int .i64 0), AV.nils] [(2, (1, (X.t (i (i (o (o (i z))))))))]) (.some (o (o (i (o (i z)))))) Gd.no, .mk (ldR false 1 (X.t (o (i (o (o (i z))))))) (.some (i (i (o (o (i z)))))) Gd.no, .mk (faR 2 (X.t (i (o (i z))))) (.some (o (i (o (o (i z)))))) Gd.no],
   .mk (stR 4 (X.t (o (i (o z)))) (X.t (o (o (i (o (i z))))))) .none Gd.no []])
  .ret))))))
theorem C94ok : (match Tryz.f94.body with | some c => comp Tryz.prog 52 c | none => none) = some C94 := by kernel_rfl
@[go_sem] theorem call94 (args : List AV) (H : Heap) : callC Tryz.prog 94 args H = .call 94 args := callC_ok (by kernel_rfl) args H
theorem R94ok : resKs Tryz.prog Tryz.f94.results.toList = some [(RK.cell (i (o (o z))) true 8), (RK.cell (o (i (o z))) true 4)] := by kernel_rfl

@[go_sem] theorem call95 (args : List AV) (H : Heap) : callC Tryz.prog 95 args H = .call 95 args := callC_ok (by kernel_rfl) args H
@[go_sem] theorem call97 (args : List AV) (H : Heap) : callC Tryz.prog 97 args H = .call 97 args := callC_ok (by kernel_rfl) args H
end Go.Proofs
/- The laid-out code of the functions that are walked. Printed by a program. -/

set_option linter.all false
set_option maxRecDepth 100000
namespace Go.Proofs
open Go Go.Ev K
@[go_sem] theorem call131 (args : List AV) (H : Heap) : callC Tryz.prog 131 args H = .call 131 args := callC_ok (by kernel_rfl) args H
@[go_sem] theorem call132 (args : List AV) (H : Heap) : callC Tryz.prog 132 args H = .call 132 args := callC_ok (by kernel_rfl) args H
noncomputable def C133 : CC :=
  (.seq (.region [.mk (boxR false (X.t z)) (.some (i z)) Gd.no [],
   .mk (fun _ H => newC false [(AV.str []), (AV.str []), (AV.int .i64 0), (AV.bool false), (AV.int .i64 0)] H) (.some (i (o z))) Gd.no [],
   .mk (fun _ H => newC false [(AV.str []), (AV.int .i64 0), (AV.str []), (AV.bool false)] H) (.some (o (i z))) Gd.no [],
   .mk (mvR (X.c (AV.int .i64 0))) (.some (i (i z))) Gd.no []])
  (.seq (.seq (.region [.mk (mvR (X.t (o z))) (.some (o (i (o z)))) Gd.no [],
   .mk (lenR LnK.str (X.t (o (i (o z))))) (.some (i (i (o z)))) Gd.no [],
   .mk (binR Tryz.prog EK.no .none true BinOp.gtr (X.t (i (i (o z)))) (X.c (AV.int .i64 12))) (.some (o (o (i z)))) Gd.no []])
  (.cond (X.t (o (o (i z))))
  (.seq (.region [.mk (ldR true 5 (X.t (i z))) (.some (i (o (i z)))) Gd.no [],
   .mk (buildR [(AV.str []), (AV.int .i64 0), (AV.str []), (AV.bool false)] []) (.some (o (i (i z)))) Gd.no [],
   .mk (stR 5 (X.t (i (o z))) (X.t (i (o (i z))))) .none Gd.no [],
   .mk (stR 4 (X.t (o (i z))) (X.t (o (i (i z))))) .none Gd.no [],
   .mk (mvR (X.c (AV.int .i64 13))) (.some (i (i z))) Gd.no []])
  .ret)
  .skip))
  (.seq (.seq (.region [.mk (faR 2 (X.t (i z))) (.some (i (i (i z)))) Gd.no [],
   .mk (ldR false 1 (X.t (i (i (i z))))) (.some (o (o (o (o z))))) Gd.no [],
   .mk (binR Tryz.prog EK.no .none true BinOp.eql (X.t (o (o (o (o z))))) (X.c (AV.int .i64 1000000000000))) (.some (i (o (o (o z))))) Gd.no []])
  (.cond (X.t (i (o (o (o z)))))
  (.seq (.region [.mk (ldR true 5 (X.t (i z))) (.some (o (i (o (o z))))) Gd.no [],
   .mk (buildR [(AV.str []), (AV.int .i64 0), (AV.str []), (AV.bool false)] []) (.some (i (i (o (o z))))) Gd.no [],
   .mk (stR 5 (X.t (i (o z))) (X.t (o (i (o (o z)))))) .none Gd.no [],
   .mk (stR 4 (X.t (o (i z))) (X.t (i (i (o (o z)))))) .none Gd.no [],
   .mk (mvR (X.c (AV.int .i64 18))) (.some (i (i z))) Gd.no []])
  .ret)
  .skip))
  (.seq (.region [.mk (ldR true 5 (X.t (i z))) (.some (i (o (i (o z))))) Gd.no [],
   .mk (mvR (X.t (o z))) (.some (o (i (i (o z))))) Gd.no [],
   .mk (callS Tryz.prog 148 [(X.t (i (o (i (o z))))), (X.t (o (i (i (o z))))), (X.c (AV.bool false))]) (.some (i (i (i (o z))))) Gd.no [],
   .mk (mvR (X.t (i (i (i (o z)))))) (.some (o (o (i (o z))))) Gd.no [],
   .mk (extR (X.t (o (o (i (o z))))) 0) (.some (o (o (o (i z))))) Gd.no [],
   .mk (extR (X.t (o (o (i (o z))))) 1) (.some (i (o (o (i z))))) Gd.no [],
   .mk (fun _ H => newC false [(AV.str []), (AV.str []), (AV.int .i64 0), (AV.bool false), (AV.int .i64 0)] H) (.some (o (o (o z)))) Gd.no [],
   .mk (fun _ H => newC false [(AV.str []), (AV.int .i64 0), (AV.str []), (AV.bool false)] H) (.some (i (o (o z)))) Gd.no [],
   .mk (stR 5 (X.t (o (o (o z)))) (X.t (o (o (o (i z)))))) .none Gd.no [],
   .mk (stR 4 (X.t (i (o (o z)))) (X.t (i (o (o (i z)))))) .none Gd.no []])
  (.seq (.regionD [.mk (keepH (ldR true 4 (X.t (i (o (o z)))))) (.some (i (i (o (i z))))) Gd.no [],
   .mk (keepH (ldR true 5 (X.t (o (o (o z)))))) (.some (o (i (o (i z))))) Gd.no [],
   .mk (stR 5 (X.t (i (o z))) (X.t (o (i (o (i z)))))) .none Gd.no [.mk (ldR true 4 (X.t (i (o (o z))))) (.some (i (i (o (i z))))) Gd.no],
   .mk (stR 4 (X.t (o (i z))) (X.t (i (i (o (i z)))))) .none Gd.no [],
   .mk (mvR (X.c (AV.int .i64 0))) (.some (i (i z))) Gd.no []])
  .ret)))))
theorem C133ok : (match Tryz.f133.body with | some c => comp Tryz.prog 27 c | none => none) = some C133 := by kernel_rfl
@[go_sem] theorem call133 (args : List AV) (H : Heap) : callC Tryz.prog 133 args H = .call 133 args := callC_ok (by kernel_rfl) args H
theorem R133ok : resKs Tryz.prog Tryz.f133.results.toList = some [(RK.cell (i (o z)) true 5), (RK.cell (o (i z)) true 4), (RK.tmp (i (i z)))] := by kernel_rfl

noncomputable def C134 : CC :=
  (.seq (.region [.mk (boxR false (X.t z)) (.some (o (o z))) Gd.no [],
   .mk (boxR false (X.t (o z))) (.some (i (o z))) Gd.no [],
   .mk (boxR false (X.t (i z))) (.some (o (i z))) Gd.no [],
   .mk (fun _ H => newC false [(AV.int .i64 0), (AV.int .i64 0), (AV.str []), (AV.str []), (AV.bool false), AV.nils, AV.nils, AV.nils] H) (.some (i (i z))) Gd.no []])
  (.seq (.regionD [.mk (keepH (ldR true 4 (X.t (o (i z))))) (.some (i (i (i z)))) Gd.no [],
   .mk (keepH (ldR true 5 (X.t (i (o z))))) (.some (i (o (i z)))) Gd.no [],
   .mk (keepH (faR 5 (X.t (o (o z))))) (.some (i (i (o z)))) Gd.no [],
   .mk (keepH (ldR false 1 (X.t (i (i (o z)))))) (.some (o (o (i z)))) Gd.no [],
   .mk (keepH (faR 6 (X.t (o (o z))))) (.some (i (o (o z)))) Gd.no [],
   .mk (keepH (ldR false 1 (X.t (i (o (o z)))))) (.some (o (i (o z)))) Gd.no [],
   .mk (callS Tryz.prog 86 [(X.t (o (o (i z)))), (X.t (i (o (i z))))]) (.some (o (i (i z)))) Gd.no [.mk (ldR false 1 (X.t (i (o (o z))))) (.some (o (i (o z)))) Gd.no, .mk (faR 6 (X.t (o (o z)))) (.some (i (o (o z)))) Gd.no, .mk (ldR true 4 (X.t (o (i z)))) (.some (i (i (i z)))) Gd.no],
   .mk (callS Tryz.prog 149 [(X.t (o (i (o z)))), (X.t (o (i (i z)))), (X.t (i (i (i z)))), (X.c (AV.int .i64 24))]) (.some (o (o (o (o z))))) Gd.no [],
   .mk (keepH (mvR (X.t (o (o (o (o z))))))) (.some (o (o (o z)))) Gd.no [],
   .mk (keepH (extR (X.t (o (o (o z)))) 1)) (.some (o (i (o (o z))))) Gd.no [],
   .mk (keepH (extR (X.t (o (o (o z)))) 0)) (.some (i (o (o (o z))))) Gd.no [],
   .mk (keepH (faR 6 (X.t (o (o z))))) (.some (i (i (o (o z))))) Gd.no [],
   .mk (stR 1 (X.t (i (i (o (o z))))) (X.t (i (o (o (o z)))))) .none Gd.no [.mk (extR (X.t (o (o (o z)))) 1) (.some (o (i (o (o z))))) Gd.no],
   .mk (keepH (faR 5 (X.t (o (o z))))) (.some (o (o (i (o z))))) Gd.no [],
   .mk (stR 1 (X.t (o (o (i (o z))))) (X.t (o (i (o (o z)))))) .none Gd.no []])
  (.seq (.region [.mk (ldR true 8 (X.t (o (o z)))) (.some (i (o (i (o z))))) Gd.no [],
   .mk (stR 8 (X.t (i (i z))) (X.t (i (o (i (o z)))))) .none Gd.no []])
  .ret)))
theorem C134ok : (match Tryz.f134.body with | some c => comp Tryz.prog 21 c | none => none) = some C134 := by kernel_rfl
@[go_sem] theorem call134 (args : List AV) (H : Heap) : callC Tryz.prog 134 args H = .call 134 args := callC_ok (by kernel_rfl) args H
theorem R134ok : resKs Tryz.prog Tryz.f134.results.toList = some [(RK.cell (i (i z)) true 8)] := by kernel_rfl

noncomputable def C148 : CC :=
  (.seq (.region [.mk (boxR false (X.t z)) (.some (o (o z))) Gd.no [],
   .mk (fun _ H => newC false [(AV.str []), (AV.str []), (AV.int .i64 0), (AV.bool false), (AV.int .i64 0)] H) (.some (i (i z))) Gd.no [],
   .mk (fun _ H => newC false [(AV.str []), (AV.int .i64 0), (AV.str []), (AV.bool false)] H) (.some (o (o (o z)))) Gd.no []])
  (.seq (.region [.mk (faR 2 (X.t (o (o z)))) (.some (i (o (o z)))) Gd.no [],
   .mk (ldR false 1 (X.t (i (o (o z))))) (.some (o (i (o z)))) Gd.no [],
   .mk (binR Tryz.prog EK.no .none true BinOp.add (X.t (o (i (o z)))) (X.c (AV.int .i64 1))) (.some (i (i (o z)))) Gd.no [],
   .mk (mvR (X.t (o z))) (.some (o (o (i z)))) Gd.no [],
   .mk (mvR (X.t (i z))) (.some (i (o (i z)))) Gd.no [],
   .mk (faR 2 (X.t (o (o z)))) (.some (o (i (i z)))) Gd.no [],
   .mk (stR 1 (X.t (o (i (i z)))) (X.t (i (i (o z))))) .none Gd.no [],
   .mk (faR 1 (X.t (o (o z)))) (.some (i (i (i z)))) Gd.no [],
   .mk (stR 1 (X.t (i (i (i z)))) (X.t (o (o (i z))))) .none Gd.no [],
   .mk (faR 3 (X.t (o (o z)))) (.some (o (o (o (o z))))) Gd.no [],
   .mk (stR 1 (X.t (o (o (o (o z))))) (X.t (i (o (i z))))) .none Gd.no []])
  (.seq (.regionD [.mk (keepH (mvR (X.t (i z)))) (.some (i (i (i (o z))))) Gd.no [],
   .mk (keepH (mvR (X.t (o z)))) (.some (o (i (i (o z))))) Gd.no [],
   .mk (keepH (faR 2 (X.t (o (o z))))) (.some (o (o (i (o z))))) Gd.no [],
   .mk (keepH (ldR false 1 (X.t (o (o (i (o z))))))) (.some (i (o (i (o z))))) Gd.no [],
   .mk (keepH (faR 0 (X.t (o (o z))))) (.some (o (i (o (o z))))) Gd.no [],
   .mk (keepH (ldR false 1 (X.t (o (i (o (o z))))))) (.some (i (i (o (o z))))) Gd.no [],
   .mk (keepH (buildR [(AV.str []), (AV.int .i64 0), (AV.str []), (AV.bool false)] [(0, (1, (X.t (i (i (o (o z))))))), (1, (1, (X.t (i (o (i (o z))))))), (2, (1, (X.t (o (i (i (o z))))))), (3, (1, (X.t (i (i (i (o z)))))))])) (.some (o (o (o (i z))))) Gd.no [],
   .mk (keepH (ldR true 5 (X.t (o (o z))))) (.some (i (o (o (o z))))) Gd.no [],
   .mk (stR 5 (X.t (i (i z))) (X.t (i (o (o (o z)))))) .none Gd.no [.mk (buildR [(AV.str []), (AV.int .i64 0), (AV.str []), (AV.bool false)] [(0, (1, (X.t (i (i (o (o z))))))), (1, (1, (X.t (i (o (i (o z))))))), (2, (1, (X.t (o (i (i (o z))))))), (3, (1, (X.t (i (i (i (o z)))))))]) (.some (o (o (o (i z))))) Gd.no, .mk (ldR false 1 (X.t (o (i (o (o z)))))) (.some (i (i (o (o z))))) Gd.no, .mk (faR 0 (X.t (o (o z)))) (.some (o (i (o (o z))))) Gd.no, .mk (ldR false 1 (X.t (o (o (i (o z)))))) (.some (i (o (i (o z))))) Gd.no, .mk (faR 2 (X.t (o (o z)))) (.some (o (o (i (o z))))) Gd.no, .mk (mvR (X.t (o z))) (.some (o (i (i (o z))))) Gd.no, .mk (mvR (X.t (i z))) (.some (i (i (i (o z))))) Gd.no],
   .mk (stR 4 (X.t (o (o (o z)))) (X.t (o (o (o (i z)))))) .none Gd.no []])
  .ret)))
theorem C148ok : (match Tryz.f148.body with | some c => comp Tryz.prog 24 c | none => none) = some C148 := by kernel_rfl
@[go_sem] theorem call148 (args : List AV) (H : Heap) : callC Tryz.prog 148 args H = .call 148 args := callC_ok (by kernel_rfl) args H
theorem R148ok : resKs Tryz.prog Tryz.f148.results.toList = some [(RK.cell (i (i z)) true 5), (RK.cell (o (o (o z))) true 4)] := by kernel_rfl

noncomputable def C149 : CC :=
  (.seq (.region [.mk (boxR false (X.t (i z))) (.some (i (i z))) Gd.no [],
   .mk (mvR (X.c AV.nils)) (.some (i (o (o z)))) Gd.no [],
   .mk (mvR (X.c AV.nils)) (.some (o (i (o z)))) Gd.no []])
  (.seq (.regionD [.mk (keepH (mvR (X.t (o (o z))))) (.some (i (o (o (o z))))) Gd.no [],
   .mk (keepH (mvR (X.t (o z)))) (.some (o (o (o (o z))))) Gd.no [],
   .mk (keepH (ldR true 4 (X.t (i (i z))))) (.some (i (o (i z)))) Gd.no [],
   .mk (addH (bslR 4 1 [(AV.str []), (AV.int .i64 0), (AV.str []), (AV.bool false)] [(0, (X.t (i (o (i z)))))])) (.some (o (i (i z)))) Gd.no [.mk (ldR true 4 (X.t (i (i z)))) (.some (i (o (i z)))) Gd.no, .mk (mvR (X.t (o z))) (.some (o (o (o (o z))))) Gd.no, .mk (mvR (X.t (o (o z)))) (.some (i (o (o (o z))))) Gd.no],
   .mk (keepH (mvR (X.t z))) (.some (i (i (o z)))) Gd.no [],
   .mk (appR 4 48 (X.c AV.nils) (X.t (i (i (o z))))) (.some (o (o (i z)))) Gd.no [.mk (ldR true 4 (X.t (i (i z)))) (.some (i (o (i z)))) Gd.no, .mk (mvR (X.t (o z))) (.some (o (o (o (o z))))) Gd.no, .mk (mvR (X.t (o (o z)))) (.some (i (o (o (o z))))) Gd.no],
   .mk (appR 4 48 (X.t (o (o (i z)))) (X.t (o (i (i z))))) (.some (i (i (i z)))) Gd.no [.mk (mvR (X.t (o z))) (.some (o (o (o (o z))))) Gd.no, .mk (mvR (X.t (o (o z)))) (.some (i (o (o (o z))))) Gd.no],
   .mk (callS Tryz.prog 43 [(X.t (i (i (i z)))), (X.t (o (o (o (o z))))), (X.t (i (o (o (o z)))))]) (.some (o (i (o (o z))))) Gd.no [],
   .mk (keepH (extR (X.t (o (i (o (o z))))) 1)) (.some (o (o (i (o z))))) Gd.no [],
   .mk (keepH (extR (X.t (o (i (o (o z))))) 0)) (.some (i (i (o (o z))))) Gd.no [],
   .mk (mvR (X.t (i (i (o (o z)))))) (.some (i (o (o z)))) Gd.no [],
   .mk (mvR (X.t (o (o (i (o z)))))) (.some (o (i (o z)))) Gd.no []])
  .ret))
theorem C149ok : (match Tryz.f149.body with | some c => comp Tryz.prog 20 c | none => none) = some C149 := by kernel_rfl
@[go_sem] theorem call149 (args : List AV) (H : Heap) : callC Tryz.prog 149 args H = .call 149 args := callC_ok (by kernel_rfl) args H
theorem R149ok : resKs Tryz.prog Tryz.f149.results.toList = some [(RK.tmp (i (o (o z)))), (RK.tmp (o (i (o z))))] := by kernel_rfl

end Go.Proofs
/- the document's next cell, Put, Add: walked. -/




set_option linter.all false
set_option linter.all false
set_option maxRecDepth 100000
namespace Go.Proofs
open Go Go.Ev
variable {H : Heap}

theorem f148_ok {c : Cell} (h1 : 0 ≤ c.ver) (h2 : c.ver ≤ 1000000000000) (v : List Nat) (d : Bool) : FnOk Tryz.prog 148 [.agg c.enc, .str v, .bool d] H fun r G => r = .tup [.agg (Cell.enc ⟨c.key, v, c.ver + 1, d, c.floor⟩), .agg (Evn.enc ⟨c.key, c.ver + 1, v, d⟩)] ∧ G = H := by
  refine FnOk.drop (R := fun r => r = .tup [.agg (Cell.enc ⟨c.key, v, c.ver + 1, d, c.floor⟩), .agg (Evn.enc ⟨c.key, c.ver + 1, v, d⟩)]) ?_ (by rintro v rfl ρ; simp only [AV.ren, AV.rens, Cell.rens, Evn.rens])
  refine FnOk.of_WW Tryz.func148 rfl C148ok R148ok E0 good_E0 ?_
  have hw : IntKind.i64.wrap (c.ver + 1) = c.ver + 1 := wrap_i64 (by omega) (by omega)
  simp only [go_sem, C148, Cell.enc, hw]
  exact ⟨rfl, _, rfl⟩
theorem f133_ok {c : Cell} (h1 : 0 ≤ c.ver) (h2 : c.ver < 1000000000000) {v : List Nat} (hv : (v.length : Int) ≤ 12) : FnOk Tryz.prog 133 [.agg c.enc, .str v] H fun r G => r = .tup [.agg (Cell.enc ⟨c.key, v, c.ver + 1, false, c.floor⟩), .agg (Evn.enc ⟨c.key, c.ver + 1, v, false⟩), .int .i64 0] ∧ G = H := by
  refine FnOk.drop (R := fun r => r = .tup [.agg (Cell.enc ⟨c.key, v, c.ver + 1, false, c.floor⟩), .agg (Evn.enc ⟨c.key, c.ver + 1, v, false⟩), .int .i64 0]) ?_ (by rintro v rfl ρ; simp only [AV.ren, AV.rens, Cell.rens, Evn.rens])
  refine FnOk.of_WW Tryz.func133 rfl C133ok R133ok E0 good_E0 ?_
  have z1 := eq_false (show ¬ (12 : Int) < (v.length : Int) by omega)
  have z2 := eq_false (show ¬ c.ver = 1000000000000 by omega)
  simp only [go_sem, C133, Cell.enc, z1, z2]
  refine CL.of (f148_ok (c := c) h1 (by omega) v false) ?_
  rintro _ _ ⟨rfl, rfl⟩
  simp only [go_sem, Cell.enc, Evn.enc]
  exact ⟨_, rfl⟩
theorem rho_two {H : Heap} (top a b : Nat) : rho H top [a, b] (H.key 0) = H.key a ∧ rho H top [a, b] (H.key 1) = H.key b := ⟨rho_key rfl, rho_key rfl⟩
theorem get_two {α : Type} (l : List α) (a b : α) : (l ++ [a, b])[l.length]? = some a ∧ (l ++ [a, b])[l.length + 1]? = some b := by
  constructor
  · rw [List.getElem?_append_right (Nat.le_refl _), Nat.sub_self]; rfl
  · rw [List.getElem?_append_right (by omega), Nat.add_sub_cancel_left]; rfl
theorem f149_ok {v u : AV} {l : List Evn} {cs : List Cell} (hA : Arr H 4 v (l.map Evn.enc)) (hB : Arr H 5 u (cs.map Cell.enc)) (hl : l.length < 10000) (hc : cs.length < 10000) {e : Evn} (hI : isHist (l ++ [e]) cs) :
    FnOk Tryz.prog 149 [v, u, .agg e.enc, .int .i64 24] H fun r G => r = .tup [outV (H.key 1) 4 ((l ++ [e]).drop ((l ++ [e]).length - 24)).length, seV (decide (0 < (l ++ [e]).length - 24)) u (H.key 0) 5 cs.length] ∧ G = H.ext [seB (decide (0 < (l ++ [e]).length - 24)) 5 ((keepC ((l ++ [e]).take ((l ++ [e]).length - 24)) cs).map Cell.enc), outB 4 (((l ++ [e]).drop ((l ++ [e]).length - 24)).map Evn.enc)] := by
  refine FnOk.assume fun hok => ?_
  refine FnOk.dropW ?_
  obtain ⟨es, hes⟩ : ∃ es, es = l ++ [e] := ⟨_, rfl⟩
  rw [← hes]
  refine FnOk.of_WW Tryz.func149 rfl C149ok R149ok EJ good_EJ ?_
  have uren := hB.ren
  simp only [go_sem, C149, Evn.enc, ↓appR_hide2, ↓appR_hide]
  obtain ⟨G0, hG0⟩ : ∃ G0, G0 = H.ext [.row true 4 [[.str e.key, .int .i64 e.ver, .str e.val, .bool e.del]], .row true 4 [[.str e.key, .int .i64 e.ver, .str e.val, .bool e.del]]] := ⟨_, rfl⟩
  have hok0 : G0.ok := by rw [hG0]; exact Heap.ok_ext hok _
  have b0 : G0.get (H.key 0) = some (.row true 4 [e.enc]) := by rw [hG0, Heap.get_ext_key _ _ _ (by exact (show 0 < 2 by decide))]; rfl
  have hw0 : Arr G0 4 (.slice (H.key 1) 0 1 4 true 1) ([e].map Evn.enc) := by rw [hG0]; exact arr_row (i := 1) rfl rfl
  have hv0 : Arr G0 4 v (l.map Evn.enc) := by rw [hG0]; exact hA.ext _
  have hu0 : Arr G0 5 u (cs.map Cell.enc) := by rw [hG0]; exact hB.ext _
  have hB0 : ∃ L, G0 = H.ext L := ⟨_, hG0⟩
  rw [← hG0]
  obtain ⟨v1, G1, v2, G2, a1, a2, hok1, hok2, ⟨L1, hL1⟩, ⟨L2, hL2⟩, kx, hv2, hA2⟩ := app_open (bytes := 48) hok0 (by decide) hv0 hw0 (okBig_le (by rw [List.length_map, List.length_map]; show l.length + 1 ≤ _; omega) (by decide))
  rw [← List.map_append, List.length_map] at hv2
  rw [← List.map_append] at hA2
  rw [a1]
  have r0 : ∀ L, (G1.ext L).get (H.key 0) = some (.row true 4 [e.enc]) := fun L => by rw [hL1, Heap.ext_append]; exact Heap.get_ext_old hok0 b0 _
  simp only [go_sem, r0, Evn.enc, ↓appR_hide2, ↓appR_hide]
  rw [a2, hv2]
  rw [hv2] at hA2
  have hel : es.length < 100000 := by rw [hes, List.length_append]; show l.length + 1 < _; omega
  rw [← hes] at hA2 hI
  rw [show (l ++ [e]).length = es.length by rw [hes]]
  have hu2 : Arr G2 5 u (cs.map Cell.enc) := by rw [hL2]; exact hu0.ext _
  have i43 := e43 hA2 hu2 hel (by omega) hI
  obtain ⟨L3, hL3⟩ : ∃ L, G2 = H.ext L := by obtain ⟨L, hL⟩ := hB0; exact ⟨_, by rw [hL2, hL, Heap.ext_append]⟩
  simp only [go_sem, i43]
  have k0 : G2.key 0 = H.key L3.length := by rw [hL3, Heap.key_ext]; rfl
  have k1 : G2.key 1 = H.key (L3.length + 1) := by rw [hL3, Heap.key_ext]
  rw [k0, k1, hL3]
  refine ⟨_, [L3.length, L3.length + 1], ?_, Heap.ext_append .., rfl, by simp, ?_⟩
  · rw [seV_ren (uren _ _), outV_ren', (rho_two _ _ _).1, (rho_two _ _ _).2]
  · simp only [go_sem, (get_two _ _ _).1, (get_two _ _ _).2, ↓seB_ren, Cell.map_rens, ↓outB_ren', Evn.map_rens, implies_true]
end Go.Proofs
/- the document's writes: walked. -/

set_option linter.all false
set_option linter.all false
set_option maxRecDepth 100000
namespace Go.Proofs
open Go Go.Ev
variable {H : Heap}

def A86 (H : Heap) (args : List AV) (q : List Cell × Cell) : Prop := ∃ v, args = [v, .agg q.2.enc] ∧ Arr H 5 v (q.1.map Cell.enc) ∧ q.1.length < 10000 ∧ cellIs q.2
def A149 (H : Heap) (args : List AV) (q : AV × List Evn × List Cell × Evn) : Prop := ∃ v, args = [v, q.1, .agg q.2.2.2.enc, .int .i64 24] ∧ Arr H 4 v (q.2.1.map Evn.enc) ∧ Arr H 5 q.1 (q.2.2.1.map Cell.enc) ∧ q.2.1.length < 10000 ∧ q.2.2.1.length < 10000 ∧ isHist (q.2.1 ++ [q.2.2.2]) q.2.2.1
noncomputable def ED (f : FuncId) (args : List AV) (H : Heap) : RC :=
  match f with
  | 86 => ot (A86 H args) fun q => .ok (outV H.nx 5 (refW q.1 q.2).length) (H.ext [outB 5 ((refW q.1 q.2).map Cell.enc)])
  | 149 => ot (A149 H args) fun q => .ok (.tup [outV (H.key 1) 4 ((q.2.1 ++ [q.2.2.2]).drop ((q.2.1 ++ [q.2.2.2]).length - 24)).length, seV (decide (0 < (q.2.1 ++ [q.2.2.2]).length - 24)) q.1 (H.key 0) 5 q.2.2.1.length]) (H.ext [seB (decide (0 < (q.2.1 ++ [q.2.2.2]).length - 24)) 5 ((keepC ((q.2.1 ++ [q.2.2.2]).take ((q.2.1 ++ [q.2.2.2]).length - 24)) q.2.2.1).map Cell.enc), outB 4 (((q.2.1 ++ [q.2.2.2]).drop ((q.2.1 ++ [q.2.2.2]).length - 24)).map Evn.enc)])
  | _ => .fail
theorem good_ED : Ev.Good Tryz.prog ED := by
  intro f args H r G he φ w args' ha hw
  refine (?_ : FnOk Tryz.prog f args H fun v' G' => v' = r ∧ G' = G).one φ w args' ha hw
  unfold ED at he
  split at he
  · obtain ⟨q, ⟨v, rfl, h1, h2, h3⟩, hz⟩ := ot_ok he
    clear he
    cases hz
    exact f86_at h1 (by omega) h3
  · obtain ⟨q, ⟨v, rfl, h1, h2, h3, h4, h5⟩, hz⟩ := ot_ok he
    clear he
    cases hz
    exact f149_ok h1 h2 h3 h4 h5
  · cases he
theorem e86 {v : AV} {l : List Cell} (hA : Arr H 5 v (l.map Cell.enc)) (hl : l.length < 10000) {c : Cell} (hc : cellIs c) (L : List Blk) :
    ED 86 [v, .agg [.str c.key, .str c.value, .int .i64 c.ver, .bool c.del, .int .i64 c.floor]] (H.ext L) = .ok (outV (H.key L.length) 5 (refW l c).length) (H.ext (L ++ [outB 5 ((refW l c).map Cell.enc)])) := by
  show ot (A86 (H.ext L) [v, .agg c.enc]) (fun q => .ok (outV (H.ext L).nx 5 (refW q.1 q.2).length) ((H.ext L).ext [outB 5 ((refW q.1 q.2).map Cell.enc)])) = _
  rw [ot_eq (p := A86 (H.ext L) [v, .agg c.enc]) (x := (l, c)) ⟨v, rfl, hA.ext L, hl, hc⟩, Heap.nx_ext, Heap.ext_append]
  rintro ⟨l', c'⟩ ⟨v', h1, h2, _⟩
  injection h1 with h1 h3
  injection h3 with h3 _
  injection h3 with h3
  dsimp only at h1 h2 h3
  subst h1
  rw [cells_uniq (hA.ext L) h2, Cell.enc_one h3]
theorem e149 {v u : AV} {l : List Evn} {cs : List Cell} {L : List Blk} (hA : Arr (H.ext L) 4 v (l.map Evn.enc)) (hB : Arr (H.ext L) 5 u (cs.map Cell.enc)) (hl : l.length < 10000) (hc : cs.length < 10000) {e : Evn} (hI : isHist (l ++ [e]) cs) :
    ED 149 [v, u, .agg [.str e.key, .int .i64 e.ver, .str e.val, .bool e.del], .int .i64 24] (H.ext L) = .ok (.tup [outV (H.key (L.length + 1)) 4 ((l ++ [e]).drop ((l ++ [e]).length - 24)).length, seV (decide (0 < (l ++ [e]).length - 24)) u (H.key L.length) 5 cs.length]) (H.ext (L ++ [seB (decide (0 < (l ++ [e]).length - 24)) 5 ((keepC ((l ++ [e]).take ((l ++ [e]).length - 24)) cs).map Cell.enc), outB 4 (((l ++ [e]).drop ((l ++ [e]).length - 24)).map Evn.enc)])) := by
  show ot (A149 (H.ext L) [v, u, .agg e.enc, .int .i64 24]) (fun q => .ok (.tup [outV ((H.ext L).key 1) 4 ((q.2.1 ++ [q.2.2.2]).drop ((q.2.1 ++ [q.2.2.2]).length - 24)).length, seV (decide (0 < (q.2.1 ++ [q.2.2.2]).length - 24)) q.1 ((H.ext L).key 0) 5 q.2.2.1.length]) ((H.ext L).ext [seB (decide (0 < (q.2.1 ++ [q.2.2.2]).length - 24)) 5 ((keepC ((q.2.1 ++ [q.2.2.2]).take ((q.2.1 ++ [q.2.2.2]).length - 24)) q.2.2.1).map Cell.enc), outB 4 (((q.2.1 ++ [q.2.2.2]).drop ((q.2.1 ++ [q.2.2.2]).length - 24)).map Evn.enc)])) = _
  rw [ot_eq (p := A149 (H.ext L) [v, u, .agg e.enc, .int .i64 24]) (x := (u, l, cs, e)) ⟨v, rfl, hA, hB, hl, hc, hI⟩, Heap.key_ext, Heap.key_ext, Heap.ext_append]
  · rfl
  rintro ⟨u', l', cs', e'⟩ ⟨v', h1, h2, h3, _⟩
  injection h1 with h1 h4
  injection h4 with h4 h5
  injection h5 with h5 _
  injection h5 with h5
  dsimp only at h1 h2 h3 h4 h5
  subst h1 h4
  rw [evs_uniq hA h2, cells_uniq hB h3, Evn.enc_one h5]
theorem keepC_nil (cs : List Cell) : keepC [] cs = cs := rfl
/-- a shard with a cell's next version -/
noncomputable def addS (s : Sh) (c : Cell) (e : Evn) (k0 k1 : K) : Sh := ⟨s.id, s.ep, s.fr, s.to, s.frz, keepC ((s.evs ++ [e]).take ((s.evs ++ [e]).length - 24)) (refW s.cells c), (s.evs ++ [e]).drop ((s.evs ++ [e]).length - 24), s.done, outV k0 5 (refW s.cells c).length, outV k1 4 ((s.evs ++ [e]).drop ((s.evs ++ [e]).length - 24)).length, s.dv⟩
noncomputable def addB (s : Sh) (c : Cell) (e : Evn) : List Blk := [outB 5 ((keepC ((s.evs ++ [e]).take ((s.evs ++ [e]).length - 24)) (refW s.cells c)).map Cell.enc), outB 4 (((s.evs ++ [e]).drop ((s.evs ++ [e]).length - 24)).map Evn.enc)]
theorem f134_ok {s : Sh} (h : s.ok H) (hel : s.evs.length < 10000) (hcl : s.cells.length < 10000) {c : Cell} {e : Evn} (hc : cellIs c) (hrl : (refW s.cells c).length < 10000) (hI : isHist (s.evs ++ [e]) (refW s.cells c)) :
    FnOk Tryz.prog 134 [.agg s.enc, .agg c.enc, .agg e.enc] H fun r G => r = .agg (addS s c e (H.key 0) (H.key 1)).enc ∧ G = H.ext (addB s c e) := by
  refine FnOk.assume fun hok => ?_
  refine FnOk.dropW ?_
  refine FnOk.of_WW Tryz.func134 rfl C134ok R134ok ED good_ED ?_
  have i86 := e86 h.c hcl hc
  have cren := h.c.ren
  have eren := h.e.ren
  have dren := h.d.ren
  obtain ⟨cs, hcs⟩ : ∃ cs, cs = refW s.cells c := ⟨_, rfl⟩
  have i149 := fun b0 b1 b2 b3 => e149 (H := H) (v := s.ev) (u := outV (H.key 4) 5 cs.length) (l := s.evs) (cs := cs) (L := [b0, b1, b2, b3, outB 5 (cs.map Cell.enc)]) (e := e) (h.e.ext _) (arr_outV (i := 4) rfl (List.length_map ..)) hel (by rw [hcs]; exact hrl) (by rw [hcs]; exact hI)
  unfold addS addB
  rw [← hcs] at i86 ⊢
  obtain ⟨es, hes⟩ : ∃ es, es = s.evs ++ [e] := ⟨_, rfl⟩
  rw [← hes] at i149 ⊢
  have q5 := fun c k n => one_se (u := outV (H.key 4) 5 cs.length) c k 5 n (one_o ..)
  have q6 := fun {β : Type} c k n (f : β) (d : List AV → β) => agg_se (u := outV (H.key 4) 5 cs.length) c k 5 n (fun {β} f c => agg_o (β := β) (H.key 4) 5 cs.length f c) f d
  simp only [go_sem, C134, Sh.enc, Cell.enc, Evn.enc, i86, i149, q5, q6]
  obtain ⟨n, hn⟩ : ∃ n, n = es.length - 24 := ⟨_, rfl⟩
  rw [← hn]
  by_cases hp : 0 < n
  · rw [decide_eq_true hp]
    exact ⟨_, [5, 6], by simp only [seV, outV_ren', dren, go_sem], rfl, rfl, by decide, by simp only [seB, go_sem, ↓outB_ren', Cell.map_rens, Evn.map_rens, implies_true]⟩
  · obtain rfl : n = 0 := by omega
    exact ⟨_, [4, 6], by simp only [seV, outV_ren', dren, go_sem, Nat.lt_irrefl], rfl, rfl, by decide, by simp only [seB, keepC_nil, go_sem, ↓outB_ren', Cell.map_rens, Evn.map_rens, implies_true]⟩
end Go.Proofs
/- the document's write of a put: walked. -/

set_option linter.all false
set_option linter.all false
set_option maxRecDepth 100000
namespace Go.Proofs
open Go Go.Ev
variable {H : Heap}

def A134 (H : Heap) (args : List AV) (q : Sh × Cell × Evn) : Prop := args = [.agg q.1.enc, .agg q.2.1.enc, .agg q.2.2.enc] ∧ q.1.ok H ∧ q.1.evs.length < 10000 ∧ q.1.cells.length < 10000 ∧ cellIs q.2.1 ∧ (refW q.1.cells q.2.1).length < 10000 ∧ isHist (q.1.evs ++ [q.2.2]) (refW q.1.cells q.2.1)
noncomputable def EE (f : FuncId) (args : List AV) (H : Heap) : RC :=
  match f with
  | 134 => ot (A134 H args) fun q => .ok (.agg (addS q.1 q.2.1 q.2.2 (H.key 0) (H.key 1)).enc) (H.ext (addB q.1 q.2.1 q.2.2))
  | _ => .fail
theorem good_EE : Ev.Good Tryz.prog EE := by
  intro f args H r G he φ w args' ha hw
  refine (?_ : FnOk Tryz.prog f args H fun v' G' => v' = r ∧ G' = G).one φ w args' ha hw
  unfold EE at he
  split at he
  · obtain ⟨q, ⟨rfl, h1, h2, h3, h4, h5, h6⟩, hz⟩ := ot_ok he
    clear he
    cases hz
    exact f134_ok h1 h2 h3 h4 h5 h6
  · cases he
theorem e134 {s : Sh} (h : s.ok H) (hel : s.evs.length < 10000) (hcl : s.cells.length < 10000) {c : Cell} {e : Evn} (hc : cellIs c) (hrl : (refW s.cells c).length < 10000) (hI : isHist (s.evs ++ [e]) (refW s.cells c)) (L : List Blk) :
    EE 134 [.agg [.int .i64 s.id, .int .i64 s.ep, .str s.fr, .str s.to, .bool s.frz, s.cv, s.ev, s.dv], .agg [.str c.key, .str c.value, .int .i64 c.ver, .bool c.del, .int .i64 c.floor], .agg [.str e.key, .int .i64 e.ver, .str e.val, .bool e.del]] (H.ext L) = .ok (.agg [.int .i64 s.id, .int .i64 s.ep, .str s.fr, .str s.to, .bool s.frz, outV (H.key L.length) 5 (refW s.cells c).length, outV (H.key (L.length + 1)) 4 ((s.evs ++ [e]).drop ((s.evs ++ [e]).length - 24)).length, s.dv]) (H.ext (L ++ addB s c e)) := by
  show ot (A134 (H.ext L) [.agg s.enc, .agg c.enc, .agg e.enc]) (fun q => .ok (.agg (addS q.1 q.2.1 q.2.2 ((H.ext L).key 0) ((H.ext L).key 1)).enc) ((H.ext L).ext (addB q.1 q.2.1 q.2.2))) = _
  rw [ot_eq (p := A134 (H.ext L) [.agg s.enc, .agg c.enc, .agg e.enc]) (x := (s, c, e)) ⟨rfl, h.ext L, hel, hcl, hc, hrl, hI⟩, Heap.ext_append, Heap.key_ext, Heap.key_ext]
  · rfl
  · rintro ⟨s', c', e'⟩ ⟨h1, h2, _⟩
    injection h1 with h1 h3
    injection h3 with h3 h4
    injection h4 with h4 _
    injection h1 with h1
    injection h3 with h3
    injection h4 with h4
    rw [Sh.uniq h1 (h.ext L) h2, Cell.enc_one h3, Evn.enc_one h4]
theorem withL_len (c : Cell) : ∀ (l : List Cell), (withL l c).length ≤ l.length + 1
  | [] => by simp [withL]
  | d :: l => by
    have := withL_len c l
    unfold withL
    split
    · simp only [List.length_cons]; omega
    · split <;> simp
/-- a shard with a key put, as it is told -/
noncomputable def putS (s : Sh) (k v : List Nat) : Sh := ⟨s.id, s.ep, s.fr, s.to, s.frz, keepC ((s.evs ++ [nextE s.cells k v false]).take ((s.evs ++ [nextE s.cells k v false]).length - 24)) (withL s.cells (nextC s.cells k v false)), (s.evs ++ [nextE s.cells k v false]).drop ((s.evs ++ [nextE s.cells k v false]).length - 24), s.done, .nils, .nils, .nils⟩
theorem putS_hist {s : Sh} (hI : isHist s.evs s.cells) {k v : List Nat} (hk : isKey k) (hv : (v.length : Int) ≤ 12) (hm : (getL s.cells k).1.ver < 1000000000000) : isHist (putS s k v).evs (putS s k v).cells :=
  hist_keep _ (hist_put hI hk hv (fun h => by cases h) hm)
theorem f94_put {s : Sh} (h : s.ok H) (hel : s.evs.length < 9000) (hcl : s.cells.length < 9000) {k v : List Nat} (hk : isKey k) (hv : (v.length : Int) ≤ 12) (hI : isHist s.evs s.cells) (hm : (getL s.cells k).1.ver < 1000000000000) :
    FnOk Tryz.prog 94 [.agg s.enc, .str k, .str v, .bool false] H fun r G => r = .tup [.agg (addS s (nextC s.cells k v false) (nextE s.cells k v false) (H.key 0) (H.key 1)).enc, .agg [.int .i64 0, .str [], .int .i64 ((getL s.cells k).1.ver + 1), .nils]] ∧ G = H.ext (addB s (nextC s.cells k v false) (nextE s.cells k v false)) := by
  refine FnOk.dropW ?_
  refine FnOk.of_WW Tryz.func94 rfl C94ok R94ok EE good_EE ?_
  obtain ⟨c1, c2, c3, c4, _⟩ := cell_of hI k
  have hput := hist_put hI hk hv (d := false) (fun h => by cases h) hm
  have hw : refW s.cells (nextC s.cells k v false) = withL s.cells (nextC s.cells k v false) := refW_eq hI.1 _
  have hwl := withL_len (nextC s.cells k v false) s.cells
  have hcell : cellIs (nextC s.cells k v false) := isIdx_all hput.1 _ (getL_mem getL_withL_self).1
  have hput' := hput
  rw [← hw] at hput' hwl
  have i134 := e134 h (by omega) (by omega) hcell (by omega) hput'
  have cren := h.c.ren
  have eren := h.e.ren
  have dren := h.d.ren
  simp only [nextC, nextE] at i134
  simp only [go_sem, C94, Sh.enc]
  refine CL.of (f85_ok (h.c.ext _) h.cl k) ?_
  rintro _ _ ⟨rfl, rfl⟩
  simp only [go_sem, Cell.enc]
  refine CL.of (f133_ok (c := (getL s.cells k).1) c2 hm hv) ?_
  rintro _ _ ⟨rfl, rfl⟩
  simp only [go_sem, Cell.enc, Evn.enc, c1, i134, addB]
  refine ⟨_, [6, 7], by simp only [addS, nextC, nextE, Sh.enc, outV_ren', dren, go_sem], rfl, rfl, by decide, by simp only [addB, nextC, nextE, go_sem, ↓outB_ren', Cell.map_rens, Evn.map_rens, implies_true]⟩
end Go.Proofs
