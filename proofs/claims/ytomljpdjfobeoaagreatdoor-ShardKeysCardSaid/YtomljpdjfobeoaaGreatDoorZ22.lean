/- The laid-out code of the functions that are walked. Printed by a program. -/
import Derived.Test.YtomljpdjfobeoaaGreatDoorZ21
import Derived.Test.YtomljpdjfobeoaaGreatDoorProg
import Derived.KernelRfl
set_option linter.all false
set_option maxRecDepth 100000
namespace Go.Proofs
open Go Go.Ev K
noncomputable def C5L0 : CC :=
  (.seq (.seq (.region [.mk (mvR (X.t (o (o (o z))))) (.some (i (i (o (i z))))) Gd.no [],
   .mk (mvR (X.t z)) (.some (o (o (i (i z))))) Gd.no [],
   .mk (lenR LnK.slice (X.t (o (o (i (i z)))))) (.some (i (o (i (i z))))) Gd.no [],
   .mk (binR Tryz.prog EK.no .none false BinOp.lss (X.t (i (i (o (i z))))) (X.t (i (o (i (i z)))))) (.some (o (i (i (i z))))) Gd.no []])
  (.cond (X.t (o (i (i (i z)))))
  .skip
  (.exit 0)))
  (.seq (.block 1 (.seq (.region [.mk (mvR (X.t z)) (.some (i (o (o (o (o z)))))) Gd.no [],
   .mk (mvR (X.t (o (o (o z))))) (.some (o (i (o (o (o z)))))) Gd.no [],
   .mk (iaS 8 (X.t (i (o (o (o (o z)))))) (X.t (o (i (o (o (o z))))))) (.some (i (i (o (o (o z)))))) Gd.no [],
   .mk (faR 2 (X.t (i (i (o (o (o z))))))) (.some (o (o (i (o (o z)))))) Gd.no [],
   .mk (ldR true 6 (X.t (o (o (i (o (o z))))))) (.some (i (o (i (o (o z)))))) Gd.no [],
   .mk (fun _ H => newC false [(AV.int .i64 0), (AV.str []), (AV.str []), (AV.str []), (AV.int .i64 0), AV.nils] H) (.some (i (o (o z)))) Gd.no [],
   .mk (stR 6 (X.t (i (o (o z)))) (X.t (i (o (i (o (o z))))))) .none Gd.no []])
  (.seq (.region [.mk (mvR (X.t (o (o (o z))))) (.some (o (i (i (o (o z)))))) Gd.no [],
   .mk (binR Tryz.prog EK.no .none true BinOp.rem (X.t (o (i (i (o (o z)))))) (X.c (AV.int .i64 8))) (.some (i (i (i (o (o z)))))) Gd.no [],
   .mk (mvR (X.t (i (i (i (o (o z))))))) (.some (o (i (o z)))) Gd.no []])
  (.seq (.seq (.region [.mk (faR 1 (X.t (i (o (o z))))) (.some (o (o (o (i (o z)))))) Gd.no [],
   .mk (ldR false 1 (X.t (o (o (o (i (o z))))))) (.some (i (o (o (i (o z)))))) Gd.no [],
   .mk (lenR LnK.str (X.t (i (o (o (i (o z))))))) (.some (o (i (o (i (o z)))))) Gd.no [],
   .mk (binR Tryz.prog EK.no .none true BinOp.gtr (X.t (o (i (o (i (o z)))))) (X.c (AV.int .i64 0))) (.some (i (i (o (i (o z)))))) Gd.no []])
  (.cond (X.t (i (i (o (i (o z))))))
  (.region [.mk (faR 1 (X.t (i (o (o z))))) (.some (o (o (i (i (o z)))))) Gd.no [],
   .mk (ldR false 1 (X.t (o (o (i (i (o z))))))) (.some (i (o (i (i (o z)))))) Gd.no [],
   .mk (ixR true false 0 0 (X.t (i (o (i (i (o z)))))) (X.c (AV.int .i64 0))) (.some (o (i (i (i (o z)))))) Gd.no [],
   .mk (binR Tryz.prog EK.no .none true BinOp.rem (X.t (o (i (i (i (o z)))))) (X.c (AV.int IntKind.u8 8))) (.some (i (i (i (i (o z)))))) Gd.no [],
   .mk (convR (Cv.int .i64) (X.t (i (i (i (i (o z))))))) (.some (o (o (o (o (i z)))))) Gd.no [],
   .mk (mvR (X.t (o (o (o (o (i z))))))) (.some (o (i (o z)))) Gd.no []])
  .skip))
  (.seq (.region [.mk (mvR (X.t (o (o (o z))))) (.some (i (o (o (o (i z)))))) Gd.no [],
   .mk (binR Tryz.prog EK.no .none true BinOp.rem (X.t (i (o (o (o (i z)))))) (X.c (AV.int .i64 26))) (.some (o (i (o (o (i z)))))) Gd.no [],
   .mk (binR Tryz.prog EK.no .none true BinOp.add (X.c (AV.int .i64 65)) (X.t (o (i (o (o (i z))))))) (.some (i (i (o (o (i z)))))) Gd.no [],
   .mk (convR (Cv.int IntKind.u8) (X.t (i (i (o (o (i z))))))) (.some (o (o (i (o (i z)))))) Gd.no [],
   .mk (bslR 1 1 [(AV.int IntKind.u8 0)] [(0, (X.t (o (o (i (o (i z)))))))]) (.some (i (o (i (o (i z)))))) Gd.no [],
   .mk (convR Cv.b2s (X.t (i (o (i (o (i z))))))) (.some (o (i (i (o (i z)))))) Gd.no [],
   .mk (mvR (X.t (o (i (i (o (i z))))))) (.some (i (i (o z)))) Gd.no []])
  (.seq (.region [.mk (mvR (X.t (o (i (o z))))) (.some (i (i (i (o (i z)))))) Gd.no [],
   .mk (binR Tryz.prog EK.no .none true BinOp.add (X.c (AV.int .i64 97)) (X.t (i (i (i (o (i z))))))) (.some (o (o (o (i (i z)))))) Gd.no [],
   .mk (convR (Cv.int IntKind.u8) (X.t (o (o (o (i (i z))))))) (.some (i (o (o (i (i z)))))) Gd.no [],
   .mk (bslR 1 1 [(AV.int IntKind.u8 0)] [(0, (X.t (i (o (o (i (i z)))))))]) (.some (o (i (o (i (i z)))))) Gd.no [],
   .mk (convR Cv.b2s (X.t (o (i (o (i (i z))))))) (.some (i (i (o (i (i z)))))) Gd.no [],
   .mk (mvR (X.t (i (i (o (i (i z))))))) (.some (o (o (i z)))) Gd.no []])
  (.seq (.region [.mk (buildR [(AV.int .i64 0), (AV.str []), (AV.int .i64 0), AV.nils] []) (.some (o (o (i (i (i z)))))) Gd.no [],
   .mk (fun _ H => newC false [(AV.int .i64 0), (AV.str []), (AV.int .i64 0), AV.nils] H) (.some (i (o (i z)))) Gd.no [],
   .mk (stR 4 (X.t (i (o (i z)))) (X.t (o (o (i (i (i z))))))) .none Gd.no []])
  (.seq (.seq (.region [.mk (mvR (X.t z)) (.some (i (o (i (i (i z)))))) Gd.no [],
   .mk (mvR (X.t (o (o (o z))))) (.some (o (i (i (i (i z)))))) Gd.no [],
   .mk (iaS 8 (X.t (i (o (i (i (i z)))))) (X.t (o (i (i (i (i z))))))) (.some (i (i (i (i (i z)))))) Gd.no [],
   .mk (faR 1 (X.t (i (i (i (i (i z))))))) (.some (o (o (o (o (o (o z))))))) Gd.no [],
   .mk (ldR false 1 (X.t (o (o (o (o (o (o z)))))))) (.some (i (o (o (o (o (o z))))))) Gd.no [],
   .mk (binR Tryz.prog EK.no .none true BinOp.and (X.t (i (o (o (o (o (o z))))))) (X.c (AV.int .i64 3))) (.some (o (i (o (o (o (o z))))))) Gd.no []])
  (.block 2 (.seq (.region [.mk (binR Tryz.prog EK.no .none true BinOp.eql (X.t (o (i (o (o (o (o z))))))) (X.c (AV.int .i64 0))) (.some (o (o (i (o (o (o z))))))) Gd.no [],
   .mk (mvR (X.t (o (o (i (o (o (o z)))))))) (.some (i (i (o (o (o (o z))))))) Gd.no []])
  (.cond (X.t (i (i (o (o (o (o z)))))))
  (.seq (.region [.mk (ldR true 8 (X.t (o (o z)))) (.some (o (i (i (o (o (o z))))))) Gd.no [],
   .mk (mvR (X.t (o (o (i z))))) (.some (i (i (i (o (o (o z))))))) Gd.no [],
   .mk (mvR (X.t (i (i (o z))))) (.some (o (o (o (i (o (o z))))))) Gd.no [],
   .mk (buildR [(AV.int .i64 0), (AV.str []), (AV.str []), (AV.str []), (AV.int .i64 0), AV.nils] [(0, (1, (X.c (AV.int .i64 2)))), (1, (1, (X.t (i (i (i (o (o (o z))))))))), (3, (1, (X.t (o (o (o (i (o (o z)))))))))]) (.some (i (o (o (i (o (o z))))))) Gd.no [],
   .mk (callS Tryz.prog 21 [(X.t (o (i (i (o (o (o z))))))), (X.t (i (o (o (i (o (o z)))))))]) (.some (o (i (o (i (o (o z))))))) Gd.no [],
   .mk (mvR (X.t (o (i (o (i (o (o z)))))))) (.some (i (o (i (o (o (o z))))))) Gd.no [],
   .mk (extR (X.t (i (o (i (o (o (o z))))))) 0) (.some (i (i (o (i (o (o z))))))) Gd.no [],
   .mk (extR (X.t (i (o (i (o (o (o z))))))) 1) (.some (o (o (i (i (o (o z))))))) Gd.no [],
   .mk (stR 8 (X.t (o (o z))) (X.t (i (i (o (i (o (o z)))))))) .none Gd.no [],
   .mk (stR 4 (X.t (i (o (i z)))) (X.t (o (o (i (i (o (o z)))))))) .none Gd.no []])
  (.seq (.region [.mk (mvR (X.t (o (i (o z))))) (.some (i (o (i (i (o (o z))))))) Gd.no [],
   .mk (iaA 8 1 (X.t (o (i z))) (X.t (i (o (i (i (o (o z)))))))) (.some (o (i (i (i (o (o z))))))) Gd.no [],
   .mk (ldR false 1 (X.t (o (i (i (i (o (o z)))))))) (.some (i (i (i (i (o (o z))))))) Gd.no [],
   .mk (binR Tryz.prog EK.no .none true BinOp.add (X.t (i (i (i (i (o (o z))))))) (X.c (AV.int .i64 1))) (.some (o (o (o (o (i (o z))))))) Gd.no [],
   .mk (iaA 8 1 (X.t (o (i z))) (X.t (i (o (i (i (o (o z)))))))) (.some (i (o (o (o (i (o z))))))) Gd.no [],
   .mk (stR 1 (X.t (i (o (o (o (i (o z))))))) (X.t (o (o (o (o (i (o z)))))))) .none Gd.no []])
  (.seq (.region [.mk (mvR (X.t (o (i (o z))))) (.some (o (i (o (o (i (o z))))))) Gd.no [],
   .mk (mvR (X.t (o (i (o z))))) (.some (i (i (o (o (i (o z))))))) Gd.no [],
   .mk (mvR (X.t (i (i (o z))))) (.some (o (o (i (o (i (o z))))))) Gd.no [],
   .mk (iaA 8 1 (X.t (i (o z))) (X.t (o (i (o (o (i (o z)))))))) (.some (i (o (i (o (i (o z))))))) Gd.no [],
   .mk (stR 1 (X.t (i (o (i (o (i (o z))))))) (X.t (o (o (i (o (i (o z)))))))) .none Gd.no [],
   .mk (iaA 8 1 (X.t (i (i z))) (X.t (i (i (o (o (i (o z)))))))) (.some (o (i (i (o (i (o z))))))) Gd.no [],
   .mk (stR 1 (X.t (o (i (i (o (i (o z))))))) (X.c (AV.bool true))) .none Gd.no []])
  (.seq (.regionD [.mk (keepH (faR 0 (X.t (i (o (i z)))))) (.some (i (i (i (o (i (o z))))))) Gd.no [],
   .mk (keepH (ldR false 1 (X.t (i (i (i (o (i (o z))))))))) (.some (o (o (o (i (i (o z))))))) Gd.no [],
   .mk (keepH (binR Tryz.prog EK.no .none true BinOp.neq (X.t (o (o (o (i (i (o z))))))) (X.c (AV.int .i64 0)))) (.some (i (o (o (i (i (o z))))))) Gd.no [],
   .mk (keepH (mvR (X.t (i (o (o (i (i (o z))))))))) (.some (o (i (o (i (i (o z))))))) Gd.no [],
   .mk (keepH (mvR (X.t (o (i (o z)))))) (.some (i (o (i (i (i (o z))))))) (Gd.on (o (i (o (i (i (o z)))))) false) [],
   .mk (keepH (iaA 8 1 (X.t (o (i z))) (X.t (i (o (i (i (i (o z))))))))) (.some (o (i (i (i (i (o z))))))) (Gd.on (o (i (o (i (i (o z)))))) false) [],
   .mk (keepH (ldR false 1 (X.t (o (i (i (i (i (o z))))))))) (.some (i (i (i (i (i (o z))))))) (Gd.on (o (i (o (i (i (o z)))))) false) [],
   .mk (keepH (faR 2 (X.t (i (o (i z)))))) (.some (i (i (o (i (i (o z))))))) (Gd.on (o (i (o (i (i (o z)))))) false) [],
   .mk (keepH (ldR false 1 (X.t (i (i (o (i (i (o z))))))))) (.some (o (o (i (i (i (o z))))))) (Gd.on (o (i (o (i (i (o z)))))) false) [],
   .mk (keepH (binR Tryz.prog EK.no .none false BinOp.neq (X.t (o (o (i (i (i (o z))))))) (X.t (i (i (i (i (i (o z))))))))) (.some (o (o (o (o (o (i z))))))) (Gd.on (o (i (o (i (i (o z)))))) false) [],
   .mk (keepH (pickR (X.t (o (i (o (i (i (o z))))))) (X.c (AV.bool true)) (X.t (o (o (o (o (o (i z))))))))) (.some (i (o (o (o (o (i z))))))) Gd.no []])
  (.cond (X.t (i (o (o (o (o (i z)))))))
  (.seq (.region [.mk (mvR (X.c (AV.bool false))) (.some (i z)) Gd.no []])
  .ret)
  .skip)))))
  (.seq (.region [.mk (binR Tryz.prog EK.no .none true BinOp.eql (X.t (o (i (o (o (o (o z))))))) (X.c (AV.int .i64 1))) (.some (i (i (o (o (o (i z))))))) Gd.no [],
   .mk (mvR (X.t (i (i (o (o (o (i z)))))))) (.some (o (i (o (o (o (i z))))))) Gd.no []])
  (.cond (X.t (o (i (o (o (o (i z)))))))
  (.seq (.region [.mk (ldR true 8 (X.t (o (o z)))) (.some (i (o (i (o (o (i z))))))) Gd.no [],
   .mk (mvR (X.t (o (o (i z))))) (.some (o (i (i (o (o (i z))))))) Gd.no [],
   .mk (buildR [(AV.int .i64 0), (AV.str []), (AV.str []), (AV.str []), (AV.int .i64 0), AV.nils] [(0, (1, (X.c (AV.int .i64 3)))), (1, (1, (X.t (o (i (i (o (o (i z)))))))))]) (.some (i (i (i (o (o (i z))))))) Gd.no [],
   .mk (callS Tryz.prog 21 [(X.t (i (o (i (o (o (i z))))))), (X.t (i (i (i (o (o (i z)))))))]) (.some (o (o (o (i (o (i z))))))) Gd.no [],
   .mk (mvR (X.t (o (o (o (i (o (i z)))))))) (.some (o (o (i (o (o (i z))))))) Gd.no [],
   .mk (extR (X.t (o (o (i (o (o (i z))))))) 0) (.some (i (o (o (i (o (i z))))))) Gd.no [],
   .mk (extR (X.t (o (o (i (o (o (i z))))))) 1) (.some (o (i (o (i (o (i z))))))) Gd.no [],
   .mk (stR 8 (X.t (o (o z))) (X.t (i (o (o (i (o (i z)))))))) .none Gd.no [],
   .mk (stR 4 (X.t (i (o (i z)))) (X.t (o (i (o (i (o (i z)))))))) .none Gd.no []])
  (.seq (.seq (.regionD [.mk (keepH (mvR (X.t (o (i (o z)))))) (.some (o (i (i (i (o (i z))))))) Gd.no [],
   .mk (keepH (iaA 8 1 (X.t (i (i z))) (X.t (o (i (i (i (o (i z))))))))) (.some (i (i (i (i (o (i z))))))) Gd.no [],
   .mk (keepH (ldR false 1 (X.t (i (i (i (i (o (i z))))))))) (.some (o (o (o (o (i (i z))))))) Gd.no [],
   .mk (keepH (faR 0 (X.t (i (o (i z)))))) (.some (i (i (o (i (o (i z))))))) Gd.no [],
   .mk (keepH (ldR false 1 (X.t (i (i (o (i (o (i z))))))))) (.some (o (o (i (i (o (i z))))))) Gd.no [],
   .mk (keepH (binR Tryz.prog EK.no .none true BinOp.eql (X.t (o (o (i (i (o (i z))))))) (X.c (AV.int .i64 0)))) (.some (i (o (i (i (o (i z))))))) Gd.no [],
   .mk (keepH (binR Tryz.prog EK.bool .none false BinOp.neq (X.t (i (o (i (i (o (i z))))))) (X.t (o (o (o (o (i (i z))))))))) (.some (i (o (o (o (i (i z))))))) Gd.no []])
  (.cond (X.t (i (o (o (o (i (i z)))))))
  (.seq (.region [.mk (mvR (X.c (AV.bool false))) (.some (i z)) Gd.no []])
  .ret)
  .skip))
  (.seq (.seq (.region [.mk (mvR (X.t (o (i (o z))))) (.some (o (i (o (o (i (i z))))))) Gd.no [],
   .mk (iaA 8 1 (X.t (i (i z))) (X.t (o (i (o (o (i (i z)))))))) (.some (i (i (o (o (i (i z))))))) Gd.no [],
   .mk (ldR false 1 (X.t (i (i (o (o (i (i z)))))))) (.some (o (o (i (o (i (i z))))))) Gd.no []])
  (.cond (X.t (o (o (i (o (i (i z)))))))
  (.region [.mk (mvR (X.t (o (i (o z))))) (.some (i (o (i (o (i (i z))))))) Gd.no [],
   .mk (iaA 8 1 (X.t (o (i z))) (X.t (i (o (i (o (i (i z)))))))) (.some (o (i (i (o (i (i z))))))) Gd.no [],
   .mk (ldR false 1 (X.t (o (i (i (o (i (i z)))))))) (.some (i (i (i (o (i (i z))))))) Gd.no [],
   .mk (binR Tryz.prog EK.no .none true BinOp.add (X.t (i (i (i (o (i (i z))))))) (X.c (AV.int .i64 1))) (.some (o (o (o (i (i (i z))))))) Gd.no [],
   .mk (iaA 8 1 (X.t (o (i z))) (X.t (i (o (i (o (i (i z)))))))) (.some (i (o (o (i (i (i z))))))) Gd.no [],
   .mk (stR 1 (X.t (i (o (o (i (i (i z))))))) (X.t (o (o (o (i (i (i z)))))))) .none Gd.no []])
  .skip))
  (.region [.mk (mvR (X.t (o (i (o z))))) (.some (o (i (o (i (i (i z))))))) Gd.no [],
   .mk (mvR (X.t (o (i (o z))))) (.some (i (i (o (i (i (i z))))))) Gd.no [],
   .mk (iaA 8 1 (X.t (i (i z))) (X.t (o (i (o (i (i (i z)))))))) (.some (o (o (i (i (i (i z))))))) Gd.no [],
   .mk (stR 1 (X.t (o (o (i (i (i (i z))))))) (X.c (AV.bool false))) .none Gd.no [],
   .mk (iaA 8 1 (X.t (i (o z))) (X.t (i (i (o (i (i (i z)))))))) (.some (i (o (i (i (i (i z))))))) Gd.no [],
   .mk (stR 1 (X.t (i (o (i (i (i (i z))))))) (X.c (AV.str []))) .none Gd.no []]))))
  (.seq (.region [.mk (binR Tryz.prog EK.no .none true BinOp.eql (X.t (o (i (o (o (o (o z))))))) (X.c (AV.int .i64 2))) (.some (i (i (i (i (i (i z))))))) Gd.no [],
   .mk (mvR (X.t (i (i (i (i (i (i z)))))))) (.some (o (i (i (i (i (i z))))))) Gd.no []])
  (.cond (X.t (o (i (i (i (i (i z)))))))
  (.seq (.regionD [.mk (keepH (mvR (X.t (o (o (o z)))))) (.some (o (o (i (o (o (o (o z)))))))) Gd.no [],
   .mk (keepH (mvR (X.t z))) (.some (i (i (o (o (o (o (o z)))))))) Gd.no [],
   .mk (keepH (iaS 8 (X.t (i (i (o (o (o (o (o z)))))))) (X.t (o (o (i (o (o (o (o z)))))))))) (.some (i (o (i (o (o (o (o z)))))))) Gd.no [],
   .mk (keepH (faR 0 (X.t (i (o (i (o (o (o (o z)))))))))) (.some (o (i (i (o (o (o (o z)))))))) Gd.no [],
   .mk (keepH (ldR false 1 (X.t (o (i (i (o (o (o (o z)))))))))) (.some (i (i (i (o (o (o (o z)))))))) Gd.no [],
   .mk (keepH (binR Tryz.prog EK.no .none true BinOp.and (X.t (i (i (i (o (o (o (o z)))))))) (X.c (AV.int .i64 1)))) (.some (o (o (o (i (o (o (o z)))))))) Gd.no [],
   .mk (keepH (mvR (X.t (o (i (o z)))))) (.some (o (o (o (o (o (o (o z)))))))) Gd.no [],
   .mk (keepH (iaA 8 1 (X.t (o (i z))) (X.t (o (o (o (o (o (o (o z)))))))))) (.some (i (o (o (o (o (o (o z)))))))) Gd.no [],
   .mk (keepH (ldR false 1 (X.t (i (o (o (o (o (o (o z)))))))))) (.some (o (i (o (o (o (o (o z)))))))) Gd.no [],
   .mk (keepH (binR Tryz.prog EK.no .none false BinOp.sub (X.t (o (i (o (o (o (o (o z)))))))) (X.t (o (o (o (i (o (o (o z)))))))))) (.some (i (o (o (i (o (o (o z)))))))) Gd.no [],
   .mk (mvR (X.t (i (o (o (i (o (o (o z))))))))) (.some (o (i (i z)))) Gd.no []])
  (.seq (.region [.mk (ldR true 8 (X.t (o (o z)))) (.some (i (i (o (i (o (o (o z)))))))) Gd.no [],
   .mk (mvR (X.t (o (o (i z))))) (.some (o (o (i (i (o (o (o z)))))))) Gd.no [],
   .mk (mvR (X.t (i (i (o z))))) (.some (i (o (i (i (o (o (o z)))))))) Gd.no [],
   .mk (mvR (X.t (o (i (i z))))) (.some (o (i (i (i (o (o (o z)))))))) Gd.no [],
   .mk (mmR true (X.c (AV.int .i64 0)) (X.t (o (i (i (i (o (o (o z))))))))) (.some (i (i (i (i (o (o (o z)))))))) Gd.no [],
   .mk (buildR [(AV.int .i64 0), (AV.str []), (AV.str []), (AV.str []), (AV.int .i64 0), AV.nils] [(0, (1, (X.c (AV.int .i64 4)))), (1, (1, (X.t (o (o (i (i (o (o (o z)))))))))), (3, (1, (X.t (i (o (i (i (o (o (o z)))))))))), (4, (1, (X.t (i (i (i (i (o (o (o z))))))))))]) (.some (o (o (o (o (i (o (o z)))))))) Gd.no [],
   .mk (callS Tryz.prog 21 [(X.t (i (i (o (i (o (o (o z)))))))), (X.t (o (o (o (o (i (o (o z))))))))]) (.some (i (o (o (o (i (o (o z)))))))) Gd.no [],
   .mk (mvR (X.t (i (o (o (o (i (o (o z))))))))) (.some (o (i (o (i (o (o (o z)))))))) Gd.no [],
   .mk (extR (X.t (o (i (o (i (o (o (o z)))))))) 0) (.some (o (i (o (o (i (o (o z)))))))) Gd.no [],
   .mk (extR (X.t (o (i (o (i (o (o (o z)))))))) 1) (.some (i (i (o (o (i (o (o z)))))))) Gd.no [],
   .mk (stR 8 (X.t (o (o z))) (X.t (o (i (o (o (i (o (o z))))))))) .none Gd.no [],
   .mk (stR 4 (X.t (i (o (i z)))) (X.t (i (i (o (o (i (o (o z))))))))) .none Gd.no []])
  (.seq (.region [.mk (mvR (X.t (o (i (i z))))) (.some (o (o (i (o (i (o (o z)))))))) Gd.no [],
   .mk (mmR true (X.c (AV.int .i64 0)) (X.t (o (o (i (o (i (o (o z))))))))) (.some (i (o (i (o (i (o (o z)))))))) Gd.no [],
   .mk (mvR (X.t (o (i (o z))))) (.some (o (i (i (o (i (o (o z)))))))) Gd.no [],
   .mk (iaA 8 1 (X.t (o (i z))) (X.t (o (i (i (o (i (o (o z))))))))) (.some (i (i (i (o (i (o (o z)))))))) Gd.no [],
   .mk (ldR false 1 (X.t (i (i (i (o (i (o (o z))))))))) (.some (o (o (o (i (i (o (o z)))))))) Gd.no [],
   .mk (binR Tryz.prog EK.no .none false BinOp.eql (X.t (i (o (i (o (i (o (o z)))))))) (X.t (o (o (o (i (i (o (o z))))))))) (.some (i (o (o (i (i (o (o z)))))))) Gd.no [],
   .mk (mvR (X.t (i (o (o (i (i (o (o z))))))))) (.some (i (i (i z)))) Gd.no []])
  (.seq (.seq (.region [.mk (mvR (X.t (i (i (i z))))) (.some (o (i (o (i (i (o (o z)))))))) Gd.no []])
  (.cond (X.t (o (i (o (i (i (o (o z))))))))
  (.seq (.region [.mk (mvR (X.t (o (i (o z))))) (.some (i (i (o (i (i (o (o z)))))))) Gd.no [],
   .mk (iaA 8 1 (X.t (o (i z))) (X.t (i (i (o (i (i (o (o z))))))))) (.some (o (o (i (i (i (o (o z)))))))) Gd.no [],
   .mk (ldR false 1 (X.t (o (o (i (i (i (o (o z))))))))) (.some (i (o (i (i (i (o (o z)))))))) Gd.no [],
   .mk (binR Tryz.prog EK.no .none true BinOp.add (X.t (i (o (i (i (i (o (o z)))))))) (X.c (AV.int .i64 1))) (.some (o (i (i (i (i (o (o z)))))))) Gd.no [],
   .mk (iaA 8 1 (X.t (o (i z))) (X.t (i (i (o (i (i (o (o z))))))))) (.some (i (i (i (i (i (o (o z)))))))) Gd.no [],
   .mk (stR 1 (X.t (i (i (i (i (i (o (o z)))))))) (X.t (o (i (i (i (i (o (o z))))))))) .none Gd.no []])
  (.region [.mk (mvR (X.t (o (i (o z))))) (.some (o (o (o (o (o (i (o z)))))))) Gd.no [],
   .mk (mvR (X.t (o (i (o z))))) (.some (i (o (o (o (o (i (o z)))))))) Gd.no [],
   .mk (mvR (X.t (i (i (o z))))) (.some (o (i (o (o (o (i (o z)))))))) Gd.no [],
   .mk (iaA 8 1 (X.t (i (o z))) (X.t (o (o (o (o (o (i (o z))))))))) (.some (i (i (o (o (o (i (o z)))))))) Gd.no [],
   .mk (stR 1 (X.t (i (i (o (o (o (i (o z)))))))) (X.t (o (i (o (o (o (i (o z))))))))) .none Gd.no [],
   .mk (iaA 8 1 (X.t (i (i z))) (X.t (i (o (o (o (o (i (o z))))))))) (.some (o (o (i (o (o (i (o z)))))))) Gd.no [],
   .mk (stR 1 (X.t (o (o (i (o (o (i (o z)))))))) (X.c (AV.bool true))) .none Gd.no []]))
  .skip))
  (.seq (.regionD [.mk (keepH (mvR (X.t (i (i (i z)))))) (.some (o (o (o (i (o (i (o z)))))))) Gd.no [],
   .mk (keepH (faR 0 (X.t (i (o (i z)))))) (.some (i (o (i (o (o (i (o z)))))))) Gd.no [],
   .mk (keepH (ldR false 1 (X.t (i (o (i (o (o (i (o z)))))))))) (.some (o (i (i (o (o (i (o z)))))))) Gd.no [],
   .mk (keepH (binR Tryz.prog EK.no .none true BinOp.eql (X.t (o (i (i (o (o (i (o z)))))))) (X.c (AV.int .i64 0)))) (.some (i (i (i (o (o (i (o z)))))))) Gd.no [],
   .mk (keepH (binR Tryz.prog EK.bool .none false BinOp.neq (X.t (i (i (i (o (o (i (o z)))))))) (X.t (o (o (o (i (o (i (o z)))))))))) (.some (i (o (o (i (o (i (o z)))))))) Gd.no [],
   .mk (keepH (mvR (X.t (i (o (o (i (o (i (o z)))))))))) (.some (o (i (o (i (o (i (o z)))))))) Gd.no [],
   .mk (keepH (mvR (X.t (i (i (i z)))))) (.some (i (i (o (i (o (i (o z)))))))) (Gd.on (o (i (o (i (o (i (o z))))))) false) [],
   .mk (keepH (unR UnOp.not (X.t (i (i (o (i (o (i (o z)))))))))) (.some (o (o (i (i (o (i (o z)))))))) (Gd.on (o (i (o (i (o (i (o z))))))) false) [],
   .mk (keepH (mvR (X.t (o (o (i (i (o (i (o z)))))))))) (.some (i (o (i (i (o (i (o z)))))))) (Gd.on (o (i (o (i (o (i (o z))))))) false) [],
   .mk (keepH (faR 0 (X.t (i (o (i z)))))) (.some (o (i (i (i (o (i (o z)))))))) (Gd.on (i (o (i (i (o (i (o z))))))) true) [],
   .mk (keepH (ldR false 1 (X.t (o (i (i (i (o (i (o z)))))))))) (.some (i (i (i (i (o (i (o z)))))))) (Gd.on (i (o (i (i (o (i (o z))))))) true) [],
   .mk (keepH (binR Tryz.prog EK.no .none true BinOp.neq (X.t (i (i (i (i (o (i (o z)))))))) (X.c (AV.int .i64 15)))) (.some (o (o (o (o (i (i (o z)))))))) (Gd.on (i (o (i (i (o (i (o z))))))) true) [],
   .mk (keepH (pickR (X.t (i (o (i (i (o (i (o z)))))))) (X.t (o (o (o (o (i (i (o z)))))))) (X.c (AV.bool false)))) (.some (i (o (o (o (i (i (o z)))))))) (Gd.on (o (i (o (i (o (i (o z))))))) false) [],
   .mk (keepH (pickR (X.t (o (i (o (i (o (i (o z)))))))) (X.c (AV.bool true)) (X.t (i (o (o (o (i (i (o z)))))))))) (.some (o (i (o (o (i (i (o z)))))))) Gd.no [],
   .mk (keepH (mvR (X.t (o (i (o (o (i (i (o z)))))))))) (.some (i (i (o (o (i (i (o z)))))))) Gd.no [],
   .mk (keepH (mvR (X.t (o (i (o z)))))) (.some (o (i (i (o (i (i (o z)))))))) (Gd.on (i (i (o (o (i (i (o z))))))) false) [],
   .mk (keepH (iaA 8 1 (X.t (o (i z))) (X.t (o (i (i (o (i (i (o z)))))))))) (.some (i (i (i (o (i (i (o z)))))))) (Gd.on (i (i (o (o (i (i (o z))))))) false) [],
   .mk (keepH (ldR false 1 (X.t (i (i (i (o (i (i (o z)))))))))) (.some (o (o (o (i (i (i (o z)))))))) (Gd.on (i (i (o (o (i (i (o z))))))) false) [],
   .mk (keepH (faR 2 (X.t (i (o (i z)))))) (.some (o (o (i (o (i (i (o z)))))))) (Gd.on (i (i (o (o (i (i (o z))))))) false) [],
   .mk (keepH (ldR false 1 (X.t (o (o (i (o (i (i (o z)))))))))) (.some (i (o (i (o (i (i (o z)))))))) (Gd.on (i (i (o (o (i (i (o z))))))) false) [],
   .mk (keepH (binR Tryz.prog EK.no .none false BinOp.neq (X.t (i (o (i (o (i (i (o z)))))))) (X.t (o (o (o (i (i (i (o z)))))))))) (.some (i (o (o (i (i (i (o z)))))))) (Gd.on (i (i (o (o (i (i (o z))))))) false) [],
   .mk (keepH (pickR (X.t (i (i (o (o (i (i (o z)))))))) (X.c (AV.bool true)) (X.t (i (o (o (i (i (i (o z)))))))))) (.some (o (i (o (i (i (i (o z)))))))) Gd.no []])
  (.cond (X.t (o (i (o (i (i (i (o z))))))))
  (.seq (.region [.mk (mvR (X.c (AV.bool false))) (.some (i z)) Gd.no []])
  .ret)
  .skip))))))
  .skip))))))))
  (.seq (.region [.mk (ldR true 8 (X.t (o (o z)))) (.some (o (o (i (i (i (i (o z)))))))) Gd.no [],
   .mk (mvR (X.t (o (o (i z))))) (.some (i (o (i (i (i (i (o z)))))))) Gd.no [],
   .mk (buildR [(AV.int .i64 0), (AV.str []), (AV.str []), (AV.str []), (AV.int .i64 0), AV.nils] [(0, (1, (X.c (AV.int .i64 1)))), (1, (1, (X.t (i (o (i (i (i (i (o z))))))))))]) (.some (o (i (i (i (i (i (o z)))))))) Gd.no [],
   .mk (callS Tryz.prog 21 [(X.t (o (o (i (i (i (i (o z)))))))), (X.t (o (i (i (i (i (i (o z))))))))]) (.some (i (i (i (i (i (i (o z)))))))) Gd.no [],
   .mk (mvR (X.t (i (i (i (i (i (i (o z))))))))) (.some (i (i (o (i (i (i (o z)))))))) Gd.no [],
   .mk (extR (X.t (i (i (o (i (i (i (o z)))))))) 0) (.some (o (o (o (o (o (o (i z)))))))) Gd.no [],
   .mk (extR (X.t (i (i (o (i (i (i (o z)))))))) 1) (.some (i (o (o (o (o (o (i z)))))))) Gd.no [],
   .mk (stR 4 (X.t (i (o (i z)))) (X.t (i (o (o (o (o (o (i z))))))))) .none Gd.no []])
  (.seq (.regionD [.mk (keepH (mvR (X.t (o (i (o z)))))) (.some (i (o (i (o (o (o (i z)))))))) Gd.no [],
   .mk (keepH (iaA 8 1 (X.t (i (i z))) (X.t (i (o (i (o (o (o (i z)))))))))) (.some (o (i (i (o (o (o (i z)))))))) Gd.no [],
   .mk (keepH (ldR false 1 (X.t (o (i (i (o (o (o (i z)))))))))) (.some (i (i (i (o (o (o (i z)))))))) Gd.no [],
   .mk (keepH (faR 0 (X.t (i (o (i z)))))) (.some (o (i (o (o (o (o (i z)))))))) Gd.no [],
   .mk (keepH (ldR false 1 (X.t (o (i (o (o (o (o (i z)))))))))) (.some (i (i (o (o (o (o (i z)))))))) Gd.no [],
   .mk (keepH (binR Tryz.prog EK.no .none true BinOp.eql (X.t (i (i (o (o (o (o (i z)))))))) (X.c (AV.int .i64 0)))) (.some (o (o (i (o (o (o (i z)))))))) Gd.no [],
   .mk (keepH (binR Tryz.prog EK.bool .none false BinOp.neq (X.t (o (o (i (o (o (o (i z)))))))) (X.t (i (i (i (o (o (o (i z)))))))))) (.some (o (o (o (i (o (o (i z)))))))) Gd.no [],
   .mk (keepH (mvR (X.t (o (o (o (i (o (o (i z)))))))))) (.some (i (o (o (i (o (o (i z)))))))) Gd.no [],
   .mk (keepH (mvR (X.t (o (i (o z)))))) (.some (o (o (i (i (o (o (i z)))))))) (Gd.on (i (o (o (i (o (o (i z))))))) false) [],
   .mk (keepH (iaA 8 1 (X.t (i (o z))) (X.t (o (o (i (i (o (o (i z)))))))))) (.some (i (o (i (i (o (o (i z)))))))) (Gd.on (i (o (o (i (o (o (i z))))))) false) [],
   .mk (keepH (ldR false 1 (X.t (i (o (i (i (o (o (i z)))))))))) (.some (o (i (i (i (o (o (i z)))))))) (Gd.on (i (o (o (i (o (o (i z))))))) false) [],
   .mk (keepH (faR 1 (X.t (i (o (i z)))))) (.some (o (i (o (i (o (o (i z)))))))) (Gd.on (i (o (o (i (o (o (i z))))))) false) [],
   .mk (keepH (ldR false 1 (X.t (o (i (o (i (o (o (i z)))))))))) (.some (i (i (o (i (o (o (i z)))))))) (Gd.on (i (o (o (i (o (o (i z))))))) false) [],
   .mk (keepH (binR Tryz.prog EK.no .none false BinOp.neq (X.t (i (i (o (i (o (o (i z)))))))) (X.t (o (i (i (i (o (o (i z)))))))))) (.some (i (i (i (i (o (o (i z)))))))) (Gd.on (i (o (o (i (o (o (i z))))))) false) [],
   .mk (keepH (pickR (X.t (i (o (o (i (o (o (i z)))))))) (X.c (AV.bool true)) (X.t (i (i (i (i (o (o (i z)))))))))) (.some (o (o (o (o (i (o (i z)))))))) Gd.no [],
   .mk (keepH (mvR (X.t (o (o (o (o (i (o (i z)))))))))) (.some (i (o (o (o (i (o (i z)))))))) Gd.no [],
   .mk (keepH (mvR (X.t (o (i (o z)))))) (.some (o (o (i (o (i (o (i z)))))))) (Gd.on (i (o (o (o (i (o (i z))))))) false) [],
   .mk (keepH (iaA 8 1 (X.t (o (i z))) (X.t (o (o (i (o (i (o (i z)))))))))) (.some (i (o (i (o (i (o (i z)))))))) (Gd.on (i (o (o (o (i (o (i z))))))) false) [],
   .mk (keepH (ldR false 1 (X.t (i (o (i (o (i (o (i z)))))))))) (.some (o (i (i (o (i (o (i z)))))))) (Gd.on (i (o (o (o (i (o (i z))))))) false) [],
   .mk (keepH (faR 2 (X.t (i (o (i z)))))) (.some (o (i (o (o (i (o (i z)))))))) (Gd.on (i (o (o (o (i (o (i z))))))) false) [],
   .mk (keepH (ldR false 1 (X.t (o (i (o (o (i (o (i z)))))))))) (.some (i (i (o (o (i (o (i z)))))))) (Gd.on (i (o (o (o (i (o (i z))))))) false) [],
   .mk (keepH (binR Tryz.prog EK.no .none false BinOp.neq (X.t (i (i (o (o (i (o (i z)))))))) (X.t (o (i (i (o (i (o (i z)))))))))) (.some (i (i (i (o (i (o (i z)))))))) (Gd.on (i (o (o (o (i (o (i z))))))) false) [],
   .mk (keepH (pickR (X.t (i (o (o (o (i (o (i z)))))))) (X.c (AV.bool true)) (X.t (i (i (i (o (i (o (i z)))))))))) (.some (o (o (o (i (i (o (i z)))))))) Gd.no []])
  (.cond (X.t (o (o (o (i (i (o (i z))))))))
  (.seq (.region [.mk (mvR (X.c (AV.bool false))) (.some (i z)) Gd.no []])
  .ret)
  .skip)))))))))))
  (.region [.mk (mvR (X.t (o (o (o z))))) (.some (i (i (i (i z))))) Gd.no [],
   .mk (binR Tryz.prog EK.no .none true BinOp.add (X.t (i (i (i (i z))))) (X.c (AV.int .i64 1))) (.some (o (o (o (o (o z)))))) Gd.no [],
   .mk (mvR (X.t (o (o (o (o (o z))))))) (.some (o (o (o z)))) Gd.no []])))
noncomputable def C5L1 : CC :=
  (.seq (.seq (.region [.mk (mvR (X.t (i (i (o (o z)))))) (.some (i (i (i (i (i (o (i z)))))))) Gd.no [],
   .mk (binR Tryz.prog EK.no .none true BinOp.lss (X.t (i (i (i (i (i (o (i z)))))))) (X.c (AV.int .i64 8))) (.some (o (o (o (o (o (i (i z)))))))) Gd.no []])
  (.cond (X.t (o (o (o (o (o (i (i z))))))))
  .skip
  (.exit 3)))
  (.seq (.block 4 (.seq (.seq (.region [.mk (mvR (X.t (i (i (o (o z)))))) (.some (i (i (o (o (o (i (i z)))))))) Gd.no [],
   .mk (iaA 8 1 (X.t (i (i z))) (X.t (i (i (o (o (o (i (i z))))))))) (.some (o (o (i (o (o (i (i z)))))))) Gd.no [],
   .mk (ldR false 1 (X.t (o (o (i (o (o (i (i z))))))))) (.some (i (o (i (o (o (i (i z)))))))) Gd.no [],
   .mk (unR UnOp.not (X.t (i (o (i (o (o (i (i z))))))))) (.some (o (i (i (o (o (i (i z)))))))) Gd.no []])
  (.cond (X.t (o (i (i (o (o (i (i z))))))))
  (.exit 4)
  .skip))
  (.seq (.seq (.regionD [.mk (keepH (faR 3 (X.t (i (o (o (o z))))))) (.some (o (o (o (i (o (i (i z)))))))) Gd.no [],
   .mk (keepH (ldR false 1 (X.t (o (o (o (i (o (i (i z)))))))))) (.some (i (o (o (i (o (i (i z)))))))) Gd.no [],
   .mk (keepH (lenR LnK.slice (X.t (i (o (o (i (o (i (i z)))))))))) (.some (o (i (o (i (o (i (i z)))))))) Gd.no [],
   .mk (keepH (mvR (X.t (o (i (o (o z))))))) (.some (i (i (i (o (o (i (i z)))))))) Gd.no [],
   .mk (keepH (binR Tryz.prog EK.no .none false BinOp.geq (X.t (i (i (i (o (o (i (i z)))))))) (X.t (o (i (o (i (o (i (i z)))))))))) (.some (i (i (o (i (o (i (i z)))))))) Gd.no [],
   .mk (keepH (mvR (X.t (i (i (o (i (o (i (i z)))))))))) (.some (o (o (i (i (o (i (i z)))))))) Gd.no [],
   .mk (keepH (mvR (X.t (i (i (o (o z))))))) (.some (i (i (o (o (i (i (i z)))))))) (Gd.on (o (o (i (i (o (i (i z))))))) false) [],
   .mk (keepH (iaA 8 1 (X.t (i (o z))) (X.t (i (i (o (o (i (i (i z)))))))))) (.some (o (o (i (o (i (i (i z)))))))) (Gd.on (o (o (i (i (o (i (i z))))))) false) [],
   .mk (keepH (ldR false 1 (X.t (o (o (i (o (i (i (i z)))))))))) (.some (i (o (i (o (i (i (i z)))))))) (Gd.on (o (o (i (i (o (i (i z))))))) false) [],
   .mk (keepH (mvR (X.t (o (i (o (o z))))))) (.some (i (i (i (i (o (i (i z)))))))) (Gd.on (o (o (i (i (o (i (i z))))))) false) [],
   .mk (keepH (faR 3 (X.t (i (o (o (o z))))))) (.some (i (o (i (i (o (i (i z)))))))) (Gd.on (o (o (i (i (o (i (i z))))))) false) [],
   .mk (keepH (ldR false 1 (X.t (i (o (i (i (o (i (i z)))))))))) (.some (o (i (i (i (o (i (i z)))))))) (Gd.on (o (o (i (i (o (i (i z))))))) false) [],
   .mk (keepH (iaS 3 (X.t (o (i (i (i (o (i (i z)))))))) (X.t (i (i (i (i (o (i (i z)))))))))) (.some (o (o (o (o (i (i (i z)))))))) (Gd.on (o (o (i (i (o (i (i z))))))) false) [],
   .mk (keepH (faR 1 (X.t (o (o (o (o (i (i (i z)))))))))) (.some (i (o (o (o (i (i (i z)))))))) (Gd.on (o (o (i (i (o (i (i z))))))) false) [],
   .mk (keepH (ldR false 1 (X.t (i (o (o (o (i (i (i z)))))))))) (.some (o (i (o (o (i (i (i z)))))))) (Gd.on (o (o (i (i (o (i (i z))))))) false) [],
   .mk (keepH (binR Tryz.prog EK.no .none false BinOp.neq (X.t (o (i (o (o (i (i (i z)))))))) (X.t (i (o (i (o (i (i (i z)))))))))) (.some (o (i (i (o (i (i (i z)))))))) (Gd.on (o (o (i (i (o (i (i z))))))) false) [],
   .mk (keepH (pickR (X.t (o (o (i (i (o (i (i z)))))))) (X.c (AV.bool true)) (X.t (o (i (i (o (i (i (i z)))))))))) (.some (i (i (i (o (i (i (i z)))))))) Gd.no [],
   .mk (keepH (mvR (X.t (i (i (i (o (i (i (i z)))))))))) (.some (o (o (o (i (i (i (i z)))))))) Gd.no [],
   .mk (keepH (mvR (X.t (i (i (o (o z))))))) (.some (i (i (i (i (i (i (i z)))))))) (Gd.on (o (o (o (i (i (i (i z))))))) false) [],
   .mk (keepH (iaA 8 1 (X.t (o (i z))) (X.t (i (i (i (i (i (i (i z)))))))))) (.some (o (o (o (o (o (o (o (o z))))))))) (Gd.on (o (o (o (i (i (i (i z))))))) false) [],
   .mk (keepH (ldR false 1 (X.t (o (o (o (o (o (o (o (o z))))))))))) (.some (i (o (o (o (o (o (o (o z))))))))) (Gd.on (o (o (o (i (i (i (i z))))))) false) [],
   .mk (keepH (mvR (X.t (o (i (o (o z))))))) (.some (i (i (o (i (i (i (i z)))))))) (Gd.on (o (o (o (i (i (i (i z))))))) false) [],
   .mk (keepH (faR 3 (X.t (i (o (o (o z))))))) (.some (i (o (o (i (i (i (i z)))))))) (Gd.on (o (o (o (i (i (i (i z))))))) false) [],
   .mk (keepH (ldR false 1 (X.t (i (o (o (i (i (i (i z)))))))))) (.some (o (i (o (i (i (i (i z)))))))) (Gd.on (o (o (o (i (i (i (i z))))))) false) [],
   .mk (keepH (iaS 3 (X.t (o (i (o (i (i (i (i z)))))))) (X.t (i (i (o (i (i (i (i z)))))))))) (.some (o (o (i (i (i (i (i z)))))))) (Gd.on (o (o (o (i (i (i (i z))))))) false) [],
   .mk (keepH (faR 2 (X.t (o (o (i (i (i (i (i z)))))))))) (.some (i (o (i (i (i (i (i z)))))))) (Gd.on (o (o (o (i (i (i (i z))))))) false) [],
   .mk (keepH (ldR false 1 (X.t (i (o (i (i (i (i (i z)))))))))) (.some (o (i (i (i (i (i (i z)))))))) (Gd.on (o (o (o (i (i (i (i z))))))) false) [],
   .mk (keepH (binR Tryz.prog EK.no .none false BinOp.neq (X.t (o (i (i (i (i (i (i z)))))))) (X.t (i (o (o (o (o (o (o (o z))))))))))) (.some (o (i (o (o (o (o (o (o z))))))))) (Gd.on (o (o (o (i (i (i (i z))))))) false) [],
   .mk (keepH (pickR (X.t (o (o (o (i (i (i (i z)))))))) (X.c (AV.bool true)) (X.t (o (i (o (o (o (o (o (o z))))))))))) (.some (i (i (o (o (o (o (o (o z))))))))) Gd.no []])
  (.cond (X.t (i (i (o (o (o (o (o (o z)))))))))
  (.seq (.region [.mk (mvR (X.c (AV.bool false))) (.some (i z)) Gd.no []])
  .ret)
  .skip))
  (.region [.mk (mvR (X.t (o (i (o (o z)))))) (.some (o (o (i (o (o (o (o (o z))))))))) Gd.no [],
   .mk (binR Tryz.prog EK.no .none true BinOp.add (X.t (o (o (i (o (o (o (o (o z))))))))) (X.c (AV.int .i64 1))) (.some (i (o (i (o (o (o (o (o z))))))))) Gd.no [],
   .mk (mvR (X.t (i (o (i (o (o (o (o (o z)))))))))) (.some (o (i (o (o z))))) Gd.no []]))))
  (.region [.mk (mvR (X.t (i (i (o (o z)))))) (.some (i (o (o (o (o (i (i z)))))))) Gd.no [],
   .mk (binR Tryz.prog EK.no .none true BinOp.add (X.t (i (o (o (o (o (i (i z)))))))) (X.c (AV.int .i64 1))) (.some (o (i (o (o (o (i (i z)))))))) Gd.no [],
   .mk (mvR (X.t (o (i (o (o (o (i (i z))))))))) (.some (i (i (o (o z))))) Gd.no []])))
noncomputable def C5 : CC :=
  (.seq (.region [.mk (mvR (X.c (AV.bool false))) (.some (i z)) Gd.no []])
  (.seq (.seq (.region [.mk (callS Tryz.prog 18 []) (.some (o (o (i (o z))))) Gd.no [],
   .mk (unR UnOp.not (X.t (o (o (i (o z)))))) (.some (i (o (i (o z))))) Gd.no []])
  (.cond (X.t (i (o (i (o z)))))
  (.seq (.region [.mk (mvR (X.c (AV.bool false))) (.some (i z)) Gd.no []])
  .ret)
  .skip))
  (.seq (.seq (.region [.mk (mvR (X.t z)) (.some (o (i (i (o z))))) Gd.no [],
   .mk (callS Tryz.prog 19 [(X.t (o (i (i (o z)))))]) (.some (i (i (i (o z))))) Gd.no [],
   .mk (unR UnOp.not (X.t (i (i (i (o z)))))) (.some (o (o (o (i z))))) Gd.no []])
  (.cond (X.t (o (o (o (i z)))))
  (.seq (.region [.mk (mvR (X.c (AV.bool true))) (.some (i z)) Gd.no []])
  .ret)
  .skip))
  (.seq (.region [.mk (buildR [(AV.str []), (AV.str [])] []) (.some (i (o (o (i z))))) Gd.no [],
   .mk (callS Tryz.prog 20 [(X.c (AV.int .i64 1)), (X.c (AV.int .i64 1)), (X.t (i (o (o (i z)))))]) (.some (o (i (o (i z))))) Gd.no [],
   .mk (fun _ H => newC false [(AV.int .i64 0), (AV.int .i64 0), (AV.str []), (AV.str []), (AV.bool false), AV.nils, AV.nils, AV.nils] H) (.some (o (o z))) Gd.no [],
   .mk (stR 8 (X.t (o (o z))) (X.t (o (i (o (i z)))))) .none Gd.no []])
  (.seq (.region [.mk (fun _ H => newC true [(AV.str []), (AV.str []), (AV.str []), (AV.str []), (AV.str []), (AV.str []), (AV.str []), (AV.str [])] H) (.some (i (o z))) Gd.no []])
  (.seq (.region [.mk (fun _ H => newC true [(AV.int .i64 0), (AV.int .i64 0), (AV.int .i64 0), (AV.int .i64 0), (AV.int .i64 0), (AV.int .i64 0), (AV.int .i64 0), (AV.int .i64 0)] H) (.some (o (i z))) Gd.no []])
  (.seq (.region [.mk (fun _ H => newC true [(AV.bool false), (AV.bool false), (AV.bool false), (AV.bool false), (AV.bool false), (AV.bool false), (AV.bool false), (AV.bool false)] H) (.some (i (i z))) Gd.no []])
  (.seq (.seq (.region [.mk (mvR (X.c (AV.int .i64 0))) (.some (o (o (o z)))) Gd.no []])
  (.block 0 (.loop C5L0)))
  (.seq (.region [.mk (ldR true 8 (X.t (o (o z)))) (.some (o (i (o (i (i (o (i z)))))))) Gd.no [],
   .mk (buildR [(AV.int .i64 0), (AV.str []), (AV.str []), (AV.str []), (AV.int .i64 0), AV.nils] [(0, (1, (X.c (AV.int .i64 5)))), (1, (1, (X.c (AV.str [97]))))]) (.some (i (i (o (i (i (o (i z)))))))) Gd.no [],
   .mk (callS Tryz.prog 21 [(X.t (o (i (o (i (i (o (i z)))))))), (X.t (i (i (o (i (i (o (i z))))))))]) (.some (o (o (i (i (i (o (i z)))))))) Gd.no [],
   .mk (mvR (X.t (o (o (i (i (i (o (i z))))))))) (.some (i (o (o (i (i (o (i z)))))))) Gd.no [],
   .mk (extR (X.t (i (o (o (i (i (o (i z)))))))) 0) (.some (i (o (i (i (i (o (i z)))))))) Gd.no [],
   .mk (extR (X.t (i (o (o (i (i (o (i z)))))))) 1) (.some (o (i (i (i (i (o (i z)))))))) Gd.no [],
   .mk (fun _ H => newC false [(AV.int .i64 0), (AV.int .i64 0), (AV.str []), (AV.str []), (AV.bool false), AV.nils, AV.nils, AV.nils] H) (.some (o (o (o (o z))))) Gd.no [],
   .mk (fun _ H => newC false [(AV.int .i64 0), (AV.str []), (AV.int .i64 0), AV.nils] H) (.some (i (o (o (o z))))) Gd.no [],
   .mk (stR 8 (X.t (o (o (o (o z))))) (X.t (i (o (i (i (i (o (i z))))))))) .none Gd.no [],
   .mk (stR 4 (X.t (i (o (o (o z))))) (X.t (o (i (i (i (i (o (i z))))))))) .none Gd.no []])
  (.seq (.region [.mk (mvR (X.c (AV.int .i64 0))) (.some (o (i (o (o z))))) Gd.no []])
  (.seq (.seq (.region [.mk (mvR (X.c (AV.int .i64 0))) (.some (i (i (o (o z))))) Gd.no []])
  (.block 3 (.loop C5L1)))
  (.seq (.region [.mk (faR 0 (X.t (i (o (o (o z)))))) (.some (o (i (i (o (o (o (o (o z))))))))) Gd.no [],
   .mk (ldR false 1 (X.t (o (i (i (o (o (o (o (o z)))))))))) (.some (i (i (i (o (o (o (o (o z))))))))) Gd.no [],
   .mk (binR Tryz.prog EK.no .none true BinOp.eql (X.t (i (i (i (o (o (o (o (o z))))))))) (X.c (AV.int .i64 0))) (.some (o (o (o (i (o (o (o (o z))))))))) Gd.no [],
   .mk (mvR (X.t (o (o (o (i (o (o (o (o z)))))))))) (.some (i (o (o (i (o (o (o (o z))))))))) Gd.no [],
   .mk (mvR (X.t (o (i (o (o z)))))) (.some (o (i (o (i (o (o (o (o z))))))))) (Gd.on (i (o (o (i (o (o (o (o z)))))))) true) [],
   .mk (faR 3 (X.t (i (o (o (o z)))))) (.some (i (i (o (i (o (o (o (o z))))))))) (Gd.on (i (o (o (i (o (o (o (o z)))))))) true) [],
   .mk (ldR false 1 (X.t (i (i (o (i (o (o (o (o z)))))))))) (.some (o (o (i (i (o (o (o (o z))))))))) (Gd.on (i (o (o (i (o (o (o (o z)))))))) true) [],
   .mk (lenR LnK.slice (X.t (o (o (i (i (o (o (o (o z)))))))))) (.some (i (o (i (i (o (o (o (o z))))))))) (Gd.on (i (o (o (i (o (o (o (o z)))))))) true) [],
   .mk (binR Tryz.prog EK.no .none false BinOp.eql (X.t (o (i (o (i (o (o (o (o z))))))))) (X.t (i (o (i (i (o (o (o (o z)))))))))) (.some (o (i (i (i (o (o (o (o z))))))))) (Gd.on (i (o (o (i (o (o (o (o z)))))))) true) [],
   .mk (pickR (X.t (i (o (o (i (o (o (o (o z))))))))) (X.t (o (i (i (i (o (o (o (o z))))))))) (X.c (AV.bool false))) (.some (i (i (i (i (o (o (o (o z))))))))) Gd.no [],
   .mk (mvR (X.t (i (i (i (i (o (o (o (o z)))))))))) (.some (o (o (o (o (i (o (o (o z))))))))) Gd.no [],
   .mk (ldR true 8 (X.t (o (o z)))) (.some (i (o (o (o (i (o (o (o z))))))))) (Gd.on (o (o (o (o (i (o (o (o z)))))))) true) [],
   .mk (callS Tryz.prog 22 [(X.t (i (o (o (o (i (o (o (o z)))))))))]) (.some (o (i (o (o (i (o (o (o z))))))))) (Gd.on (o (o (o (o (i (o (o (o z)))))))) true) [],
   .mk (pickR (X.t (o (o (o (o (i (o (o (o z))))))))) (X.t (o (i (o (o (i (o (o (o z))))))))) (X.c (AV.bool false))) (.some (i (i (o (o (i (o (o (o z))))))))) Gd.no [],
   .mk (mvR (X.t (i (i (o (o (i (o (o (o z)))))))))) (.some (i z)) Gd.no []])
  .ret))))))))))))
theorem C5ok : (match Tryz.f5.body with | some c => comp Tryz.prog 275 c | none => none) = some C5 := by kernel_rfl
@[go_sem] theorem call5 (args : List AV) (H : Heap) : callC Tryz.prog 5 args H = .call 5 args := callC_ok (by kernel_rfl) args H
theorem R5ok : resKs Tryz.prog Tryz.f5.results.toList = some [(RK.tmp (i z))] := by kernel_rfl

@[go_sem] theorem call8 (args : List AV) (H : Heap) : callC Tryz.prog 8 args H = .call 8 args := callC_ok (by kernel_rfl) args H
noncomputable def C18 : CC :=
  (.seq (.region [.mk (mvR (X.c (AV.bool false))) (.some z) Gd.no []])
  (.seq (.region [.mk (buildR [(AV.str []), (AV.str [])] []) (.some (i (i (i z)))) Gd.no [],
   .mk (callS Tryz.prog 20 [(X.c (AV.int .i64 1)), (X.c (AV.int .i64 1)), (X.t (i (i (i z))))]) (.some (o (o (o (o z))))) Gd.no [],
   .mk (fun _ H => newC false [(AV.int .i64 0), (AV.int .i64 0), (AV.str []), (AV.str []), (AV.bool false), AV.nils, AV.nils, AV.nils] H) (.some (o z)) Gd.no [],
   .mk (stR 8 (X.t (o z)) (X.t (o (o (o (o z)))))) .none Gd.no []])
  (.seq (.region [.mk (ldR true 8 (X.t (o z))) (.some (o (i (o (o z))))) Gd.no [],
   .mk (buildR [(AV.int .i64 0), (AV.str []), (AV.str []), (AV.str []), (AV.int .i64 0), AV.nils] [(0, (1, (X.c (AV.int .i64 2)))), (1, (1, (X.c (AV.str [97])))), (3, (1, (X.c (AV.str [118]))))]) (.some (i (i (o (o z))))) Gd.no [],
   .mk (callS Tryz.prog 21 [(X.t (o (i (o (o z))))), (X.t (i (i (o (o z)))))]) (.some (o (o (i (o z))))) Gd.no [],
   .mk (mvR (X.t (o (o (i (o z)))))) (.some (i (o (o (o z))))) Gd.no [],
   .mk (extR (X.t (i (o (o (o z))))) 0) (.some (i (o (i (o z))))) Gd.no [],
   .mk (extR (X.t (i (o (o (o z))))) 1) (.some (o (i (i (o z))))) Gd.no [],
   .mk (fun _ H => newC false [(AV.int .i64 0), (AV.int .i64 0), (AV.str []), (AV.str []), (AV.bool false), AV.nils, AV.nils, AV.nils] H) (.some (i z)) Gd.no [],
   .mk (fun _ H => newC false [(AV.int .i64 0), (AV.str []), (AV.int .i64 0), AV.nils] H) (.some (o (o z))) Gd.no [],
   .mk (stR 8 (X.t (i z)) (X.t (i (o (i (o z)))))) .none Gd.no [],
   .mk (stR 4 (X.t (o (o z))) (X.t (o (i (i (o z)))))) .none Gd.no []])
  (.seq (.region [.mk (ldR true 8 (X.t (i z))) (.some (o (o (o (i z))))) Gd.no [],
   .mk (buildR [(AV.int .i64 0), (AV.str []), (AV.str []), (AV.str []), (AV.int .i64 0), AV.nils] [(0, (1, (X.c (AV.int .i64 4)))), (1, (1, (X.c (AV.str [97])))), (3, (1, (X.c (AV.str [119])))), (4, (1, (X.c (AV.int .i64 1))))]) (.some (i (o (o (i z))))) Gd.no [],
   .mk (callS Tryz.prog 23 [(X.t (o (o (o (i z))))), (X.c (AV.int .i64 0)), (X.c (AV.int .i64 1)), (X.t (i (o (o (i z)))))]) (.some (o (i (o (i z))))) Gd.no [],
   .mk (mvR (X.t (o (i (o (i z)))))) (.some (i (i (i (o z))))) Gd.no [],
   .mk (extR (X.t (i (i (i (o z))))) 0) (.some (i (i (o (i z))))) Gd.no [],
   .mk (extR (X.t (i (i (i (o z))))) 1) (.some (o (o (i (i z))))) Gd.no [],
   .mk (extR (X.t (i (i (i (o z))))) 2) (.some (i (o (i (i z))))) Gd.no [],
   .mk (fun _ H => newC false [(AV.int .i64 0), (AV.int .i64 0), (AV.str []), (AV.str []), (AV.bool false), AV.nils, AV.nils, AV.nils] H) (.some (i (o z))) Gd.no [],
   .mk (fun _ H => newC false [(AV.int .i64 0), (AV.str []), (AV.int .i64 0), AV.nils] H) (.some (o (i z))) Gd.no [],
   .mk (stR 8 (X.t (i (o z))) (X.t (i (i (o (i z)))))) .none Gd.no [],
   .mk (stR 4 (X.t (o (i z))) (X.t (o (o (i (i z)))))) .none Gd.no [],
   .mk (mvR (X.t (i (o (i (i z)))))) (.some (i (i z))) Gd.no []])
  (.seq (.region [.mk (ldR true 8 (X.t (i (o z)))) (.some (i (i (i (i z))))) Gd.no [],
   .mk (buildR [(AV.int .i64 0), (AV.str []), (AV.str []), (AV.str []), (AV.int .i64 0), AV.nils] [(0, (1, (X.c (AV.int .i64 1)))), (1, (1, (X.c (AV.str [97]))))]) (.some (o (o (o (o (o z)))))) Gd.no [],
   .mk (callS Tryz.prog 23 [(X.t (i (i (i (i z))))), (X.c (AV.int .i64 0)), (X.c (AV.int .i64 1)), (X.t (o (o (o (o (o z))))))]) (.some (i (o (o (o (o z)))))) Gd.no [],
   .mk (mvR (X.t (i (o (o (o (o z))))))) (.some (o (i (i (i z))))) Gd.no [],
   .mk (extR (X.t (o (i (i (i z))))) 0) (.some (o (i (o (o (o z)))))) Gd.no [],
   .mk (extR (X.t (o (i (i (i z))))) 1) (.some (i (i (o (o (o z)))))) Gd.no [],
   .mk (extR (X.t (o (i (i (i z))))) 2) (.some (o (o (i (o (o z)))))) Gd.no [],
   .mk (fun _ H => newC false [(AV.int .i64 0), (AV.int .i64 0), (AV.str []), (AV.str []), (AV.bool false), AV.nils, AV.nils, AV.nils] H) (.some (o (o (o z)))) Gd.no [],
   .mk (fun _ H => newC false [(AV.int .i64 0), (AV.str []), (AV.int .i64 0), AV.nils] H) (.some (i (o (o z)))) Gd.no [],
   .mk (stR 8 (X.t (o (o (o z)))) (X.t (o (i (o (o (o z))))))) .none Gd.no [],
   .mk (stR 4 (X.t (i (o (o z)))) (X.t (i (i (o (o (o z))))))) .none Gd.no [],
   .mk (mvR (X.t (o (o (i (o (o z))))))) (.some (o (i (o z)))) Gd.no []])
  (.seq (.region [.mk (ldR true 8 (X.t (i (o z)))) (.some (o (i (i (o (o z)))))) Gd.no [],
   .mk (buildR [(AV.str []), (AV.str [])] []) (.some (i (i (i (o (o z)))))) Gd.no [],
   .mk (callS Tryz.prog 25 [(X.t (o (i (i (o (o z)))))), (X.t (i (i (i (o (o z)))))), (X.c AV.nils), (X.c (AV.int .i64 9))]) (.some (o (o (o (i (o z)))))) Gd.no [],
   .mk (mvR (X.t (o (o (o (i (o z))))))) (.some (i (o (i (o (o z)))))) Gd.no [],
   .mk (extR (X.t (i (o (i (o (o z)))))) 0) (.some (i (o (o (i (o z)))))) Gd.no [],
   .mk (extR (X.t (i (o (i (o (o z)))))) 1) (.some (o (i (o (i (o z)))))) Gd.no [],
   .mk (mvR (X.t (i (o (o (i (o z))))))) (.some (i (i (o z)))) Gd.no [],
   .mk (mvR (X.t (o (i (o (i (o z))))))) (.some (o (o (i z)))) Gd.no []])
  (.seq (.region [.mk (ldR true 8 (X.t (i (o z)))) (.some (o (o (i (i (o z)))))) Gd.no [],
   .mk (buildR [(AV.int .i64 0), (AV.str []), (AV.str []), (AV.str []), (AV.int .i64 0), AV.nils] [(0, (1, (X.c (AV.int .i64 1)))), (1, (1, (X.c (AV.str [98]))))]) (.some (i (o (i (i (o z)))))) Gd.no [],
   .mk (callS Tryz.prog 21 [(X.t (o (o (i (i (o z)))))), (X.t (i (o (i (i (o z))))))]) (.some (o (i (i (i (o z)))))) Gd.no [],
   .mk (mvR (X.t (o (i (i (i (o z))))))) (.some (i (i (o (i (o z)))))) Gd.no [],
   .mk (extR (X.t (i (i (o (i (o z)))))) 0) (.some (i (i (i (i (o z)))))) Gd.no [],
   .mk (extR (X.t (i (i (o (i (o z)))))) 1) (.some (o (o (o (o (i z)))))) Gd.no [],
   .mk (fun _ H => newC false [(AV.int .i64 0), (AV.int .i64 0), (AV.str []), (AV.str []), (AV.bool false), AV.nils, AV.nils, AV.nils] H) (.some (i (o (i z)))) Gd.no [],
   .mk (fun _ H => newC false [(AV.int .i64 0), (AV.str []), (AV.int .i64 0), AV.nils] H) (.some (o (i (i z)))) Gd.no [],
   .mk (stR 8 (X.t (i (o (i z)))) (X.t (i (i (i (i (o z))))))) .none Gd.no [],
   .mk (stR 4 (X.t (o (i (i z)))) (X.t (o (o (o (o (i z))))))) .none Gd.no []])
  (.seq (.region [.mk (ldR true 8 (X.t (o z))) (.some (i (o (o (o (i z)))))) Gd.no [],
   .mk (callS Tryz.prog 22 [(X.t (i (o (o (o (i z))))))]) (.some (o (i (o (o (i z)))))) Gd.no [],
   .mk (mvR (X.t (o (i (o (o (i z))))))) (.some (i (i (o (o (i z)))))) Gd.no [],
   .mk (ldR true 8 (X.t (i (o z)))) (.some (o (o (i (o (i z)))))) (Gd.on (i (i (o (o (i z))))) true) [],
   .mk (callS Tryz.prog 22 [(X.t (o (o (i (o (i z))))))]) (.some (i (o (i (o (i z)))))) (Gd.on (i (i (o (o (i z))))) true) [],
   .mk (pickR (X.t (i (i (o (o (i z)))))) (X.t (i (o (i (o (i z)))))) (X.c (AV.bool false))) (.some (o (i (i (o (i z)))))) Gd.no [],
   .mk (mvR (X.t (o (i (i (o (i z))))))) (.some (i (i (i (o (i z)))))) Gd.no [],
   .mk (faR 2 (X.t (o (o z)))) (.some (o (o (o (i (i z)))))) (Gd.on (i (i (i (o (i z))))) true) [],
   .mk (ldR false 1 (X.t (o (o (o (i (i z))))))) (.some (i (o (o (i (i z)))))) (Gd.on (i (i (i (o (i z))))) true) [],
   .mk (binR Tryz.prog EK.no .none true BinOp.eql (X.t (i (o (o (i (i z)))))) (X.c (AV.int .i64 1))) (.some (o (i (o (i (i z)))))) (Gd.on (i (i (i (o (i z))))) true) [],
   .mk (pickR (X.t (i (i (i (o (i z)))))) (X.t (o (i (o (i (i z)))))) (X.c (AV.bool false))) (.some (i (i (o (i (i z)))))) Gd.no [],
   .mk (mvR (X.t (i (i (o (i (i z))))))) (.some (o (o (i (i (i z)))))) Gd.no [],
   .mk (faR 2 (X.t (o (i z)))) (.some (i (o (i (i (i z)))))) (Gd.on (o (o (i (i (i z))))) true) [],
   .mk (ldR false 1 (X.t (i (o (i (i (i z))))))) (.some (o (i (i (i (i z)))))) (Gd.on (o (o (i (i (i z))))) true) [],
   .mk (binR Tryz.prog EK.no .none true BinOp.eql (X.t (o (i (i (i (i z)))))) (X.c (AV.int .i64 2))) (.some (i (i (i (i (i z)))))) (Gd.on (o (o (i (i (i z))))) true) [],
   .mk (pickR (X.t (o (o (i (i (i z)))))) (X.t (i (i (i (i (i z)))))) (X.c (AV.bool false))) (.some (o (o (o (o (o (o z))))))) Gd.no [],
   .mk (mvR (X.t (o (o (o (o (o (o z)))))))) (.some (i (o (o (o (o (o z))))))) Gd.no [],
   .mk (mvR (X.t (i (i z)))) (.some (o (i (o (o (o (o z))))))) (Gd.on (i (o (o (o (o (o z)))))) true) [],
   .mk (binR Tryz.prog EK.no .none true BinOp.eql (X.t (o (i (o (o (o (o z))))))) (X.c (AV.int .i64 0))) (.some (i (i (o (o (o (o z))))))) (Gd.on (i (o (o (o (o (o z)))))) true) [],
   .mk (pickR (X.t (i (o (o (o (o (o z))))))) (X.t (i (i (o (o (o (o z))))))) (X.c (AV.bool false))) (.some (o (o (i (o (o (o z))))))) Gd.no [],
   .mk (mvR (X.t (o (o (i (o (o (o z)))))))) (.some (i (o (i (o (o (o z))))))) Gd.no [],
   .mk (mvR (X.t (o (i (o z))))) (.some (o (i (i (o (o (o z))))))) (Gd.on (i (o (i (o (o (o z)))))) true) [],
   .mk (binR Tryz.prog EK.no .none true BinOp.eql (X.t (o (i (i (o (o (o z))))))) (X.c (AV.int .i64 1))) (.some (i (i (i (o (o (o z))))))) (Gd.on (i (o (i (o (o (o z)))))) true) [],
   .mk (pickR (X.t (i (o (i (o (o (o z))))))) (X.t (i (i (i (o (o (o z))))))) (X.c (AV.bool false))) (.some (o (o (o (i (o (o z))))))) Gd.no [],
   .mk (mvR (X.t (o (o (o (i (o (o z)))))))) (.some (i (o (o (i (o (o z))))))) Gd.no [],
   .mk (faR 2 (X.t (i (o (o z))))) (.some (o (i (o (i (o (o z))))))) (Gd.on (i (o (o (i (o (o z)))))) true) [],
   .mk (ldR false 1 (X.t (o (i (o (i (o (o z)))))))) (.some (i (i (o (i (o (o z))))))) (Gd.on (i (o (o (i (o (o z)))))) true) [],
   .mk (binR Tryz.prog EK.no .none true BinOp.eql (X.t (i (i (o (i (o (o z))))))) (X.c (AV.int .i64 2))) (.some (o (o (i (i (o (o z))))))) (Gd.on (i (o (o (i (o (o z)))))) true) [],
   .mk (pickR (X.t (i (o (o (i (o (o z))))))) (X.t (o (o (i (i (o (o z))))))) (X.c (AV.bool false))) (.some (i (o (i (i (o (o z))))))) Gd.no [],
   .mk (mvR (X.t (i (o (i (i (o (o z)))))))) (.some (o (i (i (i (o (o z))))))) Gd.no [],
   .mk (mvR (X.t (i (i (o z))))) (.some (i (i (i (i (o (o z))))))) (Gd.on (o (i (i (i (o (o z)))))) true) [],
   .mk (lenR LnK.slice (X.t (i (i (i (i (o (o z)))))))) (.some (o (o (o (o (i (o z))))))) (Gd.on (o (i (i (i (o (o z)))))) true) [],
   .mk (binR Tryz.prog EK.no .none true BinOp.eql (X.t (o (o (o (o (i (o z))))))) (X.c (AV.int .i64 2))) (.some (i (o (o (o (i (o z))))))) (Gd.on (o (i (i (i (o (o z)))))) true) [],
   .mk (pickR (X.t (o (i (i (i (o (o z))))))) (X.t (i (o (o (o (i (o z))))))) (X.c (AV.bool false))) (.some (o (i (o (o (i (o z))))))) Gd.no [],
   .mk (mvR (X.t (o (i (o (o (i (o z)))))))) (.some (i (i (o (o (i (o z))))))) Gd.no [],
   .mk (mvR (X.t (o (o (i z))))) (.some (o (o (i (o (i (o z))))))) (Gd.on (i (i (o (o (i (o z)))))) true) [],
   .mk (unR UnOp.not (X.t (o (o (i (o (i (o z)))))))) (.some (i (o (i (o (i (o z))))))) (Gd.on (i (i (o (o (i (o z)))))) true) [],
   .mk (pickR (X.t (i (i (o (o (i (o z))))))) (X.t (i (o (i (o (i (o z))))))) (X.c (AV.bool false))) (.some (o (i (i (o (i (o z))))))) Gd.no [],
   .mk (mvR (X.t (o (i (i (o (i (o z)))))))) (.some (i (i (i (o (i (o z))))))) Gd.no [],
   .mk (faR 0 (X.t (o (i (i z))))) (.some (o (o (o (i (i (o z))))))) (Gd.on (i (i (i (o (i (o z)))))) true) [],
   .mk (ldR false 1 (X.t (o (o (o (i (i (o z)))))))) (.some (i (o (o (i (i (o z))))))) (Gd.on (i (i (i (o (i (o z)))))) true) [],
   .mk (binR Tryz.prog EK.no .none true BinOp.eql (X.t (i (o (o (i (i (o z))))))) (X.c (AV.int .i64 14))) (.some (o (i (o (i (i (o z))))))) (Gd.on (i (i (i (o (i (o z)))))) true) [],
   .mk (pickR (X.t (i (i (i (o (i (o z))))))) (X.t (o (i (o (i (i (o z))))))) (X.c (AV.bool false))) (.some (i (i (o (i (i (o z))))))) Gd.no [],
   .mk (mvR (X.t (i (i (o (i (i (o z)))))))) (.some (o (o (i (i (i (o z))))))) Gd.no [],
   .mk (ldR true 8 (X.t (o z))) (.some (i (o (i (i (i (o z))))))) (Gd.on (o (o (i (i (i (o z)))))) true) [],
   .mk (ldR true 8 (X.t (i z))) (.some (o (i (i (i (i (o z))))))) (Gd.on (o (o (i (i (i (o z)))))) true) [],
   .mk (callS Tryz.prog 52 [(X.t (i (o (i (i (i (o z))))))), (X.t (o (i (i (i (i (o z)))))))]) (.some (i (i (i (i (i (o z))))))) (Gd.on (o (o (i (i (i (o z)))))) true) [],
   .mk (unR UnOp.not (X.t (i (i (i (i (i (o z)))))))) (.some (o (o (o (o (o (i z))))))) (Gd.on (o (o (i (i (i (o z)))))) true) [],
   .mk (pickR (X.t (o (o (i (i (i (o z))))))) (X.t (o (o (o (o (o (i z))))))) (X.c (AV.bool false))) (.some (i (o (o (o (o (i z))))))) Gd.no [],
   .mk (mvR (X.t (i (o (o (o (o (i z)))))))) (.some (o (i (o (o (o (i z))))))) Gd.no [],
   .mk (ldR true 8 (X.t (o z))) (.some (i (i (o (o (o (i z))))))) (Gd.on (o (i (o (o (o (i z)))))) true) [],
   .mk (ldR true 8 (X.t (o z))) (.some (o (o (i (o (o (i z))))))) (Gd.on (o (i (o (o (o (i z)))))) true) [],
   .mk (callS Tryz.prog 52 [(X.t (i (i (o (o (o (i z))))))), (X.t (o (o (i (o (o (i z)))))))]) (.some (i (o (i (o (o (i z))))))) (Gd.on (o (i (o (o (o (i z)))))) true) [],
   .mk (pickR (X.t (o (i (o (o (o (i z))))))) (X.t (i (o (i (o (o (i z))))))) (X.c (AV.bool false))) (.some (o (i (i (o (o (i z))))))) Gd.no [],
   .mk (mvR (X.t (o (i (i (o (o (i z)))))))) (.some z) Gd.no []])
  .ret))))))))
theorem C18ok : (match Tryz.f18.body with | some c => comp Tryz.prog 102 c | none => none) = some C18 := by kernel_rfl
@[go_sem] theorem call18 (args : List AV) (H : Heap) : callC Tryz.prog 18 args H = .call 18 args := callC_ok (by kernel_rfl) args H
theorem R18ok : resKs Tryz.prog Tryz.f18.results.toList = some [(RK.tmp z)] := by kernel_rfl

noncomputable def C19L0 : CC :=
  (.seq (.seq (.region [.mk (mvR (X.t (o (o z)))) (.some (i (o z))) Gd.no [],
   .mk (mvR (X.t z)) (.some (o (i z))) Gd.no [],
   .mk (lenR LnK.slice (X.t (o (i z)))) (.some (i (i z))) Gd.no [],
   .mk (binR Tryz.prog EK.no .none false BinOp.lss (X.t (i (o z))) (X.t (i (i z)))) (.some (o (o (o z)))) Gd.no []])
  (.cond (X.t (o (o (o z))))
  .skip
  (.exit 0)))
  (.seq (.block 1 (.seq (.region [.mk (mvR (X.t z)) (.some (i (i (o z)))) Gd.no [],
   .mk (mvR (X.t (o (o z)))) (.some (o (o (i z)))) Gd.no [],
   .mk (iaS 8 (X.t (i (i (o z)))) (X.t (o (o (i z))))) (.some (i (o (i z)))) Gd.no [],
   .mk (faR 2 (X.t (i (o (i z))))) (.some (o (i (i z)))) Gd.no [],
   .mk (faR 1 (X.t (o (i (i z))))) (.some (i (i (i z)))) Gd.no [],
   .mk (ldR false 1 (X.t (i (i (i z))))) (.some (o (o (o (o z))))) Gd.no [],
   .mk (lenR LnK.str (X.t (o (o (o (o z)))))) (.some (i (o (o (o z))))) Gd.no [],
   .mk (binR Tryz.prog EK.no .none true BinOp.gtr (X.t (i (o (o (o z))))) (X.c (AV.int .i64 20))) (.some (o (i (o (o z))))) Gd.no [],
   .mk (mvR (X.t (o (i (o (o z)))))) (.some (i (i (o (o z))))) Gd.no [],
   .mk (mvR (X.t z)) (.some (o (o (i (o z))))) (Gd.on (i (i (o (o z)))) false) [],
   .mk (mvR (X.t (o (o z)))) (.some (i (o (i (o z))))) (Gd.on (i (i (o (o z)))) false) [],
   .mk (iaS 8 (X.t (o (o (i (o z))))) (X.t (i (o (i (o z)))))) (.some (o (i (i (o z))))) (Gd.on (i (i (o (o z)))) false) [],
   .mk (faR 2 (X.t (o (i (i (o z)))))) (.some (i (i (i (o z))))) (Gd.on (i (i (o (o z)))) false) [],
   .mk (faR 2 (X.t (i (i (i (o z)))))) (.some (o (o (o (i z))))) (Gd.on (i (i (o (o z)))) false) [],
   .mk (ldR false 1 (X.t (o (o (o (i z)))))) (.some (i (o (o (i z))))) (Gd.on (i (i (o (o z)))) false) [],
   .mk (lenR LnK.str (X.t (i (o (o (i z)))))) (.some (o (i (o (i z))))) (Gd.on (i (i (o (o z)))) false) [],
   .mk (binR Tryz.prog EK.no .none true BinOp.gtr (X.t (o (i (o (i z))))) (X.c (AV.int .i64 20))) (.some (i (i (o (i z))))) (Gd.on (i (i (o (o z)))) false) [],
   .mk (pickR (X.t (i (i (o (o z))))) (X.c (AV.bool true)) (X.t (i (i (o (i z)))))) (.some (o (o (i (i z))))) Gd.no [],
   .mk (mvR (X.t (o (o (i (i z)))))) (.some (i (o (i (i z))))) Gd.no [],
   .mk (mvR (X.t z)) (.some (o (i (i (i z))))) (Gd.on (i (o (i (i z)))) false) [],
   .mk (mvR (X.t (o (o z)))) (.some (i (i (i (i z))))) (Gd.on (i (o (i (i z)))) false) [],
   .mk (iaS 8 (X.t (o (i (i (i z))))) (X.t (i (i (i (i z)))))) (.some (o (o (o (o (o z)))))) (Gd.on (i (o (i (i z)))) false) [],
   .mk (faR 2 (X.t (o (o (o (o (o z))))))) (.some (i (o (o (o (o z)))))) (Gd.on (i (o (i (i z)))) false) [],
   .mk (faR 3 (X.t (i (o (o (o (o z))))))) (.some (o (i (o (o (o z)))))) (Gd.on (i (o (i (i z)))) false) [],
   .mk (ldR false 1 (X.t (o (i (o (o (o z))))))) (.some (i (i (o (o (o z)))))) (Gd.on (i (o (i (i z)))) false) [],
   .mk (lenR LnK.str (X.t (i (i (o (o (o z))))))) (.some (o (o (i (o (o z)))))) (Gd.on (i (o (i (i z)))) false) [],
   .mk (binR Tryz.prog EK.no .none true BinOp.gtr (X.t (o (o (i (o (o z)))))) (X.c (AV.int .i64 60))) (.some (i (o (i (o (o z)))))) (Gd.on (i (o (i (i z)))) false) [],
   .mk (pickR (X.t (i (o (i (i z))))) (X.c (AV.bool true)) (X.t (i (o (i (o (o z))))))) (.some (o (i (i (o (o z)))))) Gd.no [],
   .mk (mvR (X.t (o (i (i (o (o z))))))) (.some (i (i (i (o (o z)))))) Gd.no [],
   .mk (mvR (X.t z)) (.some (o (o (o (i (o z)))))) (Gd.on (i (i (i (o (o z))))) false) [],
   .mk (mvR (X.t (o (o z)))) (.some (i (o (o (i (o z)))))) (Gd.on (i (i (i (o (o z))))) false) [],
   .mk (iaS 8 (X.t (o (o (o (i (o z)))))) (X.t (i (o (o (i (o z))))))) (.some (o (i (o (i (o z)))))) (Gd.on (i (i (i (o (o z))))) false) [],
   .mk (faR 2 (X.t (o (i (o (i (o z))))))) (.some (i (i (o (i (o z)))))) (Gd.on (i (i (i (o (o z))))) false) [],
   .mk (faR 5 (X.t (i (i (o (i (o z))))))) (.some (o (o (i (i (o z)))))) (Gd.on (i (i (i (o (o z))))) false) [],
   .mk (ldR false 1 (X.t (o (o (i (i (o z))))))) (.some (i (o (i (i (o z)))))) (Gd.on (i (i (i (o (o z))))) false) [],
   .mk (lenR LnK.slice (X.t (i (o (i (i (o z))))))) (.some (o (i (i (i (o z)))))) (Gd.on (i (i (i (o (o z))))) false) [],
   .mk (binR Tryz.prog EK.no .none true BinOp.gtr (X.t (o (i (i (i (o z)))))) (X.c (AV.int .i64 8))) (.some (i (i (i (i (o z)))))) (Gd.on (i (i (i (o (o z))))) false) [],
   .mk (pickR (X.t (i (i (i (o (o z)))))) (X.c (AV.bool true)) (X.t (i (i (i (i (o z))))))) (.some (o (o (o (o (i z)))))) Gd.no []])
  (.cond (X.t (o (o (o (o (i z))))))
  (.seq (.region [.mk (mvR (X.c (AV.bool false))) (.some (i z)) Gd.no []])
  .ret)
  .skip)))
  (.region [.mk (mvR (X.t (o (o z)))) (.some (i (o (o z)))) Gd.no [],
   .mk (binR Tryz.prog EK.no .none true BinOp.add (X.t (i (o (o z)))) (X.c (AV.int .i64 1))) (.some (o (i (o z)))) Gd.no [],
   .mk (mvR (X.t (o (i (o z))))) (.some (o (o z))) Gd.no []])))
noncomputable def C19 : CC :=
  (.seq (.region [.mk (mvR (X.c (AV.bool false))) (.some (i z)) Gd.no []])
  (.seq (.seq (.region [.mk (mvR (X.c (AV.int .i64 0))) (.some (o (o z))) Gd.no []])
  (.block 0 (.loop C19L0)))
  (.seq (.region [.mk (mvR (X.t z)) (.some (i (o (o (o (i z)))))) Gd.no [],
   .mk (lenR LnK.slice (X.t (i (o (o (o (i z))))))) (.some (o (i (o (o (i z)))))) Gd.no [],
   .mk (binR Tryz.prog EK.no .none true BinOp.leq (X.t (o (i (o (o (i z)))))) (X.c (AV.int .i64 60))) (.some (i (i (o (o (i z)))))) Gd.no [],
   .mk (mvR (X.t (i (i (o (o (i z))))))) (.some (i z)) Gd.no []])
  .ret)))
theorem C19ok : (match Tryz.f19.body with | some c => comp Tryz.prog 51 c | none => none) = some C19 := by kernel_rfl
@[go_sem] theorem call19 (args : List AV) (H : Heap) : callC Tryz.prog 19 args H = .call 19 args := callC_ok (by kernel_rfl) args H
theorem R19ok : resKs Tryz.prog Tryz.f19.results.toList = some [(RK.tmp (i z))] := by kernel_rfl

noncomputable def C21 : CC :=
  (.seq (.region [.mk (boxR false (X.t z)) (.some (i z)) Gd.no [],
   .mk (boxR false (X.t (o z))) (.some (o (o z))) Gd.no [],
   .mk (fun _ H => newC false [(AV.int .i64 0), (AV.int .i64 0), (AV.str []), (AV.str []), (AV.bool false), AV.nils, AV.nils, AV.nils] H) (.some (i (o z))) Gd.no [],
   .mk (fun _ H => newC false [(AV.int .i64 0), (AV.str []), (AV.int .i64 0), AV.nils] H) (.some (o (i z))) Gd.no []])
  (.seq (.seq (.region [.mk (ldR true 6 (X.t (o (o z)))) (.some (i (i z))) Gd.no [],
   .mk (callS Tryz.prog 53 [(X.t (i (i z)))]) (.some (o (o (o z)))) Gd.no [],
   .mk (unR UnOp.not (X.t (o (o (o z))))) (.some (i (o (o z)))) Gd.no []])
  (.cond (X.t (i (o (o z))))
  (.seq (.region [.mk (ldR true 8 (X.t (i z))) (.some (o (i (o z)))) Gd.no [],
   .mk (buildR [(AV.int .i64 0), (AV.str []), (AV.int .i64 0), AV.nils] [(0, (1, (X.c (AV.int .i64 10))))]) (.some (i (i (o z)))) Gd.no [],
   .mk (stR 8 (X.t (i (o z))) (X.t (o (i (o z))))) .none Gd.no [],
   .mk (stR 4 (X.t (o (i z))) (X.t (i (i (o z))))) .none Gd.no []])
  .ret)
  .skip))
  (.seq (.seq (.region [.mk (faR 0 (X.t (o (o z)))) (.some (o (o (i z)))) Gd.no [],
   .mk (ldR false 1 (X.t (o (o (i z))))) (.some (i (o (i z)))) Gd.no []])
  (.block 0 (.seq (.region [.mk (binR Tryz.prog EK.no .none true BinOp.eql (X.t (i (o (i z)))) (X.c (AV.int .i64 1))) (.some (i (i (i z)))) Gd.no [],
   .mk (mvR (X.t (i (i (i z))))) (.some (o (i (i z)))) Gd.no []])
  (.cond (X.t (o (i (i z))))
  (.seq (.regionD [.mk (keepH (faR 1 (X.t (o (o z))))) (.some (o (i (o (o z))))) Gd.no [],
   .mk (keepH (ldR false 1 (X.t (o (i (o (o z))))))) (.some (i (i (o (o z))))) Gd.no [],
   .mk (keepH (ldR true 8 (X.t (i z)))) (.some (i (o (o (o z))))) Gd.no [],
   .mk (keepH (ldR true 8 (X.t (i z)))) (.some (o (o (o (o z))))) Gd.no [],
   .mk (callS Tryz.prog 54 [(X.t (i (o (o (o z))))), (X.t (i (i (o (o z)))))]) (.some (o (o (i (o z))))) Gd.no [.mk (ldR true 8 (X.t (i z))) (.some (o (o (o (o z))))) Gd.no],
   .mk (stR 8 (X.t (i (o z))) (X.t (o (o (o (o z)))))) .none Gd.no [],
   .mk (stR 4 (X.t (o (i z))) (X.t (o (o (i (o z)))))) .none Gd.no []])
  .ret)
  (.seq (.seq (.region [.mk (binR Tryz.prog EK.no .none true BinOp.eql (X.t (i (o (i z)))) (X.c (AV.int .i64 2))) (.some (o (i (i (o z))))) Gd.no [],
   .mk (mvR (X.t (o (i (i (o z)))))) (.some (i (o (i (o z))))) Gd.no []])
  (.cond (X.t (i (o (i (o z)))))
  .skip
  (.region [.mk (binR Tryz.prog EK.no .none true BinOp.eql (X.t (i (o (i z)))) (X.c (AV.int .i64 3))) (.some (i (i (i (o z))))) Gd.no [],
   .mk (mvR (X.t (i (i (i (o z)))))) (.some (i (o (i (o z))))) Gd.no []])))
  (.cond (X.t (i (o (i (o z)))))
  (.seq (.region [.mk (ldR true 8 (X.t (i z))) (.some (o (o (o (i z))))) Gd.no [],
   .mk (faR 1 (X.t (o (o z)))) (.some (i (o (o (i z))))) Gd.no [],
   .mk (ldR false 1 (X.t (i (o (o (i z)))))) (.some (o (i (o (i z))))) Gd.no [],
   .mk (faR 3 (X.t (o (o z)))) (.some (i (i (o (i z))))) Gd.no [],
   .mk (ldR false 1 (X.t (i (i (o (i z)))))) (.some (o (o (i (i z))))) Gd.no [],
   .mk (faR 0 (X.t (o (o z)))) (.some (i (o (i (i z))))) Gd.no [],
   .mk (ldR false 1 (X.t (i (o (i (i z)))))) (.some (o (i (i (i z))))) Gd.no [],
   .mk (binR Tryz.prog EK.no .none true BinOp.eql (X.t (o (i (i (i z))))) (X.c (AV.int .i64 3))) (.some (i (i (i (i z))))) Gd.no [],
   .mk (callS Tryz.prog 55 [(X.t (o (o (o (i z))))), (X.t (o (i (o (i z))))), (X.t (o (o (i (i z))))), (X.t (i (i (i (i z)))))]) (.some (o (o (o (o (o z)))))) Gd.no [],
   .mk (extR (X.t (o (o (o (o (o z)))))) 0) (.some (i (o (o (o (o z)))))) Gd.no [],
   .mk (extR (X.t (o (o (o (o (o z)))))) 1) (.some (o (i (o (o (o z)))))) Gd.no [],
   .mk (stR 8 (X.t (i (o z))) (X.t (i (o (o (o (o z))))))) .none Gd.no [],
   .mk (stR 4 (X.t (o (i z))) (X.t (o (i (o (o (o z))))))) .none Gd.no []])
  .ret)
  (.seq (.region [.mk (binR Tryz.prog EK.no .none true BinOp.eql (X.t (i (o (i z)))) (X.c (AV.int .i64 4))) (.some (o (o (i (o (o z)))))) Gd.no [],
   .mk (mvR (X.t (o (o (i (o (o z))))))) (.some (i (i (o (o (o z)))))) Gd.no []])
  (.cond (X.t (i (i (o (o (o z))))))
  (.seq (.region [.mk (ldR true 8 (X.t (i z))) (.some (i (o (i (o (o z)))))) Gd.no [],
   .mk (ldR true 6 (X.t (o (o z)))) (.some (o (i (i (o (o z)))))) Gd.no [],
   .mk (callS Tryz.prog 56 [(X.t (i (o (i (o (o z)))))), (X.t (o (i (i (o (o z))))))]) (.some (i (i (i (o (o z)))))) Gd.no [],
   .mk (extR (X.t (i (i (i (o (o z)))))) 0) (.some (o (o (o (i (o z)))))) Gd.no [],
   .mk (extR (X.t (i (i (i (o (o z)))))) 1) (.some (i (o (o (i (o z)))))) Gd.no [],
   .mk (stR 8 (X.t (i (o z))) (X.t (o (o (o (i (o z))))))) .none Gd.no [],
   .mk (stR 4 (X.t (o (i z))) (X.t (i (o (o (i (o z))))))) .none Gd.no []])
  .ret)
  (.seq (.region [.mk (binR Tryz.prog EK.no .none true BinOp.eql (X.t (i (o (i z)))) (X.c (AV.int .i64 5))) (.some (i (i (o (i (o z)))))) Gd.no [],
   .mk (mvR (X.t (i (i (o (i (o z))))))) (.some (o (i (o (i (o z)))))) Gd.no []])
  (.cond (X.t (o (i (o (i (o z))))))
  (.seq (.regionD [.mk (keepH (ldR true 6 (X.t (o (o z))))) (.some (o (i (i (i (o z)))))) Gd.no [],
   .mk (keepH (ldR true 8 (X.t (i z)))) (.some (i (o (i (i (o z)))))) Gd.no [],
   .mk (keepH (ldR true 8 (X.t (i z)))) (.some (o (o (i (i (o z)))))) Gd.no [],
   .mk (callS Tryz.prog 57 [(X.t (i (o (i (i (o z)))))), (X.t (o (i (i (i (o z))))))]) (.some (i (i (i (i (o z)))))) Gd.no [.mk (ldR true 8 (X.t (i z))) (.some (o (o (i (i (o z)))))) Gd.no],
   .mk (stR 8 (X.t (i (o z))) (X.t (o (o (i (i (o z))))))) .none Gd.no [],
   .mk (stR 4 (X.t (o (i z))) (X.t (i (i (i (i (o z))))))) .none Gd.no []])
  .ret)
  (.seq (.region [.mk (binR Tryz.prog EK.no .none true BinOp.eql (X.t (i (o (i z)))) (X.c (AV.int .i64 6))) (.some (i (o (o (o (i z)))))) Gd.no [],
   .mk (mvR (X.t (i (o (o (o (i z))))))) (.some (o (o (o (o (i z)))))) Gd.no []])
  (.cond (X.t (o (o (o (o (i z))))))
  (.seq (.region [.mk (ldR true 8 (X.t (i z))) (.some (o (i (o (o (i z)))))) Gd.no [],
   .mk (faR 5 (X.t (o (o z)))) (.some (i (i (o (o (i z)))))) Gd.no [],
   .mk (ldR false 1 (X.t (i (i (o (o (i z))))))) (.some (o (o (i (o (i z)))))) Gd.no [],
   .mk (callS Tryz.prog 58 [(X.t (o (i (o (o (i z)))))), (X.t (o (o (i (o (i z))))))]) (.some (i (o (i (o (i z)))))) Gd.no [],
   .mk (extR (X.t (i (o (i (o (i z)))))) 0) (.some (o (i (i (o (i z)))))) Gd.no [],
   .mk (extR (X.t (i (o (i (o (i z)))))) 1) (.some (i (i (i (o (i z)))))) Gd.no [],
   .mk (stR 8 (X.t (i (o z))) (X.t (o (i (i (o (i z))))))) .none Gd.no [],
   .mk (stR 4 (X.t (o (i z))) (X.t (i (i (i (o (i z))))))) .none Gd.no []])
  .ret)
  .skip))))))))))))
  (.seq (.region [.mk (ldR true 8 (X.t (i z))) (.some (o (o (o (i (i z)))))) Gd.no [],
   .mk (faR 4 (X.t (o (o z)))) (.some (i (o (o (i (i z)))))) Gd.no [],
   .mk (ldR false 1 (X.t (i (o (o (i (i z))))))) (.some (o (i (o (i (i z)))))) Gd.no [],
   .mk (callS Tryz.prog 59 [(X.t (o (o (o (i (i z)))))), (X.t (o (i (o (i (i z))))))]) (.some (i (i (o (i (i z)))))) Gd.no [],
   .mk (extR (X.t (i (i (o (i (i z)))))) 0) (.some (o (o (i (i (i z)))))) Gd.no [],
   .mk (extR (X.t (i (i (o (i (i z)))))) 1) (.some (i (o (i (i (i z)))))) Gd.no [],
   .mk (stR 8 (X.t (i (o z))) (X.t (o (o (i (i (i z))))))) .none Gd.no [],
   .mk (stR 4 (X.t (o (i z))) (X.t (i (o (i (i (i z))))))) .none Gd.no []])
  .ret))))
theorem C21ok : (match Tryz.f21.body with | some c => comp Tryz.prog 61 c | none => none) = some C21 := by kernel_rfl
@[go_sem] theorem call21 (args : List AV) (H : Heap) : callC Tryz.prog 21 args H = .call 21 args := callC_ok (by kernel_rfl) args H
theorem R21ok : resKs Tryz.prog Tryz.f21.results.toList = some [(RK.cell (i (o z)) true 8), (RK.cell (o (i z)) true 4)] := by kernel_rfl

noncomputable def C23 : CC :=
  (.seq (.region [.mk (boxR false (X.t z)) (.some (i (o z))) Gd.no [],
   .mk (boxR false (X.t (o (o z)))) (.some (o (o (o z)))) Gd.no [],
   .mk (fun _ H => newC false [(AV.int .i64 0), (AV.int .i64 0), (AV.str []), (AV.str []), (AV.bool false), AV.nils, AV.nils, AV.nils] H) (.some (i (o (o z)))) Gd.no [],
   .mk (fun _ H => newC false [(AV.int .i64 0), (AV.str []), (AV.int .i64 0), AV.nils] H) (.some (o (i (o z)))) Gd.no [],
   .mk (mvR (X.c (AV.int .i64 0))) (.some (i (i (o z)))) Gd.no []])
  (.seq (.seq (.region [.mk (faR 7 (X.t (i (o z)))) (.some (o (o (o (o z))))) Gd.no [],
   .mk (ldR false 1 (X.t (o (o (o (o z)))))) (.some (i (o (o (o z))))) Gd.no [],
   .mk (mvR (X.t (o z))) (.some (o (i (o (o z))))) Gd.no [],
   .mk (mvR (X.t (i z))) (.some (i (i (o (o z))))) Gd.no [],
   .mk (callS Tryz.prog 66 [(X.t (i (o (o (o z))))), (X.t (o (i (o (o z))))), (X.t (i (i (o (o z)))))]) (.some (o (o (i (o z))))) Gd.no [],
   .mk (mvR (X.t (o (o (i (o z)))))) (.some (i (i (i z)))) Gd.no [],
   .mk (extR (X.t (i (i (i z)))) 0) (.some (i (o (i (o z))))) Gd.no [],
   .mk (extR (X.t (i (i (i z)))) 1) (.some (o (i (i (o z))))) Gd.no [],
   .mk (fun _ H => newC false [(AV.int .i64 0), (AV.str []), (AV.int .i64 0), AV.nils] H) (.some (o (o (i z)))) Gd.no [],
   .mk (stR 4 (X.t (o (o (i z)))) (X.t (i (o (i (o z)))))) .none Gd.no [],
   .mk (mvR (X.t (o (i (i (o z)))))) (.some (i (o (i z)))) Gd.no []])
  (.seq (.region [.mk (mvR (X.t (i (o (i z))))) (.some (i (i (i (o z))))) Gd.no [],
   .mk (binR Tryz.prog EK.no .none true BinOp.gtr (X.t (i (i (i (o z))))) (X.c (AV.int .i64 0))) (.some (o (o (o (i z))))) Gd.no []])
  (.cond (X.t (o (o (o (i z)))))
  (.seq (.regionD [.mk (keepH (mvR (X.t (i (o (i z)))))) (.some (i (i (o (i z))))) Gd.no [],
   .mk (keepH (ldR true 4 (X.t (o (o (i z)))))) (.some (o (i (o (i z))))) Gd.no [],
   .mk (keepH (ldR true 8 (X.t (i (o z))))) (.some (i (o (o (i z))))) Gd.no [],
   .mk (stR 8 (X.t (i (o (o z)))) (X.t (i (o (o (i z)))))) .none Gd.no [.mk (ldR true 4 (X.t (o (o (i z))))) (.some (o (i (o (i z))))) Gd.no, .mk (mvR (X.t (i (o (i z))))) (.some (i (i (o (i z))))) Gd.no],
   .mk (stR 4 (X.t (o (i (o z)))) (X.t (o (i (o (i z)))))) .none Gd.no [.mk (mvR (X.t (i (o (i z))))) (.some (i (i (o (i z))))) Gd.no],
   .mk (mvR (X.t (i (i (o (i z)))))) (.some (i (i (o z)))) Gd.no []])
  .ret)
  .skip)))
  (.seq (.region [.mk (ldR true 8 (X.t (i (o z)))) (.some (i (o (i (i z))))) Gd.no [],
   .mk (ldR true 6 (X.t (o (o (o z))))) (.some (o (i (i (i z))))) Gd.no [],
   .mk (callS Tryz.prog 21 [(X.t (i (o (i (i z))))), (X.t (o (i (i (i z)))))]) (.some (i (i (i (i z))))) Gd.no [],
   .mk (mvR (X.t (i (i (i (i z)))))) (.some (o (o (i (i z))))) Gd.no [],
   .mk (extR (X.t (o (o (i (i z))))) 0) (.some (o (o (o (o (o z)))))) Gd.no [],
   .mk (extR (X.t (o (o (i (i z))))) 1) (.some (i (o (o (o (o z)))))) Gd.no [],
   .mk (fun _ H => newC false [(AV.int .i64 0), (AV.str []), (AV.int .i64 0), AV.nils] H) (.some (o (i (i z)))) Gd.no [],
   .mk (stR 8 (X.t (i (o z))) (X.t (o (o (o (o (o z))))))) .none Gd.no [],
   .mk (stR 4 (X.t (o (i (i z)))) (X.t (i (o (o (o (o z))))))) .none Gd.no []])
  (.seq (.seq (.region [.mk (ldR true 6 (X.t (o (o (o z))))) (.some (o (i (o (o (o z)))))) Gd.no [],
   .mk (callS Tryz.prog 67 [(X.t (o (i (o (o (o z))))))]) (.some (i (i (o (o (o z)))))) Gd.no []])
  (.cond (X.t (i (i (o (o (o z))))))
  (.region [.mk (faR 7 (X.t (i (o z)))) (.some (o (o (i (o (o z)))))) Gd.no [],
   .mk (ldR false 1 (X.t (o (o (i (o (o z))))))) (.some (i (o (i (o (o z)))))) Gd.no [],
   .mk (mvR (X.t (o z))) (.some (o (i (i (o (o z)))))) Gd.no [],
   .mk (mvR (X.t (i z))) (.some (i (i (i (o (o z)))))) Gd.no [],
   .mk (ldR true 4 (X.t (o (i (i z))))) (.some (o (o (o (i (o z)))))) Gd.no [],
   .mk (buildR [(AV.int .i64 0), (AV.int .i64 0), (AV.int .i64 0), (AV.str []), (AV.int .i64 0), AV.nils] [(0, (1, (X.t (o (i (i (o (o z)))))))), (1, (1, (X.t (i (i (i (o (o z)))))))), (2, (4, (X.t (o (o (o (i (o z))))))))]) (.some (i (o (o (i (o z)))))) Gd.no [],
   .mk (callS Tryz.prog 68 [(X.t (i (o (i (o (o z)))))), (X.t (i (o (o (i (o z))))))]) (.some (o (i (o (i (o z)))))) Gd.no [],
   .mk (faR 7 (X.t (i (o z)))) (.some (i (i (o (i (o z)))))) Gd.no [],
   .mk (stR 1 (X.t (i (i (o (i (o z)))))) (X.t (o (i (o (i (o z))))))) .none Gd.no []])
  .skip))
  (.seq (.regionD [.mk (keepH (ldR true 4 (X.t (o (i (i z)))))) (.some (i (o (i (i (o z)))))) Gd.no [],
   .mk (keepH (ldR true 8 (X.t (i (o z))))) (.some (o (o (i (i (o z)))))) Gd.no [],
   .mk (stR 8 (X.t (i (o (o z)))) (X.t (o (o (i (i (o z))))))) .none Gd.no [.mk (ldR true 4 (X.t (o (i (i z))))) (.some (i (o (i (i (o z)))))) Gd.no],
   .mk (stR 4 (X.t (o (i (o z)))) (X.t (i (o (i (i (o z))))))) .none Gd.no [],
   .mk (mvR (X.c (AV.int .i64 0))) (.some (i (i (o z)))) Gd.no []])
  .ret)))))
theorem C23ok : (match Tryz.f23.body with | some c => comp Tryz.prog 45 c | none => none) = some C23 := by kernel_rfl
@[go_sem] theorem call23 (args : List AV) (H : Heap) : callC Tryz.prog 23 args H = .call 23 args := callC_ok (by kernel_rfl) args H
theorem R23ok : resKs Tryz.prog Tryz.f23.results.toList = some [(RK.cell (i (o (o z))) true 8), (RK.cell (o (i (o z))) true 4), (RK.tmp (i (i (o z))))] := by kernel_rfl

@[go_sem] theorem call24 (args : List AV) (H : Heap) : callC Tryz.prog 24 args H = .call 24 args := callC_ok (by kernel_rfl) args H
noncomputable def C25 : CC :=
  (.seq (.region [.mk (boxR false (X.t z)) (.some (i (o z))) Gd.no [],
   .mk (boxR false (X.t (o z))) (.some (o (i z))) Gd.no [],
   .mk (mvR (X.c AV.nils)) (.some (i (o (o z)))) Gd.no [],
   .mk (mvR (X.c (AV.bool false))) (.some (o (i (o z)))) Gd.no []])
  (.seq (.region [.mk (faR 2 (X.t (i (o z)))) (.some (o (i (i z)))) Gd.no [],
   .mk (ldR true 2 (X.t (o (i (i z))))) (.some (i (i (i z)))) Gd.no [],
   .mk (ldR true 2 (X.t (o (i z)))) (.some (o (o (o (o z))))) Gd.no [],
   .mk (callS Tryz.prog 69 [(X.t (i (i (i z)))), (X.t (o (o (o (o z)))))]) (.some (i (o (o (o z))))) Gd.no [],
   .mk (mvR (X.t (i (o (o (o z)))))) (.some (i (o (i z)))) Gd.no [],
   .mk (extR (X.t (i (o (i z)))) 0) (.some (o (i (o (o z))))) Gd.no [],
   .mk (extR (X.t (i (o (i z)))) 1) (.some (i (i (o (o z))))) Gd.no [],
   .mk (fun _ H => newC false [(AV.str []), (AV.str [])] H) (.some (i (i (o z)))) Gd.no [],
   .mk (stR 2 (X.t (i (i (o z)))) (X.t (o (i (o (o z)))))) .none Gd.no [],
   .mk (mvR (X.t (i (i (o (o z)))))) (.some (o (o (i z)))) Gd.no []])
  (.seq (.seq (.region [.mk (mvR (X.t (o (o (i z))))) (.some (o (o (i (o z))))) Gd.no [],
   .mk (unR UnOp.not (X.t (o (o (i (o z)))))) (.some (i (o (i (o z))))) Gd.no []])
  (.cond (X.t (i (o (i (o z)))))
  (.seq (.region [.mk (mvR (X.c AV.nils)) (.some (i (o (o z)))) Gd.no [],
   .mk (mvR (X.c (AV.bool false))) (.some (o (i (o z)))) Gd.no []])
  .ret)
  .skip))
  (.seq (.region [.mk (faR 6 (X.t (i (o z)))) (.some (o (i (i (o z))))) Gd.no [],
   .mk (ldR false 1 (X.t (o (i (i (o z)))))) (.some (i (i (i (o z))))) Gd.no [],
   .mk (faR 5 (X.t (i (o z)))) (.some (o (o (o (i z))))) Gd.no [],
   .mk (ldR false 1 (X.t (o (o (o (i z)))))) (.some (i (o (o (i z))))) Gd.no [],
   .mk (ldR true 2 (X.t (i (i (o z))))) (.some (o (i (o (i z))))) Gd.no [],
   .mk (mvR (X.t (i z))) (.some (i (i (o (i z))))) Gd.no [],
   .mk (mvR (X.t (o (o z)))) (.some (o (o (i (i z))))) Gd.no [],
   .mk (mmR true (X.t (o (o (i (i z))))) (X.c (AV.int .i64 0))) (.some (i (o (i (i z))))) Gd.no [],
   .mk (mmR false (X.t (i (o (i (i z))))) (X.c (AV.int .i64 8))) (.some (o (i (i (i z))))) Gd.no [],
   .mk (callS Tryz.prog 70 [(X.t (i (i (i (o z))))), (X.t (i (o (o (i z))))), (X.t (o (i (o (i z))))), (X.t (i (i (o (i z))))), (X.t (o (i (i (i z)))))]) (.some (i (i (i (i z))))) Gd.no [],
   .mk (extR (X.t (i (i (i (i z))))) 0) (.some (o (o (o (o (o z)))))) Gd.no [],
   .mk (extR (X.t (i (i (i (i z))))) 1) (.some (i (o (o (o (o z)))))) Gd.no [],
   .mk (mvR (X.t (o (o (o (o (o z))))))) (.some (i (o (o z)))) Gd.no [],
   .mk (mvR (X.t (i (o (o (o (o z))))))) (.some (o (i (o z)))) Gd.no []])
  .ret))))
theorem C25ok : (match Tryz.f25.body with | some c => comp Tryz.prog 33 c | none => none) = some C25 := by kernel_rfl
@[go_sem] theorem call25 (args : List AV) (H : Heap) : callC Tryz.prog 25 args H = .call 25 args := callC_ok (by kernel_rfl) args H
theorem R25ok : resKs Tryz.prog Tryz.f25.results.toList = some [(RK.tmp (i (o (o z)))), (RK.tmp (o (i (o z))))] := by kernel_rfl

@[go_sem] theorem call50 (args : List AV) (H : Heap) : callC Tryz.prog 50 args H = .call 50 args := callC_ok (by kernel_rfl) args H
noncomputable def C52 : CC :=
  (.seq (.region [.mk (boxR false (X.t z)) (.some (i z)) Gd.no [],
   .mk (boxR false (X.t (o z))) (.some (o (o z))) Gd.no [],
   .mk (mvR (X.c (AV.bool false))) (.some (i (o z))) Gd.no []])
  (.seq (.region [.mk (mvR (X.c (AV.fn (Fn.func 98) [] []))) (.some (o (i z))) Gd.no []])
  (.seq (.region [.mk (faR 0 (X.t (i z))) (.some (i (i z))) Gd.no [],
   .mk (ldR false 1 (X.t (i (i z)))) (.some (o (o (o z)))) Gd.no [],
   .mk (faR 0 (X.t (o (o z)))) (.some (i (o (o z)))) Gd.no [],
   .mk (ldR false 1 (X.t (i (o (o z))))) (.some (o (i (o z)))) Gd.no [],
   .mk (binR Tryz.prog EK.no .none false BinOp.eql (X.t (o (o (o z)))) (X.t (o (i (o z))))) (.some (i (i (o z)))) Gd.no [],
   .mk (mvR (X.t (i (i (o z))))) (.some (o (o (i z)))) Gd.no [],
   .mk (faR 1 (X.t (i z))) (.some (i (o (i z)))) (Gd.on (o (o (i z))) true) [],
   .mk (ldR false 1 (X.t (i (o (i z))))) (.some (o (i (i z)))) (Gd.on (o (o (i z))) true) [],
   .mk (faR 1 (X.t (o (o z)))) (.some (i (i (i z)))) (Gd.on (o (o (i z))) true) [],
   .mk (ldR false 1 (X.t (i (i (i z))))) (.some (o (o (o (o z))))) (Gd.on (o (o (i z))) true) [],
   .mk (binR Tryz.prog EK.no .none false BinOp.eql (X.t (o (i (i z)))) (X.t (o (o (o (o z)))))) (.some (i (o (o (o z))))) (Gd.on (o (o (i z))) true) [],
   .mk (pickR (X.t (o (o (i z)))) (X.t (i (o (o (o z))))) (X.c (AV.bool false))) (.some (o (i (o (o z))))) Gd.no [],
   .mk (mvR (X.t (o (i (o (o z)))))) (.some (i (i (o (o z))))) Gd.no [],
   .mk (faR 2 (X.t (i z))) (.some (o (o (i (o z))))) (Gd.on (i (i (o (o z)))) true) [],
   .mk (ldR true 2 (X.t (o (o (i (o z)))))) (.some (i (o (i (o z))))) (Gd.on (i (i (o (o z)))) true) [],
   .mk (faR 2 (X.t (o (o z)))) (.some (o (i (i (o z))))) (Gd.on (i (i (o (o z)))) true) [],
   .mk (ldR true 2 (X.t (o (i (i (o z)))))) (.some (i (i (i (o z))))) (Gd.on (i (i (o (o z)))) true) [],
   .mk (binR Tryz.prog EK.no (.some [LK.str, LK.str]) false BinOp.eql (X.t (i (o (i (o z))))) (X.t (i (i (i (o z)))))) (.some (o (o (o (i z))))) (Gd.on (i (i (o (o z)))) true) [],
   .mk (pickR (X.t (i (i (o (o z))))) (X.t (o (o (o (i z))))) (X.c (AV.bool false))) (.some (i (o (o (i z))))) Gd.no [],
   .mk (mvR (X.t (i (o (o (i z)))))) (.some (o (i (o (i z))))) Gd.no [],
   .mk (faR 4 (X.t (i z))) (.some (i (i (o (i z))))) (Gd.on (o (i (o (i z)))) true) [],
   .mk (ldR false 1 (X.t (i (i (o (i z)))))) (.some (o (o (i (i z))))) (Gd.on (o (i (o (i z)))) true) [],
   .mk (faR 4 (X.t (o (o z)))) (.some (i (o (i (i z))))) (Gd.on (o (i (o (i z)))) true) [],
   .mk (ldR false 1 (X.t (i (o (i (i z)))))) (.some (o (i (i (i z))))) (Gd.on (o (i (o (i z)))) true) [],
   .mk (binR Tryz.prog EK.bool .none false BinOp.eql (X.t (o (o (i (i z))))) (X.t (o (i (i (i z)))))) (.some (i (i (i (i z))))) (Gd.on (o (i (o (i z)))) true) [],
   .mk (pickR (X.t (o (i (o (i z))))) (X.t (i (i (i (i z))))) (X.c (AV.bool false))) (.some (o (o (o (o (o z)))))) Gd.no [],
   .mk (mvR (X.t (o (o (o (o (o z))))))) (.some (i (o (o (o (o z)))))) Gd.no [],
   .mk (faR 5 (X.t (i z))) (.some (o (i (o (o (o z)))))) (Gd.on (i (o (o (o (o z))))) true) [],
   .mk (ldR false 1 (X.t (o (i (o (o (o z))))))) (.some (i (i (o (o (o z)))))) (Gd.on (i (o (o (o (o z))))) true) [],
   .mk (faR 5 (X.t (o (o z)))) (.some (o (o (i (o (o z)))))) (Gd.on (i (o (o (o (o z))))) true) [],
   .mk (ldR false 1 (X.t (o (o (i (o (o z))))))) (.some (i (o (i (o (o z)))))) (Gd.on (i (o (o (o (o z))))) true) [],
   .mk (callS Tryz.prog 100 [(X.t (i (i (o (o (o z)))))), (X.t (i (o (i (o (o z))))))]) (.some (o (i (i (o (o z)))))) (Gd.on (i (o (o (o (o z))))) true) [],
   .mk (pickR (X.t (i (o (o (o (o z)))))) (X.t (o (i (i (o (o z)))))) (X.c (AV.bool false))) (.some (i (i (i (o (o z)))))) Gd.no [],
   .mk (mvR (X.t (i (i (i (o (o z))))))) (.some (o (o (o (i (o z)))))) Gd.no [],
   .mk (faR 6 (X.t (i z))) (.some (i (o (o (i (o z)))))) (Gd.on (o (o (o (i (o z))))) true) [],
   .mk (ldR false 1 (X.t (i (o (o (i (o z))))))) (.some (o (i (o (i (o z)))))) (Gd.on (o (o (o (i (o z))))) true) [],
   .mk (faR 6 (X.t (o (o z)))) (.some (i (i (o (i (o z)))))) (Gd.on (o (o (o (i (o z))))) true) [],
   .mk (ldR false 1 (X.t (i (i (o (i (o z))))))) (.some (o (o (i (i (o z)))))) (Gd.on (o (o (o (i (o z))))) true) [],
   .mk (callS Tryz.prog 101 [(X.t (o (i (o (i (o z)))))), (X.t (o (o (i (i (o z))))))]) (.some (i (o (i (i (o z)))))) (Gd.on (o (o (o (i (o z))))) true) [],
   .mk (pickR (X.t (o (o (o (i (o z)))))) (X.t (i (o (i (i (o z)))))) (X.c (AV.bool false))) (.some (o (i (i (i (o z)))))) Gd.no [],
   .mk (mvR (X.t (o (i (i (i (o z))))))) (.some (i (i (i (i (o z)))))) Gd.no [],
   .mk (faR 7 (X.t (i z))) (.some (o (o (o (o (i z)))))) (Gd.on (i (i (i (i (o z))))) true) [],
   .mk (ldR false 1 (X.t (o (o (o (o (i z))))))) (.some (i (o (o (o (i z)))))) (Gd.on (i (i (i (i (o z))))) true) [],
   .mk (faR 7 (X.t (o (o z)))) (.some (o (i (o (o (i z)))))) (Gd.on (i (i (i (i (o z))))) true) [],
   .mk (ldR false 1 (X.t (o (i (o (o (i z))))))) (.some (i (i (o (o (i z)))))) (Gd.on (i (i (i (i (o z))))) true) [],
   .mk (mvR (X.t (o (i z)))) (.some (o (o (i (o (i z)))))) (Gd.on (i (i (i (i (o z))))) true) [],
   .mk (callS Tryz.prog 102 [(X.t (i (o (o (o (i z)))))), (X.t (i (i (o (o (i z)))))), (X.t (o (o (i (o (i z))))))]) (.some (i (o (i (o (i z)))))) (Gd.on (i (i (i (i (o z))))) true) [],
   .mk (pickR (X.t (i (i (i (i (o z)))))) (X.t (i (o (i (o (i z)))))) (X.c (AV.bool false))) (.some (o (i (i (o (i z)))))) Gd.no [],
   .mk (mvR (X.t (o (i (i (o (i z))))))) (.some (i (o z))) Gd.no []])
  .ret)))
theorem C52ok : (match Tryz.f52.body with | some c => comp Tryz.prog 54 c | none => none) = some C52 := by kernel_rfl
@[go_sem] theorem call52 (args : List AV) (H : Heap) : callC Tryz.prog 52 args H = .call 52 args := callC_ok (by kernel_rfl) args H
theorem R52ok : resKs Tryz.prog Tryz.f52.results.toList = some [(RK.tmp (i (o z)))] := by kernel_rfl

noncomputable def C53 : CC :=
  (.seq (.region [.mk (boxR false (X.t z)) (.some (o z)) Gd.no [],
   .mk (mvR (X.c (AV.bool false))) (.some (i z)) Gd.no []])
  (.seq (.seq (.region [.mk (faR 0 (X.t (o z))) (.some (i (o z))) Gd.no [],
   .mk (ldR false 1 (X.t (i (o z)))) (.some (o (i z))) Gd.no [],
   .mk (binR Tryz.prog EK.no .none true BinOp.lss (X.t (o (i z))) (X.c (AV.int .i64 1))) (.some (i (i z))) Gd.no [],
   .mk (mvR (X.t (i (i z)))) (.some (o (o (o z)))) Gd.no [],
   .mk (faR 0 (X.t (o z))) (.some (i (o (o z)))) (Gd.on (o (o (o z))) false) [],
   .mk (ldR false 1 (X.t (i (o (o z))))) (.some (o (i (o z)))) (Gd.on (o (o (o z))) false) [],
   .mk (binR Tryz.prog EK.no .none true BinOp.gtr (X.t (o (i (o z)))) (X.c (AV.int .i64 7))) (.some (i (i (o z)))) (Gd.on (o (o (o z))) false) [],
   .mk (pickR (X.t (o (o (o z)))) (X.c (AV.bool true)) (X.t (i (i (o z))))) (.some (o (o (i z)))) Gd.no [],
   .mk (mvR (X.t (o (o (i z))))) (.some (i (o (i z)))) Gd.no [],
   .mk (ldR true 6 (X.t (o z))) (.some (o (i (i z)))) (Gd.on (i (o (i z))) false) [],
   .mk (callS Tryz.prog 103 [(X.t (o (i (i z))))]) (.some (i (i (i z)))) (Gd.on (i (o (i z))) false) [],
   .mk (unR UnOp.not (X.t (i (i (i z))))) (.some (o (o (o (o z))))) (Gd.on (i (o (i z))) false) [],
   .mk (pickR (X.t (i (o (i z)))) (X.c (AV.bool true)) (X.t (o (o (o (o z)))))) (.some (i (o (o (o z))))) Gd.no []])
  (.cond (X.t (i (o (o (o z)))))
  (.seq (.region [.mk (mvR (X.c (AV.bool false))) (.some (i z)) Gd.no []])
  .ret)
  .skip))
  (.seq (.seq (.region [.mk (faR 0 (X.t (o z))) (.some (o (i (o (o z))))) Gd.no [],
   .mk (ldR false 1 (X.t (o (i (o (o z)))))) (.some (i (i (o (o z))))) Gd.no []])
  (.block 0 (.seq (.region [.mk (binR Tryz.prog EK.no .none true BinOp.eql (X.t (i (i (o (o z))))) (X.c (AV.int .i64 6))) (.some (i (o (i (o z))))) Gd.no [],
   .mk (mvR (X.t (i (o (i (o z)))))) (.some (o (o (i (o z))))) Gd.no []])
  (.cond (X.t (o (o (i (o z)))))
  (.seq (.region [.mk (faR 1 (X.t (o z))) (.some (o (i (i (o z))))) Gd.no [],
   .mk (ldR false 1 (X.t (o (i (i (o z)))))) (.some (i (i (i (o z))))) Gd.no [],
   .mk (binR Tryz.prog EK.no .none true BinOp.eql (X.t (i (i (i (o z))))) (X.c (AV.str []))) (.some (o (o (o (i z))))) Gd.no [],
   .mk (mvR (X.t (o (o (o (i z)))))) (.some (i (o (o (i z))))) Gd.no [],
   .mk (faR 5 (X.t (o z))) (.some (o (i (o (i z))))) (Gd.on (i (o (o (i z)))) true) [],
   .mk (ldR false 1 (X.t (o (i (o (i z)))))) (.some (i (i (o (i z))))) (Gd.on (i (o (o (i z)))) true) [],
   .mk (callS Tryz.prog 104 [(X.t (i (i (o (i z)))))]) (.some (o (o (i (i z))))) (Gd.on (i (o (o (i z)))) true) [],
   .mk (pickR (X.t (i (o (o (i z))))) (X.t (o (o (i (i z))))) (X.c (AV.bool false))) (.some (i (o (i (i z))))) Gd.no [],
   .mk (mvR (X.t (i (o (i (i z)))))) (.some (i z)) Gd.no []])
  .ret)
  (.seq (.region [.mk (binR Tryz.prog EK.no .none true BinOp.eql (X.t (i (i (o (o z))))) (X.c (AV.int .i64 5))) (.some (i (i (i (i z))))) Gd.no [],
   .mk (mvR (X.t (i (i (i (i z)))))) (.some (o (i (i (i z))))) Gd.no []])
  (.cond (X.t (o (i (i (i z)))))
  (.seq (.region [.mk (faR 1 (X.t (o z))) (.some (o (o (o (o (o z)))))) Gd.no [],
   .mk (ldR false 1 (X.t (o (o (o (o (o z))))))) (.some (i (o (o (o (o z)))))) Gd.no [],
   .mk (callS Tryz.prog 105 [(X.t (i (o (o (o (o z))))))]) (.some (o (i (o (o (o z)))))) Gd.no [],
   .mk (mvR (X.t (o (i (o (o (o z))))))) (.some (i (i (o (o (o z)))))) Gd.no [],
   .mk (faR 1 (X.t (o z))) (.some (o (o (i (o (o z)))))) (Gd.on (i (i (o (o (o z))))) true) [],
   .mk (ldR false 1 (X.t (o (o (i (o (o z))))))) (.some (i (o (i (o (o z)))))) (Gd.on (i (i (o (o (o z))))) true) [],
   .mk (faR 2 (X.t (o z))) (.some (o (i (i (o (o z)))))) (Gd.on (i (i (o (o (o z))))) true) [],
   .mk (ldR false 1 (X.t (o (i (i (o (o z))))))) (.some (i (i (i (o (o z)))))) (Gd.on (i (i (o (o (o z))))) true) [],
   .mk (buildR [(AV.str []), (AV.str [])] [(0, (1, (X.t (i (o (i (o (o z)))))))), (1, (1, (X.t (i (i (i (o (o z))))))))]) (.some (o (o (o (i (o z)))))) (Gd.on (i (i (o (o (o z))))) true) [],
   .mk (callS Tryz.prog 62 [(X.t (o (o (o (i (o z))))))]) (.some (i (o (o (i (o z)))))) (Gd.on (i (i (o (o (o z))))) true) [],
   .mk (pickR (X.t (i (i (o (o (o z)))))) (X.t (i (o (o (i (o z)))))) (X.c (AV.bool false))) (.some (o (i (o (i (o z)))))) Gd.no [],
   .mk (mvR (X.t (o (i (o (i (o z))))))) (.some (i z)) Gd.no []])
  .ret)
  .skip))))))
  (.seq (.region [.mk (mvR (X.c (AV.int .i64 1000000000000))) (.some (o (o z))) Gd.no []])
  (.seq (.seq (.region [.mk (faR 0 (X.t (o z))) (.some (i (i (o (i (o z)))))) Gd.no [],
   .mk (ldR false 1 (X.t (i (i (o (i (o z))))))) (.some (o (o (i (i (o z)))))) Gd.no [],
   .mk (binR Tryz.prog EK.no .none true BinOp.eql (X.t (o (o (i (i (o z)))))) (X.c (AV.int .i64 7))) (.some (i (o (i (i (o z)))))) Gd.no []])
  (.cond (X.t (i (o (i (i (o z))))))
  (.region [.mk (mvR (X.c (AV.int .i64 24))) (.some (o (o z))) Gd.no []])
  .skip))
  (.seq (.region [.mk (faR 1 (X.t (o z))) (.some (o (i (i (i (o z)))))) Gd.no [],
   .mk (ldR false 1 (X.t (o (i (i (i (o z))))))) (.some (i (i (i (i (o z)))))) Gd.no [],
   .mk (callS Tryz.prog 105 [(X.t (i (i (i (i (o z))))))]) (.some (o (o (o (o (i z)))))) Gd.no [],
   .mk (mvR (X.t (o (o (o (o (i z))))))) (.some (i (o (o (o (i z)))))) Gd.no [],
   .mk (faR 3 (X.t (o z))) (.some (o (i (o (o (i z)))))) (Gd.on (i (o (o (o (i z))))) true) [],
   .mk (ldR false 1 (X.t (o (i (o (o (i z))))))) (.some (i (i (o (o (i z)))))) (Gd.on (i (o (o (o (i z))))) true) [],
   .mk (lenR LnK.str (X.t (i (i (o (o (i z))))))) (.some (o (o (i (o (i z)))))) (Gd.on (i (o (o (o (i z))))) true) [],
   .mk (binR Tryz.prog EK.no .none true BinOp.leq (X.t (o (o (i (o (i z)))))) (X.c (AV.int .i64 40))) (.some (i (o (i (o (i z)))))) (Gd.on (i (o (o (o (i z))))) true) [],
   .mk (pickR (X.t (i (o (o (o (i z)))))) (X.t (i (o (i (o (i z)))))) (X.c (AV.bool false))) (.some (o (i (i (o (i z)))))) Gd.no [],
   .mk (mvR (X.t (o (i (i (o (i z))))))) (.some (i (i (i (o (i z)))))) Gd.no [],
   .mk (faR 4 (X.t (o z))) (.some (o (o (o (i (i z)))))) (Gd.on (i (i (i (o (i z))))) true) [],
   .mk (ldR false 1 (X.t (o (o (o (i (i z))))))) (.some (i (o (o (i (i z)))))) (Gd.on (i (i (i (o (i z))))) true) [],
   .mk (binR Tryz.prog EK.no .none true BinOp.geq (X.t (i (o (o (i (i z)))))) (X.c (AV.int .i64 0))) (.some (o (i (o (i (i z)))))) (Gd.on (i (i (i (o (i z))))) true) [],
   .mk (pickR (X.t (i (i (i (o (i z)))))) (X.t (o (i (o (i (i z)))))) (X.c (AV.bool false))) (.some (i (i (o (i (i z)))))) Gd.no [],
   .mk (mvR (X.t (i (i (o (i (i z))))))) (.some (o (o (i (i (i z)))))) Gd.no [],
   .mk (faR 4 (X.t (o z))) (.some (i (o (i (i (i z)))))) (Gd.on (o (o (i (i (i z))))) true) [],
   .mk (ldR false 1 (X.t (i (o (i (i (i z))))))) (.some (o (i (i (i (i z)))))) (Gd.on (o (o (i (i (i z))))) true) [],
   .mk (mvR (X.t (o (o z)))) (.some (i (i (i (i (i z)))))) (Gd.on (o (o (i (i (i z))))) true) [],
   .mk (binR Tryz.prog EK.no .none false BinOp.leq (X.t (o (i (i (i (i z)))))) (X.t (i (i (i (i (i z))))))) (.some (o (o (o (o (o (o z))))))) (Gd.on (o (o (i (i (i z))))) true) [],
   .mk (pickR (X.t (o (o (i (i (i z)))))) (X.t (o (o (o (o (o (o z))))))) (X.c (AV.bool false))) (.some (i (o (o (o (o (o z))))))) Gd.no [],
   .mk (mvR (X.t (i (o (o (o (o (o z)))))))) (.some (i z)) Gd.no []])
  .ret))))))
theorem C53ok : (match Tryz.f53.body with | some c => comp Tryz.prog 65 c | none => none) = some C53 := by kernel_rfl
@[go_sem] theorem call53 (args : List AV) (H : Heap) : callC Tryz.prog 53 args H = .call 53 args := callC_ok (by kernel_rfl) args H
theorem R53ok : resKs Tryz.prog Tryz.f53.results.toList = some [(RK.tmp (i z))] := by kernel_rfl

noncomputable def C54 : CC :=
  (.seq (.region [.mk (boxR false (X.t z)) (.some (i z)) Gd.no [],
   .mk (fun _ H => newC false [(AV.int .i64 0), (AV.str []), (AV.int .i64 0), AV.nils] H) (.some (i (o z))) Gd.no []])
  (.seq (.region [.mk (faR 5 (X.t (i z))) (.some (i (o (o z)))) Gd.no [],
   .mk (ldR false 1 (X.t (i (o (o z))))) (.some (o (i (o z)))) Gd.no [],
   .mk (mvR (X.t (o z))) (.some (i (i (o z)))) Gd.no [],
   .mk (callS Tryz.prog 106 [(X.t (o (i (o z)))), (X.t (i (i (o z))))]) (.some (o (o (i z)))) Gd.no [],
   .mk (mvR (X.t (o (o (i z))))) (.some (o (o (o z)))) Gd.no [],
   .mk (extR (X.t (o (o (o z)))) 0) (.some (i (o (i z)))) Gd.no [],
   .mk (extR (X.t (o (o (o z)))) 1) (.some (o (i (i z)))) Gd.no [],
   .mk (fun _ H => newC false [(AV.str []), (AV.str []), (AV.int .i64 0), (AV.bool false), (AV.int .i64 0)] H) (.some (o (i z))) Gd.no [],
   .mk (stR 5 (X.t (o (i z))) (X.t (i (o (i z))))) .none Gd.no [],
   .mk (mvR (X.t (o (i (i z))))) (.some (i (i z))) Gd.no []])
  (.seq (.seq (.region [.mk (ldR true 5 (X.t (o (i z)))) (.some (i (i (i z)))) Gd.no [],
   .mk (callS Tryz.prog 107 [(X.t (i (i (i z))))]) (.some (o (o (o (o z))))) Gd.no [],
   .mk (unR UnOp.not (X.t (o (o (o (o z)))))) (.some (i (o (o (o z))))) Gd.no []])
  (.cond (X.t (i (o (o (o z)))))
  (.seq (.region [.mk (faR 2 (X.t (o (i z)))) (.some (o (i (o (o z))))) Gd.no [],
   .mk (ldR false 1 (X.t (o (i (o (o z)))))) (.some (i (i (o (o z))))) Gd.no [],
   .mk (buildR [(AV.int .i64 0), (AV.str []), (AV.int .i64 0), AV.nils] [(0, (1, (X.c (AV.int .i64 14)))), (2, (1, (X.t (i (i (o (o z)))))))]) (.some (o (o (i (o z))))) Gd.no [],
   .mk (stR 4 (X.t (i (o z))) (X.t (o (o (i (o z)))))) .none Gd.no []])
  .ret)
  .skip))
  (.seq (.region [.mk (faR 1 (X.t (o (i z)))) (.some (i (o (i (o z))))) Gd.no [],
   .mk (ldR false 1 (X.t (i (o (i (o z)))))) (.some (o (i (i (o z))))) Gd.no [],
   .mk (faR 2 (X.t (o (i z)))) (.some (i (i (i (o z))))) Gd.no [],
   .mk (ldR false 1 (X.t (i (i (i (o z)))))) (.some (o (o (o (i z))))) Gd.no [],
   .mk (buildR [(AV.int .i64 0), (AV.str []), (AV.int .i64 0), AV.nils] [(1, (1, (X.t (o (i (i (o z))))))), (2, (1, (X.t (o (o (o (i z)))))))]) (.some (i (o (o (i z))))) Gd.no [],
   .mk (stR 4 (X.t (i (o z))) (X.t (i (o (o (i z)))))) .none Gd.no []])
  .ret))))
theorem C54ok : (match Tryz.f54.body with | some c => comp Tryz.prog 25 c | none => none) = some C54 := by kernel_rfl
@[go_sem] theorem call54 (args : List AV) (H : Heap) : callC Tryz.prog 54 args H = .call 54 args := callC_ok (by kernel_rfl) args H
theorem R54ok : resKs Tryz.prog Tryz.f54.results.toList = some [(RK.cell (i (o z)) true 4)] := by kernel_rfl

noncomputable def C55 : CC :=
  (.seq (.region [.mk (boxR false (X.t z)) (.some (i (o z))) Gd.no [],
   .mk (fun _ H => newC false [(AV.int .i64 0), (AV.int .i64 0), (AV.str []), (AV.str []), (AV.bool false), AV.nils, AV.nils, AV.nils] H) (.some (i (o (o z)))) Gd.no [],
   .mk (fun _ H => newC false [(AV.int .i64 0), (AV.str []), (AV.int .i64 0), AV.nils] H) (.some (o (i (o z)))) Gd.no []])
  (.seq (.region [.mk (ldR true 8 (X.t (i (o z)))) (.some (i (i (i z)))) Gd.no [],
   .mk (mvR (X.t (o z))) (.some (o (o (o (o z))))) Gd.no [],
   .mk (mvR (X.t (i z))) (.some (i (o (o (o z))))) Gd.no [],
   .mk (mvR (X.t (o (o z)))) (.some (o (i (o (o z))))) Gd.no [],
   .mk (callS Tryz.prog 108 [(X.t (i (i (i z)))), (X.t (o (o (o (o z))))), (X.t (i (o (o (o z))))), (X.t (o (i (o (o z)))))]) (.some (i (i (o (o z))))) Gd.no [],
   .mk (mvR (X.t (i (i (o (o z)))))) (.some (o (i (i z)))) Gd.no [],
   .mk (extR (X.t (o (i (i z)))) 0) (.some (o (o (i (o z))))) Gd.no [],
   .mk (extR (X.t (o (i (i z)))) 1) (.some (i (o (i (o z))))) Gd.no [],
   .mk (extR (X.t (o (i (i z)))) 2) (.some (o (i (i (o z))))) Gd.no [],
   .mk (fun _ H => newC false [(AV.int .i64 0), (AV.int .i64 0), (AV.str []), (AV.str []), (AV.bool false), AV.nils, AV.nils, AV.nils] H) (.some (i (i (o z)))) Gd.no [],
   .mk (fun _ H => newC false [(AV.str []), (AV.str []), (AV.int .i64 0), (AV.bool false), (AV.int .i64 0)] H) (.some (o (o (i z)))) Gd.no [],
   .mk (stR 8 (X.t (i (i (o z)))) (X.t (o (o (i (o z)))))) .none Gd.no [],
   .mk (stR 5 (X.t (o (o (i z)))) (X.t (i (o (i (o z)))))) .none Gd.no [],
   .mk (mvR (X.t (o (i (i (o z)))))) (.some (i (o (i z)))) Gd.no []])
  (.seq (.regionD [.mk (keepH (faR 2 (X.t (o (o (i z)))))) (.some (o (i (o (i z))))) Gd.no [],
   .mk (keepH (ldR false 1 (X.t (o (i (o (i z))))))) (.some (i (i (o (i z))))) Gd.no [],
   .mk (keepH (mvR (X.t (i (o (i z)))))) (.some (o (o (o (i z))))) Gd.no [],
   .mk (keepH (ldR true 8 (X.t (i (i (o z)))))) (.some (i (i (i (o z))))) Gd.no [],
   .mk (callS Tryz.prog 109 [(X.t (o (o (o (i z)))))]) (.some (i (o (o (i z))))) Gd.no [.mk (ldR true 8 (X.t (i (i (o z))))) (.some (i (i (i (o z))))) Gd.no, .mk (ldR false 1 (X.t (o (i (o (i z)))))) (.some (i (i (o (i z))))) Gd.no, .mk (faR 2 (X.t (o (o (i z))))) (.some (o (i (o (i z))))) Gd.no],
   .mk (keepH (buildR [(AV.int .i64 0), (AV.str []), (AV.int .i64 0), AV.nils] [(0, (1, (X.t (i (o (o (i z))))))), (2, (1, (X.t (i (i (o (i z)))))))])) (.some (o (o (i (i z))))) Gd.no [],
   .mk (stR 8 (X.t (i (o (o z)))) (X.t (i (i (i (o z)))))) .none Gd.no [.mk (buildR [(AV.int .i64 0), (AV.str []), (AV.int .i64 0), AV.nils] [(0, (1, (X.t (i (o (o (i z))))))), (2, (1, (X.t (i (i (o (i z)))))))]) (.some (o (o (i (i z))))) Gd.no, .mk (ldR false 1 (X.t (o (i (o (i z)))))) (.some (i (i (o (i z))))) Gd.no, .mk (faR 2 (X.t (o (o (i z))))) (.some (o (i (o (i z))))) Gd.no],
   .mk (stR 4 (X.t (o (i (o z)))) (X.t (o (o (i (i z)))))) .none Gd.no []])
  .ret)))
theorem C55ok : (match Tryz.f55.body with | some c => comp Tryz.prog 28 c | none => none) = some C55 := by kernel_rfl
@[go_sem] theorem call55 (args : List AV) (H : Heap) : callC Tryz.prog 55 args H = .call 55 args := callC_ok (by kernel_rfl) args H
theorem R55ok : resKs Tryz.prog Tryz.f55.results.toList = some [(RK.cell (i (o (o z))) true 8), (RK.cell (o (i (o z))) true 4)] := by kernel_rfl

noncomputable def C56 : CC :=
  (.seq (.region [.mk (boxR false (X.t z)) (.some (i z)) Gd.no [],
   .mk (boxR false (X.t (o z))) (.some (o (o z))) Gd.no [],
   .mk (fun _ H => newC false [(AV.int .i64 0), (AV.int .i64 0), (AV.str []), (AV.str []), (AV.bool false), AV.nils, AV.nils, AV.nils] H) (.some (i (o z))) Gd.no [],
   .mk (fun _ H => newC false [(AV.int .i64 0), (AV.str []), (AV.int .i64 0), AV.nils] H) (.some (o (i z))) Gd.no []])
  (.seq (.region [.mk (faR 5 (X.t (i z))) (.some (o (i (o z)))) Gd.no [],
   .mk (ldR false 1 (X.t (o (i (o z))))) (.some (i (i (o z)))) Gd.no [],
   .mk (faR 1 (X.t (o (o z)))) (.some (o (o (i z)))) Gd.no [],
   .mk (ldR false 1 (X.t (o (o (i z))))) (.some (i (o (i z)))) Gd.no [],
   .mk (callS Tryz.prog 106 [(X.t (i (i (o z)))), (X.t (i (o (i z))))]) (.some (o (i (i z)))) Gd.no [],
   .mk (mvR (X.t (o (i (i z))))) (.some (i (o (o z)))) Gd.no [],
   .mk (extR (X.t (i (o (o z)))) 0) (.some (i (i (i z)))) Gd.no [],
   .mk (extR (X.t (i (o (o z)))) 1) (.some (o (o (o (o z))))) Gd.no [],
   .mk (fun _ H => newC false [(AV.str []), (AV.str []), (AV.int .i64 0), (AV.bool false), (AV.int .i64 0)] H) (.some (i (i z))) Gd.no [],
   .mk (stR 5 (X.t (i (i z))) (X.t (i (i (i z))))) .none Gd.no [],
   .mk (mvR (X.t (o (o (o (o z)))))) (.some (o (o (o z)))) Gd.no []])
  (.seq (.seq (.region [.mk (faR 2 (X.t (i (i z)))) (.some (i (o (o (o z))))) Gd.no [],
   .mk (ldR false 1 (X.t (i (o (o (o z)))))) (.some (o (i (o (o z))))) Gd.no [],
   .mk (faR 4 (X.t (o (o z)))) (.some (i (i (o (o z))))) Gd.no [],
   .mk (ldR false 1 (X.t (i (i (o (o z)))))) (.some (o (o (i (o z))))) Gd.no [],
   .mk (binR Tryz.prog EK.no .none false BinOp.neq (X.t (o (i (o (o z))))) (X.t (o (o (i (o z)))))) (.some (i (o (i (o z))))) Gd.no []])
  (.cond (X.t (i (o (i (o z)))))
  (.seq (.regionD [.mk (keepH (faR 2 (X.t (i (i z))))) (.some (i (i (i (o z))))) Gd.no [],
   .mk (keepH (ldR false 1 (X.t (i (i (i (o z))))))) (.some (o (o (o (i z))))) Gd.no [],
   .mk (keepH (buildR [(AV.int .i64 0), (AV.str []), (AV.int .i64 0), AV.nils] [(0, (1, (X.c (AV.int .i64 15)))), (2, (1, (X.t (o (o (o (i z)))))))])) (.some (i (o (o (i z))))) Gd.no [],
   .mk (keepH (ldR true 8 (X.t (i z)))) (.some (o (i (i (o z))))) Gd.no [],
   .mk (stR 8 (X.t (i (o z))) (X.t (o (i (i (o z)))))) .none Gd.no [.mk (buildR [(AV.int .i64 0), (AV.str []), (AV.int .i64 0), AV.nils] [(0, (1, (X.c (AV.int .i64 15)))), (2, (1, (X.t (o (o (o (i z)))))))]) (.some (i (o (o (i z))))) Gd.no, .mk (ldR false 1 (X.t (i (i (i (o z)))))) (.some (o (o (o (i z))))) Gd.no, .mk (faR 2 (X.t (i (i z)))) (.some (i (i (i (o z))))) Gd.no],
   .mk (stR 4 (X.t (o (i z))) (X.t (i (o (o (i z)))))) .none Gd.no []])
  .ret)
  .skip))
  (.seq (.region [.mk (ldR true 8 (X.t (i z))) (.some (o (i (o (i z))))) Gd.no [],
   .mk (faR 1 (X.t (o (o z)))) (.some (i (i (o (i z))))) Gd.no [],
   .mk (ldR false 1 (X.t (i (i (o (i z)))))) (.some (o (o (i (i z))))) Gd.no [],
   .mk (faR 3 (X.t (o (o z)))) (.some (i (o (i (i z))))) Gd.no [],
   .mk (ldR false 1 (X.t (i (o (i (i z)))))) (.some (o (i (i (i z))))) Gd.no [],
   .mk (callS Tryz.prog 55 [(X.t (o (i (o (i z))))), (X.t (o (o (i (i z))))), (X.t (o (i (i (i z))))), (X.c (AV.bool false))]) (.some (i (i (i (i z))))) Gd.no [],
   .mk (extR (X.t (i (i (i (i z))))) 0) (.some (o (o (o (o (o z)))))) Gd.no [],
   .mk (extR (X.t (i (i (i (i z))))) 1) (.some (i (o (o (o (o z)))))) Gd.no [],
   .mk (stR 8 (X.t (i (o z))) (X.t (o (o (o (o (o z))))))) .none Gd.no [],
   .mk (stR 4 (X.t (o (i z))) (X.t (i (o (o (o (o z))))))) .none Gd.no []])
  .ret))))
theorem C56ok : (match Tryz.f56.body with | some c => comp Tryz.prog 33 c | none => none) = some C56 := by kernel_rfl
@[go_sem] theorem call56 (args : List AV) (H : Heap) : callC Tryz.prog 56 args H = .call 56 args := callC_ok (by kernel_rfl) args H
theorem R56ok : resKs Tryz.prog Tryz.f56.results.toList = some [(RK.cell (i (o z)) true 8), (RK.cell (o (i z)) true 4)] := by kernel_rfl

noncomputable def C57 : CC :=
  (.seq (.region [.mk (boxR false (X.t z)) (.some (i z)) Gd.no [],
   .mk (boxR false (X.t (o z))) (.some (o (o z))) Gd.no [],
   .mk (fun _ H => newC false [(AV.int .i64 0), (AV.str []), (AV.int .i64 0), AV.nils] H) (.some (i (o z))) Gd.no []])
  (.seq (.region [.mk (faR 1 (X.t (o (o z)))) (.some (i (i z))) Gd.no [],
   .mk (ldR false 1 (X.t (i (i z)))) (.some (o (o (o z)))) Gd.no [],
   .mk (faR 2 (X.t (o (o z)))) (.some (i (o (o z)))) Gd.no [],
   .mk (ldR false 1 (X.t (i (o (o z))))) (.some (o (i (o z)))) Gd.no [],
   .mk (buildR [(AV.str []), (AV.str [])] [(0, (1, (X.t (o (o (o z)))))), (1, (1, (X.t (o (i (o z))))))]) (.some (i (i (o z)))) Gd.no [],
   .mk (fun _ H => newC false [(AV.str []), (AV.str [])] H) (.some (o (i z))) Gd.no [],
   .mk (stR 2 (X.t (o (i z))) (X.t (i (i (o z))))) .none Gd.no []])
  (.seq (.seq (.region [.mk (ldR true 2 (X.t (o (i z)))) (.some (o (o (i z)))) Gd.no [],
   .mk (faR 2 (X.t (i z))) (.some (i (o (i z)))) Gd.no [],
   .mk (ldR true 2 (X.t (i (o (i z))))) (.some (o (i (i z)))) Gd.no [],
   .mk (callS Tryz.prog 110 [(X.t (o (o (i z)))), (X.t (o (i (i z))))]) (.some (i (i (i z)))) Gd.no [],
   .mk (unR UnOp.not (X.t (i (i (i z))))) (.some (o (o (o (o z))))) Gd.no []])
  (.cond (X.t (o (o (o (o z)))))
  (.seq (.region [.mk (buildR [(AV.int .i64 0), (AV.str []), (AV.int .i64 0), AV.nils] [(0, (1, (X.c (AV.int .i64 16))))]) (.some (i (o (o (o z))))) Gd.no [],
   .mk (stR 4 (X.t (i (o z))) (X.t (i (o (o (o z)))))) .none Gd.no []])
  .ret)
  .skip))
  (.seq (.region [.mk (faR 5 (X.t (i z))) (.some (o (i (o (o z))))) Gd.no [],
   .mk (ldR false 1 (X.t (o (i (o (o z)))))) (.some (i (i (o (o z))))) Gd.no [],
   .mk (ldR true 2 (X.t (o (i z)))) (.some (o (o (i (o z))))) Gd.no [],
   .mk (callS Tryz.prog 111 [(X.t (i (i (o (o z))))), (X.t (o (o (i (o z))))), (X.c (AV.int .i64 16))]) (.some (i (o (i (o z))))) Gd.no [],
   .mk (buildR [(AV.int .i64 0), (AV.str []), (AV.int .i64 0), AV.nils] [(3, (1, (X.t (i (o (i (o z)))))))]) (.some (o (i (i (o z))))) Gd.no [],
   .mk (stR 4 (X.t (i (o z))) (X.t (o (i (i (o z)))))) .none Gd.no []])
  .ret))))
theorem C57ok : (match Tryz.f57.body with | some c => comp Tryz.prog 22 c | none => none) = some C57 := by kernel_rfl
@[go_sem] theorem call57 (args : List AV) (H : Heap) : callC Tryz.prog 57 args H = .call 57 args := callC_ok (by kernel_rfl) args H
theorem R57ok : resKs Tryz.prog Tryz.f57.results.toList = some [(RK.cell (i (o z)) true 4)] := by kernel_rfl

@[go_sem] theorem call58 (args : List AV) (H : Heap) : callC Tryz.prog 58 args H = .call 58 args := callC_ok (by kernel_rfl) args H
@[go_sem] theorem call59 (args : List AV) (H : Heap) : callC Tryz.prog 59 args H = .call 59 args := callC_ok (by kernel_rfl) args H
noncomputable def C67 : CC :=
  (.seq (.region [.mk (boxR false (X.t z)) (.some (o z)) Gd.no [],
   .mk (mvR (X.c (AV.bool false))) (.some (i z)) Gd.no []])
  (.seq (.region [.mk (faR 0 (X.t (o z))) (.some (o (o z))) Gd.no [],
   .mk (ldR false 1 (X.t (o (o z)))) (.some (i (o z))) Gd.no [],
   .mk (binR Tryz.prog EK.no .none true BinOp.neq (X.t (i (o z))) (X.c (AV.int .i64 1))) (.some (o (i z))) Gd.no [],
   .mk (mvR (X.t (o (i z)))) (.some (i (i z))) Gd.no [],
   .mk (faR 0 (X.t (o z))) (.some (o (o (o z)))) (Gd.on (i (i z)) true) [],
   .mk (ldR false 1 (X.t (o (o (o z))))) (.some (i (o (o z)))) (Gd.on (i (i z)) true) [],
   .mk (binR Tryz.prog EK.no .none true BinOp.neq (X.t (i (o (o z)))) (X.c (AV.int .i64 5))) (.some (o (i (o z)))) (Gd.on (i (i z)) true) [],
   .mk (pickR (X.t (i (i z))) (X.t (o (i (o z)))) (X.c (AV.bool false))) (.some (i (i (o z)))) Gd.no [],
   .mk (mvR (X.t (i (i (o z))))) (.some (i z)) Gd.no []])
  .ret))
theorem C67ok : (match Tryz.f67.body with | some c => comp Tryz.prog 11 c | none => none) = some C67 := by kernel_rfl
@[go_sem] theorem call67 (args : List AV) (H : Heap) : callC Tryz.prog 67 args H = .call 67 args := callC_ok (by kernel_rfl) args H
theorem R67ok : resKs Tryz.prog Tryz.f67.results.toList = some [(RK.tmp (i z))] := by kernel_rfl

noncomputable def C70L0 : CC :=
  (.seq (.region [.mk (binR Tryz.prog EK.no .none false BinOp.lss (X.t (o (i (i (o z))))) (X.t (i (o (i (o z)))))) (.some (i (i (i (o z))))) Gd.no []])
  (.seq (.cond (X.t (i (i (i (o z)))))
  .skip
  (.exit 0))
  (.seq (.block 1 (.seq (.region [.mk (iaS 5 (X.t (o (o (i (o z))))) (X.t (o (i (i (o z)))))) (.some (o (o (o (i z))))) Gd.no [],
   .mk (ldR true 5 (X.t (o (o (o (i z)))))) (.some (i (o (o (i z))))) Gd.no [],
   .mk (fun _ H => newC false [(AV.str []), (AV.str []), (AV.int .i64 0), (AV.bool false), (AV.int .i64 0)] H) (.some (o (i (i z)))) Gd.no [],
   .mk (stR 5 (X.t (o (i (i z)))) (X.t (i (o (o (i z)))))) .none Gd.no []])
  (.seq (.regionD [.mk (keepH (faR 0 (X.t (o (i (i z)))))) (.some (i (o (i (i z))))) Gd.no [],
   .mk (keepH (ldR false 1 (X.t (i (o (i (i z))))))) (.some (o (i (i (i z))))) Gd.no [],
   .mk (keepH (mvR (X.t (o (o z))))) (.some (o (o (i (i z))))) Gd.no [],
   .mk (keepH (faR 4 (X.t (o (i (i z)))))) (.some (o (i (o (i z))))) Gd.no [],
   .mk (keepH (ldR false 1 (X.t (o (i (o (i z))))))) (.some (i (i (o (i z))))) Gd.no [],
   .mk (callS Tryz.prog 123 [(X.t (o (o (i (i z))))), (X.t (o (i (i (i z)))))]) (.some (i (i (i (i z))))) Gd.no [.mk (ldR false 1 (X.t (o (i (o (i z)))))) (.some (i (i (o (i z))))) Gd.no, .mk (faR 4 (X.t (o (i (i z))))) (.some (o (i (o (i z))))) Gd.no],
   .mk (keepH (binR Tryz.prog EK.no .none false BinOp.gtr (X.t (i (i (o (i z))))) (X.t (i (i (i (i z))))))) (.some (o (o (o (o (o z)))))) Gd.no []])
  (.cond (X.t (o (o (o (o (o z))))))
  (.seq (.region [.mk (mvR (X.c AV.nils)) (.some (i (i (o z)))) Gd.no [],
   .mk (mvR (X.c (AV.bool true))) (.some (o (o (i z)))) Gd.no []])
  .ret)
  .skip))))
  (.region [.mk (binR Tryz.prog EK.no .none true BinOp.add (X.t (o (i (i (o z))))) (X.c (AV.int .i64 1))) (.some (i (o (o (o (o z)))))) Gd.no [],
   .mk (mvR (X.t (i (o (o (o (o z))))))) (.some (o (i (i (o z))))) Gd.no []]))))
noncomputable def C70L1 : CC :=
  (.seq (.region [.mk (binR Tryz.prog EK.no .none false BinOp.lss (X.t (o (o (i (o (o z)))))) (X.t (i (i (o (o (o z))))))) (.some (i (o (i (o (o z)))))) Gd.no []])
  (.seq (.cond (X.t (i (o (i (o (o z))))))
  .skip
  (.exit 2))
  (.seq (.block 3 (.seq (.region [.mk (iaS 4 (X.t (o (i (o (o (o z)))))) (X.t (o (o (i (o (o z))))))) (.some (o (i (i (o (o z)))))) Gd.no [],
   .mk (ldR true 4 (X.t (o (i (i (o (o z))))))) (.some (i (i (i (o (o z)))))) Gd.no [],
   .mk (fun _ H => newC false [(AV.str []), (AV.int .i64 0), (AV.str []), (AV.bool false)] H) (.some (i (o (o (o z))))) Gd.no [],
   .mk (stR 4 (X.t (i (o (o (o z))))) (X.t (i (i (i (o (o z))))))) .none Gd.no []])
  (.seq (.regionD [.mk (keepH (faR 0 (X.t (i (o (o (o z))))))) (.some (i (o (o (i (o z)))))) Gd.no [],
   .mk (keepH (ldR false 1 (X.t (i (o (o (i (o z)))))))) (.some (o (i (o (i (o z)))))) Gd.no [],
   .mk (keepH (ldR true 2 (X.t (o (o (o z)))))) (.some (o (o (o (i (o z)))))) Gd.no [],
   .mk (callS Tryz.prog 61 [(X.t (o (o (o (i (o z)))))), (X.t (o (i (o (i (o z))))))]) (.some (i (i (o (i (o z)))))) Gd.no [],
   .mk (keepH (mvR (X.t (i (i (o (i (o z)))))))) (.some (o (o (i (i (o z)))))) Gd.no [],
   .mk (keepH (faR 0 (X.t (i (o (o (o z))))))) (.some (o (o (o (o (i z)))))) (Gd.on (o (o (i (i (o z))))) true) [],
   .mk (keepH (ldR false 1 (X.t (o (o (o (o (i z)))))))) (.some (i (o (o (o (i z)))))) (Gd.on (o (o (i (i (o z))))) true) [],
   .mk (keepH (mvR (X.t (o (o z))))) (.some (i (i (i (i (o z)))))) (Gd.on (o (o (i (i (o z))))) true) [],
   .mk (keepH (faR 1 (X.t (i (o (o (o z))))))) (.some (i (o (i (i (o z)))))) (Gd.on (o (o (i (i (o z))))) true) [],
   .mk (keepH (ldR false 1 (X.t (i (o (i (i (o z)))))))) (.some (o (i (i (i (o z)))))) (Gd.on (o (o (i (i (o z))))) true) [],
   .mk (callS Tryz.prog 123 [(X.t (i (i (i (i (o z)))))), (X.t (i (o (o (o (i z))))))]) (.some (o (i (o (o (i z)))))) (Gd.on (o (o (i (i (o z))))) true) [.mk (ldR false 1 (X.t (i (o (i (i (o z))))))) (.some (o (i (i (i (o z)))))) (Gd.on (o (o (i (i (o z))))) true), .mk (faR 1 (X.t (i (o (o (o z)))))) (.some (i (o (i (i (o z)))))) (Gd.on (o (o (i (i (o z))))) true)],
   .mk (keepH (binR Tryz.prog EK.no .none false BinOp.gtr (X.t (o (i (i (i (o z)))))) (X.t (o (i (o (o (i z)))))))) (.some (i (i (o (o (i z)))))) (Gd.on (o (o (i (i (o z))))) true) [],
   .mk (keepH (pickR (X.t (o (o (i (i (o z)))))) (X.t (i (i (o (o (i z)))))) (X.c (AV.bool false)))) (.some (o (o (i (o (i z)))))) Gd.no [],
   .mk (keepH (mvR (X.t (o (o (i (o (i z)))))))) (.some (i (o (i (o (i z)))))) Gd.no [],
   .mk (keepH (mvR (X.t (i (o z))))) (.some (o (o (o (i (i z)))))) (Gd.on (i (o (i (o (i z))))) true) [],
   .mk (keepH (mvR (X.t (i (i (i z)))))) (.some (o (i (i (o (i z)))))) (Gd.on (i (o (i (o (i z))))) true) [],
   .mk (keepH (lenR LnK.slice (X.t (o (i (i (o (i z)))))))) (.some (i (i (i (o (i z)))))) (Gd.on (i (o (i (o (i z))))) true) [],
   .mk (keepH (binR Tryz.prog EK.no .none false BinOp.lss (X.t (i (i (i (o (i z)))))) (X.t (o (o (o (i (i z)))))))) (.some (i (o (o (i (i z)))))) (Gd.on (i (o (i (o (i z))))) true) [],
   .mk (keepH (pickR (X.t (i (o (i (o (i z)))))) (X.t (i (o (o (i (i z)))))) (X.c (AV.bool false)))) (.some (o (i (o (i (i z)))))) Gd.no []])
  (.cond (X.t (o (i (o (i (i z))))))
  (.region [.mk (mvR (X.t (i (i (i z))))) (.some (i (i (o (i (i z)))))) Gd.no [],
   .mk (ldR true 4 (X.t (i (o (o (o z)))))) (.some (o (o (i (i (i z)))))) Gd.no [],
   .mk (bslR 4 1 [(AV.str []), (AV.int .i64 0), (AV.str []), (AV.bool false)] [(0, (X.t (o (o (i (i (i z)))))))]) (.some (i (o (i (i (i z)))))) Gd.no [],
   .mk (appR 4 48 (X.t (i (i (o (i (i z)))))) (X.t (i (o (i (i (i z))))))) (.some (o (i (i (i (i z)))))) Gd.no [],
   .mk (mvR (X.t (o (i (i (i (i z))))))) (.some (i (i (i z)))) Gd.no []])
  .skip))))
  (.region [.mk (binR Tryz.prog EK.no .none true BinOp.add (X.t (o (o (i (o (o z)))))) (X.c (AV.int .i64 1))) (.some (i (i (i (i (i z)))))) Gd.no [],
   .mk (mvR (X.t (i (i (i (i (i z))))))) (.some (o (o (i (o (o z)))))) Gd.no []]))))
noncomputable def C70 : CC :=
  (.seq (.region [.mk (boxR false (X.t (i z))) (.some (o (o (o z)))) Gd.no [],
   .mk (mvR (X.c AV.nils)) (.some (i (i (o z)))) Gd.no [],
   .mk (mvR (X.c (AV.bool false))) (.some (o (o (i z)))) Gd.no []])
  (.seq (.seq (.region [.mk (mvR (X.t (o z))) (.some (o (i (o (o z))))) Gd.no [],
   .mk (ldR true 2 (X.t (o (o (o z))))) (.some (i (i (o (o z))))) Gd.no [],
   .mk (callS Tryz.prog 73 [(X.t (o (i (o (o z))))), (X.t (i (i (o (o z)))))]) (.some (o (o (i (o z))))) Gd.no [],
   .mk (lenR LnK.slice (X.t (o (o (i (o z)))))) (.some (i (o (i (o z))))) Gd.no [],
   .mk (mvR (X.c (AV.int .i64 0))) (.some (o (i (i (o z))))) Gd.no []])
  (.block 0 (.loop C70L0)))
  (.seq (.region [.mk (mvR (X.c AV.nils)) (.some (i (i (i z)))) Gd.no []])
  (.seq (.seq (.region [.mk (mvR (X.t z)) (.some (o (i (o (o (o z)))))) Gd.no [],
   .mk (lenR LnK.slice (X.t (o (i (o (o (o z))))))) (.some (i (i (o (o (o z)))))) Gd.no [],
   .mk (mvR (X.c (AV.int .i64 0))) (.some (o (o (i (o (o z)))))) Gd.no []])
  (.block 2 (.loop C70L1)))
  (.seq (.region [.mk (mvR (X.t (i (i (i z))))) (.some (o (o (o (o (o (o z))))))) Gd.no [],
   .mk (mvR (X.t (o (o (o (o (o (o z)))))))) (.some (i (i (o z)))) Gd.no [],
   .mk (mvR (X.c (AV.bool false))) (.some (o (o (i z)))) Gd.no []])
  .ret)))))
theorem C70ok : (match Tryz.f70.body with | some c => comp Tryz.prog 64 c | none => none) = some C70 := by kernel_rfl
@[go_sem] theorem call70 (args : List AV) (H : Heap) : callC Tryz.prog 70 args H = .call 70 args := callC_ok (by kernel_rfl) args H
theorem R70ok : resKs Tryz.prog Tryz.f70.results.toList = some [(RK.tmp (i (i (o z)))), (RK.tmp (o (o (i z))))] := by kernel_rfl

@[go_sem] theorem call81 (args : List AV) (H : Heap) : callC Tryz.prog 81 args H = .call 81 args := callC_ok (by kernel_rfl) args H
end Go.Proofs
