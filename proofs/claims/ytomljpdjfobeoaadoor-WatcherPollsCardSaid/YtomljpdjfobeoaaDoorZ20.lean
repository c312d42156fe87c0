/- The laid-out code of the functions that are walked. Printed by a program. -/
import Derived.Test.YtomljpdjfobeoaaDoorZ19
import Derived.Test.YtomljpdjfobeoaaDoorProg
import Derived.KernelRfl
set_option linter.all false
set_option maxRecDepth 100000
namespace Go.Proofs
open Go Go.Ev K
noncomputable def C4L0 : CC :=
  (.seq (.seq (.region [.mk (mvR (X.t (o (i (i (o z)))))) (.some (o (o (i (o (i (o z))))))) Gd.no [],
   .mk (binR Tryd.prog EK.no .none true BinOp.lss (X.t (o (o (i (o (i (o z))))))) (X.c (AV.int .i64 2))) (.some (i (o (i (o (i (o z))))))) Gd.no []])
  (.cond (X.t (i (o (i (o (i (o z)))))))
  .skip
  (.exit 0)))
  (.seq (.block 1 (.seq (.region [.mk (ldR true 2 (X.t (i (o (o (o z)))))) (.some (o (o (o (i (i (o z))))))) Gd.no [],
   .mk (mvR (X.t (i (i (i z))))) (.some (i (o (o (i (i (o z))))))) Gd.no [],
   .mk (fun _ H => newC false [(AV.str []), (AV.str [])] H) (.some (i (i (i (o z))))) Gd.no [],
   .mk (stR 2 (X.t (i (i (i (o z))))) (X.t (o (o (o (i (i (o z)))))))) .none Gd.no [],
   .mk (mvR (X.t (i (o (o (i (i (o z)))))))) (.some (o (o (o (i z))))) Gd.no []])
  (.seq (.seq (.region [.mk (mvR (X.t (o (i (i (o z)))))) (.some (o (i (o (i (i (o z))))))) Gd.no [],
   .mk (binR Tryd.prog EK.no .none true BinOp.eql (X.t (o (i (o (i (i (o z))))))) (X.c (AV.int .i64 1))) (.some (i (i (o (i (i (o z))))))) Gd.no []])
  (.cond (X.t (i (i (o (i (i (o z)))))))
  (.region [.mk (ldR true 2 (X.t (o (i (o (o z)))))) (.some (o (o (i (i (i (o z))))))) Gd.no [],
   .mk (mvR (X.t (o (o (o (o z)))))) (.some (i (o (i (i (i (o z))))))) Gd.no [],
   .mk (stR 2 (X.t (i (i (i (o z))))) (X.t (o (o (i (i (i (o z)))))))) .none Gd.no [],
   .mk (mvR (X.t (i (o (i (i (i (o z)))))))) (.some (o (o (o (i z))))) Gd.no []])
  .skip))
  (.seq (.region [.mk (ldR true 2 (X.t (i (i (i (o z)))))) (.some (i (i (i (i (i (o z))))))) Gd.no [],
   .mk (ldR true 2 (X.t (o (i z)))) (.some (o (o (o (o (o (i z))))))) Gd.no [],
   .mk (callS Tryd.prog 14 [(X.t (i (i (i (i (i (o z))))))), (X.t (o (o (o (o (o (i z)))))))]) (.some (i (o (o (o (o (i z))))))) Gd.no [],
   .mk (mvR (X.t (i (o (o (o (o (i z)))))))) (.some (o (i (i (i (i (o z))))))) Gd.no [],
   .mk (extR (X.t (o (i (i (i (i (o z))))))) 0) (.some (o (i (o (o (o (i z))))))) Gd.no [],
   .mk (extR (X.t (o (i (i (i (i (o z))))))) 1) (.some (i (i (o (o (o (i z))))))) Gd.no [],
   .mk (fun _ H => newC false [(AV.str []), (AV.str [])] H) (.some (i (o (o (i z))))) Gd.no [],
   .mk (stR 2 (X.t (i (o (o (i z))))) (X.t (o (i (o (o (o (i z)))))))) .none Gd.no [],
   .mk (mvR (X.t (i (i (o (o (o (i z)))))))) (.some (o (i (o (i z))))) Gd.no []])
  (.seq (.seq (.region [.mk (mvR (X.t (o (i (o (i z)))))) (.some (o (o (i (o (o (i z))))))) Gd.no [],
   .mk (unR UnOp.not (X.t (o (o (i (o (o (i z)))))))) (.some (i (o (i (o (o (i z))))))) Gd.no []])
  (.cond (X.t (i (o (i (o (o (i z)))))))
  (.exit 1)
  .skip))
  (.seq (.seq (.regionD [.mk (keepH (mvR (X.t (i (i (o (o z))))))) (.some (i (i (i (o (o (i z))))))) Gd.no [],
   .mk (keepH (lenR LnK.slice (X.t (i (i (i (o (o (i z))))))))) (.some (o (o (o (i (o (i z))))))) Gd.no [],
   .mk (keepH (mvR (X.t (i (o (i (o z))))))) (.some (o (i (i (o (o (i z))))))) Gd.no [],
   .mk (keepH (binR Tryd.prog EK.no .none false BinOp.geq (X.t (o (i (i (o (o (i z))))))) (X.t (o (o (o (i (o (i z))))))))) (.some (i (o (o (i (o (i z))))))) Gd.no [],
   .mk (keepH (mvR (X.t (i (o (o (i (o (i z))))))))) (.some (o (i (o (i (o (i z))))))) Gd.no [],
   .mk (keepH (mvR (X.t (o (o (o (i z))))))) (.some (o (o (o (o (i (i z))))))) (Gd.on (o (i (o (i (o (i z)))))) false) [],
   .mk (keepH (mvR (X.t (i (o (i (o z))))))) (.some (o (o (i (i (o (i z))))))) (Gd.on (o (i (o (i (o (i z)))))) false) [],
   .mk (keepH (mvR (X.t (i (i (o (o z))))))) (.some (i (i (o (i (o (i z))))))) (Gd.on (o (i (o (i (o (i z)))))) false) [],
   .mk (keepH (iaS 24 (X.t (i (i (o (i (o (i z))))))) (X.t (o (o (i (i (o (i z))))))))) (.some (i (o (i (i (o (i z))))))) (Gd.on (o (i (o (i (o (i z)))))) false) [],
   .mk (keepH (faR 2 (X.t (i (o (i (i (o (i z))))))))) (.some (o (i (i (i (o (i z))))))) (Gd.on (o (i (o (i (o (i z)))))) false) [],
   .mk (keepH (ldR false 1 (X.t (o (i (i (i (o (i z))))))))) (.some (i (i (i (i (o (i z))))))) (Gd.on (o (i (o (i (o (i z)))))) false) [],
   .mk (keepH (binR Tryd.prog EK.no .none false BinOp.neq (X.t (i (i (i (i (o (i z))))))) (X.t (o (o (o (o (i (i z))))))))) (.some (i (o (o (o (i (i z))))))) (Gd.on (o (i (o (i (o (i z)))))) false) [],
   .mk (keepH (pickR (X.t (o (i (o (i (o (i z))))))) (X.c (AV.bool true)) (X.t (i (o (o (o (i (i z))))))))) (.some (o (i (o (o (i (i z))))))) Gd.no [],
   .mk (keepH (mvR (X.t (o (i (o (o (i (i z))))))))) (.some (i (i (o (o (i (i z))))))) Gd.no [],
   .mk (keepH (ldR true 2 (X.t (i (o (o (i z))))))) (.some (i (o (o (i (i (i z))))))) (Gd.on (i (i (o (o (i (i z)))))) false) [],
   .mk (keepH (mvR (X.t (i (o (i (o z))))))) (.some (i (o (i (o (i (i z))))))) (Gd.on (i (i (o (o (i (i z)))))) false) [],
   .mk (keepH (mvR (X.t (i (i (o (o z))))))) (.some (o (o (i (o (i (i z))))))) (Gd.on (i (i (o (o (i (i z)))))) false) [],
   .mk (keepH (iaS 24 (X.t (o (o (i (o (i (i z))))))) (X.t (i (o (i (o (i (i z))))))))) (.some (o (i (i (o (i (i z))))))) (Gd.on (i (i (o (o (i (i z)))))) false) [],
   .mk (keepH (faR 18 (X.t (o (i (i (o (i (i z))))))))) (.some (i (i (i (o (i (i z))))))) (Gd.on (i (i (o (o (i (i z)))))) false) [],
   .mk (keepH (ldR true 2 (X.t (i (i (i (o (i (i z))))))))) (.some (o (o (o (i (i (i z))))))) (Gd.on (i (i (o (o (i (i z)))))) false) [],
   .mk (keepH (binR Tryd.prog EK.no (.some [LK.str, LK.str]) false BinOp.neq (X.t (o (o (o (i (i (i z))))))) (X.t (i (o (o (i (i (i z))))))))) (.some (o (i (o (i (i (i z))))))) (Gd.on (i (i (o (o (i (i z)))))) false) [],
   .mk (keepH (pickR (X.t (i (i (o (o (i (i z))))))) (X.c (AV.bool true)) (X.t (o (i (o (i (i (i z))))))))) (.some (i (i (o (i (i (i z))))))) Gd.no [],
   .mk (keepH (mvR (X.t (i (i (o (i (i (i z))))))))) (.some (o (o (i (i (i (i z))))))) Gd.no [],
   .mk (keepH (mvR (X.t (i (o (i (o z))))))) (.some (o (i (i (i (i (i z))))))) (Gd.on (o (o (i (i (i (i z)))))) false) [],
   .mk (keepH (mvR (X.t (i (i (o (o z))))))) (.some (i (o (i (i (i (i z))))))) (Gd.on (o (o (i (i (i (i z)))))) false) [],
   .mk (keepH (iaS 24 (X.t (i (o (i (i (i (i z))))))) (X.t (o (i (i (i (i (i z))))))))) (.some (i (i (i (i (i (i z))))))) (Gd.on (o (o (i (i (i (i z)))))) false) [],
   .mk (keepH (faR 0 (X.t (i (i (i (i (i (i z))))))))) (.some (o (o (o (o (o (o (o z)))))))) (Gd.on (o (o (i (i (i (i z)))))) false) [],
   .mk (keepH (ldR false 1 (X.t (o (o (o (o (o (o (o z)))))))))) (.some (i (o (o (o (o (o (o z)))))))) (Gd.on (o (o (i (i (i (i z)))))) false) [],
   .mk (keepH (binR Tryd.prog EK.no .none true BinOp.neq (X.t (i (o (o (o (o (o (o z)))))))) (X.c (AV.int .i64 3)))) (.some (o (i (o (o (o (o (o z)))))))) (Gd.on (o (o (i (i (i (i z)))))) false) [],
   .mk (keepH (pickR (X.t (o (o (i (i (i (i z))))))) (X.c (AV.bool true)) (X.t (o (i (o (o (o (o (o z)))))))))) (.some (i (i (o (o (o (o (o z)))))))) Gd.no [],
   .mk (keepH (mvR (X.t (i (i (o (o (o (o (o z)))))))))) (.some (o (o (i (o (o (o (o z)))))))) Gd.no [],
   .mk (keepH (mvR (X.t (i (o z))))) (.some (i (i (o (i (o (o (o z)))))))) (Gd.on (o (o (i (o (o (o (o z))))))) false) [],
   .mk (keepH (mmR false (X.t (i (i (o (i (o (o (o z)))))))) (X.c (AV.int .i64 8)))) (.some (o (o (i (i (o (o (o z)))))))) (Gd.on (o (o (i (o (o (o (o z))))))) false) [],
   .mk (keepH (mmR true (X.c (AV.int .i64 0)) (X.t (o (o (i (i (o (o (o z)))))))))) (.some (i (o (i (i (o (o (o z)))))))) (Gd.on (o (o (i (o (o (o (o z))))))) false) [],
   .mk (keepH (mvR (X.t (i (o (i z)))))) (.some (o (i (o (i (o (o (o z)))))))) (Gd.on (o (o (i (o (o (o (o z))))))) false) [],
   .mk (keepH (buildR [(AV.int .i64 0), (AV.int .i64 0), (AV.int .i64 0), (AV.int .i64 0), (AV.int .i64 0)] [(0, (1, (X.t (o (i (o (i (o (o (o z)))))))))), (1, (1, (X.t (i (o (i (i (o (o (o z)))))))))), (2, (1, (X.c (AV.int .i64 0))))])) (.some (o (i (i (i (o (o (o z)))))))) (Gd.on (o (o (i (o (o (o (o z))))))) false) [],
   .mk (keepH (mvR (X.t (i (o (i (o z))))))) (.some (o (i (i (o (o (o (o z)))))))) (Gd.on (o (o (i (o (o (o (o z))))))) false) [],
   .mk (keepH (mvR (X.t (i (i (o (o z))))))) (.some (i (o (i (o (o (o (o z)))))))) (Gd.on (o (o (i (o (o (o (o z))))))) false) [],
   .mk (keepH (iaS 24 (X.t (i (o (i (o (o (o (o z)))))))) (X.t (o (i (i (o (o (o (o z)))))))))) (.some (i (i (i (o (o (o (o z)))))))) (Gd.on (o (o (i (o (o (o (o z))))))) false) [],
   .mk (keepH (faR 3 (X.t (i (i (i (o (o (o (o z)))))))))) (.some (o (o (o (i (o (o (o z)))))))) (Gd.on (o (o (i (o (o (o (o z))))))) false) [],
   .mk (keepH (ldR true 5 (X.t (o (o (o (i (o (o (o z)))))))))) (.some (i (o (o (i (o (o (o z)))))))) (Gd.on (o (o (i (o (o (o (o z))))))) false) [],
   .mk (keepH (binR Tryd.prog EK.no (.some [LK.int, LK.int, LK.int, LK.int, LK.int]) false BinOp.neq (X.t (i (o (o (i (o (o (o z)))))))) (X.t (o (i (i (i (o (o (o z)))))))))) (.some (i (i (i (i (o (o (o z)))))))) (Gd.on (o (o (i (o (o (o (o z))))))) false) [],
   .mk (keepH (pickR (X.t (o (o (i (o (o (o (o z)))))))) (X.c (AV.bool true)) (X.t (i (i (i (i (o (o (o z)))))))))) (.some (o (o (o (o (i (o (o z)))))))) Gd.no [],
   .mk (keepH (mvR (X.t (o (o (o (o (i (o (o z)))))))))) (.some (i (o (o (o (i (o (o z)))))))) Gd.no [],
   .mk (keepH (ldR true 2 (X.t (i (o (o (i z))))))) (.some (o (o (o (i (i (o (o z)))))))) (Gd.on (i (o (o (o (i (o (o z))))))) false) [],
   .mk (keepH (mvR (X.t (o z)))) (.some (i (i (i (o (i (o (o z)))))))) (Gd.on (i (o (o (o (i (o (o z))))))) false) [],
   .mk (keepH (mvR (X.t (i (o (i (o z))))))) (.some (i (i (o (o (i (o (o z)))))))) (Gd.on (i (o (o (o (i (o (o z))))))) false) [],
   .mk (keepH (mvR (X.t (i (i (o (o z))))))) (.some (o (i (o (o (i (o (o z)))))))) (Gd.on (i (o (o (o (i (o (o z))))))) false) [],
   .mk (keepH (iaS 24 (X.t (o (i (o (o (i (o (o z)))))))) (X.t (i (i (o (o (i (o (o z)))))))))) (.some (o (o (i (o (i (o (o z)))))))) (Gd.on (i (o (o (o (i (o (o z))))))) false) [],
   .mk (keepH (faR 20 (X.t (o (o (i (o (i (o (o z)))))))))) (.some (i (o (i (o (i (o (o z)))))))) (Gd.on (i (o (o (o (i (o (o z))))))) false) [],
   .mk (keepH (ldR false 1 (X.t (i (o (i (o (i (o (o z)))))))))) (.some (o (i (i (o (i (o (o z)))))))) (Gd.on (i (o (o (o (i (o (o z))))))) false) [],
   .mk (callS Tryd.prog 16 [(X.t (i (i (i (o (i (o (o z)))))))), (X.t (o (o (o (i (i (o (o z))))))))]) (.some (i (o (o (i (i (o (o z)))))))) (Gd.on (i (o (o (o (i (o (o z))))))) false) [.mk (ldR false 1 (X.t (i (o (i (o (i (o (o z))))))))) (.some (o (i (i (o (i (o (o z)))))))) (Gd.on (i (o (o (o (i (o (o z))))))) false), .mk (faR 20 (X.t (o (o (i (o (i (o (o z))))))))) (.some (i (o (i (o (i (o (o z)))))))) (Gd.on (i (o (o (o (i (o (o z))))))) false), .mk (iaS 24 (X.t (o (i (o (o (i (o (o z)))))))) (X.t (i (i (o (o (i (o (o z))))))))) (.some (o (o (i (o (i (o (o z)))))))) (Gd.on (i (o (o (o (i (o (o z))))))) false), .mk (mvR (X.t (i (i (o (o z)))))) (.some (o (i (o (o (i (o (o z)))))))) (Gd.on (i (o (o (o (i (o (o z))))))) false), .mk (mvR (X.t (i (o (i (o z)))))) (.some (i (i (o (o (i (o (o z)))))))) (Gd.on (i (o (o (o (i (o (o z))))))) false)],
   .mk (callS Tryd.prog 15 [(X.t (o (i (i (o (i (o (o z)))))))), (X.t (i (o (o (i (i (o (o z))))))))]) (.some (o (i (o (i (i (o (o z)))))))) (Gd.on (i (o (o (o (i (o (o z))))))) false) [],
   .mk (keepH (unR UnOp.not (X.t (o (i (o (i (i (o (o z)))))))))) (.some (i (i (o (i (i (o (o z)))))))) (Gd.on (i (o (o (o (i (o (o z))))))) false) [],
   .mk (keepH (pickR (X.t (i (o (o (o (i (o (o z)))))))) (X.c (AV.bool true)) (X.t (i (i (o (i (i (o (o z)))))))))) (.some (o (o (i (i (i (o (o z)))))))) Gd.no []])
  (.cond (X.t (o (o (i (i (i (o (o z))))))))
  (.seq (.region [.mk (mvR (X.c (AV.bool false))) (.some (i (i (o z)))) Gd.no []])
  .ret)
  .skip))
  (.region [.mk (mvR (X.t (i (o (i (o z)))))) (.some (i (o (i (i (i (o (o z)))))))) Gd.no [],
   .mk (binR Tryd.prog EK.no .none true BinOp.add (X.t (i (o (i (i (i (o (o z)))))))) (X.c (AV.int .i64 1))) (.some (o (i (i (i (i (o (o z)))))))) Gd.no [],
   .mk (mvR (X.t (o (i (i (i (i (o (o z))))))))) (.some (i (o (i (o z))))) Gd.no []])))))))
  (.region [.mk (mvR (X.t (o (i (i (o z)))))) (.some (o (i (i (o (i (o z))))))) Gd.no [],
   .mk (binR Tryd.prog EK.no .none true BinOp.add (X.t (o (i (i (o (i (o z))))))) (X.c (AV.int .i64 1))) (.some (i (i (i (o (i (o z))))))) Gd.no [],
   .mk (mvR (X.t (i (i (i (o (i (o z)))))))) (.some (o (i (i (o z))))) Gd.no []])))
noncomputable def C4 : CC :=
  (.seq (.region [.mk (boxR false (X.t z)) (.some (o (i z))) Gd.no [],
   .mk (mvR (X.c (AV.bool false))) (.some (i (i (o z)))) Gd.no []])
  (.seq (.seq (.region [.mk (callS Tryd.prog 8 []) (.some (i (i (o (i z))))) Gd.no [],
   .mk (unR UnOp.not (X.t (i (i (o (i z)))))) (.some (o (o (i (i z))))) Gd.no []])
  (.cond (X.t (o (o (i (i z)))))
  (.seq (.region [.mk (mvR (X.c (AV.bool false))) (.some (i (i (o z)))) Gd.no []])
  .ret)
  .skip))
  (.seq (.seq (.region [.mk (mvR (X.t (o z))) (.some (i (o (i (i z))))) Gd.no [],
   .mk (lenR LnK.slice (X.t (i (o (i (i z)))))) (.some (o (i (i (i z))))) Gd.no [],
   .mk (binR Tryd.prog EK.no .none true BinOp.gtr (X.t (o (i (i (i z))))) (X.c (AV.int .i64 40))) (.some (i (i (i (i z))))) Gd.no [],
   .mk (mvR (X.t (i (i (i (i z)))))) (.some (o (o (o (o (o z)))))) Gd.no [],
   .mk (mvR (X.t (i z))) (.some (i (o (o (o (o z)))))) (Gd.on (o (o (o (o (o z))))) false) [],
   .mk (lenR LnK.str (X.t (i (o (o (o (o z))))))) (.some (o (i (o (o (o z)))))) (Gd.on (o (o (o (o (o z))))) false) [],
   .mk (binR Tryd.prog EK.no .none true BinOp.lss (X.t (o (i (o (o (o z)))))) (X.c (AV.int .i64 1))) (.some (i (i (o (o (o z)))))) (Gd.on (o (o (o (o (o z))))) false) [],
   .mk (pickR (X.t (o (o (o (o (o z)))))) (X.c (AV.bool true)) (X.t (i (i (o (o (o z))))))) (.some (o (o (i (o (o z)))))) Gd.no [],
   .mk (mvR (X.t (o (o (i (o (o z))))))) (.some (i (o (i (o (o z)))))) Gd.no [],
   .mk (mvR (X.t (i z))) (.some (o (i (i (o (o z)))))) (Gd.on (i (o (i (o (o z))))) false) [],
   .mk (lenR LnK.str (X.t (o (i (i (o (o z))))))) (.some (i (i (i (o (o z)))))) (Gd.on (i (o (i (o (o z))))) false) [],
   .mk (binR Tryd.prog EK.no .none true BinOp.gtr (X.t (i (i (i (o (o z)))))) (X.c (AV.int .i64 8))) (.some (o (o (o (i (o z)))))) (Gd.on (i (o (i (o (o z))))) false) [],
   .mk (pickR (X.t (i (o (i (o (o z)))))) (X.c (AV.bool true)) (X.t (o (o (o (i (o z))))))) (.some (i (o (o (i (o z)))))) Gd.no []])
  (.cond (X.t (i (o (o (i (o z))))))
  (.seq (.region [.mk (mvR (X.c (AV.bool true))) (.some (i (i (o z)))) Gd.no []])
  .ret)
  .skip))
  (.seq (.region [.mk (callS Tryd.prog 9 [(X.c (AV.int .i64 1))]) (.some (o (i (o (i (o z)))))) Gd.no [],
   .mk (mvR (X.t (o (i (o (i (o z))))))) (.some (o (o (i z)))) Gd.no []])
  (.seq (.region [.mk (mvR (X.t (o (o (i z))))) (.some (o (o (i (i (o z)))))) Gd.no [],
   .mk (ldR true 2 (X.t (o (i z)))) (.some (i (o (i (i (o z)))))) Gd.no [],
   .mk (mvR (X.t (o z))) (.some (o (i (i (i (o z)))))) Gd.no [],
   .mk (callS Tryd.prog 10 [(X.t (o (o (i (i (o z)))))), (X.t (i (o (i (i (o z)))))), (X.t (o (i (i (i (o z))))))]) (.some (i (i (i (i (o z)))))) Gd.no [],
   .mk (mvR (X.t (i (i (i (i (o z))))))) (.some (i (i (o (i (o z)))))) Gd.no [],
   .mk (extR (X.t (i (i (o (i (o z)))))) 0) (.some (o (o (o (o (i z)))))) Gd.no [],
   .mk (extR (X.t (i (i (o (i (o z)))))) 1) (.some (i (o (o (o (i z)))))) Gd.no [],
   .mk (mvR (X.t (o (o (o (o (i z))))))) (.some (i (o (i z)))) Gd.no [],
   .mk (mvR (X.t (i (o (o (o (i z))))))) (.some (o (i (i z)))) Gd.no []])
  (.seq (.seq (.region [.mk (mvR (X.t (o (i (i z))))) (.some (o (i (o (o (i z)))))) Gd.no [],
   .mk (binR Tryd.prog EK.iface .none true BinOp.neq (X.t (o (i (o (o (i z)))))) (X.c AV.nili)) (.some (i (i (o (o (i z)))))) Gd.no []])
  (.cond (X.t (i (i (o (o (i z))))))
  (.seq (.region [.mk (mvR (X.c (AV.bool true))) (.some (i (i (o z)))) Gd.no []])
  .ret)
  .skip))
  (.seq (.region [.mk (mvR (X.t (o (o z)))) (.some (o (o (i (o (i z)))))) Gd.no [],
   .mk (binR Tryd.prog EK.no .none true BinOp.rem (X.t (o (o (i (o (i z)))))) (X.c (AV.int IntKind.u8 3))) (.some (i (o (i (o (i z)))))) Gd.no [],
   .mk (convR (Cv.int .i64) (X.t (i (o (i (o (i z))))))) (.some (o (i (i (o (i z)))))) Gd.no [],
   .mk (mvR (X.t (o (o z)))) (.some (i (i (i (o (i z)))))) Gd.no [],
   .mk (binR Tryd.prog EK.no .none true BinOp.quo (X.t (i (i (i (o (i z)))))) (X.c (AV.int IntKind.u8 3))) (.some (o (o (o (i (i z)))))) Gd.no [],
   .mk (binR Tryd.prog EK.no .none true BinOp.rem (X.t (o (o (o (i (i z)))))) (X.c (AV.int IntKind.u8 3))) (.some (i (o (o (i (i z)))))) Gd.no [],
   .mk (convR (Cv.int .i64) (X.t (i (o (o (i (i z))))))) (.some (o (i (o (i (i z)))))) Gd.no [],
   .mk (mvR (X.t (o (i (i (o (i z))))))) (.some (i (i (i z)))) Gd.no [],
   .mk (mvR (X.t (o (i (o (i (i z))))))) (.some (o (o (o (o z))))) Gd.no []])
  (.seq (.region [.mk (mvR (X.t (i z))) (.some (i (i (o (i (i z)))))) Gd.no [],
   .mk (buildR [(AV.str []), (AV.str [])] [(1, (1, (X.t (i (i (o (i (i z))))))))]) (.some (o (o (i (i (i z)))))) Gd.no [],
   .mk (mvR (X.t (i z))) (.some (i (o (i (i (i z)))))) Gd.no [],
   .mk (buildR [(AV.str []), (AV.str [])] [(0, (1, (X.t (i (o (i (i (i z))))))))]) (.some (o (i (i (i (i z)))))) Gd.no [],
   .mk (fun _ H => newC false [(AV.str []), (AV.str [])] H) (.some (i (o (o (o z))))) Gd.no [],
   .mk (fun _ H => newC false [(AV.str []), (AV.str [])] H) (.some (o (i (o (o z))))) Gd.no [],
   .mk (stR 2 (X.t (i (o (o (o z))))) (X.t (o (o (i (i (i z))))))) .none Gd.no [],
   .mk (stR 2 (X.t (o (i (o (o z))))) (X.t (o (i (i (i (i z))))))) .none Gd.no []])
  (.seq (.region [.mk (mvR (X.t (o (o (i z))))) (.some (o (o (o (o (o (o z))))))) Gd.no [],
   .mk (mvR (X.t (i (o (i z))))) (.some (i (o (o (o (o (o z))))))) Gd.no [],
   .mk (mvR (X.t (i (o z)))) (.some (o (i (o (o (o (o z))))))) Gd.no [],
   .mk (mvR (X.t (i (i (i z))))) (.some (i (i (o (o (o (o z))))))) Gd.no [],
   .mk (ldR true 2 (X.t (i (o (o (o z)))))) (.some (o (o (i (o (o (o z))))))) Gd.no [],
   .mk (buildR [(AV.int .i64 0), (AV.int .i64 0), (AV.int .i64 0), (AV.str []), (AV.str [])] [(0, (1, (X.c (AV.int .i64 1)))), (1, (1, (X.c (AV.int .i64 1)))), (2, (1, (X.t (i (i (o (o (o (o z))))))))), (3, (2, (X.t (o (o (i (o (o (o z)))))))))]) (.some (i (o (i (o (o (o z))))))) Gd.no [],
   .mk (mvR (X.t (o (o (o (o z)))))) (.some (o (i (i (o (o (o z))))))) Gd.no [],
   .mk (ldR true 2 (X.t (o (i (o (o z)))))) (.some (i (i (i (o (o (o z))))))) Gd.no [],
   .mk (buildR [(AV.int .i64 0), (AV.int .i64 0), (AV.int .i64 0), (AV.str []), (AV.str [])] [(0, (1, (X.c (AV.int .i64 2)))), (1, (1, (X.c (AV.int .i64 1)))), (2, (1, (X.t (o (i (i (o (o (o z))))))))), (3, (2, (X.t (i (i (i (o (o (o z)))))))))]) (.some (o (o (o (i (o (o z))))))) Gd.no [],
   .mk (bslR 5 2 [(AV.int .i64 0), (AV.int .i64 0), (AV.int .i64 0), (AV.str []), (AV.str [])] [(0, (X.t (i (o (i (o (o (o z)))))))), (1, (X.t (o (o (o (i (o (o z))))))))]) (.some (i (o (o (i (o (o z))))))) Gd.no [],
   .mk (callS Tryd.prog 13 [(X.t (o (o (o (o (o (o z))))))), (X.t (i (o (o (o (o (o z))))))), (X.t (o (i (o (o (o (o z))))))), (X.t (i (o (o (i (o (o z)))))))]) (.some (o (i (o (i (o (o z))))))) Gd.no [],
   .mk (mvR (X.t (o (i (o (i (o (o z)))))))) (.some (i (i (i (i (i z)))))) Gd.no [],
   .mk (extR (X.t (i (i (i (i (i z)))))) 0) (.some (i (i (o (i (o (o z))))))) Gd.no [],
   .mk (extR (X.t (i (i (i (i (i z)))))) 1) (.some (o (o (i (i (o (o z))))))) Gd.no [],
   .mk (mvR (X.t (i (i (o (i (o (o z)))))))) (.some (i (i (o (o z))))) Gd.no [],
   .mk (mvR (X.t (o (o (i (i (o (o z)))))))) (.some (o (o (i (o z))))) Gd.no []])
  (.seq (.seq (.region [.mk (mvR (X.t (o (o (i (o z)))))) (.some (i (o (i (i (o (o z))))))) Gd.no [],
   .mk (binR Tryd.prog EK.iface .none true BinOp.neq (X.t (i (o (i (i (o (o z))))))) (X.c AV.nili)) (.some (o (i (i (i (o (o z))))))) Gd.no [],
   .mk (mvR (X.t (o (i (i (i (o (o z)))))))) (.some (i (i (i (i (o (o z))))))) Gd.no [],
   .mk (mvR (X.t (i (i (o (o z)))))) (.some (o (o (o (o (i (o z))))))) (Gd.on (i (i (i (i (o (o z)))))) false) [],
   .mk (lenR LnK.slice (X.t (o (o (o (o (i (o z)))))))) (.some (i (o (o (o (i (o z))))))) (Gd.on (i (i (i (i (o (o z)))))) false) [],
   .mk (binR Tryd.prog EK.no .none true BinOp.gtr (X.t (i (o (o (o (i (o z))))))) (X.c (AV.int .i64 2))) (.some (o (i (o (o (i (o z))))))) (Gd.on (i (i (i (i (o (o z)))))) false) [],
   .mk (pickR (X.t (i (i (i (i (o (o z))))))) (X.c (AV.bool true)) (X.t (o (i (o (o (i (o z)))))))) (.some (i (i (o (o (i (o z))))))) Gd.no []])
  (.cond (X.t (i (i (o (o (i (o z)))))))
  (.seq (.region [.mk (mvR (X.c (AV.bool false))) (.some (i (i (o z)))) Gd.no []])
  .ret)
  .skip))
  (.seq (.region [.mk (mvR (X.c (AV.int .i64 0))) (.some (i (o (i (o z))))) Gd.no []])
  (.seq (.seq (.region [.mk (mvR (X.c (AV.int .i64 0))) (.some (o (i (i (o z))))) Gd.no []])
  (.block 0 (.loop C4L0)))
  (.seq (.region [.mk (mvR (X.t (i (o (i (o z)))))) (.some (i (i (i (i (i (o (o z)))))))) Gd.no [],
   .mk (mvR (X.t (i (i (o (o z)))))) (.some (o (o (o (o (o (i (o z)))))))) Gd.no [],
   .mk (lenR LnK.slice (X.t (o (o (o (o (o (i (o z))))))))) (.some (i (o (o (o (o (i (o z)))))))) Gd.no [],
   .mk (binR Tryd.prog EK.no .none false BinOp.eql (X.t (i (i (i (i (i (o (o z)))))))) (X.t (i (o (o (o (o (i (o z))))))))) (.some (o (i (o (o (o (i (o z)))))))) Gd.no [],
   .mk (mvR (X.t (o (i (o (o (o (i (o z))))))))) (.some (i (i (o z)))) Gd.no []])
  .ret)))))))))))))
theorem C4ok : (match Tryd.f4.body with | some c => comp Tryd.prog 162 c | none => none) = some C4 := by kernel_rfl
@[go_sem] theorem call4 (args : List AV) (H : Heap) : callC Tryd.prog 4 args H = .call 4 args := callC_ok (by kernel_rfl) args H
theorem R4ok : resKs Tryd.prog Tryd.f4.results.toList = some [(RK.tmp (i (i (o z))))] := by kernel_rfl

noncomputable def C8 : CC :=
  (.seq (.region [.mk (mvR (X.c (AV.bool false))) (.some z) Gd.no []])
  (.seq (.region [.mk (callS Tryd.prog 9 [(X.c (AV.int .i64 0))]) (.some (i (o (o (o z))))) Gd.no [],
   .mk (mvR (X.t (i (o (o (o z)))))) (.some (o z)) Gd.no []])
  (.seq (.seq (.region [.mk (mvR (X.t (o z))) (.some (o (i (o (o z))))) Gd.no [],
   .mk (binR Tryd.prog EK.ptr .none true BinOp.eql (X.t (o (i (o (o z))))) (X.c AV.nilp)) (.some (i (i (o (o z))))) Gd.no []])
  (.cond (X.t (i (i (o (o z)))))
  (.seq (.region [.mk (mvR (X.c (AV.bool false))) (.some z) Gd.no []])
  .ret)
  .skip))
  (.seq (.region [.mk (mvR (X.t (o z))) (.some (i (o (i (o z))))) Gd.no [],
   .mk (buildR [(AV.str []), (AV.str [])] []) (.some (o (i (i (o z))))) Gd.no [],
   .mk (callS Tryd.prog 10 [(X.t (i (o (i (o z))))), (X.t (o (i (i (o z))))), (X.c AV.nils)]) (.some (i (i (i (o z))))) Gd.no [],
   .mk (mvR (X.t (i (i (i (o z)))))) (.some (o (o (i (o z))))) Gd.no [],
   .mk (extR (X.t (o (o (i (o z))))) 0) (.some (o (o (o (i z))))) Gd.no [],
   .mk (extR (X.t (o (o (i (o z))))) 1) (.some (i (o (o (i z))))) Gd.no [],
   .mk (mvR (X.t (o (o (o (i z)))))) (.some (i z)) Gd.no [],
   .mk (mvR (X.t (i (o (o (i z)))))) (.some (o (o z))) Gd.no []])
  (.seq (.region [.mk (mvR (X.t (o z))) (.some (i (i (o (i z))))) Gd.no [],
   .mk (buildR [(AV.str []), (AV.str [])] [(0, (1, (X.c (AV.str [98]))))]) (.some (o (o (i (i z))))) Gd.no [],
   .mk (buildR [(AV.str []), (AV.int .i64 0)] [(0, (1, (X.c (AV.str [97]))))]) (.some (i (o (i (i z))))) Gd.no [],
   .mk (bslR 2 1 [(AV.str []), (AV.int .i64 0)] [(0, (X.t (i (o (i (i z))))))]) (.some (o (i (i (i z))))) Gd.no [],
   .mk (callS Tryd.prog 10 [(X.t (i (i (o (i z))))), (X.t (o (o (i (i z))))), (X.t (o (i (i (i z)))))]) (.some (i (i (i (i z))))) Gd.no [],
   .mk (mvR (X.t (i (i (i (i z)))))) (.some (o (i (o (i z))))) Gd.no [],
   .mk (extR (X.t (o (i (o (i z))))) 0) (.some (o (o (o (o (o z)))))) Gd.no [],
   .mk (extR (X.t (o (i (o (i z))))) 1) (.some (i (o (o (o (o z)))))) Gd.no [],
   .mk (mvR (X.t (o (o (o (o (o z))))))) (.some (i (o z))) Gd.no [],
   .mk (mvR (X.t (i (o (o (o (o z))))))) (.some (o (i z))) Gd.no []])
  (.seq (.region [.mk (mvR (X.t (o z))) (.some (i (i (o (o (o z)))))) Gd.no [],
   .mk (buildR [(AV.int .i64 0), (AV.int .i64 0), (AV.int .i64 0), (AV.str []), (AV.str [])] [(0, (1, (X.c (AV.int .i64 1)))), (1, (1, (X.c (AV.int .i64 1)))), (2, (1, (X.c (AV.int .i64 2))))]) (.some (o (o (i (o (o z)))))) Gd.no [],
   .mk (bslR 5 1 [(AV.int .i64 0), (AV.int .i64 0), (AV.int .i64 0), (AV.str []), (AV.str [])] [(0, (X.t (o (o (i (o (o z)))))))]) (.some (i (o (i (o (o z)))))) Gd.no [],
   .mk (callS Tryd.prog 13 [(X.t (i (i (o (o (o z)))))), (X.c (AV.int .i64 0)), (X.c (AV.int .i64 99)), (X.t (i (o (i (o (o z))))))]) (.some (o (i (i (o (o z)))))) Gd.no [],
   .mk (mvR (X.t (o (i (i (o (o z))))))) (.some (o (i (o (o (o z)))))) Gd.no [],
   .mk (extR (X.t (o (i (o (o (o z)))))) 0) (.some (i (i (i (o (o z)))))) Gd.no [],
   .mk (extR (X.t (o (i (o (o (o z)))))) 1) (.some (o (o (o (i (o z)))))) Gd.no [],
   .mk (mvR (X.t (i (i (i (o (o z))))))) (.some (i (i z))) Gd.no [],
   .mk (mvR (X.t (o (o (o (i (o z))))))) (.some (o (o (o z)))) Gd.no []])
  (.seq (.region [.mk (mvR (X.t (o z))) (.some (o (i (o (i (o z)))))) Gd.no [],
   .mk (buildR [(AV.int .i64 0), (AV.int .i64 0), (AV.int .i64 0), (AV.int .i64 0), (AV.int .i64 0)] [(0, (1, (X.c (AV.int .i64 0)))), (1, (1, (X.c (AV.int .i64 0)))), (2, (1, (X.c (AV.int .i64 1))))]) (.some (i (i (o (i (o z)))))) Gd.no [],
   .mk (buildR [(AV.str []), (AV.int .i64 0), (AV.str []), (AV.bool false)] [(0, (1, (X.c (AV.str [107])))), (1, (1, (X.c (AV.int .i64 2))))]) (.some (o (o (i (i (o z)))))) Gd.no [],
   .mk (buildR [(AV.str []), (AV.int .i64 0), (AV.str []), (AV.bool false)] [(0, (1, (X.c (AV.str [107])))), (1, (1, (X.c (AV.int .i64 1))))]) (.some (i (o (i (i (o z)))))) Gd.no [],
   .mk (buildR [(AV.str []), (AV.int .i64 0), (AV.str []), (AV.bool false)] [(0, (1, (X.c (AV.str [107])))), (1, (1, (X.c (AV.int .i64 2))))]) (.some (o (i (i (i (o z)))))) Gd.no [],
   .mk (bslR 4 3 [(AV.str []), (AV.int .i64 0), (AV.str []), (AV.bool false)] [(0, (X.t (o (o (i (i (o z))))))), (1, (X.t (i (o (i (i (o z))))))), (2, (X.t (o (i (i (i (o z)))))))]) (.some (i (i (i (i (o z)))))) Gd.no [],
   .mk (buildR [(AV.int .i64 0), (AV.int .i64 0), (AV.int .i64 0), (AV.int .i64 0), (AV.int .i64 0), (AV.int .i64 0), (AV.int .i64 0), (AV.int .i64 0), (AV.int .i64 0), (AV.str []), (AV.str []), (AV.str []), (AV.int .i64 0), AV.nils, (AV.int .i64 0), (AV.str []), (AV.int .i64 0), AV.nils, (AV.str []), (AV.str []), AV.nils, AV.nils, AV.nils, (AV.str [])] [(0, (1, (X.c (AV.int .i64 4)))), (1, (1, (X.c (AV.int .i64 2)))), (3, (5, (X.t (i (i (o (i (o z)))))))), (21, (1, (X.t (i (i (i (i (o z))))))))]) (.some (o (o (o (o (i z)))))) Gd.no [],
   .mk (callS Tryd.prog 11 [(X.t (o (i (o (i (o z)))))), (X.t (o (o (o (o (i z))))))]) (.some (i (o (o (o (i z)))))) Gd.no [],
   .mk (mvR (X.t (i (o (o (o (i z))))))) (.some (i (o (o (i (o z)))))) Gd.no [],
   .mk (extR (X.t (i (o (o (i (o z)))))) 0) (.some (o (i (o (o (i z)))))) Gd.no [],
   .mk (extR (X.t (i (o (o (i (o z)))))) 1) (.some (i (i (o (o (i z)))))) Gd.no [],
   .mk (mvR (X.t (o (i (o (o (i z))))))) (.some (i (o (o z)))) Gd.no [],
   .mk (mvR (X.t (i (i (o (o (i z))))))) (.some (o (i (o z)))) Gd.no []])
  (.seq (.region [.mk (mvR (X.t (o z))) (.some (i (o (i (o (i z)))))) Gd.no [],
   .mk (callS Tryd.prog 12 [(X.t (i (o (i (o (i z)))))), (X.c (AV.int .i64 0))]) (.some (o (i (i (o (i z)))))) Gd.no [],
   .mk (mvR (X.t (o (i (i (o (i z))))))) (.some (o (o (i (o (i z)))))) Gd.no [],
   .mk (extR (X.t (o (o (i (o (i z)))))) 0) (.some (i (i (i (o (i z)))))) Gd.no [],
   .mk (extR (X.t (o (o (i (o (i z)))))) 1) (.some (o (o (o (i (i z)))))) Gd.no [],
   .mk (fun _ H => newC false [(AV.str []), (AV.str []), AV.nils, (AV.int .i64 0), (AV.int .i64 0)] H) (.some (i (i (o z)))) Gd.no [],
   .mk (stR 5 (X.t (i (i (o z)))) (X.t (i (i (i (o (i z))))))) .none Gd.no [],
   .mk (mvR (X.t (o (o (o (i (i z))))))) (.some (o (o (i z)))) Gd.no []])
  (.seq (.region [.mk (mvR (X.t (o z))) (.some (o (i (o (i (i z)))))) Gd.no [],
   .mk (callS Tryd.prog 13 [(X.t (o (i (o (i (i z)))))), (X.c (AV.int .i64 5)), (X.c (AV.int .i64 1)), (X.c AV.nils)]) (.some (i (i (o (i (i z)))))) Gd.no [],
   .mk (mvR (X.t (i (i (o (i (i z))))))) (.some (i (o (o (i (i z)))))) Gd.no [],
   .mk (extR (X.t (i (o (o (i (i z)))))) 0) (.some (o (o (i (i (i z)))))) Gd.no [],
   .mk (extR (X.t (i (o (o (i (i z)))))) 1) (.some (i (o (i (i (i z)))))) Gd.no [],
   .mk (mvR (X.t (o (o (i (i (i z))))))) (.some (i (o (i z)))) Gd.no [],
   .mk (mvR (X.t (i (o (i (i (i z))))))) (.some (o (i (i z)))) Gd.no []])
  (.seq (.region [.mk (mvR (X.t (o z))) (.some (o (i (i (i (i z)))))) Gd.no [],
   .mk (callS Tryd.prog 30 [(X.t (o (i (i (i (i z)))))), (X.c (AV.int .i64 0))]) (.some (i (i (i (i (i z)))))) Gd.no [],
   .mk (mvR (X.t (i (i (i (i (i z))))))) (.some (i (i (i z)))) Gd.no []])
  (.seq (.region [.mk (mvR (X.t (o z))) (.some (o (o (o (o (o (o z))))))) Gd.no [],
   .mk (callS Tryd.prog 30 [(X.t (o (o (o (o (o (o z))))))), (X.c (AV.int .i64 0))]) (.some (i (o (o (o (o (o z))))))) Gd.no [],
   .mk (mvR (X.t (i (o (o (o (o (o z)))))))) (.some (o (o (o (o z))))) Gd.no []])
  (.seq (.region [.mk (mvR (X.t (i z))) (.some (o (i (o (o (o (o z))))))) Gd.no [],
   .mk (binR Tryd.prog EK.no .none true BinOp.eql (X.t (o (i (o (o (o (o z))))))) (X.c (AV.int .i64 0))) (.some (i (i (o (o (o (o z))))))) Gd.no [],
   .mk (mvR (X.t (i (i (o (o (o (o z)))))))) (.some (o (o (i (o (o (o z))))))) Gd.no [],
   .mk (mvR (X.t (o (o z)))) (.some (i (o (i (o (o (o z))))))) (Gd.on (o (o (i (o (o (o z)))))) true) [],
   .mk (binR Tryd.prog EK.iface .none true BinOp.eql (X.t (i (o (i (o (o (o z))))))) (X.c AV.nili)) (.some (o (i (i (o (o (o z))))))) (Gd.on (o (o (i (o (o (o z)))))) true) [],
   .mk (pickR (X.t (o (o (i (o (o (o z))))))) (X.t (o (i (i (o (o (o z))))))) (X.c (AV.bool false))) (.some (i (i (i (o (o (o z))))))) Gd.no [],
   .mk (mvR (X.t (i (i (i (o (o (o z)))))))) (.some (o (o (o (i (o (o z))))))) Gd.no [],
   .mk (mvR (X.t (o (i z)))) (.some (i (o (o (i (o (o z))))))) (Gd.on (o (o (o (i (o (o z)))))) true) [],
   .mk (callS Tryd.prog 22 [(X.t (i (o (o (i (o (o z))))))), (X.c (AV.int .i64 10))]) (.some (o (i (o (i (o (o z))))))) (Gd.on (o (o (o (i (o (o z)))))) true) [],
   .mk (pickR (X.t (o (o (o (i (o (o z))))))) (X.t (o (i (o (i (o (o z))))))) (X.c (AV.bool false))) (.some (i (i (o (i (o (o z))))))) Gd.no [],
   .mk (mvR (X.t (i (i (o (i (o (o z)))))))) (.some (o (o (i (i (o (o z))))))) Gd.no [],
   .mk (mvR (X.t (o (o (o z))))) (.some (i (o (i (i (o (o z))))))) (Gd.on (o (o (i (i (o (o z)))))) true) [],
   .mk (binR Tryd.prog EK.iface .none true BinOp.eql (X.t (i (o (i (i (o (o z))))))) (X.c AV.nili)) (.some (o (i (i (i (o (o z))))))) (Gd.on (o (o (i (i (o (o z)))))) true) [],
   .mk (pickR (X.t (o (o (i (i (o (o z))))))) (X.t (o (i (i (i (o (o z))))))) (X.c (AV.bool false))) (.some (i (i (i (i (o (o z))))))) Gd.no [],
   .mk (mvR (X.t (i (i (i (i (o (o z)))))))) (.some (o (o (o (o (i (o z))))))) Gd.no [],
   .mk (mvR (X.t (i (i z)))) (.some (i (o (o (o (i (o z))))))) (Gd.on (o (o (o (o (i (o z)))))) true) [],
   .mk (lenR LnK.slice (X.t (i (o (o (o (i (o z)))))))) (.some (o (i (o (o (i (o z))))))) (Gd.on (o (o (o (o (i (o z)))))) true) [],
   .mk (binR Tryd.prog EK.no .none true BinOp.eql (X.t (o (i (o (o (i (o z))))))) (X.c (AV.int .i64 1))) (.some (i (i (o (o (i (o z))))))) (Gd.on (o (o (o (o (i (o z)))))) true) [],
   .mk (pickR (X.t (o (o (o (o (i (o z))))))) (X.t (i (i (o (o (i (o z))))))) (X.c (AV.bool false))) (.some (o (o (i (o (i (o z))))))) Gd.no [],
   .mk (mvR (X.t (o (o (i (o (i (o z)))))))) (.some (i (o (i (o (i (o z))))))) Gd.no [],
   .mk (mvR (X.t (i (i z)))) (.some (o (i (i (o (i (o z))))))) (Gd.on (i (o (i (o (i (o z)))))) true) [],
   .mk (iaS 24 (X.t (o (i (i (o (i (o z))))))) (X.c (AV.int .i64 0))) (.some (i (i (i (o (i (o z))))))) (Gd.on (i (o (i (o (i (o z)))))) true) [],
   .mk (faR 2 (X.t (i (i (i (o (i (o z)))))))) (.some (o (o (o (i (i (o z))))))) (Gd.on (i (o (i (o (i (o z)))))) true) [],
   .mk (ldR false 1 (X.t (o (o (o (i (i (o z)))))))) (.some (i (o (o (i (i (o z))))))) (Gd.on (i (o (i (o (i (o z)))))) true) [],
   .mk (binR Tryd.prog EK.no .none true BinOp.eql (X.t (i (o (o (i (i (o z))))))) (X.c (AV.int .i64 2))) (.some (o (i (o (i (i (o z))))))) (Gd.on (i (o (i (o (i (o z)))))) true) [],
   .mk (pickR (X.t (i (o (i (o (i (o z))))))) (X.t (o (i (o (i (i (o z))))))) (X.c (AV.bool false))) (.some (i (i (o (i (i (o z))))))) Gd.no [],
   .mk (mvR (X.t (i (i (o (i (i (o z)))))))) (.some (o (o (i (i (i (o z))))))) Gd.no [],
   .mk (mvR (X.t (i (i z)))) (.some (i (o (i (i (i (o z))))))) (Gd.on (o (o (i (i (i (o z)))))) true) [],
   .mk (iaS 24 (X.t (i (o (i (i (i (o z))))))) (X.c (AV.int .i64 0))) (.some (o (i (i (i (i (o z))))))) (Gd.on (o (o (i (i (i (o z)))))) true) [],
   .mk (faR 3 (X.t (o (i (i (i (i (o z)))))))) (.some (i (i (i (i (i (o z))))))) (Gd.on (o (o (i (i (i (o z)))))) true) [],
   .mk (ldR true 5 (X.t (i (i (i (i (i (o z)))))))) (.some (o (o (o (o (o (i z))))))) (Gd.on (o (o (i (i (i (o z)))))) true) [],
   .mk (buildR [(AV.int .i64 0), (AV.int .i64 0), (AV.int .i64 0), (AV.int .i64 0), (AV.int .i64 0)] [(0, (1, (X.c (AV.int .i64 0)))), (1, (1, (X.c (AV.int .i64 8)))), (2, (1, (X.c (AV.int .i64 0))))]) (.some (i (o (o (o (o (i z))))))) (Gd.on (o (o (i (i (i (o z)))))) true) [],
   .mk (binR Tryd.prog EK.no (.some [LK.int, LK.int, LK.int, LK.int, LK.int]) false BinOp.eql (X.t (o (o (o (o (o (i z))))))) (X.t (i (o (o (o (o (i z)))))))) (.some (o (i (o (o (o (i z))))))) (Gd.on (o (o (i (i (i (o z)))))) true) [],
   .mk (pickR (X.t (o (o (i (i (i (o z))))))) (X.t (o (i (o (o (o (i z))))))) (X.c (AV.bool false))) (.some (i (i (o (o (o (i z))))))) Gd.no [],
   .mk (mvR (X.t (i (i (o (o (o (i z)))))))) (.some (o (o (i (o (o (i z))))))) Gd.no [],
   .mk (mvR (X.t (i (o (o z))))) (.some (i (o (i (o (o (i z))))))) (Gd.on (o (o (i (o (o (i z)))))) true) [],
   .mk (lenR LnK.slice (X.t (i (o (i (o (o (i z)))))))) (.some (o (i (i (o (o (i z))))))) (Gd.on (o (o (i (o (o (i z)))))) true) [],
   .mk (binR Tryd.prog EK.no .none true BinOp.eql (X.t (o (i (i (o (o (i z))))))) (X.c (AV.int .i64 2))) (.some (i (i (i (o (o (i z))))))) (Gd.on (o (o (i (o (o (i z)))))) true) [],
   .mk (pickR (X.t (o (o (i (o (o (i z))))))) (X.t (i (i (i (o (o (i z))))))) (X.c (AV.bool false))) (.some (o (o (o (i (o (i z))))))) Gd.no [],
   .mk (mvR (X.t (o (o (o (i (o (i z)))))))) (.some (i (o (o (i (o (i z))))))) Gd.no [],
   .mk (mvR (X.t (o (i (o z))))) (.some (o (i (o (i (o (i z))))))) (Gd.on (i (o (o (i (o (i z)))))) true) [],
   .mk (unR UnOp.not (X.t (o (i (o (i (o (i z)))))))) (.some (i (i (o (i (o (i z))))))) (Gd.on (i (o (o (i (o (i z)))))) true) [],
   .mk (pickR (X.t (i (o (o (i (o (i z))))))) (X.t (i (i (o (i (o (i z))))))) (X.c (AV.bool false))) (.some (o (o (i (i (o (i z))))))) Gd.no [],
   .mk (mvR (X.t (o (o (i (i (o (i z)))))))) (.some (i (o (i (i (o (i z))))))) Gd.no [],
   .mk (mvR (X.t (o (o (i z))))) (.some (o (i (i (i (o (i z))))))) (Gd.on (i (o (i (i (o (i z)))))) true) [],
   .mk (pickR (X.t (i (o (i (i (o (i z))))))) (X.t (o (i (i (i (o (i z))))))) (X.c (AV.bool false))) (.some (i (i (i (i (o (i z))))))) Gd.no [],
   .mk (mvR (X.t (i (i (i (i (o (i z)))))))) (.some (o (o (o (o (i (i z))))))) Gd.no [],
   .mk (faR 4 (X.t (i (i (o z))))) (.some (i (o (o (o (i (i z))))))) (Gd.on (o (o (o (o (i (i z)))))) true) [],
   .mk (ldR false 1 (X.t (i (o (o (o (i (i z)))))))) (.some (o (i (o (o (i (i z))))))) (Gd.on (o (o (o (o (i (i z)))))) true) [],
   .mk (binR Tryd.prog EK.no .none true BinOp.eql (X.t (o (i (o (o (i (i z))))))) (X.c (AV.int .i64 2))) (.some (i (i (o (o (i (i z))))))) (Gd.on (o (o (o (o (i (i z)))))) true) [],
   .mk (pickR (X.t (o (o (o (o (i (i z))))))) (X.t (i (i (o (o (i (i z))))))) (X.c (AV.bool false))) (.some (o (o (i (o (i (i z))))))) Gd.no [],
   .mk (mvR (X.t (o (o (i (o (i (i z)))))))) (.some (i (o (i (o (i (i z))))))) Gd.no [],
   .mk (faR 2 (X.t (i (i (o z))))) (.some (o (i (i (o (i (i z))))))) (Gd.on (i (o (i (o (i (i z)))))) true) [],
   .mk (ldR false 1 (X.t (o (i (i (o (i (i z)))))))) (.some (i (i (i (o (i (i z))))))) (Gd.on (i (o (i (o (i (i z)))))) true) [],
   .mk (lenR LnK.slice (X.t (i (i (i (o (i (i z)))))))) (.some (o (o (o (i (i (i z))))))) (Gd.on (i (o (i (o (i (i z)))))) true) [],
   .mk (binR Tryd.prog EK.no .none true BinOp.eql (X.t (o (o (o (i (i (i z))))))) (X.c (AV.int .i64 1))) (.some (i (o (o (i (i (i z))))))) (Gd.on (i (o (i (o (i (i z)))))) true) [],
   .mk (pickR (X.t (i (o (i (o (i (i z))))))) (X.t (i (o (o (i (i (i z))))))) (X.c (AV.bool false))) (.some (o (i (o (i (i (i z))))))) Gd.no [],
   .mk (mvR (X.t (o (i (o (i (i (i z)))))))) (.some (i (i (o (i (i (i z))))))) Gd.no [],
   .mk (faR 2 (X.t (i (i (o z))))) (.some (o (o (i (i (i (i z))))))) (Gd.on (i (i (o (i (i (i z)))))) true) [],
   .mk (ldR false 1 (X.t (o (o (i (i (i (i z)))))))) (.some (i (o (i (i (i (i z))))))) (Gd.on (i (i (o (i (i (i z)))))) true) [],
   .mk (iaS 2 (X.t (i (o (i (i (i (i z))))))) (X.c (AV.int .i64 0))) (.some (o (i (i (i (i (i z))))))) (Gd.on (i (i (o (i (i (i z)))))) true) [],
   .mk (faR 1 (X.t (o (i (i (i (i (i z)))))))) (.some (i (i (i (i (i (i z))))))) (Gd.on (i (i (o (i (i (i z)))))) true) [],
   .mk (ldR false 1 (X.t (i (i (i (i (i (i z)))))))) (.some (o (o (o (o (o (o (o z)))))))) (Gd.on (i (i (o (i (i (i z)))))) true) [],
   .mk (binR Tryd.prog EK.no .none true BinOp.eql (X.t (o (o (o (o (o (o (o z)))))))) (X.c (AV.int .i64 2))) (.some (i (o (o (o (o (o (o z)))))))) (Gd.on (i (i (o (i (i (i z)))))) true) [],
   .mk (pickR (X.t (i (i (o (i (i (i z))))))) (X.t (i (o (o (o (o (o (o z)))))))) (X.c (AV.bool false))) (.some (o (i (o (o (o (o (o z)))))))) Gd.no [],
   .mk (mvR (X.t (o (i (o (o (o (o (o z))))))))) (.some (i (i (o (o (o (o (o z)))))))) Gd.no [],
   .mk (mvR (X.t (o (i (i z))))) (.some (o (o (i (o (o (o (o z)))))))) (Gd.on (i (i (o (o (o (o (o z))))))) true) [],
   .mk (callS Tryd.prog 22 [(X.t (o (o (i (o (o (o (o z)))))))), (X.c (AV.int .i64 23))]) (.some (i (o (i (o (o (o (o z)))))))) (Gd.on (i (i (o (o (o (o (o z))))))) true) [],
   .mk (pickR (X.t (i (i (o (o (o (o (o z)))))))) (X.t (i (o (i (o (o (o (o z)))))))) (X.c (AV.bool false))) (.some (o (i (i (o (o (o (o z)))))))) Gd.no [],
   .mk (mvR (X.t (o (i (i (o (o (o (o z))))))))) (.some (i (i (i (o (o (o (o z)))))))) Gd.no [],
   .mk (mvR (X.t (i (i (i z))))) (.some (o (o (o (i (o (o (o z)))))))) (Gd.on (i (i (i (o (o (o (o z))))))) true) [],
   .mk (binR Tryd.prog EK.iface .none true BinOp.eql (X.t (o (o (o (i (o (o (o z)))))))) (X.c AV.nili)) (.some (i (o (o (i (o (o (o z)))))))) (Gd.on (i (i (i (o (o (o (o z))))))) true) [],
   .mk (pickR (X.t (i (i (i (o (o (o (o z)))))))) (X.t (i (o (o (i (o (o (o z)))))))) (X.c (AV.bool false))) (.some (o (i (o (i (o (o (o z)))))))) Gd.no [],
   .mk (mvR (X.t (o (i (o (i (o (o (o z))))))))) (.some (i (i (o (i (o (o (o z)))))))) Gd.no [],
   .mk (mvR (X.t (o (o (o (o z)))))) (.some (o (o (i (i (o (o (o z)))))))) (Gd.on (i (i (o (i (o (o (o z))))))) true) [],
   .mk (callS Tryd.prog 22 [(X.t (o (o (i (i (o (o (o z)))))))), (X.c (AV.int .i64 24))]) (.some (i (o (i (i (o (o (o z)))))))) (Gd.on (i (i (o (i (o (o (o z))))))) true) [],
   .mk (pickR (X.t (i (i (o (i (o (o (o z)))))))) (X.t (i (o (i (i (o (o (o z)))))))) (X.c (AV.bool false))) (.some (o (i (i (i (o (o (o z)))))))) Gd.no [],
   .mk (mvR (X.t (o (i (i (i (o (o (o z))))))))) (.some (i (i (i (i (o (o (o z)))))))) Gd.no [],
   .mk (mvR (X.t (o z))) (.some (o (o (o (o (i (o (o z)))))))) (Gd.on (i (i (i (i (o (o (o z))))))) true) [],
   .mk (callS Tryd.prog 17 [(X.t (o (o (o (o (i (o (o z))))))))]) (.some (i (o (o (o (i (o (o z)))))))) (Gd.on (i (i (i (i (o (o (o z))))))) true) [],
   .mk (binR Tryd.prog EK.no .none true BinOp.eql (X.t (i (o (o (o (i (o (o z)))))))) (X.c (AV.int .i64 1))) (.some (o (i (o (o (i (o (o z)))))))) (Gd.on (i (i (i (i (o (o (o z))))))) true) [],
   .mk (pickR (X.t (i (i (i (i (o (o (o z)))))))) (X.t (o (i (o (o (i (o (o z)))))))) (X.c (AV.bool false))) (.some (i (i (o (o (i (o (o z)))))))) Gd.no [],
   .mk (mvR (X.t (i (i (o (o (i (o (o z))))))))) (.some z) Gd.no []])
  .ret))))))))))))
theorem C8ok : (match Tryd.f8.body with | some c => comp Tryd.prog 147 c | none => none) = some C8 := by kernel_rfl
@[go_sem] theorem call8 (args : List AV) (H : Heap) : callC Tryd.prog 8 args H = .call 8 args := callC_ok (by kernel_rfl) args H
theorem R8ok : resKs Tryd.prog Tryd.f8.results.toList = some [(RK.tmp z)] := by kernel_rfl

noncomputable def C9 : CC :=
  (.seq (.region [.mk (mvR (X.c AV.nilp)) (.some (i z)) Gd.no []])
  (.seq (.region [.mk (mvR (X.t z)) (.some (o (o z))) Gd.no [],
   .mk (binR Tryd.prog EK.no .none true BinOp.add (X.c (AV.int .i64 200)) (X.t (o (o z)))) (.some (i (o z))) Gd.no [],
   .mk (buildR [(AV.int .i64 0), AV.nils] [(0, (1, (X.t (i (o z)))))]) (.some (o (i z))) Gd.no [],
   .mk (boxR false (X.t (o (i z)))) (.some (i (i z))) Gd.no [],
   .mk (mvR (X.t (i (i z)))) (.some (i z)) Gd.no []])
  .ret))
theorem C9ok : (match Tryd.f9.body with | some c => comp Tryd.prog 7 c | none => none) = some C9 := by kernel_rfl
@[go_sem] theorem call9 (args : List AV) (H : Heap) : callC Tryd.prog 9 args H = .call 9 args := callC_ok (by kernel_rfl) args H
theorem R9ok : resKs Tryd.prog Tryd.f9.results.toList = some [(RK.tmp (i z))] := by kernel_rfl

noncomputable def C10 : CC :=
  (.seq (.region [.mk (boxR false (X.t (o z))) (.some (i (o z))) Gd.no [],
   .mk (mvR (X.c (AV.int .i64 0))) (.some (i (i z))) Gd.no [],
   .mk (mvR (X.c AV.nili)) (.some (o (o (o z)))) Gd.no []])
  (.seq (.region [.mk (ldR true 2 (X.t (i (o z)))) (.some (o (i (o z)))) Gd.no [],
   .mk (mvR (X.t (i z))) (.some (i (i (o z)))) Gd.no [],
   .mk (callS Tryd.prog 31 [(X.t (o (i (o z)))), (X.t (i (i (o z))))]) (.some (o (o (i z)))) Gd.no [],
   .mk (mvR (X.t (o (o (i z))))) (.some (i (o (o z)))) Gd.no []])
  (.seq (.block 0 (.seq (.region [.mk (mvR (X.t (i (o (o z))))) (.some (o (i (i z)))) Gd.no [],
   .mk (mkiR 71 (X.c (AV.int .i64 10))) (.some (i (i (i z)))) Gd.no [],
   .mk (callS Tryd.prog 32 [(X.t (o (i (i z)))), (X.t (i (i (i z))))]) (.some (o (o (o (o z))))) Gd.no [],
   .mk (mvR (X.t (o (o (o (o z)))))) (.some (i (o (i z)))) Gd.no []])
  (.cond (X.t (i (o (i z))))
  (.seq (.region [.mk (mvR (X.t (i (o (o z))))) (.some (i (o (o (o z))))) Gd.no [],
   .mk (mvR (X.c (AV.int .i64 0))) (.some (i (i z))) Gd.no [],
   .mk (mvR (X.t (i (o (o (o z)))))) (.some (o (o (o z)))) Gd.no []])
  .ret)
  (.seq (.region [.mk (mvR (X.t z)) (.some (i (i (o (o z))))) Gd.no [],
   .mk (nilR (X.t (i (i (o (o z)))))) (.some (o (o (i (o z))))) Gd.no [],
   .mk (faR 1 (X.t (o (o (i (o z)))))) (.some (i (o (i (o z))))) Gd.no [],
   .mk (ldR false 1 (X.t (i (o (i (o z)))))) (.some (o (i (i (o z))))) Gd.no [],
   .mk (lenR LnK.slice (X.t (o (i (i (o z)))))) (.some (i (i (i (o z))))) Gd.no [],
   .mk (binR Tryd.prog EK.no .none true BinOp.geq (X.t (i (i (i (o z))))) (X.c (AV.int .i64 3))) (.some (o (o (o (i z))))) Gd.no [],
   .mk (mvR (X.t (o (o (o (i z)))))) (.some (o (i (o (o z))))) Gd.no []])
  (.cond (X.t (o (i (o (o z)))))
  (.seq (.region [.mk (mkiR 71 (X.c (AV.int .i64 19))) (.some (i (o (o (i z))))) Gd.no [],
   .mk (mvR (X.c (AV.int .i64 0))) (.some (i (i z))) Gd.no [],
   .mk (mvR (X.t (i (o (o (i z)))))) (.some (o (o (o z)))) Gd.no []])
  .ret)
  .skip)))))
  (.seq (.regionD [.mk (keepH (mvR (X.t (i z)))) (.some (o (o (o (o (o z)))))) Gd.no [],
   .mk (keepH (ldR true 2 (X.t (i (o z))))) (.some (i (i (i (i z))))) Gd.no [],
   .mk (keepH (mvR (X.t z))) (.some (i (i (o (i z))))) Gd.no [],
   .mk (keepH (nilR (X.t (i (i (o (i z))))))) (.some (o (o (i (i z))))) Gd.no [],
   .mk (keepH (faR 1 (X.t (o (o (i (i z))))))) (.some (i (o (i (i z))))) Gd.no [],
   .mk (keepH (ldR false 1 (X.t (i (o (i (i z))))))) (.some (o (i (i (i z))))) Gd.no [],
   .mk (keepH (mvR (X.t z))) (.some (o (i (o (i z))))) Gd.no [],
   .mk (callS Tryd.prog 33 [(X.t (o (o (o (o (o z))))))]) (.some (i (o (o (o (o z)))))) Gd.no [.mk (mvR (X.t z)) (.some (o (i (o (i z))))) Gd.no, .mk (ldR false 1 (X.t (i (o (i (i z)))))) (.some (o (i (i (i z))))) Gd.no, .mk (faR 1 (X.t (o (o (i (i z)))))) (.some (i (o (i (i z))))) Gd.no, .mk (nilR (X.t (i (i (o (i z)))))) (.some (o (o (i (i z))))) Gd.no, .mk (mvR (X.t z)) (.some (i (i (o (i z))))) Gd.no, .mk (ldR true 2 (X.t (i (o z)))) (.some (i (i (i (i z))))) Gd.no],
   .mk (keepH (buildR [(AV.str []), (AV.str []), AV.nils, (AV.int .i64 0), (AV.int .i64 0)] [(0, (2, (X.t (i (i (i (i z))))))), (2, (1, (X.t (i (o (o (o (o z))))))))])) (.some (o (i (o (o (o z)))))) Gd.no [],
   .mk (addH (bslR 5 1 [(AV.str []), (AV.str []), AV.nils, (AV.int .i64 0), (AV.int .i64 0)] [(0, (X.t (o (i (o (o (o z)))))))])) (.some (i (i (o (o (o z)))))) Gd.no [.mk (buildR [(AV.str []), (AV.str []), AV.nils, (AV.int .i64 0), (AV.int .i64 0)] [(0, (2, (X.t (i (i (i (i z))))))), (2, (1, (X.t (i (o (o (o (o z))))))))]) (.some (o (i (o (o (o z)))))) Gd.no, .mk (mvR (X.t z)) (.some (o (i (o (i z))))) Gd.no, .mk (ldR false 1 (X.t (i (o (i (i z)))))) (.some (o (i (i (i z))))) Gd.no, .mk (faR 1 (X.t (o (o (i (i z)))))) (.some (i (o (i (i z))))) Gd.no, .mk (nilR (X.t (i (i (o (i z)))))) (.some (o (o (i (i z))))) Gd.no, .mk (mvR (X.t z)) (.some (i (i (o (i z))))) Gd.no, .mk (ldR true 2 (X.t (i (o z)))) (.some (i (i (i (i z))))) Gd.no],
   .mk (appR 5 72 (X.t (o (i (i (i z))))) (X.t (i (i (o (o (o z))))))) (.some (o (o (i (o (o z)))))) Gd.no [.mk (mvR (X.t z)) (.some (o (i (o (i z))))) Gd.no],
   .mk (keepH (nilR (X.t (o (i (o (i z))))))) (.some (i (o (i (o (o z)))))) Gd.no [],
   .mk (keepH (faR 1 (X.t (i (o (i (o (o z)))))))) (.some (o (i (i (o (o z)))))) Gd.no [],
   .mk (stR 1 (X.t (o (i (i (o (o z)))))) (X.t (o (o (i (o (o z))))))) .none Gd.no []])
  (.seq (.region [.mk (mvR (X.t z)) (.some (i (i (i (o (o z)))))) Gd.no [],
   .mk (nilR (X.t (i (i (i (o (o z))))))) (.some (o (o (o (i (o z)))))) Gd.no [],
   .mk (faR 1 (X.t (o (o (o (i (o z))))))) (.some (i (o (o (i (o z)))))) Gd.no [],
   .mk (ldR false 1 (X.t (i (o (o (i (o z))))))) (.some (o (i (o (i (o z)))))) Gd.no [],
   .mk (lenR LnK.slice (X.t (o (i (o (i (o z))))))) (.some (i (i (o (i (o z)))))) Gd.no [],
   .mk (binR Tryd.prog EK.no .none true BinOp.sub (X.t (i (i (o (i (o z)))))) (X.c (AV.int .i64 1))) (.some (o (o (i (i (o z)))))) Gd.no [],
   .mk (mvR (X.t (o (o (i (i (o z))))))) (.some (i (i z))) Gd.no [],
   .mk (mvR (X.c AV.nili)) (.some (o (o (o z)))) Gd.no []])
  .ret)))))
theorem C10ok : (match Tryd.f10.body with | some c => comp Tryd.prog 44 c | none => none) = some C10 := by kernel_rfl
@[go_sem] theorem call10 (args : List AV) (H : Heap) : callC Tryd.prog 10 args H = .call 10 args := callC_ok (by kernel_rfl) args H
theorem R10ok : resKs Tryd.prog Tryd.f10.results.toList = some [(RK.tmp (i (i z))), (RK.tmp (o (o (o z))))] := by kernel_rfl

noncomputable def C11L0 : CC :=
  (.seq (.region [.mk (binR Tryd.prog EK.no .none false BinOp.lss (X.t (i (i (o (o (i z)))))) (X.t (o (i (o (o (i z))))))) (.some (o (o (i (o (i z)))))) Gd.no []])
  (.seq (.cond (X.t (o (o (i (o (i z))))))
  .skip
  (.exit 1))
  (.seq (.block 2 (.seq (.region [.mk (iaS 4 (X.t (i (o (o (o (i z)))))) (X.t (i (i (o (o (i z))))))) (.some (i (o (i (o (i z)))))) Gd.no [],
   .mk (ldR true 4 (X.t (i (o (i (o (i z))))))) (.some (o (i (i (o (i z)))))) Gd.no [],
   .mk (fun _ H => newC false [(AV.str []), (AV.int .i64 0), (AV.str []), (AV.bool false)] H) (.some (o (i (o z)))) Gd.no [],
   .mk (stR 4 (X.t (o (i (o z)))) (X.t (o (i (i (o (i z))))))) .none Gd.no []])
  (.seq (.region [.mk (mvR (X.t z)) (.some (i (i (i (o (i z)))))) Gd.no [],
   .mk (mvR (X.t (i (i z)))) (.some (o (o (o (i (i z)))))) Gd.no [],
   .mk (ldR true 4 (X.t (o (i (o z))))) (.some (i (o (o (i (i z)))))) Gd.no [],
   .mk (callS Tryd.prog 35 [(X.t (i (i (i (o (i z)))))), (X.t (o (o (o (i (i z)))))), (X.t (i (o (o (i (i z))))))]) (.some (o (i (o (i (i z)))))) Gd.no []])
  (.cond (X.t (o (i (o (i (i z))))))
  (.region [.mk (mvR (X.t (o (o (o z))))) (.some (i (i (o (i (i z)))))) Gd.no [],
   .mk (ldR true 4 (X.t (o (i (o z))))) (.some (o (o (i (i (i z)))))) Gd.no [],
   .mk (bslR 4 1 [(AV.str []), (AV.int .i64 0), (AV.str []), (AV.bool false)] [(0, (X.t (o (o (i (i (i z)))))))]) (.some (i (o (i (i (i z)))))) Gd.no [],
   .mk (appR 4 48 (X.t (i (i (o (i (i z)))))) (X.t (i (o (i (i (i z))))))) (.some (o (i (i (i (i z)))))) Gd.no [],
   .mk (mvR (X.t (o (i (i (i (i z))))))) (.some (o (o (o z)))) Gd.no []])
  .skip))))
  (.region [.mk (binR Tryd.prog EK.no .none true BinOp.add (X.t (i (i (o (o (i z)))))) (X.c (AV.int .i64 1))) (.some (i (i (i (i (i z)))))) Gd.no [],
   .mk (mvR (X.t (i (i (i (i (i z))))))) (.some (i (i (o (o (i z)))))) Gd.no []]))))
noncomputable def C11 : CC :=
  (.seq (.region [.mk (boxR false (X.t (o z))) (.some (o (o z))) Gd.no [],
   .mk (mvR (X.c AV.nils)) (.some (i (o z))) Gd.no [],
   .mk (mvR (X.c (AV.bool false))) (.some (o (i z))) Gd.no []])
  (.seq (.seq (.region [.mk (mvR (X.t z)) (.some (i (i (o z)))) Gd.no [],
   .mk (ldR true 24 (X.t (o (o z)))) (.some (o (o (i z)))) Gd.no [],
   .mk (callS Tryd.prog 34 [(X.t (i (i (o z)))), (X.t (o (o (i z))))]) (.some (i (o (i z)))) Gd.no [],
   .mk (unR UnOp.not (X.t (i (o (i z))))) (.some (o (i (i z)))) Gd.no []])
  (.cond (X.t (o (i (i z))))
  (.seq (.region [.mk (mvR (X.c AV.nils)) (.some (i (o z))) Gd.no [],
   .mk (mvR (X.c (AV.bool false))) (.some (o (i z))) Gd.no []])
  .ret)
  .skip))
  (.seq (.region [.mk (faR 3 (X.t (o (o z)))) (.some (i (i (i z)))) Gd.no [],
   .mk (iaA 5 1 (X.t (i (i (i z)))) (X.c (AV.int .i64 0))) (.some (o (o (o (o z))))) Gd.no [],
   .mk (ldR false 1 (X.t (o (o (o (o z)))))) (.some (i (o (o (o z))))) Gd.no [],
   .mk (mvR (X.t (i (o (o (o z)))))) (.some (i (i z))) Gd.no []])
  (.seq (.seq (.region [.mk (faR 3 (X.t (o (o z)))) (.some (o (i (o (o z))))) Gd.no [],
   .mk (iaA 5 1 (X.t (o (i (o (o z))))) (X.c (AV.int .i64 3))) (.some (i (i (o (o z))))) Gd.no [],
   .mk (ldR false 1 (X.t (i (i (o (o z)))))) (.some (o (o (i (o z))))) Gd.no []])
  (.block 0 (.seq (.region [.mk (binR Tryd.prog EK.no .none true BinOp.eql (X.t (o (o (i (o z))))) (X.c (AV.int .i64 2))) (.some (o (i (i (o z))))) Gd.no [],
   .mk (mvR (X.t (o (i (i (o z)))))) (.some (i (o (i (o z))))) Gd.no []])
  (.cond (X.t (i (o (i (o z)))))
  (.seq (.region [.mk (mvR (X.c AV.nils)) (.some (i (o z))) Gd.no [],
   .mk (mvR (X.c (AV.bool true))) (.some (o (i z))) Gd.no []])
  .ret)
  (.seq (.region [.mk (binR Tryd.prog EK.no .none true BinOp.eql (X.t (o (o (i (o z))))) (X.c (AV.int .i64 1))) (.some (o (o (o (i z))))) Gd.no [],
   .mk (mvR (X.t (o (o (o (i z)))))) (.some (i (i (i (o z))))) Gd.no []])
  (.cond (X.t (i (i (i (o z)))))
  (.seq (.seq (.regionD [.mk (keepH (mvR (X.t (i (i z))))) (.some (o (o (o (o (o z)))))) Gd.no [],
   .mk (keepH (mvR (X.t z))) (.some (o (o (i (i z))))) Gd.no [],
   .mk (keepH (nilR (X.t (o (o (i (i z))))))) (.some (i (o (i (i z))))) Gd.no [],
   .mk (keepH (faR 1 (X.t (i (o (i (i z))))))) (.some (o (i (i (i z))))) Gd.no [],
   .mk (keepH (ldR false 1 (X.t (o (i (i (i z))))))) (.some (i (i (i (i z))))) Gd.no [],
   .mk (keepH (iaS 5 (X.t (i (i (i (i z))))) (X.t (o (o (o (o (o z)))))))) (.some (i (o (o (o (o z)))))) Gd.no [],
   .mk (keepH (faR 4 (X.t (i (o (o (o (o z)))))))) (.some (o (i (o (o (o z)))))) Gd.no [],
   .mk (keepH (ldR false 1 (X.t (o (i (o (o (o z)))))))) (.some (i (i (o (o (o z)))))) Gd.no [],
   .mk (keepH (faR 3 (X.t (o (o z))))) (.some (i (o (o (i z))))) Gd.no [],
   .mk (keepH (iaA 5 1 (X.t (i (o (o (i z))))) (X.c (AV.int .i64 2)))) (.some (o (i (o (i z))))) Gd.no [],
   .mk (keepH (ldR false 1 (X.t (o (i (o (i z))))))) (.some (i (i (o (i z))))) Gd.no [],
   .mk (keepH (binR Tryd.prog EK.no .none false BinOp.eql (X.t (i (i (o (i z))))) (X.t (i (i (o (o (o z)))))))) (.some (o (o (i (o (o z)))))) Gd.no []])
  (.cond (X.t (o (o (i (o (o z))))))
  (.region [.mk (mvR (X.t z)) (.some (i (o (i (o (o z)))))) Gd.no [],
   .mk (nilR (X.t (i (o (i (o (o z))))))) (.some (o (i (i (o (o z)))))) Gd.no [],
   .mk (faR 1 (X.t (o (i (i (o (o z))))))) (.some (i (i (i (o (o z)))))) Gd.no [],
   .mk (ldR false 1 (X.t (i (i (i (o (o z))))))) (.some (o (o (o (i (o z)))))) Gd.no [],
   .mk (mvR (X.t (i (i z)))) (.some (i (o (o (i (o z)))))) Gd.no [],
   .mk (iaS 5 (X.t (o (o (o (i (o z)))))) (X.t (i (o (o (i (o z))))))) (.some (o (i (o (i (o z)))))) Gd.no [],
   .mk (faR 3 (X.t (o (i (o (i (o z))))))) (.some (i (i (o (i (o z)))))) Gd.no [],
   .mk (stR 1 (X.t (i (i (o (i (o z)))))) (X.c (AV.int .i64 1))) .none Gd.no []])
  .skip))
  (.seq (.regionD [.mk (keepH (faR 3 (X.t (o (o z))))) (.some (o (o (i (i (o z)))))) Gd.no [],
   .mk (keepH (iaA 5 1 (X.t (o (o (i (i (o z)))))) (X.c (AV.int .i64 4)))) (.some (i (o (i (i (o z)))))) Gd.no [],
   .mk (keepH (ldR false 1 (X.t (i (o (i (i (o z)))))))) (.some (o (i (i (i (o z)))))) Gd.no [],
   .mk (keepH (binR Tryd.prog EK.no .none true BinOp.eql (X.t (o (i (i (i (o z)))))) (X.c (AV.int .i64 1)))) (.some (i (i (i (i (o z)))))) Gd.no [],
   .mk (mvR (X.c AV.nils)) (.some (i (o z))) Gd.no [.mk (binR Tryd.prog EK.no .none true BinOp.eql (X.t (o (i (i (i (o z)))))) (X.c (AV.int .i64 1))) (.some (i (i (i (i (o z)))))) Gd.no, .mk (ldR false 1 (X.t (i (o (i (i (o z))))))) (.some (o (i (i (i (o z)))))) Gd.no, .mk (iaA 5 1 (X.t (o (o (i (i (o z)))))) (X.c (AV.int .i64 4))) (.some (i (o (i (i (o z)))))) Gd.no, .mk (faR 3 (X.t (o (o z)))) (.some (o (o (i (i (o z)))))) Gd.no],
   .mk (mvR (X.t (i (i (i (i (o z))))))) (.some (o (i z))) Gd.no []])
  .ret))
  .skip))))))
  (.seq (.region [.mk (mvR (X.c AV.nils)) (.some (o (o (o z)))) Gd.no []])
  (.seq (.seq (.region [.mk (faR 21 (X.t (o (o z)))) (.some (o (o (o (o (i z)))))) Gd.no [],
   .mk (ldR false 1 (X.t (o (o (o (o (i z))))))) (.some (i (o (o (o (i z)))))) Gd.no [],
   .mk (lenR LnK.slice (X.t (i (o (o (o (i z))))))) (.some (o (i (o (o (i z)))))) Gd.no [],
   .mk (mvR (X.c (AV.int .i64 0))) (.some (i (i (o (o (i z)))))) Gd.no []])
  (.block 1 (.loop C11L0)))
  (.seq (.regionD [.mk (keepH (faR 3 (X.t (o (o z))))) (.some (i (o (o (o (o (o z))))))) Gd.no [],
   .mk (keepH (iaA 5 1 (X.t (i (o (o (o (o (o z))))))) (X.c (AV.int .i64 4)))) (.some (o (i (o (o (o (o z))))))) Gd.no [],
   .mk (keepH (ldR false 1 (X.t (o (i (o (o (o (o z))))))))) (.some (i (i (o (o (o (o z))))))) Gd.no [],
   .mk (keepH (binR Tryd.prog EK.no .none true BinOp.eql (X.t (i (i (o (o (o (o z))))))) (X.c (AV.int .i64 1)))) (.some (o (o (i (o (o (o z))))))) Gd.no [],
   .mk (keepH (mvR (X.t (o (o (o z)))))) (.some (o (o (o (o (o (o z))))))) Gd.no [],
   .mk (mvR (X.t (o (o (o (o (o (o z)))))))) (.some (i (o z))) Gd.no [.mk (binR Tryd.prog EK.no .none true BinOp.eql (X.t (i (i (o (o (o (o z))))))) (X.c (AV.int .i64 1))) (.some (o (o (i (o (o (o z))))))) Gd.no, .mk (ldR false 1 (X.t (o (i (o (o (o (o z)))))))) (.some (i (i (o (o (o (o z))))))) Gd.no, .mk (iaA 5 1 (X.t (i (o (o (o (o (o z))))))) (X.c (AV.int .i64 4))) (.some (o (i (o (o (o (o z))))))) Gd.no, .mk (faR 3 (X.t (o (o z)))) (.some (i (o (o (o (o (o z))))))) Gd.no],
   .mk (mvR (X.t (o (o (i (o (o (o z)))))))) (.some (o (i z))) Gd.no []])
  .ret)))))))
theorem C11ok : (match Tryd.f11.body with | some c => comp Tryd.prog 68 c | none => none) = some C11 := by kernel_rfl
@[go_sem] theorem call11 (args : List AV) (H : Heap) : callC Tryd.prog 11 args H = .call 11 args := callC_ok (by kernel_rfl) args H
theorem R11ok : resKs Tryd.prog Tryd.f11.results.toList = some [(RK.tmp (i (o z))), (RK.tmp (o (i z)))] := by kernel_rfl

noncomputable def C12 : CC :=
  (.seq (.region [.mk (fun _ H => newC false [(AV.str []), (AV.str []), AV.nils, (AV.int .i64 0), (AV.int .i64 0)] H) (.some (i (o z))) Gd.no [],
   .mk (mvR (X.c (AV.bool false))) (.some (o (i z))) Gd.no []])
  (.seq (.seq (.region [.mk (mvR (X.t z)) (.some (i (o (o z)))) Gd.no [],
   .mk (mvR (X.t (o z))) (.some (o (i (o z)))) Gd.no [],
   .mk (callS Tryd.prog 36 [(X.t (i (o (o z)))), (X.t (o (i (o z))))]) (.some (i (i (o z)))) Gd.no [],
   .mk (mvR (X.t (i (i (o z))))) (.some (i (i z))) Gd.no []])
  (.seq (.region [.mk (mvR (X.t (i (i z)))) (.some (o (o (i z)))) Gd.no [],
   .mk (mkiR 71 (X.c (AV.int .i64 23))) (.some (i (o (i z)))) Gd.no [],
   .mk (callS Tryd.prog 32 [(X.t (o (o (i z)))), (X.t (i (o (i z))))]) (.some (o (i (i z)))) Gd.no []])
  (.cond (X.t (o (i (i z))))
  (.seq (.region [.mk (buildR [(AV.str []), (AV.str []), AV.nils, (AV.int .i64 0), (AV.int .i64 0)] []) (.some (i (i (i z)))) Gd.no [],
   .mk (stR 5 (X.t (i (o z))) (X.t (i (i (i z))))) .none Gd.no [],
   .mk (mvR (X.c (AV.bool false))) (.some (o (i z))) Gd.no []])
  .ret)
  .skip)))
  (.seq (.region [.mk (mvR (X.t z)) (.some (o (o (o (o z))))) Gd.no [],
   .mk (nilR (X.t (o (o (o (o z)))))) (.some (i (o (o (o z))))) Gd.no [],
   .mk (faR 1 (X.t (i (o (o (o z)))))) (.some (o (i (o (o z))))) Gd.no [],
   .mk (ldR false 1 (X.t (o (i (o (o z)))))) (.some (i (i (o (o z))))) Gd.no [],
   .mk (mvR (X.t (o z))) (.some (o (o (i (o z))))) Gd.no [],
   .mk (iaS 5 (X.t (i (i (o (o z))))) (X.t (o (o (i (o z)))))) (.some (i (o (i (o z))))) Gd.no [],
   .mk (ldR true 5 (X.t (i (o (i (o z)))))) (.some (o (i (i (o z))))) Gd.no [],
   .mk (fun _ H => newC false [(AV.str []), (AV.str []), AV.nils, (AV.int .i64 0), (AV.int .i64 0)] H) (.some (o (o (o z)))) Gd.no [],
   .mk (stR 5 (X.t (o (o (o z)))) (X.t (o (i (i (o z)))))) .none Gd.no []])
  (.seq (.region [.mk (faR 2 (X.t (o (o (o z))))) (.some (i (i (i (o z))))) Gd.no [],
   .mk (ldR false 1 (X.t (i (i (i (o z)))))) (.some (o (o (o (i z))))) Gd.no [],
   .mk (callS Tryd.prog 33 [(X.t (o (o (o (i z)))))]) (.some (i (o (o (i z))))) Gd.no [],
   .mk (faR 2 (X.t (o (o (o z))))) (.some (o (i (o (i z))))) Gd.no [],
   .mk (stR 1 (X.t (o (i (o (i z))))) (X.t (i (o (o (i z)))))) .none Gd.no []])
  (.seq (.region [.mk (ldR true 5 (X.t (o (o (o z))))) (.some (i (i (o (i z))))) Gd.no [],
   .mk (stR 5 (X.t (i (o z))) (X.t (i (i (o (i z)))))) .none Gd.no [],
   .mk (mvR (X.c (AV.bool true))) (.some (o (i z))) Gd.no []])
  .ret)))))
theorem C12ok : (match Tryd.f12.body with | some c => comp Tryd.prog 27 c | none => none) = some C12 := by kernel_rfl
@[go_sem] theorem call12 (args : List AV) (H : Heap) : callC Tryd.prog 12 args H = .call 12 args := callC_ok (by kernel_rfl) args H
theorem R12ok : resKs Tryd.prog Tryd.f12.results.toList = some [(RK.cell (i (o z)) true 5), (RK.tmp (o (i z)))] := by kernel_rfl

noncomputable def C13L0 : CC :=
  (.seq (.region [.mk (binR Tryd.prog EK.no .none false BinOp.lss (X.t (i (i (i (o (o z)))))) (X.t (o (i (i (o (o z))))))) (.some (o (o (o (i (o z)))))) Gd.no []])
  (.seq (.cond (X.t (o (o (o (i (o z))))))
  .skip
  (.exit 0))
  (.seq (.block 1 (.seq (.region [.mk (iaS 5 (X.t (i (o (i (o (o z)))))) (X.t (i (i (i (o (o z))))))) (.some (i (o (o (i (o z)))))) Gd.no [],
   .mk (ldR true 5 (X.t (i (o (o (i (o z))))))) (.some (o (i (o (i (o z)))))) Gd.no [],
   .mk (fun _ H => newC false [(AV.int .i64 0), (AV.int .i64 0), (AV.int .i64 0), (AV.str []), (AV.str [])] H) (.some (i (i (i z)))) Gd.no [],
   .mk (stR 5 (X.t (i (i (i z)))) (X.t (o (i (o (i (o z))))))) .none Gd.no []])
  (.seq (.region [.mk (faR 2 (X.t (o (o (i z))))) (.some (i (i (o (i (o z)))))) Gd.no [],
   .mk (ldR false 1 (X.t (i (i (o (i (o z))))))) (.some (o (o (i (i (o z)))))) Gd.no [],
   .mk (faR 3 (X.t (i (i (i z))))) (.some (i (o (i (i (o z)))))) Gd.no [],
   .mk (ldR true 2 (X.t (i (o (i (i (o z))))))) (.some (o (i (i (i (o z)))))) Gd.no [],
   .mk (callS Tryd.prog 38 [(X.t (o (o (i (i (o z)))))), (X.t (o (i (i (i (o z))))))]) (.some (i (i (i (i (o z)))))) Gd.no [],
   .mk (mvR (X.t (i (i (i (i (o z))))))) (.some (o (o (o (o z))))) Gd.no []])
  (.seq (.regionD [.mk (addH (fun _ H => newC false [(AV.int .i64 0), (AV.int .i64 0), (AV.int .i64 0), (AV.int .i64 0), (AV.int .i64 0), (AV.int .i64 0), (AV.int .i64 0), (AV.int .i64 0), (AV.int .i64 0), (AV.str []), (AV.str []), (AV.str []), (AV.int .i64 0), AV.nils, (AV.int .i64 0), (AV.str []), (AV.int .i64 0), AV.nils, (AV.str []), (AV.str []), AV.nils, AV.nils, AV.nils, (AV.str [])] H)) (.some (i (o (o (o z))))) Gd.no [],
   .mk (keepH (faR 3 (X.t (i (i (i z)))))) (.some (i (i (o (i (i z)))))) Gd.no [],
   .mk (keepH (ldR true 2 (X.t (i (i (o (i (i z)))))))) (.some (o (o (i (i (i z)))))) Gd.no [],
   .mk (keepH (faR 4 (X.t (o (o (i z)))))) (.some (o (o (o (i (i z)))))) Gd.no [],
   .mk (keepH (ldR false 1 (X.t (o (o (o (i (i z)))))))) (.some (i (o (o (i (i z)))))) Gd.no [],
   .mk (keepH (mvR (X.t (i z)))) (.some (i (i (i (o (i z)))))) Gd.no [],
   .mk (keepH (mvR (X.t (o z)))) (.some (o (i (i (o (i z)))))) Gd.no [],
   .mk (keepH (buildR [(AV.int .i64 0), (AV.int .i64 0), (AV.int .i64 0), (AV.int .i64 0), (AV.int .i64 0)] [(0, (1, (X.t (o (i (i (o (i z)))))))), (1, (1, (X.t (i (i (i (o (i z)))))))), (2, (1, (X.t (i (o (o (i (i z))))))))])) (.some (o (i (o (i (i z)))))) Gd.no [],
   .mk (keepH (faR 2 (X.t (i (i (i z)))))) (.some (o (o (i (o (i z)))))) Gd.no [],
   .mk (keepH (ldR false 1 (X.t (o (o (i (o (i z)))))))) (.some (i (o (i (o (i z)))))) Gd.no [],
   .mk (keepH (mvR (X.t z))) (.some (o (o (o (o (i z)))))) Gd.no [],
   .mk (keepH (nilR (X.t (o (o (o (o (i z)))))))) (.some (i (o (o (o (i z)))))) Gd.no [],
   .mk (keepH (faR 0 (X.t (i (o (o (o (i z)))))))) (.some (o (i (o (o (i z)))))) Gd.no [],
   .mk (keepH (ldR false 1 (X.t (o (i (o (o (i z)))))))) (.some (i (i (o (o (i z)))))) Gd.no [],
   .mk (keepH (buildR [(AV.int .i64 0), (AV.int .i64 0), (AV.int .i64 0), (AV.int .i64 0), (AV.int .i64 0), (AV.int .i64 0), (AV.int .i64 0), (AV.int .i64 0), (AV.int .i64 0), (AV.str []), (AV.str []), (AV.str []), (AV.int .i64 0), AV.nils, (AV.int .i64 0), (AV.str []), (AV.int .i64 0), AV.nils, (AV.str []), (AV.str []), AV.nils, AV.nils, AV.nils, (AV.str [])] [(0, (1, (X.c (AV.int .i64 3)))), (1, (1, (X.t (i (i (o (o (i z)))))))), (2, (1, (X.t (i (o (i (o (i z)))))))), (3, (5, (X.t (o (i (o (i (i z)))))))), (18, (2, (X.t (o (o (i (i (i z))))))))])) (.some (i (o (i (i (i z)))))) Gd.no [],
   .mk (stR 24 (X.t (i (o (o (o z))))) (X.t (i (o (i (i (i z))))))) .none Gd.no []])
  (.seq (.region [.mk (mvR (X.t (o (o (o (o z)))))) (.some (o (i (i (i (i z)))))) Gd.no [],
   .mk (mvR (X.t (o (o (o (o z)))))) (.some (i (i (i (i (i z)))))) Gd.no [],
   .mk (lenR LnK.slice (X.t (i (i (i (i (i z))))))) (.some (o (o (o (o (o (o z))))))) Gd.no [],
   .mk (mmR false (X.t (o (o (o (o (o (o z))))))) (X.c (AV.int .i64 60))) (.some (i (o (o (o (o (o z))))))) Gd.no [],
   .mk (slvR 2 (X.t (o (i (i (i (i z)))))) .none (.some (X.t (i (o (o (o (o (o z)))))))) .none) (.some (o (i (o (o (o (o z))))))) Gd.no [],
   .mk (faR 20 (X.t (i (o (o (o z)))))) (.some (i (i (o (o (o (o z))))))) Gd.no [],
   .mk (stR 1 (X.t (i (i (o (o (o (o z))))))) (X.t (o (i (o (o (o (o z)))))))) .none Gd.no []])
  (.region [.mk (mvR (X.t (i (o (i z))))) (.some (o (o (i (o (o (o z))))))) Gd.no [],
   .mk (ldR true 24 (X.t (i (o (o (o z)))))) (.some (i (o (i (o (o (o z))))))) Gd.no [],
   .mk (bslR 24 1 [(AV.int .i64 0), (AV.int .i64 0), (AV.int .i64 0), (AV.int .i64 0), (AV.int .i64 0), (AV.int .i64 0), (AV.int .i64 0), (AV.int .i64 0), (AV.int .i64 0), (AV.str []), (AV.str []), (AV.str []), (AV.int .i64 0), AV.nils, (AV.int .i64 0), (AV.str []), (AV.int .i64 0), AV.nils, (AV.str []), (AV.str []), AV.nils, AV.nils, AV.nils, (AV.str [])] [(0, (X.t (i (o (i (o (o (o z))))))))]) (.some (o (i (i (o (o (o z))))))) Gd.no [],
   .mk (appR 24 328 (X.t (o (o (i (o (o (o z))))))) (X.t (o (i (i (o (o (o z)))))))) (.some (i (i (i (o (o (o z))))))) Gd.no [],
   .mk (mvR (X.t (i (i (i (o (o (o z)))))))) (.some (i (o (i z)))) Gd.no []]))))))
  (.region [.mk (binR Tryd.prog EK.no .none true BinOp.add (X.t (i (i (i (o (o z)))))) (X.c (AV.int .i64 1))) (.some (o (o (o (i (o (o z))))))) Gd.no [],
   .mk (mvR (X.t (o (o (o (i (o (o z)))))))) (.some (i (i (i (o (o z)))))) Gd.no []]))))
noncomputable def C13 : CC :=
  (.seq (.region [.mk (mvR (X.c AV.nils)) (.some (i (o (o z)))) Gd.no [],
   .mk (mvR (X.c AV.nili)) (.some (o (i (o z)))) Gd.no []])
  (.seq (.seq (.region [.mk (mvR (X.t z)) (.some (o (i (o (o z))))) Gd.no [],
   .mk (mvR (X.t (o z))) (.some (i (i (o (o z))))) Gd.no [],
   .mk (callS Tryd.prog 36 [(X.t (o (i (o (o z))))), (X.t (i (i (o (o z)))))]) (.some (o (o (i (o z))))) Gd.no [],
   .mk (mvR (X.t (o (o (i (o z)))))) (.some (i (i (o z)))) Gd.no []])
  (.seq (.region [.mk (mvR (X.t (i (i (o z))))) (.some (i (o (i (o z))))) Gd.no [],
   .mk (binR Tryd.prog EK.iface .none true BinOp.neq (X.t (i (o (i (o z))))) (X.c AV.nili)) (.some (o (i (i (o z))))) Gd.no []])
  (.cond (X.t (o (i (i (o z)))))
  (.seq (.region [.mk (mvR (X.t (i (i (o z))))) (.some (i (i (i (o z))))) Gd.no [],
   .mk (mvR (X.c AV.nils)) (.some (i (o (o z)))) Gd.no [],
   .mk (mvR (X.t (i (i (i (o z)))))) (.some (o (i (o z)))) Gd.no []])
  .ret)
  .skip)))
  (.seq (.region [.mk (mvR (X.t z)) (.some (o (o (o (i z))))) Gd.no [],
   .mk (nilR (X.t (o (o (o (i z)))))) (.some (i (o (o (i z))))) Gd.no [],
   .mk (faR 1 (X.t (i (o (o (i z)))))) (.some (o (i (o (i z))))) Gd.no [],
   .mk (ldR false 1 (X.t (o (i (o (i z)))))) (.some (i (i (o (i z))))) Gd.no [],
   .mk (mvR (X.t (o z))) (.some (o (o (i (i z))))) Gd.no [],
   .mk (iaS 5 (X.t (i (i (o (i z))))) (X.t (o (o (i (i z)))))) (.some (i (o (i (i z))))) Gd.no [],
   .mk (ldR true 5 (X.t (i (o (i (i z)))))) (.some (o (i (i (i z))))) Gd.no [],
   .mk (fun _ H => newC false [(AV.str []), (AV.str []), AV.nils, (AV.int .i64 0), (AV.int .i64 0)] H) (.some (o (o (i z)))) Gd.no [],
   .mk (stR 5 (X.t (o (o (i z)))) (X.t (o (i (i (i z)))))) .none Gd.no []])
  (.seq (.region [.mk (mvR (X.t (i z))) (.some (i (i (i (i z))))) Gd.no [],
   .mk (mmR true (X.t (i (i (i (i z))))) (X.c (AV.int .i64 0))) (.some (o (o (o (o (o z)))))) Gd.no [],
   .mk (mmR false (X.t (o (o (o (o (o z)))))) (X.c (AV.int .i64 8))) (.some (i (o (o (o (o z)))))) Gd.no [],
   .mk (mvR (X.t (i (o (o (o (o z))))))) (.some (i z)) Gd.no []])
  (.seq (.region [.mk (mvR (X.c AV.nils)) (.some (i (o (i z)))) Gd.no []])
  (.seq (.seq (.region [.mk (mvR (X.t (o (o z)))) (.some (o (i (o (o (o z)))))) Gd.no [],
   .mk (faR 0 (X.t (o (o (i z))))) (.some (i (i (o (o (o z)))))) Gd.no [],
   .mk (ldR true 2 (X.t (i (i (o (o (o z))))))) (.some (o (o (i (o (o z)))))) Gd.no [],
   .mk (callS Tryd.prog 37 [(X.t (o (i (o (o (o z)))))), (X.t (o (o (i (o (o z))))))]) (.some (i (o (i (o (o z)))))) Gd.no [],
   .mk (lenR LnK.slice (X.t (i (o (i (o (o z))))))) (.some (o (i (i (o (o z)))))) Gd.no [],
   .mk (mvR (X.c (AV.int .i64 0))) (.some (i (i (i (o (o z)))))) Gd.no []])
  (.block 0 (.loop C13L0)))
  (.seq (.region [.mk (mvR (X.t (i (o (i z))))) (.some (i (o (o (i (o (o z))))))) Gd.no [],
   .mk (mvR (X.t (i (o (o (i (o (o z)))))))) (.some (i (o (o z)))) Gd.no [],
   .mk (mvR (X.c AV.nili)) (.some (o (i (o z)))) Gd.no []])
  .ret)))))))
theorem C13ok : (match Tryd.f13.body with | some c => comp Tryd.prog 73 c | none => none) = some C13 := by kernel_rfl
@[go_sem] theorem call13 (args : List AV) (H : Heap) : callC Tryd.prog 13 args H = .call 13 args := callC_ok (by kernel_rfl) args H
theorem R13ok : resKs Tryd.prog Tryd.f13.results.toList = some [(RK.tmp (i (o (o z)))), (RK.tmp (o (i (o z))))] := by kernel_rfl

noncomputable def C16L0 : CC :=
  (.seq (.seq (.region [.mk (mvR (X.t (i (i z)))) (.some (o (o (o z)))) Gd.no [],
   .mk (mvR (X.t z)) (.some (i (o (o z)))) Gd.no [],
   .mk (lenR LnK.slice (X.t (i (o (o z))))) (.some (o (i (o z)))) Gd.no [],
   .mk (binR Tryd.prog EK.no .none false BinOp.lss (X.t (o (o (o z)))) (X.t (o (i (o z))))) (.some (i (i (o z)))) Gd.no []])
  (.cond (X.t (i (i (o z))))
  .skip
  (.exit 0)))
  (.seq (.block 1 (.seq (.regionD [.mk (keepH (mvR (X.t (i (i z))))) (.some (o (o (o (o z))))) Gd.no [],
   .mk (keepH (mvR (X.t z))) (.some (i (i (i z)))) Gd.no [],
   .mk (keepH (iaS 2 (X.t (i (i (i z)))) (X.t (o (o (o (o z))))))) (.some (i (o (o (o z))))) Gd.no [],
   .mk (keepH (faR 0 (X.t (i (o (o (o z))))))) (.some (o (i (o (o z))))) Gd.no [],
   .mk (keepH (ldR false 1 (X.t (o (i (o (o z))))))) (.some (i (i (o (o z))))) Gd.no [],
   .mk (keepH (ldR true 2 (X.t (o (o z))))) (.some (o (i (i z)))) Gd.no [],
   .mk (callS Tryd.prog 27 [(X.t (o (i (i z)))), (X.t (i (i (o (o z)))))]) (.some (o (o (i (o z))))) Gd.no []])
  (.cond (X.t (o (o (i (o z)))))
  (.region [.mk (mvR (X.t (o (i z)))) (.some (i (o (i (o z))))) Gd.no [],
   .mk (mvR (X.t z)) (.some (o (i (i (o z))))) Gd.no [],
   .mk (mvR (X.t (i (i z)))) (.some (i (i (i (o z))))) Gd.no [],
   .mk (iaS 2 (X.t (o (i (i (o z))))) (X.t (i (i (i (o z)))))) (.some (o (o (o (i z))))) Gd.no [],
   .mk (ldR true 2 (X.t (o (o (o (i z)))))) (.some (i (o (o (i z))))) Gd.no [],
   .mk (bslR 2 1 [(AV.str []), (AV.int .i64 0)] [(0, (X.t (i (o (o (i z))))))]) (.some (o (i (o (i z))))) Gd.no [],
   .mk (appR 2 24 (X.t (i (o (i (o z))))) (X.t (o (i (o (i z)))))) (.some (i (i (o (i z))))) Gd.no [],
   .mk (mvR (X.t (i (i (o (i z)))))) (.some (o (i z))) Gd.no []])
  .skip)))
  (.region [.mk (mvR (X.t (i (i z)))) (.some (o (o (i z)))) Gd.no [],
   .mk (binR Tryd.prog EK.no .none true BinOp.add (X.t (o (o (i z)))) (X.c (AV.int .i64 1))) (.some (i (o (i z)))) Gd.no [],
   .mk (mvR (X.t (i (o (i z))))) (.some (i (i z))) Gd.no []])))
noncomputable def C16 : CC :=
  (.seq (.region [.mk (boxR false (X.t (o z))) (.some (o (o z))) Gd.no [],
   .mk (mvR (X.c AV.nils)) (.some (i (o z))) Gd.no []])
  (.seq (.region [.mk (mvR (X.c AV.nils)) (.some (o (i z))) Gd.no []])
  (.seq (.seq (.region [.mk (mvR (X.c (AV.int .i64 0))) (.some (i (i z))) Gd.no []])
  (.block 0 (.loop C16L0)))
  (.seq (.region [.mk (mvR (X.t (o (i z)))) (.some (o (o (i (i z))))) Gd.no [],
   .mk (mvR (X.t (o (o (i (i z)))))) (.some (i (o z))) Gd.no []])
  .ret))))
theorem C16ok : (match Tryd.f16.body with | some c => comp Tryd.prog 28 c | none => none) = some C16 := by kernel_rfl
@[go_sem] theorem call16 (args : List AV) (H : Heap) : callC Tryd.prog 16 args H = .call 16 args := callC_ok (by kernel_rfl) args H
theorem R16ok : resKs Tryd.prog Tryd.f16.results.toList = some [(RK.tmp (i (o z)))] := by kernel_rfl

noncomputable def C17 : CC :=
  (.seq (.region [.mk (mvR (X.c (AV.int .i64 0))) (.some (i z)) Gd.no []])
  (.seq (.region [.mk (mvR (X.t z)) (.some (o (o z))) Gd.no [],
   .mk (nilR (X.t (o (o z)))) (.some (i (o z))) Gd.no [],
   .mk (faR 1 (X.t (i (o z)))) (.some (o (i z))) Gd.no [],
   .mk (ldR false 1 (X.t (o (i z)))) (.some (i (i z))) Gd.no [],
   .mk (lenR LnK.slice (X.t (i (i z)))) (.some (o (o (o z)))) Gd.no [],
   .mk (mvR (X.t (o (o (o z))))) (.some (i z)) Gd.no []])
  .ret))
theorem C17ok : (match Tryd.f17.body with | some c => comp Tryd.prog 8 c | none => none) = some C17 := by kernel_rfl
@[go_sem] theorem call17 (args : List AV) (H : Heap) : callC Tryd.prog 17 args H = .call 17 args := callC_ok (by kernel_rfl) args H
theorem R17ok : resKs Tryd.prog Tryd.f17.results.toList = some [(RK.tmp (i z))] := by kernel_rfl

noncomputable def C30 : CC :=
  (.seq (.region [.mk (mvR (X.c AV.nili)) (.some (i (o z))) Gd.no []])
  (.seq (.region [.mk (mvR (X.t z)) (.some (i (i z))) Gd.no [],
   .mk (mvR (X.t (o z))) (.some (o (o (o z)))) Gd.no [],
   .mk (callS Tryd.prog 36 [(X.t (i (i z))), (X.t (o (o (o z))))]) (.some (i (o (o z)))) Gd.no [],
   .mk (mvR (X.t (i (o (o z))))) (.some (o (i z))) Gd.no []])
  (.seq (.seq (.region [.mk (mvR (X.t (o (i z)))) (.some (o (i (o z)))) Gd.no [],
   .mk (binR Tryd.prog EK.iface .none true BinOp.eql (X.t (o (i (o z)))) (X.c AV.nili)) (.some (i (i (o z)))) Gd.no []])
  (.cond (X.t (i (i (o z))))
  (.region [.mk (mvR (X.t z)) (.some (o (o (i z)))) Gd.no [],
   .mk (nilR (X.t (o (o (i z))))) (.some (i (o (i z)))) Gd.no [],
   .mk (faR 1 (X.t (i (o (i z))))) (.some (o (i (i z)))) Gd.no [],
   .mk (ldR false 1 (X.t (o (i (i z))))) (.some (i (i (i z)))) Gd.no [],
   .mk (mvR (X.t (o z))) (.some (o (o (o (o z))))) Gd.no [],
   .mk (iaS 5 (X.t (i (i (i z)))) (X.t (o (o (o (o z)))))) (.some (i (o (o (o z))))) Gd.no [],
   .mk (faR 3 (X.t (i (o (o (o z)))))) (.some (o (i (o (o z))))) Gd.no [],
   .mk (stR 1 (X.t (o (i (o (o z))))) (X.c (AV.int .i64 2))) .none Gd.no []])
  .skip))
  (.seq (.region [.mk (mvR (X.t (o (i z)))) (.some (i (i (o (o z))))) Gd.no [],
   .mk (mvR (X.t (i (i (o (o z)))))) (.some (i (o z))) Gd.no []])
  .ret))))
theorem C30ok : (match Tryd.f30.body with | some c => comp Tryd.prog 19 c | none => none) = some C30 := by kernel_rfl
@[go_sem] theorem call30 (args : List AV) (H : Heap) : callC Tryd.prog 30 args H = .call 30 args := callC_ok (by kernel_rfl) args H
theorem R30ok : resKs Tryd.prog Tryd.f30.results.toList = some [(RK.tmp (i (o z)))] := by kernel_rfl

noncomputable def C31 : CC :=
  (.seq (.region [.mk (boxR false (X.t z)) (.some (i z)) Gd.no [],
   .mk (mvR (X.c AV.nili)) (.some (i (o z))) Gd.no []])
  (.seq (.block 0 (.seq (.block 2 (.block 1 (.seq (.seq (.seq (.region [.mk (ldR true 2 (X.t (i z))) (.some (i (i z))) Gd.no [],
   .mk (callS Tryd.prog 59 [(X.t (i (i z)))]) (.some (o (o (o z)))) Gd.no [],
   .mk (unR UnOp.not (X.t (o (o (o z))))) (.some (i (o (o z)))) Gd.no [],
   .mk (mvR (X.t (i (o (o z))))) (.some (o (i (o z)))) Gd.no [],
   .mk (mvR (X.t (o z))) (.some (i (i (o z)))) (Gd.on (o (i (o z))) false) [],
   .mk (callS Tryd.prog 60 [(X.t (i (i (o z))))]) (.some (o (o (i z)))) (Gd.on (o (i (o z))) false) [],
   .mk (unR UnOp.not (X.t (o (o (i z))))) (.some (i (o (i z)))) (Gd.on (o (i (o z))) false) [],
   .mk (pickR (X.t (o (i (o z)))) (X.c (AV.bool true)) (X.t (i (o (i z))))) (.some (o (i (i z)))) Gd.no [],
   .mk (mvR (X.t (o (i (i z))))) (.some (o (i z))) Gd.no []])
  (.cond (X.t (o (i z)))
  (.exit 1)
  .skip))
  (.seq (.region [.mk (mvR (X.t (o z))) (.some (o (o (o (o z))))) Gd.no [],
   .mk (lenR LnK.slice (X.t (o (o (o (o z)))))) (.some (i (o (o (o z))))) Gd.no [],
   .mk (binR Tryd.prog EK.no .none true BinOp.gtr (X.t (i (o (o (o z))))) (X.c (AV.int .i64 60))) (.some (o (i (o (o z))))) Gd.no [],
   .mk (mvR (X.t (o (i (o (o z)))))) (.some (i (i (o (o z))))) Gd.no [],
   .mk (mvR (X.t (o z))) (.some (o (o (i (o z))))) (Gd.on (i (i (o (o z)))) false) [],
   .mk (ldR true 2 (X.t (i z))) (.some (i (o (i (o z))))) (Gd.on (i (i (o (o z)))) false) [],
   .mk (callS Tryd.prog 38 [(X.t (o (o (i (o z))))), (X.t (i (o (i (o z)))))]) (.some (o (i (i (o z))))) (Gd.on (i (i (o (o z)))) false) [],
   .mk (lenR LnK.slice (X.t (o (i (i (o z)))))) (.some (i (i (i (o z))))) (Gd.on (i (i (o (o z)))) false) [],
   .mk (mvR (X.t (o z))) (.some (o (o (o (i z))))) (Gd.on (i (i (o (o z)))) false) [],
   .mk (lenR LnK.slice (X.t (o (o (o (i z)))))) (.some (i (o (o (i z))))) (Gd.on (i (i (o (o z)))) false) [],
   .mk (binR Tryd.prog EK.no .none false BinOp.lss (X.t (i (i (i (o z))))) (X.t (i (o (o (i z)))))) (.some (o (i (o (i z))))) (Gd.on (i (i (o (o z)))) false) [],
   .mk (pickR (X.t (i (i (o (o z))))) (X.c (AV.bool true)) (X.t (o (i (o (i z)))))) (.some (i (i (o (i z))))) Gd.no [],
   .mk (mvR (X.t (i (i (o (i z)))))) (.some (i (i (i z)))) Gd.no []])
  (.cond (X.t (i (i (i z))))
  (.exit 2)
  .skip)))
  (.exit 0))))
  (.seq (.seq (.region [.mk (mkiR 71 (X.c (AV.int .i64 10))) (.some (o (o (i (i z))))) Gd.no [],
   .mk (mvR (X.t (o (o (i (i z)))))) (.some (i (o z))) Gd.no []])
  .ret)
  (.exit 0))))
  (.seq (.region [.mk (mvR (X.c AV.nili)) (.some (i (o z))) Gd.no []])
  .ret)))
theorem C31ok : (match Tryd.f31.body with | some c => comp Tryd.prog 28 c | none => none) = some C31 := by kernel_rfl
@[go_sem] theorem call31 (args : List AV) (H : Heap) : callC Tryd.prog 31 args H = .call 31 args := callC_ok (by kernel_rfl) args H
theorem R31ok : resKs Tryd.prog Tryd.f31.results.toList = some [(RK.tmp (i (o z)))] := by kernel_rfl

noncomputable def C34 : CC :=
  (.seq (.region [.mk (boxR false (X.t (o z))) (.some (o (o z))) Gd.no [],
   .mk (mvR (X.c (AV.bool false))) (.some (i (o z))) Gd.no []])
  (.seq (.region [.mk (faR 0 (X.t (o (o z)))) (.some (o (i z))) Gd.no [],
   .mk (ldR false 1 (X.t (o (i z)))) (.some (i (i z))) Gd.no [],
   .mk (binR Tryd.prog EK.no .none true BinOp.eql (X.t (i (i z))) (X.c (AV.int .i64 4))) (.some (o (o (o z)))) Gd.no [],
   .mk (mvR (X.t (o (o (o z))))) (.some (i (o (o z)))) Gd.no [],
   .mk (faR 1 (X.t (o (o z)))) (.some (o (i (o z)))) (Gd.on (i (o (o z))) true) [],
   .mk (ldR false 1 (X.t (o (i (o z))))) (.some (i (i (o z)))) (Gd.on (i (o (o z))) true) [],
   .mk (binR Tryd.prog EK.no .none true BinOp.geq (X.t (i (i (o z)))) (X.c (AV.int .i64 0))) (.some (o (o (i z)))) (Gd.on (i (o (o z))) true) [],
   .mk (pickR (X.t (i (o (o z)))) (X.t (o (o (i z)))) (X.c (AV.bool false))) (.some (i (o (i z)))) Gd.no [],
   .mk (mvR (X.t (i (o (i z))))) (.some (o (i (i z)))) Gd.no [],
   .mk (faR 1 (X.t (o (o z)))) (.some (i (i (i z)))) (Gd.on (o (i (i z))) true) [],
   .mk (ldR false 1 (X.t (i (i (i z))))) (.some (o (o (o (o z))))) (Gd.on (o (i (i z))) true) [],
   .mk (binR Tryd.prog EK.no .none true BinOp.lss (X.t (o (o (o (o z))))) (X.c (AV.int .i64 3))) (.some (i (o (o (o z))))) (Gd.on (o (i (i z))) true) [],
   .mk (pickR (X.t (o (i (i z)))) (X.t (i (o (o (o z))))) (X.c (AV.bool false))) (.some (o (i (o (o z))))) Gd.no [],
   .mk (mvR (X.t (o (i (o (o z)))))) (.some (i (i (o (o z))))) Gd.no [],
   .mk (mvR (X.t z)) (.some (o (o (i (o z))))) (Gd.on (i (i (o (o z)))) true) [],
   .mk (faR 3 (X.t (o (o z)))) (.some (i (o (i (o z))))) (Gd.on (i (i (o (o z)))) true) [],
   .mk (iaA 5 1 (X.t (i (o (i (o z))))) (X.c (AV.int .i64 0))) (.some (o (i (i (o z))))) (Gd.on (i (i (o (o z)))) true) [],
   .mk (ldR false 1 (X.t (o (i (i (o z)))))) (.some (i (i (i (o z))))) (Gd.on (i (i (o (o z)))) true) [],
   .mk (callS Tryd.prog 36 [(X.t (o (o (i (o z))))), (X.t (i (i (i (o z)))))]) (.some (o (o (o (i z))))) (Gd.on (i (i (o (o z)))) true) [],
   .mk (binR Tryd.prog EK.iface .none true BinOp.eql (X.t (o (o (o (i z))))) (X.c AV.nili)) (.some (i (o (o (i z))))) (Gd.on (i (i (o (o z)))) true) [],
   .mk (pickR (X.t (i (i (o (o z))))) (X.t (i (o (o (i z))))) (X.c (AV.bool false))) (.some (o (i (o (i z))))) Gd.no [],
   .mk (mvR (X.t (o (i (o (i z)))))) (.some (i (o z))) Gd.no []])
  .ret))
theorem C34ok : (match Tryd.f34.body with | some c => comp Tryd.prog 26 c | none => none) = some C34 := by kernel_rfl
@[go_sem] theorem call34 (args : List AV) (H : Heap) : callC Tryd.prog 34 args H = .call 34 args := callC_ok (by kernel_rfl) args H
theorem R34ok : resKs Tryd.prog Tryd.f34.results.toList = some [(RK.tmp (i (o z)))] := by kernel_rfl

noncomputable def C35 : CC :=
  (.seq (.region [.mk (boxR false (X.t (i z))) (.some (o (i z))) Gd.no [],
   .mk (mvR (X.c (AV.bool false))) (.some (i (i z))) Gd.no []])
  (.seq (.region [.mk (mvR (X.t z)) (.some (o (i (o z)))) Gd.no [],
   .mk (nilR (X.t (o (i (o z))))) (.some (i (i (o z)))) Gd.no [],
   .mk (faR 1 (X.t (i (i (o z))))) (.some (o (o (i z)))) Gd.no [],
   .mk (ldR false 1 (X.t (o (o (i z))))) (.some (i (o (i z)))) Gd.no [],
   .mk (mvR (X.t (o z))) (.some (o (i (i z)))) Gd.no [],
   .mk (iaS 5 (X.t (i (o (i z)))) (X.t (o (i (i z))))) (.some (i (i (i z)))) Gd.no [],
   .mk (mvR (X.t (i (i (i z))))) (.some (o (o (o z)))) Gd.no []])
  (.seq (.region [.mk (mvR (X.t (o (o (o z))))) (.some (o (o (o (o z))))) Gd.no [],
   .mk (nilR (X.t (o (o (o (o z)))))) (.some (i (o (o (o z))))) Gd.no [],
   .mk (faR 2 (X.t (i (o (o (o z)))))) (.some (o (i (o (o z))))) Gd.no [],
   .mk (ldR false 1 (X.t (o (i (o (o z)))))) (.some (i (i (o (o z))))) Gd.no [],
   .mk (mkfR (Fn.func 64) [] [(X.t (o (i z)))]) (.some (o (o (i (o z))))) Gd.no [],
   .mk (callS Tryd.prog 63 [(X.t (i (i (o (o z))))), (X.t (o (o (i (o z)))))]) (.some (i (o (i (o z))))) Gd.no [],
   .mk (unR UnOp.not (X.t (i (o (i (o z)))))) (.some (o (i (i (o z))))) Gd.no [],
   .mk (mvR (X.t (o (i (i (o z)))))) (.some (i (o (o z)))) Gd.no []])
  (.seq (.block 0 (.seq (.block 2 (.block 1 (.seq (.seq (.seq (.regionD [.mk (keepH (faR 0 (X.t (o (i z))))) (.some (o (o (i (i z))))) Gd.no [],
   .mk (keepH (ldR false 1 (X.t (o (o (i (i z))))))) (.some (i (o (i (i z))))) Gd.no [],
   .mk (keepH (mvR (X.t (o (o (o z)))))) (.some (o (o (o (i z))))) Gd.no [],
   .mk (keepH (nilR (X.t (o (o (o (i z))))))) (.some (i (o (o (i z))))) Gd.no [],
   .mk (keepH (faR 0 (X.t (i (o (o (i z))))))) (.some (o (i (o (i z))))) Gd.no [],
   .mk (keepH (ldR true 2 (X.t (o (i (o (i z))))))) (.some (i (i (o (i z))))) Gd.no [],
   .mk (callS Tryd.prog 65 [(X.t (i (i (o (i z))))), (X.t (i (o (i (i z)))))]) (.some (o (i (i (i z))))) Gd.no [],
   .mk (keepH (unR UnOp.not (X.t (o (i (i (i z))))))) (.some (i (i (i (i z))))) Gd.no [],
   .mk (keepH (mvR (X.t (i (i (i (i z))))))) (.some (o (o (o (o (o z)))))) Gd.no [],
   .mk (keepH (faR 0 (X.t (o (i z))))) (.some (i (i (i (o (o z)))))) (Gd.on (o (o (o (o (o z))))) false) [],
   .mk (keepH (ldR false 1 (X.t (i (i (i (o (o z)))))))) (.some (o (o (o (i (o z)))))) (Gd.on (o (o (o (o (o z))))) false) [],
   .mk (keepH (mvR (X.t (o (o (o z)))))) (.some (i (i (o (o (o z)))))) (Gd.on (o (o (o (o (o z))))) false) [],
   .mk (keepH (nilR (X.t (i (i (o (o (o z)))))))) (.some (o (o (i (o (o z)))))) (Gd.on (o (o (o (o (o z))))) false) [],
   .mk (keepH (faR 2 (X.t (o (o (i (o (o z)))))))) (.some (i (o (i (o (o z)))))) (Gd.on (o (o (o (o (o z))))) false) [],
   .mk (keepH (ldR false 1 (X.t (i (o (i (o (o z)))))))) (.some (o (i (i (o (o z)))))) (Gd.on (o (o (o (o (o z))))) false) [],
   .mk (keepH (faR 1 (X.t (o (i z))))) (.some (i (o (o (o (o z)))))) (Gd.on (o (o (o (o (o z))))) false) [],
   .mk (keepH (ldR false 1 (X.t (i (o (o (o (o z)))))))) (.some (o (i (o (o (o z)))))) (Gd.on (o (o (o (o (o z))))) false) [],
   .mk (callS Tryd.prog 66 [(X.t (o (i (i (o (o z)))))), (X.t (o (o (o (i (o z))))))]) (.some (i (o (o (i (o z)))))) (Gd.on (o (o (o (o (o z))))) false) [.mk (ldR false 1 (X.t (i (o (o (o (o z))))))) (.some (o (i (o (o (o z)))))) (Gd.on (o (o (o (o (o z))))) false), .mk (faR 1 (X.t (o (i z)))) (.some (i (o (o (o (o z)))))) (Gd.on (o (o (o (o (o z))))) false)],
   .mk (keepH (binR Tryd.prog EK.no .none true BinOp.add (X.t (i (o (o (i (o z)))))) (X.c (AV.int .i64 1)))) (.some (o (i (o (i (o z)))))) (Gd.on (o (o (o (o (o z))))) false) [],
   .mk (keepH (binR Tryd.prog EK.no .none false BinOp.neq (X.t (o (i (o (o (o z)))))) (X.t (o (i (o (i (o z)))))))) (.some (i (i (o (i (o z)))))) (Gd.on (o (o (o (o (o z))))) false) [],
   .mk (keepH (pickR (X.t (o (o (o (o (o z)))))) (X.c (AV.bool true)) (X.t (i (i (o (i (o z)))))))) (.some (o (o (i (i (o z)))))) Gd.no [],
   .mk (keepH (mvR (X.t (o (o (i (i (o z)))))))) (.some (i (o (i (i (o z)))))) Gd.no [],
   .mk (keepH (faR 1 (X.t (o (i z))))) (.some (o (i (i (i (o z)))))) (Gd.on (i (o (i (i (o z))))) false) [],
   .mk (keepH (ldR false 1 (X.t (o (i (i (i (o z)))))))) (.some (i (i (i (i (o z)))))) (Gd.on (i (o (i (i (o z))))) false) [],
   .mk (keepH (binR Tryd.prog EK.no .none true BinOp.gtr (X.t (i (i (i (i (o z)))))) (X.c (AV.int .i64 1000000000000)))) (.some (o (o (o (o (i z)))))) (Gd.on (i (o (i (i (o z))))) false) [],
   .mk (keepH (pickR (X.t (i (o (i (i (o z)))))) (X.c (AV.bool true)) (X.t (o (o (o (o (i z)))))))) (.some (i (o (o (o (i z)))))) Gd.no [],
   .mk (mvR (X.t (i (o (o (o (i z))))))) (.some (i (i (i (o z))))) Gd.no []])
  (.cond (X.t (i (i (i (o z)))))
  (.exit 1)
  .skip))
  (.seq (.region [.mk (mvR (X.t (i (o (o z))))) (.some (i (i (o (o (i z)))))) Gd.no [],
   .mk (mvR (X.t (i (i (o (o (i z))))))) (.some (o (o (i (o (i z)))))) Gd.no [],
   .mk (mvR (X.t (o (o (o z))))) (.some (i (o (i (o (i z)))))) (Gd.on (o (o (i (o (i z))))) true) [],
   .mk (nilR (X.t (i (o (i (o (i z))))))) (.some (o (i (i (o (i z)))))) (Gd.on (o (o (i (o (i z))))) true) [],
   .mk (faR 2 (X.t (o (i (i (o (i z))))))) (.some (i (i (i (o (i z)))))) (Gd.on (o (o (i (o (i z))))) true) [],
   .mk (ldR false 1 (X.t (i (i (i (o (i z))))))) (.some (o (o (o (i (i z)))))) (Gd.on (o (o (i (o (i z))))) true) [],
   .mk (lenR LnK.slice (X.t (o (o (o (i (i z))))))) (.some (i (o (o (i (i z)))))) (Gd.on (o (o (i (o (i z))))) true) [],
   .mk (binR Tryd.prog EK.no .none true BinOp.geq (X.t (i (o (o (i (i z)))))) (X.c (AV.int .i64 60))) (.some (o (i (o (i (i z)))))) (Gd.on (o (o (i (o (i z))))) true) [],
   .mk (pickR (X.t (o (o (i (o (i z)))))) (X.t (o (i (o (i (i z)))))) (X.c (AV.bool false))) (.some (i (i (o (i (i z)))))) Gd.no [],
   .mk (mvR (X.t (i (i (o (i (i z))))))) (.some (o (i (o (o (i z)))))) Gd.no []])
  (.cond (X.t (o (i (o (o (i z))))))
  (.exit 2)
  .skip)))
  (.exit 0))))
  (.seq (.seq (.region [.mk (mvR (X.c (AV.bool false))) (.some (i (i z))) Gd.no []])
  .ret)
  (.exit 0))))
  (.seq (.regionD [.mk (keepH (faR 1 (X.t (o (i z))))) (.some (i (i (o (o (o (o z))))))) Gd.no [],
   .mk (keepH (ldR false 1 (X.t (i (i (o (o (o (o z))))))))) (.some (o (o (i (o (o (o z))))))) Gd.no [],
   .mk (keepH (faR 0 (X.t (o (i z))))) (.some (i (o (o (o (o (o z))))))) Gd.no [],
   .mk (keepH (ldR false 1 (X.t (i (o (o (o (o (o z))))))))) (.some (o (i (o (o (o (o z))))))) Gd.no [],
   .mk (keepH (buildR [(AV.str []), (AV.int .i64 0)] [(0, (1, (X.t (o (i (o (o (o (o z))))))))), (1, (1, (X.t (o (o (i (o (o (o z)))))))))])) (.some (i (o (i (o (o (o z))))))) Gd.no [],
   .mk (keepH (mvR (X.t (o (o (o z)))))) (.some (i (o (i (i (i z)))))) Gd.no [],
   .mk (keepH (nilR (X.t (i (o (i (i (i z)))))))) (.some (o (i (i (i (i z)))))) Gd.no [],
   .mk (keepH (faR 2 (X.t (o (i (i (i (i z)))))))) (.some (i (i (i (i (i z)))))) Gd.no [],
   .mk (keepH (ldR false 1 (X.t (i (i (i (i (i z)))))))) (.some (o (o (o (o (o (o z))))))) Gd.no [],
   .mk (keepH (mvR (X.t (o (o (o z)))))) (.some (o (o (i (i (i z)))))) Gd.no [],
   .mk (callS Tryd.prog 67 [(X.t (o (o (o (o (o (o z))))))), (X.t (i (o (i (o (o (o z)))))))]) (.some (o (i (i (o (o (o z))))))) Gd.no [.mk (mvR (X.t (o (o (o z))))) (.some (o (o (i (i (i z)))))) Gd.no],
   .mk (keepH (nilR (X.t (o (o (i (i (i z)))))))) (.some (i (i (i (o (o (o z))))))) Gd.no [],
   .mk (keepH (faR 2 (X.t (i (i (i (o (o (o z))))))))) (.some (o (o (o (i (o (o z))))))) Gd.no [],
   .mk (stR 1 (X.t (o (o (o (i (o (o z))))))) (X.t (o (i (i (o (o (o z)))))))) .none Gd.no []])
  (.seq (.region [.mk (mvR (X.t (o (o (o z))))) (.some (i (o (o (i (o (o z))))))) Gd.no [],
   .mk (nilR (X.t (i (o (o (i (o (o z)))))))) (.some (o (i (o (i (o (o z))))))) Gd.no [],
   .mk (faR 4 (X.t (o (i (o (i (o (o z)))))))) (.some (i (i (o (i (o (o z))))))) Gd.no [],
   .mk (ldR false 1 (X.t (i (i (o (i (o (o z)))))))) (.some (o (o (i (i (o (o z))))))) Gd.no [],
   .mk (binR Tryd.prog EK.no .none true BinOp.add (X.t (o (o (i (i (o (o z))))))) (X.c (AV.int .i64 1))) (.some (i (o (i (i (o (o z))))))) Gd.no [],
   .mk (nilR (X.t (i (o (o (i (o (o z)))))))) (.some (o (i (i (i (o (o z))))))) Gd.no [],
   .mk (faR 4 (X.t (o (i (i (i (o (o z)))))))) (.some (i (i (i (i (o (o z))))))) Gd.no [],
   .mk (stR 1 (X.t (i (i (i (i (o (o z))))))) (X.t (i (o (i (i (o (o z)))))))) .none Gd.no []])
  (.seq (.region [.mk (mvR (X.c (AV.bool true))) (.some (i (i z))) Gd.no []])
  .ret)))))))
theorem C35ok : (match Tryd.f35.body with | some c => comp Tryd.prog 79 c | none => none) = some C35 := by kernel_rfl
@[go_sem] theorem call35 (args : List AV) (H : Heap) : callC Tryd.prog 35 args H = .call 35 args := callC_ok (by kernel_rfl) args H
theorem R35ok : resKs Tryd.prog Tryd.f35.results.toList = some [(RK.tmp (i (i z)))] := by kernel_rfl

noncomputable def C36 : CC :=
  (.seq (.region [.mk (mvR (X.c AV.nili)) (.some (i (o z))) Gd.no []])
  (.seq (.block 0 (.seq (.region [.mk (mvR (X.t (o z))) (.some (i (i z))) Gd.no [],
   .mk (binR Tryd.prog EK.no .none true BinOp.lss (X.t (i (i z))) (X.c (AV.int .i64 0))) (.some (o (o (o z)))) Gd.no [],
   .mk (mvR (X.t (o (o (o z))))) (.some (i (o (o z)))) Gd.no [],
   .mk (mvR (X.t (o z))) (.some (o (i (o z)))) (Gd.on (i (o (o z))) false) [],
   .mk (mvR (X.t z)) (.some (i (i (o z)))) (Gd.on (i (o (o z))) false) [],
   .mk (nilR (X.t (i (i (o z))))) (.some (o (o (i z)))) (Gd.on (i (o (o z))) false) [],
   .mk (faR 1 (X.t (o (o (i z))))) (.some (i (o (i z)))) (Gd.on (i (o (o z))) false) [],
   .mk (ldR false 1 (X.t (i (o (i z))))) (.some (o (i (i z)))) (Gd.on (i (o (o z))) false) [],
   .mk (lenR LnK.slice (X.t (o (i (i z))))) (.some (i (i (i z)))) (Gd.on (i (o (o z))) false) [],
   .mk (binR Tryd.prog EK.no .none false BinOp.geq (X.t (o (i (o z)))) (X.t (i (i (i z))))) (.some (o (o (o (o z))))) (Gd.on (i (o (o z))) false) [],
   .mk (pickR (X.t (i (o (o z)))) (X.c (AV.bool true)) (X.t (o (o (o (o z)))))) (.some (i (o (o (o z))))) Gd.no [],
   .mk (mvR (X.t (i (o (o (o z)))))) (.some (o (i z))) Gd.no []])
  (.cond (X.t (o (i z)))
  (.seq (.region [.mk (mkiR 71 (X.c (AV.int .i64 23))) (.some (o (i (o (o z))))) Gd.no [],
   .mk (mvR (X.t (o (i (o (o z)))))) (.some (i (o z))) Gd.no []])
  .ret)
  (.seq (.region [.mk (mvR (X.t z)) (.some (o (o (i (o z))))) Gd.no [],
   .mk (nilR (X.t (o (o (i (o z)))))) (.some (i (o (i (o z))))) Gd.no [],
   .mk (faR 1 (X.t (i (o (i (o z)))))) (.some (o (i (i (o z))))) Gd.no [],
   .mk (ldR false 1 (X.t (o (i (i (o z)))))) (.some (i (i (i (o z))))) Gd.no [],
   .mk (mvR (X.t (o z))) (.some (o (o (o (i z))))) Gd.no [],
   .mk (iaS 5 (X.t (i (i (i (o z))))) (X.t (o (o (o (i z)))))) (.some (i (o (o (i z))))) Gd.no [],
   .mk (faR 3 (X.t (i (o (o (i z)))))) (.some (o (i (o (i z))))) Gd.no [],
   .mk (ldR false 1 (X.t (o (i (o (i z)))))) (.some (i (i (o (i z))))) Gd.no [],
   .mk (binR Tryd.prog EK.no .none true BinOp.neq (X.t (i (i (o (i z))))) (X.c (AV.int .i64 0))) (.some (o (o (i (i z))))) Gd.no [],
   .mk (mvR (X.t (o (o (i (i z)))))) (.some (i (i (o (o z))))) Gd.no []])
  (.cond (X.t (i (i (o (o z)))))
  (.seq (.region [.mk (mkiR 71 (X.c (AV.int .i64 24))) (.some (i (o (i (i z))))) Gd.no [],
   .mk (mvR (X.t (i (o (i (i z)))))) (.some (i (o z))) Gd.no []])
  .ret)
  .skip)))))
  (.seq (.region [.mk (mvR (X.c AV.nili)) (.some (i (o z))) Gd.no []])
  .ret)))
theorem C36ok : (match Tryd.f36.body with | some c => comp Tryd.prog 29 c | none => none) = some C36 := by kernel_rfl
@[go_sem] theorem call36 (args : List AV) (H : Heap) : callC Tryd.prog 36 args H = .call 36 args := callC_ok (by kernel_rfl) args H
theorem R36ok : resKs Tryd.prog Tryd.f36.results.toList = some [(RK.tmp (i (o z)))] := by kernel_rfl

noncomputable def C37L0 : CC :=
  (.seq (.region [.mk (binR Tryd.prog EK.no .none false BinOp.lss (X.t (i (o (i z)))) (X.t (o (o (i z))))) (.some (o (i (i z)))) Gd.no []])
  (.seq (.cond (X.t (o (i (i z))))
  .skip
  (.exit 0))
  (.seq (.block 1 (.seq (.region [.mk (iaS 5 (X.t (i (i (o z)))) (X.t (i (o (i z))))) (.some (i (i (i z)))) Gd.no [],
   .mk (ldR true 5 (X.t (i (i (i z))))) (.some (o (o (o (o z))))) Gd.no [],
   .mk (fun _ H => newC false [(AV.int .i64 0), (AV.int .i64 0), (AV.int .i64 0), (AV.str []), (AV.str [])] H) (.some (o (o (o z)))) Gd.no [],
   .mk (stR 5 (X.t (o (o (o z)))) (X.t (o (o (o (o z)))))) .none Gd.no []])
  (.seq (.region [.mk (faR 3 (X.t (o (o (o z))))) (.some (o (i (o (o z))))) Gd.no [],
   .mk (ldR true 2 (X.t (o (i (o (o z)))))) (.some (i (i (o (o z))))) Gd.no [],
   .mk (ldR true 2 (X.t (o (o z)))) (.some (o (o (i (o z))))) Gd.no [],
   .mk (callS Tryd.prog 68 [(X.t (i (i (o (o z))))), (X.t (o (o (i (o z)))))]) (.some (i (o (i (o z))))) Gd.no [],
   .mk (mvR (X.t (i (o (i (o z)))))) (.some (i (o (o (o z))))) Gd.no [],
   .mk (extR (X.t (i (o (o (o z))))) 0) (.some (o (i (i (o z))))) Gd.no [],
   .mk (extR (X.t (i (o (o (o z))))) 1) (.some (i (i (i (o z))))) Gd.no [],
   .mk (fun _ H => newC false [(AV.str []), (AV.str [])] H) (.some (i (o (o z)))) Gd.no [],
   .mk (stR 2 (X.t (i (o (o z)))) (X.t (o (i (i (o z)))))) .none Gd.no [],
   .mk (mvR (X.t (i (i (i (o z)))))) (.some (o (i (o z)))) Gd.no []])
  (.seq (.region [.mk (mvR (X.t (o (i (o z))))) (.some (o (o (o (i z))))) Gd.no []])
  (.cond (X.t (o (o (o (i z)))))
  (.seq (.region [.mk (ldR true 2 (X.t (i (o (o z))))) (.some (i (o (o (i z))))) Gd.no [],
   .mk (faR 3 (X.t (o (o (o z))))) (.some (o (i (o (i z))))) Gd.no [],
   .mk (stR 2 (X.t (o (i (o (i z))))) (X.t (i (o (o (i z)))))) .none Gd.no []])
  (.region [.mk (mvR (X.t (o (i z)))) (.some (i (i (o (i z))))) Gd.no [],
   .mk (ldR true 5 (X.t (o (o (o z))))) (.some (o (o (i (i z))))) Gd.no [],
   .mk (bslR 5 1 [(AV.int .i64 0), (AV.int .i64 0), (AV.int .i64 0), (AV.str []), (AV.str [])] [(0, (X.t (o (o (i (i z))))))]) (.some (i (o (i (i z))))) Gd.no [],
   .mk (appR 5 56 (X.t (i (i (o (i z))))) (X.t (i (o (i (i z)))))) (.some (o (i (i (i z))))) Gd.no [],
   .mk (mvR (X.t (o (i (i (i z)))))) (.some (o (i z))) Gd.no []]))
  .skip)))))
  (.region [.mk (binR Tryd.prog EK.no .none true BinOp.add (X.t (i (o (i z)))) (X.c (AV.int .i64 1))) (.some (i (i (i (i z))))) Gd.no [],
   .mk (mvR (X.t (i (i (i (i z)))))) (.some (i (o (i z)))) Gd.no []]))))
noncomputable def C37 : CC :=
  (.seq (.region [.mk (boxR false (X.t (o z))) (.some (o (o z))) Gd.no [],
   .mk (mvR (X.c AV.nils)) (.some (i (o z))) Gd.no []])
  (.seq (.region [.mk (mvR (X.c AV.nils)) (.some (o (i z))) Gd.no []])
  (.seq (.seq (.region [.mk (mvR (X.t z)) (.some (i (i (o z)))) Gd.no [],
   .mk (lenR LnK.slice (X.t (i (i (o z))))) (.some (o (o (i z)))) Gd.no [],
   .mk (mvR (X.c (AV.int .i64 0))) (.some (i (o (i z)))) Gd.no []])
  (.block 0 (.loop C37L0)))
  (.seq (.region [.mk (mvR (X.t (o (i z)))) (.some (o (o (o (o (o z)))))) Gd.no [],
   .mk (mvR (X.t (o (o (o (o (o z))))))) (.some (i (o z))) Gd.no []])
  .ret))))
theorem C37ok : (match Tryd.f37.body with | some c => comp Tryd.prog 32 c | none => none) = some C37 := by kernel_rfl
@[go_sem] theorem call37 (args : List AV) (H : Heap) : callC Tryd.prog 37 args H = .call 37 args := callC_ok (by kernel_rfl) args H
theorem R37ok : resKs Tryd.prog Tryd.f37.results.toList = some [(RK.tmp (i (o z)))] := by kernel_rfl

noncomputable def C63 : CC :=
  (.seq (.region [.mk (mvR (X.c (AV.bool false))) (.some (i (o z))) Gd.no []])
  (.seq (.region [.mk (mvR (X.t z)) (.some (o (i z))) Gd.no [],
   .mk (mvR (X.t (o z))) (.some (i (i z))) Gd.no [],
   .mk (callS Tryd.prog 82 [(X.t (o (i z))), (X.t (i (i z)))]) (.some (o (o (o z)))) Gd.no [],
   .mk (binR Tryd.prog EK.no .none true BinOp.geq (X.t (o (o (o z)))) (X.c (AV.int .i64 0))) (.some (i (o (o z)))) Gd.no [],
   .mk (mvR (X.t (i (o (o z))))) (.some (i (o z))) Gd.no []])
  .ret))
theorem C63ok : (match Tryd.f63.body with | some c => comp Tryd.prog 9 c | none => none) = some C63 := by kernel_rfl
@[go_sem] theorem call63 (args : List AV) (H : Heap) : callC Tryd.prog 63 args H = .call 63 args := callC_ok (by kernel_rfl) args H
theorem R63ok : resKs Tryd.prog Tryd.f63.results.toList = some [(RK.tmp (i (o z)))] := by kernel_rfl

noncomputable def C64 : CC :=
  (.seq (.region [.mk (boxR false (X.t z)) (.some (i z)) Gd.no [],
   .mk (mvR (X.c (AV.bool false))) (.some (o (o z))) Gd.no []])
  (.seq (.region [.mk (faR 0 (X.t (i z))) (.some (i (o z))) Gd.no [],
   .mk (ldR false 1 (X.t (i (o z)))) (.some (o (i z))) Gd.no [],
   .mk (faR 0 (X.t (o z))) (.some (i (i z))) Gd.no [],
   .mk (ldR false 1 (X.t (i (i z)))) (.some (o (o (o z)))) Gd.no [],
   .mk (binR Tryd.prog EK.no .none false BinOp.eql (X.t (o (i z))) (X.t (o (o (o z))))) (.some (i (o (o z)))) Gd.no [],
   .mk (mvR (X.t (i (o (o z))))) (.some (o (o z))) Gd.no []])
  .ret))
theorem C64ok : (match Tryd.f64.body with | some c => comp Tryd.prog 9 c | none => none) = some C64 := by kernel_rfl
@[go_sem] theorem call64 (args : List AV) (H : Heap) : callC Tryd.prog 64 args H = .call 64 args := callC_ok (by kernel_rfl) args H
theorem R64ok : resKs Tryd.prog Tryd.f64.results.toList = some [(RK.tmp (o (o z)))] := by kernel_rfl

noncomputable def C68 : CC :=
  (.seq (.region [.mk (boxR false (X.t z)) (.some (i z)) Gd.no [],
   .mk (boxR false (X.t (o z))) (.some (o (o z))) Gd.no [],
   .mk (fun _ H => newC false [(AV.str []), (AV.str [])] H) (.some (i (o z))) Gd.no [],
   .mk (mvR (X.c (AV.bool false))) (.some (o (i z))) Gd.no []])
  (.seq (.regionD [.mk (addH (fun _ H => newC false [(AV.str []), (AV.str [])] H)) (.some (i (i z))) Gd.no [],
   .mk (keepH (faR 1 (X.t (o (o z))))) (.some (i (i (i z)))) Gd.no [],
   .mk (keepH (ldR false 1 (X.t (i (i (i z)))))) (.some (o (o (o (o z))))) Gd.no [],
   .mk (keepH (faR 1 (X.t (i z)))) (.some (i (o (i z)))) Gd.no [],
   .mk (keepH (ldR false 1 (X.t (i (o (i z)))))) (.some (o (i (i z)))) Gd.no [],
   .mk (keepH (faR 0 (X.t (o (o z))))) (.some (o (i (o z)))) Gd.no [],
   .mk (keepH (ldR false 1 (X.t (o (i (o z)))))) (.some (i (i (o z)))) Gd.no [],
   .mk (keepH (faR 0 (X.t (i z)))) (.some (o (o (o z)))) Gd.no [],
   .mk (keepH (ldR false 1 (X.t (o (o (o z)))))) (.some (i (o (o z)))) Gd.no [],
   .mk (keepH (mmR true (X.t (i (o (o z)))) (X.t (i (i (o z)))))) (.some (o (o (i z)))) Gd.no [],
   .mk (callS Tryd.prog 85 [(X.t (o (i (i z)))), (X.t (o (o (o (o z)))))]) (.some (i (o (o (o z))))) Gd.no [.mk (mmR true (X.t (i (o (o z)))) (X.t (i (i (o z))))) (.some (o (o (i z)))) Gd.no, .mk (ldR false 1 (X.t (o (o (o z))))) (.some (i (o (o z)))) Gd.no, .mk (faR 0 (X.t (i z))) (.some (o (o (o z)))) Gd.no, .mk (ldR false 1 (X.t (o (i (o z))))) (.some (i (i (o z)))) Gd.no, .mk (faR 0 (X.t (o (o z)))) (.some (o (i (o z)))) Gd.no],
   .mk (keepH (buildR [(AV.str []), (AV.str [])] [(0, (1, (X.t (o (o (i z)))))), (1, (1, (X.t (i (o (o (o z)))))))])) (.some (o (i (o (o z))))) Gd.no [],
   .mk (stR 2 (X.t (i (i z))) (X.t (o (i (o (o z)))))) .none Gd.no []])
  (.seq (.seq (.region [.mk (ldR true 2 (X.t (i z))) (.some (i (i (o (o z))))) Gd.no [],
   .mk (callS Tryd.prog 59 [(X.t (i (i (o (o z)))))]) (.some (o (o (i (o z))))) Gd.no [],
   .mk (unR UnOp.not (X.t (o (o (i (o z)))))) (.some (i (o (i (o z))))) Gd.no [],
   .mk (mvR (X.t (i (o (i (o z)))))) (.some (o (i (i (o z))))) Gd.no [],
   .mk (ldR true 2 (X.t (o (o z)))) (.some (i (i (i (o z))))) (Gd.on (o (i (i (o z)))) false) [],
   .mk (callS Tryd.prog 59 [(X.t (i (i (i (o z)))))]) (.some (o (o (o (i z))))) (Gd.on (o (i (i (o z)))) false) [],
   .mk (unR UnOp.not (X.t (o (o (o (i z)))))) (.some (i (o (o (i z))))) (Gd.on (o (i (i (o z)))) false) [],
   .mk (pickR (X.t (o (i (i (o z))))) (X.c (AV.bool true)) (X.t (i (o (o (i z)))))) (.some (o (i (o (i z))))) Gd.no [],
   .mk (mvR (X.t (o (i (o (i z)))))) (.some (i (i (o (i z))))) Gd.no [],
   .mk (faR 1 (X.t (i (i z)))) (.some (o (o (i (i z))))) (Gd.on (i (i (o (i z)))) false) [],
   .mk (ldR false 1 (X.t (o (o (i (i z)))))) (.some (i (o (i (i z))))) (Gd.on (i (i (o (i z)))) false) [],
   .mk (binR Tryd.prog EK.no .none true BinOp.neq (X.t (i (o (i (i z))))) (X.c (AV.str []))) (.some (o (i (i (i z))))) (Gd.on (i (i (o (i z)))) false) [],
   .mk (mvR (X.t (o (i (i (i z)))))) (.some (i (i (i (i z))))) (Gd.on (i (i (o (i z)))) false) [],
   .mk (faR 0 (X.t (i (i z)))) (.some (o (o (o (o (o z)))))) (Gd.on (i (i (i (i z)))) true) [],
   .mk (ldR false 1 (X.t (o (o (o (o (o z))))))) (.some (i (o (o (o (o z)))))) (Gd.on (i (i (i (i z)))) true) [],
   .mk (faR 1 (X.t (i (i z)))) (.some (o (i (o (o (o z)))))) (Gd.on (i (i (i (i z)))) true) [],
   .mk (ldR false 1 (X.t (o (i (o (o (o z))))))) (.some (i (i (o (o (o z)))))) (Gd.on (i (i (i (i z)))) true) [],
   .mk (binR Tryd.prog EK.no .none false BinOp.geq (X.t (i (o (o (o (o z)))))) (X.t (i (i (o (o (o z))))))) (.some (o (o (i (o (o z)))))) (Gd.on (i (i (i (i z)))) true) [],
   .mk (pickR (X.t (i (i (i (i z))))) (X.t (o (o (i (o (o z)))))) (X.c (AV.bool false))) (.some (i (o (i (o (o z)))))) (Gd.on (i (i (o (i z)))) false) [],
   .mk (pickR (X.t (i (i (o (i z))))) (X.c (AV.bool true)) (X.t (i (o (i (o (o z))))))) (.some (o (i (i (o (o z)))))) Gd.no []])
  (.cond (X.t (o (i (i (o (o z))))))
  (.seq (.region [.mk (buildR [(AV.str []), (AV.str [])] []) (.some (i (i (i (o (o z)))))) Gd.no [],
   .mk (stR 2 (X.t (i (o z))) (X.t (i (i (i (o (o z))))))) .none Gd.no [],
   .mk (mvR (X.c (AV.bool false))) (.some (o (i z))) Gd.no []])
  .ret)
  .skip))
  (.seq (.region [.mk (ldR true 2 (X.t (i (i z)))) (.some (o (o (o (i (o z)))))) Gd.no [],
   .mk (stR 2 (X.t (i (o z))) (X.t (o (o (o (i (o z))))))) .none Gd.no [],
   .mk (mvR (X.c (AV.bool true))) (.some (o (i z))) Gd.no []])
  .ret))))
theorem C68ok : (match Tryd.f68.body with | some c => comp Tryd.prog 40 c | none => none) = some C68 := by kernel_rfl
@[go_sem] theorem call68 (args : List AV) (H : Heap) : callC Tryd.prog 68 args H = .call 68 args := callC_ok (by kernel_rfl) args H
theorem R68ok : resKs Tryd.prog Tryd.f68.results.toList = some [(RK.cell (i (o z)) true 2), (RK.tmp (o (i z)))] := by kernel_rfl

noncomputable def C82L0 : CC :=
  (.seq (.region [.mk (binR Tryd.prog EK.no .none false BinOp.lss (X.t (i (o (o z)))) (X.t (o (o (o z))))) (.some (o (i (o z)))) Gd.no []])
  (.seq (.cond (X.t (o (i (o z))))
  .skip
  (.exit 0))
  (.seq (.block 1 (.seq (.region [.mk (mvR (X.t (i (o (o z))))) (.some (i (i (o z)))) Gd.no [],
   .mk (mvR (X.t (i (i (o z))))) (.some (o (i z))) Gd.no []])
  (.seq (.region [.mk (mvR (X.t (o z))) (.some (o (o (i z)))) Gd.no [],
   .mk (mvR (X.t z)) (.some (i (o (i z)))) Gd.no [],
   .mk (mvR (X.t (o (i z)))) (.some (o (i (i z)))) Gd.no [],
   .mk (iaS 2 (X.t (i (o (i z)))) (X.t (o (i (i z))))) (.some (i (i (i z)))) Gd.no [],
   .mk (ldR true 2 (X.t (i (i (i z))))) (.some (o (o (o (o z))))) Gd.no [],
   .mk (callX Tryd.prog (X.t (o (o (i z)))) [(X.t (o (o (o (o z)))))]) (.some (i (o (o (o z))))) Gd.no []])
  (.cond (X.t (i (o (o (o z)))))
  (.seq (.region [.mk (mvR (X.t (o (i z)))) (.some (o (i (o (o z))))) Gd.no [],
   .mk (mvR (X.t (o (i (o (o z)))))) (.some (i (o z))) Gd.no []])
  .ret)
  .skip))))
  (.region [.mk (binR Tryd.prog EK.no .none true BinOp.add (X.t (i (o (o z)))) (X.c (AV.int .i64 1))) (.some (i (i (o (o z))))) Gd.no [],
   .mk (mvR (X.t (i (i (o (o z)))))) (.some (i (o (o z)))) Gd.no []]))))
noncomputable def C82 : CC :=
  (.seq (.region [.mk (mvR (X.c (AV.int .i64 0))) (.some (i (o z))) Gd.no []])
  (.seq (.seq (.region [.mk (mvR (X.t z)) (.some (i (i z))) Gd.no [],
   .mk (lenR LnK.slice (X.t (i (i z)))) (.some (o (o (o z)))) Gd.no [],
   .mk (mvR (X.c (AV.int .i64 0))) (.some (i (o (o z)))) Gd.no []])
  (.block 0 (.loop C82L0)))
  (.seq (.region [.mk (mvR (X.c (AV.int .i64 (-1)))) (.some (i (o z))) Gd.no []])
  .ret)))
theorem C82ok : (match Tryd.f82.body with | some c => comp Tryd.prog 19 c | none => none) = some C82 := by kernel_rfl
@[go_sem] theorem call82 (args : List AV) (H : Heap) : callC Tryd.prog 82 args H = .call 82 args := callC_ok (by kernel_rfl) args H
theorem R82ok : resKs Tryd.prog Tryd.f82.results.toList = some [(RK.tmp (i (o z)))] := by kernel_rfl

noncomputable def C85 : CC :=
  (.seq (.region [.mk (mvR (X.c (AV.str []))) (.some (i (o z))) Gd.no []])
  (.seq (.block 0 (.seq (.region [.mk (mvR (X.t z)) (.some (i (i z))) Gd.no [],
   .mk (binR Tryd.prog EK.no .none true BinOp.eql (X.t (i (i z))) (X.c (AV.str []))) (.some (o (o (o z)))) Gd.no [],
   .mk (mvR (X.t (o (o (o z))))) (.some (o (i z))) Gd.no []])
  (.cond (X.t (o (i z)))
  (.seq (.region [.mk (mvR (X.t (o z))) (.some (i (o (o z)))) Gd.no [],
   .mk (mvR (X.t (i (o (o z))))) (.some (i (o z))) Gd.no []])
  .ret)
  (.seq (.region [.mk (mvR (X.t (o z))) (.some (i (i (o z)))) Gd.no [],
   .mk (binR Tryd.prog EK.no .none true BinOp.eql (X.t (i (i (o z)))) (X.c (AV.str []))) (.some (o (o (i z)))) Gd.no [],
   .mk (mvR (X.t (o (o (i z))))) (.some (o (i (o z)))) Gd.no []])
  (.cond (X.t (o (i (o z))))
  (.seq (.region [.mk (mvR (X.t z)) (.some (i (o (i z)))) Gd.no [],
   .mk (mvR (X.t (i (o (i z))))) (.some (i (o z))) Gd.no []])
  .ret)
  .skip)))))
  (.seq (.region [.mk (mvR (X.t z)) (.some (o (i (i z)))) Gd.no [],
   .mk (mvR (X.t (o z))) (.some (i (i (i z)))) Gd.no [],
   .mk (mmR false (X.t (o (i (i z)))) (X.t (i (i (i z))))) (.some (o (o (o (o z))))) Gd.no [],
   .mk (mvR (X.t (o (o (o (o z)))))) (.some (i (o z))) Gd.no []])
  .ret)))
theorem C85ok : (match Tryd.f85.body with | some c => comp Tryd.prog 16 c | none => none) = some C85 := by kernel_rfl
@[go_sem] theorem call85 (args : List AV) (H : Heap) : callC Tryd.prog 85 args H = .call 85 args := callC_ok (by kernel_rfl) args H
theorem R85ok : resKs Tryd.prog Tryd.f85.results.toList = some [(RK.tmp (i (o z)))] := by kernel_rfl

end Go.Proofs
