/- The laid-out code of the functions that are walked. Printed by a program. -/
import Derived.Test.YtomljpdjfobeoaaDoorZ14
import Derived.Test.YtomljpdjfobeoaaDoorProg
import Derived.KernelRfl
set_option linter.all false
set_option maxRecDepth 100000
namespace Go.Proofs
open Go Go.Ev K
/- 6: estuary/estuarylaw17.CutJoins -/
noncomputable def C6 : CC :=
  (.seq (.region [.mk (boxR false (X.t z)) (.some (i z)) Gd.no [],
   .mk (mvR (X.c (AV.bool false))) (.some (i (o z))) Gd.no []])
  (.seq (.seq (.region [.mk (callS Tryd.prog 18 []) (.some (i (i (o z)))) Gd.no [],
   .mk (unR UnOp.not (X.t (i (i (o z))))) (.some (o (o (i z)))) Gd.no []])
  (.cond (X.t (o (o (i z))))
  (.seq (.region [.mk (mvR (X.c (AV.bool false))) (.some (i (o z))) Gd.no []])
  .ret)
  .skip))
  (.seq (.seq (.region [.mk (ldR true 8 (X.t (i z))) (.some (i (o (i z)))) Gd.no [],
   .mk (callS Tryd.prog 19 [(X.t (i (o (i z))))]) (.some (o (i (i z)))) Gd.no [],
   .mk (unR UnOp.not (X.t (o (i (i z))))) (.some (i (i (i z)))) Gd.no [],
   .mk (mvR (X.t (i (i (i z))))) (.some (o (o (o (o z))))) Gd.no [],
   .mk (mvR (X.t (o z))) (.some (i (o (o (o z))))) (Gd.on (o (o (o (o z)))) false) [],
   .mk (lenR LnK.str (X.t (i (o (o (o z)))))) (.some (o (i (o (o z))))) (Gd.on (o (o (o (o z)))) false) [],
   .mk (binR Tryd.prog EK.no .none true BinOp.gtr (X.t (o (i (o (o z))))) (X.c (AV.int .i64 20))) (.some (i (i (o (o z))))) (Gd.on (o (o (o (o z)))) false) [],
   .mk (pickR (X.t (o (o (o (o z))))) (X.c (AV.bool true)) (X.t (i (i (o (o z)))))) (.some (o (o (i (o z))))) Gd.no [],
   .mk (mvR (X.t (o (o (i (o z)))))) (.some (i (o (i (o z))))) Gd.no [],
   .mk (ldR true 8 (X.t (i z))) (.some (o (i (i (o z))))) (Gd.on (i (o (i (o z)))) false) [],
   .mk (callS Tryd.prog 20 [(X.t (o (i (i (o z)))))]) (.some (i (i (i (o z))))) (Gd.on (i (o (i (o z)))) false) [],
   .mk (unR UnOp.not (X.t (i (i (i (o z)))))) (.some (o (o (o (i z))))) (Gd.on (i (o (i (o z)))) false) [],
   .mk (pickR (X.t (i (o (i (o z))))) (X.c (AV.bool true)) (X.t (o (o (o (i z)))))) (.some (i (o (o (i z))))) Gd.no [],
   .mk (mvR (X.t (i (o (o (i z)))))) (.some (o (i (o (i z))))) Gd.no [],
   .mk (faR 4 (X.t (i z))) (.some (i (i (o (i z))))) (Gd.on (o (i (o (i z)))) false) [],
   .mk (ldR false 1 (X.t (i (i (o (i z)))))) (.some (o (o (i (i z))))) (Gd.on (o (i (o (i z)))) false) [],
   .mk (pickR (X.t (o (i (o (i z))))) (X.c (AV.bool true)) (X.t (o (o (i (i z)))))) (.some (i (o (i (i z))))) Gd.no []])
  (.cond (X.t (i (o (i (i z)))))
  (.seq (.region [.mk (mvR (X.c (AV.bool true))) (.some (i (o z))) Gd.no []])
  .ret)
  .skip))
  (.seq (.region [.mk (ldR true 8 (X.t (i z))) (.some (i (i (i (i z))))) Gd.no [],
   .mk (mvR (X.t (o z))) (.some (o (o (o (o (o z)))))) Gd.no [],
   .mk (callS Tryd.prog 21 [(X.t (i (i (i (i z))))), (X.t (o (o (o (o (o z)))))), (X.c (AV.int .i64 7)), (X.c (AV.int .i64 8))]) (.some (i (o (o (o (o z)))))) Gd.no [],
   .mk (mvR (X.t (i (o (o (o (o z))))))) (.some (o (i (i (i z))))) Gd.no [],
   .mk (extR (X.t (o (i (i (i z))))) 0) (.some (o (i (o (o (o z)))))) Gd.no [],
   .mk (extR (X.t (o (i (i (i z))))) 1) (.some (i (i (o (o (o z)))))) Gd.no [],
   .mk (extR (X.t (o (i (i (i z))))) 2) (.some (o (o (i (o (o z)))))) Gd.no [],
   .mk (fun _ H => newC false [(AV.int .i64 0), (AV.int .i64 0), (AV.str []), (AV.str []), (AV.bool false), AV.nils, AV.nils, AV.nils] H) (.some (o (i z))) Gd.no [],
   .mk (fun _ H => newC false [(AV.int .i64 0), (AV.int .i64 0), (AV.str []), (AV.str []), (AV.bool false), AV.nils, AV.nils, AV.nils] H) (.some (i (i z))) Gd.no [],
   .mk (stR 8 (X.t (o (i z))) (X.t (o (i (o (o (o z))))))) .none Gd.no [],
   .mk (stR 8 (X.t (i (i z))) (X.t (i (i (o (o (o z))))))) .none Gd.no [],
   .mk (mvR (X.t (o (o (i (o (o z))))))) (.some (o (o (o z)))) Gd.no []])
  (.seq (.seq (.region [.mk (mvR (X.t (o (o (o z))))) (.some (i (o (i (o (o z)))))) Gd.no [],
   .mk (binR Tryd.prog EK.iface .none true BinOp.neq (X.t (i (o (i (o (o z)))))) (X.c AV.nili)) (.some (o (i (i (o (o z)))))) Gd.no []])
  (.cond (X.t (o (i (i (o (o z))))))
  (.seq (.region [.mk (mvR (X.t (o (o (o z))))) (.some (i (i (i (o (o z)))))) Gd.no [],
   .mk (callS Tryd.prog 22 [(X.t (i (i (i (o (o z)))))), (X.c (AV.int .i64 22))]) (.some (o (o (o (i (o z)))))) Gd.no [],
   .mk (mvR (X.t (o (o (o (i (o z))))))) (.some (i (o z))) Gd.no []])
  .ret)
  .skip))
  (.seq (.seq (.region [.mk (ldR true 8 (X.t (o (i z)))) (.some (i (o (o (i (o z)))))) Gd.no [],
   .mk (callS Tryd.prog 20 [(X.t (i (o (o (i (o z))))))]) (.some (o (i (o (i (o z)))))) Gd.no [],
   .mk (unR UnOp.not (X.t (o (i (o (i (o z))))))) (.some (i (i (o (i (o z)))))) Gd.no [],
   .mk (mvR (X.t (i (i (o (i (o z))))))) (.some (o (o (i (i (o z)))))) Gd.no [],
   .mk (ldR true 8 (X.t (i (i z)))) (.some (i (o (i (i (o z)))))) (Gd.on (o (o (i (i (o z))))) false) [],
   .mk (callS Tryd.prog 20 [(X.t (i (o (i (i (o z))))))]) (.some (o (i (i (i (o z)))))) (Gd.on (o (o (i (i (o z))))) false) [],
   .mk (unR UnOp.not (X.t (o (i (i (i (o z))))))) (.some (i (i (i (i (o z)))))) (Gd.on (o (o (i (i (o z))))) false) [],
   .mk (pickR (X.t (o (o (i (i (o z)))))) (X.c (AV.bool true)) (X.t (i (i (i (i (o z))))))) (.some (o (o (o (o (i z)))))) Gd.no [],
   .mk (mvR (X.t (o (o (o (o (i z))))))) (.some (i (o (o (o (i z)))))) Gd.no [],
   .mk (faR 5 (X.t (o (i z)))) (.some (o (i (o (o (i z)))))) (Gd.on (i (o (o (o (i z))))) false) [],
   .mk (ldR false 1 (X.t (o (i (o (o (i z))))))) (.some (i (i (o (o (i z)))))) (Gd.on (i (o (o (o (i z))))) false) [],
   .mk (lenR LnK.slice (X.t (i (i (o (o (i z))))))) (.some (o (o (i (o (i z)))))) (Gd.on (i (o (o (o (i z))))) false) [],
   .mk (faR 5 (X.t (i (i z)))) (.some (i (o (i (o (i z)))))) (Gd.on (i (o (o (o (i z))))) false) [],
   .mk (ldR false 1 (X.t (i (o (i (o (i z))))))) (.some (o (i (i (o (i z)))))) (Gd.on (i (o (o (o (i z))))) false) [],
   .mk (lenR LnK.slice (X.t (o (i (i (o (i z))))))) (.some (i (i (i (o (i z)))))) (Gd.on (i (o (o (o (i z))))) false) [],
   .mk (binR Tryd.prog EK.no .none false BinOp.add (X.t (o (o (i (o (i z)))))) (X.t (i (i (i (o (i z))))))) (.some (o (o (o (i (i z)))))) (Gd.on (i (o (o (o (i z))))) false) [],
   .mk (faR 5 (X.t (i z))) (.some (i (o (o (i (i z)))))) (Gd.on (i (o (o (o (i z))))) false) [],
   .mk (ldR false 1 (X.t (i (o (o (i (i z))))))) (.some (o (i (o (i (i z)))))) (Gd.on (i (o (o (o (i z))))) false) [],
   .mk (lenR LnK.slice (X.t (o (i (o (i (i z))))))) (.some (i (i (o (i (i z)))))) (Gd.on (i (o (o (o (i z))))) false) [],
   .mk (binR Tryd.prog EK.no .none false BinOp.neq (X.t (o (o (o (i (i z)))))) (X.t (i (i (o (i (i z))))))) (.some (o (o (i (i (i z)))))) (Gd.on (i (o (o (o (i z))))) false) [],
   .mk (pickR (X.t (i (o (o (o (i z)))))) (X.c (AV.bool true)) (X.t (o (o (i (i (i z))))))) (.some (i (o (i (i (i z)))))) Gd.no [],
   .mk (mvR (X.t (i (o (i (i (i z))))))) (.some (o (i (i (i (i z)))))) Gd.no [],
   .mk (faR 6 (X.t (o (i z)))) (.some (i (i (i (i (i z)))))) (Gd.on (o (i (i (i (i z))))) false) [],
   .mk (ldR false 1 (X.t (i (i (i (i (i z))))))) (.some (o (o (o (o (o (o z))))))) (Gd.on (o (i (i (i (i z))))) false) [],
   .mk (lenR LnK.slice (X.t (o (o (o (o (o (o z)))))))) (.some (i (o (o (o (o (o z))))))) (Gd.on (o (i (i (i (i z))))) false) [],
   .mk (faR 6 (X.t (i (i z)))) (.some (o (i (o (o (o (o z))))))) (Gd.on (o (i (i (i (i z))))) false) [],
   .mk (ldR false 1 (X.t (o (i (o (o (o (o z)))))))) (.some (i (i (o (o (o (o z))))))) (Gd.on (o (i (i (i (i z))))) false) [],
   .mk (lenR LnK.slice (X.t (i (i (o (o (o (o z)))))))) (.some (o (o (i (o (o (o z))))))) (Gd.on (o (i (i (i (i z))))) false) [],
   .mk (binR Tryd.prog EK.no .none false BinOp.add (X.t (i (o (o (o (o (o z))))))) (X.t (o (o (i (o (o (o z)))))))) (.some (i (o (i (o (o (o z))))))) (Gd.on (o (i (i (i (i z))))) false) [],
   .mk (faR 6 (X.t (i z))) (.some (o (i (i (o (o (o z))))))) (Gd.on (o (i (i (i (i z))))) false) [],
   .mk (ldR false 1 (X.t (o (i (i (o (o (o z)))))))) (.some (i (i (i (o (o (o z))))))) (Gd.on (o (i (i (i (i z))))) false) [],
   .mk (lenR LnK.slice (X.t (i (i (i (o (o (o z)))))))) (.some (o (o (o (i (o (o z))))))) (Gd.on (o (i (i (i (i z))))) false) [],
   .mk (binR Tryd.prog EK.no .none false BinOp.neq (X.t (i (o (i (o (o (o z))))))) (X.t (o (o (o (i (o (o z)))))))) (.some (i (o (o (i (o (o z))))))) (Gd.on (o (i (i (i (i z))))) false) [],
   .mk (pickR (X.t (o (i (i (i (i z)))))) (X.c (AV.bool true)) (X.t (i (o (o (i (o (o z)))))))) (.some (o (i (o (i (o (o z))))))) Gd.no []])
  (.cond (X.t (o (i (o (i (o (o z)))))))
  (.seq (.region [.mk (mvR (X.c (AV.bool false))) (.some (i (o z))) Gd.no []])
  .ret)
  .skip))
  (.seq (.region [.mk (ldR true 8 (X.t (o (i z)))) (.some (o (o (i (i (o (o z))))))) Gd.no [],
   .mk (ldR true 8 (X.t (i (i z)))) (.some (i (o (i (i (o (o z))))))) Gd.no [],
   .mk (callS Tryd.prog 23 [(X.t (o (o (i (i (o (o z))))))), (X.t (i (o (i (i (o (o z))))))), (X.c (AV.int .i64 9))]) (.some (o (i (i (i (o (o z))))))) Gd.no [],
   .mk (mvR (X.t (o (i (i (i (o (o z)))))))) (.some (i (i (o (i (o (o z))))))) Gd.no [],
   .mk (extR (X.t (i (i (o (i (o (o z))))))) 0) (.some (i (i (i (i (o (o z))))))) Gd.no [],
   .mk (extR (X.t (i (i (o (i (o (o z))))))) 1) (.some (o (o (o (o (i (o z))))))) Gd.no [],
   .mk (fun _ H => newC false [(AV.int .i64 0), (AV.int .i64 0), (AV.str []), (AV.str []), (AV.bool false), AV.nils, AV.nils, AV.nils] H) (.some (i (o (o z)))) Gd.no [],
   .mk (stR 8 (X.t (i (o (o z)))) (X.t (i (i (i (i (o (o z)))))))) .none Gd.no [],
   .mk (mvR (X.t (o (o (o (o (i (o z)))))))) (.some (o (i (o z)))) Gd.no []])
  (.seq (.region [.mk (mvR (X.t (o (i (o z))))) (.some (i (o (o (o (i (o z))))))) Gd.no [],
   .mk (binR Tryd.prog EK.iface .none true BinOp.eql (X.t (i (o (o (o (i (o z))))))) (X.c AV.nili)) (.some (o (i (o (o (i (o z))))))) Gd.no [],
   .mk (mvR (X.t (o (i (o (o (i (o z)))))))) (.some (i (i (o (o (i (o z))))))) Gd.no [],
   .mk (ldR true 8 (X.t (i (o (o z))))) (.some (o (o (i (o (i (o z))))))) (Gd.on (i (i (o (o (i (o z)))))) true) [],
   .mk (callS Tryd.prog 20 [(X.t (o (o (i (o (i (o z)))))))]) (.some (i (o (i (o (i (o z))))))) (Gd.on (i (i (o (o (i (o z)))))) true) [],
   .mk (pickR (X.t (i (i (o (o (i (o z))))))) (X.t (i (o (i (o (i (o z))))))) (X.c (AV.bool false))) (.some (o (i (i (o (i (o z))))))) Gd.no [],
   .mk (mvR (X.t (o (i (i (o (i (o z)))))))) (.some (i (i (i (o (i (o z))))))) Gd.no [],
   .mk (faR 5 (X.t (i (o (o z))))) (.some (o (o (o (i (i (o z))))))) (Gd.on (i (i (i (o (i (o z)))))) true) [],
   .mk (ldR false 1 (X.t (o (o (o (i (i (o z)))))))) (.some (i (o (o (i (i (o z))))))) (Gd.on (i (i (i (o (i (o z)))))) true) [],
   .mk (faR 5 (X.t (i z))) (.some (o (i (o (i (i (o z))))))) (Gd.on (i (i (i (o (i (o z)))))) true) [],
   .mk (ldR false 1 (X.t (o (i (o (i (i (o z)))))))) (.some (i (i (o (i (i (o z))))))) (Gd.on (i (i (i (o (i (o z)))))) true) [],
   .mk (callS Tryd.prog 24 [(X.t (i (o (o (i (i (o z))))))), (X.t (i (i (o (i (i (o z)))))))]) (.some (o (o (i (i (i (o z))))))) (Gd.on (i (i (i (o (i (o z)))))) true) [],
   .mk (pickR (X.t (i (i (i (o (i (o z))))))) (X.t (o (o (i (i (i (o z))))))) (X.c (AV.bool false))) (.some (i (o (i (i (i (o z))))))) Gd.no [],
   .mk (mvR (X.t (i (o (i (i (i (o z)))))))) (.some (o (i (i (i (i (o z))))))) Gd.no [],
   .mk (faR 7 (X.t (i (o (o z))))) (.some (i (i (i (i (i (o z))))))) (Gd.on (o (i (i (i (i (o z)))))) true) [],
   .mk (ldR false 1 (X.t (i (i (i (i (i (o z)))))))) (.some (o (o (o (o (o (i z))))))) (Gd.on (o (i (i (i (i (o z)))))) true) [],
   .mk (faR 7 (X.t (i z))) (.some (i (o (o (o (o (i z))))))) (Gd.on (o (i (i (i (i (o z)))))) true) [],
   .mk (ldR false 1 (X.t (i (o (o (o (o (i z)))))))) (.some (o (i (o (o (o (i z))))))) (Gd.on (o (i (i (i (i (o z)))))) true) [],
   .mk (callS Tryd.prog 25 [(X.t (o (o (o (o (o (i z))))))), (X.t (o (i (o (o (o (i z)))))))]) (.some (i (i (o (o (o (i z))))))) (Gd.on (o (i (i (i (i (o z)))))) true) [],
   .mk (pickR (X.t (o (i (i (i (i (o z))))))) (X.t (i (i (o (o (o (i z))))))) (X.c (AV.bool false))) (.some (o (o (i (o (o (i z))))))) Gd.no [],
   .mk (mvR (X.t (o (o (i (o (o (i z)))))))) (.some (i (o (i (o (o (i z))))))) Gd.no [],
   .mk (faR 7 (X.t (o (i z)))) (.some (o (i (i (o (o (i z))))))) (Gd.on (i (o (i (o (o (i z)))))) true) [],
   .mk (ldR false 1 (X.t (o (i (i (o (o (i z)))))))) (.some (i (i (i (o (o (i z))))))) (Gd.on (i (o (i (o (o (i z)))))) true) [],
   .mk (faR 7 (X.t (i z))) (.some (o (o (o (i (o (i z))))))) (Gd.on (i (o (i (o (o (i z)))))) true) [],
   .mk (ldR false 1 (X.t (o (o (o (i (o (i z)))))))) (.some (i (o (o (i (o (i z))))))) (Gd.on (i (o (i (o (o (i z)))))) true) [],
   .mk (callS Tryd.prog 25 [(X.t (i (i (i (o (o (i z))))))), (X.t (i (o (o (i (o (i z)))))))]) (.some (o (i (o (i (o (i z))))))) (Gd.on (i (o (i (o (o (i z)))))) true) [],
   .mk (pickR (X.t (i (o (i (o (o (i z))))))) (X.t (o (i (o (i (o (i z))))))) (X.c (AV.bool false))) (.some (i (i (o (i (o (i z))))))) Gd.no [],
   .mk (mvR (X.t (i (i (o (i (o (i z)))))))) (.some (o (o (i (i (o (i z))))))) Gd.no [],
   .mk (faR 6 (X.t (i (o (o z))))) (.some (i (o (i (i (o (i z))))))) (Gd.on (o (o (i (i (o (i z)))))) true) [],
   .mk (ldR false 1 (X.t (i (o (i (i (o (i z)))))))) (.some (o (i (i (i (o (i z))))))) (Gd.on (o (o (i (i (o (i z)))))) true) [],
   .mk (lenR LnK.slice (X.t (o (i (i (i (o (i z)))))))) (.some (i (i (i (i (o (i z))))))) (Gd.on (o (o (i (i (o (i z)))))) true) [],
   .mk (faR 6 (X.t (i z))) (.some (o (o (o (o (i (i z))))))) (Gd.on (o (o (i (i (o (i z)))))) true) [],
   .mk (ldR false 1 (X.t (o (o (o (o (i (i z)))))))) (.some (i (o (o (o (i (i z))))))) (Gd.on (o (o (i (i (o (i z)))))) true) [],
   .mk (lenR LnK.slice (X.t (i (o (o (o (i (i z)))))))) (.some (o (i (o (o (i (i z))))))) (Gd.on (o (o (i (i (o (i z)))))) true) [],
   .mk (binR Tryd.prog EK.no .none false BinOp.eql (X.t (i (i (i (i (o (i z))))))) (X.t (o (i (o (o (i (i z)))))))) (.some (i (i (o (o (i (i z))))))) (Gd.on (o (o (i (i (o (i z)))))) true) [],
   .mk (pickR (X.t (o (o (i (i (o (i z))))))) (X.t (i (i (o (o (i (i z))))))) (X.c (AV.bool false))) (.some (o (o (i (o (i (i z))))))) Gd.no [],
   .mk (mvR (X.t (o (o (i (o (i (i z)))))))) (.some (i (o (i (o (i (i z))))))) Gd.no [],
   .mk (faR 2 (X.t (i (o (o z))))) (.some (o (i (i (o (i (i z))))))) (Gd.on (i (o (i (o (i (i z)))))) true) [],
   .mk (ldR true 2 (X.t (o (i (i (o (i (i z)))))))) (.some (i (i (i (o (i (i z))))))) (Gd.on (i (o (i (o (i (i z)))))) true) [],
   .mk (faR 2 (X.t (i z))) (.some (o (o (o (i (i (i z))))))) (Gd.on (i (o (i (o (i (i z)))))) true) [],
   .mk (ldR true 2 (X.t (o (o (o (i (i (i z)))))))) (.some (i (o (o (i (i (i z))))))) (Gd.on (i (o (i (o (i (i z)))))) true) [],
   .mk (binR Tryd.prog EK.no (.some [LK.str, LK.str]) false BinOp.eql (X.t (i (i (i (o (i (i z))))))) (X.t (i (o (o (i (i (i z)))))))) (.some (o (i (o (i (i (i z))))))) (Gd.on (i (o (i (o (i (i z)))))) true) [],
   .mk (pickR (X.t (i (o (i (o (i (i z))))))) (X.t (o (i (o (i (i (i z))))))) (X.c (AV.bool false))) (.some (i (i (o (i (i (i z))))))) Gd.no [],
   .mk (mvR (X.t (i (i (o (i (i (i z)))))))) (.some (o (o (i (i (i (i z))))))) Gd.no [],
   .mk (faR 6 (X.t (i (o (o z))))) (.some (i (o (i (i (i (i z))))))) (Gd.on (o (o (i (i (i (i z)))))) true) [],
   .mk (ldR false 1 (X.t (i (o (i (i (i (i z)))))))) (.some (o (i (i (i (i (i z))))))) (Gd.on (o (o (i (i (i (i z)))))) true) [],
   .mk (faR 5 (X.t (i z))) (.some (i (i (i (i (i (i z))))))) (Gd.on (o (o (i (i (i (i z)))))) true) [],
   .mk (ldR false 1 (X.t (i (i (i (i (i (i z)))))))) (.some (o (o (o (o (o (o (o z)))))))) (Gd.on (o (o (i (i (i (i z)))))) true) [],
   .mk (callS Tryd.prog 26 [(X.t (o (i (i (i (i (i z))))))), (X.t (o (o (o (o (o (o (o z))))))))]) (.some (i (o (o (o (o (o (o z)))))))) (Gd.on (o (o (i (i (i (i z)))))) true) [],
   .mk (pickR (X.t (o (o (i (i (i (i z))))))) (X.t (i (o (o (o (o (o (o z)))))))) (X.c (AV.bool false))) (.some (o (i (o (o (o (o (o z)))))))) Gd.no [],
   .mk (mvR (X.t (o (i (o (o (o (o (o z))))))))) (.some (i (o z))) Gd.no []])
  .ret))))))))
theorem C6ok : (match Tryd.f6.body with | some c => comp Tryd.prog 130 c | none => none) = some C6 := by kernel_rfl
@[go_sem] theorem call6 (args : List AV) (H : Heap) : callC Tryd.prog 6 args H = .call 6 args := callC_ok (by kernel_rfl) args H
theorem R6ok : resKs Tryd.prog Tryd.f6.results.toList = some [(RK.tmp (i (o z)))] := by kernel_rfl

/- 7: estuary/estuarylaw17.CutKeys -/
noncomputable def C7L0 : CC :=
  (.seq (.seq (.region [.mk (mvR (X.t (o (o (o (i z)))))) (.some (i (o (i (i (i (i z))))))) Gd.no [],
   .mk (mvR (X.t (o (o (i (o z)))))) (.some (o (i (i (i (i (i z))))))) Gd.no [],
   .mk (lenR LnK.slice (X.t (o (i (i (i (i (i z)))))))) (.some (i (i (i (i (i (i z))))))) Gd.no [],
   .mk (binR Tryd.prog EK.no .none false BinOp.lss (X.t (i (o (i (i (i (i z))))))) (X.t (i (i (i (i (i (i z)))))))) (.some (o (o (o (o (o (o (o z)))))))) Gd.no []])
  (.cond (X.t (o (o (o (o (o (o (o z))))))))
  .skip
  (.exit 0)))
  (.seq (.block 1 (.seq (.regionD [.mk (keepH (mvR (X.t (o (o (o (i z))))))) (.some (o (o (o (i (o (o (o z)))))))) Gd.no [],
   .mk (keepH (mvR (X.t (o (i (i (o z))))))) (.some (i (i (i (o (o (o (o z)))))))) Gd.no [],
   .mk (keepH (iaS 4 (X.t (i (i (i (o (o (o (o z)))))))) (X.t (o (o (o (i (o (o (o z)))))))))) (.some (i (o (o (i (o (o (o z)))))))) Gd.no [],
   .mk (keepH (ldR true 4 (X.t (i (o (o (i (o (o (o z)))))))))) (.some (o (i (o (i (o (o (o z)))))))) Gd.no [],
   .mk (keepH (mvR (X.t (o (o (o (i z))))))) (.some (o (o (i (o (o (o (o z)))))))) Gd.no [],
   .mk (keepH (mvR (X.t (o (o (i (o z))))))) (.some (i (i (o (o (o (o (o z)))))))) Gd.no [],
   .mk (keepH (iaS 4 (X.t (i (i (o (o (o (o (o z)))))))) (X.t (o (o (i (o (o (o (o z)))))))))) (.some (i (o (i (o (o (o (o z)))))))) Gd.no [],
   .mk (keepH (ldR true 4 (X.t (i (o (i (o (o (o (o z)))))))))) (.some (o (i (i (o (o (o (o z)))))))) Gd.no [],
   .mk (keepH (binR Tryd.prog EK.no (.some [LK.str, LK.int, LK.str, LK.bool]) false BinOp.neq (X.t (o (i (i (o (o (o (o z)))))))) (X.t (o (i (o (i (o (o (o z)))))))))) (.some (i (i (o (i (o (o (o z)))))))) Gd.no []])
  (.cond (X.t (i (i (o (i (o (o (o z))))))))
  (.seq (.region [.mk (mvR (X.c (AV.bool false))) (.some (i (o (o z)))) Gd.no []])
  .ret)
  .skip)))
  (.region [.mk (mvR (X.t (o (o (o (i z)))))) (.some (i (o (o (o (o (o (o z)))))))) Gd.no [],
   .mk (binR Tryd.prog EK.no .none true BinOp.add (X.t (i (o (o (o (o (o (o z)))))))) (X.c (AV.int .i64 1))) (.some (o (i (o (o (o (o (o z)))))))) Gd.no [],
   .mk (mvR (X.t (o (i (o (o (o (o (o z))))))))) (.some (o (o (o (i z))))) Gd.no []])))
noncomputable def C7 : CC :=
  (.seq (.region [.mk (boxR false (X.t z)) (.some (i (o z))) Gd.no [],
   .mk (mvR (X.c (AV.bool false))) (.some (i (o (o z)))) Gd.no []])
  (.seq (.seq (.region [.mk (callS Tryd.prog 18 []) (.some (i (o (o (i z))))) Gd.no [],
   .mk (unR UnOp.not (X.t (i (o (o (i z)))))) (.some (o (i (o (i z))))) Gd.no []])
  (.cond (X.t (o (i (o (i z)))))
  (.seq (.region [.mk (mvR (X.c (AV.bool false))) (.some (i (o (o z)))) Gd.no []])
  .ret)
  .skip))
  (.seq (.seq (.region [.mk (ldR true 8 (X.t (i (o z)))) (.some (i (i (o (i z))))) Gd.no [],
   .mk (callS Tryd.prog 19 [(X.t (i (i (o (i z)))))]) (.some (o (o (i (i z))))) Gd.no [],
   .mk (unR UnOp.not (X.t (o (o (i (i z)))))) (.some (i (o (i (i z))))) Gd.no [],
   .mk (mvR (X.t (i (o (i (i z)))))) (.some (o (i (i (i z))))) Gd.no [],
   .mk (ldR true 8 (X.t (i (o z)))) (.some (i (i (i (i z))))) (Gd.on (o (i (i (i z)))) false) [],
   .mk (callS Tryd.prog 20 [(X.t (i (i (i (i z)))))]) (.some (o (o (o (o (o z)))))) (Gd.on (o (i (i (i z)))) false) [],
   .mk (unR UnOp.not (X.t (o (o (o (o (o z))))))) (.some (i (o (o (o (o z)))))) (Gd.on (o (i (i (i z)))) false) [],
   .mk (pickR (X.t (o (i (i (i z))))) (X.c (AV.bool true)) (X.t (i (o (o (o (o z))))))) (.some (o (i (o (o (o z)))))) Gd.no [],
   .mk (mvR (X.t (o (i (o (o (o z))))))) (.some (i (i (o (o (o z)))))) Gd.no [],
   .mk (faR 4 (X.t (i (o z)))) (.some (o (o (i (o (o z)))))) (Gd.on (i (i (o (o (o z))))) false) [],
   .mk (ldR false 1 (X.t (o (o (i (o (o z))))))) (.some (i (o (i (o (o z)))))) (Gd.on (i (i (o (o (o z))))) false) [],
   .mk (pickR (X.t (i (i (o (o (o z)))))) (X.c (AV.bool true)) (X.t (i (o (i (o (o z))))))) (.some (o (i (i (o (o z)))))) Gd.no [],
   .mk (mvR (X.t (o (i (i (o (o z))))))) (.some (i (i (i (o (o z)))))) Gd.no [],
   .mk (mvR (X.t (o z))) (.some (o (o (o (i (o z)))))) (Gd.on (i (i (i (o (o z))))) false) [],
   .mk (lenR LnK.str (X.t (o (o (o (i (o z))))))) (.some (i (o (o (i (o z)))))) (Gd.on (i (i (i (o (o z))))) false) [],
   .mk (binR Tryd.prog EK.no .none true BinOp.gtr (X.t (i (o (o (i (o z)))))) (X.c (AV.int .i64 20))) (.some (o (i (o (i (o z)))))) (Gd.on (i (i (i (o (o z))))) false) [],
   .mk (pickR (X.t (i (i (i (o (o z)))))) (X.c (AV.bool true)) (X.t (o (i (o (i (o z))))))) (.some (i (i (o (i (o z)))))) Gd.no [],
   .mk (mvR (X.t (i (i (o (i (o z))))))) (.some (o (o (i (i (o z)))))) Gd.no [],
   .mk (faR 2 (X.t (i (o z)))) (.some (i (o (i (i (o z)))))) (Gd.on (o (o (i (i (o z))))) false) [],
   .mk (ldR true 2 (X.t (i (o (i (i (o z))))))) (.some (o (i (i (i (o z)))))) (Gd.on (o (o (i (i (o z))))) false) [],
   .mk (mvR (X.t (i z))) (.some (i (i (i (i (o z)))))) (Gd.on (o (o (i (i (o z))))) false) [],
   .mk (callS Tryd.prog 27 [(X.t (o (i (i (i (o z)))))), (X.t (i (i (i (i (o z))))))]) (.some (o (o (o (o (i z)))))) (Gd.on (o (o (i (i (o z))))) false) [],
   .mk (unR UnOp.not (X.t (o (o (o (o (i z))))))) (.some (i (o (o (o (i z)))))) (Gd.on (o (o (i (i (o z))))) false) [],
   .mk (pickR (X.t (o (o (i (i (o z)))))) (X.c (AV.bool true)) (X.t (i (o (o (o (i z))))))) (.some (o (i (o (o (i z)))))) Gd.no []])
  (.cond (X.t (o (i (o (o (i z))))))
  (.seq (.region [.mk (mvR (X.c (AV.bool true))) (.some (i (o (o z)))) Gd.no []])
  .ret)
  .skip))
  (.seq (.region [.mk (ldR true 8 (X.t (i (o z)))) (.some (o (o (i (o (i z)))))) Gd.no [],
   .mk (mvR (X.t (o z))) (.some (i (o (i (o (i z)))))) Gd.no [],
   .mk (callS Tryd.prog 21 [(X.t (o (o (i (o (i z)))))), (X.t (i (o (i (o (i z)))))), (X.c (AV.int .i64 5)), (X.c (AV.int .i64 6))]) (.some (o (i (i (o (i z)))))) Gd.no [],
   .mk (mvR (X.t (o (i (i (o (i z))))))) (.some (i (i (o (o (i z)))))) Gd.no [],
   .mk (extR (X.t (i (i (o (o (i z)))))) 0) (.some (i (i (i (o (i z)))))) Gd.no [],
   .mk (extR (X.t (i (i (o (o (i z)))))) 1) (.some (o (o (o (i (i z)))))) Gd.no [],
   .mk (extR (X.t (i (i (o (o (i z)))))) 2) (.some (i (o (o (i (i z)))))) Gd.no [],
   .mk (fun _ H => newC false [(AV.int .i64 0), (AV.int .i64 0), (AV.str []), (AV.str []), (AV.bool false), AV.nils, AV.nils, AV.nils] H) (.some (o (i (o z)))) Gd.no [],
   .mk (fun _ H => newC false [(AV.int .i64 0), (AV.int .i64 0), (AV.str []), (AV.str []), (AV.bool false), AV.nils, AV.nils, AV.nils] H) (.some (i (i (o z)))) Gd.no [],
   .mk (stR 8 (X.t (o (i (o z)))) (X.t (i (i (i (o (i z))))))) .none Gd.no [],
   .mk (stR 8 (X.t (i (i (o z)))) (X.t (o (o (o (i (i z))))))) .none Gd.no [],
   .mk (mvR (X.t (i (o (o (i (i z))))))) (.some (o (o (i z)))) Gd.no []])
  (.seq (.seq (.region [.mk (mvR (X.t (o (o (i z))))) (.some (o (i (o (i (i z)))))) Gd.no [],
   .mk (binR Tryd.prog EK.iface .none true BinOp.neq (X.t (o (i (o (i (i z)))))) (X.c AV.nili)) (.some (i (i (o (i (i z)))))) Gd.no []])
  (.cond (X.t (i (i (o (i (i z))))))
  (.seq (.region [.mk (mvR (X.c (AV.bool true))) (.some (i (o (o z)))) Gd.no []])
  .ret)
  .skip))
  (.seq (.region [.mk (ldR true 8 (X.t (o (i (o z))))) (.some (o (o (i (i (i z)))))) Gd.no [],
   .mk (fun _ H => newC false [(AV.int .i64 0), (AV.int .i64 0), (AV.str []), (AV.str []), (AV.bool false), AV.nils, AV.nils, AV.nils] H) (.some (i (o (i z)))) Gd.no [],
   .mk (stR 8 (X.t (i (o (i z)))) (X.t (o (o (i (i (i z))))))) .none Gd.no []])
  (.seq (.seq (.region [.mk (mvR (X.t (i z))) (.some (i (o (i (i (i z)))))) Gd.no [],
   .mk (mvR (X.t (o z))) (.some (o (i (i (i (i z)))))) Gd.no [],
   .mk (binR Tryd.prog EK.no .none false BinOp.geq (X.t (i (o (i (i (i z)))))) (X.t (o (i (i (i (i z))))))) (.some (i (i (i (i (i z)))))) Gd.no []])
  (.cond (X.t (i (i (i (i (i z))))))
  (.region [.mk (ldR true 8 (X.t (i (i (o z))))) (.some (o (o (o (o (o (o z))))))) Gd.no [],
   .mk (stR 8 (X.t (i (o (i z)))) (X.t (o (o (o (o (o (o z)))))))) .none Gd.no []])
  .skip))
  (.seq (.region [.mk (faR 5 (X.t (i (o z)))) (.some (o (i (o (o (o (o z))))))) Gd.no [],
   .mk (ldR false 1 (X.t (o (i (o (o (o (o z)))))))) (.some (i (i (o (o (o (o z))))))) Gd.no [],
   .mk (mvR (X.t (i z))) (.some (o (o (i (o (o (o z))))))) Gd.no [],
   .mk (callS Tryd.prog 28 [(X.t (i (i (o (o (o (o z))))))), (X.t (o (o (i (o (o (o z)))))))]) (.some (i (o (i (o (o (o z))))))) Gd.no [],
   .mk (mvR (X.t (i (o (i (o (o (o z)))))))) (.some (i (o (o (o (o (o z))))))) Gd.no [],
   .mk (extR (X.t (i (o (o (o (o (o z))))))) 0) (.some (o (i (i (o (o (o z))))))) Gd.no [],
   .mk (extR (X.t (i (o (o (o (o (o z))))))) 1) (.some (i (i (i (o (o (o z))))))) Gd.no [],
   .mk (fun _ H => newC false [(AV.str []), (AV.str []), (AV.int .i64 0), (AV.bool false), (AV.int .i64 0)] H) (.some (o (i (i z)))) Gd.no [],
   .mk (stR 5 (X.t (o (i (i z)))) (X.t (o (i (i (o (o (o z)))))))) .none Gd.no [],
   .mk (mvR (X.t (i (i (i (o (o (o z)))))))) (.some (i (i (i z)))) Gd.no []])
  (.seq (.region [.mk (faR 5 (X.t (i (o (i z))))) (.some (i (o (o (i (o (o z))))))) Gd.no [],
   .mk (ldR false 1 (X.t (i (o (o (i (o (o z)))))))) (.some (o (i (o (i (o (o z))))))) Gd.no [],
   .mk (mvR (X.t (i z))) (.some (i (i (o (i (o (o z))))))) Gd.no [],
   .mk (callS Tryd.prog 28 [(X.t (o (i (o (i (o (o z))))))), (X.t (i (i (o (i (o (o z)))))))]) (.some (o (o (i (i (o (o z))))))) Gd.no [],
   .mk (mvR (X.t (o (o (i (i (o (o z)))))))) (.some (o (o (o (i (o (o z))))))) Gd.no [],
   .mk (extR (X.t (o (o (o (i (o (o z))))))) 0) (.some (i (o (i (i (o (o z))))))) Gd.no [],
   .mk (extR (X.t (o (o (o (i (o (o z))))))) 1) (.some (o (i (i (i (o (o z))))))) Gd.no [],
   .mk (fun _ H => newC false [(AV.str []), (AV.str []), (AV.int .i64 0), (AV.bool false), (AV.int .i64 0)] H) (.some (o (o (o (o z))))) Gd.no [],
   .mk (stR 5 (X.t (o (o (o (o z))))) (X.t (i (o (i (i (o (o z)))))))) .none Gd.no [],
   .mk (mvR (X.t (o (i (i (i (o (o z)))))))) (.some (i (o (o (o z))))) Gd.no []])
  (.seq (.region [.mk (mvR (X.t (i z))) (.some (i (i (i (i (o (o z))))))) Gd.no [],
   .mk (mvR (X.t (o (o z)))) (.some (o (o (o (o (i (o z))))))) Gd.no [],
   .mk (binR Tryd.prog EK.no .none true BinOp.rem (X.t (o (o (o (o (i (o z))))))) (X.c (AV.int IntKind.u8 30))) (.some (i (o (o (o (i (o z))))))) Gd.no [],
   .mk (convR (Cv.int .i64) (X.t (i (o (o (o (i (o z)))))))) (.some (o (i (o (o (i (o z))))))) Gd.no [],
   .mk (buildR [(AV.str []), (AV.int .i64 0)] [(0, (1, (X.t (i (i (i (i (o (o z))))))))), (1, (1, (X.t (o (i (o (o (i (o z)))))))))]) (.some (i (i (o (o (i (o z))))))) Gd.no [],
   .mk (bslR 2 1 [(AV.str []), (AV.int .i64 0)] [(0, (X.t (i (i (o (o (i (o z))))))))]) (.some (o (o (i (o (i (o z))))))) Gd.no [],
   .mk (mvR (X.t (o (o (i (o (i (o z)))))))) (.some (o (i (o (o z))))) Gd.no []])
  (.seq (.region [.mk (mvR (X.t (i z))) (.some (i (o (i (o (i (o z))))))) Gd.no [],
   .mk (mvR (X.t (i z))) (.some (o (i (i (o (i (o z))))))) Gd.no [],
   .mk (binR Tryd.prog EK.no .none true BinOp.add (X.t (o (i (i (o (i (o z))))))) (X.c (AV.str [0]))) (.some (i (i (i (o (i (o z))))))) Gd.no [],
   .mk (buildR [(AV.str []), (AV.str [])] [(0, (1, (X.t (i (o (i (o (i (o z))))))))), (1, (1, (X.t (i (i (i (o (i (o z)))))))))]) (.some (o (o (o (i (i (o z))))))) Gd.no [],
   .mk (fun _ H => newC false [(AV.str []), (AV.str [])] H) (.some (i (i (o (o z))))) Gd.no [],
   .mk (stR 2 (X.t (i (i (o (o z))))) (X.t (o (o (o (i (i (o z)))))))) .none Gd.no []])
  (.seq (.seq (.region [.mk (faR 1 (X.t (i (i (o (o z)))))) (.some (i (o (o (i (i (o z))))))) Gd.no [],
   .mk (ldR false 1 (X.t (i (o (o (i (i (o z)))))))) (.some (o (i (o (i (i (o z))))))) Gd.no [],
   .mk (lenR LnK.str (X.t (o (i (o (i (i (o z)))))))) (.some (i (i (o (i (i (o z))))))) Gd.no [],
   .mk (binR Tryd.prog EK.no .none true BinOp.gtr (X.t (i (i (o (i (i (o z))))))) (X.c (AV.int .i64 8))) (.some (o (o (i (i (i (o z))))))) Gd.no []])
  (.cond (X.t (o (o (i (i (i (o z)))))))
  (.seq (.region [.mk (ldR true 5 (X.t (o (i (i z))))) (.some (i (o (i (i (i (o z))))))) Gd.no [],
   .mk (ldR true 5 (X.t (o (o (o (o z)))))) (.some (o (i (i (i (i (o z))))))) Gd.no [],
   .mk (binR Tryd.prog EK.no (.some [LK.str, LK.str, LK.int, LK.bool, LK.int]) false BinOp.eql (X.t (i (o (i (i (i (o z))))))) (X.t (o (i (i (i (i (o z)))))))) (.some (i (i (i (i (i (o z))))))) Gd.no [],
   .mk (mvR (X.t (i (i (i (i (i (o z)))))))) (.some (o (o (o (o (o (i z))))))) Gd.no [],
   .mk (mvR (X.t (i (i (i z))))) (.some (i (o (o (o (o (i z))))))) (Gd.on (o (o (o (o (o (i z)))))) true) [],
   .mk (mvR (X.t (i (o (o (o z)))))) (.some (o (i (o (o (o (i z))))))) (Gd.on (o (o (o (o (o (i z)))))) true) [],
   .mk (binR Tryd.prog EK.bool .none false BinOp.eql (X.t (i (o (o (o (o (i z))))))) (X.t (o (i (o (o (o (i z)))))))) (.some (i (i (o (o (o (i z))))))) (Gd.on (o (o (o (o (o (i z)))))) true) [],
   .mk (pickR (X.t (o (o (o (o (o (i z))))))) (X.t (i (i (o (o (o (i z))))))) (X.c (AV.bool false))) (.some (o (o (i (o (o (i z))))))) Gd.no [],
   .mk (mvR (X.t (o (o (i (o (o (i z)))))))) (.some (i (o (o z)))) Gd.no []])
  .ret)
  .skip))
  (.seq (.region [.mk (ldR true 8 (X.t (i (o z)))) (.some (o (i (i (o (o (i z))))))) Gd.no [],
   .mk (ldR true 2 (X.t (i (i (o (o z)))))) (.some (i (i (i (o (o (i z))))))) Gd.no [],
   .mk (mvR (X.t (o (i (o (o z)))))) (.some (o (o (o (i (o (i z))))))) Gd.no [],
   .mk (callS Tryd.prog 29 [(X.t (o (i (i (o (o (i z))))))), (X.t (i (i (i (o (o (i z))))))), (X.t (o (o (o (i (o (i z))))))), (X.c (AV.int .i64 8))]) (.some (i (o (o (i (o (i z))))))) Gd.no [],
   .mk (mvR (X.t (i (o (o (i (o (i z)))))))) (.some (i (o (i (o (o (i z))))))) Gd.no [],
   .mk (extR (X.t (i (o (i (o (o (i z))))))) 0) (.some (o (i (o (i (o (i z))))))) Gd.no [],
   .mk (extR (X.t (i (o (i (o (o (i z))))))) 1) (.some (i (i (o (i (o (i z))))))) Gd.no [],
   .mk (mvR (X.t (o (i (o (i (o (i z)))))))) (.some (o (o (i (o z))))) Gd.no [],
   .mk (mvR (X.t (i (i (o (i (o (i z)))))))) (.some (i (o (i (o z))))) Gd.no []])
  (.seq (.region [.mk (ldR true 8 (X.t (i (o (i z))))) (.some (i (o (i (i (o (i z))))))) Gd.no [],
   .mk (ldR true 2 (X.t (i (i (o (o z)))))) (.some (o (i (i (i (o (i z))))))) Gd.no [],
   .mk (mvR (X.t (o (i (o (o z)))))) (.some (i (i (i (i (o (i z))))))) Gd.no [],
   .mk (callS Tryd.prog 29 [(X.t (i (o (i (i (o (i z))))))), (X.t (o (i (i (i (o (i z))))))), (X.t (i (i (i (i (o (i z))))))), (X.c (AV.int .i64 8))]) (.some (o (o (o (o (i (i z))))))) Gd.no [],
   .mk (mvR (X.t (o (o (o (o (i (i z)))))))) (.some (o (o (i (i (o (i z))))))) Gd.no [],
   .mk (extR (X.t (o (o (i (i (o (i z))))))) 0) (.some (i (o (o (o (i (i z))))))) Gd.no [],
   .mk (extR (X.t (o (o (i (i (o (i z))))))) 1) (.some (o (i (o (o (i (i z))))))) Gd.no [],
   .mk (mvR (X.t (i (o (o (o (i (i z)))))))) (.some (o (i (i (o z))))) Gd.no [],
   .mk (mvR (X.t (o (i (o (o (i (i z)))))))) (.some (i (i (i (o z))))) Gd.no []])
  (.seq (.seq (.region [.mk (mvR (X.t (o (o (i (o z)))))) (.some (i (i (o (o (i (i z))))))) Gd.no [],
   .mk (lenR LnK.slice (X.t (i (i (o (o (i (i z)))))))) (.some (o (o (i (o (i (i z))))))) Gd.no [],
   .mk (mvR (X.t (o (i (i (o z)))))) (.some (i (o (i (o (i (i z))))))) Gd.no [],
   .mk (lenR LnK.slice (X.t (i (o (i (o (i (i z)))))))) (.some (o (i (i (o (i (i z))))))) Gd.no [],
   .mk (binR Tryd.prog EK.no .none false BinOp.neq (X.t (o (o (i (o (i (i z))))))) (X.t (o (i (i (o (i (i z)))))))) (.some (i (i (i (o (i (i z))))))) Gd.no [],
   .mk (mvR (X.t (i (i (i (o (i (i z)))))))) (.some (o (o (o (i (i (i z))))))) Gd.no [],
   .mk (mvR (X.t (i (o (i (o z)))))) (.some (i (o (o (i (i (i z))))))) (Gd.on (o (o (o (i (i (i z)))))) false) [],
   .mk (mvR (X.t (i (i (i (o z)))))) (.some (o (i (o (i (i (i z))))))) (Gd.on (o (o (o (i (i (i z)))))) false) [],
   .mk (binR Tryd.prog EK.bool .none false BinOp.neq (X.t (i (o (o (i (i (i z))))))) (X.t (o (i (o (i (i (i z)))))))) (.some (i (i (o (i (i (i z))))))) (Gd.on (o (o (o (i (i (i z)))))) false) [],
   .mk (pickR (X.t (o (o (o (i (i (i z))))))) (X.c (AV.bool true)) (X.t (i (i (o (i (i (i z)))))))) (.some (o (o (i (i (i (i z))))))) Gd.no []])
  (.cond (X.t (o (o (i (i (i (i z)))))))
  (.seq (.region [.mk (mvR (X.c (AV.bool false))) (.some (i (o (o z)))) Gd.no []])
  .ret)
  .skip))
  (.seq (.seq (.region [.mk (mvR (X.c (AV.int .i64 0))) (.some (o (o (o (i z))))) Gd.no []])
  (.block 0 (.loop C7L0)))
  (.seq (.region [.mk (ldR true 5 (X.t (o (i (i z))))) (.some (o (o (i (i (o (o (o z)))))))) Gd.no [],
   .mk (ldR true 5 (X.t (o (o (o (o z)))))) (.some (i (o (i (i (o (o (o z)))))))) Gd.no [],
   .mk (binR Tryd.prog EK.no (.some [LK.str, LK.str, LK.int, LK.bool, LK.int]) false BinOp.eql (X.t (o (o (i (i (o (o (o z)))))))) (X.t (i (o (i (i (o (o (o z))))))))) (.some (o (i (i (i (o (o (o z)))))))) Gd.no [],
   .mk (mvR (X.t (o (i (i (i (o (o (o z))))))))) (.some (i (i (i (i (o (o (o z)))))))) Gd.no [],
   .mk (mvR (X.t (i (i (i z))))) (.some (o (o (o (o (i (o (o z)))))))) (Gd.on (i (i (i (i (o (o (o z))))))) true) [],
   .mk (mvR (X.t (i (o (o (o z)))))) (.some (i (o (o (o (i (o (o z)))))))) (Gd.on (i (i (i (i (o (o (o z))))))) true) [],
   .mk (binR Tryd.prog EK.bool .none false BinOp.eql (X.t (o (o (o (o (i (o (o z)))))))) (X.t (i (o (o (o (i (o (o z))))))))) (.some (o (i (o (o (i (o (o z)))))))) (Gd.on (i (i (i (i (o (o (o z))))))) true) [],
   .mk (pickR (X.t (i (i (i (i (o (o (o z)))))))) (X.t (o (i (o (o (i (o (o z)))))))) (X.c (AV.bool false))) (.some (i (i (o (o (i (o (o z)))))))) Gd.no [],
   .mk (mvR (X.t (i (i (o (o (i (o (o z))))))))) (.some (o (o (i (o (i (o (o z)))))))) Gd.no [],
   .mk (faR 2 (X.t (i (o (i z))))) (.some (i (o (i (o (i (o (o z)))))))) (Gd.on (o (o (i (o (i (o (o z))))))) true) [],
   .mk (ldR true 2 (X.t (i (o (i (o (i (o (o z))))))))) (.some (o (i (i (o (i (o (o z)))))))) (Gd.on (o (o (i (o (i (o (o z))))))) true) [],
   .mk (mvR (X.t (i z))) (.some (i (i (i (o (i (o (o z)))))))) (Gd.on (o (o (i (o (i (o (o z))))))) true) [],
   .mk (callS Tryd.prog 27 [(X.t (o (i (i (o (i (o (o z)))))))), (X.t (i (i (i (o (i (o (o z))))))))]) (.some (o (o (o (i (i (o (o z)))))))) (Gd.on (o (o (i (o (i (o (o z))))))) true) [],
   .mk (pickR (X.t (o (o (i (o (i (o (o z)))))))) (X.t (o (o (o (i (i (o (o z)))))))) (X.c (AV.bool false))) (.some (i (o (o (i (i (o (o z)))))))) Gd.no [],
   .mk (mvR (X.t (i (o (o (i (i (o (o z))))))))) (.some (i (o (o z)))) Gd.no []])
  .ret)))))))))))))))))
theorem C7ok : (match Tryd.f7.body with | some c => comp Tryd.prog 153 c | none => none) = some C7 := by kernel_rfl
@[go_sem] theorem call7 (args : List AV) (H : Heap) : callC Tryd.prog 7 args H = .call 7 args := callC_ok (by kernel_rfl) args H
theorem R7ok : resKs Tryd.prog Tryd.f7.results.toList = some [(RK.tmp (i (o (o z))))] := by kernel_rfl

/- 14: estuary/estuaryref1.Meet -/
noncomputable def C14 : CC :=
  (.seq (.region [.mk (boxR false (X.t z)) (.some (i z)) Gd.no [],
   .mk (boxR false (X.t (o z))) (.some (o (o z))) Gd.no [],
   .mk (fun _ H => newC false [(AV.str []), (AV.str [])] H) (.some (i (o z))) Gd.no [],
   .mk (mvR (X.c (AV.bool false))) (.some (o (i z))) Gd.no []])
  (.seq (.regionD [.mk (addH (fun _ H => newC false [(AV.str []), (AV.str [])] H)) (.some (i (i z))) Gd.no [],
   .mk (keepH (faR 1 (X.t (o (o z))))) (.some (i (i (i z)))) Gd.no [],
   .mk (keepH (ldR false 1 (X.t (i (i (i z)))))) (.some (o (o (o (o z))))) Gd.no [],
   .mk (keepH (faR 1 (X.t (i z)))) (.some (i (o (i z)))) Gd.no [],
   .mk (keepH (ldR false 1 (X.t (i (o (i z)))))) (.some (o (i (i z)))) Gd.no [],
   .mk (keepH (faR 0 (X.t (o (o z))))) (.some (o (i (o z)))) Gd.no [],
   .mk (keepH (ldR false 1 (X.t (o (i (o z)))))) (.some (i (i (o z)))) Gd.no [],
   .mk (keepH (faR 0 (X.t (i z)))) (.some (o (o (o z)))) Gd.no [],
   .mk (keepH (ldR false 1 (X.t (o (o (o z)))))) (.some (i (o (o z)))) Gd.no [],
   .mk (keepH (mmR true (X.t (i (o (o z)))) (X.t (i (i (o z)))))) (.some (o (o (i z)))) Gd.no [],
   .mk (callS Tryd.prog 39 [(X.t (o (i (i z)))), (X.t (o (o (o (o z)))))]) (.some (i (o (o (o z))))) Gd.no [.mk (mmR true (X.t (i (o (o z)))) (X.t (i (i (o z))))) (.some (o (o (i z)))) Gd.no, .mk (ldR false 1 (X.t (o (o (o z))))) (.some (i (o (o z)))) Gd.no, .mk (faR 0 (X.t (i z))) (.some (o (o (o z)))) Gd.no, .mk (ldR false 1 (X.t (o (i (o z))))) (.some (i (i (o z)))) Gd.no, .mk (faR 0 (X.t (o (o z)))) (.some (o (i (o z)))) Gd.no],
   .mk (keepH (buildR [(AV.str []), (AV.str [])] [(0, (1, (X.t (o (o (i z)))))), (1, (1, (X.t (i (o (o (o z)))))))])) (.some (o (i (o (o z))))) Gd.no [],
   .mk (stR 2 (X.t (i (i z))) (X.t (o (i (o (o z)))))) .none Gd.no []])
  (.seq (.seq (.region [.mk (ldR true 2 (X.t (i z))) (.some (i (i (o (o z))))) Gd.no [],
   .mk (callS Tryd.prog 40 [(X.t (i (i (o (o z)))))]) (.some (o (o (i (o z))))) Gd.no [],
   .mk (unR UnOp.not (X.t (o (o (i (o z)))))) (.some (i (o (i (o z))))) Gd.no [],
   .mk (mvR (X.t (i (o (i (o z)))))) (.some (o (i (i (o z))))) Gd.no [],
   .mk (ldR true 2 (X.t (o (o z)))) (.some (i (i (i (o z))))) (Gd.on (o (i (i (o z)))) false) [],
   .mk (callS Tryd.prog 40 [(X.t (i (i (i (o z)))))]) (.some (o (o (o (i z))))) (Gd.on (o (i (i (o z)))) false) [],
   .mk (unR UnOp.not (X.t (o (o (o (i z)))))) (.some (i (o (o (i z))))) (Gd.on (o (i (i (o z)))) false) [],
   .mk (pickR (X.t (o (i (i (o z))))) (X.c (AV.bool true)) (X.t (i (o (o (i z)))))) (.some (o (i (o (i z))))) Gd.no [],
   .mk (mvR (X.t (o (i (o (i z)))))) (.some (i (i (o (i z))))) Gd.no [],
   .mk (ldR true 2 (X.t (i (i z)))) (.some (o (o (i (i z))))) (Gd.on (i (i (o (i z)))) false) [],
   .mk (callS Tryd.prog 40 [(X.t (o (o (i (i z)))))]) (.some (i (o (i (i z))))) (Gd.on (i (i (o (i z)))) false) [],
   .mk (unR UnOp.not (X.t (i (o (i (i z)))))) (.some (o (i (i (i z))))) (Gd.on (i (i (o (i z)))) false) [],
   .mk (pickR (X.t (i (i (o (i z))))) (X.c (AV.bool true)) (X.t (o (i (i (i z)))))) (.some (i (i (i (i z))))) Gd.no []])
  (.cond (X.t (i (i (i (i z)))))
  (.seq (.region [.mk (buildR [(AV.str []), (AV.str [])] []) (.some (o (o (o (o (o z)))))) Gd.no [],
   .mk (stR 2 (X.t (i (o z))) (X.t (o (o (o (o (o z))))))) .none Gd.no [],
   .mk (mvR (X.c (AV.bool false))) (.some (o (i z))) Gd.no []])
  .ret)
  .skip))
  (.seq (.region [.mk (ldR true 2 (X.t (i (i z)))) (.some (i (o (o (o (o z)))))) Gd.no [],
   .mk (stR 2 (X.t (i (o z))) (X.t (i (o (o (o (o z))))))) .none Gd.no [],
   .mk (mvR (X.c (AV.bool true))) (.some (o (i z))) Gd.no []])
  .ret))))
theorem C14ok : (match Tryd.f14.body with | some c => comp Tryd.prog 33 c | none => none) = some C14 := by kernel_rfl
@[go_sem] theorem call14 (args : List AV) (H : Heap) : callC Tryd.prog 14 args H = .call 14 args := callC_ok (by kernel_rfl) args H
theorem R14ok : resKs Tryd.prog Tryd.f14.results.toList = some [(RK.cell (i (o z)) true 2), (RK.tmp (o (i z)))] := by kernel_rfl

/- 18: estuary/estuarylaw17.known -/
noncomputable def C18 : CC :=
  (.seq (.region [.mk (mvR (X.c (AV.bool false))) (.some z) Gd.no []])
  (.seq (.region [.mk (buildR [(AV.str []), (AV.str []), (AV.int .i64 0), (AV.bool false), (AV.int .i64 0)] [(0, (1, (X.c (AV.str [97])))), (2, (1, (X.c (AV.int .i64 1))))]) (.some (i (o (i z)))) Gd.no [],
   .mk (buildR [(AV.str []), (AV.str []), (AV.int .i64 0), (AV.bool false), (AV.int .i64 0)] [(0, (1, (X.c (AV.str [109])))), (2, (1, (X.c (AV.int .i64 1)))), (4, (1, (X.c (AV.int .i64 1))))]) (.some (o (i (i z)))) Gd.no [],
   .mk (bslR 5 2 [(AV.str []), (AV.str []), (AV.int .i64 0), (AV.bool false), (AV.int .i64 0)] [(0, (X.t (i (o (i z))))), (1, (X.t (o (i (i z)))))]) (.some (i (i (i z)))) Gd.no [],
   .mk (buildR [(AV.str []), (AV.int .i64 0), (AV.str []), (AV.bool false)] [(0, (1, (X.c (AV.str [97])))), (1, (1, (X.c (AV.int .i64 1))))]) (.some (o (o (o (o z))))) Gd.no [],
   .mk (bslR 4 1 [(AV.str []), (AV.int .i64 0), (AV.str []), (AV.bool false)] [(0, (X.t (o (o (o (o z))))))]) (.some (i (o (o (o z))))) Gd.no [],
   .mk (buildR [(AV.int .i64 0), (AV.int .i64 0), (AV.str []), (AV.str []), (AV.bool false), AV.nils, AV.nils, AV.nils] [(0, (1, (X.c (AV.int .i64 1)))), (1, (1, (X.c (AV.int .i64 4)))), (5, (1, (X.t (i (i (i z)))))), (6, (1, (X.t (i (o (o (o z)))))))]) (.some (o (i (o (o z))))) Gd.no [],
   .mk (fun _ H => newC false [(AV.int .i64 0), (AV.int .i64 0), (AV.str []), (AV.str []), (AV.bool false), AV.nils, AV.nils, AV.nils] H) (.some (o z)) Gd.no [],
   .mk (stR 8 (X.t (o z)) (X.t (o (i (o (o z)))))) .none Gd.no []])
  (.seq (.region [.mk (ldR true 8 (X.t (o z))) (.some (o (o (i (o z))))) Gd.no [],
   .mk (callS Tryd.prog 21 [(X.t (o (o (i (o z))))), (X.c (AV.str [99])), (X.c (AV.int .i64 2)), (X.c (AV.int .i64 3))]) (.some (i (o (i (o z))))) Gd.no [],
   .mk (mvR (X.t (i (o (i (o z)))))) (.some (i (i (o (o z))))) Gd.no [],
   .mk (extR (X.t (i (i (o (o z))))) 0) (.some (o (i (i (o z))))) Gd.no [],
   .mk (extR (X.t (i (i (o (o z))))) 1) (.some (i (i (i (o z))))) Gd.no [],
   .mk (extR (X.t (i (i (o (o z))))) 2) (.some (o (o (o (i z))))) Gd.no [],
   .mk (fun _ H => newC false [(AV.int .i64 0), (AV.int .i64 0), (AV.str []), (AV.str []), (AV.bool false), AV.nils, AV.nils, AV.nils] H) (.some (i z)) Gd.no [],
   .mk (fun _ H => newC false [(AV.int .i64 0), (AV.int .i64 0), (AV.str []), (AV.str []), (AV.bool false), AV.nils, AV.nils, AV.nils] H) (.some (o (o z))) Gd.no [],
   .mk (stR 8 (X.t (i z)) (X.t (o (i (i (o z)))))) .none Gd.no [],
   .mk (stR 8 (X.t (o (o z))) (X.t (i (i (i (o z)))))) .none Gd.no [],
   .mk (mvR (X.t (o (o (o (i z)))))) (.some (i (o z))) Gd.no []])
  (.seq (.region [.mk (ldR true 8 (X.t (i z))) (.some (o (i (o (i z))))) Gd.no [],
   .mk (ldR true 8 (X.t (o (o z)))) (.some (i (i (o (i z))))) Gd.no [],
   .mk (callS Tryd.prog 23 [(X.t (o (i (o (i z))))), (X.t (i (i (o (i z))))), (X.c (AV.int .i64 4))]) (.some (o (o (i (i z))))) Gd.no [],
   .mk (mvR (X.t (o (o (i (i z)))))) (.some (i (o (o (i z))))) Gd.no [],
   .mk (extR (X.t (i (o (o (i z))))) 0) (.some (i (o (i (i z))))) Gd.no [],
   .mk (extR (X.t (i (o (o (i z))))) 1) (.some (o (i (i (i z))))) Gd.no [],
   .mk (fun _ H => newC false [(AV.int .i64 0), (AV.int .i64 0), (AV.str []), (AV.str []), (AV.bool false), AV.nils, AV.nils, AV.nils] H) (.some (o (i z))) Gd.no [],
   .mk (stR 8 (X.t (o (i z))) (X.t (i (o (i (i z)))))) .none Gd.no [],
   .mk (mvR (X.t (o (i (i (i z)))))) (.some (i (i z))) Gd.no []])
  (.seq (.region [.mk (ldR true 8 (X.t (o z))) (.some (o (o (o (o (o z)))))) Gd.no [],
   .mk (callS Tryd.prog 21 [(X.t (o (o (o (o (o z)))))), (X.c (AV.str [99])), (X.c (AV.int .i64 2)), (X.c (AV.int .i64 2))]) (.some (i (o (o (o (o z)))))) Gd.no [],
   .mk (mvR (X.t (i (o (o (o (o z))))))) (.some (i (i (i (i z))))) Gd.no [],
   .mk (extR (X.t (i (i (i (i z))))) 0) (.some (o (i (o (o (o z)))))) Gd.no [],
   .mk (extR (X.t (i (i (i (i z))))) 1) (.some (i (i (o (o (o z)))))) Gd.no [],
   .mk (extR (X.t (i (i (i (i z))))) 2) (.some (o (o (i (o (o z)))))) Gd.no [],
   .mk (fun _ H => newC false [(AV.int .i64 0), (AV.int .i64 0), (AV.str []), (AV.str []), (AV.bool false), AV.nils, AV.nils, AV.nils] H) (.some (o (o (o z)))) Gd.no [],
   .mk (fun _ H => newC false [(AV.int .i64 0), (AV.int .i64 0), (AV.str []), (AV.str []), (AV.bool false), AV.nils, AV.nils, AV.nils] H) (.some (i (o (o z)))) Gd.no [],
   .mk (stR 8 (X.t (o (o (o z)))) (X.t (o (i (o (o (o z))))))) .none Gd.no [],
   .mk (stR 8 (X.t (i (o (o z)))) (X.t (i (i (o (o (o z))))))) .none Gd.no [],
   .mk (mvR (X.t (o (o (i (o (o z))))))) (.some (o (i (o z)))) Gd.no []])
  (.seq (.region [.mk (ldR true 8 (X.t (o (o z)))) (.some (o (i (i (o (o z)))))) Gd.no [],
   .mk (ldR true 8 (X.t (i z))) (.some (i (i (i (o (o z)))))) Gd.no [],
   .mk (callS Tryd.prog 23 [(X.t (o (i (i (o (o z)))))), (X.t (i (i (i (o (o z)))))), (X.c (AV.int .i64 4))]) (.some (o (o (o (i (o z)))))) Gd.no [],
   .mk (mvR (X.t (o (o (o (i (o z))))))) (.some (i (o (i (o (o z)))))) Gd.no [],
   .mk (extR (X.t (i (o (i (o (o z)))))) 0) (.some (i (o (o (i (o z)))))) Gd.no [],
   .mk (extR (X.t (i (o (i (o (o z)))))) 1) (.some (o (i (o (i (o z)))))) Gd.no [],
   .mk (fun _ H => newC false [(AV.int .i64 0), (AV.int .i64 0), (AV.str []), (AV.str []), (AV.bool false), AV.nils, AV.nils, AV.nils] H) (.some (i (i (o z)))) Gd.no [],
   .mk (stR 8 (X.t (i (i (o z)))) (X.t (i (o (o (i (o z))))))) .none Gd.no [],
   .mk (mvR (X.t (o (i (o (i (o z))))))) (.some (o (o (i z)))) Gd.no []])
  (.seq (.region [.mk (mvR (X.t (i (o z)))) (.some (i (i (o (i (o z)))))) Gd.no [],
   .mk (binR Tryd.prog EK.iface .none true BinOp.eql (X.t (i (i (o (i (o z)))))) (X.c AV.nili)) (.some (o (o (i (i (o z)))))) Gd.no [],
   .mk (mvR (X.t (o (o (i (i (o z))))))) (.some (i (o (i (i (o z)))))) Gd.no [],
   .mk (faR 0 (X.t (i z))) (.some (o (i (i (i (o z)))))) (Gd.on (i (o (i (i (o z))))) true) [],
   .mk (ldR false 1 (X.t (o (i (i (i (o z))))))) (.some (i (i (i (i (o z)))))) (Gd.on (i (o (i (i (o z))))) true) [],
   .mk (binR Tryd.prog EK.no .none true BinOp.eql (X.t (i (i (i (i (o z)))))) (X.c (AV.int .i64 2))) (.some (o (o (o (o (i z)))))) (Gd.on (i (o (i (i (o z))))) true) [],
   .mk (pickR (X.t (i (o (i (i (o z)))))) (X.t (o (o (o (o (i z)))))) (X.c (AV.bool false))) (.some (i (o (o (o (i z)))))) Gd.no [],
   .mk (mvR (X.t (i (o (o (o (i z))))))) (.some (o (i (o (o (i z)))))) Gd.no [],
   .mk (faR 0 (X.t (o (o z)))) (.some (i (i (o (o (i z)))))) (Gd.on (o (i (o (o (i z))))) true) [],
   .mk (ldR false 1 (X.t (i (i (o (o (i z))))))) (.some (o (o (i (o (i z)))))) (Gd.on (o (i (o (o (i z))))) true) [],
   .mk (binR Tryd.prog EK.no .none true BinOp.eql (X.t (o (o (i (o (i z)))))) (X.c (AV.int .i64 3))) (.some (i (o (i (o (i z)))))) (Gd.on (o (i (o (o (i z))))) true) [],
   .mk (pickR (X.t (o (i (o (o (i z)))))) (X.t (i (o (i (o (i z)))))) (X.c (AV.bool false))) (.some (o (i (i (o (i z)))))) Gd.no [],
   .mk (mvR (X.t (o (i (i (o (i z))))))) (.some (i (i (i (o (i z)))))) Gd.no [],
   .mk (faR 1 (X.t (i z))) (.some (o (o (o (i (i z)))))) (Gd.on (i (i (i (o (i z))))) true) [],
   .mk (ldR false 1 (X.t (o (o (o (i (i z))))))) (.some (i (o (o (i (i z)))))) (Gd.on (i (i (i (o (i z))))) true) [],
   .mk (binR Tryd.prog EK.no .none true BinOp.eql (X.t (i (o (o (i (i z)))))) (X.c (AV.int .i64 1))) (.some (o (i (o (i (i z)))))) (Gd.on (i (i (i (o (i z))))) true) [],
   .mk (pickR (X.t (i (i (i (o (i z)))))) (X.t (o (i (o (i (i z)))))) (X.c (AV.bool false))) (.some (i (i (o (i (i z)))))) Gd.no [],
   .mk (mvR (X.t (i (i (o (i (i z))))))) (.some (o (o (i (i (i z)))))) Gd.no [],
   .mk (faR 5 (X.t (i z))) (.some (i (o (i (i (i z)))))) (Gd.on (o (o (i (i (i z))))) true) [],
   .mk (ldR false 1 (X.t (i (o (i (i (i z))))))) (.some (o (i (i (i (i z)))))) (Gd.on (o (o (i (i (i z))))) true) [],
   .mk (lenR LnK.slice (X.t (o (i (i (i (i z))))))) (.some (i (i (i (i (i z)))))) (Gd.on (o (o (i (i (i z))))) true) [],
   .mk (binR Tryd.prog EK.no .none true BinOp.eql (X.t (i (i (i (i (i z)))))) (X.c (AV.int .i64 1))) (.some (o (o (o (o (o (o z))))))) (Gd.on (o (o (i (i (i z))))) true) [],
   .mk (pickR (X.t (o (o (i (i (i z)))))) (X.t (o (o (o (o (o (o z))))))) (X.c (AV.bool false))) (.some (i (o (o (o (o (o z))))))) Gd.no [],
   .mk (mvR (X.t (i (o (o (o (o (o z)))))))) (.some (o (i (o (o (o (o z))))))) Gd.no [],
   .mk (faR 6 (X.t (i z))) (.some (i (i (o (o (o (o z))))))) (Gd.on (o (i (o (o (o (o z)))))) true) [],
   .mk (ldR false 1 (X.t (i (i (o (o (o (o z)))))))) (.some (o (o (i (o (o (o z))))))) (Gd.on (o (i (o (o (o (o z)))))) true) [],
   .mk (lenR LnK.slice (X.t (o (o (i (o (o (o z)))))))) (.some (i (o (i (o (o (o z))))))) (Gd.on (o (i (o (o (o (o z)))))) true) [],
   .mk (binR Tryd.prog EK.no .none true BinOp.eql (X.t (i (o (i (o (o (o z))))))) (X.c (AV.int .i64 1))) (.some (o (i (i (o (o (o z))))))) (Gd.on (o (i (o (o (o (o z)))))) true) [],
   .mk (pickR (X.t (o (i (o (o (o (o z))))))) (X.t (o (i (i (o (o (o z))))))) (X.c (AV.bool false))) (.some (i (i (i (o (o (o z))))))) Gd.no [],
   .mk (mvR (X.t (i (i (i (o (o (o z)))))))) (.some (o (o (o (i (o (o z))))))) Gd.no [],
   .mk (faR 6 (X.t (o (o z)))) (.some (i (o (o (i (o (o z))))))) (Gd.on (o (o (o (i (o (o z)))))) true) [],
   .mk (ldR false 1 (X.t (i (o (o (i (o (o z)))))))) (.some (o (i (o (i (o (o z))))))) (Gd.on (o (o (o (i (o (o z)))))) true) [],
   .mk (lenR LnK.slice (X.t (o (i (o (i (o (o z)))))))) (.some (i (i (o (i (o (o z))))))) (Gd.on (o (o (o (i (o (o z)))))) true) [],
   .mk (binR Tryd.prog EK.no .none true BinOp.eql (X.t (i (i (o (i (o (o z))))))) (X.c (AV.int .i64 0))) (.some (o (o (i (i (o (o z))))))) (Gd.on (o (o (o (i (o (o z)))))) true) [],
   .mk (pickR (X.t (o (o (o (i (o (o z))))))) (X.t (o (o (i (i (o (o z))))))) (X.c (AV.bool false))) (.some (i (o (i (i (o (o z))))))) Gd.no [],
   .mk (mvR (X.t (i (o (i (i (o (o z)))))))) (.some (o (i (i (i (o (o z))))))) Gd.no [],
   .mk (faR 2 (X.t (o (o z)))) (.some (i (i (i (i (o (o z))))))) (Gd.on (o (i (i (i (o (o z)))))) true) [],
   .mk (faR 0 (X.t (i (i (i (i (o (o z)))))))) (.some (o (o (o (o (i (o z))))))) (Gd.on (o (i (i (i (o (o z)))))) true) [],
   .mk (ldR false 1 (X.t (o (o (o (o (i (o z)))))))) (.some (i (o (o (o (i (o z))))))) (Gd.on (o (i (i (i (o (o z)))))) true) [],
   .mk (binR Tryd.prog EK.no .none true BinOp.eql (X.t (i (o (o (o (i (o z))))))) (X.c (AV.str [99]))) (.some (o (i (o (o (i (o z))))))) (Gd.on (o (i (i (i (o (o z)))))) true) [],
   .mk (pickR (X.t (o (i (i (i (o (o z))))))) (X.t (o (i (o (o (i (o z))))))) (X.c (AV.bool false))) (.some (i (i (o (o (i (o z))))))) Gd.no [],
   .mk (mvR (X.t (i (i (o (o (i (o z)))))))) (.some (o (o (i (o (i (o z))))))) Gd.no [],
   .mk (mvR (X.t (i (i z)))) (.some (i (o (i (o (i (o z))))))) (Gd.on (o (o (i (o (i (o z)))))) true) [],
   .mk (binR Tryd.prog EK.iface .none true BinOp.eql (X.t (i (o (i (o (i (o z))))))) (X.c AV.nili)) (.some (o (i (i (o (i (o z))))))) (Gd.on (o (o (i (o (i (o z)))))) true) [],
   .mk (pickR (X.t (o (o (i (o (i (o z))))))) (X.t (o (i (i (o (i (o z))))))) (X.c (AV.bool false))) (.some (i (i (i (o (i (o z))))))) Gd.no [],
   .mk (mvR (X.t (i (i (i (o (i (o z)))))))) (.some (o (o (o (i (i (o z))))))) Gd.no [],
   .mk (faR 0 (X.t (o (i z)))) (.some (i (o (o (i (i (o z))))))) (Gd.on (o (o (o (i (i (o z)))))) true) [],
   .mk (ldR false 1 (X.t (i (o (o (i (i (o z)))))))) (.some (o (i (o (i (i (o z))))))) (Gd.on (o (o (o (i (i (o z)))))) true) [],
   .mk (binR Tryd.prog EK.no .none true BinOp.eql (X.t (o (i (o (i (i (o z))))))) (X.c (AV.int .i64 4))) (.some (i (i (o (i (i (o z))))))) (Gd.on (o (o (o (i (i (o z)))))) true) [],
   .mk (pickR (X.t (o (o (o (i (i (o z))))))) (X.t (i (i (o (i (i (o z))))))) (X.c (AV.bool false))) (.some (o (o (i (i (i (o z))))))) Gd.no [],
   .mk (mvR (X.t (o (o (i (i (i (o z)))))))) (.some (i (o (i (i (i (o z))))))) Gd.no [],
   .mk (faR 5 (X.t (o (i z)))) (.some (o (i (i (i (i (o z))))))) (Gd.on (i (o (i (i (i (o z)))))) true) [],
   .mk (ldR false 1 (X.t (o (i (i (i (i (o z)))))))) (.some (i (i (i (i (i (o z))))))) (Gd.on (i (o (i (i (i (o z)))))) true) [],
   .mk (lenR LnK.slice (X.t (i (i (i (i (i (o z)))))))) (.some (o (o (o (o (o (i z))))))) (Gd.on (i (o (i (i (i (o z)))))) true) [],
   .mk (binR Tryd.prog EK.no .none true BinOp.eql (X.t (o (o (o (o (o (i z))))))) (X.c (AV.int .i64 2))) (.some (i (o (o (o (o (i z))))))) (Gd.on (i (o (i (i (i (o z)))))) true) [],
   .mk (pickR (X.t (i (o (i (i (i (o z))))))) (X.t (i (o (o (o (o (i z))))))) (X.c (AV.bool false))) (.some (o (i (o (o (o (i z))))))) Gd.no [],
   .mk (mvR (X.t (o (i (o (o (o (i z)))))))) (.some (i (i (o (o (o (i z))))))) Gd.no [],
   .mk (mvR (X.t (o (i (o z))))) (.some (o (o (i (o (o (i z))))))) (Gd.on (i (i (o (o (o (i z)))))) true) [],
   .mk (callS Tryd.prog 22 [(X.t (o (o (i (o (o (i z))))))), (X.c (AV.int .i64 10))]) (.some (i (o (i (o (o (i z))))))) (Gd.on (i (i (o (o (o (i z)))))) true) [],
   .mk (pickR (X.t (i (i (o (o (o (i z))))))) (X.t (i (o (i (o (o (i z))))))) (X.c (AV.bool false))) (.some (o (i (i (o (o (i z))))))) Gd.no [],
   .mk (mvR (X.t (o (i (i (o (o (i z)))))))) (.some (i (i (i (o (o (i z))))))) Gd.no [],
   .mk (mvR (X.t (o (o (i z))))) (.some (o (o (o (i (o (i z))))))) (Gd.on (i (i (i (o (o (i z)))))) true) [],
   .mk (callS Tryd.prog 22 [(X.t (o (o (o (i (o (i z))))))), (X.c (AV.int .i64 22))]) (.some (i (o (o (i (o (i z))))))) (Gd.on (i (i (i (o (o (i z)))))) true) [],
   .mk (pickR (X.t (i (i (i (o (o (i z))))))) (X.t (i (o (o (i (o (i z))))))) (X.c (AV.bool false))) (.some (o (i (o (i (o (i z))))))) Gd.no [],
   .mk (mvR (X.t (o (i (o (i (o (i z)))))))) (.some z) Gd.no []])
  .ret)))))))
theorem C18ok : (match Tryd.f18.body with | some c => comp Tryd.prog 106 c | none => none) = some C18 := by kernel_rfl
@[go_sem] theorem call18 (args : List AV) (H : Heap) : callC Tryd.prog 18 args H = .call 18 args := callC_ok (by kernel_rfl) args H
theorem R18ok : resKs Tryd.prog Tryd.f18.results.toList = some [(RK.tmp z)] := by kernel_rfl

/- 19: estuary/estuarylaw17.few -/
noncomputable def C19 : CC :=
  (.seq (.region [.mk (boxR false (X.t z)) (.some (o z)) Gd.no [],
   .mk (mvR (X.c (AV.bool false))) (.some (i z)) Gd.no []])
  (.seq (.region [.mk (faR 5 (X.t (o z))) (.some (o (o z))) Gd.no [],
   .mk (ldR false 1 (X.t (o (o z)))) (.some (i (o z))) Gd.no [],
   .mk (lenR LnK.slice (X.t (i (o z)))) (.some (o (i z))) Gd.no [],
   .mk (binR Tryd.prog EK.no .none true BinOp.leq (X.t (o (i z))) (X.c (AV.int .i64 30))) (.some (i (i z))) Gd.no [],
   .mk (mvR (X.t (i (i z)))) (.some (o (o (o z)))) Gd.no [],
   .mk (faR 6 (X.t (o z))) (.some (i (o (o z)))) (Gd.on (o (o (o z))) true) [],
   .mk (ldR false 1 (X.t (i (o (o z))))) (.some (o (i (o z)))) (Gd.on (o (o (o z))) true) [],
   .mk (lenR LnK.slice (X.t (o (i (o z))))) (.some (i (i (o z)))) (Gd.on (o (o (o z))) true) [],
   .mk (binR Tryd.prog EK.no .none true BinOp.leq (X.t (i (i (o z)))) (X.c (AV.int .i64 40))) (.some (o (o (i z)))) (Gd.on (o (o (o z))) true) [],
   .mk (pickR (X.t (o (o (o z)))) (X.t (o (o (i z)))) (X.c (AV.bool false))) (.some (i (o (i z)))) Gd.no [],
   .mk (mvR (X.t (i (o (i z))))) (.some (o (i (i z)))) Gd.no [],
   .mk (faR 7 (X.t (o z))) (.some (i (i (i z)))) (Gd.on (o (i (i z))) true) [],
   .mk (ldR false 1 (X.t (i (i (i z))))) (.some (o (o (o (o z))))) (Gd.on (o (i (i z))) true) [],
   .mk (lenR LnK.slice (X.t (o (o (o (o z)))))) (.some (i (o (o (o z))))) (Gd.on (o (i (i z))) true) [],
   .mk (binR Tryd.prog EK.no .none true BinOp.leq (X.t (i (o (o (o z))))) (X.c (AV.int .i64 6))) (.some (o (i (o (o z))))) (Gd.on (o (i (i z))) true) [],
   .mk (pickR (X.t (o (i (i z)))) (X.t (o (i (o (o z))))) (X.c (AV.bool false))) (.some (i (i (o (o z))))) Gd.no [],
   .mk (mvR (X.t (i (i (o (o z)))))) (.some (i z)) Gd.no []])
  .ret))
theorem C19ok : (match Tryd.f19.body with | some c => comp Tryd.prog 19 c | none => none) = some C19 := by kernel_rfl
@[go_sem] theorem call19 (args : List AV) (H : Heap) : callC Tryd.prog 19 args H = .call 19 args := callC_ok (by kernel_rfl) args H
theorem R19ok : resKs Tryd.prog Tryd.f19.results.toList = some [(RK.tmp (i z))] := by kernel_rfl

/- 20: estuary/estuaryref15.Is -/
noncomputable def C20L0 : CC :=
  (.seq (.seq (.region [.mk (mvR (X.t (o (o z)))) (.some (i (o (o (o (i z)))))) Gd.no [],
   .mk (faR 5 (X.t (o z))) (.some (o (i (o (o (i z)))))) Gd.no [],
   .mk (ldR false 1 (X.t (o (i (o (o (i z))))))) (.some (i (i (o (o (i z)))))) Gd.no [],
   .mk (lenR LnK.slice (X.t (i (i (o (o (i z))))))) (.some (o (o (i (o (i z)))))) Gd.no [],
   .mk (binR Tryd.prog EK.no .none false BinOp.lss (X.t (i (o (o (o (i z)))))) (X.t (o (o (i (o (i z))))))) (.some (i (o (i (o (i z)))))) Gd.no []])
  (.cond (X.t (i (o (i (o (i z))))))
  .skip
  (.exit 0)))
  (.seq (.block 1 (.seq (.regionD [.mk (keepH (mvR (X.t (o (o z))))) (.some (o (o (i (i (i z)))))) Gd.no [],
   .mk (keepH (faR 5 (X.t (o z)))) (.some (o (i (o (i (i z)))))) Gd.no [],
   .mk (keepH (ldR false 1 (X.t (o (i (o (i (i z)))))))) (.some (i (i (o (i (i z)))))) Gd.no [],
   .mk (keepH (iaS 5 (X.t (i (i (o (i (i z)))))) (X.t (o (o (i (i (i z)))))))) (.some (i (o (i (i (i z)))))) Gd.no [],
   .mk (keepH (faR 0 (X.t (i (o (i (i (i z)))))))) (.some (o (i (i (i (i z)))))) Gd.no [],
   .mk (keepH (ldR false 1 (X.t (o (i (i (i (i z)))))))) (.some (i (i (i (i (i z)))))) Gd.no [],
   .mk (keepH (faR 2 (X.t (o z)))) (.some (o (o (o (i (i z)))))) Gd.no [],
   .mk (keepH (ldR true 2 (X.t (o (o (o (i (i z)))))))) (.some (i (o (o (i (i z)))))) Gd.no [],
   .mk (callS Tryd.prog 27 [(X.t (i (o (o (i (i z)))))), (X.t (i (i (i (i (i z))))))]) (.some (o (o (o (o (o (o z))))))) Gd.no [],
   .mk (keepH (unR UnOp.not (X.t (o (o (o (o (o (o z))))))))) (.some (i (o (o (o (o (o z))))))) Gd.no []])
  (.cond (X.t (i (o (o (o (o (o z)))))))
  (.seq (.region [.mk (mvR (X.c (AV.bool false))) (.some (i z)) Gd.no []])
  .ret)
  .skip)))
  (.region [.mk (mvR (X.t (o (o z)))) (.some (o (i (i (o (i z)))))) Gd.no [],
   .mk (binR Tryd.prog EK.no .none true BinOp.add (X.t (o (i (i (o (i z)))))) (X.c (AV.int .i64 1))) (.some (i (i (i (o (i z)))))) Gd.no [],
   .mk (mvR (X.t (i (i (i (o (i z))))))) (.some (o (o z))) Gd.no []])))
noncomputable def C20 : CC :=
  (.seq (.region [.mk (boxR false (X.t z)) (.some (o z)) Gd.no [],
   .mk (mvR (X.c (AV.bool false))) (.some (i z)) Gd.no []])
  (.seq (.seq (.region [.mk (faR 0 (X.t (o z))) (.some (i (o z))) Gd.no [],
   .mk (ldR false 1 (X.t (i (o z)))) (.some (o (i z))) Gd.no [],
   .mk (binR Tryd.prog EK.no .none true BinOp.lss (X.t (o (i z))) (X.c (AV.int .i64 1))) (.some (i (i z))) Gd.no [],
   .mk (mvR (X.t (i (i z)))) (.some (o (o (o z)))) Gd.no [],
   .mk (faR 0 (X.t (o z))) (.some (i (o (o z)))) (Gd.on (o (o (o z))) false) [],
   .mk (ldR false 1 (X.t (i (o (o z))))) (.some (o (i (o z)))) (Gd.on (o (o (o z))) false) [],
   .mk (binR Tryd.prog EK.no .none true BinOp.gtr (X.t (o (i (o z)))) (X.c (AV.int .i64 1000000000000))) (.some (i (i (o z)))) (Gd.on (o (o (o z))) false) [],
   .mk (pickR (X.t (o (o (o z)))) (X.c (AV.bool true)) (X.t (i (i (o z))))) (.some (o (o (i z)))) Gd.no [],
   .mk (mvR (X.t (o (o (i z))))) (.some (i (o (i z)))) Gd.no [],
   .mk (faR 1 (X.t (o z))) (.some (o (i (i z)))) (Gd.on (i (o (i z))) false) [],
   .mk (ldR false 1 (X.t (o (i (i z))))) (.some (i (i (i z)))) (Gd.on (i (o (i z))) false) [],
   .mk (binR Tryd.prog EK.no .none true BinOp.lss (X.t (i (i (i z)))) (X.c (AV.int .i64 1))) (.some (o (o (o (o z))))) (Gd.on (i (o (i z))) false) [],
   .mk (pickR (X.t (i (o (i z)))) (X.c (AV.bool true)) (X.t (o (o (o (o z)))))) (.some (i (o (o (o z))))) Gd.no [],
   .mk (mvR (X.t (i (o (o (o z)))))) (.some (o (i (o (o z))))) Gd.no [],
   .mk (faR 1 (X.t (o z))) (.some (i (i (o (o z))))) (Gd.on (o (i (o (o z)))) false) [],
   .mk (ldR false 1 (X.t (i (i (o (o z)))))) (.some (o (o (i (o z))))) (Gd.on (o (i (o (o z)))) false) [],
   .mk (binR Tryd.prog EK.no .none true BinOp.gtr (X.t (o (o (i (o z))))) (X.c (AV.int .i64 1000000))) (.some (i (o (i (o z))))) (Gd.on (o (i (o (o z)))) false) [],
   .mk (pickR (X.t (o (i (o (o z))))) (X.c (AV.bool true)) (X.t (i (o (i (o z)))))) (.some (o (i (i (o z))))) Gd.no [],
   .mk (mvR (X.t (o (i (i (o z)))))) (.some (i (i (i (o z))))) Gd.no [],
   .mk (faR 2 (X.t (o z))) (.some (o (o (o (i z))))) (Gd.on (i (i (i (o z)))) false) [],
   .mk (ldR true 2 (X.t (o (o (o (i z)))))) (.some (i (o (o (i z))))) (Gd.on (i (i (i (o z)))) false) [],
   .mk (callS Tryd.prog 40 [(X.t (i (o (o (i z)))))]) (.some (o (i (o (i z))))) (Gd.on (i (i (i (o z)))) false) [],
   .mk (unR UnOp.not (X.t (o (i (o (i z)))))) (.some (i (i (o (i z))))) (Gd.on (i (i (i (o z)))) false) [],
   .mk (pickR (X.t (i (i (i (o z))))) (X.c (AV.bool true)) (X.t (i (i (o (i z)))))) (.some (o (o (i (i z))))) Gd.no [],
   .mk (mvR (X.t (o (o (i (i z)))))) (.some (i (o (i (i z))))) Gd.no [],
   .mk (faR 6 (X.t (o z))) (.some (o (i (i (i z))))) (Gd.on (i (o (i (i z)))) false) [],
   .mk (ldR false 1 (X.t (o (i (i (i z)))))) (.some (i (i (i (i z))))) (Gd.on (i (o (i (i z)))) false) [],
   .mk (lenR LnK.slice (X.t (i (i (i (i z)))))) (.some (o (o (o (o (o z)))))) (Gd.on (i (o (i (i z)))) false) [],
   .mk (binR Tryd.prog EK.no .none true BinOp.gtr (X.t (o (o (o (o (o z)))))) (X.c (AV.int .i64 24))) (.some (i (o (o (o (o z)))))) (Gd.on (i (o (i (i z)))) false) [],
   .mk (pickR (X.t (i (o (i (i z))))) (X.c (AV.bool true)) (X.t (i (o (o (o (o z))))))) (.some (o (i (o (o (o z)))))) Gd.no [],
   .mk (mvR (X.t (o (i (o (o (o z))))))) (.some (i (i (o (o (o z)))))) Gd.no [],
   .mk (faR 6 (X.t (o z))) (.some (o (o (i (o (o z)))))) (Gd.on (i (i (o (o (o z))))) false) [],
   .mk (ldR false 1 (X.t (o (o (i (o (o z))))))) (.some (i (o (i (o (o z)))))) (Gd.on (i (i (o (o (o z))))) false) [],
   .mk (faR 5 (X.t (o z))) (.some (o (i (i (o (o z)))))) (Gd.on (i (i (o (o (o z))))) false) [],
   .mk (ldR false 1 (X.t (o (i (i (o (o z))))))) (.some (i (i (i (o (o z)))))) (Gd.on (i (i (o (o (o z))))) false) [],
   .mk (callS Tryd.prog 26 [(X.t (i (o (i (o (o z)))))), (X.t (i (i (i (o (o z))))))]) (.some (o (o (o (i (o z)))))) (Gd.on (i (i (o (o (o z))))) false) [],
   .mk (unR UnOp.not (X.t (o (o (o (i (o z))))))) (.some (i (o (o (i (o z)))))) (Gd.on (i (i (o (o (o z))))) false) [],
   .mk (pickR (X.t (i (i (o (o (o z)))))) (X.c (AV.bool true)) (X.t (i (o (o (i (o z))))))) (.some (o (i (o (i (o z)))))) Gd.no [],
   .mk (mvR (X.t (o (i (o (i (o z))))))) (.some (i (i (o (i (o z)))))) Gd.no [],
   .mk (faR 7 (X.t (o z))) (.some (o (o (i (i (o z)))))) (Gd.on (i (i (o (i (o z))))) false) [],
   .mk (ldR false 1 (X.t (o (o (i (i (o z))))))) (.some (i (o (i (i (o z)))))) (Gd.on (i (i (o (i (o z))))) false) [],
   .mk (callS Tryd.prog 41 [(X.t (i (o (i (i (o z))))))]) (.some (o (i (i (i (o z)))))) (Gd.on (i (i (o (i (o z))))) false) [],
   .mk (unR UnOp.not (X.t (o (i (i (i (o z))))))) (.some (i (i (i (i (o z)))))) (Gd.on (i (i (o (i (o z))))) false) [],
   .mk (pickR (X.t (i (i (o (i (o z)))))) (X.c (AV.bool true)) (X.t (i (i (i (i (o z))))))) (.some (o (o (o (o (i z)))))) Gd.no []])
  (.cond (X.t (o (o (o (o (i z))))))
  (.seq (.region [.mk (mvR (X.c (AV.bool false))) (.some (i z)) Gd.no []])
  .ret)
  .skip))
  (.seq (.seq (.region [.mk (mvR (X.c (AV.int .i64 0))) (.some (o (o z))) Gd.no []])
  (.block 0 (.loop C20L0)))
  (.seq (.region [.mk (mvR (X.c (AV.bool true))) (.some (i z)) Gd.no []])
  .ret))))
theorem C20ok : (match Tryd.f20.body with | some c => comp Tryd.prog 65 c | none => none) = some C20 := by kernel_rfl
@[go_sem] theorem call20 (args : List AV) (H : Heap) : callC Tryd.prog 20 args H = .call 20 args := callC_ok (by kernel_rfl) args H
theorem R20ok : resKs Tryd.prog Tryd.f20.results.toList = some [(RK.tmp (i z))] := by kernel_rfl

/- 21: estuary/cut.Split -/
noncomputable def C21 : CC :=
  (.seq (.region [.mk (boxR false (X.t z)) (.some (i (o z))) Gd.no [],
   .mk (fun _ H => newC false [(AV.int .i64 0), (AV.int .i64 0), (AV.str []), (AV.str []), (AV.bool false), AV.nils, AV.nils, AV.nils] H) (.some (i (o (o z)))) Gd.no [],
   .mk (fun _ H => newC false [(AV.int .i64 0), (AV.int .i64 0), (AV.str []), (AV.str []), (AV.bool false), AV.nils, AV.nils, AV.nils] H) (.some (o (i (o z)))) Gd.no [],
   .mk (mvR (X.c AV.nili)) (.some (i (i (o z)))) Gd.no []])
  (.seq (.seq (.region [.mk (ldR true 8 (X.t (i (o z)))) (.some (o (o (o (o z))))) Gd.no [],
   .mk (callS Tryd.prog 42 [(X.t (o (o (o (o z)))))]) (.some (i (o (o (o z))))) Gd.no [],
   .mk (mvR (X.t (i (o (o (o z)))))) (.some (o (o (i z)))) Gd.no []])
  (.seq (.region [.mk (mvR (X.t (o (o (i z))))) (.some (o (i (o (o z))))) Gd.no [],
   .mk (mkiR 71 (X.c (AV.int .i64 10))) (.some (i (i (o (o z))))) Gd.no [],
   .mk (callS Tryd.prog 32 [(X.t (o (i (o (o z))))), (X.t (i (i (o (o z)))))]) (.some (o (o (i (o z))))) Gd.no [],
   .mk (mvR (X.t (o (o (i (o z)))))) (.some (i (o (i (o z))))) Gd.no [],
   .mk (mvR (X.t (i z))) (.some (o (i (i (o z))))) (Gd.on (i (o (i (o z)))) false) [],
   .mk (callS Tryd.prog 43 [(X.t (o (i (i (o z)))))]) (.some (i (i (i (o z))))) (Gd.on (i (o (i (o z)))) false) [],
   .mk (unR UnOp.not (X.t (i (i (i (o z)))))) (.some (o (o (o (i z))))) (Gd.on (i (o (i (o z)))) false) [],
   .mk (pickR (X.t (i (o (i (o z))))) (X.c (AV.bool true)) (X.t (o (o (o (i z)))))) (.some (i (o (o (i z))))) Gd.no [],
   .mk (mvR (X.t (i (o (o (i z)))))) (.some (o (i (o (i z))))) Gd.no [],
   .mk (mvR (X.t (o (o z)))) (.some (i (i (o (i z))))) (Gd.on (o (i (o (i z)))) false) [],
   .mk (callS Tryd.prog 43 [(X.t (i (i (o (i z)))))]) (.some (o (o (i (i z))))) (Gd.on (o (i (o (i z)))) false) [],
   .mk (unR UnOp.not (X.t (o (o (i (i z)))))) (.some (i (o (i (i z))))) (Gd.on (o (i (o (i z)))) false) [],
   .mk (pickR (X.t (o (i (o (i z))))) (X.c (AV.bool true)) (X.t (i (o (i (i z)))))) (.some (o (i (i (i z))))) Gd.no [],
   .mk (mvR (X.t (o (i (i (i z)))))) (.some (i (i (i (i z))))) Gd.no [],
   .mk (mvR (X.t (i z))) (.some (o (o (o (o (o z)))))) (Gd.on (i (i (i (i z)))) false) [],
   .mk (mvR (X.t (o (o z)))) (.some (i (o (o (o (o z)))))) (Gd.on (i (i (i (i z)))) false) [],
   .mk (binR Tryd.prog EK.no .none false BinOp.eql (X.t (o (o (o (o (o z)))))) (X.t (i (o (o (o (o z))))))) (.some (o (i (o (o (o z)))))) (Gd.on (i (i (i (i z)))) false) [],
   .mk (pickR (X.t (i (i (i (i z))))) (X.c (AV.bool true)) (X.t (o (i (o (o (o z))))))) (.some (i (i (o (o (o z)))))) Gd.no []])
  (.cond (X.t (i (i (o (o (o z))))))
  (.seq (.region [.mk (buildR [(AV.int .i64 0), (AV.int .i64 0), (AV.str []), (AV.str []), (AV.bool false), AV.nils, AV.nils, AV.nils] []) (.some (o (o (i (o (o z)))))) Gd.no [],
   .mk (buildR [(AV.int .i64 0), (AV.int .i64 0), (AV.str []), (AV.str []), (AV.bool false), AV.nils, AV.nils, AV.nils] []) (.some (i (o (i (o (o z)))))) Gd.no [],
   .mk (mkiR 71 (X.c (AV.int .i64 10))) (.some (o (i (i (o (o z)))))) Gd.no [],
   .mk (stR 8 (X.t (i (o (o z)))) (X.t (o (o (i (o (o z))))))) .none Gd.no [],
   .mk (stR 8 (X.t (o (i (o z)))) (X.t (i (o (i (o (o z))))))) .none Gd.no [],
   .mk (mvR (X.t (o (i (i (o (o z))))))) (.some (i (i (o z)))) Gd.no []])
  .ret)
  .skip)))
  (.seq (.region [.mk (faR 2 (X.t (i (o z)))) (.some (o (o (o (i (o z)))))) Gd.no [],
   .mk (ldR true 2 (X.t (o (o (o (i (o z))))))) (.some (i (o (o (i (o z)))))) Gd.no [],
   .mk (mvR (X.t (o z))) (.some (o (i (o (i (o z)))))) Gd.no [],
   .mk (callS Tryd.prog 44 [(X.t (i (o (o (i (o z)))))), (X.t (o (i (o (i (o z))))))]) (.some (i (i (o (i (o z)))))) Gd.no [],
   .mk (mvR (X.t (i (i (o (i (o z))))))) (.some (i (i (i (o (o z)))))) Gd.no [],
   .mk (extR (X.t (i (i (i (o (o z)))))) 0) (.some (o (o (i (i (o z)))))) Gd.no [],
   .mk (extR (X.t (i (i (i (o (o z)))))) 1) (.some (i (o (i (i (o z)))))) Gd.no [],
   .mk (extR (X.t (i (i (i (o (o z)))))) 2) (.some (o (i (i (i (o z)))))) Gd.no [],
   .mk (fun _ H => newC false [(AV.str []), (AV.str [])] H) (.some (i (o (i z)))) Gd.no [],
   .mk (fun _ H => newC false [(AV.str []), (AV.str [])] H) (.some (o (i (i z)))) Gd.no [],
   .mk (stR 2 (X.t (i (o (i z)))) (X.t (o (o (i (i (o z))))))) .none Gd.no [],
   .mk (stR 2 (X.t (o (i (i z)))) (X.t (i (o (i (i (o z))))))) .none Gd.no [],
   .mk (mvR (X.t (o (i (i (i (o z))))))) (.some (i (i (i z)))) Gd.no []])
  (.seq (.seq (.region [.mk (mvR (X.t (i (i (i z))))) (.some (i (i (i (i (o z)))))) Gd.no [],
   .mk (unR UnOp.not (X.t (i (i (i (i (o z))))))) (.some (o (o (o (o (i z)))))) Gd.no []])
  (.cond (X.t (o (o (o (o (i z))))))
  (.seq (.region [.mk (buildR [(AV.int .i64 0), (AV.int .i64 0), (AV.str []), (AV.str []), (AV.bool false), AV.nils, AV.nils, AV.nils] []) (.some (i (o (o (o (i z)))))) Gd.no [],
   .mk (buildR [(AV.int .i64 0), (AV.int .i64 0), (AV.str []), (AV.str []), (AV.bool false), AV.nils, AV.nils, AV.nils] []) (.some (o (i (o (o (i z)))))) Gd.no [],
   .mk (mkiR 71 (X.c (AV.int .i64 22))) (.some (i (i (o (o (i z)))))) Gd.no [],
   .mk (stR 8 (X.t (i (o (o z)))) (X.t (i (o (o (o (i z))))))) .none Gd.no [],
   .mk (stR 8 (X.t (o (i (o z)))) (X.t (o (i (o (o (i z))))))) .none Gd.no [],
   .mk (mvR (X.t (i (i (o (o (i z))))))) (.some (i (i (o z)))) Gd.no []])
  .ret)
  .skip))
  (.seq (.regionD [.mk (keepH (ldR true 2 (X.t (o (i (i z)))))) (.some (o (i (o (i (i z)))))) Gd.no [],
   .mk (keepH (mvR (X.t (o (o z))))) (.some (i (o (o (i (i z)))))) Gd.no [],
   .mk (keepH (ldR true 8 (X.t (i (o z))))) (.some (o (o (o (i (i z)))))) Gd.no [],
   .mk (keepH (ldR true 2 (X.t (i (o (i z)))))) (.some (o (i (i (o (i z)))))) Gd.no [],
   .mk (keepH (mvR (X.t (i z)))) (.some (i (o (i (o (i z)))))) Gd.no [],
   .mk (keepH (ldR true 8 (X.t (i (o z))))) (.some (o (o (i (o (i z)))))) Gd.no [],
   .mk (callS Tryd.prog 45 [(X.t (o (o (i (o (i z)))))), (X.t (i (o (i (o (i z)))))), (X.t (o (i (i (o (i z))))))]) (.some (i (i (i (o (i z)))))) Gd.no [.mk (ldR true 8 (X.t (i (o z)))) (.some (o (o (o (i (i z)))))) Gd.no, .mk (mvR (X.t (o (o z)))) (.some (i (o (o (i (i z)))))) Gd.no, .mk (ldR true 2 (X.t (o (i (i z))))) (.some (o (i (o (i (i z)))))) Gd.no],
   .mk (callS Tryd.prog 45 [(X.t (o (o (o (i (i z)))))), (X.t (i (o (o (i (i z)))))), (X.t (o (i (o (i (i z))))))]) (.some (i (i (o (i (i z)))))) Gd.no [],
   .mk (stR 8 (X.t (i (o (o z)))) (X.t (i (i (i (o (i z))))))) .none Gd.no [],
   .mk (stR 8 (X.t (o (i (o z)))) (X.t (i (i (o (i (i z))))))) .none Gd.no [],
   .mk (mvR (X.c AV.nili)) (.some (i (i (o z)))) Gd.no []])
  .ret)))))
theorem C21ok : (match Tryd.f21.body with | some c => comp Tryd.prog 59 c | none => none) = some C21 := by kernel_rfl
@[go_sem] theorem call21 (args : List AV) (H : Heap) : callC Tryd.prog 21 args H = .call 21 args := callC_ok (by kernel_rfl) args H
theorem R21ok : resKs Tryd.prog Tryd.f21.results.toList = some [(RK.cell (i (o (o z))) true 8), (RK.cell (o (i (o z))) true 8), (RK.tmp (i (i (o z))))] := by kernel_rfl

/- 22: estuary/fault.Is -/
noncomputable def C22 : CC :=
  (.seq (.region [.mk (mvR (X.c (AV.bool false))) (.some (i (o z))) Gd.no []])
  (.seq (.seq (.region [.mk (mvR (X.t z)) (.some (o (i z))) Gd.no [],
   .mk (binR Tryd.prog EK.iface .none true BinOp.eql (X.t (o (i z))) (X.c AV.nili)) (.some (i (i z))) Gd.no [],
   .mk (mvR (X.t (i (i z)))) (.some (o (o (o z)))) Gd.no [],
   .mk (mvR (X.t z)) (.some (i (o (o z)))) (Gd.on (o (o (o z))) false) [],
   .mk (callS Tryd.prog 46 [(X.t (i (o (o z))))]) (.some (o (i (o z)))) (Gd.on (o (o (o z))) false) [],
   .mk (mvR (X.t (o z))) (.some (i (i (o z)))) (Gd.on (o (o (o z))) false) [],
   .mk (binR Tryd.prog EK.no .none false BinOp.neq (X.t (o (i (o z)))) (X.t (i (i (o z))))) (.some (o (o (i z)))) (Gd.on (o (o (o z))) false) [],
   .mk (pickR (X.t (o (o (o z)))) (X.c (AV.bool true)) (X.t (o (o (i z))))) (.some (i (o (i z)))) Gd.no []])
  (.cond (X.t (i (o (i z))))
  (.seq (.region [.mk (mvR (X.c (AV.bool false))) (.some (i (o z))) Gd.no []])
  .ret)
  .skip))
  (.seq (.region [.mk (mvR (X.t z)) (.some (o (i (i z)))) Gd.no [],
   .mk (mvR (X.t (o z))) (.some (i (i (i z)))) Gd.no [],
   .mk (mkiR 71 (X.t (i (i (i z))))) (.some (o (o (o (o z))))) Gd.no [],
   .mk (callS Tryd.prog 32 [(X.t (o (i (i z)))), (X.t (o (o (o (o z)))))]) (.some (i (o (o (o z))))) Gd.no [],
   .mk (mvR (X.t (i (o (o (o z)))))) (.some (o (i (o (o z))))) Gd.no [],
   .mk (mvR (X.t (o z))) (.some (i (i (o (o z))))) (Gd.on (o (i (o (o z)))) false) [],
   .mk (binR Tryd.prog EK.no .none true BinOp.eql (X.t (i (i (o (o z))))) (X.c (AV.int .i64 10))) (.some (o (o (i (o z))))) (Gd.on (o (i (o (o z)))) false) [],
   .mk (pickR (X.t (o (i (o (o z))))) (X.c (AV.bool true)) (X.t (o (o (i (o z)))))) (.some (i (o (i (o z))))) Gd.no [],
   .mk (mvR (X.t (i (o (i (o z)))))) (.some (i (o z))) Gd.no []])
  .ret)))
theorem C22ok : (match Tryd.f22.body with | some c => comp Tryd.prog 21 c | none => none) = some C22 := by kernel_rfl
@[go_sem] theorem call22 (args : List AV) (H : Heap) : callC Tryd.prog 22 args H = .call 22 args := callC_ok (by kernel_rfl) args H
theorem R22ok : resKs Tryd.prog Tryd.f22.results.toList = some [(RK.tmp (i (o z)))] := by kernel_rfl

/- 23: estuary/cut.Join -/
noncomputable def C23 : CC :=
  (.seq (.region [.mk (boxR false (X.t z)) (.some (o (o z))) Gd.no [],
   .mk (boxR false (X.t (o z))) (.some (i (o z))) Gd.no [],
   .mk (fun _ H => newC false [(AV.int .i64 0), (AV.int .i64 0), (AV.str []), (AV.str []), (AV.bool false), AV.nils, AV.nils, AV.nils] H) (.some (i (i z))) Gd.no [],
   .mk (mvR (X.c AV.nili)) (.some (o (o (o z)))) Gd.no []])
  (.seq (.seq (.regionD [.mk (keepH (ldR true 8 (X.t (i (o z))))) (.some (i (o (i z)))) Gd.no [],
   .mk (keepH (ldR true 8 (X.t (o (o z))))) (.some (i (i (o z)))) Gd.no [],
   .mk (callS Tryd.prog 42 [(X.t (i (i (o z))))]) (.some (o (o (i z)))) Gd.no [.mk (ldR true 8 (X.t (i (o z)))) (.some (i (o (i z)))) Gd.no],
   .mk (callS Tryd.prog 42 [(X.t (i (o (i z))))]) (.some (o (i (i z)))) Gd.no [],
   .mk (callS Tryd.prog 47 [(X.t (o (o (i z)))), (X.t (o (i (i z))))]) (.some (i (i (i z)))) Gd.no [],
   .mk (mvR (X.t (i (i (i z))))) (.some (i (o (o z)))) Gd.no []])
  (.seq (.region [.mk (mvR (X.t (i (o (o z))))) (.some (o (o (o (o z))))) Gd.no [],
   .mk (binR Tryd.prog EK.iface .none true BinOp.neq (X.t (o (o (o (o z))))) (X.c AV.nili)) (.some (i (o (o (o z))))) Gd.no [],
   .mk (mvR (X.t (i (o (o (o z)))))) (.some (o (i (o (o z))))) Gd.no [],
   .mk (mvR (X.t (i z))) (.some (i (i (o (o z))))) (Gd.on (o (i (o (o z)))) false) [],
   .mk (callS Tryd.prog 43 [(X.t (i (i (o (o z)))))]) (.some (o (o (i (o z))))) (Gd.on (o (i (o (o z)))) false) [],
   .mk (unR UnOp.not (X.t (o (o (i (o z)))))) (.some (i (o (i (o z))))) (Gd.on (o (i (o (o z)))) false) [],
   .mk (pickR (X.t (o (i (o (o z))))) (X.c (AV.bool true)) (X.t (i (o (i (o z)))))) (.some (o (i (i (o z))))) Gd.no []])
  (.cond (X.t (o (i (i (o z)))))
  (.seq (.region [.mk (buildR [(AV.int .i64 0), (AV.int .i64 0), (AV.str []), (AV.str []), (AV.bool false), AV.nils, AV.nils, AV.nils] []) (.some (i (i (i (o z))))) Gd.no [],
   .mk (mkiR 71 (X.c (AV.int .i64 10))) (.some (o (o (o (i z))))) Gd.no [],
   .mk (stR 8 (X.t (i (i z))) (X.t (i (i (i (o z)))))) .none Gd.no [],
   .mk (mvR (X.t (o (o (o (i z)))))) (.some (o (o (o z)))) Gd.no []])
  .ret)
  .skip)))
  (.seq (.seq (.region [.mk (faR 2 (X.t (o (o z)))) (.some (i (o (o (i z))))) Gd.no [],
   .mk (ldR true 2 (X.t (i (o (o (i z)))))) (.some (o (i (o (i z))))) Gd.no [],
   .mk (faR 2 (X.t (i (o z)))) (.some (i (i (o (i z))))) Gd.no [],
   .mk (ldR true 2 (X.t (i (i (o (i z)))))) (.some (o (o (i (i z))))) Gd.no [],
   .mk (callS Tryd.prog 48 [(X.t (o (i (o (i z))))), (X.t (o (o (i (i z)))))]) (.some (i (o (i (i z))))) Gd.no [],
   .mk (unR UnOp.not (X.t (i (o (i (i z)))))) (.some (o (i (i (i z))))) Gd.no []])
  (.cond (X.t (o (i (i (i z)))))
  (.seq (.region [.mk (buildR [(AV.int .i64 0), (AV.int .i64 0), (AV.str []), (AV.str []), (AV.bool false), AV.nils, AV.nils, AV.nils] []) (.some (i (i (i (i z))))) Gd.no [],
   .mk (mkiR 71 (X.c (AV.int .i64 22))) (.some (o (o (o (o (o z)))))) Gd.no [],
   .mk (stR 8 (X.t (i (i z))) (X.t (i (i (i (i z)))))) .none Gd.no [],
   .mk (mvR (X.t (o (o (o (o (o z))))))) (.some (o (o (o z)))) Gd.no []])
  .ret)
  .skip))
  (.seq (.region [.mk (mvR (X.t (i z))) (.some (i (o (o (o (o z)))))) Gd.no [],
   .mk (faR 2 (X.t (o (o z)))) (.some (o (i (o (o (o z)))))) Gd.no [],
   .mk (faR 0 (X.t (o (i (o (o (o z))))))) (.some (i (i (o (o (o z)))))) Gd.no [],
   .mk (ldR false 1 (X.t (i (i (o (o (o z))))))) (.some (o (o (i (o (o z)))))) Gd.no [],
   .mk (faR 2 (X.t (i (o z)))) (.some (i (o (i (o (o z)))))) Gd.no [],
   .mk (faR 1 (X.t (i (o (i (o (o z))))))) (.some (o (i (i (o (o z)))))) Gd.no [],
   .mk (ldR false 1 (X.t (o (i (i (o (o z))))))) (.some (i (i (i (o (o z)))))) Gd.no [],
   .mk (buildR [(AV.str []), (AV.str [])] [(0, (1, (X.t (o (o (i (o (o z)))))))), (1, (1, (X.t (i (i (i (o (o z))))))))]) (.some (o (o (o (i (o z)))))) Gd.no [],
   .mk (callS Tryd.prog 49 [(X.t (i (o (o (o (o z)))))), (X.c (AV.int .i64 1)), (X.t (o (o (o (i (o z))))))]) (.some (i (o (o (i (o z)))))) Gd.no [],
   .mk (fun _ H => newC false [(AV.int .i64 0), (AV.int .i64 0), (AV.str []), (AV.str []), (AV.bool false), AV.nils, AV.nils, AV.nils] H) (.some (o (i (o z)))) Gd.no [],
   .mk (stR 8 (X.t (o (i (o z)))) (X.t (i (o (o (i (o z))))))) .none Gd.no []])
  (.seq (.regionD [.mk (keepH (faR 5 (X.t (i (o z))))) (.some (i (i (o (o (i z)))))) Gd.no [],
   .mk (keepH (ldR false 1 (X.t (i (i (o (o (i z)))))))) (.some (o (o (i (o (i z)))))) Gd.no [],
   .mk (keepH (faR 5 (X.t (o (o z))))) (.some (i (o (o (o (i z)))))) Gd.no [],
   .mk (keepH (ldR false 1 (X.t (i (o (o (o (i z)))))))) (.some (o (i (o (o (i z)))))) Gd.no [],
   .mk (addH (bslR 1 2 [AV.nils] [(0, (X.t (o (i (o (o (i z))))))), (1, (X.t (o (o (i (o (i z)))))))])) (.some (i (o (i (o (i z)))))) Gd.no [.mk (ldR false 1 (X.t (i (o (o (o (i z))))))) (.some (o (i (o (o (i z)))))) Gd.no, .mk (faR 5 (X.t (o (o z)))) (.some (i (o (o (o (i z)))))) Gd.no, .mk (ldR false 1 (X.t (i (i (o (o (i z))))))) (.some (o (o (i (o (i z)))))) Gd.no, .mk (faR 5 (X.t (i (o z)))) (.some (i (i (o (o (i z)))))) Gd.no],
   .mk (keepH (faR 6 (X.t (i (o z))))) (.some (i (o (i (i (o z)))))) Gd.no [],
   .mk (keepH (ldR false 1 (X.t (i (o (i (i (o z)))))))) (.some (o (i (i (i (o z)))))) Gd.no [],
   .mk (keepH (faR 6 (X.t (o (o z))))) (.some (i (i (o (i (o z)))))) Gd.no [],
   .mk (keepH (ldR false 1 (X.t (i (i (o (i (o z)))))))) (.some (o (o (i (i (o z)))))) Gd.no [],
   .mk (addH (bslR 1 2 [AV.nils] [(0, (X.t (o (o (i (i (o z))))))), (1, (X.t (o (i (i (i (o z)))))))])) (.some (i (i (i (i (o z)))))) Gd.no [.mk (ldR false 1 (X.t (i (i (o (i (o z))))))) (.some (o (o (i (i (o z)))))) Gd.no, .mk (faR 6 (X.t (o (o z)))) (.some (i (i (o (i (o z)))))) Gd.no, .mk (ldR false 1 (X.t (i (o (i (i (o z))))))) (.some (o (i (i (i (o z)))))) Gd.no, .mk (faR 6 (X.t (i (o z)))) (.some (i (o (i (i (o z)))))) Gd.no, .mk (ldR false 1 (X.t (i (o (o (o (i z))))))) (.some (o (i (o (o (i z)))))) Gd.no, .mk (faR 5 (X.t (o (o z)))) (.some (i (o (o (o (i z)))))) Gd.no, .mk (ldR false 1 (X.t (i (i (o (o (i z))))))) (.some (o (o (i (o (i z)))))) Gd.no, .mk (faR 5 (X.t (i (o z)))) (.some (i (i (o (o (i z)))))) Gd.no],
   .mk (callS Tryd.prog 51 [(X.t (i (i (i (i (o z))))))]) (.some (o (o (o (o (i z)))))) Gd.no [.mk (ldR false 1 (X.t (i (o (o (o (i z))))))) (.some (o (i (o (o (i z)))))) Gd.no, .mk (faR 5 (X.t (o (o z)))) (.some (i (o (o (o (i z)))))) Gd.no, .mk (ldR false 1 (X.t (i (i (o (o (i z))))))) (.some (o (o (i (o (i z)))))) Gd.no, .mk (faR 5 (X.t (i (o z)))) (.some (i (i (o (o (i z)))))) Gd.no],
   .mk (callS Tryd.prog 52 [(X.t (i (o (i (o (i z))))))]) (.some (o (i (i (o (i z)))))) Gd.no [],
   .mk (callS Tryd.prog 50 [(X.t (o (o (o (o (i z)))))), (X.t (o (i (i (o (i z)))))), (X.c (AV.int .i64 24))]) (.some (i (i (i (o (i z)))))) Gd.no [],
   .mk (keepH (mvR (X.t (i (i (i (o (i z)))))))) (.some (o (i (o (i (o z)))))) Gd.no [],
   .mk (keepH (extR (X.t (o (i (o (i (o z)))))) 1)) (.some (i (o (o (i (i z)))))) Gd.no [],
   .mk (keepH (extR (X.t (o (i (o (i (o z)))))) 0)) (.some (o (o (o (i (i z)))))) Gd.no [],
   .mk (keepH (faR 6 (X.t (o (i (o z)))))) (.some (o (i (o (i (i z)))))) Gd.no [],
   .mk (stR 1 (X.t (o (i (o (i (i z)))))) (X.t (o (o (o (i (i z))))))) .none Gd.no [.mk (extR (X.t (o (i (o (i (o z)))))) 1) (.some (i (o (o (i (i z)))))) Gd.no],
   .mk (keepH (faR 5 (X.t (o (i (o z)))))) (.some (i (i (o (i (i z)))))) Gd.no [],
   .mk (stR 1 (X.t (i (i (o (i (i z)))))) (X.t (i (o (o (i (i z))))))) .none Gd.no []])
  (.seq (.region [.mk (faR 7 (X.t (o (o z)))) (.some (o (o (i (i (i z)))))) Gd.no [],
   .mk (ldR false 1 (X.t (o (o (i (i (i z))))))) (.some (i (o (i (i (i z)))))) Gd.no [],
   .mk (faR 7 (X.t (i (o z)))) (.some (o (i (i (i (i z)))))) Gd.no [],
   .mk (ldR false 1 (X.t (o (i (i (i (i z))))))) (.some (i (i (i (i (i z)))))) Gd.no [],
   .mk (callS Tryd.prog 53 [(X.t (i (o (i (i (i z)))))), (X.t (i (i (i (i (i z))))))]) (.some (o (o (o (o (o (o z))))))) Gd.no [],
   .mk (faR 7 (X.t (o (i (o z))))) (.some (i (o (o (o (o (o z))))))) Gd.no [],
   .mk (stR 1 (X.t (i (o (o (o (o (o z))))))) (X.t (o (o (o (o (o (o z)))))))) .none Gd.no []])
  (.seq (.region [.mk (ldR true 8 (X.t (o (i (o z))))) (.some (o (i (o (o (o (o z))))))) Gd.no [],
   .mk (stR 8 (X.t (i (i z))) (X.t (o (i (o (o (o (o z)))))))) .none Gd.no [],
   .mk (mvR (X.c AV.nili)) (.some (o (o (o z)))) Gd.no []])
  .ret)))))))
theorem C23ok : (match Tryd.f23.body with | some c => comp Tryd.prog 66 c | none => none) = some C23 := by kernel_rfl
@[go_sem] theorem call23 (args : List AV) (H : Heap) : callC Tryd.prog 23 args H = .call 23 args := callC_ok (by kernel_rfl) args H
theorem R23ok : resKs Tryd.prog Tryd.f23.results.toList = some [(RK.cell (i (i z)) true 8), (RK.tmp (o (o (o z))))] := by kernel_rfl

/- 26: estuary/estuaryref11.IsHistory -/
noncomputable def C26L0 : CC :=
  (.seq (.seq (.region [.mk (mvR (X.t (o (i z)))) (.some (o (o (o (o z))))) Gd.no [],
   .mk (mvR (X.t z)) (.some (i (o (o (o z))))) Gd.no [],
   .mk (lenR LnK.slice (X.t (i (o (o (o z)))))) (.some (o (i (o (o z))))) Gd.no [],
   .mk (binR Tryd.prog EK.no .none false BinOp.lss (X.t (o (o (o (o z))))) (X.t (o (i (o (o z)))))) (.some (i (i (o (o z))))) Gd.no []])
  (.cond (X.t (i (i (o (o z)))))
  .skip
  (.exit 0)))
  (.seq (.block 1 (.seq (.region [.mk (mvR (X.t (o z))) (.some (i (i (i (o z))))) Gd.no [],
   .mk (mvR (X.t z)) (.some (o (o (o (i z))))) Gd.no [],
   .mk (mvR (X.t (o (i z)))) (.some (i (o (o (i z))))) Gd.no [],
   .mk (iaS 4 (X.t (o (o (o (i z))))) (X.t (i (o (o (i z)))))) (.some (o (i (o (i z))))) Gd.no [],
   .mk (faR 0 (X.t (o (i (o (i z)))))) (.some (i (i (o (i z))))) Gd.no [],
   .mk (ldR false 1 (X.t (i (i (o (i z)))))) (.some (o (o (i (i z))))) Gd.no [],
   .mk (callS Tryd.prog 28 [(X.t (i (i (i (o z))))), (X.t (o (o (i (i z)))))]) (.some (i (o (i (i z))))) Gd.no [],
   .mk (mvR (X.t (i (o (i (i z)))))) (.some (o (i (i (o z))))) Gd.no [],
   .mk (extR (X.t (o (i (i (o z))))) 0) (.some (o (i (i (i z))))) Gd.no [],
   .mk (extR (X.t (o (i (i (o z))))) 1) (.some (i (i (i (i z))))) Gd.no [],
   .mk (fun _ H => newC false [(AV.str []), (AV.str []), (AV.int .i64 0), (AV.bool false), (AV.int .i64 0)] H) (.some (i (i z))) Gd.no [],
   .mk (stR 5 (X.t (i (i z))) (X.t (o (i (i (i z)))))) .none Gd.no [],
   .mk (mvR (X.t (i (i (i (i z)))))) (.some (o (o (o z)))) Gd.no []])
  (.seq (.region [.mk (mvR (X.t (o (o (o z))))) (.some (o (o (o (o (o z)))))) Gd.no [],
   .mk (unR UnOp.not (X.t (o (o (o (o (o z))))))) (.some (i (o (o (o (o z)))))) Gd.no [],
   .mk (mvR (X.t (i (o (o (o (o z))))))) (.some (o (i (o (o (o z)))))) Gd.no [],
   .mk (mvR (X.t z)) (.some (i (i (o (o (o z)))))) (Gd.on (o (i (o (o (o z))))) false) [],
   .mk (mvR (X.t (o (i z)))) (.some (o (o (i (o (o z)))))) (Gd.on (o (i (o (o (o z))))) false) [],
   .mk (iaS 4 (X.t (i (i (o (o (o z)))))) (X.t (o (o (i (o (o z))))))) (.some (i (o (i (o (o z)))))) (Gd.on (o (i (o (o (o z))))) false) [],
   .mk (ldR true 4 (X.t (i (o (i (o (o z))))))) (.some (o (i (i (o (o z)))))) (Gd.on (o (i (o (o (o z))))) false) [],
   .mk (callS Tryd.prog 56 [(X.t (o (i (i (o (o z))))))]) (.some (i (i (i (o (o z)))))) (Gd.on (o (i (o (o (o z))))) false) [],
   .mk (unR UnOp.not (X.t (i (i (i (o (o z))))))) (.some (o (o (o (i (o z)))))) (Gd.on (o (i (o (o (o z))))) false) [],
   .mk (pickR (X.t (o (i (o (o (o z)))))) (X.c (AV.bool true)) (X.t (o (o (o (i (o z))))))) (.some (i (o (o (i (o z)))))) Gd.no []])
  (.cond (X.t (i (o (o (i (o z))))))
  (.seq (.region [.mk (mvR (X.c (AV.bool false))) (.some (i (o z))) Gd.no []])
  .ret)
  .skip))))
  (.region [.mk (mvR (X.t (o (i z)))) (.some (o (o (i (o z))))) Gd.no [],
   .mk (binR Tryd.prog EK.no .none true BinOp.add (X.t (o (o (i (o z))))) (X.c (AV.int .i64 1))) (.some (i (o (i (o z))))) Gd.no [],
   .mk (mvR (X.t (i (o (i (o z)))))) (.some (o (i z))) Gd.no []])))
noncomputable def C26L1 : CC :=
  (.seq (.seq (.region [.mk (mvR (X.t (o (o (i z))))) (.some (o (i (i (o (i z)))))) Gd.no [],
   .mk (mvR (X.t z)) (.some (i (i (i (o (i z)))))) Gd.no [],
   .mk (lenR LnK.slice (X.t (i (i (i (o (i z))))))) (.some (o (o (o (i (i z)))))) Gd.no [],
   .mk (binR Tryd.prog EK.no .none false BinOp.lss (X.t (o (i (i (o (i z)))))) (X.t (o (o (o (i (i z))))))) (.some (i (o (o (i (i z)))))) Gd.no []])
  (.cond (X.t (i (o (o (i (i z))))))
  .skip
  (.exit 4)))
  (.seq (.block 5 (.seq (.seq (.regionD [.mk (keepH (faR 0 (X.t (o (i (o z)))))) (.some (i (o (o (o (o (o z))))))) Gd.no [],
   .mk (keepH (ldR false 1 (X.t (i (o (o (o (o (o z))))))))) (.some (o (i (o (o (o (o z))))))) Gd.no [],
   .mk (keepH (mvR (X.t (o (o (i z)))))) (.some (i (o (i (i (i z)))))) Gd.no [],
   .mk (keepH (mvR (X.t z))) (.some (o (o (i (i (i z)))))) Gd.no [],
   .mk (keepH (iaS 4 (X.t (o (o (i (i (i z)))))) (X.t (i (o (i (i (i z)))))))) (.some (o (i (i (i (i z)))))) Gd.no [],
   .mk (keepH (faR 0 (X.t (o (i (i (i (i z)))))))) (.some (i (i (i (i (i z)))))) Gd.no [],
   .mk (keepH (ldR false 1 (X.t (i (i (i (i (i z)))))))) (.some (o (o (o (o (o (o z))))))) Gd.no [],
   .mk (keepH (binR Tryd.prog EK.no .none false BinOp.neq (X.t (o (o (o (o (o (o z))))))) (X.t (o (i (o (o (o (o z))))))))) (.some (i (i (o (o (o (o z))))))) Gd.no []])
  (.cond (X.t (i (i (o (o (o (o z)))))))
  (.exit 5)
  .skip))
  (.seq (.region [.mk (mvR (X.t (i (i (o z))))) (.some (o (o (i (o (o (o z))))))) Gd.no [],
   .mk (binR Tryd.prog EK.no .none true BinOp.add (X.t (o (o (i (o (o (o z))))))) (X.c (AV.int .i64 1))) (.some (i (o (i (o (o (o z))))))) Gd.no [],
   .mk (mvR (X.t (i (o (i (o (o (o z)))))))) (.some (i (i (o z)))) Gd.no []])
  (.seq (.regionD [.mk (keepH (mvR (X.t (i (i (o z)))))) (.some (i (i (o (i (o (o z))))))) Gd.no [],
   .mk (keepH (mvR (X.t (o (o (i z)))))) (.some (i (i (i (o (o (o z))))))) Gd.no [],
   .mk (keepH (mvR (X.t z))) (.some (o (i (i (o (o (o z))))))) Gd.no [],
   .mk (keepH (iaS 4 (X.t (o (i (i (o (o (o z))))))) (X.t (i (i (i (o (o (o z))))))))) (.some (o (o (o (i (o (o z))))))) Gd.no [],
   .mk (keepH (faR 1 (X.t (o (o (o (i (o (o z))))))))) (.some (i (o (o (i (o (o z))))))) Gd.no [],
   .mk (keepH (ldR false 1 (X.t (i (o (o (i (o (o z))))))))) (.some (o (i (o (i (o (o z))))))) Gd.no [],
   .mk (keepH (binR Tryd.prog EK.no .none false BinOp.neq (X.t (o (i (o (i (o (o z))))))) (X.t (i (i (o (i (o (o z))))))))) (.some (o (o (i (i (o (o z))))))) Gd.no [],
   .mk (keepH (mvR (X.t (o (o (i (i (o (o z))))))))) (.some (i (o (i (i (o (o z))))))) Gd.no [],
   .mk (keepH (faR 2 (X.t (o (i (o z)))))) (.some (i (i (i (i (o (o z))))))) (Gd.on (i (o (i (i (o (o z)))))) false) [],
   .mk (keepH (ldR false 1 (X.t (i (i (i (i (o (o z))))))))) (.some (o (o (o (o (i (o z))))))) (Gd.on (i (o (i (i (o (o z)))))) false) [],
   .mk (keepH (mvR (X.t (i (i (o z)))))) (.some (o (i (i (i (o (o z))))))) (Gd.on (i (o (i (i (o (o z)))))) false) [],
   .mk (keepH (binR Tryd.prog EK.no .none false BinOp.eql (X.t (o (i (i (i (o (o z))))))) (X.t (o (o (o (o (i (o z))))))))) (.some (i (o (o (o (i (o z))))))) (Gd.on (i (o (i (i (o (o z)))))) false) [],
   .mk (keepH (mvR (X.t (i (o (o (o (i (o z))))))))) (.some (o (i (o (o (i (o z))))))) (Gd.on (i (o (i (i (o (o z)))))) false) [],
   .mk (keepH (faR 1 (X.t (o (i (o z)))))) (.some (o (o (o (i (i (o z))))))) (Gd.on (o (i (o (o (i (o z)))))) true) [],
   .mk (keepH (ldR false 1 (X.t (o (o (o (i (i (o z))))))))) (.some (i (o (o (i (i (o z))))))) (Gd.on (o (i (o (o (i (o z)))))) true) [],
   .mk (keepH (mvR (X.t (o (o (i z)))))) (.some (o (o (i (o (i (o z))))))) (Gd.on (o (i (o (o (i (o z)))))) true) [],
   .mk (keepH (mvR (X.t z))) (.some (i (i (o (o (i (o z))))))) (Gd.on (o (i (o (o (i (o z)))))) true) [],
   .mk (keepH (iaS 4 (X.t (i (i (o (o (i (o z))))))) (X.t (o (o (i (o (i (o z))))))))) (.some (i (o (i (o (i (o z))))))) (Gd.on (o (i (o (o (i (o z)))))) true) [],
   .mk (keepH (faR 2 (X.t (i (o (i (o (i (o z))))))))) (.some (o (i (i (o (i (o z))))))) (Gd.on (o (i (o (o (i (o z)))))) true) [],
   .mk (keepH (ldR false 1 (X.t (o (i (i (o (i (o z))))))))) (.some (i (i (i (o (i (o z))))))) (Gd.on (o (i (o (o (i (o z)))))) true) [],
   .mk (keepH (binR Tryd.prog EK.no .none false BinOp.neq (X.t (i (i (i (o (i (o z))))))) (X.t (i (o (o (i (i (o z))))))))) (.some (o (i (o (i (i (o z))))))) (Gd.on (o (i (o (o (i (o z)))))) true) [],
   .mk (keepH (mvR (X.t (o (i (o (i (i (o z))))))))) (.some (i (i (o (i (i (o z))))))) (Gd.on (o (i (o (o (i (o z)))))) true) [],
   .mk (keepH (faR 3 (X.t (o (i (o z)))))) (.some (i (o (o (o (o (i z))))))) (Gd.on (i (i (o (i (i (o z)))))) false) [],
   .mk (keepH (ldR false 1 (X.t (i (o (o (o (o (i z))))))))) (.some (o (i (o (o (o (i z))))))) (Gd.on (i (i (o (i (i (o z)))))) false) [],
   .mk (keepH (mvR (X.t (o (o (i z)))))) (.some (i (o (i (i (i (o z))))))) (Gd.on (i (i (o (i (i (o z)))))) false) [],
   .mk (keepH (mvR (X.t z))) (.some (o (o (i (i (i (o z))))))) (Gd.on (i (i (o (i (i (o z)))))) false) [],
   .mk (keepH (iaS 4 (X.t (o (o (i (i (i (o z))))))) (X.t (i (o (i (i (i (o z))))))))) (.some (o (i (i (i (i (o z))))))) (Gd.on (i (i (o (i (i (o z)))))) false) [],
   .mk (keepH (faR 3 (X.t (o (i (i (i (i (o z))))))))) (.some (i (i (i (i (i (o z))))))) (Gd.on (i (i (o (i (i (o z)))))) false) [],
   .mk (keepH (ldR false 1 (X.t (i (i (i (i (i (o z))))))))) (.some (o (o (o (o (o (i z))))))) (Gd.on (i (i (o (i (i (o z)))))) false) [],
   .mk (keepH (binR Tryd.prog EK.bool .none false BinOp.neq (X.t (o (o (o (o (o (i z))))))) (X.t (o (i (o (o (o (i z))))))))) (.some (i (i (o (o (o (i z))))))) (Gd.on (i (i (o (i (i (o z)))))) false) [],
   .mk (keepH (pickR (X.t (i (i (o (i (i (o z))))))) (X.c (AV.bool true)) (X.t (i (i (o (o (o (i z))))))))) (.some (o (o (i (o (o (i z))))))) (Gd.on (o (i (o (o (i (o z)))))) true) [],
   .mk (keepH (pickR (X.t (o (i (o (o (i (o z))))))) (X.t (o (o (i (o (o (i z))))))) (X.c (AV.bool false)))) (.some (i (o (i (o (o (i z))))))) (Gd.on (i (o (i (i (o (o z)))))) false) [],
   .mk (keepH (pickR (X.t (i (o (i (i (o (o z))))))) (X.c (AV.bool true)) (X.t (i (o (i (o (o (i z))))))))) (.some (o (i (i (o (o (i z))))))) Gd.no []])
  (.cond (X.t (o (i (i (o (o (i z)))))))
  (.seq (.region [.mk (mvR (X.c (AV.bool false))) (.some (i (o z))) Gd.no []])
  .ret)
  .skip)))))
  (.region [.mk (mvR (X.t (o (o (i z))))) (.some (o (i (o (i (i z)))))) Gd.no [],
   .mk (binR Tryd.prog EK.no .none true BinOp.add (X.t (o (i (o (i (i z)))))) (X.c (AV.int .i64 1))) (.some (i (i (o (i (i z)))))) Gd.no [],
   .mk (mvR (X.t (i (i (o (i (i z))))))) (.some (o (o (i z)))) Gd.no []])))
noncomputable def C26L2 : CC :=
  (.seq (.seq (.region [.mk (mvR (X.t (i (o (o z))))) (.some (o (i (o (i (o z)))))) Gd.no [],
   .mk (mvR (X.t (o z))) (.some (i (i (o (i (o z)))))) Gd.no [],
   .mk (lenR LnK.slice (X.t (i (i (o (i (o z))))))) (.some (o (o (i (i (o z)))))) Gd.no [],
   .mk (binR Tryd.prog EK.no .none false BinOp.lss (X.t (o (i (o (i (o z)))))) (X.t (o (o (i (i (o z))))))) (.some (i (o (i (i (o z)))))) Gd.no []])
  (.cond (X.t (i (o (i (i (o z))))))
  .skip
  (.exit 2)))
  (.seq (.block 3 (.seq (.region [.mk (mvR (X.t (o z))) (.some (o (o (o (o (i z)))))) Gd.no [],
   .mk (mvR (X.t (i (o (o z))))) (.some (i (o (o (o (i z)))))) Gd.no [],
   .mk (iaS 5 (X.t (o (o (o (o (i z)))))) (X.t (i (o (o (o (i z))))))) (.some (o (i (o (o (i z)))))) Gd.no [],
   .mk (ldR true 5 (X.t (o (i (o (o (i z))))))) (.some (i (i (o (o (i z)))))) Gd.no [],
   .mk (fun _ H => newC false [(AV.str []), (AV.str []), (AV.int .i64 0), (AV.bool false), (AV.int .i64 0)] H) (.some (o (i (o z)))) Gd.no [],
   .mk (stR 5 (X.t (o (i (o z)))) (X.t (i (i (o (o (i z))))))) .none Gd.no []])
  (.seq (.region [.mk (faR 4 (X.t (o (i (o z))))) (.some (o (o (i (o (i z)))))) Gd.no [],
   .mk (ldR false 1 (X.t (o (o (i (o (i z))))))) (.some (i (o (i (o (i z)))))) Gd.no [],
   .mk (mvR (X.t (i (o (i (o (i z))))))) (.some (i (i (o z)))) Gd.no []])
  (.seq (.seq (.region [.mk (mvR (X.c (AV.int .i64 0))) (.some (o (o (i z)))) Gd.no []])
  (.block 4 (.loop C26L1)))
  (.seq (.region [.mk (mvR (X.t (i (i (o z))))) (.some (i (i (i (o (o (i z))))))) Gd.no [],
   .mk (faR 2 (X.t (o (i (o z))))) (.some (o (o (o (i (o (i z))))))) Gd.no [],
   .mk (ldR false 1 (X.t (o (o (o (i (o (i z)))))))) (.some (i (o (o (i (o (i z))))))) Gd.no [],
   .mk (binR Tryd.prog EK.no .none false BinOp.neq (X.t (i (i (i (o (o (i z))))))) (X.t (i (o (o (i (o (i z)))))))) (.some (o (i (o (i (o (i z))))))) Gd.no []])
  (.cond (X.t (o (i (o (i (o (i z)))))))
  (.seq (.region [.mk (mvR (X.c (AV.bool false))) (.some (i (o z))) Gd.no []])
  .ret)
  .skip))))))
  (.region [.mk (mvR (X.t (i (o (o z))))) (.some (o (i (i (i (o z)))))) Gd.no [],
   .mk (binR Tryd.prog EK.no .none true BinOp.add (X.t (o (i (i (i (o z)))))) (X.c (AV.int .i64 1))) (.some (i (i (i (i (o z)))))) Gd.no [],
   .mk (mvR (X.t (i (i (i (i (o z))))))) (.some (i (o (o z)))) Gd.no []])))
noncomputable def C26 : CC :=
  (.seq (.region [.mk (mvR (X.c (AV.bool false))) (.some (i (o z))) Gd.no []])
  (.seq (.seq (.region [.mk (mvR (X.t (o z))) (.some (i (o (i z)))) Gd.no [],
   .mk (callS Tryd.prog 55 [(X.t (i (o (i z))))]) (.some (o (i (i z)))) Gd.no [],
   .mk (unR UnOp.not (X.t (o (i (i z))))) (.some (i (i (i z)))) Gd.no []])
  (.cond (X.t (i (i (i z))))
  (.seq (.region [.mk (mvR (X.c (AV.bool false))) (.some (i (o z))) Gd.no []])
  .ret)
  .skip))
  (.seq (.seq (.region [.mk (mvR (X.c (AV.int .i64 0))) (.some (o (i z))) Gd.no []])
  (.block 0 (.loop C26L0)))
  (.seq (.seq (.region [.mk (mvR (X.c (AV.int .i64 0))) (.some (i (o (o z)))) Gd.no []])
  (.block 2 (.loop C26L2)))
  (.seq (.region [.mk (mvR (X.c (AV.bool true))) (.some (i (o z))) Gd.no []])
  .ret)))))
theorem C26ok : (match Tryd.f26.body with | some c => comp Tryd.prog 106 c | none => none) = some C26 := by kernel_rfl
@[go_sem] theorem call26 (args : List AV) (H : Heap) : callC Tryd.prog 26 args H = .call 26 args := callC_ok (by kernel_rfl) args H
theorem R26ok : resKs Tryd.prog Tryd.f26.results.toList = some [(RK.tmp (i (o z)))] := by kernel_rfl

/- 29: estuary/estuaryref15.Feed -/
noncomputable def C29 : CC :=
  (.seq (.region [.mk (boxR false (X.t z)) (.some (i (o z))) Gd.no [],
   .mk (boxR false (X.t (o z))) (.some (o (i z))) Gd.no [],
   .mk (mvR (X.c AV.nils)) (.some (i (o (o z)))) Gd.no [],
   .mk (mvR (X.c (AV.bool false))) (.some (o (i (o z)))) Gd.no []])
  (.seq (.region [.mk (faR 2 (X.t (i (o z)))) (.some (o (i (i z)))) Gd.no [],
   .mk (ldR true 2 (X.t (o (i (i z))))) (.some (i (i (i z)))) Gd.no [],
   .mk (ldR true 2 (X.t (o (i z)))) (.some (o (o (o (o z))))) Gd.no [],
   .mk (callS Tryd.prog 14 [(X.t (i (i (i z)))), (X.t (o (o (o (o z)))))]) (.some (i (o (o (o z))))) Gd.no [],
   .mk (mvR (X.t (i (o (o (o z)))))) (.some (i (o (i z)))) Gd.no [],
   .mk (extR (X.t (i (o (i z)))) 0) (.some (o (i (o (o z))))) Gd.no [],
   .mk (extR (X.t (i (o (i z)))) 1) (.some (i (i (o (o z))))) Gd.no [],
   .mk (fun _ H => newC false [(AV.str []), (AV.str [])] H) (.some (i (i (o z)))) Gd.no [],
   .mk (stR 2 (X.t (i (i (o z)))) (X.t (o (i (o (o z)))))) .none Gd.no [],
   .mk (mvR (X.t (i (i (o (o z)))))) (.some (o (o (i z)))) Gd.no []])
  (.seq (.seq (.region [.mk (mvR (X.t (o (o (i z))))) (.some (o (o (i (o z))))) Gd.no [],
   .mk (unR UnOp.not (X.t (o (o (i (o z)))))) (.some (i (o (i (o z))))) Gd.no []])
  (.cond (X.t (i (o (i (o z)))))
  (.seq (.region [.mk (mvR (X.c AV.nils)) (.some (i (o (o z)))) Gd.no [],
   .mk (mvR (X.c (AV.bool false))) (.some (o (i (o z)))) Gd.no []])
  .ret)
  .skip))
  (.seq (.region [.mk (faR 6 (X.t (i (o z)))) (.some (o (i (i (o z))))) Gd.no [],
   .mk (ldR false 1 (X.t (o (i (i (o z)))))) (.some (i (i (i (o z))))) Gd.no [],
   .mk (faR 5 (X.t (i (o z)))) (.some (o (o (o (i z))))) Gd.no [],
   .mk (ldR false 1 (X.t (o (o (o (i z)))))) (.some (i (o (o (i z))))) Gd.no [],
   .mk (ldR true 2 (X.t (i (i (o z))))) (.some (o (i (o (i z))))) Gd.no [],
   .mk (mvR (X.t (i z))) (.some (i (i (o (i z))))) Gd.no [],
   .mk (mvR (X.t (o (o z)))) (.some (o (o (i (i z))))) Gd.no [],
   .mk (mmR false (X.t (o (o (i (i z))))) (X.c (AV.int .i64 8))) (.some (i (o (i (i z))))) Gd.no [],
   .mk (mmR true (X.c (AV.int .i64 0)) (X.t (i (o (i (i z)))))) (.some (o (i (i (i z))))) Gd.no [],
   .mk (callS Tryd.prog 58 [(X.t (i (i (i (o z))))), (X.t (i (o (o (i z))))), (X.t (o (i (o (i z))))), (X.t (i (i (o (i z))))), (X.t (o (i (i (i z)))))]) (.some (i (i (i (i z))))) Gd.no [],
   .mk (extR (X.t (i (i (i (i z))))) 0) (.some (o (o (o (o (o z)))))) Gd.no [],
   .mk (extR (X.t (i (i (i (i z))))) 1) (.some (i (o (o (o (o z)))))) Gd.no [],
   .mk (mvR (X.t (o (o (o (o (o z))))))) (.some (i (o (o z)))) Gd.no [],
   .mk (mvR (X.t (i (o (o (o (o z))))))) (.some (o (i (o z)))) Gd.no []])
  .ret))))
theorem C29ok : (match Tryd.f29.body with | some c => comp Tryd.prog 33 c | none => none) = some C29 := by kernel_rfl
@[go_sem] theorem call29 (args : List AV) (H : Heap) : callC Tryd.prog 29 args H = .call 29 args := callC_ok (by kernel_rfl) args H
theorem R29ok : resKs Tryd.prog Tryd.f29.results.toList = some [(RK.tmp (i (o (o z)))), (RK.tmp (o (i (o z))))] := by kernel_rfl

/- 39: estuary/estuaryref1.low -/
noncomputable def C39 : CC :=
  (.seq (.region [.mk (mvR (X.c (AV.str []))) (.some (i (o z))) Gd.no []])
  (.seq (.seq (.region [.mk (mvR (X.t z)) (.some (o (i z))) Gd.no [],
   .mk (binR Tryd.prog EK.no .none true BinOp.eql (X.t (o (i z))) (X.c (AV.str []))) (.some (i (i z))) Gd.no [],
   .mk (mvR (X.t (i (i z)))) (.some (o (o (o z)))) Gd.no [],
   .mk (mvR (X.t (o z))) (.some (i (o (o z)))) (Gd.on (o (o (o z))) false) [],
   .mk (binR Tryd.prog EK.no .none true BinOp.neq (X.t (i (o (o z)))) (X.c (AV.str []))) (.some (o (i (o z)))) (Gd.on (o (o (o z))) false) [],
   .mk (mvR (X.t (o (i (o z))))) (.some (i (i (o z)))) (Gd.on (o (o (o z))) false) [],
   .mk (mvR (X.t (o z))) (.some (o (o (i z)))) (Gd.on (i (i (o z))) true) [],
   .mk (mvR (X.t z)) (.some (i (o (i z)))) (Gd.on (i (i (o z))) true) [],
   .mk (binR Tryd.prog EK.no .none false BinOp.lss (X.t (o (o (i z)))) (X.t (i (o (i z))))) (.some (o (i (i z)))) (Gd.on (i (i (o z))) true) [],
   .mk (pickR (X.t (i (i (o z)))) (X.t (o (i (i z)))) (X.c (AV.bool false))) (.some (i (i (i z)))) (Gd.on (o (o (o z))) false) [],
   .mk (pickR (X.t (o (o (o z)))) (X.c (AV.bool true)) (X.t (i (i (i z))))) (.some (o (o (o (o z))))) Gd.no []])
  (.cond (X.t (o (o (o (o z)))))
  (.seq (.region [.mk (mvR (X.t (o z))) (.some (i (o (o (o z))))) Gd.no [],
   .mk (mvR (X.t (i (o (o (o z)))))) (.some (i (o z))) Gd.no []])
  .ret)
  .skip))
  (.seq (.region [.mk (mvR (X.t z)) (.some (o (i (o (o z))))) Gd.no [],
   .mk (mvR (X.t (o (i (o (o z)))))) (.some (i (o z))) Gd.no []])
  .ret)))
theorem C39ok : (match Tryd.f39.body with | some c => comp Tryd.prog 18 c | none => none) = some C39 := by kernel_rfl
@[go_sem] theorem call39 (args : List AV) (H : Heap) : callC Tryd.prog 39 args H = .call 39 args := callC_ok (by kernel_rfl) args H
theorem R39ok : resKs Tryd.prog Tryd.f39.results.toList = some [(RK.tmp (i (o z)))] := by kernel_rfl

/- 42: estuary/cut.fits -/
noncomputable def C42 : CC :=
  (.seq (.region [.mk (boxR false (X.t z)) (.some (o z)) Gd.no [],
   .mk (mvR (X.c AV.nili)) (.some (i z)) Gd.no []])
  (.seq (.block 0 (.seq (.block 2 (.block 1 (.seq (.seq (.seq (.region [.mk (ldR true 8 (X.t (o z))) (.some (i (o z))) Gd.no [],
   .mk (callS Tryd.prog 70 [(X.t (i (o z)))]) (.some (o (i z))) Gd.no [],
   .mk (unR UnOp.not (X.t (o (i z)))) (.some (i (i z))) Gd.no [],
   .mk (mvR (X.t (i (i z)))) (.some (o (o z))) Gd.no []])
  (.cond (X.t (o (o z)))
  (.exit 1)
  .skip))
  (.seq (.region [.mk (faR 4 (X.t (o z))) (.some (i (o (o z)))) Gd.no [],
   .mk (ldR false 1 (X.t (i (o (o z))))) (.some (o (i (o z)))) Gd.no [],
   .mk (mvR (X.t (o (i (o z))))) (.some (o (o (o z)))) Gd.no []])
  (.cond (X.t (o (o (o z))))
  (.exit 2)
  .skip)))
  (.exit 0))))
  (.seq (.seq (.region [.mk (mkiR 71 (X.c (AV.int .i64 10))) (.some (i (i (o z)))) Gd.no [],
   .mk (mvR (X.t (i (i (o z))))) (.some (i z)) Gd.no []])
  .ret)
  (.exit 0))))
  (.seq (.region [.mk (mvR (X.c AV.nili)) (.some (i z)) Gd.no []])
  .ret)))
theorem C42ok : (match Tryd.f42.body with | some c => comp Tryd.prog 11 c | none => none) = some C42 := by kernel_rfl
@[go_sem] theorem call42 (args : List AV) (H : Heap) : callC Tryd.prog 42 args H = .call 42 args := callC_ok (by kernel_rfl) args H
theorem R42ok : resKs Tryd.prog Tryd.f42.results.toList = some [(RK.tmp (i z))] := by kernel_rfl

/- 43: estuary/cut.isID -/
noncomputable def C43 : CC :=
  (.seq (.region [.mk (mvR (X.c (AV.bool false))) (.some (i z)) Gd.no []])
  (.seq (.region [.mk (mvR (X.t z)) (.some (o (o z))) Gd.no [],
   .mk (binR Tryd.prog EK.no .none true BinOp.geq (X.t (o (o z))) (X.c (AV.int .i64 1))) (.some (i (o z))) Gd.no [],
   .mk (mvR (X.t (i (o z)))) (.some (o (i z))) Gd.no [],
   .mk (mvR (X.t z)) (.some (i (i z))) (Gd.on (o (i z)) true) [],
   .mk (binR Tryd.prog EK.no .none true BinOp.leq (X.t (i (i z))) (X.c (AV.int .i64 1000000000000))) (.some (o (o (o z)))) (Gd.on (o (i z)) true) [],
   .mk (pickR (X.t (o (i z))) (X.t (o (o (o z)))) (X.c (AV.bool false))) (.some (i (o (o z)))) Gd.no [],
   .mk (mvR (X.t (i (o (o z))))) (.some (i z)) Gd.no []])
  .ret))
theorem C43ok : (match Tryd.f43.body with | some c => comp Tryd.prog 9 c | none => none) = some C43 := by kernel_rfl
@[go_sem] theorem call43 (args : List AV) (H : Heap) : callC Tryd.prog 43 args H = .call 43 args := callC_ok (by kernel_rfl) args H
theorem R43ok : resKs Tryd.prog Tryd.f43.results.toList = some [(RK.tmp (i z))] := by kernel_rfl

/- 44: estuary/span.Cut -/
noncomputable def C44 : CC :=
  (.seq (.region [.mk (boxR false (X.t z)) (.some (i z)) Gd.no [],
   .mk (fun _ H => newC false [(AV.str []), (AV.str [])] H) (.some (i (o z))) Gd.no [],
   .mk (fun _ H => newC false [(AV.str []), (AV.str [])] H) (.some (o (i z))) Gd.no [],
   .mk (mvR (X.c (AV.bool false))) (.some (i (i z))) Gd.no []])
  (.seq (.seq (.region [.mk (ldR true 2 (X.t (i z))) (.some (o (o (o z)))) Gd.no [],
   .mk (mvR (X.t (o z))) (.some (i (o (o z)))) Gd.no [],
   .mk (callS Tryd.prog 65 [(X.t (o (o (o z)))), (X.t (i (o (o z))))]) (.some (o (i (o z)))) Gd.no [],
   .mk (unR UnOp.not (X.t (o (i (o z))))) (.some (i (i (o z)))) Gd.no [],
   .mk (mvR (X.t (i (i (o z))))) (.some (o (o (i z)))) Gd.no [],
   .mk (mvR (X.t (o z))) (.some (i (o (i z)))) (Gd.on (o (o (i z))) false) [],
   .mk (faR 0 (X.t (i z))) (.some (o (i (i z)))) (Gd.on (o (o (i z))) false) [],
   .mk (ldR false 1 (X.t (o (i (i z))))) (.some (i (i (i z)))) (Gd.on (o (o (i z))) false) [],
   .mk (binR Tryd.prog EK.no .none false BinOp.leq (X.t (i (o (i z)))) (X.t (i (i (i z))))) (.some (o (o (o (o z))))) (Gd.on (o (o (i z))) false) [],
   .mk (pickR (X.t (o (o (i z)))) (X.c (AV.bool true)) (X.t (o (o (o (o z)))))) (.some (i (o (o (o z))))) Gd.no []])
  (.cond (X.t (i (o (o (o z)))))
  (.seq (.region [.mk (buildR [(AV.str []), (AV.str [])] []) (.some (o (i (o (o z))))) Gd.no [],
   .mk (buildR [(AV.str []), (AV.str [])] []) (.some (i (i (o (o z))))) Gd.no [],
   .mk (stR 2 (X.t (i (o z))) (X.t (o (i (o (o z)))))) .none Gd.no [],
   .mk (stR 2 (X.t (o (i z))) (X.t (i (i (o (o z)))))) .none Gd.no [],
   .mk (mvR (X.c (AV.bool false))) (.some (i (i z))) Gd.no []])
  .ret)
  .skip))
  (.seq (.regionD [.mk (keepH (faR 1 (X.t (i z)))) (.some (i (o (o (i z))))) Gd.no [],
   .mk (keepH (ldR false 1 (X.t (i (o (o (i z))))))) (.some (o (i (o (i z))))) Gd.no [],
   .mk (keepH (mvR (X.t (o z)))) (.some (o (o (o (i z))))) Gd.no [],
   .mk (keepH (buildR [(AV.str []), (AV.str [])] [(0, (1, (X.t (o (o (o (i z))))))), (1, (1, (X.t (o (i (o (i z)))))))])) (.some (i (i (o (i z))))) Gd.no [],
   .mk (keepH (mvR (X.t (o z)))) (.some (o (i (i (o z))))) Gd.no [],
   .mk (keepH (faR 0 (X.t (i z)))) (.some (o (o (i (o z))))) Gd.no [],
   .mk (keepH (ldR false 1 (X.t (o (o (i (o z))))))) (.some (i (o (i (o z))))) Gd.no [],
   .mk (keepH (buildR [(AV.str []), (AV.str [])] [(0, (1, (X.t (i (o (i (o z))))))), (1, (1, (X.t (o (i (i (o z)))))))])) (.some (i (i (i (o z))))) Gd.no [],
   .mk (stR 2 (X.t (i (o z))) (X.t (i (i (i (o z)))))) .none Gd.no [.mk (buildR [(AV.str []), (AV.str [])] [(0, (1, (X.t (o (o (o (i z))))))), (1, (1, (X.t (o (i (o (i z)))))))]) (.some (i (i (o (i z))))) Gd.no, .mk (mvR (X.t (o z))) (.some (o (o (o (i z))))) Gd.no, .mk (ldR false 1 (X.t (i (o (o (i z)))))) (.some (o (i (o (i z))))) Gd.no, .mk (faR 1 (X.t (i z))) (.some (i (o (o (i z))))) Gd.no],
   .mk (stR 2 (X.t (o (i z))) (X.t (i (i (o (i z)))))) .none Gd.no [],
   .mk (mvR (X.c (AV.bool true))) (.some (i (i z))) Gd.no []])
  .ret)))
theorem C44ok : (match Tryd.f44.body with | some c => comp Tryd.prog 27 c | none => none) = some C44 := by kernel_rfl
@[go_sem] theorem call44 (args : List AV) (H : Heap) : callC Tryd.prog 44 args H = .call 44 args := callC_ok (by kernel_rfl) args H
theorem R44ok : resKs Tryd.prog Tryd.f44.results.toList = some [(RK.cell (i (o z)) true 2), (RK.cell (o (i z)) true 2), (RK.tmp (i (i z)))] := by kernel_rfl

/- 45: estuary/cut.part -/
noncomputable def C45L0 : CC :=
  (.seq (.region [.mk (binR Tryd.prog EK.no .none false BinOp.lss (X.t (o (i (i (o z))))) (X.t (i (o (i (o z)))))) (.some (i (i (i (o z))))) Gd.no []])
  (.seq (.cond (X.t (i (i (i (o z)))))
  .skip
  (.exit 0))
  (.seq (.block 1 (.seq (.region [.mk (iaS 4 (X.t (o (o (i (o z))))) (X.t (o (i (i (o z)))))) (.some (o (o (o (i z))))) Gd.no [],
   .mk (ldR true 4 (X.t (o (o (o (i z)))))) (.some (i (o (o (i z))))) Gd.no [],
   .mk (fun _ H => newC false [(AV.str []), (AV.int .i64 0), (AV.str []), (AV.bool false)] H) (.some (o (i (o z)))) Gd.no [],
   .mk (stR 4 (X.t (o (i (o z)))) (X.t (i (o (o (i z)))))) .none Gd.no []])
  (.seq (.region [.mk (ldR true 2 (X.t (o (i z)))) (.some (o (i (o (i z))))) Gd.no [],
   .mk (faR 0 (X.t (o (i (o z))))) (.some (i (i (o (i z))))) Gd.no [],
   .mk (ldR false 1 (X.t (i (i (o (i z)))))) (.some (o (o (i (i z))))) Gd.no [],
   .mk (callS Tryd.prog 65 [(X.t (o (i (o (i z))))), (X.t (o (o (i (i z)))))]) (.some (i (o (i (i z))))) Gd.no []])
  (.cond (X.t (i (o (i (i z)))))
  (.region [.mk (faR 6 (X.t (o (o (o z))))) (.some (o (i (i (i z))))) Gd.no [],
   .mk (ldR false 1 (X.t (o (i (i (i z)))))) (.some (i (i (i (i z))))) Gd.no [],
   .mk (ldR true 4 (X.t (o (i (o z))))) (.some (o (o (o (o (o z)))))) Gd.no [],
   .mk (bslR 4 1 [(AV.str []), (AV.int .i64 0), (AV.str []), (AV.bool false)] [(0, (X.t (o (o (o (o (o z)))))))]) (.some (i (o (o (o (o z)))))) Gd.no [],
   .mk (appR 4 48 (X.t (i (i (i (i z))))) (X.t (i (o (o (o (o z))))))) (.some (o (i (o (o (o z)))))) Gd.no [],
   .mk (faR 6 (X.t (o (o (o z))))) (.some (i (i (o (o (o z)))))) Gd.no [],
   .mk (stR 1 (X.t (i (i (o (o (o z)))))) (X.t (o (i (o (o (o z))))))) .none Gd.no []])
  .skip))))
  (.region [.mk (binR Tryd.prog EK.no .none true BinOp.add (X.t (o (i (i (o z))))) (X.c (AV.int .i64 1))) (.some (o (o (i (o (o z)))))) Gd.no [],
   .mk (mvR (X.t (o (o (i (o (o z))))))) (.some (o (i (i (o z))))) Gd.no []]))))
noncomputable def C45 : CC :=
  (.seq (.region [.mk (boxR false (X.t z)) (.some (o (o z))) Gd.no [],
   .mk (boxR false (X.t (i z))) (.some (o (i z))) Gd.no [],
   .mk (fun _ H => newC false [(AV.int .i64 0), (AV.int .i64 0), (AV.str []), (AV.str []), (AV.bool false), AV.nils, AV.nils, AV.nils] H) (.some (i (i z))) Gd.no []])
  (.seq (.region [.mk (mvR (X.t (o z))) (.some (i (i (o z)))) Gd.no [],
   .mk (ldR true 2 (X.t (o (i z)))) (.some (o (o (i z)))) Gd.no [],
   .mk (callS Tryd.prog 49 [(X.t (i (i (o z)))), (X.c (AV.int .i64 1)), (X.t (o (o (i z))))]) (.some (i (o (i z)))) Gd.no [],
   .mk (fun _ H => newC false [(AV.int .i64 0), (AV.int .i64 0), (AV.str []), (AV.str []), (AV.bool false), AV.nils, AV.nils, AV.nils] H) (.some (o (o (o z)))) Gd.no [],
   .mk (stR 8 (X.t (o (o (o z)))) (X.t (i (o (i z))))) .none Gd.no []])
  (.seq (.region [.mk (faR 5 (X.t (o (o z)))) (.some (o (i (i z)))) Gd.no [],
   .mk (ldR false 1 (X.t (o (i (i z))))) (.some (i (i (i z)))) Gd.no [],
   .mk (ldR true 2 (X.t (o (i z)))) (.some (o (o (o (o z))))) Gd.no [],
   .mk (callS Tryd.prog 71 [(X.t (i (i (i z)))), (X.t (o (o (o (o z)))))]) (.some (i (o (o (o z))))) Gd.no [],
   .mk (faR 5 (X.t (o (o (o z))))) (.some (o (i (o (o z))))) Gd.no [],
   .mk (stR 1 (X.t (o (i (o (o z))))) (X.t (i (o (o (o z)))))) .none Gd.no []])
  (.seq (.seq (.region [.mk (faR 6 (X.t (o (o z)))) (.some (i (i (o (o z))))) Gd.no [],
   .mk (ldR false 1 (X.t (i (i (o (o z)))))) (.some (o (o (i (o z))))) Gd.no [],
   .mk (lenR LnK.slice (X.t (o (o (i (o z)))))) (.some (i (o (i (o z))))) Gd.no [],
   .mk (mvR (X.c (AV.int .i64 0))) (.some (o (i (i (o z))))) Gd.no []])
  (.block 0 (.loop C45L0)))
  (.seq (.region [.mk (faR 7 (X.t (o (o z)))) (.some (i (o (i (o (o z)))))) Gd.no [],
   .mk (ldR false 1 (X.t (i (o (i (o (o z))))))) (.some (o (i (i (o (o z)))))) Gd.no [],
   .mk (callS Tryd.prog 72 [(X.t (o (i (i (o (o z))))))]) (.some (i (i (i (o (o z)))))) Gd.no [],
   .mk (faR 7 (X.t (o (o (o z))))) (.some (o (o (o (i (o z)))))) Gd.no [],
   .mk (stR 1 (X.t (o (o (o (i (o z)))))) (X.t (i (i (i (o (o z))))))) .none Gd.no []])
  (.seq (.region [.mk (ldR true 8 (X.t (o (o (o z))))) (.some (i (o (o (i (o z)))))) Gd.no [],
   .mk (stR 8 (X.t (i (i z))) (X.t (i (o (o (i (o z))))))) .none Gd.no []])
  .ret))))))
theorem C45ok : (match Tryd.f45.body with | some c => comp Tryd.prog 41 c | none => none) = some C45 := by kernel_rfl
@[go_sem] theorem call45 (args : List AV) (H : Heap) : callC Tryd.prog 45 args H = .call 45 args := callC_ok (by kernel_rfl) args H
theorem R45ok : resKs Tryd.prog Tryd.f45.results.toList = some [(RK.cell (i (i z)) true 8)] := by kernel_rfl

/- 47: estuary/cut.cmpErr -/
noncomputable def C47 : CC :=
  (.seq (.region [.mk (mvR (X.c AV.nili)) (.some (i (o z))) Gd.no []])
  (.seq (.seq (.region [.mk (mvR (X.t z)) (.some (o (i z))) Gd.no [],
   .mk (binR Tryd.prog EK.iface .none true BinOp.neq (X.t (o (i z))) (X.c AV.nili)) (.some (i (i z))) Gd.no []])
  (.cond (X.t (i (i z)))
  (.seq (.region [.mk (mvR (X.t z)) (.some (o (o (o z)))) Gd.no [],
   .mk (mvR (X.t (o (o (o z))))) (.some (i (o z))) Gd.no []])
  .ret)
  .skip))
  (.seq (.region [.mk (mvR (X.t (o z))) (.some (i (o (o z)))) Gd.no [],
   .mk (mvR (X.t (i (o (o z))))) (.some (i (o z))) Gd.no []])
  .ret)))
theorem C47ok : (match Tryd.f47.body with | some c => comp Tryd.prog 9 c | none => none) = some C47 := by kernel_rfl
@[go_sem] theorem call47 (args : List AV) (H : Heap) : callC Tryd.prog 47 args H = .call 47 args := callC_ok (by kernel_rfl) args H
theorem R47ok : resKs Tryd.prog Tryd.f47.results.toList = some [(RK.tmp (i (o z)))] := by kernel_rfl

/- 48: estuary/span.Touch -/
noncomputable def C48 : CC :=
  (.seq (.region [.mk (boxR false (X.t z)) (.some (i z)) Gd.no [],
   .mk (boxR false (X.t (o z))) (.some (o (o z))) Gd.no [],
   .mk (mvR (X.c (AV.bool false))) (.some (i (o z))) Gd.no []])
  (.seq (.region [.mk (ldR true 2 (X.t (i z))) (.some (o (i z))) Gd.no [],
   .mk (callS Tryd.prog 59 [(X.t (o (i z)))]) (.some (i (i z))) Gd.no [],
   .mk (mvR (X.t (i (i z)))) (.some (o (o (o z)))) Gd.no [],
   .mk (ldR true 2 (X.t (o (o z)))) (.some (i (o (o z)))) (Gd.on (o (o (o z))) true) [],
   .mk (callS Tryd.prog 59 [(X.t (i (o (o z))))]) (.some (o (i (o z)))) (Gd.on (o (o (o z))) true) [],
   .mk (pickR (X.t (o (o (o z)))) (X.t (o (i (o z)))) (X.c (AV.bool false))) (.some (i (i (o z)))) Gd.no [],
   .mk (mvR (X.t (i (i (o z))))) (.some (o (o (i z)))) Gd.no [],
   .mk (faR 1 (X.t (i z))) (.some (i (o (i z)))) (Gd.on (o (o (i z))) true) [],
   .mk (ldR false 1 (X.t (i (o (i z))))) (.some (o (i (i z)))) (Gd.on (o (o (i z))) true) [],
   .mk (binR Tryd.prog EK.no .none true BinOp.neq (X.t (o (i (i z)))) (X.c (AV.str []))) (.some (i (i (i z)))) (Gd.on (o (o (i z))) true) [],
   .mk (pickR (X.t (o (o (i z)))) (X.t (i (i (i z)))) (X.c (AV.bool false))) (.some (o (o (o (o z))))) Gd.no [],
   .mk (mvR (X.t (o (o (o (o z)))))) (.some (i (o (o (o z))))) Gd.no [],
   .mk (faR 1 (X.t (i z))) (.some (o (i (o (o z))))) (Gd.on (i (o (o (o z)))) true) [],
   .mk (ldR false 1 (X.t (o (i (o (o z)))))) (.some (i (i (o (o z))))) (Gd.on (i (o (o (o z)))) true) [],
   .mk (faR 0 (X.t (o (o z)))) (.some (o (o (i (o z))))) (Gd.on (i (o (o (o z)))) true) [],
   .mk (ldR false 1 (X.t (o (o (i (o z)))))) (.some (i (o (i (o z))))) (Gd.on (i (o (o (o z)))) true) [],
   .mk (binR Tryd.prog EK.no .none false BinOp.eql (X.t (i (i (o (o z))))) (X.t (i (o (i (o z)))))) (.some (o (i (i (o z))))) (Gd.on (i (o (o (o z)))) true) [],
   .mk (pickR (X.t (i (o (o (o z))))) (X.t (o (i (i (o z))))) (X.c (AV.bool false))) (.some (i (i (i (o z))))) Gd.no [],
   .mk (mvR (X.t (i (i (i (o z)))))) (.some (i (o z))) Gd.no []])
  .ret))
theorem C48ok : (match Tryd.f48.body with | some c => comp Tryd.prog 23 c | none => none) = some C48 := by kernel_rfl
@[go_sem] theorem call48 (args : List AV) (H : Heap) : callC Tryd.prog 48 args H = .call 48 args := callC_ok (by kernel_rfl) args H
theorem R48ok : resKs Tryd.prog Tryd.f48.results.toList = some [(RK.tmp (i (o z)))] := by kernel_rfl

/- 49: estuary/shard.New -/
noncomputable def C49 : CC :=
  (.seq (.region [.mk (boxR false (X.t (i z))) (.some (o (i z))) Gd.no [],
   .mk (fun _ H => newC false [(AV.int .i64 0), (AV.int .i64 0), (AV.str []), (AV.str []), (AV.bool false), AV.nils, AV.nils, AV.nils] H) (.some (i (i z))) Gd.no []])
  (.seq (.region [.mk (mvR (X.t z)) (.some (o (o (o z)))) Gd.no [],
   .mk (mvR (X.t (o z))) (.some (i (o (o z)))) Gd.no [],
   .mk (ldR true 2 (X.t (o (i z)))) (.some (o (i (o z)))) Gd.no [],
   .mk (buildR [(AV.int .i64 0), (AV.int .i64 0), (AV.str []), (AV.str []), (AV.bool false), AV.nils, AV.nils, AV.nils] [(0, (1, (X.t (o (o (o z)))))), (1, (1, (X.t (i (o (o z)))))), (2, (2, (X.t (o (i (o z))))))]) (.some (i (i (o z)))) Gd.no [],
   .mk (stR 8 (X.t (i (i z))) (X.t (i (i (o z))))) .none Gd.no []])
  .ret))
theorem C49ok : (match Tryd.f49.body with | some c => comp Tryd.prog 11 c | none => none) = some C49 := by kernel_rfl
@[go_sem] theorem call49 (args : List AV) (H : Heap) : callC Tryd.prog 49 args H = .call 49 args := callC_ok (by kernel_rfl) args H
theorem R49ok : resKs Tryd.prog Tryd.f49.results.toList = some [(RK.cell (i (i z)) true 8)] := by kernel_rfl

/- 50: estuary/history.Keep -/
noncomputable def C50L0 : CC :=
  (.seq (.region [.mk (binR Tryd.prog EK.no .none false BinOp.lss (X.t (o (o (o (o (o z)))))) (X.t (i (i (i (i z)))))) (.some (i (o (o (o (o z)))))) Gd.no []])
  (.seq (.cond (X.t (i (o (o (o (o z))))))
  .skip
  (.exit 2))
  (.seq (.block 3 (.seq (.region [.mk (mvR (X.t (o (o (o (o (o z))))))) (.some (o (i (o (o (o z)))))) Gd.no [],
   .mk (mvR (X.t (o (i (o (o (o z))))))) (.some (i (o (i z)))) Gd.no []])
  (.seq (.regionD [.mk (keepH (faR 0 (X.t (o (o (i z)))))) (.some (o (o (o (i (o z)))))) Gd.no [],
   .mk (keepH (ldR false 1 (X.t (o (o (o (i (o z)))))))) (.some (i (o (o (i (o z)))))) Gd.no [],
   .mk (keepH (mvR (X.t (i (o (i z)))))) (.some (o (o (i (o (o z)))))) Gd.no [],
   .mk (keepH (mvR (X.t (o (i (o z)))))) (.some (i (i (o (o (o z)))))) Gd.no [],
   .mk (keepH (iaS 5 (X.t (i (i (o (o (o z)))))) (X.t (o (o (i (o (o z)))))))) (.some (i (o (i (o (o z)))))) Gd.no [],
   .mk (keepH (faR 0 (X.t (i (o (i (o (o z)))))))) (.some (o (i (i (o (o z)))))) Gd.no [],
   .mk (keepH (ldR false 1 (X.t (o (i (i (o (o z)))))))) (.some (i (i (i (o (o z)))))) Gd.no [],
   .mk (keepH (binR Tryd.prog EK.no .none false BinOp.eql (X.t (i (i (i (o (o z)))))) (X.t (i (o (o (i (o z)))))))) (.some (o (i (o (i (o z)))))) Gd.no []])
  (.cond (X.t (o (i (o (i (o z))))))
  (.regionD [.mk (keepH (faR 1 (X.t (o (o (i z)))))) (.some (o (i (o (o (i z)))))) Gd.no [],
   .mk (keepH (ldR false 1 (X.t (o (i (o (o (i z)))))))) (.some (i (i (o (o (i z)))))) Gd.no [],
   .mk (keepH (mvR (X.t (i (o (i z)))))) (.some (o (i (i (i (o z)))))) Gd.no [],
   .mk (keepH (mvR (X.t (o (i (o z)))))) (.some (i (o (i (i (o z)))))) Gd.no [],
   .mk (keepH (iaS 5 (X.t (i (o (i (i (o z)))))) (X.t (o (i (i (i (o z)))))))) (.some (i (i (i (i (o z)))))) Gd.no [],
   .mk (keepH (faR 4 (X.t (i (i (i (i (o z)))))))) (.some (o (o (o (o (i z)))))) Gd.no [],
   .mk (keepH (ldR false 1 (X.t (o (o (o (o (i z)))))))) (.some (i (o (o (o (i z)))))) Gd.no [],
   .mk (keepH (mmR true (X.t (i (o (o (o (i z)))))) (X.t (i (i (o (o (i z)))))))) (.some (o (o (i (o (i z)))))) Gd.no [],
   .mk (keepH (mvR (X.t (i (o (i z)))))) (.some (o (o (i (i (o z)))))) Gd.no [],
   .mk (keepH (mvR (X.t (o (i (o z)))))) (.some (i (i (o (i (o z)))))) Gd.no [],
   .mk (keepH (iaS 5 (X.t (i (i (o (i (o z)))))) (X.t (o (o (i (i (o z)))))))) (.some (i (o (i (o (i z)))))) Gd.no [],
   .mk (keepH (faR 4 (X.t (i (o (i (o (i z)))))))) (.some (o (i (i (o (i z)))))) Gd.no [],
   .mk (stR 1 (X.t (o (i (i (o (i z)))))) (X.t (o (o (i (o (i z))))))) .none Gd.no []])
  .skip))))
  (.region [.mk (binR Tryd.prog EK.no .none true BinOp.add (X.t (o (o (o (o (o z)))))) (X.c (AV.int .i64 1))) (.some (i (i (i (o (i z)))))) Gd.no [],
   .mk (mvR (X.t (i (i (i (o (i z))))))) (.some (o (o (o (o (o z)))))) Gd.no []]))))
noncomputable def C50L1 : CC :=
  (.seq (.region [.mk (binR Tryd.prog EK.no .none false BinOp.lss (X.t (o (i (o (i z))))) (X.t (i (o (o (i z)))))) (.some (i (i (o (i z))))) Gd.no []])
  (.seq (.cond (X.t (i (i (o (i z)))))
  .skip
  (.exit 0))
  (.seq (.block 1 (.seq (.region [.mk (iaS 4 (X.t (o (o (o (i z))))) (X.t (o (i (o (i z)))))) (.some (o (o (i (i z))))) Gd.no [],
   .mk (ldR true 4 (X.t (o (o (i (i z)))))) (.some (i (o (i (i z))))) Gd.no [],
   .mk (fun _ H => newC false [(AV.str []), (AV.int .i64 0), (AV.str []), (AV.bool false)] H) (.some (o (o (i z)))) Gd.no [],
   .mk (stR 4 (X.t (o (o (i z)))) (X.t (i (o (i (i z)))))) .none Gd.no []])
  (.seq (.region [.mk (mvR (X.t (o (i (o z))))) (.some (o (i (i (i z))))) Gd.no [],
   .mk (lenR LnK.slice (X.t (o (i (i (i z)))))) (.some (i (i (i (i z))))) Gd.no [],
   .mk (mvR (X.c (AV.int .i64 0))) (.some (o (o (o (o (o z)))))) Gd.no []])
  (.block 2 (.loop C50L0)))))
  (.region [.mk (binR Tryd.prog EK.no .none true BinOp.add (X.t (o (i (o (i z))))) (X.c (AV.int .i64 1))) (.some (o (o (o (i (i z)))))) Gd.no [],
   .mk (mvR (X.t (o (o (o (i (i z))))))) (.some (o (i (o (i z))))) Gd.no []]))))
noncomputable def C50 : CC :=
  (.seq (.region [.mk (mvR (X.c AV.nils)) (.some (i (i z))) Gd.no [],
   .mk (mvR (X.c AV.nils)) (.some (o (o (o z)))) Gd.no []])
  (.seq (.region [.mk (mvR (X.t z)) (.some (o (i (i z)))) Gd.no [],
   .mk (lenR LnK.slice (X.t (o (i (i z))))) (.some (i (i (i z)))) Gd.no [],
   .mk (mvR (X.t (i z))) (.some (o (o (o (o z))))) Gd.no [],
   .mk (mmR true (X.t (o (o (o (o z))))) (X.c (AV.int .i64 0))) (.some (i (o (o (o z))))) Gd.no [],
   .mk (binR Tryd.prog EK.no .none false BinOp.sub (X.t (i (i (i z)))) (X.t (i (o (o (o z)))))) (.some (o (i (o (o z))))) Gd.no [],
   .mk (mmR true (X.t (o (i (o (o z))))) (X.c (AV.int .i64 0))) (.some (i (i (o (o z))))) Gd.no [],
   .mk (mvR (X.t (i (i (o (o z)))))) (.some (i (o (o z)))) Gd.no []])
  (.seq (.region [.mk (mvR (X.t (o z))) (.some (o (o (i (o z))))) Gd.no [],
   .mk (callS Tryd.prog 74 [(X.t (o (o (i (o z)))))]) (.some (i (o (i (o z))))) Gd.no [],
   .mk (mvR (X.t (i (o (i (o z)))))) (.some (o (i (o z)))) Gd.no []])
  (.seq (.seq (.region [.mk (mvR (X.t z)) (.some (o (i (i (o z))))) Gd.no [],
   .mk (mvR (X.t (i (o (o z))))) (.some (i (i (i (o z))))) Gd.no [],
   .mk (slvR 4 (X.t (o (i (i (o z))))) .none (.some (X.t (i (i (i (o z)))))) .none) (.some (o (o (o (i z))))) Gd.no [],
   .mk (lenR LnK.slice (X.t (o (o (o (i z)))))) (.some (i (o (o (i z))))) Gd.no [],
   .mk (mvR (X.c (AV.int .i64 0))) (.some (o (i (o (i z))))) Gd.no []])
  (.block 0 (.loop C50L1)))
  (.seq (.region [.mk (mvR (X.t z)) (.some (i (o (o (i (i z)))))) Gd.no [],
   .mk (mvR (X.t (i (o (o z))))) (.some (o (i (o (i (i z)))))) Gd.no [],
   .mk (slvR 4 (X.t (i (o (o (i (i z)))))) (.some (X.t (o (i (o (i (i z))))))) .none .none) (.some (i (i (o (i (i z)))))) Gd.no [],
   .mk (callS Tryd.prog 75 [(X.t (i (i (o (i (i z))))))]) (.some (o (o (i (i (i z)))))) Gd.no [],
   .mk (mvR (X.t (o (i (o z))))) (.some (i (o (i (i (i z)))))) Gd.no [],
   .mk (mvR (X.t (o (o (i (i (i z))))))) (.some (i (i z))) Gd.no [],
   .mk (mvR (X.t (i (o (i (i (i z))))))) (.some (o (o (o z)))) Gd.no []])
  .ret)))))
theorem C50ok : (match Tryd.f50.body with | some c => comp Tryd.prog 61 c | none => none) = some C50 := by kernel_rfl
@[go_sem] theorem call50 (args : List AV) (H : Heap) : callC Tryd.prog 50 args H = .call 50 args := callC_ok (by kernel_rfl) args H
theorem R50ok : resKs Tryd.prog Tryd.f50.results.toList = some [(RK.tmp (i (i z))), (RK.tmp (o (o (o z))))] := by kernel_rfl

/- 51: slices.Concat[[]estuary/api.Event,estuary/api.Event] -/
noncomputable def C51L0 : CC :=
  (.seq (.region [.mk (binR Tryd.prog EK.no .none false BinOp.lss (X.t (o (o (i z)))) (X.t (i (i (o z))))) (.some (i (o (i z)))) Gd.no []])
  (.seq (.cond (X.t (i (o (i z))))
  .skip
  (.exit 0))
  (.seq (.block 1 (.seq (.region [.mk (iaS 1 (X.t (o (i (o z)))) (X.t (o (o (i z))))) (.some (o (i (i z)))) Gd.no [],
   .mk (ldR false 1 (X.t (o (i (i z))))) (.some (i (i (i z)))) Gd.no [],
   .mk (mvR (X.t (i (i (i z))))) (.some (o (i z))) Gd.no []])
  (.seq (.region [.mk (mvR (X.t (o (o z)))) (.some (o (o (o (o z))))) Gd.no [],
   .mk (mvR (X.t (o (i z)))) (.some (i (o (o (o z))))) Gd.no [],
   .mk (lenR LnK.slice (X.t (i (o (o (o z)))))) (.some (o (i (o (o z))))) Gd.no [],
   .mk (binR Tryd.prog EK.no .none false BinOp.add (X.t (o (o (o (o z))))) (X.t (o (i (o (o z)))))) (.some (i (i (o (o z))))) Gd.no [],
   .mk (mvR (X.t (i (i (o (o z)))))) (.some (o (o z))) Gd.no []])
  (.seq (.region [.mk (mvR (X.t (o (o z)))) (.some (o (o (i (o z))))) Gd.no [],
   .mk (binR Tryd.prog EK.no .none true BinOp.lss (X.t (o (o (i (o z))))) (X.c (AV.int .i64 0))) (.some (i (o (i (o z))))) Gd.no []])
  (.cond (X.t (i (o (i (o z)))))
  (.region [.mk (mkiR 9 (X.c (AV.str [108, 101, 110, 32, 111, 117, 116, 32, 111, 102, 32, 114, 97, 110, 103, 101]))) (.some (o (i (i (o z))))) Gd.no [],
   .mk (fun _ _ => R1.fail) .none Gd.no []])
  .skip)))))
  (.region [.mk (binR Tryd.prog EK.no .none true BinOp.add (X.t (o (o (i z)))) (X.c (AV.int .i64 1))) (.some (i (i (i (o z))))) Gd.no [],
   .mk (mvR (X.t (i (i (i (o z)))))) (.some (o (o (i z)))) Gd.no []]))))
noncomputable def C51L1 : CC :=
  (.seq (.region [.mk (binR Tryd.prog EK.no .none false BinOp.lss (X.t (o (o (i (i z))))) (X.t (i (i (o (i z)))))) (.some (i (o (i (i z))))) Gd.no []])
  (.seq (.cond (X.t (i (o (i (i z)))))
  .skip
  (.exit 2))
  (.seq (.block 3 (.seq (.region [.mk (iaS 1 (X.t (o (i (o (i z))))) (X.t (o (o (i (i z)))))) (.some (o (i (i (i z))))) Gd.no [],
   .mk (ldR false 1 (X.t (o (i (i (i z)))))) (.some (i (i (i (i z))))) Gd.no [],
   .mk (mvR (X.t (i (i (i (i z)))))) (.some (i (o (o z)))) Gd.no []])
  (.region [.mk (mvR (X.t (i (i z)))) (.some (o (o (o (o (o z)))))) Gd.no [],
   .mk (mvR (X.t (i (o (o z))))) (.some (i (o (o (o (o z)))))) Gd.no [],
   .mk (appR 4 48 (X.t (o (o (o (o (o z)))))) (X.t (i (o (o (o (o z))))))) (.some (o (i (o (o (o z)))))) Gd.no [],
   .mk (mvR (X.t (o (i (o (o (o z))))))) (.some (i (i z))) Gd.no []])))
  (.region [.mk (binR Tryd.prog EK.no .none true BinOp.add (X.t (o (o (i (i z))))) (X.c (AV.int .i64 1))) (.some (i (i (o (o (o z)))))) Gd.no [],
   .mk (mvR (X.t (i (i (o (o (o z))))))) (.some (o (o (i (i z))))) Gd.no []]))))
noncomputable def C51 : CC :=
  (.seq (.region [.mk (mvR (X.c AV.nils)) (.some (i z)) Gd.no []])
  (.seq (.region [.mk (mvR (X.c (AV.int .i64 0))) (.some (o (o z))) Gd.no []])
  (.seq (.seq (.region [.mk (mvR (X.t z)) (.some (o (i (o z)))) Gd.no [],
   .mk (lenR LnK.slice (X.t (o (i (o z))))) (.some (i (i (o z)))) Gd.no [],
   .mk (mvR (X.c (AV.int .i64 0))) (.some (o (o (i z)))) Gd.no []])
  (.block 0 (.loop C51L0)))
  (.seq (.region [.mk (mvR (X.t (o (o z)))) (.some (o (o (o (i z))))) Gd.no [],
   .mk (callS Tryd.prog 76 [(X.c AV.nils), (X.t (o (o (o (i z)))))]) (.some (i (o (o (i z))))) Gd.no [],
   .mk (mvR (X.t (i (o (o (i z)))))) (.some (i (i z))) Gd.no []])
  (.seq (.seq (.region [.mk (mvR (X.t z)) (.some (o (i (o (i z))))) Gd.no [],
   .mk (lenR LnK.slice (X.t (o (i (o (i z)))))) (.some (i (i (o (i z))))) Gd.no [],
   .mk (mvR (X.c (AV.int .i64 0))) (.some (o (o (i (i z))))) Gd.no []])
  (.block 2 (.loop C51L1)))
  (.seq (.region [.mk (mvR (X.t (i (i z)))) (.some (o (o (i (o (o z)))))) Gd.no [],
   .mk (mvR (X.t (o (o (i (o (o z))))))) (.some (i z)) Gd.no []])
  .ret))))))
theorem C51ok : (match Tryd.f51.body with | some c => comp Tryd.prog 36 c | none => none) = some C51 := by kernel_rfl
@[go_sem] theorem call51 (args : List AV) (H : Heap) : callC Tryd.prog 51 args H = .call 51 args := callC_ok (by kernel_rfl) args H
theorem R51ok : resKs Tryd.prog Tryd.f51.results.toList = some [(RK.tmp (i z))] := by kernel_rfl

/- 52: slices.Concat[[]estuary/api.Cell,estuary/api.Cell] -/
noncomputable def C52L0 : CC :=
  (.seq (.region [.mk (binR Tryd.prog EK.no .none false BinOp.lss (X.t (o (o (i z)))) (X.t (i (i (o z))))) (.some (i (o (i z)))) Gd.no []])
  (.seq (.cond (X.t (i (o (i z))))
  .skip
  (.exit 0))
  (.seq (.block 1 (.seq (.region [.mk (iaS 1 (X.t (o (i (o z)))) (X.t (o (o (i z))))) (.some (o (i (i z)))) Gd.no [],
   .mk (ldR false 1 (X.t (o (i (i z))))) (.some (i (i (i z)))) Gd.no [],
   .mk (mvR (X.t (i (i (i z))))) (.some (o (i z))) Gd.no []])
  (.seq (.region [.mk (mvR (X.t (o (o z)))) (.some (o (o (o (o z))))) Gd.no [],
   .mk (mvR (X.t (o (i z)))) (.some (i (o (o (o z))))) Gd.no [],
   .mk (lenR LnK.slice (X.t (i (o (o (o z)))))) (.some (o (i (o (o z))))) Gd.no [],
   .mk (binR Tryd.prog EK.no .none false BinOp.add (X.t (o (o (o (o z))))) (X.t (o (i (o (o z)))))) (.some (i (i (o (o z))))) Gd.no [],
   .mk (mvR (X.t (i (i (o (o z)))))) (.some (o (o z))) Gd.no []])
  (.seq (.region [.mk (mvR (X.t (o (o z)))) (.some (o (o (i (o z))))) Gd.no [],
   .mk (binR Tryd.prog EK.no .none true BinOp.lss (X.t (o (o (i (o z))))) (X.c (AV.int .i64 0))) (.some (i (o (i (o z))))) Gd.no []])
  (.cond (X.t (i (o (i (o z)))))
  (.region [.mk (mkiR 9 (X.c (AV.str [108, 101, 110, 32, 111, 117, 116, 32, 111, 102, 32, 114, 97, 110, 103, 101]))) (.some (o (i (i (o z))))) Gd.no [],
   .mk (fun _ _ => R1.fail) .none Gd.no []])
  .skip)))))
  (.region [.mk (binR Tryd.prog EK.no .none true BinOp.add (X.t (o (o (i z)))) (X.c (AV.int .i64 1))) (.some (i (i (i (o z))))) Gd.no [],
   .mk (mvR (X.t (i (i (i (o z)))))) (.some (o (o (i z)))) Gd.no []]))))
noncomputable def C52L1 : CC :=
  (.seq (.region [.mk (binR Tryd.prog EK.no .none false BinOp.lss (X.t (o (o (i (i z))))) (X.t (i (i (o (i z)))))) (.some (i (o (i (i z))))) Gd.no []])
  (.seq (.cond (X.t (i (o (i (i z)))))
  .skip
  (.exit 2))
  (.seq (.block 3 (.seq (.region [.mk (iaS 1 (X.t (o (i (o (i z))))) (X.t (o (o (i (i z)))))) (.some (o (i (i (i z))))) Gd.no [],
   .mk (ldR false 1 (X.t (o (i (i (i z)))))) (.some (i (i (i (i z))))) Gd.no [],
   .mk (mvR (X.t (i (i (i (i z)))))) (.some (i (o (o z)))) Gd.no []])
  (.region [.mk (mvR (X.t (i (i z)))) (.some (o (o (o (o (o z)))))) Gd.no [],
   .mk (mvR (X.t (i (o (o z))))) (.some (i (o (o (o (o z)))))) Gd.no [],
   .mk (appR 5 56 (X.t (o (o (o (o (o z)))))) (X.t (i (o (o (o (o z))))))) (.some (o (i (o (o (o z)))))) Gd.no [],
   .mk (mvR (X.t (o (i (o (o (o z))))))) (.some (i (i z))) Gd.no []])))
  (.region [.mk (binR Tryd.prog EK.no .none true BinOp.add (X.t (o (o (i (i z))))) (X.c (AV.int .i64 1))) (.some (i (i (o (o (o z)))))) Gd.no [],
   .mk (mvR (X.t (i (i (o (o (o z))))))) (.some (o (o (i (i z))))) Gd.no []]))))
noncomputable def C52 : CC :=
  (.seq (.region [.mk (mvR (X.c AV.nils)) (.some (i z)) Gd.no []])
  (.seq (.region [.mk (mvR (X.c (AV.int .i64 0))) (.some (o (o z))) Gd.no []])
  (.seq (.seq (.region [.mk (mvR (X.t z)) (.some (o (i (o z)))) Gd.no [],
   .mk (lenR LnK.slice (X.t (o (i (o z))))) (.some (i (i (o z)))) Gd.no [],
   .mk (mvR (X.c (AV.int .i64 0))) (.some (o (o (i z)))) Gd.no []])
  (.block 0 (.loop C52L0)))
  (.seq (.region [.mk (mvR (X.t (o (o z)))) (.some (o (o (o (i z))))) Gd.no [],
   .mk (callS Tryd.prog 77 [(X.c AV.nils), (X.t (o (o (o (i z)))))]) (.some (i (o (o (i z))))) Gd.no [],
   .mk (mvR (X.t (i (o (o (i z)))))) (.some (i (i z))) Gd.no []])
  (.seq (.seq (.region [.mk (mvR (X.t z)) (.some (o (i (o (i z))))) Gd.no [],
   .mk (lenR LnK.slice (X.t (o (i (o (i z)))))) (.some (i (i (o (i z))))) Gd.no [],
   .mk (mvR (X.c (AV.int .i64 0))) (.some (o (o (i (i z))))) Gd.no []])
  (.block 2 (.loop C52L1)))
  (.seq (.region [.mk (mvR (X.t (i (i z)))) (.some (o (o (i (o (o z)))))) Gd.no [],
   .mk (mvR (X.t (o (o (i (o (o z))))))) (.some (i z)) Gd.no []])
  .ret))))))
theorem C52ok : (match Tryd.f52.body with | some c => comp Tryd.prog 36 c | none => none) = some C52 := by kernel_rfl
@[go_sem] theorem call52 (args : List AV) (H : Heap) : callC Tryd.prog 52 args H = .call 52 args := callC_ok (by kernel_rfl) args H
theorem R52ok : resKs Tryd.prog Tryd.f52.results.toList = some [(RK.tmp (i z))] := by kernel_rfl

/- 56: estuary/estuaryref11.IsEvent -/
noncomputable def C56 : CC :=
  (.seq (.region [.mk (boxR false (X.t z)) (.some (o z)) Gd.no [],
   .mk (mvR (X.c (AV.bool false))) (.some (i z)) Gd.no []])
  (.seq (.region [.mk (faR 0 (X.t (o z))) (.some (o (o z))) Gd.no [],
   .mk (ldR false 1 (X.t (o (o z)))) (.some (i (o z))) Gd.no [],
   .mk (faR 2 (X.t (o z))) (.some (o (i z))) Gd.no [],
   .mk (ldR false 1 (X.t (o (i z)))) (.some (i (i z))) Gd.no [],
   .mk (faR 1 (X.t (o z))) (.some (o (o (o z)))) Gd.no [],
   .mk (ldR false 1 (X.t (o (o (o z))))) (.some (i (o (o z)))) Gd.no [],
   .mk (faR 3 (X.t (o z))) (.some (o (i (o z)))) Gd.no [],
   .mk (ldR false 1 (X.t (o (i (o z))))) (.some (i (i (o z)))) Gd.no [],
   .mk (buildR [(AV.str []), (AV.str []), (AV.int .i64 0), (AV.bool false), (AV.int .i64 0)] [(0, (1, (X.t (i (o z))))), (1, (1, (X.t (i (i z))))), (2, (1, (X.t (i (o (o z)))))), (3, (1, (X.t (i (i (o z))))))]) (.some (o (o (i z)))) Gd.no [],
   .mk (callS Tryd.prog 79 [(X.t (o (o (i z))))]) (.some (i (o (i z)))) Gd.no [],
   .mk (mvR (X.t (i (o (i z))))) (.some (i z)) Gd.no []])
  .ret))
theorem C56ok : (match Tryd.f56.body with | some c => comp Tryd.prog 13 c | none => none) = some C56 := by kernel_rfl
@[go_sem] theorem call56 (args : List AV) (H : Heap) : callC Tryd.prog 56 args H = .call 56 args := callC_ok (by kernel_rfl) args H
theorem R56ok : resKs Tryd.prog Tryd.f56.results.toList = some [(RK.tmp (i z))] := by kernel_rfl

/- 58: estuary/estuaryref11.After -/
noncomputable def C58L0 : CC :=
  (.seq (.seq (.region [.mk (mvR (X.t (i (o (i z))))) (.some (o (i (o (o z))))) Gd.no [],
   .mk (mvR (X.t (o z))) (.some (i (i (o (o z))))) Gd.no [],
   .mk (lenR LnK.slice (X.t (i (i (o (o z)))))) (.some (o (o (i (o z))))) Gd.no [],
   .mk (binR Tryd.prog EK.no .none false BinOp.lss (X.t (o (i (o (o z))))) (X.t (o (o (i (o z)))))) (.some (i (o (i (o z))))) Gd.no []])
  (.cond (X.t (i (o (i (o z)))))
  .skip
  (.exit 0)))
  (.seq (.block 1 (.seq (.region [.mk (mvR (X.t (o z))) (.some (o (o (o (i z))))) Gd.no [],
   .mk (mvR (X.t (i (o (i z))))) (.some (i (o (o (i z))))) Gd.no [],
   .mk (iaS 5 (X.t (o (o (o (i z))))) (X.t (i (o (o (i z)))))) (.some (o (i (o (i z))))) Gd.no [],
   .mk (ldR true 5 (X.t (o (i (o (i z)))))) (.some (i (i (o (i z))))) Gd.no [],
   .mk (fun _ H => newC false [(AV.str []), (AV.str []), (AV.int .i64 0), (AV.bool false), (AV.int .i64 0)] H) (.some (o (i (i z)))) Gd.no [],
   .mk (stR 5 (X.t (o (i (i z)))) (X.t (i (i (o (i z)))))) .none Gd.no []])
  (.seq (.regionD [.mk (keepH (faR 0 (X.t (o (i (i z)))))) (.some (i (o (i (i z))))) Gd.no [],
   .mk (keepH (ldR false 1 (X.t (i (o (i (i z))))))) (.some (o (i (i (i z))))) Gd.no [],
   .mk (keepH (ldR true 2 (X.t (o (o (o z)))))) (.some (o (o (i (i z))))) Gd.no [],
   .mk (callS Tryd.prog 27 [(X.t (o (o (i (i z))))), (X.t (o (i (i (i z)))))]) (.some (i (i (i (i z))))) Gd.no [],
   .mk (keepH (mvR (X.t (i (i (i (i z))))))) (.some (o (o (o (o (o z)))))) Gd.no [],
   .mk (keepH (faR 0 (X.t (o (i (i z)))))) (.some (o (o (i (o (o z)))))) (Gd.on (o (o (o (o (o z))))) true) [],
   .mk (keepH (ldR false 1 (X.t (o (o (i (o (o z)))))))) (.some (i (o (i (o (o z)))))) (Gd.on (o (o (o (o (o z))))) true) [],
   .mk (keepH (mvR (X.t (o (o z))))) (.some (i (i (o (o (o z)))))) (Gd.on (o (o (o (o (o z))))) true) [],
   .mk (keepH (faR 4 (X.t (o (i (i z)))))) (.some (i (o (o (o (o z)))))) (Gd.on (o (o (o (o (o z))))) true) [],
   .mk (keepH (ldR false 1 (X.t (i (o (o (o (o z)))))))) (.some (o (i (o (o (o z)))))) (Gd.on (o (o (o (o (o z))))) true) [],
   .mk (callS Tryd.prog 80 [(X.t (i (i (o (o (o z)))))), (X.t (i (o (i (o (o z))))))]) (.some (o (i (i (o (o z)))))) (Gd.on (o (o (o (o (o z))))) true) [.mk (ldR false 1 (X.t (i (o (o (o (o z))))))) (.some (o (i (o (o (o z)))))) (Gd.on (o (o (o (o (o z))))) true), .mk (faR 4 (X.t (o (i (i z))))) (.some (i (o (o (o (o z)))))) (Gd.on (o (o (o (o (o z))))) true)],
   .mk (keepH (binR Tryd.prog EK.no .none false BinOp.gtr (X.t (o (i (o (o (o z)))))) (X.t (o (i (i (o (o z)))))))) (.some (i (i (i (o (o z)))))) (Gd.on (o (o (o (o (o z))))) true) [],
   .mk (keepH (pickR (X.t (o (o (o (o (o z)))))) (X.t (i (i (i (o (o z)))))) (X.c (AV.bool false)))) (.some (o (o (o (i (o z)))))) Gd.no []])
  (.cond (X.t (o (o (o (i (o z))))))
  (.seq (.region [.mk (mvR (X.c AV.nils)) (.some (i (i (o z)))) Gd.no [],
   .mk (mvR (X.c (AV.bool true))) (.some (o (o (i z)))) Gd.no []])
  .ret)
  .skip))))
  (.region [.mk (mvR (X.t (i (o (i z))))) (.some (o (i (i (o z))))) Gd.no [],
   .mk (binR Tryd.prog EK.no .none true BinOp.add (X.t (o (i (i (o z))))) (X.c (AV.int .i64 1))) (.some (i (i (i (o z))))) Gd.no [],
   .mk (mvR (X.t (i (i (i (o z)))))) (.some (i (o (i z)))) Gd.no []])))
noncomputable def C58L1 : CC :=
  (.seq (.seq (.region [.mk (mvR (X.t (o (o (o (o z)))))) (.some (i (o (o (i (o z)))))) Gd.no [],
   .mk (mvR (X.t z)) (.some (o (i (o (i (o z)))))) Gd.no [],
   .mk (lenR LnK.slice (X.t (o (i (o (i (o z))))))) (.some (i (i (o (i (o z)))))) Gd.no [],
   .mk (binR Tryd.prog EK.no .none false BinOp.lss (X.t (i (o (o (i (o z)))))) (X.t (i (i (o (i (o z))))))) (.some (o (o (i (i (o z)))))) Gd.no [],
   .mk (mvR (X.t (o (o (i (i (o z))))))) (.some (i (o (i (i (o z)))))) Gd.no [],
   .mk (mvR (X.t (i (i (i z))))) (.some (o (i (i (i (o z)))))) (Gd.on (i (o (i (i (o z))))) true) [],
   .mk (lenR LnK.slice (X.t (o (i (i (i (o z))))))) (.some (i (i (i (i (o z)))))) (Gd.on (i (o (i (i (o z))))) true) [],
   .mk (mvR (X.t (i (o z)))) (.some (o (o (o (o (i z)))))) (Gd.on (i (o (i (i (o z))))) true) [],
   .mk (binR Tryd.prog EK.no .none false BinOp.lss (X.t (i (i (i (i (o z)))))) (X.t (o (o (o (o (i z))))))) (.some (i (o (o (o (i z)))))) (Gd.on (i (o (i (i (o z))))) true) [],
   .mk (pickR (X.t (i (o (i (i (o z)))))) (X.t (i (o (o (o (i z)))))) (X.c (AV.bool false))) (.some (o (i (o (o (i z)))))) Gd.no []])
  (.cond (X.t (o (i (o (o (i z))))))
  .skip
  (.exit 2)))
  (.seq (.block 3 (.seq (.region [.mk (mvR (X.t z)) (.some (i (o (i (o (i z)))))) Gd.no [],
   .mk (mvR (X.t (o (o (o (o z)))))) (.some (o (i (i (o (i z)))))) Gd.no [],
   .mk (iaS 4 (X.t (i (o (i (o (i z)))))) (X.t (o (i (i (o (i z))))))) (.some (i (i (i (o (i z)))))) Gd.no [],
   .mk (ldR true 4 (X.t (i (i (i (o (i z))))))) (.some (o (o (o (i (i z)))))) Gd.no [],
   .mk (fun _ H => newC false [(AV.str []), (AV.int .i64 0), (AV.str []), (AV.bool false)] H) (.some (i (o (o (o z))))) Gd.no [],
   .mk (stR 4 (X.t (i (o (o (o z))))) (X.t (o (o (o (i (i z))))))) .none Gd.no []])
  (.seq (.regionD [.mk (keepH (faR 0 (X.t (i (o (o (o z))))))) (.some (o (i (o (i (i z)))))) Gd.no [],
   .mk (keepH (ldR false 1 (X.t (o (i (o (i (i z)))))))) (.some (i (i (o (i (i z)))))) Gd.no [],
   .mk (keepH (ldR true 2 (X.t (o (o (o z)))))) (.some (i (o (o (i (i z)))))) Gd.no [],
   .mk (callS Tryd.prog 27 [(X.t (i (o (o (i (i z)))))), (X.t (i (i (o (i (i z))))))]) (.some (o (o (i (i (i z)))))) Gd.no [],
   .mk (keepH (mvR (X.t (o (o (i (i (i z)))))))) (.some (i (o (i (i (i z)))))) Gd.no [],
   .mk (keepH (faR 0 (X.t (i (o (o (o z))))))) (.some (i (o (o (o (o (o z))))))) (Gd.on (i (o (i (i (i z))))) true) [],
   .mk (keepH (ldR false 1 (X.t (i (o (o (o (o (o z))))))))) (.some (o (i (o (o (o (o z))))))) (Gd.on (i (o (i (i (i z))))) true) [],
   .mk (keepH (mvR (X.t (o (o z))))) (.some (o (o (o (o (o (o z))))))) (Gd.on (i (o (i (i (i z))))) true) [],
   .mk (keepH (faR 1 (X.t (i (o (o (o z))))))) (.some (o (i (i (i (i z)))))) (Gd.on (i (o (i (i (i z))))) true) [],
   .mk (keepH (ldR false 1 (X.t (o (i (i (i (i z)))))))) (.some (i (i (i (i (i z)))))) (Gd.on (i (o (i (i (i z))))) true) [],
   .mk (callS Tryd.prog 80 [(X.t (o (o (o (o (o (o z))))))), (X.t (o (i (o (o (o (o z)))))))]) (.some (i (i (o (o (o (o z))))))) (Gd.on (i (o (i (i (i z))))) true) [.mk (ldR false 1 (X.t (o (i (i (i (i z))))))) (.some (i (i (i (i (i z)))))) (Gd.on (i (o (i (i (i z))))) true), .mk (faR 1 (X.t (i (o (o (o z)))))) (.some (o (i (i (i (i z)))))) (Gd.on (i (o (i (i (i z))))) true)],
   .mk (keepH (binR Tryd.prog EK.no .none false BinOp.gtr (X.t (i (i (i (i (i z)))))) (X.t (i (i (o (o (o (o z))))))))) (.some (o (o (i (o (o (o z))))))) (Gd.on (i (o (i (i (i z))))) true) [],
   .mk (keepH (pickR (X.t (i (o (i (i (i z)))))) (X.t (o (o (i (o (o (o z))))))) (X.c (AV.bool false)))) (.some (i (o (i (o (o (o z))))))) Gd.no []])
  (.cond (X.t (i (o (i (o (o (o z)))))))
  (.region [.mk (mvR (X.t (i (i (i z))))) (.some (o (i (i (o (o (o z))))))) Gd.no [],
   .mk (ldR true 4 (X.t (i (o (o (o z)))))) (.some (i (i (i (o (o (o z))))))) Gd.no [],
   .mk (bslR 4 1 [(AV.str []), (AV.int .i64 0), (AV.str []), (AV.bool false)] [(0, (X.t (i (i (i (o (o (o z))))))))]) (.some (o (o (o (i (o (o z))))))) Gd.no [],
   .mk (appR 4 48 (X.t (o (i (i (o (o (o z))))))) (X.t (o (o (o (i (o (o z)))))))) (.some (i (o (o (i (o (o z))))))) Gd.no [],
   .mk (mvR (X.t (i (o (o (i (o (o z)))))))) (.some (i (i (i z)))) Gd.no []])
  .skip))))
  (.region [.mk (mvR (X.t (o (o (o (o z)))))) (.some (i (i (o (o (i z)))))) Gd.no [],
   .mk (binR Tryd.prog EK.no .none true BinOp.add (X.t (i (i (o (o (i z)))))) (X.c (AV.int .i64 1))) (.some (o (o (i (o (i z)))))) Gd.no [],
   .mk (mvR (X.t (o (o (i (o (i z))))))) (.some (o (o (o (o z))))) Gd.no []])))
noncomputable def C58 : CC :=
  (.seq (.region [.mk (boxR false (X.t (i z))) (.some (o (o (o z)))) Gd.no [],
   .mk (mvR (X.c AV.nils)) (.some (i (i (o z)))) Gd.no [],
   .mk (mvR (X.c (AV.bool false))) (.some (o (o (i z)))) Gd.no []])
  (.seq (.seq (.region [.mk (mvR (X.c (AV.int .i64 0))) (.some (i (o (i z)))) Gd.no []])
  (.block 0 (.loop C58L0)))
  (.seq (.region [.mk (mvR (X.c AV.nils)) (.some (i (i (i z)))) Gd.no []])
  (.seq (.seq (.region [.mk (mvR (X.c (AV.int .i64 0))) (.some (o (o (o (o z))))) Gd.no []])
  (.block 2 (.loop C58L1)))
  (.seq (.region [.mk (mvR (X.t (i (i (i z))))) (.some (o (i (o (i (o (o z))))))) Gd.no [],
   .mk (mvR (X.t (o (i (o (i (o (o z)))))))) (.some (i (i (o z)))) Gd.no [],
   .mk (mvR (X.c (AV.bool false))) (.some (o (o (i z)))) Gd.no []])
  .ret)))))
theorem C58ok : (match Tryd.f58.body with | some c => comp Tryd.prog 74 c | none => none) = some C58 := by kernel_rfl
@[go_sem] theorem call58 (args : List AV) (H : Heap) : callC Tryd.prog 58 args H = .call 58 args := callC_ok (by kernel_rfl) args H
theorem R58ok : resKs Tryd.prog Tryd.f58.results.toList = some [(RK.tmp (i (i (o z)))), (RK.tmp (o (o (i z))))] := by kernel_rfl

/- 70: estuary/shard.Is -/
noncomputable def C70 : CC :=
  (.seq (.region [.mk (boxR false (X.t z)) (.some (o z)) Gd.no [],
   .mk (mvR (X.c (AV.bool false))) (.some (i z)) Gd.no []])
  (.seq (.region [.mk (mkfR (Fn.func 86) [] [(X.t (o z))]) (.some (i (o z))) Gd.no [],
   .mk (mvR (X.t (i (o z)))) (.some (o (o z))) Gd.no []])
  (.seq (.block 0 (.seq (.block 4 (.block 3 (.block 2 (.block 1 (.seq (.seq (.seq (.region [.mk (faR 0 (X.t (o z))) (.some (i (i z))) Gd.no [],
   .mk (ldR false 1 (X.t (i (i z)))) (.some (o (o (o z)))) Gd.no [],
   .mk (binR Tryd.prog EK.no .none true BinOp.lss (X.t (o (o (o z)))) (X.c (AV.int .i64 1))) (.some (i (o (o z)))) Gd.no [],
   .mk (mvR (X.t (i (o (o z))))) (.some (o (i (o z)))) Gd.no [],
   .mk (faR 0 (X.t (o z))) (.some (i (i (o z)))) (Gd.on (o (i (o z))) false) [],
   .mk (ldR false 1 (X.t (i (i (o z))))) (.some (o (o (i z)))) (Gd.on (o (i (o z))) false) [],
   .mk (binR Tryd.prog EK.no .none true BinOp.gtr (X.t (o (o (i z)))) (X.c (AV.int .i64 1000000000000))) (.some (i (o (i z)))) (Gd.on (o (i (o z))) false) [],
   .mk (pickR (X.t (o (i (o z)))) (X.c (AV.bool true)) (X.t (i (o (i z))))) (.some (o (i (i z)))) Gd.no [],
   .mk (mvR (X.t (o (i (i z))))) (.some (i (i (i z)))) Gd.no [],
   .mk (faR 1 (X.t (o z))) (.some (o (o (o (o z))))) (Gd.on (i (i (i z))) false) [],
   .mk (ldR false 1 (X.t (o (o (o (o z)))))) (.some (i (o (o (o z))))) (Gd.on (i (i (i z))) false) [],
   .mk (binR Tryd.prog EK.no .none true BinOp.lss (X.t (i (o (o (o z))))) (X.c (AV.int .i64 1))) (.some (o (i (o (o z))))) (Gd.on (i (i (i z))) false) [],
   .mk (pickR (X.t (i (i (i z)))) (X.c (AV.bool true)) (X.t (o (i (o (o z)))))) (.some (i (i (o (o z))))) Gd.no [],
   .mk (mvR (X.t (i (i (o (o z)))))) (.some (o (o (i (o z))))) Gd.no [],
   .mk (faR 1 (X.t (o z))) (.some (i (o (i (o z))))) (Gd.on (o (o (i (o z)))) false) [],
   .mk (ldR false 1 (X.t (i (o (i (o z)))))) (.some (o (i (i (o z))))) (Gd.on (o (o (i (o z)))) false) [],
   .mk (binR Tryd.prog EK.no .none true BinOp.gtr (X.t (o (i (i (o z))))) (X.c (AV.int .i64 1000000))) (.some (i (i (i (o z))))) (Gd.on (o (o (i (o z)))) false) [],
   .mk (pickR (X.t (o (o (i (o z))))) (X.c (AV.bool true)) (X.t (i (i (i (o z)))))) (.some (o (o (o (i z))))) Gd.no [],
   .mk (mvR (X.t (o (o (o (i z)))))) (.some (o (i z))) Gd.no []])
  (.cond (X.t (o (i z)))
  (.exit 1)
  .skip))
  (.seq (.seq (.region [.mk (faR 2 (X.t (o z))) (.some (o (i (o (i z))))) Gd.no [],
   .mk (ldR true 2 (X.t (o (i (o (i z)))))) (.some (i (i (o (i z))))) Gd.no [],
   .mk (callS Tryd.prog 59 [(X.t (i (i (o (i z)))))]) (.some (o (o (i (i z))))) Gd.no [],
   .mk (unR UnOp.not (X.t (o (o (i (i z)))))) (.some (i (o (i (i z))))) Gd.no [],
   .mk (mvR (X.t (i (o (i (i z)))))) (.some (o (i (i (i z))))) Gd.no [],
   .mk (faR 5 (X.t (o z))) (.some (i (i (i (i z))))) (Gd.on (o (i (i (i z)))) false) [],
   .mk (ldR false 1 (X.t (i (i (i (i z)))))) (.some (o (o (o (o (o z)))))) (Gd.on (o (i (i (i z)))) false) [],
   .mk (mvR (X.t (o (o z)))) (.some (i (o (o (o (o z)))))) (Gd.on (o (i (i (i z)))) false) [],
   .mk (callS Tryd.prog 87 [(X.t (o (o (o (o (o z)))))), (X.t (i (o (o (o (o z))))))]) (.some (o (i (o (o (o z)))))) (Gd.on (o (i (i (i z)))) false) [],
   .mk (pickR (X.t (o (i (i (i z))))) (X.c (AV.bool true)) (X.t (o (i (o (o (o z))))))) (.some (i (i (o (o (o z)))))) Gd.no [],
   .mk (mvR (X.t (i (i (o (o (o z))))))) (.some (i (o (o (i z))))) Gd.no []])
  (.cond (X.t (i (o (o (i z)))))
  (.exit 2)
  .skip))
  (.seq (.seq (.region [.mk (faR 6 (X.t (o z))) (.some (i (o (i (o (o z)))))) Gd.no [],
   .mk (ldR false 1 (X.t (i (o (i (o (o z))))))) (.some (o (i (i (o (o z)))))) Gd.no [],
   .mk (lenR LnK.slice (X.t (o (i (i (o (o z))))))) (.some (i (i (i (o (o z)))))) Gd.no [],
   .mk (binR Tryd.prog EK.no .none true BinOp.gtr (X.t (i (i (i (o (o z)))))) (X.c (AV.int .i64 24))) (.some (o (o (o (i (o z)))))) Gd.no [],
   .mk (mvR (X.t (o (o (o (i (o z))))))) (.some (i (o (o (i (o z)))))) Gd.no [],
   .mk (faR 6 (X.t (o z))) (.some (o (i (o (i (o z)))))) (Gd.on (i (o (o (i (o z))))) false) [],
   .mk (ldR false 1 (X.t (o (i (o (i (o z))))))) (.some (i (i (o (i (o z)))))) (Gd.on (i (o (o (i (o z))))) false) [],
   .mk (faR 5 (X.t (o z))) (.some (o (o (i (i (o z)))))) (Gd.on (i (o (o (i (o z))))) false) [],
   .mk (ldR false 1 (X.t (o (o (i (i (o z))))))) (.some (i (o (i (i (o z)))))) (Gd.on (i (o (o (i (o z))))) false) [],
   .mk (callS Tryd.prog 88 [(X.t (i (i (o (i (o z)))))), (X.t (i (o (i (i (o z))))))]) (.some (o (i (i (i (o z)))))) (Gd.on (i (o (o (i (o z))))) false) [],
   .mk (unR UnOp.not (X.t (o (i (i (i (o z))))))) (.some (i (i (i (i (o z)))))) (Gd.on (i (o (o (i (o z))))) false) [],
   .mk (pickR (X.t (i (o (o (i (o z)))))) (X.c (AV.bool true)) (X.t (i (i (i (i (o z))))))) (.some (o (o (o (o (i z)))))) Gd.no [],
   .mk (mvR (X.t (o (o (o (o (i z))))))) (.some (o (o (i (o (o z)))))) Gd.no []])
  (.cond (X.t (o (o (i (o (o z))))))
  (.exit 3)
  .skip))
  (.seq (.region [.mk (faR 7 (X.t (o z))) (.some (o (i (o (o (i z)))))) Gd.no [],
   .mk (ldR false 1 (X.t (o (i (o (o (i z))))))) (.some (i (i (o (o (i z)))))) Gd.no [],
   .mk (callS Tryd.prog 89 [(X.t (i (i (o (o (i z))))))]) (.some (o (o (i (o (i z)))))) Gd.no [],
   .mk (unR UnOp.not (X.t (o (o (i (o (i z))))))) (.some (i (o (i (o (i z)))))) Gd.no [],
   .mk (mvR (X.t (i (o (i (o (i z))))))) (.some (i (o (o (o (i z)))))) Gd.no []])
  (.cond (X.t (i (o (o (o (i z))))))
  (.exit 4)
  .skip)))))
  (.exit 0))))))
  (.seq (.seq (.region [.mk (mvR (X.c (AV.bool false))) (.some (i z)) Gd.no []])
  .ret)
  (.exit 0))))
  (.seq (.region [.mk (mvR (X.c (AV.bool true))) (.some (i z)) Gd.no []])
  .ret))))
theorem C70ok : (match Tryd.f70.body with | some c => comp Tryd.prog 53 c | none => none) = some C70 := by kernel_rfl
@[go_sem] theorem call70 (args : List AV) (H : Heap) : callC Tryd.prog 70 args H = .call 70 args := callC_ok (by kernel_rfl) args H
theorem R70ok : resKs Tryd.prog Tryd.f70.results.toList = some [(RK.tmp (i z))] := by kernel_rfl

/- 76: slices.Grow[[]estuary/api.Event,estuary/api.Event] -/
noncomputable def C76 : CC :=
  (.seq (.region [.mk (mvR (X.c AV.nils)) (.some (i (o z))) Gd.no []])
  (.seq (.seq (.region [.mk (mvR (X.t (o z))) (.some (o (i z))) Gd.no [],
   .mk (binR Tryd.prog EK.no .none true BinOp.lss (X.t (o (i z))) (X.c (AV.int .i64 0))) (.some (i (i z))) Gd.no []])
  (.cond (X.t (i (i z)))
  (.region [.mk (mkiR 9 (X.c (AV.str [99, 97, 110, 110, 111, 116, 32, 98, 101, 32, 110, 101, 103, 97, 116, 105, 118, 101]))) (.some (o (o (o z)))) Gd.no [],
   .mk (fun _ _ => R1.fail) .none Gd.no []])
  .skip))
  (.seq (.seq (.region [.mk (mvR (X.t (o z))) (.some (i (o (o z)))) Gd.no [],
   .mk (mvR (X.t z)) (.some (o (i (o z)))) Gd.no [],
   .mk (capR (X.t (o (i (o z))))) (.some (i (i (o z)))) Gd.no [],
   .mk (mvR (X.t z)) (.some (o (o (i z)))) Gd.no [],
   .mk (lenR LnK.slice (X.t (o (o (i z))))) (.some (i (o (i z)))) Gd.no [],
   .mk (binR Tryd.prog EK.no .none false BinOp.sub (X.t (i (i (o z)))) (X.t (i (o (i z))))) (.some (o (i (i z)))) Gd.no [],
   .mk (binR Tryd.prog EK.no .none false BinOp.sub (X.t (i (o (o z)))) (X.t (o (i (i z))))) (.some (i (i (i z)))) Gd.no [],
   .mk (mvR (X.t (i (i (i z))))) (.some (o z)) Gd.no []])
  (.seq (.region [.mk (mvR (X.t (o z))) (.some (o (o (o (o z))))) Gd.no [],
   .mk (binR Tryd.prog EK.no .none true BinOp.gtr (X.t (o (o (o (o z))))) (X.c (AV.int .i64 0))) (.some (i (o (o (o z))))) Gd.no []])
  (.cond (X.t (i (o (o (o z)))))
  (.region [.mk (mvR (X.t z)) (.some (o (i (o (o z))))) Gd.no [],
   .mk (mvR (X.t z)) (.some (i (i (o (o z))))) Gd.no [],
   .mk (capR (X.t (i (i (o (o z)))))) (.some (o (o (i (o z))))) Gd.no [],
   .mk (slvR 4 (X.t (o (i (o (o z))))) .none (.some (X.t (o (o (i (o z)))))) .none) (.some (i (o (i (o z))))) Gd.no [],
   .mk (mvR (X.t (o z))) (.some (o (i (i (o z))))) Gd.no [],
   .mk (apzR 4 48 [(AV.str []), (AV.int .i64 0), (AV.str []), (AV.bool false)] (X.t (i (o (i (o z))))) (X.t (o (i (i (o z)))))) (.some (i (i (i (o z))))) Gd.no [],
   .mk (mvR (X.t z)) (.some (o (o (o (i z))))) Gd.no [],
   .mk (lenR LnK.slice (X.t (o (o (o (i z)))))) (.some (i (o (o (i z))))) Gd.no [],
   .mk (slvR 4 (X.t (i (i (i (o z))))) .none (.some (X.t (i (o (o (i z)))))) .none) (.some (o (i (o (i z))))) Gd.no [],
   .mk (mvR (X.t (o (i (o (i z)))))) (.some z) Gd.no []])
  .skip)))
  (.seq (.region [.mk (mvR (X.t z)) (.some (i (i (o (i z))))) Gd.no [],
   .mk (mvR (X.t (i (i (o (i z)))))) (.some (i (o z))) Gd.no []])
  .ret))))
theorem C76ok : (match Tryd.f76.body with | some c => comp Tryd.prog 27 c | none => none) = some C76 := by kernel_rfl
@[go_sem] theorem call76 (args : List AV) (H : Heap) : callC Tryd.prog 76 args H = .call 76 args := callC_ok (by kernel_rfl) args H
theorem R76ok : resKs Tryd.prog Tryd.f76.results.toList = some [(RK.tmp (i (o z)))] := by kernel_rfl

/- 77: slices.Grow[[]estuary/api.Cell,estuary/api.Cell] -/
noncomputable def C77 : CC :=
  (.seq (.region [.mk (mvR (X.c AV.nils)) (.some (i (o z))) Gd.no []])
  (.seq (.seq (.region [.mk (mvR (X.t (o z))) (.some (o (i z))) Gd.no [],
   .mk (binR Tryd.prog EK.no .none true BinOp.lss (X.t (o (i z))) (X.c (AV.int .i64 0))) (.some (i (i z))) Gd.no []])
  (.cond (X.t (i (i z)))
  (.region [.mk (mkiR 9 (X.c (AV.str [99, 97, 110, 110, 111, 116, 32, 98, 101, 32, 110, 101, 103, 97, 116, 105, 118, 101]))) (.some (o (o (o z)))) Gd.no [],
   .mk (fun _ _ => R1.fail) .none Gd.no []])
  .skip))
  (.seq (.seq (.region [.mk (mvR (X.t (o z))) (.some (i (o (o z)))) Gd.no [],
   .mk (mvR (X.t z)) (.some (o (i (o z)))) Gd.no [],
   .mk (capR (X.t (o (i (o z))))) (.some (i (i (o z)))) Gd.no [],
   .mk (mvR (X.t z)) (.some (o (o (i z)))) Gd.no [],
   .mk (lenR LnK.slice (X.t (o (o (i z))))) (.some (i (o (i z)))) Gd.no [],
   .mk (binR Tryd.prog EK.no .none false BinOp.sub (X.t (i (i (o z)))) (X.t (i (o (i z))))) (.some (o (i (i z)))) Gd.no [],
   .mk (binR Tryd.prog EK.no .none false BinOp.sub (X.t (i (o (o z)))) (X.t (o (i (i z))))) (.some (i (i (i z)))) Gd.no [],
   .mk (mvR (X.t (i (i (i z))))) (.some (o z)) Gd.no []])
  (.seq (.region [.mk (mvR (X.t (o z))) (.some (o (o (o (o z))))) Gd.no [],
   .mk (binR Tryd.prog EK.no .none true BinOp.gtr (X.t (o (o (o (o z))))) (X.c (AV.int .i64 0))) (.some (i (o (o (o z))))) Gd.no []])
  (.cond (X.t (i (o (o (o z)))))
  (.region [.mk (mvR (X.t z)) (.some (o (i (o (o z))))) Gd.no [],
   .mk (mvR (X.t z)) (.some (i (i (o (o z))))) Gd.no [],
   .mk (capR (X.t (i (i (o (o z)))))) (.some (o (o (i (o z))))) Gd.no [],
   .mk (slvR 5 (X.t (o (i (o (o z))))) .none (.some (X.t (o (o (i (o z)))))) .none) (.some (i (o (i (o z))))) Gd.no [],
   .mk (mvR (X.t (o z))) (.some (o (i (i (o z))))) Gd.no [],
   .mk (apzR 5 56 [(AV.str []), (AV.str []), (AV.int .i64 0), (AV.bool false), (AV.int .i64 0)] (X.t (i (o (i (o z))))) (X.t (o (i (i (o z)))))) (.some (i (i (i (o z))))) Gd.no [],
   .mk (mvR (X.t z)) (.some (o (o (o (i z))))) Gd.no [],
   .mk (lenR LnK.slice (X.t (o (o (o (i z)))))) (.some (i (o (o (i z))))) Gd.no [],
   .mk (slvR 5 (X.t (i (i (i (o z))))) .none (.some (X.t (i (o (o (i z)))))) .none) (.some (o (i (o (i z))))) Gd.no [],
   .mk (mvR (X.t (o (i (o (i z)))))) (.some z) Gd.no []])
  .skip)))
  (.seq (.region [.mk (mvR (X.t z)) (.some (i (i (o (i z))))) Gd.no [],
   .mk (mvR (X.t (i (i (o (i z)))))) (.some (i (o z))) Gd.no []])
  .ret))))
theorem C77ok : (match Tryd.f77.body with | some c => comp Tryd.prog 27 c | none => none) = some C77 := by kernel_rfl
@[go_sem] theorem call77 (args : List AV) (H : Heap) : callC Tryd.prog 77 args H = .call 77 args := callC_ok (by kernel_rfl) args H
theorem R77ok : resKs Tryd.prog Tryd.f77.results.toList = some [(RK.tmp (i (o z)))] := by kernel_rfl

/- 80: estuary/estuaryref1.Of -/
noncomputable def C80L0 : CC :=
  (.seq (.seq (.region [.mk (mvR (X.t (o (i z)))) (.some (i (i z))) Gd.no [],
   .mk (mvR (X.t z)) (.some (o (o (o z)))) Gd.no [],
   .mk (lenR LnK.slice (X.t (o (o (o z))))) (.some (i (o (o z)))) Gd.no [],
   .mk (binR Tryd.prog EK.no .none false BinOp.lss (X.t (i (i z))) (X.t (i (o (o z))))) (.some (o (i (o z)))) Gd.no []])
  (.cond (X.t (o (i (o z))))
  .skip
  (.exit 0)))
  (.seq (.block 1 (.seq (.region [.mk (mvR (X.t z)) (.some (i (o (i z)))) Gd.no [],
   .mk (mvR (X.t (o (i z)))) (.some (o (i (i z)))) Gd.no [],
   .mk (iaS 2 (X.t (i (o (i z)))) (X.t (o (i (i z))))) (.some (i (i (i z)))) Gd.no [],
   .mk (faR 0 (X.t (i (i (i z))))) (.some (o (o (o (o z))))) Gd.no [],
   .mk (ldR false 1 (X.t (o (o (o (o z)))))) (.some (i (o (o (o z))))) Gd.no [],
   .mk (mvR (X.t (o z))) (.some (o (i (o (o z))))) Gd.no [],
   .mk (binR Tryd.prog EK.no .none false BinOp.eql (X.t (i (o (o (o z))))) (X.t (o (i (o (o z)))))) (.some (i (i (o (o z))))) Gd.no []])
  (.cond (X.t (i (i (o (o z)))))
  (.seq (.region [.mk (mvR (X.t z)) (.some (o (o (i (o z))))) Gd.no [],
   .mk (mvR (X.t (o (i z)))) (.some (i (o (i (o z))))) Gd.no [],
   .mk (iaS 2 (X.t (o (o (i (o z))))) (X.t (i (o (i (o z)))))) (.some (o (i (i (o z))))) Gd.no [],
   .mk (faR 1 (X.t (o (i (i (o z)))))) (.some (i (i (i (o z))))) Gd.no [],
   .mk (ldR false 1 (X.t (i (i (i (o z)))))) (.some (o (o (o (i z))))) Gd.no [],
   .mk (mvR (X.t (o (o (o (i z)))))) (.some (i (o z))) Gd.no []])
  .ret)
  .skip)))
  (.region [.mk (mvR (X.t (o (i z)))) (.some (i (i (o z)))) Gd.no [],
   .mk (binR Tryd.prog EK.no .none true BinOp.add (X.t (i (i (o z)))) (X.c (AV.int .i64 1))) (.some (o (o (i z)))) Gd.no [],
   .mk (mvR (X.t (o (o (i z))))) (.some (o (i z))) Gd.no []])))
noncomputable def C80 : CC :=
  (.seq (.region [.mk (mvR (X.c (AV.int .i64 0))) (.some (i (o z))) Gd.no []])
  (.seq (.seq (.region [.mk (mvR (X.c (AV.int .i64 0))) (.some (o (i z))) Gd.no []])
  (.block 0 (.loop C80L0)))
  (.seq (.region [.mk (mvR (X.c (AV.int .i64 0))) (.some (i (o z))) Gd.no []])
  .ret)))
theorem C80ok : (match Tryd.f80.body with | some c => comp Tryd.prog 24 c | none => none) = some C80 := by kernel_rfl
@[go_sem] theorem call80 (args : List AV) (H : Heap) : callC Tryd.prog 80 args H = .call 80 args := callC_ok (by kernel_rfl) args H
theorem R80ok : resKs Tryd.prog Tryd.f80.results.toList = some [(RK.tmp (i (o z)))] := by kernel_rfl

/- 86: estuary/shard.Is$1 -/
noncomputable def C86 : CC :=
  (.seq (.region [.mk (boxR false (X.t z)) (.some (i z)) Gd.no [],
   .mk (mvR (X.c (AV.bool false))) (.some (o (o z))) Gd.no []])
  (.seq (.region [.mk (faR 2 (X.t (o z))) (.some (i (o z))) Gd.no [],
   .mk (ldR true 2 (X.t (i (o z)))) (.some (o (i z))) Gd.no [],
   .mk (faR 0 (X.t (i z))) (.some (i (i z))) Gd.no [],
   .mk (ldR false 1 (X.t (i (i z)))) (.some (o (o (o z)))) Gd.no [],
   .mk (callS Tryd.prog 65 [(X.t (o (i z))), (X.t (o (o (o z))))]) (.some (i (o (o z)))) Gd.no [],
   .mk (unR UnOp.not (X.t (i (o (o z))))) (.some (o (i (o z)))) Gd.no [],
   .mk (mvR (X.t (o (i (o z))))) (.some (o (o z))) Gd.no []])
  .ret))
theorem C86ok : (match Tryd.f86.body with | some c => comp Tryd.prog 10 c | none => none) = some C86 := by kernel_rfl
@[go_sem] theorem call86 (args : List AV) (H : Heap) : callC Tryd.prog 86 args H = .call 86 args := callC_ok (by kernel_rfl) args H
theorem R86ok : resKs Tryd.prog Tryd.f86.results.toList = some [(RK.tmp (o (o z)))] := by kernel_rfl

/- 87: slices.ContainsFunc[[]estuary/api.Cell,estuary/api.Cell] -/
noncomputable def C87 : CC :=
  (.seq (.region [.mk (mvR (X.c (AV.bool false))) (.some (i (o z))) Gd.no []])
  (.seq (.region [.mk (mvR (X.t z)) (.some (o (i z))) Gd.no [],
   .mk (mvR (X.t (o z))) (.some (i (i z))) Gd.no [],
   .mk (callS Tryd.prog 100 [(X.t (o (i z))), (X.t (i (i z)))]) (.some (o (o (o z)))) Gd.no [],
   .mk (binR Tryd.prog EK.no .none true BinOp.geq (X.t (o (o (o z)))) (X.c (AV.int .i64 0))) (.some (i (o (o z)))) Gd.no [],
   .mk (mvR (X.t (i (o (o z))))) (.some (i (o z))) Gd.no []])
  .ret))
theorem C87ok : (match Tryd.f87.body with | some c => comp Tryd.prog 9 c | none => none) = some C87 := by kernel_rfl
@[go_sem] theorem call87 (args : List AV) (H : Heap) : callC Tryd.prog 87 args H = .call 87 args := callC_ok (by kernel_rfl) args H
theorem R87ok : resKs Tryd.prog Tryd.f87.results.toList = some [(RK.tmp (i (o z)))] := by kernel_rfl

/- 88: estuary/history.Is -/
noncomputable def C88L0 : CC :=
  (.seq (.region [.mk (binR Tryd.prog EK.no .none false BinOp.lss (X.t (i (i (i z)))) (X.t (o (i (i z))))) (.some (o (o (o (o z))))) Gd.no []])
  (.seq (.cond (X.t (o (o (o (o z)))))
  .skip
  (.exit 0))
  (.seq (.block 1 (.seq (.region [.mk (iaS 4 (X.t (i (o (i z)))) (X.t (i (i (i z))))) (.some (i (o (o (o z))))) Gd.no [],
   .mk (ldR true 4 (X.t (i (o (o (o z)))))) (.some (o (i (o (o z))))) Gd.no [],
   .mk (fun _ H => newC false [(AV.str []), (AV.int .i64 0), (AV.str []), (AV.bool false)] H) (.some (i (i z))) Gd.no [],
   .mk (stR 4 (X.t (i (i z))) (X.t (o (i (o (o z)))))) .none Gd.no []])
  (.seq (.region [.mk (mvR (X.t (o z))) (.some (o (o (i (o z))))) Gd.no [],
   .mk (faR 0 (X.t (i (i z)))) (.some (i (o (i (o z))))) Gd.no [],
   .mk (ldR false 1 (X.t (i (o (i (o z)))))) (.some (o (i (i (o z))))) Gd.no [],
   .mk (callS Tryd.prog 102 [(X.t (o (o (i (o z))))), (X.t (o (i (i (o z)))))]) (.some (i (i (i (o z))))) Gd.no [],
   .mk (mvR (X.t (i (i (i (o z)))))) (.some (i (i (o (o z))))) Gd.no [],
   .mk (extR (X.t (i (i (o (o z))))) 0) (.some (o (o (o (i z))))) Gd.no [],
   .mk (extR (X.t (i (i (o (o z))))) 1) (.some (i (o (o (i z))))) Gd.no [],
   .mk (fun _ H => newC false [(AV.str []), (AV.str []), (AV.int .i64 0), (AV.bool false), (AV.int .i64 0)] H) (.some (o (o (o z)))) Gd.no [],
   .mk (stR 5 (X.t (o (o (o z)))) (X.t (o (o (o (i z)))))) .none Gd.no [],
   .mk (mvR (X.t (i (o (o (i z)))))) (.some (i (o (o z)))) Gd.no []])
  (.block 2 (.seq (.block 4 (.block 3 (.seq (.seq (.seq (.region [.mk (mvR (X.t (i (o (o z))))) (.some (i (i (o (i z))))) Gd.no [],
   .mk (unR UnOp.not (X.t (i (i (o (i z)))))) (.some (o (o (i (i z))))) Gd.no [],
   .mk (mvR (X.t (o (o (i (i z)))))) (.some (o (i (o (i z))))) Gd.no []])
  (.cond (X.t (o (i (o (i z)))))
  (.exit 3)
  .skip))
  (.seq (.region [.mk (ldR true 4 (X.t (i (i z)))) (.some (o (i (i (i z))))) Gd.no [],
   .mk (callS Tryd.prog 103 [(X.t (o (i (i (i z)))))]) (.some (i (i (i (i z))))) Gd.no [],
   .mk (unR UnOp.not (X.t (i (i (i (i z)))))) (.some (o (o (o (o (o z)))))) Gd.no [],
   .mk (mvR (X.t (o (o (o (o (o z))))))) (.some (i (o (i (i z))))) Gd.no []])
  (.cond (X.t (i (o (i (i z)))))
  (.exit 4)
  .skip)))
  (.exit 2))))
  (.seq (.seq (.region [.mk (mvR (X.c (AV.bool false))) (.some (i (o z))) Gd.no []])
  .ret)
  (.exit 2)))))))
  (.region [.mk (binR Tryd.prog EK.no .none true BinOp.add (X.t (i (i (i z)))) (X.c (AV.int .i64 1))) (.some (i (o (o (o (o z)))))) Gd.no [],
   .mk (mvR (X.t (i (o (o (o (o z))))))) (.some (i (i (i z)))) Gd.no []]))))
noncomputable def C88 : CC :=
  (.seq (.region [.mk (boxR false (X.t z)) (.some (i z)) Gd.no [],
   .mk (mvR (X.c (AV.bool false))) (.some (i (o z))) Gd.no []])
  (.seq (.seq (.region [.mk (mvR (X.t (o z))) (.some (o (i (o z)))) Gd.no [],
   .mk (callS Tryd.prog 101 [(X.t (o (i (o z))))]) (.some (i (i (o z)))) Gd.no [],
   .mk (unR UnOp.not (X.t (i (i (o z))))) (.some (o (o (i z)))) Gd.no []])
  (.cond (X.t (o (o (i z))))
  (.seq (.region [.mk (mvR (X.c (AV.bool false))) (.some (i (o z))) Gd.no []])
  .ret)
  .skip))
  (.seq (.seq (.region [.mk (ldR false 1 (X.t (i z))) (.some (i (o (i z)))) Gd.no [],
   .mk (lenR LnK.slice (X.t (i (o (i z))))) (.some (o (i (i z)))) Gd.no [],
   .mk (mvR (X.c (AV.int .i64 0))) (.some (i (i (i z)))) Gd.no []])
  (.block 0 (.loop C88L0)))
  (.seq (.region [.mk (mvR (X.t (o z))) (.some (o (i (o (o (o z)))))) Gd.no [],
   .mk (mkfR (Fn.func 104) [] [(X.t (i z))]) (.some (i (i (o (o (o z)))))) Gd.no [],
   .mk (callS Tryd.prog 87 [(X.t (o (i (o (o (o z)))))), (X.t (i (i (o (o (o z))))))]) (.some (o (o (i (o (o z)))))) Gd.no [],
   .mk (unR UnOp.not (X.t (o (o (i (o (o z))))))) (.some (i (o (i (o (o z)))))) Gd.no [],
   .mk (mvR (X.t (i (o (i (o (o z))))))) (.some (i (o z))) Gd.no []])
  .ret))))
theorem C88ok : (match Tryd.f88.body with | some c => comp Tryd.prog 37 c | none => none) = some C88 := by kernel_rfl
@[go_sem] theorem call88 (args : List AV) (H : Heap) : callC Tryd.prog 88 args H = .call 88 args := callC_ok (by kernel_rfl) args H
theorem R88ok : resKs Tryd.prog Tryd.f88.results.toList = some [(RK.tmp (i (o z)))] := by kernel_rfl

/- 100: slices.IndexFunc[[]estuary/api.Cell,estuary/api.Cell] -/
noncomputable def C100L0 : CC :=
  (.seq (.region [.mk (binR Tryd.prog EK.no .none false BinOp.lss (X.t (i (o (o z)))) (X.t (o (o (o z))))) (.some (o (i (o z)))) Gd.no []])
  (.seq (.cond (X.t (o (i (o z))))
  .skip
  (.exit 0))
  (.seq (.block 1 (.seq (.region [.mk (mvR (X.t (i (o (o z))))) (.some (i (i (o z)))) Gd.no [],
   .mk (mvR (X.t (i (i (o z))))) (.some (o (i z))) Gd.no []])
  (.seq (.region [.mk (mvR (X.t (o z))) (.some (o (o (i z)))) Gd.no [],
   .mk (mvR (X.t z)) (.some (i (o (i z)))) Gd.no [],
   .mk (mvR (X.t (o (i z)))) (.some (o (i (i z)))) Gd.no [],
   .mk (iaS 5 (X.t (i (o (i z)))) (X.t (o (i (i z))))) (.some (i (i (i z)))) Gd.no [],
   .mk (ldR true 5 (X.t (i (i (i z))))) (.some (o (o (o (o z))))) Gd.no [],
   .mk (callX Tryd.prog (X.t (o (o (i z)))) [(X.t (o (o (o (o z)))))]) (.some (i (o (o (o z))))) Gd.no []])
  (.cond (X.t (i (o (o (o z)))))
  (.seq (.region [.mk (mvR (X.t (o (i z)))) (.some (o (i (o (o z))))) Gd.no [],
   .mk (mvR (X.t (o (i (o (o z)))))) (.some (i (o z))) Gd.no []])
  .ret)
  .skip))))
  (.region [.mk (binR Tryd.prog EK.no .none true BinOp.add (X.t (i (o (o z)))) (X.c (AV.int .i64 1))) (.some (i (i (o (o z))))) Gd.no [],
   .mk (mvR (X.t (i (i (o (o z)))))) (.some (i (o (o z)))) Gd.no []]))))
noncomputable def C100 : CC :=
  (.seq (.region [.mk (mvR (X.c (AV.int .i64 0))) (.some (i (o z))) Gd.no []])
  (.seq (.seq (.region [.mk (mvR (X.t z)) (.some (i (i z))) Gd.no [],
   .mk (lenR LnK.slice (X.t (i (i z)))) (.some (o (o (o z)))) Gd.no [],
   .mk (mvR (X.c (AV.int .i64 0))) (.some (i (o (o z)))) Gd.no []])
  (.block 0 (.loop C100L0)))
  (.seq (.region [.mk (mvR (X.c (AV.int .i64 (-1)))) (.some (i (o z))) Gd.no []])
  .ret)))
theorem C100ok : (match Tryd.f100.body with | some c => comp Tryd.prog 19 c | none => none) = some C100 := by kernel_rfl
@[go_sem] theorem call100 (args : List AV) (H : Heap) : callC Tryd.prog 100 args H = .call 100 args := callC_ok (by kernel_rfl) args H
theorem R100ok : resKs Tryd.prog Tryd.f100.results.toList = some [(RK.tmp (i (o z)))] := by kernel_rfl

/- 103: estuary/cell.IsEvent -/
noncomputable def C103 : CC :=
  (.seq (.region [.mk (boxR false (X.t z)) (.some (o z)) Gd.no [],
   .mk (mvR (X.c (AV.bool false))) (.some (i z)) Gd.no []])
  (.seq (.region [.mk (faR 0 (X.t (o z))) (.some (o (o z))) Gd.no [],
   .mk (ldR false 1 (X.t (o (o z)))) (.some (i (o z))) Gd.no [],
   .mk (faR 2 (X.t (o z))) (.some (o (i z))) Gd.no [],
   .mk (ldR false 1 (X.t (o (i z)))) (.some (i (i z))) Gd.no [],
   .mk (faR 1 (X.t (o z))) (.some (o (o (o z)))) Gd.no [],
   .mk (ldR false 1 (X.t (o (o (o z))))) (.some (i (o (o z)))) Gd.no [],
   .mk (faR 3 (X.t (o z))) (.some (o (i (o z)))) Gd.no [],
   .mk (ldR false 1 (X.t (o (i (o z))))) (.some (i (i (o z)))) Gd.no [],
   .mk (callS Tryd.prog 114 [(X.t (i (o z))), (X.t (i (i z))), (X.t (i (o (o z)))), (X.t (i (i (o z))))]) (.some (o (o (i z)))) Gd.no [],
   .mk (mvR (X.t (o (o (i z))))) (.some (i z)) Gd.no []])
  .ret))
theorem C103ok : (match Tryd.f103.body with | some c => comp Tryd.prog 12 c | none => none) = some C103 := by kernel_rfl
@[go_sem] theorem call103 (args : List AV) (H : Heap) : callC Tryd.prog 103 args H = .call 103 args := callC_ok (by kernel_rfl) args H
theorem R103ok : resKs Tryd.prog Tryd.f103.results.toList = some [(RK.tmp (i z))] := by kernel_rfl

/- 104: estuary/history.Is$1 -/
noncomputable def C104 : CC :=
  (.seq (.region [.mk (boxR false (X.t z)) (.some (i z)) Gd.no [],
   .mk (mvR (X.c (AV.bool false))) (.some (o (o z))) Gd.no []])
  (.seq (.region [.mk (ldR false 1 (X.t (o z))) (.some (i (o z))) Gd.no [],
   .mk (ldR true 5 (X.t (i z))) (.some (o (i z))) Gd.no [],
   .mk (callS Tryd.prog 105 [(X.t (i (o z))), (X.t (o (i z)))]) (.some (i (i z))) Gd.no [],
   .mk (unR UnOp.not (X.t (i (i z)))) (.some (o (o (o z)))) Gd.no [],
   .mk (mvR (X.t (o (o (o z))))) (.some (o (o z))) Gd.no []])
  .ret))
theorem C104ok : (match Tryd.f104.body with | some c => comp Tryd.prog 8 c | none => none) = some C104 := by kernel_rfl
@[go_sem] theorem call104 (args : List AV) (H : Heap) : callC Tryd.prog 104 args H = .call 104 args := callC_ok (by kernel_rfl) args H
theorem R104ok : resKs Tryd.prog Tryd.f104.results.toList = some [(RK.tmp (o (o z)))] := by kernel_rfl

/- 105: estuary/history.of -/
noncomputable def C105L0 : CC :=
  (.seq (.region [.mk (binR Tryd.prog EK.no .none false BinOp.lss (X.t (i (i (o (o z))))) (X.t (o (i (o (o z)))))) (.some (o (o (i (o z))))) Gd.no []])
  (.seq (.cond (X.t (o (o (i (o z)))))
  .skip
  (.exit 0))
  (.seq (.block 1 (.seq (.region [.mk (iaS 4 (X.t (i (o (o (o z))))) (X.t (i (i (o (o z)))))) (.some (i (o (i (o z))))) Gd.no [],
   .mk (ldR true 4 (X.t (i (o (i (o z)))))) (.some (o (i (i (o z))))) Gd.no [],
   .mk (fun _ H => newC false [(AV.str []), (AV.int .i64 0), (AV.str []), (AV.bool false)] H) (.some (i (o (o z)))) Gd.no [],
   .mk (stR 4 (X.t (i (o (o z)))) (X.t (o (i (i (o z)))))) .none Gd.no []])
  (.seq (.seq (.region [.mk (faR 0 (X.t (i (o (o z))))) (.some (i (i (i (o z))))) Gd.no [],
   .mk (ldR false 1 (X.t (i (i (i (o z)))))) (.some (o (o (o (i z))))) Gd.no [],
   .mk (faR 0 (X.t (o (o z)))) (.some (i (o (o (i z))))) Gd.no [],
   .mk (ldR false 1 (X.t (i (o (o (i z)))))) (.some (o (i (o (i z))))) Gd.no [],
   .mk (binR Tryd.prog EK.no .none false BinOp.neq (X.t (o (o (o (i z))))) (X.t (o (i (o (i z)))))) (.some (i (i (o (i z))))) Gd.no []])
  (.cond (X.t (i (i (o (i z)))))
  (.exit 1)
  .skip))
  (.seq (.seq (.region [.mk (faR 1 (X.t (i (o (o z))))) (.some (o (o (i (i z))))) Gd.no [],
   .mk (ldR false 1 (X.t (o (o (i (i z)))))) (.some (i (o (i (i z))))) Gd.no [],
   .mk (mvR (X.t (o (i z)))) (.some (o (i (i (i z))))) Gd.no [],
   .mk (binR Tryd.prog EK.no .none true BinOp.add (X.t (o (i (i (i z))))) (X.c (AV.int .i64 1))) (.some (i (i (i (i z))))) Gd.no [],
   .mk (binR Tryd.prog EK.no .none false BinOp.neq (X.t (i (o (i (i z))))) (X.t (i (i (i (i z)))))) (.some (o (o (o (o (o z)))))) Gd.no []])
  (.cond (X.t (o (o (o (o (o z))))))
  (.seq (.region [.mk (mvR (X.c (AV.bool false))) (.some (i (o z))) Gd.no []])
  .ret)
  .skip))
  (.regionD [.mk (keepH (ldR true 4 (X.t (i (o (o z)))))) (.some (i (i (o (o (o z)))))) Gd.no [],
   .mk (keepH (faR 1 (X.t (i (o (o z)))))) (.some (i (o (o (o (o z)))))) Gd.no [],
   .mk (keepH (ldR false 1 (X.t (i (o (o (o (o z)))))))) (.some (o (i (o (o (o z)))))) Gd.no [],
   .mk (mvR (X.t (o (i (o (o (o z))))))) (.some (o (i z))) Gd.no [.mk (ldR true 4 (X.t (i (o (o z))))) (.some (i (i (o (o (o z)))))) Gd.no],
   .mk (stR 4 (X.t (i (i z))) (X.t (i (i (o (o (o z))))))) .none Gd.no []])))))
  (.region [.mk (binR Tryd.prog EK.no .none true BinOp.add (X.t (i (i (o (o z))))) (X.c (AV.int .i64 1))) (.some (o (o (i (o (o z)))))) Gd.no [],
   .mk (mvR (X.t (o (o (i (o (o z))))))) (.some (i (i (o (o z))))) Gd.no []]))))
noncomputable def C105 : CC :=
  (.seq (.region [.mk (boxR false (X.t (o z))) (.some (o (o z))) Gd.no [],
   .mk (mvR (X.c (AV.bool false))) (.some (i (o z))) Gd.no []])
  (.seq (.region [.mk (faR 4 (X.t (o (o z)))) (.some (o (i (o z)))) Gd.no [],
   .mk (ldR false 1 (X.t (o (i (o z))))) (.some (i (i (o z)))) Gd.no [],
   .mk (mvR (X.t (i (i (o z))))) (.some (o (i z))) Gd.no []])
  (.seq (.region [.mk (faR 1 (X.t (o (o z)))) (.some (o (o (i z)))) Gd.no [],
   .mk (ldR false 1 (X.t (o (o (i z))))) (.some (i (o (i z)))) Gd.no [],
   .mk (faR 3 (X.t (o (o z)))) (.some (o (i (i z)))) Gd.no [],
   .mk (ldR false 1 (X.t (o (i (i z))))) (.some (i (i (i z)))) Gd.no [],
   .mk (buildR [(AV.str []), (AV.int .i64 0), (AV.str []), (AV.bool false)] [(2, (1, (X.t (i (o (i z)))))), (3, (1, (X.t (i (i (i z))))))]) (.some (o (o (o (o z))))) Gd.no [],
   .mk (fun _ H => newC false [(AV.str []), (AV.int .i64 0), (AV.str []), (AV.bool false)] H) (.some (i (i z))) Gd.no [],
   .mk (stR 4 (X.t (i (i z))) (X.t (o (o (o (o z)))))) .none Gd.no []])
  (.seq (.seq (.region [.mk (mvR (X.t z)) (.some (i (o (o (o z))))) Gd.no [],
   .mk (lenR LnK.slice (X.t (i (o (o (o z)))))) (.some (o (i (o (o z))))) Gd.no [],
   .mk (mvR (X.c (AV.int .i64 0))) (.some (i (i (o (o z))))) Gd.no []])
  (.block 0 (.loop C105L0)))
  (.seq (.region [.mk (mvR (X.t (o (i z)))) (.some (i (o (i (o (o z)))))) Gd.no [],
   .mk (faR 2 (X.t (o (o z)))) (.some (o (i (i (o (o z)))))) Gd.no [],
   .mk (ldR false 1 (X.t (o (i (i (o (o z))))))) (.some (i (i (i (o (o z)))))) Gd.no [],
   .mk (binR Tryd.prog EK.no .none false BinOp.eql (X.t (i (o (i (o (o z)))))) (X.t (i (i (i (o (o z))))))) (.some (o (o (o (i (o z)))))) Gd.no [],
   .mk (mvR (X.t (o (o (o (i (o z))))))) (.some (i (o (o (i (o z)))))) Gd.no [],
   .mk (faR 2 (X.t (i (i z)))) (.some (o (i (o (i (o z)))))) (Gd.on (i (o (o (i (o z))))) true) [],
   .mk (ldR false 1 (X.t (o (i (o (i (o z))))))) (.some (i (i (o (i (o z)))))) (Gd.on (i (o (o (i (o z))))) true) [],
   .mk (faR 1 (X.t (o (o z)))) (.some (o (o (i (i (o z)))))) (Gd.on (i (o (o (i (o z))))) true) [],
   .mk (ldR false 1 (X.t (o (o (i (i (o z))))))) (.some (i (o (i (i (o z)))))) (Gd.on (i (o (o (i (o z))))) true) [],
   .mk (binR Tryd.prog EK.no .none false BinOp.eql (X.t (i (i (o (i (o z)))))) (X.t (i (o (i (i (o z))))))) (.some (o (i (i (i (o z)))))) (Gd.on (i (o (o (i (o z))))) true) [],
   .mk (pickR (X.t (i (o (o (i (o z)))))) (X.t (o (i (i (i (o z)))))) (X.c (AV.bool false))) (.some (i (i (i (i (o z)))))) Gd.no [],
   .mk (mvR (X.t (i (i (i (i (o z))))))) (.some (o (o (o (o (i z)))))) Gd.no [],
   .mk (faR 3 (X.t (i (i z)))) (.some (i (o (o (o (i z)))))) (Gd.on (o (o (o (o (i z))))) true) [],
   .mk (ldR false 1 (X.t (i (o (o (o (i z))))))) (.some (o (i (o (o (i z)))))) (Gd.on (o (o (o (o (i z))))) true) [],
   .mk (faR 3 (X.t (o (o z)))) (.some (i (i (o (o (i z)))))) (Gd.on (o (o (o (o (i z))))) true) [],
   .mk (ldR false 1 (X.t (i (i (o (o (i z))))))) (.some (o (o (i (o (i z)))))) (Gd.on (o (o (o (o (i z))))) true) [],
   .mk (binR Tryd.prog EK.bool .none false BinOp.eql (X.t (o (i (o (o (i z)))))) (X.t (o (o (i (o (i z))))))) (.some (i (o (i (o (i z)))))) (Gd.on (o (o (o (o (i z))))) true) [],
   .mk (pickR (X.t (o (o (o (o (i z)))))) (X.t (i (o (i (o (i z)))))) (X.c (AV.bool false))) (.some (o (i (i (o (i z)))))) Gd.no [],
   .mk (mvR (X.t (o (i (i (o (i z))))))) (.some (i (o z))) Gd.no []])
  .ret)))))
theorem C105ok : (match Tryd.f105.body with | some c => comp Tryd.prog 54 c | none => none) = some C105 := by kernel_rfl
@[go_sem] theorem call105 (args : List AV) (H : Heap) : callC Tryd.prog 105 args H = .call 105 args := callC_ok (by kernel_rfl) args H
theorem R105ok : resKs Tryd.prog Tryd.f105.results.toList = some [(RK.tmp (i (o z)))] := by kernel_rfl

end Go.Proofs
