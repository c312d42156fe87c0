/- The laid-out code of the functions that are walked. Printed by a program. -/
import Derived.Test.YtomljpdjfobeoaaGreatDoorZ18
import Derived.Test.YtomljpdjfobeoaaGreatDoorProg
import Derived.KernelRfl
set_option linter.all false
set_option maxRecDepth 100000
namespace Go.Proofs
open Go Go.Ev K
noncomputable def C9 : CC :=
  (.seq (.region [.mk (mvR (X.c (AV.bool false))) (.some z) Gd.no []])
  (.seq (.region [.mk (buildR [(AV.str []), (AV.str []), (AV.int .i64 0), (AV.bool false), (AV.int .i64 0)] [(0, (1, (X.c (AV.str [97])))), (2, (1, (X.c (AV.int .i64 1))))]) (.some (i (o (i z)))) Gd.no [],
   .mk (buildR [(AV.str []), (AV.str []), (AV.int .i64 0), (AV.bool false), (AV.int .i64 0)] [(0, (1, (X.c (AV.str [109])))), (2, (1, (X.c (AV.int .i64 1)))), (4, (1, (X.c (AV.int .i64 1))))]) (.some (o (i (i z)))) Gd.no [],
   .mk (bslR 5 2 [(AV.str []), (AV.str []), (AV.int .i64 0), (AV.bool false), (AV.int .i64 0)] [(0, (X.t (i (o (i z))))), (1, (X.t (o (i (i z)))))]) (.some (i (i (i z)))) Gd.no [],
   .mk (buildR [(AV.str []), (AV.int .i64 0), (AV.str []), (AV.bool false)] [(0, (1, (X.c (AV.str [97])))), (1, (1, (X.c (AV.int .i64 1))))]) (.some (o (o (o (o z))))) Gd.no [],
   .mk (bslR 4 1 [(AV.str []), (AV.int .i64 0), (AV.str []), (AV.bool false)] [(0, (X.t (o (o (o (o z))))))]) (.some (i (o (o (o z))))) Gd.no [],
   .mk (buildR [(AV.int .i64 0), (AV.int .i64 0), (AV.str []), (AV.str []), (AV.bool false), AV.nils, AV.nils, AV.nils] [(0, (1, (X.c (AV.int .i64 1)))), (1, (1, (X.c (AV.int .i64 4)))), (5, (1, (X.t (i (i (i z)))))), (6, (1, (X.t (i (o (o (o z)))))))]) (.some (o (i (o (o z))))) Gd.no [],
   .mk (fun _ H => newC false [(AV.int .i64 0), (AV.int .i64 0), (AV.str []), (AV.str []), (AV.bool false), AV.nils, AV.nils, AV.nils] H) (.some (o z)) Gd.no [],
   .mk (stR 8 (X.t (o z)) (X.t (o (i (o (o z)))))) .none Gd.no []])
  (.seq (.region [.mk (ldR true 8 (X.t (o z))) (.some (o (o (i (o z))))) Gd.no [],
   .mk (callS Tryz.prog 11 [(X.t (o (o (i (o z))))), (X.c (AV.str [99])), (X.c (AV.int .i64 2)), (X.c (AV.int .i64 3))]) (.some (i (o (i (o z))))) Gd.no [],
   .mk (mvR (X.t (i (o (i (o z)))))) (.some (i (i (o (o z))))) Gd.no [],
   .mk (extR (X.t (i (i (o (o z))))) 0) (.some (o (i (i (o z))))) Gd.no [],
   .mk (extR (X.t (i (i (o (o z))))) 1) (.some (i (i (i (o z))))) Gd.no [],
   .mk (extR (X.t (i (i (o (o z))))) 2) (.some (o (o (o (i z))))) Gd.no [],
   .mk (fun _ H => newC false [(AV.int .i64 0), (AV.int .i64 0), (AV.str []), (AV.str []), (AV.bool false), AV.nils, AV.nils, AV.nils] H) (.some (i z)) Gd.no [],
   .mk (fun _ H => newC false [(AV.int .i64 0), (AV.int .i64 0), (AV.str []), (AV.str []), (AV.bool false), AV.nils, AV.nils, AV.nils] H) (.some (o (o z))) Gd.no [],
   .mk (stR 8 (X.t (i z)) (X.t (o (i (i (o z)))))) .none Gd.no [],
   .mk (stR 8 (X.t (o (o z))) (X.t (i (i (i (o z)))))) .none Gd.no [],
   .mk (mvR (X.t (o (o (o (i z)))))) (.some (i (o z))) Gd.no []])
  (.seq (.region [.mk (ldR true 8 (X.t (i z))) (.some (o (i (o (i z))))) Gd.no [],
   .mk (ldR true 8 (X.t (o (o z)))) (.some (i (i (o (i z))))) Gd.no [],
   .mk (callS Tryz.prog 13 [(X.t (o (i (o (i z))))), (X.t (i (i (o (i z))))), (X.c (AV.int .i64 4))]) (.some (o (o (i (i z))))) Gd.no [],
   .mk (mvR (X.t (o (o (i (i z)))))) (.some (i (o (o (i z))))) Gd.no [],
   .mk (extR (X.t (i (o (o (i z))))) 0) (.some (i (o (i (i z))))) Gd.no [],
   .mk (extR (X.t (i (o (o (i z))))) 1) (.some (o (i (i (i z))))) Gd.no [],
   .mk (fun _ H => newC false [(AV.int .i64 0), (AV.int .i64 0), (AV.str []), (AV.str []), (AV.bool false), AV.nils, AV.nils, AV.nils] H) (.some (o (i z))) Gd.no [],
   .mk (stR 8 (X.t (o (i z))) (X.t (i (o (i (i z)))))) .none Gd.no [],
   .mk (mvR (X.t (o (i (i (i z)))))) (.some (i (i z))) Gd.no []])
  (.seq (.region [.mk (ldR true 8 (X.t (o z))) (.some (o (o (o (o (o z)))))) Gd.no [],
   .mk (callS Tryz.prog 11 [(X.t (o (o (o (o (o z)))))), (X.c (AV.str [99])), (X.c (AV.int .i64 2)), (X.c (AV.int .i64 2))]) (.some (i (o (o (o (o z)))))) Gd.no [],
   .mk (mvR (X.t (i (o (o (o (o z))))))) (.some (i (i (i (i z))))) Gd.no [],
   .mk (extR (X.t (i (i (i (i z))))) 0) (.some (o (i (o (o (o z)))))) Gd.no [],
   .mk (extR (X.t (i (i (i (i z))))) 1) (.some (i (i (o (o (o z)))))) Gd.no [],
   .mk (extR (X.t (i (i (i (i z))))) 2) (.some (o (o (i (o (o z)))))) Gd.no [],
   .mk (fun _ H => newC false [(AV.int .i64 0), (AV.int .i64 0), (AV.str []), (AV.str []), (AV.bool false), AV.nils, AV.nils, AV.nils] H) (.some (o (o (o z)))) Gd.no [],
   .mk (fun _ H => newC false [(AV.int .i64 0), (AV.int .i64 0), (AV.str []), (AV.str []), (AV.bool false), AV.nils, AV.nils, AV.nils] H) (.some (i (o (o z)))) Gd.no [],
   .mk (stR 8 (X.t (o (o (o z)))) (X.t (o (i (o (o (o z))))))) .none Gd.no [],
   .mk (stR 8 (X.t (i (o (o z)))) (X.t (i (i (o (o (o z))))))) .none Gd.no [],
   .mk (mvR (X.t (o (o (i (o (o z))))))) (.some (o (i (o z)))) Gd.no []])
  (.seq (.region [.mk (ldR true 8 (X.t (o (o z)))) (.some (o (i (i (o (o z)))))) Gd.no [],
   .mk (ldR true 8 (X.t (i z))) (.some (i (i (i (o (o z)))))) Gd.no [],
   .mk (callS Tryz.prog 13 [(X.t (o (i (i (o (o z)))))), (X.t (i (i (i (o (o z)))))), (X.c (AV.int .i64 4))]) (.some (o (o (o (i (o z)))))) Gd.no [],
   .mk (mvR (X.t (o (o (o (i (o z))))))) (.some (i (o (i (o (o z)))))) Gd.no [],
   .mk (extR (X.t (i (o (i (o (o z)))))) 0) (.some (i (o (o (i (o z)))))) Gd.no [],
   .mk (extR (X.t (i (o (i (o (o z)))))) 1) (.some (o (i (o (i (o z)))))) Gd.no [],
   .mk (fun _ H => newC false [(AV.int .i64 0), (AV.int .i64 0), (AV.str []), (AV.str []), (AV.bool false), AV.nils, AV.nils, AV.nils] H) (.some (i (i (o z)))) Gd.no [],
   .mk (stR 8 (X.t (i (i (o z)))) (X.t (i (o (o (i (o z))))))) .none Gd.no [],
   .mk (mvR (X.t (o (i (o (i (o z))))))) (.some (o (o (i z)))) Gd.no []])
  (.seq (.region [.mk (mvR (X.t (i (o z)))) (.some (i (i (o (i (o z)))))) Gd.no [],
   .mk (binR Tryz.prog EK.iface .none true BinOp.eql (X.t (i (i (o (i (o z)))))) (X.c AV.nili)) (.some (o (o (i (i (o z)))))) Gd.no [],
   .mk (mvR (X.t (o (o (i (i (o z))))))) (.some (i (o (i (i (o z)))))) Gd.no [],
   .mk (faR 0 (X.t (i z))) (.some (o (i (i (i (o z)))))) (Gd.on (i (o (i (i (o z))))) true) [],
   .mk (ldR false 1 (X.t (o (i (i (i (o z))))))) (.some (i (i (i (i (o z)))))) (Gd.on (i (o (i (i (o z))))) true) [],
   .mk (binR Tryz.prog EK.no .none true BinOp.eql (X.t (i (i (i (i (o z)))))) (X.c (AV.int .i64 2))) (.some (o (o (o (o (i z)))))) (Gd.on (i (o (i (i (o z))))) true) [],
   .mk (pickR (X.t (i (o (i (i (o z)))))) (X.t (o (o (o (o (i z)))))) (X.c (AV.bool false))) (.some (i (o (o (o (i z)))))) Gd.no [],
   .mk (mvR (X.t (i (o (o (o (i z))))))) (.some (o (i (o (o (i z)))))) Gd.no [],
   .mk (faR 0 (X.t (o (o z)))) (.some (i (i (o (o (i z)))))) (Gd.on (o (i (o (o (i z))))) true) [],
   .mk (ldR false 1 (X.t (i (i (o (o (i z))))))) (.some (o (o (i (o (i z)))))) (Gd.on (o (i (o (o (i z))))) true) [],
   .mk (binR Tryz.prog EK.no .none true BinOp.eql (X.t (o (o (i (o (i z)))))) (X.c (AV.int .i64 3))) (.some (i (o (i (o (i z)))))) (Gd.on (o (i (o (o (i z))))) true) [],
   .mk (pickR (X.t (o (i (o (o (i z)))))) (X.t (i (o (i (o (i z)))))) (X.c (AV.bool false))) (.some (o (i (i (o (i z)))))) Gd.no [],
   .mk (mvR (X.t (o (i (i (o (i z))))))) (.some (i (i (i (o (i z)))))) Gd.no [],
   .mk (faR 1 (X.t (i z))) (.some (o (o (o (i (i z)))))) (Gd.on (i (i (i (o (i z))))) true) [],
   .mk (ldR false 1 (X.t (o (o (o (i (i z))))))) (.some (i (o (o (i (i z)))))) (Gd.on (i (i (i (o (i z))))) true) [],
   .mk (binR Tryz.prog EK.no .none true BinOp.eql (X.t (i (o (o (i (i z)))))) (X.c (AV.int .i64 1))) (.some (o (i (o (i (i z)))))) (Gd.on (i (i (i (o (i z))))) true) [],
   .mk (pickR (X.t (i (i (i (o (i z)))))) (X.t (o (i (o (i (i z)))))) (X.c (AV.bool false))) (.some (i (i (o (i (i z)))))) Gd.no [],
   .mk (mvR (X.t (i (i (o (i (i z))))))) (.some (o (o (i (i (i z)))))) Gd.no [],
   .mk (faR 5 (X.t (i z))) (.some (i (o (i (i (i z)))))) (Gd.on (o (o (i (i (i z))))) true) [],
   .mk (ldR false 1 (X.t (i (o (i (i (i z))))))) (.some (o (i (i (i (i z)))))) (Gd.on (o (o (i (i (i z))))) true) [],
   .mk (lenR LnK.slice (X.t (o (i (i (i (i z))))))) (.some (i (i (i (i (i z)))))) (Gd.on (o (o (i (i (i z))))) true) [],
   .mk (binR Tryz.prog EK.no .none true BinOp.eql (X.t (i (i (i (i (i z)))))) (X.c (AV.int .i64 1))) (.some (o (o (o (o (o (o z))))))) (Gd.on (o (o (i (i (i z))))) true) [],
   .mk (pickR (X.t (o (o (i (i (i z)))))) (X.t (o (o (o (o (o (o z))))))) (X.c (AV.bool false))) (.some (i (o (o (o (o (o z))))))) Gd.no [],
   .mk (mvR (X.t (i (o (o (o (o (o z)))))))) (.some (o (i (o (o (o (o z))))))) Gd.no [],
   .mk (faR 6 (X.t (i z))) (.some (i (i (o (o (o (o z))))))) (Gd.on (o (i (o (o (o (o z)))))) true) [],
   .mk (ldR false 1 (X.t (i (i (o (o (o (o z)))))))) (.some (o (o (i (o (o (o z))))))) (Gd.on (o (i (o (o (o (o z)))))) true) [],
   .mk (lenR LnK.slice (X.t (o (o (i (o (o (o z)))))))) (.some (i (o (i (o (o (o z))))))) (Gd.on (o (i (o (o (o (o z)))))) true) [],
   .mk (binR Tryz.prog EK.no .none true BinOp.eql (X.t (i (o (i (o (o (o z))))))) (X.c (AV.int .i64 1))) (.some (o (i (i (o (o (o z))))))) (Gd.on (o (i (o (o (o (o z)))))) true) [],
   .mk (pickR (X.t (o (i (o (o (o (o z))))))) (X.t (o (i (i (o (o (o z))))))) (X.c (AV.bool false))) (.some (i (i (i (o (o (o z))))))) Gd.no [],
   .mk (mvR (X.t (i (i (i (o (o (o z)))))))) (.some (o (o (o (i (o (o z))))))) Gd.no [],
   .mk (faR 6 (X.t (o (o z)))) (.some (i (o (o (i (o (o z))))))) (Gd.on (o (o (o (i (o (o z)))))) true) [],
   .mk (ldR false 1 (X.t (i (o (o (i (o (o z)))))))) (.some (o (i (o (i (o (o z))))))) (Gd.on (o (o (o (i (o (o z)))))) true) [],
   .mk (lenR LnK.slice (X.t (o (i (o (i (o (o z)))))))) (.some (i (i (o (i (o (o z))))))) (Gd.on (o (o (o (i (o (o z)))))) true) [],
   .mk (binR Tryz.prog EK.no .none true BinOp.eql (X.t (i (i (o (i (o (o z))))))) (X.c (AV.int .i64 0))) (.some (o (o (i (i (o (o z))))))) (Gd.on (o (o (o (i (o (o z)))))) true) [],
   .mk (pickR (X.t (o (o (o (i (o (o z))))))) (X.t (o (o (i (i (o (o z))))))) (X.c (AV.bool false))) (.some (i (o (i (i (o (o z))))))) Gd.no [],
   .mk (mvR (X.t (i (o (i (i (o (o z)))))))) (.some (o (i (i (i (o (o z))))))) Gd.no [],
   .mk (faR 2 (X.t (o (o z)))) (.some (i (i (i (i (o (o z))))))) (Gd.on (o (i (i (i (o (o z)))))) true) [],
   .mk (faR 0 (X.t (i (i (i (i (o (o z)))))))) (.some (o (o (o (o (i (o z))))))) (Gd.on (o (i (i (i (o (o z)))))) true) [],
   .mk (ldR false 1 (X.t (o (o (o (o (i (o z)))))))) (.some (i (o (o (o (i (o z))))))) (Gd.on (o (i (i (i (o (o z)))))) true) [],
   .mk (binR Tryz.prog EK.no .none true BinOp.eql (X.t (i (o (o (o (i (o z))))))) (X.c (AV.str [99]))) (.some (o (i (o (o (i (o z))))))) (Gd.on (o (i (i (i (o (o z)))))) true) [],
   .mk (pickR (X.t (o (i (i (i (o (o z))))))) (X.t (o (i (o (o (i (o z))))))) (X.c (AV.bool false))) (.some (i (i (o (o (i (o z))))))) Gd.no [],
   .mk (mvR (X.t (i (i (o (o (i (o z)))))))) (.some (o (o (i (o (i (o z))))))) Gd.no [],
   .mk (mvR (X.t (i (i z)))) (.some (i (o (i (o (i (o z))))))) (Gd.on (o (o (i (o (i (o z)))))) true) [],
   .mk (binR Tryz.prog EK.iface .none true BinOp.eql (X.t (i (o (i (o (i (o z))))))) (X.c AV.nili)) (.some (o (i (i (o (i (o z))))))) (Gd.on (o (o (i (o (i (o z)))))) true) [],
   .mk (pickR (X.t (o (o (i (o (i (o z))))))) (X.t (o (i (i (o (i (o z))))))) (X.c (AV.bool false))) (.some (i (i (i (o (i (o z))))))) Gd.no [],
   .mk (mvR (X.t (i (i (i (o (i (o z)))))))) (.some (o (o (o (i (i (o z))))))) Gd.no [],
   .mk (faR 0 (X.t (o (i z)))) (.some (i (o (o (i (i (o z))))))) (Gd.on (o (o (o (i (i (o z)))))) true) [],
   .mk (ldR false 1 (X.t (i (o (o (i (i (o z)))))))) (.some (o (i (o (i (i (o z))))))) (Gd.on (o (o (o (i (i (o z)))))) true) [],
   .mk (binR Tryz.prog EK.no .none true BinOp.eql (X.t (o (i (o (i (i (o z))))))) (X.c (AV.int .i64 4))) (.some (i (i (o (i (i (o z))))))) (Gd.on (o (o (o (i (i (o z)))))) true) [],
   .mk (pickR (X.t (o (o (o (i (i (o z))))))) (X.t (i (i (o (i (i (o z))))))) (X.c (AV.bool false))) (.some (o (o (i (i (i (o z))))))) Gd.no [],
   .mk (mvR (X.t (o (o (i (i (i (o z)))))))) (.some (i (o (i (i (i (o z))))))) Gd.no [],
   .mk (faR 5 (X.t (o (i z)))) (.some (o (i (i (i (i (o z))))))) (Gd.on (i (o (i (i (i (o z)))))) true) [],
   .mk (ldR false 1 (X.t (o (i (i (i (i (o z)))))))) (.some (i (i (i (i (i (o z))))))) (Gd.on (i (o (i (i (i (o z)))))) true) [],
   .mk (lenR LnK.slice (X.t (i (i (i (i (i (o z)))))))) (.some (o (o (o (o (o (i z))))))) (Gd.on (i (o (i (i (i (o z)))))) true) [],
   .mk (binR Tryz.prog EK.no .none true BinOp.eql (X.t (o (o (o (o (o (i z))))))) (X.c (AV.int .i64 2))) (.some (i (o (o (o (o (i z))))))) (Gd.on (i (o (i (i (i (o z)))))) true) [],
   .mk (pickR (X.t (i (o (i (i (i (o z))))))) (X.t (i (o (o (o (o (i z))))))) (X.c (AV.bool false))) (.some (o (i (o (o (o (i z))))))) Gd.no [],
   .mk (mvR (X.t (o (i (o (o (o (i z)))))))) (.some (i (i (o (o (o (i z))))))) Gd.no [],
   .mk (mvR (X.t (o (i (o z))))) (.some (o (o (i (o (o (i z))))))) (Gd.on (i (i (o (o (o (i z)))))) true) [],
   .mk (callS Tryz.prog 26 [(X.t (o (o (i (o (o (i z))))))), (X.c (AV.int .i64 10))]) (.some (i (o (i (o (o (i z))))))) (Gd.on (i (i (o (o (o (i z)))))) true) [],
   .mk (pickR (X.t (i (i (o (o (o (i z))))))) (X.t (i (o (i (o (o (i z))))))) (X.c (AV.bool false))) (.some (o (i (i (o (o (i z))))))) Gd.no [],
   .mk (mvR (X.t (o (i (i (o (o (i z)))))))) (.some (i (i (i (o (o (i z))))))) Gd.no [],
   .mk (mvR (X.t (o (o (i z))))) (.some (o (o (o (i (o (i z))))))) (Gd.on (i (i (i (o (o (i z)))))) true) [],
   .mk (callS Tryz.prog 26 [(X.t (o (o (o (i (o (i z))))))), (X.c (AV.int .i64 22))]) (.some (i (o (o (i (o (i z))))))) (Gd.on (i (i (i (o (o (i z)))))) true) [],
   .mk (pickR (X.t (i (i (i (o (o (i z))))))) (X.t (i (o (o (i (o (i z))))))) (X.c (AV.bool false))) (.some (o (i (o (i (o (i z))))))) Gd.no [],
   .mk (mvR (X.t (o (i (o (i (o (i z)))))))) (.some z) Gd.no []])
  .ret)))))))
theorem C9ok : (match Tryz.f9.body with | some c => comp Tryz.prog 106 c | none => none) = some C9 := by kernel_rfl
@[go_sem] theorem call9 (args : List AV) (H : Heap) : callC Tryz.prog 9 args H = .call 9 args := callC_ok (by kernel_rfl) args H
theorem R9ok : resKs Tryz.prog Tryz.f9.results.toList = some [(RK.tmp z)] := by kernel_rfl

@[go_sem] theorem call10 (args : List AV) (H : Heap) : callC Tryz.prog 10 args H = .call 10 args := callC_ok (by kernel_rfl) args H
noncomputable def C11 : CC :=
  (.seq (.region [.mk (boxR false (X.t z)) (.some (i (o z))) Gd.no [],
   .mk (fun _ H => newC false [(AV.int .i64 0), (AV.int .i64 0), (AV.str []), (AV.str []), (AV.bool false), AV.nils, AV.nils, AV.nils] H) (.some (i (o (o z)))) Gd.no [],
   .mk (fun _ H => newC false [(AV.int .i64 0), (AV.int .i64 0), (AV.str []), (AV.str []), (AV.bool false), AV.nils, AV.nils, AV.nils] H) (.some (o (i (o z)))) Gd.no [],
   .mk (mvR (X.c AV.nili)) (.some (i (i (o z)))) Gd.no []])
  (.seq (.seq (.region [.mk (ldR true 8 (X.t (i (o z)))) (.some (o (o (o (o z))))) Gd.no [],
   .mk (callS Tryz.prog 27 [(X.t (o (o (o (o z)))))]) (.some (i (o (o (o z))))) Gd.no [],
   .mk (mvR (X.t (i (o (o (o z)))))) (.some (o (o (i z)))) Gd.no []])
  (.seq (.region [.mk (mvR (X.t (o (o (i z))))) (.some (o (i (o (o z))))) Gd.no [],
   .mk (mkiR 42 (X.c (AV.int .i64 10))) (.some (i (i (o (o z))))) Gd.no [],
   .mk (callS Tryz.prog 28 [(X.t (o (i (o (o z))))), (X.t (i (i (o (o z)))))]) (.some (o (o (i (o z))))) Gd.no [],
   .mk (mvR (X.t (o (o (i (o z)))))) (.some (i (o (i (o z))))) Gd.no [],
   .mk (mvR (X.t (i z))) (.some (o (i (i (o z))))) (Gd.on (i (o (i (o z)))) false) [],
   .mk (callS Tryz.prog 29 [(X.t (o (i (i (o z)))))]) (.some (i (i (i (o z))))) (Gd.on (i (o (i (o z)))) false) [],
   .mk (unR UnOp.not (X.t (i (i (i (o z)))))) (.some (o (o (o (i z))))) (Gd.on (i (o (i (o z)))) false) [],
   .mk (pickR (X.t (i (o (i (o z))))) (X.c (AV.bool true)) (X.t (o (o (o (i z)))))) (.some (i (o (o (i z))))) Gd.no [],
   .mk (mvR (X.t (i (o (o (i z)))))) (.some (o (i (o (i z))))) Gd.no [],
   .mk (mvR (X.t (o (o z)))) (.some (i (i (o (i z))))) (Gd.on (o (i (o (i z)))) false) [],
   .mk (callS Tryz.prog 29 [(X.t (i (i (o (i z)))))]) (.some (o (o (i (i z))))) (Gd.on (o (i (o (i z)))) false) [],
   .mk (unR UnOp.not (X.t (o (o (i (i z)))))) (.some (i (o (i (i z))))) (Gd.on (o (i (o (i z)))) false) [],
   .mk (pickR (X.t (o (i (o (i z))))) (X.c (AV.bool true)) (X.t (i (o (i (i z)))))) (.some (o (i (i (i z))))) Gd.no [],
   .mk (mvR (X.t (o (i (i (i z)))))) (.some (i (i (i (i z))))) Gd.no [],
   .mk (mvR (X.t (i z))) (.some (o (o (o (o (o z)))))) (Gd.on (i (i (i (i z)))) false) [],
   .mk (mvR (X.t (o (o z)))) (.some (i (o (o (o (o z)))))) (Gd.on (i (i (i (i z)))) false) [],
   .mk (binR Tryz.prog EK.no .none false BinOp.eql (X.t (o (o (o (o (o z)))))) (X.t (i (o (o (o (o z))))))) (.some (o (i (o (o (o z)))))) (Gd.on (i (i (i (i z)))) false) [],
   .mk (pickR (X.t (i (i (i (i z))))) (X.c (AV.bool true)) (X.t (o (i (o (o (o z))))))) (.some (i (i (o (o (o z)))))) Gd.no []])
  (.cond (X.t (i (i (o (o (o z))))))
  (.seq (.region [.mk (buildR [(AV.int .i64 0), (AV.int .i64 0), (AV.str []), (AV.str []), (AV.bool false), AV.nils, AV.nils, AV.nils] []) (.some (o (o (i (o (o z)))))) Gd.no [],
   .mk (buildR [(AV.int .i64 0), (AV.int .i64 0), (AV.str []), (AV.str []), (AV.bool false), AV.nils, AV.nils, AV.nils] []) (.some (i (o (i (o (o z)))))) Gd.no [],
   .mk (mkiR 42 (X.c (AV.int .i64 10))) (.some (o (i (i (o (o z)))))) Gd.no [],
   .mk (stR 8 (X.t (i (o (o z)))) (X.t (o (o (i (o (o z))))))) .none Gd.no [],
   .mk (stR 8 (X.t (o (i (o z)))) (X.t (i (o (i (o (o z))))))) .none Gd.no [],
   .mk (mvR (X.t (o (i (i (o (o z))))))) (.some (i (i (o z)))) Gd.no []])
  .ret)
  .skip)))
  (.seq (.region [.mk (faR 2 (X.t (i (o z)))) (.some (o (o (o (i (o z)))))) Gd.no [],
   .mk (ldR true 2 (X.t (o (o (o (i (o z))))))) (.some (i (o (o (i (o z)))))) Gd.no [],
   .mk (mvR (X.t (o z))) (.some (o (i (o (i (o z)))))) Gd.no [],
   .mk (callS Tryz.prog 30 [(X.t (i (o (o (i (o z)))))), (X.t (o (i (o (i (o z))))))]) (.some (i (i (o (i (o z)))))) Gd.no [],
   .mk (mvR (X.t (i (i (o (i (o z))))))) (.some (i (i (i (o (o z)))))) Gd.no [],
   .mk (extR (X.t (i (i (i (o (o z)))))) 0) (.some (o (o (i (i (o z)))))) Gd.no [],
   .mk (extR (X.t (i (i (i (o (o z)))))) 1) (.some (i (o (i (i (o z)))))) Gd.no [],
   .mk (extR (X.t (i (i (i (o (o z)))))) 2) (.some (o (i (i (i (o z)))))) Gd.no [],
   .mk (fun _ H => newC false [(AV.str []), (AV.str [])] H) (.some (i (o (i z)))) Gd.no [],
   .mk (fun _ H => newC false [(AV.str []), (AV.str [])] H) (.some (o (i (i z)))) Gd.no [],
   .mk (stR 2 (X.t (i (o (i z)))) (X.t (o (o (i (i (o z))))))) .none Gd.no [],
   .mk (stR 2 (X.t (o (i (i z)))) (X.t (i (o (i (i (o z))))))) .none Gd.no [],
   .mk (mvR (X.t (o (i (i (i (o z))))))) (.some (i (i (i z)))) Gd.no []])
  (.seq (.seq (.region [.mk (mvR (X.t (i (i (i z))))) (.some (i (i (i (i (o z)))))) Gd.no [],
   .mk (unR UnOp.not (X.t (i (i (i (i (o z))))))) (.some (o (o (o (o (i z)))))) Gd.no []])
  (.cond (X.t (o (o (o (o (i z))))))
  (.seq (.region [.mk (buildR [(AV.int .i64 0), (AV.int .i64 0), (AV.str []), (AV.str []), (AV.bool false), AV.nils, AV.nils, AV.nils] []) (.some (i (o (o (o (i z)))))) Gd.no [],
   .mk (buildR [(AV.int .i64 0), (AV.int .i64 0), (AV.str []), (AV.str []), (AV.bool false), AV.nils, AV.nils, AV.nils] []) (.some (o (i (o (o (i z)))))) Gd.no [],
   .mk (mkiR 42 (X.c (AV.int .i64 22))) (.some (i (i (o (o (i z)))))) Gd.no [],
   .mk (stR 8 (X.t (i (o (o z)))) (X.t (i (o (o (o (i z))))))) .none Gd.no [],
   .mk (stR 8 (X.t (o (i (o z)))) (X.t (o (i (o (o (i z))))))) .none Gd.no [],
   .mk (mvR (X.t (i (i (o (o (i z))))))) (.some (i (i (o z)))) Gd.no []])
  .ret)
  .skip))
  (.seq (.regionD [.mk (keepH (ldR true 2 (X.t (o (i (i z)))))) (.some (o (i (o (i (i z)))))) Gd.no [],
   .mk (keepH (mvR (X.t (o (o z))))) (.some (i (o (o (i (i z)))))) Gd.no [],
   .mk (keepH (ldR true 8 (X.t (i (o z))))) (.some (o (o (o (i (i z)))))) Gd.no [],
   .mk (keepH (ldR true 2 (X.t (i (o (i z)))))) (.some (o (i (i (o (i z)))))) Gd.no [],
   .mk (keepH (mvR (X.t (i z)))) (.some (i (o (i (o (i z)))))) Gd.no [],
   .mk (keepH (ldR true 8 (X.t (i (o z))))) (.some (o (o (i (o (i z)))))) Gd.no [],
   .mk (callS Tryz.prog 31 [(X.t (o (o (i (o (i z)))))), (X.t (i (o (i (o (i z)))))), (X.t (o (i (i (o (i z))))))]) (.some (i (i (i (o (i z)))))) Gd.no [.mk (ldR true 8 (X.t (i (o z)))) (.some (o (o (o (i (i z)))))) Gd.no, .mk (mvR (X.t (o (o z)))) (.some (i (o (o (i (i z)))))) Gd.no, .mk (ldR true 2 (X.t (o (i (i z))))) (.some (o (i (o (i (i z)))))) Gd.no],
   .mk (callS Tryz.prog 31 [(X.t (o (o (o (i (i z)))))), (X.t (i (o (o (i (i z)))))), (X.t (o (i (o (i (i z))))))]) (.some (i (i (o (i (i z)))))) Gd.no [],
   .mk (stR 8 (X.t (i (o (o z)))) (X.t (i (i (i (o (i z))))))) .none Gd.no [],
   .mk (stR 8 (X.t (o (i (o z)))) (X.t (i (i (o (i (i z))))))) .none Gd.no [],
   .mk (mvR (X.c AV.nili)) (.some (i (i (o z)))) Gd.no []])
  .ret)))))
theorem C11ok : (match Tryz.f11.body with | some c => comp Tryz.prog 59 c | none => none) = some C11 := by kernel_rfl
@[go_sem] theorem call11 (args : List AV) (H : Heap) : callC Tryz.prog 11 args H = .call 11 args := callC_ok (by kernel_rfl) args H
theorem R11ok : resKs Tryz.prog Tryz.f11.results.toList = some [(RK.cell (i (o (o z))) true 8), (RK.cell (o (i (o z))) true 8), (RK.tmp (i (i (o z))))] := by kernel_rfl

@[go_sem] theorem call12 (args : List AV) (H : Heap) : callC Tryz.prog 12 args H = .call 12 args := callC_ok (by kernel_rfl) args H
noncomputable def C13 : CC :=
  (.seq (.region [.mk (boxR false (X.t z)) (.some (o (o z))) Gd.no [],
   .mk (boxR false (X.t (o z))) (.some (i (o z))) Gd.no [],
   .mk (fun _ H => newC false [(AV.int .i64 0), (AV.int .i64 0), (AV.str []), (AV.str []), (AV.bool false), AV.nils, AV.nils, AV.nils] H) (.some (i (i z))) Gd.no [],
   .mk (mvR (X.c AV.nili)) (.some (o (o (o z)))) Gd.no []])
  (.seq (.seq (.regionD [.mk (keepH (ldR true 8 (X.t (i (o z))))) (.some (i (o (i z)))) Gd.no [],
   .mk (keepH (ldR true 8 (X.t (o (o z))))) (.some (i (i (o z)))) Gd.no [],
   .mk (callS Tryz.prog 27 [(X.t (i (i (o z))))]) (.some (o (o (i z)))) Gd.no [.mk (ldR true 8 (X.t (i (o z)))) (.some (i (o (i z)))) Gd.no],
   .mk (callS Tryz.prog 27 [(X.t (i (o (i z))))]) (.some (o (i (i z)))) Gd.no [],
   .mk (callS Tryz.prog 35 [(X.t (o (o (i z)))), (X.t (o (i (i z))))]) (.some (i (i (i z)))) Gd.no [],
   .mk (mvR (X.t (i (i (i z))))) (.some (i (o (o z)))) Gd.no []])
  (.seq (.region [.mk (mvR (X.t (i (o (o z))))) (.some (o (o (o (o z))))) Gd.no [],
   .mk (binR Tryz.prog EK.iface .none true BinOp.neq (X.t (o (o (o (o z))))) (X.c AV.nili)) (.some (i (o (o (o z))))) Gd.no [],
   .mk (mvR (X.t (i (o (o (o z)))))) (.some (o (i (o (o z))))) Gd.no [],
   .mk (mvR (X.t (i z))) (.some (i (i (o (o z))))) (Gd.on (o (i (o (o z)))) false) [],
   .mk (callS Tryz.prog 29 [(X.t (i (i (o (o z)))))]) (.some (o (o (i (o z))))) (Gd.on (o (i (o (o z)))) false) [],
   .mk (unR UnOp.not (X.t (o (o (i (o z)))))) (.some (i (o (i (o z))))) (Gd.on (o (i (o (o z)))) false) [],
   .mk (pickR (X.t (o (i (o (o z))))) (X.c (AV.bool true)) (X.t (i (o (i (o z)))))) (.some (o (i (i (o z))))) Gd.no []])
  (.cond (X.t (o (i (i (o z)))))
  (.seq (.region [.mk (buildR [(AV.int .i64 0), (AV.int .i64 0), (AV.str []), (AV.str []), (AV.bool false), AV.nils, AV.nils, AV.nils] []) (.some (i (i (i (o z))))) Gd.no [],
   .mk (mkiR 42 (X.c (AV.int .i64 10))) (.some (o (o (o (i z))))) Gd.no [],
   .mk (stR 8 (X.t (i (i z))) (X.t (i (i (i (o z)))))) .none Gd.no [],
   .mk (mvR (X.t (o (o (o (i z)))))) (.some (o (o (o z)))) Gd.no []])
  .ret)
  .skip)))
  (.seq (.seq (.region [.mk (faR 2 (X.t (o (o z)))) (.some (i (o (o (i z))))) Gd.no [],
   .mk (ldR true 2 (X.t (i (o (o (i z)))))) (.some (o (i (o (i z))))) Gd.no [],
   .mk (faR 2 (X.t (i (o z)))) (.some (i (i (o (i z))))) Gd.no [],
   .mk (ldR true 2 (X.t (i (i (o (i z)))))) (.some (o (o (i (i z))))) Gd.no [],
   .mk (callS Tryz.prog 36 [(X.t (o (i (o (i z))))), (X.t (o (o (i (i z)))))]) (.some (i (o (i (i z))))) Gd.no [],
   .mk (unR UnOp.not (X.t (i (o (i (i z)))))) (.some (o (i (i (i z))))) Gd.no []])
  (.cond (X.t (o (i (i (i z)))))
  (.seq (.region [.mk (buildR [(AV.int .i64 0), (AV.int .i64 0), (AV.str []), (AV.str []), (AV.bool false), AV.nils, AV.nils, AV.nils] []) (.some (i (i (i (i z))))) Gd.no [],
   .mk (mkiR 42 (X.c (AV.int .i64 22))) (.some (o (o (o (o (o z)))))) Gd.no [],
   .mk (stR 8 (X.t (i (i z))) (X.t (i (i (i (i z)))))) .none Gd.no [],
   .mk (mvR (X.t (o (o (o (o (o z))))))) (.some (o (o (o z)))) Gd.no []])
  .ret)
  .skip))
  (.seq (.region [.mk (mvR (X.t (i z))) (.some (i (o (o (o (o z)))))) Gd.no [],
   .mk (faR 2 (X.t (o (o z)))) (.some (o (i (o (o (o z)))))) Gd.no [],
   .mk (faR 0 (X.t (o (i (o (o (o z))))))) (.some (i (i (o (o (o z)))))) Gd.no [],
   .mk (ldR false 1 (X.t (i (i (o (o (o z))))))) (.some (o (o (i (o (o z)))))) Gd.no [],
   .mk (faR 2 (X.t (i (o z)))) (.some (i (o (i (o (o z)))))) Gd.no [],
   .mk (faR 1 (X.t (i (o (i (o (o z))))))) (.some (o (i (i (o (o z)))))) Gd.no [],
   .mk (ldR false 1 (X.t (o (i (i (o (o z))))))) (.some (i (i (i (o (o z)))))) Gd.no [],
   .mk (buildR [(AV.str []), (AV.str [])] [(0, (1, (X.t (o (o (i (o (o z)))))))), (1, (1, (X.t (i (i (i (o (o z))))))))]) (.some (o (o (o (i (o z)))))) Gd.no [],
   .mk (callS Tryz.prog 20 [(X.t (i (o (o (o (o z)))))), (X.c (AV.int .i64 1)), (X.t (o (o (o (i (o z))))))]) (.some (i (o (o (i (o z)))))) Gd.no [],
   .mk (fun _ H => newC false [(AV.int .i64 0), (AV.int .i64 0), (AV.str []), (AV.str []), (AV.bool false), AV.nils, AV.nils, AV.nils] H) (.some (o (i (o z)))) Gd.no [],
   .mk (stR 8 (X.t (o (i (o z)))) (X.t (i (o (o (i (o z))))))) .none Gd.no []])
  (.seq (.regionD [.mk (keepH (faR 5 (X.t (i (o z))))) (.some (i (i (o (o (i z)))))) Gd.no [],
   .mk (keepH (ldR false 1 (X.t (i (i (o (o (i z)))))))) (.some (o (o (i (o (i z)))))) Gd.no [],
   .mk (keepH (faR 5 (X.t (o (o z))))) (.some (i (o (o (o (i z)))))) Gd.no [],
   .mk (keepH (ldR false 1 (X.t (i (o (o (o (i z)))))))) (.some (o (i (o (o (i z)))))) Gd.no [],
   .mk (addH (bslR 1 2 [AV.nils] [(0, (X.t (o (i (o (o (i z))))))), (1, (X.t (o (o (i (o (i z)))))))])) (.some (i (o (i (o (i z)))))) Gd.no [.mk (ldR false 1 (X.t (i (o (o (o (i z))))))) (.some (o (i (o (o (i z)))))) Gd.no, .mk (faR 5 (X.t (o (o z)))) (.some (i (o (o (o (i z)))))) Gd.no, .mk (ldR false 1 (X.t (i (i (o (o (i z))))))) (.some (o (o (i (o (i z)))))) Gd.no, .mk (faR 5 (X.t (i (o z)))) (.some (i (i (o (o (i z)))))) Gd.no],
   .mk (keepH (faR 6 (X.t (i (o z))))) (.some (i (o (i (i (o z)))))) Gd.no [],
   .mk (keepH (ldR false 1 (X.t (i (o (i (i (o z)))))))) (.some (o (i (i (i (o z)))))) Gd.no [],
   .mk (keepH (faR 6 (X.t (o (o z))))) (.some (i (i (o (i (o z)))))) Gd.no [],
   .mk (keepH (ldR false 1 (X.t (i (i (o (i (o z)))))))) (.some (o (o (i (i (o z)))))) Gd.no [],
   .mk (addH (bslR 1 2 [AV.nils] [(0, (X.t (o (o (i (i (o z))))))), (1, (X.t (o (i (i (i (o z)))))))])) (.some (i (i (i (i (o z)))))) Gd.no [.mk (ldR false 1 (X.t (i (i (o (i (o z))))))) (.some (o (o (i (i (o z)))))) Gd.no, .mk (faR 6 (X.t (o (o z)))) (.some (i (i (o (i (o z)))))) Gd.no, .mk (ldR false 1 (X.t (i (o (i (i (o z))))))) (.some (o (i (i (i (o z)))))) Gd.no, .mk (faR 6 (X.t (i (o z)))) (.some (i (o (i (i (o z)))))) Gd.no, .mk (ldR false 1 (X.t (i (o (o (o (i z))))))) (.some (o (i (o (o (i z)))))) Gd.no, .mk (faR 5 (X.t (o (o z)))) (.some (i (o (o (o (i z)))))) Gd.no, .mk (ldR false 1 (X.t (i (i (o (o (i z))))))) (.some (o (o (i (o (i z)))))) Gd.no, .mk (faR 5 (X.t (i (o z)))) (.some (i (i (o (o (i z)))))) Gd.no],
   .mk (callS Tryz.prog 38 [(X.t (i (i (i (i (o z))))))]) (.some (o (o (o (o (i z)))))) Gd.no [.mk (ldR false 1 (X.t (i (o (o (o (i z))))))) (.some (o (i (o (o (i z)))))) Gd.no, .mk (faR 5 (X.t (o (o z)))) (.some (i (o (o (o (i z)))))) Gd.no, .mk (ldR false 1 (X.t (i (i (o (o (i z))))))) (.some (o (o (i (o (i z)))))) Gd.no, .mk (faR 5 (X.t (i (o z)))) (.some (i (i (o (o (i z)))))) Gd.no],
   .mk (callS Tryz.prog 39 [(X.t (i (o (i (o (i z))))))]) (.some (o (i (i (o (i z)))))) Gd.no [],
   .mk (callS Tryz.prog 37 [(X.t (o (o (o (o (i z)))))), (X.t (o (i (i (o (i z)))))), (X.c (AV.int .i64 24))]) (.some (i (i (i (o (i z)))))) Gd.no [],
   .mk (keepH (mvR (X.t (i (i (i (o (i z)))))))) (.some (o (i (o (i (o z)))))) Gd.no [],
   .mk (keepH (extR (X.t (o (i (o (i (o z)))))) 1)) (.some (i (o (o (i (i z)))))) Gd.no [],
   .mk (keepH (extR (X.t (o (i (o (i (o z)))))) 0)) (.some (o (o (o (i (i z)))))) Gd.no [],
   .mk (keepH (faR 6 (X.t (o (i (o z)))))) (.some (o (i (o (i (i z)))))) Gd.no [],
   .mk (stR 1 (X.t (o (i (o (i (i z)))))) (X.t (o (o (o (i (i z))))))) .none Gd.no [.mk (extR (X.t (o (i (o (i (o z)))))) 1) (.some (i (o (o (i (i z)))))) Gd.no],
   .mk (keepH (faR 5 (X.t (o (i (o z)))))) (.some (i (i (o (i (i z)))))) Gd.no [],
   .mk (stR 1 (X.t (i (i (o (i (i z)))))) (X.t (i (o (o (i (i z))))))) .none Gd.no []])
  (.seq (.region [.mk (faR 7 (X.t (o (o z)))) (.some (o (o (i (i (i z)))))) Gd.no [],
   .mk (ldR false 1 (X.t (o (o (i (i (i z))))))) (.some (i (o (i (i (i z)))))) Gd.no [],
   .mk (faR 7 (X.t (i (o z)))) (.some (o (i (i (i (i z)))))) Gd.no [],
   .mk (ldR false 1 (X.t (o (i (i (i (i z))))))) (.some (i (i (i (i (i z)))))) Gd.no [],
   .mk (callS Tryz.prog 40 [(X.t (i (o (i (i (i z)))))), (X.t (i (i (i (i (i z))))))]) (.some (o (o (o (o (o (o z))))))) Gd.no [],
   .mk (faR 7 (X.t (o (i (o z))))) (.some (i (o (o (o (o (o z))))))) Gd.no [],
   .mk (stR 1 (X.t (i (o (o (o (o (o z))))))) (X.t (o (o (o (o (o (o z)))))))) .none Gd.no []])
  (.seq (.region [.mk (ldR true 8 (X.t (o (i (o z))))) (.some (o (i (o (o (o (o z))))))) Gd.no [],
   .mk (stR 8 (X.t (i (i z))) (X.t (o (i (o (o (o (o z)))))))) .none Gd.no [],
   .mk (mvR (X.c AV.nili)) (.some (o (o (o z)))) Gd.no []])
  .ret)))))))
theorem C13ok : (match Tryz.f13.body with | some c => comp Tryz.prog 66 c | none => none) = some C13 := by kernel_rfl
@[go_sem] theorem call13 (args : List AV) (H : Heap) : callC Tryz.prog 13 args H = .call 13 args := callC_ok (by kernel_rfl) args H
theorem R13ok : resKs Tryz.prog Tryz.f13.results.toList = some [(RK.cell (i (i z)) true 8), (RK.tmp (o (o (o z))))] := by kernel_rfl

noncomputable def C20 : CC :=
  (.seq (.region [.mk (boxR false (X.t (i z))) (.some (o (i z))) Gd.no [],
   .mk (fun _ H => newC false [(AV.int .i64 0), (AV.int .i64 0), (AV.str []), (AV.str []), (AV.bool false), AV.nils, AV.nils, AV.nils] H) (.some (i (i z))) Gd.no []])
  (.seq (.region [.mk (mvR (X.t z)) (.some (o (o (o z)))) Gd.no [],
   .mk (mvR (X.t (o z))) (.some (i (o (o z)))) Gd.no [],
   .mk (ldR true 2 (X.t (o (i z)))) (.some (o (i (o z)))) Gd.no [],
   .mk (buildR [(AV.int .i64 0), (AV.int .i64 0), (AV.str []), (AV.str []), (AV.bool false), AV.nils, AV.nils, AV.nils] [(0, (1, (X.t (o (o (o z)))))), (1, (1, (X.t (i (o (o z)))))), (2, (2, (X.t (o (i (o z))))))]) (.some (i (i (o z)))) Gd.no [],
   .mk (stR 8 (X.t (i (i z))) (X.t (i (i (o z))))) .none Gd.no []])
  .ret))
theorem C20ok : (match Tryz.f20.body with | some c => comp Tryz.prog 11 c | none => none) = some C20 := by kernel_rfl
@[go_sem] theorem call20 (args : List AV) (H : Heap) : callC Tryz.prog 20 args H = .call 20 args := callC_ok (by kernel_rfl) args H
theorem R20ok : resKs Tryz.prog Tryz.f20.results.toList = some [(RK.cell (i (i z)) true 8)] := by kernel_rfl

noncomputable def C22 : CC :=
  (.seq (.region [.mk (boxR false (X.t z)) (.some (o z)) Gd.no [],
   .mk (mvR (X.c (AV.bool false))) (.some (i z)) Gd.no []])
  (.seq (.region [.mk (mkfR (Fn.func 60) [] [(X.t (o z))]) (.some (i (o z))) Gd.no [],
   .mk (mvR (X.t (i (o z)))) (.some (o (o z))) Gd.no []])
  (.seq (.block 0 (.seq (.block 4 (.block 3 (.block 2 (.block 1 (.seq (.seq (.seq (.region [.mk (faR 0 (X.t (o z))) (.some (i (i z))) Gd.no [],
   .mk (ldR false 1 (X.t (i (i z)))) (.some (o (o (o z)))) Gd.no [],
   .mk (binR Tryz.prog EK.no .none true BinOp.lss (X.t (o (o (o z)))) (X.c (AV.int .i64 1))) (.some (i (o (o z)))) Gd.no [],
   .mk (mvR (X.t (i (o (o z))))) (.some (o (i (o z)))) Gd.no [],
   .mk (faR 0 (X.t (o z))) (.some (i (i (o z)))) (Gd.on (o (i (o z))) false) [],
   .mk (ldR false 1 (X.t (i (i (o z))))) (.some (o (o (i z)))) (Gd.on (o (i (o z))) false) [],
   .mk (binR Tryz.prog EK.no .none true BinOp.gtr (X.t (o (o (i z)))) (X.c (AV.int .i64 1000000000000))) (.some (i (o (i z)))) (Gd.on (o (i (o z))) false) [],
   .mk (pickR (X.t (o (i (o z)))) (X.c (AV.bool true)) (X.t (i (o (i z))))) (.some (o (i (i z)))) Gd.no [],
   .mk (mvR (X.t (o (i (i z))))) (.some (i (i (i z)))) Gd.no [],
   .mk (faR 1 (X.t (o z))) (.some (o (o (o (o z))))) (Gd.on (i (i (i z))) false) [],
   .mk (ldR false 1 (X.t (o (o (o (o z)))))) (.some (i (o (o (o z))))) (Gd.on (i (i (i z))) false) [],
   .mk (binR Tryz.prog EK.no .none true BinOp.lss (X.t (i (o (o (o z))))) (X.c (AV.int .i64 1))) (.some (o (i (o (o z))))) (Gd.on (i (i (i z))) false) [],
   .mk (pickR (X.t (i (i (i z)))) (X.c (AV.bool true)) (X.t (o (i (o (o z)))))) (.some (i (i (o (o z))))) Gd.no [],
   .mk (mvR (X.t (i (i (o (o z)))))) (.some (o (o (i (o z))))) Gd.no [],
   .mk (faR 1 (X.t (o z))) (.some (i (o (i (o z))))) (Gd.on (o (o (i (o z)))) false) [],
   .mk (ldR false 1 (X.t (i (o (i (o z)))))) (.some (o (i (i (o z))))) (Gd.on (o (o (i (o z)))) false) [],
   .mk (binR Tryz.prog EK.no .none true BinOp.gtr (X.t (o (i (i (o z))))) (X.c (AV.int .i64 1000000))) (.some (i (i (i (o z))))) (Gd.on (o (o (i (o z)))) false) [],
   .mk (pickR (X.t (o (o (i (o z))))) (X.c (AV.bool true)) (X.t (i (i (i (o z)))))) (.some (o (o (o (i z))))) Gd.no [],
   .mk (mvR (X.t (o (o (o (i z)))))) (.some (o (i z))) Gd.no []])
  (.cond (X.t (o (i z)))
  (.exit 1)
  .skip))
  (.seq (.seq (.region [.mk (faR 2 (X.t (o z))) (.some (o (i (o (i z))))) Gd.no [],
   .mk (ldR true 2 (X.t (o (i (o (i z)))))) (.some (i (i (o (i z))))) Gd.no [],
   .mk (callS Tryz.prog 62 [(X.t (i (i (o (i z)))))]) (.some (o (o (i (i z))))) Gd.no [],
   .mk (unR UnOp.not (X.t (o (o (i (i z)))))) (.some (i (o (i (i z))))) Gd.no [],
   .mk (mvR (X.t (i (o (i (i z)))))) (.some (o (i (i (i z))))) Gd.no [],
   .mk (faR 5 (X.t (o z))) (.some (i (i (i (i z))))) (Gd.on (o (i (i (i z)))) false) [],
   .mk (ldR false 1 (X.t (i (i (i (i z)))))) (.some (o (o (o (o (o z)))))) (Gd.on (o (i (i (i z)))) false) [],
   .mk (mvR (X.t (o (o z)))) (.some (i (o (o (o (o z)))))) (Gd.on (o (i (i (i z)))) false) [],
   .mk (callS Tryz.prog 63 [(X.t (o (o (o (o (o z)))))), (X.t (i (o (o (o (o z))))))]) (.some (o (i (o (o (o z)))))) (Gd.on (o (i (i (i z)))) false) [],
   .mk (pickR (X.t (o (i (i (i z))))) (X.c (AV.bool true)) (X.t (o (i (o (o (o z))))))) (.some (i (i (o (o (o z)))))) Gd.no [],
   .mk (mvR (X.t (i (i (o (o (o z))))))) (.some (i (o (o (i z))))) Gd.no []])
  (.cond (X.t (i (o (o (i z)))))
  (.exit 2)
  .skip))
  (.seq (.seq (.region [.mk (faR 6 (X.t (o z))) (.some (i (o (i (o (o z)))))) Gd.no [],
   .mk (ldR false 1 (X.t (i (o (i (o (o z))))))) (.some (o (i (i (o (o z)))))) Gd.no [],
   .mk (lenR LnK.slice (X.t (o (i (i (o (o z))))))) (.some (i (i (i (o (o z)))))) Gd.no [],
   .mk (binR Tryz.prog EK.no .none true BinOp.gtr (X.t (i (i (i (o (o z)))))) (X.c (AV.int .i64 24))) (.some (o (o (o (i (o z)))))) Gd.no [],
   .mk (mvR (X.t (o (o (o (i (o z))))))) (.some (i (o (o (i (o z)))))) Gd.no [],
   .mk (faR 6 (X.t (o z))) (.some (o (i (o (i (o z)))))) (Gd.on (i (o (o (i (o z))))) false) [],
   .mk (ldR false 1 (X.t (o (i (o (i (o z))))))) (.some (i (i (o (i (o z)))))) (Gd.on (i (o (o (i (o z))))) false) [],
   .mk (faR 5 (X.t (o z))) (.some (o (o (i (i (o z)))))) (Gd.on (i (o (o (i (o z))))) false) [],
   .mk (ldR false 1 (X.t (o (o (i (i (o z))))))) (.some (i (o (i (i (o z)))))) (Gd.on (i (o (o (i (o z))))) false) [],
   .mk (callS Tryz.prog 64 [(X.t (i (i (o (i (o z)))))), (X.t (i (o (i (i (o z))))))]) (.some (o (i (i (i (o z)))))) (Gd.on (i (o (o (i (o z))))) false) [],
   .mk (unR UnOp.not (X.t (o (i (i (i (o z))))))) (.some (i (i (i (i (o z)))))) (Gd.on (i (o (o (i (o z))))) false) [],
   .mk (pickR (X.t (i (o (o (i (o z)))))) (X.c (AV.bool true)) (X.t (i (i (i (i (o z))))))) (.some (o (o (o (o (i z)))))) Gd.no [],
   .mk (mvR (X.t (o (o (o (o (i z))))))) (.some (o (o (i (o (o z)))))) Gd.no []])
  (.cond (X.t (o (o (i (o (o z))))))
  (.exit 3)
  .skip))
  (.seq (.region [.mk (faR 7 (X.t (o z))) (.some (o (i (o (o (i z)))))) Gd.no [],
   .mk (ldR false 1 (X.t (o (i (o (o (i z))))))) (.some (i (i (o (o (i z)))))) Gd.no [],
   .mk (callS Tryz.prog 65 [(X.t (i (i (o (o (i z))))))]) (.some (o (o (i (o (i z)))))) Gd.no [],
   .mk (unR UnOp.not (X.t (o (o (i (o (i z))))))) (.some (i (o (i (o (i z)))))) Gd.no [],
   .mk (mvR (X.t (i (o (i (o (i z))))))) (.some (i (o (o (o (i z)))))) Gd.no []])
  (.cond (X.t (i (o (o (o (i z))))))
  (.exit 4)
  .skip)))))
  (.exit 0))))))
  (.seq (.seq (.region [.mk (mvR (X.c (AV.bool false))) (.some (i z)) Gd.no []])
  .ret)
  (.exit 0))))
  (.seq (.region [.mk (mvR (X.c (AV.bool true))) (.some (i z)) Gd.no []])
  .ret))))
theorem C22ok : (match Tryz.f22.body with | some c => comp Tryz.prog 53 c | none => none) = some C22 := by kernel_rfl
@[go_sem] theorem call22 (args : List AV) (H : Heap) : callC Tryz.prog 22 args H = .call 22 args := callC_ok (by kernel_rfl) args H
theorem R22ok : resKs Tryz.prog Tryz.f22.results.toList = some [(RK.tmp (i z))] := by kernel_rfl

noncomputable def C26 : CC :=
  (.seq (.region [.mk (mvR (X.c (AV.bool false))) (.some (i (o z))) Gd.no []])
  (.seq (.seq (.region [.mk (mvR (X.t z)) (.some (o (i z))) Gd.no [],
   .mk (binR Tryz.prog EK.iface .none true BinOp.eql (X.t (o (i z))) (X.c AV.nili)) (.some (i (i z))) Gd.no [],
   .mk (mvR (X.t (i (i z)))) (.some (o (o (o z)))) Gd.no [],
   .mk (mvR (X.t z)) (.some (i (o (o z)))) (Gd.on (o (o (o z))) false) [],
   .mk (callS Tryz.prog 16 [(X.t (i (o (o z))))]) (.some (o (i (o z)))) (Gd.on (o (o (o z))) false) [],
   .mk (mvR (X.t (o z))) (.some (i (i (o z)))) (Gd.on (o (o (o z))) false) [],
   .mk (binR Tryz.prog EK.no .none false BinOp.neq (X.t (o (i (o z)))) (X.t (i (i (o z))))) (.some (o (o (i z)))) (Gd.on (o (o (o z))) false) [],
   .mk (pickR (X.t (o (o (o z)))) (X.c (AV.bool true)) (X.t (o (o (i z))))) (.some (i (o (i z)))) Gd.no []])
  (.cond (X.t (i (o (i z))))
  (.seq (.region [.mk (mvR (X.c (AV.bool false))) (.some (i (o z))) Gd.no []])
  .ret)
  .skip))
  (.seq (.region [.mk (mvR (X.t z)) (.some (o (i (i z)))) Gd.no [],
   .mk (mvR (X.t (o z))) (.some (i (i (i z)))) Gd.no [],
   .mk (mkiR 42 (X.t (i (i (i z))))) (.some (o (o (o (o z))))) Gd.no [],
   .mk (callS Tryz.prog 28 [(X.t (o (i (i z)))), (X.t (o (o (o (o z)))))]) (.some (i (o (o (o z))))) Gd.no [],
   .mk (mvR (X.t (i (o (o (o z)))))) (.some (o (i (o (o z))))) Gd.no [],
   .mk (mvR (X.t (o z))) (.some (i (i (o (o z))))) (Gd.on (o (i (o (o z)))) false) [],
   .mk (binR Tryz.prog EK.no .none true BinOp.eql (X.t (i (i (o (o z))))) (X.c (AV.int .i64 10))) (.some (o (o (i (o z))))) (Gd.on (o (i (o (o z)))) false) [],
   .mk (pickR (X.t (o (i (o (o z))))) (X.c (AV.bool true)) (X.t (o (o (i (o z)))))) (.some (i (o (i (o z))))) Gd.no [],
   .mk (mvR (X.t (i (o (i (o z)))))) (.some (i (o z))) Gd.no []])
  .ret)))
theorem C26ok : (match Tryz.f26.body with | some c => comp Tryz.prog 21 c | none => none) = some C26 := by kernel_rfl
@[go_sem] theorem call26 (args : List AV) (H : Heap) : callC Tryz.prog 26 args H = .call 26 args := callC_ok (by kernel_rfl) args H
theorem R26ok : resKs Tryz.prog Tryz.f26.results.toList = some [(RK.tmp (i (o z)))] := by kernel_rfl

noncomputable def C27 : CC :=
  (.seq (.region [.mk (boxR false (X.t z)) (.some (o z)) Gd.no [],
   .mk (mvR (X.c AV.nili)) (.some (i z)) Gd.no []])
  (.seq (.block 0 (.seq (.block 2 (.block 1 (.seq (.seq (.seq (.region [.mk (ldR true 8 (X.t (o z))) (.some (i (o z))) Gd.no [],
   .mk (callS Tryz.prog 22 [(X.t (i (o z)))]) (.some (o (i z))) Gd.no [],
   .mk (unR UnOp.not (X.t (o (i z)))) (.some (i (i z))) Gd.no [],
   .mk (mvR (X.t (i (i z)))) (.some (o (o z))) Gd.no []])
  (.cond (X.t (o (o z)))
  (.exit 1)
  .skip))
  (.seq (.region [.mk (faR 4 (X.t (o z))) (.some (i (o (o z)))) Gd.no [],
   .mk (ldR false 1 (X.t (i (o (o z))))) (.some (o (i (o z)))) Gd.no [],
   .mk (mvR (X.t (o (i (o z))))) (.some (o (o (o z)))) Gd.no []])
  (.cond (X.t (o (o (o z))))
  (.exit 2)
  .skip)))
  (.exit 0))))
  (.seq (.seq (.region [.mk (mkiR 42 (X.c (AV.int .i64 10))) (.some (i (i (o z)))) Gd.no [],
   .mk (mvR (X.t (i (i (o z))))) (.some (i z)) Gd.no []])
  .ret)
  (.exit 0))))
  (.seq (.region [.mk (mvR (X.c AV.nili)) (.some (i z)) Gd.no []])
  .ret)))
theorem C27ok : (match Tryz.f27.body with | some c => comp Tryz.prog 11 c | none => none) = some C27 := by kernel_rfl
@[go_sem] theorem call27 (args : List AV) (H : Heap) : callC Tryz.prog 27 args H = .call 27 args := callC_ok (by kernel_rfl) args H
theorem R27ok : resKs Tryz.prog Tryz.f27.results.toList = some [(RK.tmp (i z))] := by kernel_rfl

@[go_sem] theorem call28 (args : List AV) (H : Heap) : callC Tryz.prog 28 args H = .call 28 args := callC_ok (by kernel_rfl) args H
noncomputable def C29 : CC :=
  (.seq (.region [.mk (mvR (X.c (AV.bool false))) (.some (i z)) Gd.no []])
  (.seq (.region [.mk (mvR (X.t z)) (.some (o (o z))) Gd.no [],
   .mk (binR Tryz.prog EK.no .none true BinOp.geq (X.t (o (o z))) (X.c (AV.int .i64 1))) (.some (i (o z))) Gd.no [],
   .mk (mvR (X.t (i (o z)))) (.some (o (i z))) Gd.no [],
   .mk (mvR (X.t z)) (.some (i (i z))) (Gd.on (o (i z)) true) [],
   .mk (binR Tryz.prog EK.no .none true BinOp.leq (X.t (i (i z))) (X.c (AV.int .i64 1000000000000))) (.some (o (o (o z)))) (Gd.on (o (i z)) true) [],
   .mk (pickR (X.t (o (i z))) (X.t (o (o (o z)))) (X.c (AV.bool false))) (.some (i (o (o z)))) Gd.no [],
   .mk (mvR (X.t (i (o (o z))))) (.some (i z)) Gd.no []])
  .ret))
theorem C29ok : (match Tryz.f29.body with | some c => comp Tryz.prog 9 c | none => none) = some C29 := by kernel_rfl
@[go_sem] theorem call29 (args : List AV) (H : Heap) : callC Tryz.prog 29 args H = .call 29 args := callC_ok (by kernel_rfl) args H
theorem R29ok : resKs Tryz.prog Tryz.f29.results.toList = some [(RK.tmp (i z))] := by kernel_rfl

noncomputable def C30 : CC :=
  (.seq (.region [.mk (boxR false (X.t z)) (.some (i z)) Gd.no [],
   .mk (fun _ H => newC false [(AV.str []), (AV.str [])] H) (.some (i (o z))) Gd.no [],
   .mk (fun _ H => newC false [(AV.str []), (AV.str [])] H) (.some (o (i z))) Gd.no [],
   .mk (mvR (X.c (AV.bool false))) (.some (i (i z))) Gd.no []])
  (.seq (.seq (.region [.mk (ldR true 2 (X.t (i z))) (.some (o (o (o z)))) Gd.no [],
   .mk (mvR (X.t (o z))) (.some (i (o (o z)))) Gd.no [],
   .mk (callS Tryz.prog 61 [(X.t (o (o (o z)))), (X.t (i (o (o z))))]) (.some (o (i (o z)))) Gd.no [],
   .mk (unR UnOp.not (X.t (o (i (o z))))) (.some (i (i (o z)))) Gd.no [],
   .mk (mvR (X.t (i (i (o z))))) (.some (o (o (i z)))) Gd.no [],
   .mk (mvR (X.t (o z))) (.some (i (o (i z)))) (Gd.on (o (o (i z))) false) [],
   .mk (faR 0 (X.t (i z))) (.some (o (i (i z)))) (Gd.on (o (o (i z))) false) [],
   .mk (ldR false 1 (X.t (o (i (i z))))) (.some (i (i (i z)))) (Gd.on (o (o (i z))) false) [],
   .mk (binR Tryz.prog EK.no .none false BinOp.leq (X.t (i (o (i z)))) (X.t (i (i (i z))))) (.some (o (o (o (o z))))) (Gd.on (o (o (i z))) false) [],
   .mk (pickR (X.t (o (o (i z)))) (X.c (AV.bool true)) (X.t (o (o (o (o z)))))) (.some (i (o (o (o z))))) Gd.no []])
  (.cond (X.t (i (o (o (o z)))))
  (.seq (.region [.mk (buildR [(AV.str []), (AV.str [])] []) (.some (o (i (o (o z))))) Gd.no [],
   .mk (buildR [(AV.str []), (AV.str [])] []) (.some (i (i (o (o z))))) Gd.no [],
   .mk (stR 2 (X.t (i (o z))) (X.t (o (i (o (o z)))))) .none Gd.no [],
   .mk (stR 2 (X.t (o (i z))) (X.t (i (i (o (o z)))))) .none Gd.no [],
   .mk (mvR (X.c (AV.bool false))) (.some (i (i z))) Gd.no []])
  .ret)
  .skip))
  (.seq (.regionD [.mk (keepH (faR 1 (X.t (i z)))) (.some (i (o (o (i z))))) Gd.no [],
   .mk (keepH (ldR false 1 (X.t (i (o (o (i z))))))) (.some (o (i (o (i z))))) Gd.no [],
   .mk (keepH (mvR (X.t (o z)))) (.some (o (o (o (i z))))) Gd.no [],
   .mk (keepH (buildR [(AV.str []), (AV.str [])] [(0, (1, (X.t (o (o (o (i z))))))), (1, (1, (X.t (o (i (o (i z)))))))])) (.some (i (i (o (i z))))) Gd.no [],
   .mk (keepH (mvR (X.t (o z)))) (.some (o (i (i (o z))))) Gd.no [],
   .mk (keepH (faR 0 (X.t (i z)))) (.some (o (o (i (o z))))) Gd.no [],
   .mk (keepH (ldR false 1 (X.t (o (o (i (o z))))))) (.some (i (o (i (o z))))) Gd.no [],
   .mk (keepH (buildR [(AV.str []), (AV.str [])] [(0, (1, (X.t (i (o (i (o z))))))), (1, (1, (X.t (o (i (i (o z)))))))])) (.some (i (i (i (o z))))) Gd.no [],
   .mk (stR 2 (X.t (i (o z))) (X.t (i (i (i (o z)))))) .none Gd.no [.mk (buildR [(AV.str []), (AV.str [])] [(0, (1, (X.t (o (o (o (i z))))))), (1, (1, (X.t (o (i (o (i z)))))))]) (.some (i (i (o (i z))))) Gd.no, .mk (mvR (X.t (o z))) (.some (o (o (o (i z))))) Gd.no, .mk (ldR false 1 (X.t (i (o (o (i z)))))) (.some (o (i (o (i z))))) Gd.no, .mk (faR 1 (X.t (i z))) (.some (i (o (o (i z))))) Gd.no],
   .mk (stR 2 (X.t (o (i z))) (X.t (i (i (o (i z)))))) .none Gd.no [],
   .mk (mvR (X.c (AV.bool true))) (.some (i (i z))) Gd.no []])
  .ret)))
theorem C30ok : (match Tryz.f30.body with | some c => comp Tryz.prog 27 c | none => none) = some C30 := by kernel_rfl
@[go_sem] theorem call30 (args : List AV) (H : Heap) : callC Tryz.prog 30 args H = .call 30 args := callC_ok (by kernel_rfl) args H
theorem R30ok : resKs Tryz.prog Tryz.f30.results.toList = some [(RK.cell (i (o z)) true 2), (RK.cell (o (i z)) true 2), (RK.tmp (i (i z)))] := by kernel_rfl

noncomputable def C31L0 : CC :=
  (.seq (.region [.mk (binR Tryz.prog EK.no .none false BinOp.lss (X.t (o (i (i (o z))))) (X.t (i (o (i (o z)))))) (.some (i (i (i (o z))))) Gd.no []])
  (.seq (.cond (X.t (i (i (i (o z)))))
  .skip
  (.exit 0))
  (.seq (.block 1 (.seq (.region [.mk (iaS 4 (X.t (o (o (i (o z))))) (X.t (o (i (i (o z)))))) (.some (o (o (o (i z))))) Gd.no [],
   .mk (ldR true 4 (X.t (o (o (o (i z)))))) (.some (i (o (o (i z))))) Gd.no [],
   .mk (fun _ H => newC false [(AV.str []), (AV.int .i64 0), (AV.str []), (AV.bool false)] H) (.some (o (i (o z)))) Gd.no [],
   .mk (stR 4 (X.t (o (i (o z)))) (X.t (i (o (o (i z)))))) .none Gd.no []])
  (.seq (.region [.mk (ldR true 2 (X.t (o (i z)))) (.some (o (i (o (i z))))) Gd.no [],
   .mk (faR 0 (X.t (o (i (o z))))) (.some (i (i (o (i z))))) Gd.no [],
   .mk (ldR false 1 (X.t (i (i (o (i z)))))) (.some (o (o (i (i z))))) Gd.no [],
   .mk (callS Tryz.prog 61 [(X.t (o (i (o (i z))))), (X.t (o (o (i (i z)))))]) (.some (i (o (i (i z))))) Gd.no []])
  (.cond (X.t (i (o (i (i z)))))
  (.region [.mk (faR 6 (X.t (o (o (o z))))) (.some (o (i (i (i z))))) Gd.no [],
   .mk (ldR false 1 (X.t (o (i (i (i z)))))) (.some (i (i (i (i z))))) Gd.no [],
   .mk (ldR true 4 (X.t (o (i (o z))))) (.some (o (o (o (o (o z)))))) Gd.no [],
   .mk (bslR 4 1 [(AV.str []), (AV.int .i64 0), (AV.str []), (AV.bool false)] [(0, (X.t (o (o (o (o (o z)))))))]) (.some (i (o (o (o (o z)))))) Gd.no [],
   .mk (appR 4 48 (X.t (i (i (i (i z))))) (X.t (i (o (o (o (o z))))))) (.some (o (i (o (o (o z)))))) Gd.no [],
   .mk (faR 6 (X.t (o (o (o z))))) (.some (i (i (o (o (o z)))))) Gd.no [],
   .mk (stR 1 (X.t (i (i (o (o (o z)))))) (X.t (o (i (o (o (o z))))))) .none Gd.no []])
  .skip))))
  (.region [.mk (binR Tryz.prog EK.no .none true BinOp.add (X.t (o (i (i (o z))))) (X.c (AV.int .i64 1))) (.some (o (o (i (o (o z)))))) Gd.no [],
   .mk (mvR (X.t (o (o (i (o (o z))))))) (.some (o (i (i (o z))))) Gd.no []]))))
noncomputable def C31 : CC :=
  (.seq (.region [.mk (boxR false (X.t z)) (.some (o (o z))) Gd.no [],
   .mk (boxR false (X.t (i z))) (.some (o (i z))) Gd.no [],
   .mk (fun _ H => newC false [(AV.int .i64 0), (AV.int .i64 0), (AV.str []), (AV.str []), (AV.bool false), AV.nils, AV.nils, AV.nils] H) (.some (i (i z))) Gd.no []])
  (.seq (.region [.mk (mvR (X.t (o z))) (.some (i (i (o z)))) Gd.no [],
   .mk (ldR true 2 (X.t (o (i z)))) (.some (o (o (i z)))) Gd.no [],
   .mk (callS Tryz.prog 20 [(X.t (i (i (o z)))), (X.c (AV.int .i64 1)), (X.t (o (o (i z))))]) (.some (i (o (i z)))) Gd.no [],
   .mk (fun _ H => newC false [(AV.int .i64 0), (AV.int .i64 0), (AV.str []), (AV.str []), (AV.bool false), AV.nils, AV.nils, AV.nils] H) (.some (o (o (o z)))) Gd.no [],
   .mk (stR 8 (X.t (o (o (o z)))) (X.t (i (o (i z))))) .none Gd.no []])
  (.seq (.region [.mk (faR 5 (X.t (o (o z)))) (.some (o (i (i z)))) Gd.no [],
   .mk (ldR false 1 (X.t (o (i (i z))))) (.some (i (i (i z)))) Gd.no [],
   .mk (ldR true 2 (X.t (o (i z)))) (.some (o (o (o (o z))))) Gd.no [],
   .mk (callS Tryz.prog 73 [(X.t (i (i (i z)))), (X.t (o (o (o (o z)))))]) (.some (i (o (o (o z))))) Gd.no [],
   .mk (faR 5 (X.t (o (o (o z))))) (.some (o (i (o (o z))))) Gd.no [],
   .mk (stR 1 (X.t (o (i (o (o z))))) (X.t (i (o (o (o z)))))) .none Gd.no []])
  (.seq (.seq (.region [.mk (faR 6 (X.t (o (o z)))) (.some (i (i (o (o z))))) Gd.no [],
   .mk (ldR false 1 (X.t (i (i (o (o z)))))) (.some (o (o (i (o z))))) Gd.no [],
   .mk (lenR LnK.slice (X.t (o (o (i (o z)))))) (.some (i (o (i (o z))))) Gd.no [],
   .mk (mvR (X.c (AV.int .i64 0))) (.some (o (i (i (o z))))) Gd.no []])
  (.block 0 (.loop C31L0)))
  (.seq (.region [.mk (faR 7 (X.t (o (o z)))) (.some (i (o (i (o (o z)))))) Gd.no [],
   .mk (ldR false 1 (X.t (i (o (i (o (o z))))))) (.some (o (i (i (o (o z)))))) Gd.no [],
   .mk (callS Tryz.prog 74 [(X.t (o (i (i (o (o z))))))]) (.some (i (i (i (o (o z)))))) Gd.no [],
   .mk (faR 7 (X.t (o (o (o z))))) (.some (o (o (o (i (o z)))))) Gd.no [],
   .mk (stR 1 (X.t (o (o (o (i (o z)))))) (X.t (i (i (i (o (o z))))))) .none Gd.no []])
  (.seq (.region [.mk (ldR true 8 (X.t (o (o (o z))))) (.some (i (o (o (i (o z)))))) Gd.no [],
   .mk (stR 8 (X.t (i (i z))) (X.t (i (o (o (i (o z))))))) .none Gd.no []])
  .ret))))))
theorem C31ok : (match Tryz.f31.body with | some c => comp Tryz.prog 41 c | none => none) = some C31 := by kernel_rfl
@[go_sem] theorem call31 (args : List AV) (H : Heap) : callC Tryz.prog 31 args H = .call 31 args := callC_ok (by kernel_rfl) args H
theorem R31ok : resKs Tryz.prog Tryz.f31.results.toList = some [(RK.cell (i (i z)) true 8)] := by kernel_rfl

@[go_sem] theorem call32 (args : List AV) (H : Heap) : callC Tryz.prog 32 args H = .call 32 args := callC_ok (by kernel_rfl) args H
@[go_sem] theorem call34 (args : List AV) (H : Heap) : callC Tryz.prog 34 args H = .call 34 args := callC_ok (by kernel_rfl) args H
noncomputable def C35 : CC :=
  (.seq (.region [.mk (mvR (X.c AV.nili)) (.some (i (o z))) Gd.no []])
  (.seq (.seq (.region [.mk (mvR (X.t z)) (.some (o (i z))) Gd.no [],
   .mk (binR Tryz.prog EK.iface .none true BinOp.neq (X.t (o (i z))) (X.c AV.nili)) (.some (i (i z))) Gd.no []])
  (.cond (X.t (i (i z)))
  (.seq (.region [.mk (mvR (X.t z)) (.some (o (o (o z)))) Gd.no [],
   .mk (mvR (X.t (o (o (o z))))) (.some (i (o z))) Gd.no []])
  .ret)
  .skip))
  (.seq (.region [.mk (mvR (X.t (o z))) (.some (i (o (o z)))) Gd.no [],
   .mk (mvR (X.t (i (o (o z))))) (.some (i (o z))) Gd.no []])
  .ret)))
theorem C35ok : (match Tryz.f35.body with | some c => comp Tryz.prog 9 c | none => none) = some C35 := by kernel_rfl
@[go_sem] theorem call35 (args : List AV) (H : Heap) : callC Tryz.prog 35 args H = .call 35 args := callC_ok (by kernel_rfl) args H
theorem R35ok : resKs Tryz.prog Tryz.f35.results.toList = some [(RK.tmp (i (o z)))] := by kernel_rfl

noncomputable def C36 : CC :=
  (.seq (.region [.mk (boxR false (X.t z)) (.some (i z)) Gd.no [],
   .mk (boxR false (X.t (o z))) (.some (o (o z))) Gd.no [],
   .mk (mvR (X.c (AV.bool false))) (.some (i (o z))) Gd.no []])
  (.seq (.region [.mk (ldR true 2 (X.t (i z))) (.some (o (i z))) Gd.no [],
   .mk (callS Tryz.prog 62 [(X.t (o (i z)))]) (.some (i (i z))) Gd.no [],
   .mk (mvR (X.t (i (i z)))) (.some (o (o (o z)))) Gd.no [],
   .mk (ldR true 2 (X.t (o (o z)))) (.some (i (o (o z)))) (Gd.on (o (o (o z))) true) [],
   .mk (callS Tryz.prog 62 [(X.t (i (o (o z))))]) (.some (o (i (o z)))) (Gd.on (o (o (o z))) true) [],
   .mk (pickR (X.t (o (o (o z)))) (X.t (o (i (o z)))) (X.c (AV.bool false))) (.some (i (i (o z)))) Gd.no [],
   .mk (mvR (X.t (i (i (o z))))) (.some (o (o (i z)))) Gd.no [],
   .mk (faR 1 (X.t (i z))) (.some (i (o (i z)))) (Gd.on (o (o (i z))) true) [],
   .mk (ldR false 1 (X.t (i (o (i z))))) (.some (o (i (i z)))) (Gd.on (o (o (i z))) true) [],
   .mk (binR Tryz.prog EK.no .none true BinOp.neq (X.t (o (i (i z)))) (X.c (AV.str []))) (.some (i (i (i z)))) (Gd.on (o (o (i z))) true) [],
   .mk (pickR (X.t (o (o (i z)))) (X.t (i (i (i z)))) (X.c (AV.bool false))) (.some (o (o (o (o z))))) Gd.no [],
   .mk (mvR (X.t (o (o (o (o z)))))) (.some (i (o (o (o z))))) Gd.no [],
   .mk (faR 1 (X.t (i z))) (.some (o (i (o (o z))))) (Gd.on (i (o (o (o z)))) true) [],
   .mk (ldR false 1 (X.t (o (i (o (o z)))))) (.some (i (i (o (o z))))) (Gd.on (i (o (o (o z)))) true) [],
   .mk (faR 0 (X.t (o (o z)))) (.some (o (o (i (o z))))) (Gd.on (i (o (o (o z)))) true) [],
   .mk (ldR false 1 (X.t (o (o (i (o z)))))) (.some (i (o (i (o z))))) (Gd.on (i (o (o (o z)))) true) [],
   .mk (binR Tryz.prog EK.no .none false BinOp.eql (X.t (i (i (o (o z))))) (X.t (i (o (i (o z)))))) (.some (o (i (i (o z))))) (Gd.on (i (o (o (o z)))) true) [],
   .mk (pickR (X.t (i (o (o (o z))))) (X.t (o (i (i (o z))))) (X.c (AV.bool false))) (.some (i (i (i (o z))))) Gd.no [],
   .mk (mvR (X.t (i (i (i (o z)))))) (.some (i (o z))) Gd.no []])
  .ret))
theorem C36ok : (match Tryz.f36.body with | some c => comp Tryz.prog 23 c | none => none) = some C36 := by kernel_rfl
@[go_sem] theorem call36 (args : List AV) (H : Heap) : callC Tryz.prog 36 args H = .call 36 args := callC_ok (by kernel_rfl) args H
theorem R36ok : resKs Tryz.prog Tryz.f36.results.toList = some [(RK.tmp (i (o z)))] := by kernel_rfl

noncomputable def C37L0 : CC :=
  (.seq (.region [.mk (binR Tryz.prog EK.no .none false BinOp.lss (X.t (o (o (o (o (o z)))))) (X.t (i (i (i (i z)))))) (.some (i (o (o (o (o z)))))) Gd.no []])
  (.seq (.cond (X.t (i (o (o (o (o z))))))
  .skip
  (.exit 2))
  (.seq (.block 3 (.seq (.region [.mk (mvR (X.t (o (o (o (o (o z))))))) (.some (o (i (o (o (o z)))))) Gd.no [],
   .mk (mvR (X.t (o (i (o (o (o z))))))) (.some (i (o (i z)))) Gd.no []])
  (.seq (.regionD [.mk (keepH (faR 0 (X.t (o (o (i z)))))) (.some (o (o (o (i (o z)))))) Gd.no [],
   .mk (keepH (ldR false 1 (X.t (o (o (o (i (o z)))))))) (.some (i (o (o (i (o z)))))) Gd.no [],
   .mk (keepH (mvR (X.t (i (o (i z)))))) (.some (o (o (i (o (o z)))))) Gd.no [],
   .mk (keepH (mvR (X.t (o (i (o z)))))) (.some (i (i (o (o (o z)))))) Gd.no [],
   .mk (keepH (iaS 5 (X.t (i (i (o (o (o z)))))) (X.t (o (o (i (o (o z)))))))) (.some (i (o (i (o (o z)))))) Gd.no [],
   .mk (keepH (faR 0 (X.t (i (o (i (o (o z)))))))) (.some (o (i (i (o (o z)))))) Gd.no [],
   .mk (keepH (ldR false 1 (X.t (o (i (i (o (o z)))))))) (.some (i (i (i (o (o z)))))) Gd.no [],
   .mk (keepH (binR Tryz.prog EK.no .none false BinOp.eql (X.t (i (i (i (o (o z)))))) (X.t (i (o (o (i (o z)))))))) (.some (o (i (o (i (o z)))))) Gd.no []])
  (.cond (X.t (o (i (o (i (o z))))))
  (.regionD [.mk (keepH (faR 1 (X.t (o (o (i z)))))) (.some (o (i (o (o (i z)))))) Gd.no [],
   .mk (keepH (ldR false 1 (X.t (o (i (o (o (i z)))))))) (.some (i (i (o (o (i z)))))) Gd.no [],
   .mk (keepH (mvR (X.t (i (o (i z)))))) (.some (o (i (i (i (o z)))))) Gd.no [],
   .mk (keepH (mvR (X.t (o (i (o z)))))) (.some (i (o (i (i (o z)))))) Gd.no [],
   .mk (keepH (iaS 5 (X.t (i (o (i (i (o z)))))) (X.t (o (i (i (i (o z)))))))) (.some (i (i (i (i (o z)))))) Gd.no [],
   .mk (keepH (faR 4 (X.t (i (i (i (i (o z)))))))) (.some (o (o (o (o (i z)))))) Gd.no [],
   .mk (keepH (ldR false 1 (X.t (o (o (o (o (i z)))))))) (.some (i (o (o (o (i z)))))) Gd.no [],
   .mk (keepH (mmR true (X.t (i (o (o (o (i z)))))) (X.t (i (i (o (o (i z)))))))) (.some (o (o (i (o (i z)))))) Gd.no [],
   .mk (keepH (mvR (X.t (i (o (i z)))))) (.some (o (o (i (i (o z)))))) Gd.no [],
   .mk (keepH (mvR (X.t (o (i (o z)))))) (.some (i (i (o (i (o z)))))) Gd.no [],
   .mk (keepH (iaS 5 (X.t (i (i (o (i (o z)))))) (X.t (o (o (i (i (o z)))))))) (.some (i (o (i (o (i z)))))) Gd.no [],
   .mk (keepH (faR 4 (X.t (i (o (i (o (i z)))))))) (.some (o (i (i (o (i z)))))) Gd.no [],
   .mk (stR 1 (X.t (o (i (i (o (i z)))))) (X.t (o (o (i (o (i z))))))) .none Gd.no []])
  .skip))))
  (.region [.mk (binR Tryz.prog EK.no .none true BinOp.add (X.t (o (o (o (o (o z)))))) (X.c (AV.int .i64 1))) (.some (i (i (i (o (i z)))))) Gd.no [],
   .mk (mvR (X.t (i (i (i (o (i z))))))) (.some (o (o (o (o (o z)))))) Gd.no []]))))
noncomputable def C37L1 : CC :=
  (.seq (.region [.mk (binR Tryz.prog EK.no .none false BinOp.lss (X.t (o (i (o (i z))))) (X.t (i (o (o (i z)))))) (.some (i (i (o (i z))))) Gd.no []])
  (.seq (.cond (X.t (i (i (o (i z)))))
  .skip
  (.exit 0))
  (.seq (.block 1 (.seq (.region [.mk (iaS 4 (X.t (o (o (o (i z))))) (X.t (o (i (o (i z)))))) (.some (o (o (i (i z))))) Gd.no [],
   .mk (ldR true 4 (X.t (o (o (i (i z)))))) (.some (i (o (i (i z))))) Gd.no [],
   .mk (fun _ H => newC false [(AV.str []), (AV.int .i64 0), (AV.str []), (AV.bool false)] H) (.some (o (o (i z)))) Gd.no [],
   .mk (stR 4 (X.t (o (o (i z)))) (X.t (i (o (i (i z)))))) .none Gd.no []])
  (.seq (.region [.mk (mvR (X.t (o (i (o z))))) (.some (o (i (i (i z))))) Gd.no [],
   .mk (lenR LnK.slice (X.t (o (i (i (i z)))))) (.some (i (i (i (i z))))) Gd.no [],
   .mk (mvR (X.c (AV.int .i64 0))) (.some (o (o (o (o (o z)))))) Gd.no []])
  (.block 2 (.loop C37L0)))))
  (.region [.mk (binR Tryz.prog EK.no .none true BinOp.add (X.t (o (i (o (i z))))) (X.c (AV.int .i64 1))) (.some (o (o (o (i (i z)))))) Gd.no [],
   .mk (mvR (X.t (o (o (o (i (i z))))))) (.some (o (i (o (i z))))) Gd.no []]))))
noncomputable def C37 : CC :=
  (.seq (.region [.mk (mvR (X.c AV.nils)) (.some (i (i z))) Gd.no [],
   .mk (mvR (X.c AV.nils)) (.some (o (o (o z)))) Gd.no []])
  (.seq (.region [.mk (mvR (X.t z)) (.some (o (i (i z)))) Gd.no [],
   .mk (lenR LnK.slice (X.t (o (i (i z))))) (.some (i (i (i z)))) Gd.no [],
   .mk (mvR (X.t (i z))) (.some (o (o (o (o z))))) Gd.no [],
   .mk (mmR true (X.t (o (o (o (o z))))) (X.c (AV.int .i64 0))) (.some (i (o (o (o z))))) Gd.no [],
   .mk (binR Tryz.prog EK.no .none false BinOp.sub (X.t (i (i (i z)))) (X.t (i (o (o (o z)))))) (.some (o (i (o (o z))))) Gd.no [],
   .mk (mmR true (X.t (o (i (o (o z))))) (X.c (AV.int .i64 0))) (.some (i (i (o (o z))))) Gd.no [],
   .mk (mvR (X.t (i (i (o (o z)))))) (.some (i (o (o z)))) Gd.no []])
  (.seq (.region [.mk (mvR (X.t (o z))) (.some (o (o (i (o z))))) Gd.no [],
   .mk (callS Tryz.prog 80 [(X.t (o (o (i (o z)))))]) (.some (i (o (i (o z))))) Gd.no [],
   .mk (mvR (X.t (i (o (i (o z)))))) (.some (o (i (o z)))) Gd.no []])
  (.seq (.seq (.region [.mk (mvR (X.t z)) (.some (o (i (i (o z))))) Gd.no [],
   .mk (mvR (X.t (i (o (o z))))) (.some (i (i (i (o z))))) Gd.no [],
   .mk (slvR 4 (X.t (o (i (i (o z))))) .none (.some (X.t (i (i (i (o z)))))) .none) (.some (o (o (o (i z))))) Gd.no [],
   .mk (lenR LnK.slice (X.t (o (o (o (i z)))))) (.some (i (o (o (i z))))) Gd.no [],
   .mk (mvR (X.c (AV.int .i64 0))) (.some (o (i (o (i z))))) Gd.no []])
  (.block 0 (.loop C37L1)))
  (.seq (.region [.mk (mvR (X.t z)) (.some (i (o (o (i (i z)))))) Gd.no [],
   .mk (mvR (X.t (i (o (o z))))) (.some (o (i (o (i (i z)))))) Gd.no [],
   .mk (slvR 4 (X.t (i (o (o (i (i z)))))) (.some (X.t (o (i (o (i (i z))))))) .none .none) (.some (i (i (o (i (i z)))))) Gd.no [],
   .mk (callS Tryz.prog 81 [(X.t (i (i (o (i (i z))))))]) (.some (o (o (i (i (i z)))))) Gd.no [],
   .mk (mvR (X.t (o (i (o z))))) (.some (i (o (i (i (i z)))))) Gd.no [],
   .mk (mvR (X.t (o (o (i (i (i z))))))) (.some (i (i z))) Gd.no [],
   .mk (mvR (X.t (i (o (i (i (i z))))))) (.some (o (o (o z)))) Gd.no []])
  .ret)))))
theorem C37ok : (match Tryz.f37.body with | some c => comp Tryz.prog 61 c | none => none) = some C37 := by kernel_rfl
@[go_sem] theorem call37 (args : List AV) (H : Heap) : callC Tryz.prog 37 args H = .call 37 args := callC_ok (by kernel_rfl) args H
theorem R37ok : resKs Tryz.prog Tryz.f37.results.toList = some [(RK.tmp (i (i z))), (RK.tmp (o (o (o z))))] := by kernel_rfl

noncomputable def C38L0 : CC :=
  (.seq (.region [.mk (binR Tryz.prog EK.no .none false BinOp.lss (X.t (o (o (i z)))) (X.t (i (i (o z))))) (.some (i (o (i z)))) Gd.no []])
  (.seq (.cond (X.t (i (o (i z))))
  .skip
  (.exit 0))
  (.seq (.block 1 (.seq (.region [.mk (iaS 1 (X.t (o (i (o z)))) (X.t (o (o (i z))))) (.some (o (i (i z)))) Gd.no [],
   .mk (ldR false 1 (X.t (o (i (i z))))) (.some (i (i (i z)))) Gd.no [],
   .mk (mvR (X.t (i (i (i z))))) (.some (o (i z))) Gd.no []])
  (.seq (.region [.mk (mvR (X.t (o (o z)))) (.some (o (o (o (o z))))) Gd.no [],
   .mk (mvR (X.t (o (i z)))) (.some (i (o (o (o z))))) Gd.no [],
   .mk (lenR LnK.slice (X.t (i (o (o (o z)))))) (.some (o (i (o (o z))))) Gd.no [],
   .mk (binR Tryz.prog EK.no .none false BinOp.add (X.t (o (o (o (o z))))) (X.t (o (i (o (o z)))))) (.some (i (i (o (o z))))) Gd.no [],
   .mk (mvR (X.t (i (i (o (o z)))))) (.some (o (o z))) Gd.no []])
  (.seq (.region [.mk (mvR (X.t (o (o z)))) (.some (o (o (i (o z))))) Gd.no [],
   .mk (binR Tryz.prog EK.no .none true BinOp.lss (X.t (o (o (i (o z))))) (X.c (AV.int .i64 0))) (.some (i (o (i (o z))))) Gd.no []])
  (.cond (X.t (i (o (i (o z)))))
  (.region [.mk (mkiR 9 (X.c (AV.str [108, 101, 110, 32, 111, 117, 116, 32, 111, 102, 32, 114, 97, 110, 103, 101]))) (.some (o (i (i (o z))))) Gd.no [],
   .mk (fun _ _ => R1.fail) .none Gd.no []])
  .skip)))))
  (.region [.mk (binR Tryz.prog EK.no .none true BinOp.add (X.t (o (o (i z)))) (X.c (AV.int .i64 1))) (.some (i (i (i (o z))))) Gd.no [],
   .mk (mvR (X.t (i (i (i (o z)))))) (.some (o (o (i z)))) Gd.no []]))))
noncomputable def C38L1 : CC :=
  (.seq (.region [.mk (binR Tryz.prog EK.no .none false BinOp.lss (X.t (o (o (i (i z))))) (X.t (i (i (o (i z)))))) (.some (i (o (i (i z))))) Gd.no []])
  (.seq (.cond (X.t (i (o (i (i z)))))
  .skip
  (.exit 2))
  (.seq (.block 3 (.seq (.region [.mk (iaS 1 (X.t (o (i (o (i z))))) (X.t (o (o (i (i z)))))) (.some (o (i (i (i z))))) Gd.no [],
   .mk (ldR false 1 (X.t (o (i (i (i z)))))) (.some (i (i (i (i z))))) Gd.no [],
   .mk (mvR (X.t (i (i (i (i z)))))) (.some (i (o (o z)))) Gd.no []])
  (.region [.mk (mvR (X.t (i (i z)))) (.some (o (o (o (o (o z)))))) Gd.no [],
   .mk (mvR (X.t (i (o (o z))))) (.some (i (o (o (o (o z)))))) Gd.no [],
   .mk (appR 4 48 (X.t (o (o (o (o (o z)))))) (X.t (i (o (o (o (o z))))))) (.some (o (i (o (o (o z)))))) Gd.no [],
   .mk (mvR (X.t (o (i (o (o (o z))))))) (.some (i (i z))) Gd.no []])))
  (.region [.mk (binR Tryz.prog EK.no .none true BinOp.add (X.t (o (o (i (i z))))) (X.c (AV.int .i64 1))) (.some (i (i (o (o (o z)))))) Gd.no [],
   .mk (mvR (X.t (i (i (o (o (o z))))))) (.some (o (o (i (i z))))) Gd.no []]))))
noncomputable def C38 : CC :=
  (.seq (.region [.mk (mvR (X.c AV.nils)) (.some (i z)) Gd.no []])
  (.seq (.region [.mk (mvR (X.c (AV.int .i64 0))) (.some (o (o z))) Gd.no []])
  (.seq (.seq (.region [.mk (mvR (X.t z)) (.some (o (i (o z)))) Gd.no [],
   .mk (lenR LnK.slice (X.t (o (i (o z))))) (.some (i (i (o z)))) Gd.no [],
   .mk (mvR (X.c (AV.int .i64 0))) (.some (o (o (i z)))) Gd.no []])
  (.block 0 (.loop C38L0)))
  (.seq (.region [.mk (mvR (X.t (o (o z)))) (.some (o (o (o (i z))))) Gd.no [],
   .mk (callS Tryz.prog 82 [(X.c AV.nils), (X.t (o (o (o (i z)))))]) (.some (i (o (o (i z))))) Gd.no [],
   .mk (mvR (X.t (i (o (o (i z)))))) (.some (i (i z))) Gd.no []])
  (.seq (.seq (.region [.mk (mvR (X.t z)) (.some (o (i (o (i z))))) Gd.no [],
   .mk (lenR LnK.slice (X.t (o (i (o (i z)))))) (.some (i (i (o (i z))))) Gd.no [],
   .mk (mvR (X.c (AV.int .i64 0))) (.some (o (o (i (i z))))) Gd.no []])
  (.block 2 (.loop C38L1)))
  (.seq (.region [.mk (mvR (X.t (i (i z)))) (.some (o (o (i (o (o z)))))) Gd.no [],
   .mk (mvR (X.t (o (o (i (o (o z))))))) (.some (i z)) Gd.no []])
  .ret))))))
theorem C38ok : (match Tryz.f38.body with | some c => comp Tryz.prog 36 c | none => none) = some C38 := by kernel_rfl
@[go_sem] theorem call38 (args : List AV) (H : Heap) : callC Tryz.prog 38 args H = .call 38 args := callC_ok (by kernel_rfl) args H
theorem R38ok : resKs Tryz.prog Tryz.f38.results.toList = some [(RK.tmp (i z))] := by kernel_rfl

noncomputable def C39L0 : CC :=
  (.seq (.region [.mk (binR Tryz.prog EK.no .none false BinOp.lss (X.t (o (o (i z)))) (X.t (i (i (o z))))) (.some (i (o (i z)))) Gd.no []])
  (.seq (.cond (X.t (i (o (i z))))
  .skip
  (.exit 0))
  (.seq (.block 1 (.seq (.region [.mk (iaS 1 (X.t (o (i (o z)))) (X.t (o (o (i z))))) (.some (o (i (i z)))) Gd.no [],
   .mk (ldR false 1 (X.t (o (i (i z))))) (.some (i (i (i z)))) Gd.no [],
   .mk (mvR (X.t (i (i (i z))))) (.some (o (i z))) Gd.no []])
  (.seq (.region [.mk (mvR (X.t (o (o z)))) (.some (o (o (o (o z))))) Gd.no [],
   .mk (mvR (X.t (o (i z)))) (.some (i (o (o (o z))))) Gd.no [],
   .mk (lenR LnK.slice (X.t (i (o (o (o z)))))) (.some (o (i (o (o z))))) Gd.no [],
   .mk (binR Tryz.prog EK.no .none false BinOp.add (X.t (o (o (o (o z))))) (X.t (o (i (o (o z)))))) (.some (i (i (o (o z))))) Gd.no [],
   .mk (mvR (X.t (i (i (o (o z)))))) (.some (o (o z))) Gd.no []])
  (.seq (.region [.mk (mvR (X.t (o (o z)))) (.some (o (o (i (o z))))) Gd.no [],
   .mk (binR Tryz.prog EK.no .none true BinOp.lss (X.t (o (o (i (o z))))) (X.c (AV.int .i64 0))) (.some (i (o (i (o z))))) Gd.no []])
  (.cond (X.t (i (o (i (o z)))))
  (.region [.mk (mkiR 9 (X.c (AV.str [108, 101, 110, 32, 111, 117, 116, 32, 111, 102, 32, 114, 97, 110, 103, 101]))) (.some (o (i (i (o z))))) Gd.no [],
   .mk (fun _ _ => R1.fail) .none Gd.no []])
  .skip)))))
  (.region [.mk (binR Tryz.prog EK.no .none true BinOp.add (X.t (o (o (i z)))) (X.c (AV.int .i64 1))) (.some (i (i (i (o z))))) Gd.no [],
   .mk (mvR (X.t (i (i (i (o z)))))) (.some (o (o (i z)))) Gd.no []]))))
noncomputable def C39L1 : CC :=
  (.seq (.region [.mk (binR Tryz.prog EK.no .none false BinOp.lss (X.t (o (o (i (i z))))) (X.t (i (i (o (i z)))))) (.some (i (o (i (i z))))) Gd.no []])
  (.seq (.cond (X.t (i (o (i (i z)))))
  .skip
  (.exit 2))
  (.seq (.block 3 (.seq (.region [.mk (iaS 1 (X.t (o (i (o (i z))))) (X.t (o (o (i (i z)))))) (.some (o (i (i (i z))))) Gd.no [],
   .mk (ldR false 1 (X.t (o (i (i (i z)))))) (.some (i (i (i (i z))))) Gd.no [],
   .mk (mvR (X.t (i (i (i (i z)))))) (.some (i (o (o z)))) Gd.no []])
  (.region [.mk (mvR (X.t (i (i z)))) (.some (o (o (o (o (o z)))))) Gd.no [],
   .mk (mvR (X.t (i (o (o z))))) (.some (i (o (o (o (o z)))))) Gd.no [],
   .mk (appR 5 56 (X.t (o (o (o (o (o z)))))) (X.t (i (o (o (o (o z))))))) (.some (o (i (o (o (o z)))))) Gd.no [],
   .mk (mvR (X.t (o (i (o (o (o z))))))) (.some (i (i z))) Gd.no []])))
  (.region [.mk (binR Tryz.prog EK.no .none true BinOp.add (X.t (o (o (i (i z))))) (X.c (AV.int .i64 1))) (.some (i (i (o (o (o z)))))) Gd.no [],
   .mk (mvR (X.t (i (i (o (o (o z))))))) (.some (o (o (i (i z))))) Gd.no []]))))
noncomputable def C39 : CC :=
  (.seq (.region [.mk (mvR (X.c AV.nils)) (.some (i z)) Gd.no []])
  (.seq (.region [.mk (mvR (X.c (AV.int .i64 0))) (.some (o (o z))) Gd.no []])
  (.seq (.seq (.region [.mk (mvR (X.t z)) (.some (o (i (o z)))) Gd.no [],
   .mk (lenR LnK.slice (X.t (o (i (o z))))) (.some (i (i (o z)))) Gd.no [],
   .mk (mvR (X.c (AV.int .i64 0))) (.some (o (o (i z)))) Gd.no []])
  (.block 0 (.loop C39L0)))
  (.seq (.region [.mk (mvR (X.t (o (o z)))) (.some (o (o (o (i z))))) Gd.no [],
   .mk (callS Tryz.prog 83 [(X.c AV.nils), (X.t (o (o (o (i z)))))]) (.some (i (o (o (i z))))) Gd.no [],
   .mk (mvR (X.t (i (o (o (i z)))))) (.some (i (i z))) Gd.no []])
  (.seq (.seq (.region [.mk (mvR (X.t z)) (.some (o (i (o (i z))))) Gd.no [],
   .mk (lenR LnK.slice (X.t (o (i (o (i z)))))) (.some (i (i (o (i z))))) Gd.no [],
   .mk (mvR (X.c (AV.int .i64 0))) (.some (o (o (i (i z))))) Gd.no []])
  (.block 2 (.loop C39L1)))
  (.seq (.region [.mk (mvR (X.t (i (i z)))) (.some (o (o (i (o (o z)))))) Gd.no [],
   .mk (mvR (X.t (o (o (i (o (o z))))))) (.some (i z)) Gd.no []])
  .ret))))))
theorem C39ok : (match Tryz.f39.body with | some c => comp Tryz.prog 36 c | none => none) = some C39 := by kernel_rfl
@[go_sem] theorem call39 (args : List AV) (H : Heap) : callC Tryz.prog 39 args H = .call 39 args := callC_ok (by kernel_rfl) args H
theorem R39ok : resKs Tryz.prog Tryz.f39.results.toList = some [(RK.tmp (i z))] := by kernel_rfl

@[go_sem] theorem call41 (args : List AV) (H : Heap) : callC Tryz.prog 41 args H = .call 41 args := callC_ok (by kernel_rfl) args H
noncomputable def C43L0 : CC :=
  (.seq (.seq (.region [.mk (mvR (X.t (o (i (o z))))) (.some (i (i (o (o z))))) Gd.no [],
   .mk (mvR (X.t (i (o (o z))))) (.some (o (o (i (o z))))) Gd.no [],
   .mk (binR Tryz.prog EK.no .none false BinOp.lss (X.t (i (i (o (o z))))) (X.t (o (o (i (o z)))))) (.some (i (o (i (o z))))) Gd.no []])
  (.cond (X.t (i (o (i (o z)))))
  .skip
  (.exit 0)))
  (.seq (.block 1 (.seq (.region [.mk (mvR (X.t (o z))) (.some (i (o (o (i z))))) Gd.no [],
   .mk (mvR (X.t z)) (.some (o (i (o (i z))))) Gd.no [],
   .mk (mvR (X.t (o (i (o z))))) (.some (i (i (o (i z))))) Gd.no [],
   .mk (iaS 4 (X.t (o (i (o (i z))))) (X.t (i (i (o (i z)))))) (.some (o (o (i (i z))))) Gd.no [],
   .mk (faR 0 (X.t (o (o (i (i z)))))) (.some (i (o (i (i z))))) Gd.no [],
   .mk (ldR false 1 (X.t (i (o (i (i z)))))) (.some (o (i (i (i z))))) Gd.no [],
   .mk (callS Tryz.prog 85 [(X.t (i (o (o (i z))))), (X.t (o (i (i (i z)))))]) (.some (i (i (i (i z))))) Gd.no [],
   .mk (mvR (X.t (i (i (i (i z)))))) (.some (o (o (o (i z))))) Gd.no [],
   .mk (extR (X.t (o (o (o (i z))))) 0) (.some (o (o (o (o (o z)))))) Gd.no [],
   .mk (extR (X.t (o (o (o (i z))))) 1) (.some (i (o (o (o (o z)))))) Gd.no [],
   .mk (fun _ H => newC false [(AV.str []), (AV.str []), (AV.int .i64 0), (AV.bool false), (AV.int .i64 0)] H) (.some (i (i (o z)))) Gd.no [],
   .mk (stR 5 (X.t (i (i (o z)))) (X.t (o (o (o (o (o z))))))) .none Gd.no [],
   .mk (mvR (X.t (i (o (o (o (o z))))))) (.some (o (o (i z)))) Gd.no []])
  (.seq (.region [.mk (mvR (X.t (o (o (i z))))) (.some (o (i (o (o (o z)))))) Gd.no []])
  (.cond (X.t (o (i (o (o (o z))))))
  (.seq (.regionD [.mk (keepH (mvR (X.t (o (i (o z)))))) (.some (o (i (i (o (o z)))))) Gd.no [],
   .mk (keepH (mvR (X.t z))) (.some (i (o (i (o (o z)))))) Gd.no [],
   .mk (keepH (iaS 4 (X.t (i (o (i (o (o z)))))) (X.t (o (i (i (o (o z)))))))) (.some (i (i (i (o (o z)))))) Gd.no [],
   .mk (keepH (faR 1 (X.t (i (i (i (o (o z)))))))) (.some (o (o (o (i (o z)))))) Gd.no [],
   .mk (keepH (ldR false 1 (X.t (o (o (o (i (o z)))))))) (.some (i (o (o (i (o z)))))) Gd.no [],
   .mk (keepH (faR 4 (X.t (i (i (o z)))))) (.some (i (i (o (o (o z)))))) Gd.no [],
   .mk (keepH (ldR false 1 (X.t (i (i (o (o (o z)))))))) (.some (o (o (i (o (o z)))))) Gd.no [],
   .mk (keepH (mmR true (X.t (o (o (i (o (o z)))))) (X.t (i (o (o (i (o z)))))))) (.some (o (i (o (i (o z)))))) Gd.no [],
   .mk (keepH (faR 4 (X.t (i (i (o z)))))) (.some (i (i (o (i (o z)))))) Gd.no [],
   .mk (stR 1 (X.t (i (i (o (i (o z)))))) (X.t (o (i (o (i (o z))))))) .none Gd.no []])
  (.region [.mk (mvR (X.t (o z))) (.some (o (o (i (i (o z)))))) Gd.no [],
   .mk (ldR true 5 (X.t (i (i (o z))))) (.some (i (o (i (i (o z)))))) Gd.no [],
   .mk (callS Tryz.prog 86 [(X.t (o (o (i (i (o z)))))), (X.t (i (o (i (i (o z))))))]) (.some (o (i (i (i (o z)))))) Gd.no [],
   .mk (mvR (X.t (o (i (i (i (o z))))))) (.some (o z)) Gd.no []]))
  .skip))))
  (.region [.mk (mvR (X.t (o (i (o z))))) (.some (o (i (i (o z))))) Gd.no [],
   .mk (binR Tryz.prog EK.no .none true BinOp.add (X.t (o (i (i (o z))))) (X.c (AV.int .i64 1))) (.some (i (i (i (o z))))) Gd.no [],
   .mk (mvR (X.t (i (i (i (o z)))))) (.some (o (i (o z)))) Gd.no []])))
noncomputable def C43 : CC :=
  (.seq (.region [.mk (mvR (X.c AV.nils)) (.some (i (i z))) Gd.no [],
   .mk (mvR (X.c AV.nils)) (.some (o (o (o z)))) Gd.no []])
  (.seq (.region [.mk (mvR (X.t z)) (.some (i (o (i z)))) Gd.no [],
   .mk (lenR LnK.slice (X.t (i (o (i z))))) (.some (o (i (i z)))) Gd.no [],
   .mk (mvR (X.t (i z))) (.some (i (i (i z)))) Gd.no [],
   .mk (mmR true (X.c (AV.int .i64 0)) (X.t (i (i (i z))))) (.some (o (o (o (o z))))) Gd.no [],
   .mk (binR Tryz.prog EK.no .none false BinOp.sub (X.t (o (i (i z)))) (X.t (o (o (o (o z)))))) (.some (i (o (o (o z))))) Gd.no [],
   .mk (mmR true (X.c (AV.int .i64 0)) (X.t (i (o (o (o z)))))) (.some (o (i (o (o z))))) Gd.no [],
   .mk (mvR (X.t (o (i (o (o z)))))) (.some (i (o (o z)))) Gd.no []])
  (.seq (.seq (.region [.mk (mvR (X.c (AV.int .i64 0))) (.some (o (i (o z)))) Gd.no []])
  (.block 0 (.loop C43L0)))
  (.seq (.region [.mk (mvR (X.t z)) (.some (i (i (i (i (o z)))))) Gd.no [],
   .mk (mvR (X.t (i (o (o z))))) (.some (o (o (o (o (i z)))))) Gd.no [],
   .mk (slvR 4 (X.t (i (i (i (i (o z)))))) (.some (X.t (o (o (o (o (i z))))))) .none .none) (.some (i (o (o (o (i z)))))) Gd.no [],
   .mk (appR 4 48 (X.c AV.nils) (X.t (i (o (o (o (i z))))))) (.some (o (i (o (o (i z)))))) Gd.no [],
   .mk (mvR (X.t (o z))) (.some (i (i (o (o (i z)))))) Gd.no [],
   .mk (mvR (X.t (o (i (o (o (i z))))))) (.some (i (i z))) Gd.no [],
   .mk (mvR (X.t (i (i (o (o (i z))))))) (.some (o (o (o z)))) Gd.no []])
  .ret))))
theorem C43ok : (match Tryz.f43.body with | some c => comp Tryz.prog 51 c | none => none) = some C43 := by kernel_rfl
@[go_sem] theorem call43 (args : List AV) (H : Heap) : callC Tryz.prog 43 args H = .call 43 args := callC_ok (by kernel_rfl) args H
theorem R43ok : resKs Tryz.prog Tryz.f43.results.toList = some [(RK.tmp (i (i z))), (RK.tmp (o (o (o z))))] := by kernel_rfl

@[go_sem] theorem call45 (args : List AV) (H : Heap) : callC Tryz.prog 45 args H = .call 45 args := callC_ok (by kernel_rfl) args H
noncomputable def C60 : CC :=
  (.seq (.region [.mk (boxR false (X.t z)) (.some (i z)) Gd.no [],
   .mk (mvR (X.c (AV.bool false))) (.some (o (o z))) Gd.no []])
  (.seq (.region [.mk (faR 2 (X.t (o z))) (.some (i (o z))) Gd.no [],
   .mk (ldR true 2 (X.t (i (o z)))) (.some (o (i z))) Gd.no [],
   .mk (faR 0 (X.t (i z))) (.some (i (i z))) Gd.no [],
   .mk (ldR false 1 (X.t (i (i z)))) (.some (o (o (o z)))) Gd.no [],
   .mk (callS Tryz.prog 61 [(X.t (o (i z))), (X.t (o (o (o z))))]) (.some (i (o (o z)))) Gd.no [],
   .mk (unR UnOp.not (X.t (i (o (o z))))) (.some (o (i (o z)))) Gd.no [],
   .mk (mvR (X.t (o (i (o z))))) (.some (o (o z))) Gd.no []])
  .ret))
theorem C60ok : (match Tryz.f60.body with | some c => comp Tryz.prog 10 c | none => none) = some C60 := by kernel_rfl
@[go_sem] theorem call60 (args : List AV) (H : Heap) : callC Tryz.prog 60 args H = .call 60 args := callC_ok (by kernel_rfl) args H
theorem R60ok : resKs Tryz.prog Tryz.f60.results.toList = some [(RK.tmp (o (o z)))] := by kernel_rfl

noncomputable def C63 : CC :=
  (.seq (.region [.mk (mvR (X.c (AV.bool false))) (.some (i (o z))) Gd.no []])
  (.seq (.region [.mk (mvR (X.t z)) (.some (o (i z))) Gd.no [],
   .mk (mvR (X.t (o z))) (.some (i (i z))) Gd.no [],
   .mk (callS Tryz.prog 114 [(X.t (o (i z))), (X.t (i (i z)))]) (.some (o (o (o z)))) Gd.no [],
   .mk (binR Tryz.prog EK.no .none true BinOp.geq (X.t (o (o (o z)))) (X.c (AV.int .i64 0))) (.some (i (o (o z)))) Gd.no [],
   .mk (mvR (X.t (i (o (o z))))) (.some (i (o z))) Gd.no []])
  .ret))
theorem C63ok : (match Tryz.f63.body with | some c => comp Tryz.prog 9 c | none => none) = some C63 := by kernel_rfl
@[go_sem] theorem call63 (args : List AV) (H : Heap) : callC Tryz.prog 63 args H = .call 63 args := callC_ok (by kernel_rfl) args H
theorem R63ok : resKs Tryz.prog Tryz.f63.results.toList = some [(RK.tmp (i (o z)))] := by kernel_rfl

noncomputable def C64L0 : CC :=
  (.seq (.region [.mk (binR Tryz.prog EK.no .none false BinOp.lss (X.t (i (i (i z)))) (X.t (o (i (i z))))) (.some (o (o (o (o z))))) Gd.no []])
  (.seq (.cond (X.t (o (o (o (o z)))))
  .skip
  (.exit 0))
  (.seq (.block 1 (.seq (.region [.mk (iaS 4 (X.t (i (o (i z)))) (X.t (i (i (i z))))) (.some (i (o (o (o z))))) Gd.no [],
   .mk (ldR true 4 (X.t (i (o (o (o z)))))) (.some (o (i (o (o z))))) Gd.no [],
   .mk (fun _ H => newC false [(AV.str []), (AV.int .i64 0), (AV.str []), (AV.bool false)] H) (.some (i (i z))) Gd.no [],
   .mk (stR 4 (X.t (i (i z))) (X.t (o (i (o (o z)))))) .none Gd.no []])
  (.seq (.region [.mk (mvR (X.t (o z))) (.some (o (o (i (o z))))) Gd.no [],
   .mk (faR 0 (X.t (i (i z)))) (.some (i (o (i (o z))))) Gd.no [],
   .mk (ldR false 1 (X.t (i (o (i (o z)))))) (.some (o (i (i (o z))))) Gd.no [],
   .mk (callS Tryz.prog 106 [(X.t (o (o (i (o z))))), (X.t (o (i (i (o z)))))]) (.some (i (i (i (o z))))) Gd.no [],
   .mk (mvR (X.t (i (i (i (o z)))))) (.some (i (i (o (o z))))) Gd.no [],
   .mk (extR (X.t (i (i (o (o z))))) 0) (.some (o (o (o (i z))))) Gd.no [],
   .mk (extR (X.t (i (i (o (o z))))) 1) (.some (i (o (o (i z))))) Gd.no [],
   .mk (fun _ H => newC false [(AV.str []), (AV.str []), (AV.int .i64 0), (AV.bool false), (AV.int .i64 0)] H) (.some (o (o (o z)))) Gd.no [],
   .mk (stR 5 (X.t (o (o (o z)))) (X.t (o (o (o (i z)))))) .none Gd.no [],
   .mk (mvR (X.t (i (o (o (i z)))))) (.some (i (o (o z)))) Gd.no []])
  (.block 2 (.seq (.block 4 (.block 3 (.seq (.seq (.seq (.region [.mk (mvR (X.t (i (o (o z))))) (.some (i (i (o (i z))))) Gd.no [],
   .mk (unR UnOp.not (X.t (i (i (o (i z)))))) (.some (o (o (i (i z))))) Gd.no [],
   .mk (mvR (X.t (o (o (i (i z)))))) (.some (o (i (o (i z))))) Gd.no []])
  (.cond (X.t (o (i (o (i z)))))
  (.exit 3)
  .skip))
  (.seq (.region [.mk (ldR true 4 (X.t (i (i z)))) (.some (o (i (i (i z))))) Gd.no [],
   .mk (callS Tryz.prog 116 [(X.t (o (i (i (i z)))))]) (.some (i (i (i (i z))))) Gd.no [],
   .mk (unR UnOp.not (X.t (i (i (i (i z)))))) (.some (o (o (o (o (o z)))))) Gd.no [],
   .mk (mvR (X.t (o (o (o (o (o z))))))) (.some (i (o (i (i z))))) Gd.no []])
  (.cond (X.t (i (o (i (i z)))))
  (.exit 4)
  .skip)))
  (.exit 2))))
  (.seq (.seq (.region [.mk (mvR (X.c (AV.bool false))) (.some (i (o z))) Gd.no []])
  .ret)
  (.exit 2)))))))
  (.region [.mk (binR Tryz.prog EK.no .none true BinOp.add (X.t (i (i (i z)))) (X.c (AV.int .i64 1))) (.some (i (o (o (o (o z)))))) Gd.no [],
   .mk (mvR (X.t (i (o (o (o (o z))))))) (.some (i (i (i z)))) Gd.no []]))))
noncomputable def C64 : CC :=
  (.seq (.region [.mk (boxR false (X.t z)) (.some (i z)) Gd.no [],
   .mk (mvR (X.c (AV.bool false))) (.some (i (o z))) Gd.no []])
  (.seq (.seq (.region [.mk (mvR (X.t (o z))) (.some (o (i (o z)))) Gd.no [],
   .mk (callS Tryz.prog 115 [(X.t (o (i (o z))))]) (.some (i (i (o z)))) Gd.no [],
   .mk (unR UnOp.not (X.t (i (i (o z))))) (.some (o (o (i z)))) Gd.no []])
  (.cond (X.t (o (o (i z))))
  (.seq (.region [.mk (mvR (X.c (AV.bool false))) (.some (i (o z))) Gd.no []])
  .ret)
  .skip))
  (.seq (.seq (.region [.mk (ldR false 1 (X.t (i z))) (.some (i (o (i z)))) Gd.no [],
   .mk (lenR LnK.slice (X.t (i (o (i z))))) (.some (o (i (i z)))) Gd.no [],
   .mk (mvR (X.c (AV.int .i64 0))) (.some (i (i (i z)))) Gd.no []])
  (.block 0 (.loop C64L0)))
  (.seq (.region [.mk (mvR (X.t (o z))) (.some (o (i (o (o (o z)))))) Gd.no [],
   .mk (mkfR (Fn.func 117) [] [(X.t (i z))]) (.some (i (i (o (o (o z)))))) Gd.no [],
   .mk (callS Tryz.prog 63 [(X.t (o (i (o (o (o z)))))), (X.t (i (i (o (o (o z))))))]) (.some (o (o (i (o (o z)))))) Gd.no [],
   .mk (unR UnOp.not (X.t (o (o (i (o (o z))))))) (.some (i (o (i (o (o z)))))) Gd.no [],
   .mk (mvR (X.t (i (o (i (o (o z))))))) (.some (i (o z))) Gd.no []])
  .ret))))
theorem C64ok : (match Tryz.f64.body with | some c => comp Tryz.prog 37 c | none => none) = some C64 := by kernel_rfl
@[go_sem] theorem call64 (args : List AV) (H : Heap) : callC Tryz.prog 64 args H = .call 64 args := callC_ok (by kernel_rfl) args H
theorem R64ok : resKs Tryz.prog Tryz.f64.results.toList = some [(RK.tmp (i (o z)))] := by kernel_rfl

noncomputable def C82 : CC :=
  (.seq (.region [.mk (mvR (X.c AV.nils)) (.some (i (o z))) Gd.no []])
  (.seq (.seq (.region [.mk (mvR (X.t (o z))) (.some (o (i z))) Gd.no [],
   .mk (binR Tryz.prog EK.no .none true BinOp.lss (X.t (o (i z))) (X.c (AV.int .i64 0))) (.some (i (i z))) Gd.no []])
  (.cond (X.t (i (i z)))
  (.region [.mk (mkiR 9 (X.c (AV.str [99, 97, 110, 110, 111, 116, 32, 98, 101, 32, 110, 101, 103, 97, 116, 105, 118, 101]))) (.some (o (o (o z)))) Gd.no [],
   .mk (fun _ _ => R1.fail) .none Gd.no []])
  .skip))
  (.seq (.seq (.region [.mk (mvR (X.t (o z))) (.some (i (o (o z)))) Gd.no [],
   .mk (mvR (X.t z)) (.some (o (i (o z)))) Gd.no [],
   .mk (capR (X.t (o (i (o z))))) (.some (i (i (o z)))) Gd.no [],
   .mk (mvR (X.t z)) (.some (o (o (i z)))) Gd.no [],
   .mk (lenR LnK.slice (X.t (o (o (i z))))) (.some (i (o (i z)))) Gd.no [],
   .mk (binR Tryz.prog EK.no .none false BinOp.sub (X.t (i (i (o z)))) (X.t (i (o (i z))))) (.some (o (i (i z)))) Gd.no [],
   .mk (binR Tryz.prog EK.no .none false BinOp.sub (X.t (i (o (o z)))) (X.t (o (i (i z))))) (.some (i (i (i z)))) Gd.no [],
   .mk (mvR (X.t (i (i (i z))))) (.some (o z)) Gd.no []])
  (.seq (.region [.mk (mvR (X.t (o z))) (.some (o (o (o (o z))))) Gd.no [],
   .mk (binR Tryz.prog EK.no .none true BinOp.gtr (X.t (o (o (o (o z))))) (X.c (AV.int .i64 0))) (.some (i (o (o (o z))))) Gd.no []])
  (.cond (X.t (i (o (o (o z)))))
  (.region [.mk (mvR (X.t z)) (.some (o (i (o (o z))))) Gd.no [],
   .mk (mvR (X.t z)) (.some (i (i (o (o z))))) Gd.no [],
   .mk (capR (X.t (i (i (o (o z)))))) (.some (o (o (i (o z))))) Gd.no [],
   .mk (slvR 4 (X.t (o (i (o (o z))))) .none (.some (X.t (o (o (i (o z)))))) .none) (.some (i (o (i (o z))))) Gd.no [],
   .mk (mvR (X.t (o z))) (.some (o (i (i (o z))))) Gd.no [],
   .mk (apzR 4 48 [(AV.str []), (AV.int .i64 0), (AV.str []), (AV.bool false)] (X.t (i (o (i (o z))))) (X.t (o (i (i (o z)))))) (.some (i (i (i (o z))))) Gd.no [],
   .mk (mvR (X.t z)) (.some (o (o (o (i z))))) Gd.no [],
   .mk (lenR LnK.slice (X.t (o (o (o (i z)))))) (.some (i (o (o (i z))))) Gd.no [],
   .mk (slvR 4 (X.t (i (i (i (o z))))) .none (.some (X.t (i (o (o (i z)))))) .none) (.some (o (i (o (i z))))) Gd.no [],
   .mk (mvR (X.t (o (i (o (i z)))))) (.some z) Gd.no []])
  .skip)))
  (.seq (.region [.mk (mvR (X.t z)) (.some (i (i (o (i z))))) Gd.no [],
   .mk (mvR (X.t (i (i (o (i z)))))) (.some (i (o z))) Gd.no []])
  .ret))))
theorem C82ok : (match Tryz.f82.body with | some c => comp Tryz.prog 27 c | none => none) = some C82 := by kernel_rfl
@[go_sem] theorem call82 (args : List AV) (H : Heap) : callC Tryz.prog 82 args H = .call 82 args := callC_ok (by kernel_rfl) args H
theorem R82ok : resKs Tryz.prog Tryz.f82.results.toList = some [(RK.tmp (i (o z)))] := by kernel_rfl

noncomputable def C83 : CC :=
  (.seq (.region [.mk (mvR (X.c AV.nils)) (.some (i (o z))) Gd.no []])
  (.seq (.seq (.region [.mk (mvR (X.t (o z))) (.some (o (i z))) Gd.no [],
   .mk (binR Tryz.prog EK.no .none true BinOp.lss (X.t (o (i z))) (X.c (AV.int .i64 0))) (.some (i (i z))) Gd.no []])
  (.cond (X.t (i (i z)))
  (.region [.mk (mkiR 9 (X.c (AV.str [99, 97, 110, 110, 111, 116, 32, 98, 101, 32, 110, 101, 103, 97, 116, 105, 118, 101]))) (.some (o (o (o z)))) Gd.no [],
   .mk (fun _ _ => R1.fail) .none Gd.no []])
  .skip))
  (.seq (.seq (.region [.mk (mvR (X.t (o z))) (.some (i (o (o z)))) Gd.no [],
   .mk (mvR (X.t z)) (.some (o (i (o z)))) Gd.no [],
   .mk (capR (X.t (o (i (o z))))) (.some (i (i (o z)))) Gd.no [],
   .mk (mvR (X.t z)) (.some (o (o (i z)))) Gd.no [],
   .mk (lenR LnK.slice (X.t (o (o (i z))))) (.some (i (o (i z)))) Gd.no [],
   .mk (binR Tryz.prog EK.no .none false BinOp.sub (X.t (i (i (o z)))) (X.t (i (o (i z))))) (.some (o (i (i z)))) Gd.no [],
   .mk (binR Tryz.prog EK.no .none false BinOp.sub (X.t (i (o (o z)))) (X.t (o (i (i z))))) (.some (i (i (i z)))) Gd.no [],
   .mk (mvR (X.t (i (i (i z))))) (.some (o z)) Gd.no []])
  (.seq (.region [.mk (mvR (X.t (o z))) (.some (o (o (o (o z))))) Gd.no [],
   .mk (binR Tryz.prog EK.no .none true BinOp.gtr (X.t (o (o (o (o z))))) (X.c (AV.int .i64 0))) (.some (i (o (o (o z))))) Gd.no []])
  (.cond (X.t (i (o (o (o z)))))
  (.region [.mk (mvR (X.t z)) (.some (o (i (o (o z))))) Gd.no [],
   .mk (mvR (X.t z)) (.some (i (i (o (o z))))) Gd.no [],
   .mk (capR (X.t (i (i (o (o z)))))) (.some (o (o (i (o z))))) Gd.no [],
   .mk (slvR 5 (X.t (o (i (o (o z))))) .none (.some (X.t (o (o (i (o z)))))) .none) (.some (i (o (i (o z))))) Gd.no [],
   .mk (mvR (X.t (o z))) (.some (o (i (i (o z))))) Gd.no [],
   .mk (apzR 5 56 [(AV.str []), (AV.str []), (AV.int .i64 0), (AV.bool false), (AV.int .i64 0)] (X.t (i (o (i (o z))))) (X.t (o (i (i (o z)))))) (.some (i (i (i (o z))))) Gd.no [],
   .mk (mvR (X.t z)) (.some (o (o (o (i z))))) Gd.no [],
   .mk (lenR LnK.slice (X.t (o (o (o (i z)))))) (.some (i (o (o (i z))))) Gd.no [],
   .mk (slvR 5 (X.t (i (i (i (o z))))) .none (.some (X.t (i (o (o (i z)))))) .none) (.some (o (i (o (i z))))) Gd.no [],
   .mk (mvR (X.t (o (i (o (i z)))))) (.some z) Gd.no []])
  .skip)))
  (.seq (.region [.mk (mvR (X.t z)) (.some (i (i (o (i z))))) Gd.no [],
   .mk (mvR (X.t (i (i (o (i z)))))) (.some (i (o z))) Gd.no []])
  .ret))))
theorem C83ok : (match Tryz.f83.body with | some c => comp Tryz.prog 27 c | none => none) = some C83 := by kernel_rfl
@[go_sem] theorem call83 (args : List AV) (H : Heap) : callC Tryz.prog 83 args H = .call 83 args := callC_ok (by kernel_rfl) args H
theorem R83ok : resKs Tryz.prog Tryz.f83.results.toList = some [(RK.tmp (i (o z)))] := by kernel_rfl

noncomputable def C114L0 : CC :=
  (.seq (.region [.mk (binR Tryz.prog EK.no .none false BinOp.lss (X.t (i (o (o z)))) (X.t (o (o (o z))))) (.some (o (i (o z)))) Gd.no []])
  (.seq (.cond (X.t (o (i (o z))))
  .skip
  (.exit 0))
  (.seq (.block 1 (.seq (.region [.mk (mvR (X.t (i (o (o z))))) (.some (i (i (o z)))) Gd.no [],
   .mk (mvR (X.t (i (i (o z))))) (.some (o (i z))) Gd.no []])
  (.seq (.region [.mk (mvR (X.t (o z))) (.some (o (o (i z)))) Gd.no [],
   .mk (mvR (X.t z)) (.some (i (o (i z)))) Gd.no [],
   .mk (mvR (X.t (o (i z)))) (.some (o (i (i z)))) Gd.no [],
   .mk (iaS 5 (X.t (i (o (i z)))) (X.t (o (i (i z))))) (.some (i (i (i z)))) Gd.no [],
   .mk (ldR true 5 (X.t (i (i (i z))))) (.some (o (o (o (o z))))) Gd.no [],
   .mk (callX Tryz.prog (X.t (o (o (i z)))) [(X.t (o (o (o (o z)))))]) (.some (i (o (o (o z))))) Gd.no []])
  (.cond (X.t (i (o (o (o z)))))
  (.seq (.region [.mk (mvR (X.t (o (i z)))) (.some (o (i (o (o z))))) Gd.no [],
   .mk (mvR (X.t (o (i (o (o z)))))) (.some (i (o z))) Gd.no []])
  .ret)
  .skip))))
  (.region [.mk (binR Tryz.prog EK.no .none true BinOp.add (X.t (i (o (o z)))) (X.c (AV.int .i64 1))) (.some (i (i (o (o z))))) Gd.no [],
   .mk (mvR (X.t (i (i (o (o z)))))) (.some (i (o (o z)))) Gd.no []]))))
noncomputable def C114 : CC :=
  (.seq (.region [.mk (mvR (X.c (AV.int .i64 0))) (.some (i (o z))) Gd.no []])
  (.seq (.seq (.region [.mk (mvR (X.t z)) (.some (i (i z))) Gd.no [],
   .mk (lenR LnK.slice (X.t (i (i z)))) (.some (o (o (o z)))) Gd.no [],
   .mk (mvR (X.c (AV.int .i64 0))) (.some (i (o (o z)))) Gd.no []])
  (.block 0 (.loop C114L0)))
  (.seq (.region [.mk (mvR (X.c (AV.int .i64 (-1)))) (.some (i (o z))) Gd.no []])
  .ret)))
theorem C114ok : (match Tryz.f114.body with | some c => comp Tryz.prog 19 c | none => none) = some C114 := by kernel_rfl
@[go_sem] theorem call114 (args : List AV) (H : Heap) : callC Tryz.prog 114 args H = .call 114 args := callC_ok (by kernel_rfl) args H
theorem R114ok : resKs Tryz.prog Tryz.f114.results.toList = some [(RK.tmp (i (o z)))] := by kernel_rfl

noncomputable def C116 : CC :=
  (.seq (.region [.mk (boxR false (X.t z)) (.some (o z)) Gd.no [],
   .mk (mvR (X.c (AV.bool false))) (.some (i z)) Gd.no []])
  (.seq (.region [.mk (faR 0 (X.t (o z))) (.some (o (o z))) Gd.no [],
   .mk (ldR false 1 (X.t (o (o z)))) (.some (i (o z))) Gd.no [],
   .mk (faR 2 (X.t (o z))) (.some (o (i z))) Gd.no [],
   .mk (ldR false 1 (X.t (o (i z)))) (.some (i (i z))) Gd.no [],
   .mk (faR 1 (X.t (o z))) (.some (o (o (o z)))) Gd.no [],
   .mk (ldR false 1 (X.t (o (o (o z))))) (.some (i (o (o z)))) Gd.no [],
   .mk (faR 3 (X.t (o z))) (.some (o (i (o z)))) Gd.no [],
   .mk (ldR false 1 (X.t (o (i (o z))))) (.some (i (i (o z)))) Gd.no [],
   .mk (callS Tryz.prog 142 [(X.t (i (o z))), (X.t (i (i z))), (X.t (i (o (o z)))), (X.t (i (i (o z))))]) (.some (o (o (i z)))) Gd.no [],
   .mk (mvR (X.t (o (o (i z))))) (.some (i z)) Gd.no []])
  .ret))
theorem C116ok : (match Tryz.f116.body with | some c => comp Tryz.prog 12 c | none => none) = some C116 := by kernel_rfl
@[go_sem] theorem call116 (args : List AV) (H : Heap) : callC Tryz.prog 116 args H = .call 116 args := callC_ok (by kernel_rfl) args H
theorem R116ok : resKs Tryz.prog Tryz.f116.results.toList = some [(RK.tmp (i z))] := by kernel_rfl

noncomputable def C117 : CC :=
  (.seq (.region [.mk (boxR false (X.t z)) (.some (i z)) Gd.no [],
   .mk (mvR (X.c (AV.bool false))) (.some (o (o z))) Gd.no []])
  (.seq (.region [.mk (ldR false 1 (X.t (o z))) (.some (i (o z))) Gd.no [],
   .mk (ldR true 5 (X.t (i z))) (.some (o (i z))) Gd.no [],
   .mk (callS Tryz.prog 118 [(X.t (i (o z))), (X.t (o (i z)))]) (.some (i (i z))) Gd.no [],
   .mk (unR UnOp.not (X.t (i (i z)))) (.some (o (o (o z)))) Gd.no [],
   .mk (mvR (X.t (o (o (o z))))) (.some (o (o z))) Gd.no []])
  .ret))
theorem C117ok : (match Tryz.f117.body with | some c => comp Tryz.prog 8 c | none => none) = some C117 := by kernel_rfl
@[go_sem] theorem call117 (args : List AV) (H : Heap) : callC Tryz.prog 117 args H = .call 117 args := callC_ok (by kernel_rfl) args H
theorem R117ok : resKs Tryz.prog Tryz.f117.results.toList = some [(RK.tmp (o (o z)))] := by kernel_rfl

noncomputable def C118L0 : CC :=
  (.seq (.region [.mk (binR Tryz.prog EK.no .none false BinOp.lss (X.t (i (i (o (o z))))) (X.t (o (i (o (o z)))))) (.some (o (o (i (o z))))) Gd.no []])
  (.seq (.cond (X.t (o (o (i (o z)))))
  .skip
  (.exit 0))
  (.seq (.block 1 (.seq (.region [.mk (iaS 4 (X.t (i (o (o (o z))))) (X.t (i (i (o (o z)))))) (.some (i (o (i (o z))))) Gd.no [],
   .mk (ldR true 4 (X.t (i (o (i (o z)))))) (.some (o (i (i (o z))))) Gd.no [],
   .mk (fun _ H => newC false [(AV.str []), (AV.int .i64 0), (AV.str []), (AV.bool false)] H) (.some (i (o (o z)))) Gd.no [],
   .mk (stR 4 (X.t (i (o (o z)))) (X.t (o (i (i (o z)))))) .none Gd.no []])
  (.seq (.seq (.region [.mk (faR 0 (X.t (i (o (o z))))) (.some (i (i (i (o z))))) Gd.no [],
   .mk (ldR false 1 (X.t (i (i (i (o z)))))) (.some (o (o (o (i z))))) Gd.no [],
   .mk (faR 0 (X.t (o (o z)))) (.some (i (o (o (i z))))) Gd.no [],
   .mk (ldR false 1 (X.t (i (o (o (i z)))))) (.some (o (i (o (i z))))) Gd.no [],
   .mk (binR Tryz.prog EK.no .none false BinOp.neq (X.t (o (o (o (i z))))) (X.t (o (i (o (i z)))))) (.some (i (i (o (i z))))) Gd.no []])
  (.cond (X.t (i (i (o (i z)))))
  (.exit 1)
  .skip))
  (.seq (.seq (.region [.mk (faR 1 (X.t (i (o (o z))))) (.some (o (o (i (i z))))) Gd.no [],
   .mk (ldR false 1 (X.t (o (o (i (i z)))))) (.some (i (o (i (i z))))) Gd.no [],
   .mk (mvR (X.t (o (i z)))) (.some (o (i (i (i z))))) Gd.no [],
   .mk (binR Tryz.prog EK.no .none true BinOp.add (X.t (o (i (i (i z))))) (X.c (AV.int .i64 1))) (.some (i (i (i (i z))))) Gd.no [],
   .mk (binR Tryz.prog EK.no .none false BinOp.neq (X.t (i (o (i (i z))))) (X.t (i (i (i (i z)))))) (.some (o (o (o (o (o z)))))) Gd.no []])
  (.cond (X.t (o (o (o (o (o z))))))
  (.seq (.region [.mk (mvR (X.c (AV.bool false))) (.some (i (o z))) Gd.no []])
  .ret)
  .skip))
  (.regionD [.mk (keepH (ldR true 4 (X.t (i (o (o z)))))) (.some (i (i (o (o (o z)))))) Gd.no [],
   .mk (keepH (faR 1 (X.t (i (o (o z)))))) (.some (i (o (o (o (o z)))))) Gd.no [],
   .mk (keepH (ldR false 1 (X.t (i (o (o (o (o z)))))))) (.some (o (i (o (o (o z)))))) Gd.no [],
   .mk (mvR (X.t (o (i (o (o (o z))))))) (.some (o (i z))) Gd.no [.mk (ldR true 4 (X.t (i (o (o z))))) (.some (i (i (o (o (o z)))))) Gd.no],
   .mk (stR 4 (X.t (i (i z))) (X.t (i (i (o (o (o z))))))) .none Gd.no []])))))
  (.region [.mk (binR Tryz.prog EK.no .none true BinOp.add (X.t (i (i (o (o z))))) (X.c (AV.int .i64 1))) (.some (o (o (i (o (o z)))))) Gd.no [],
   .mk (mvR (X.t (o (o (i (o (o z))))))) (.some (i (i (o (o z))))) Gd.no []]))))
noncomputable def C118 : CC :=
  (.seq (.region [.mk (boxR false (X.t (o z))) (.some (o (o z))) Gd.no [],
   .mk (mvR (X.c (AV.bool false))) (.some (i (o z))) Gd.no []])
  (.seq (.region [.mk (faR 4 (X.t (o (o z)))) (.some (o (i (o z)))) Gd.no [],
   .mk (ldR false 1 (X.t (o (i (o z))))) (.some (i (i (o z)))) Gd.no [],
   .mk (mvR (X.t (i (i (o z))))) (.some (o (i z))) Gd.no []])
  (.seq (.region [.mk (faR 1 (X.t (o (o z)))) (.some (o (o (i z)))) Gd.no [],
   .mk (ldR false 1 (X.t (o (o (i z))))) (.some (i (o (i z)))) Gd.no [],
   .mk (faR 3 (X.t (o (o z)))) (.some (o (i (i z)))) Gd.no [],
   .mk (ldR false 1 (X.t (o (i (i z))))) (.some (i (i (i z)))) Gd.no [],
   .mk (buildR [(AV.str []), (AV.int .i64 0), (AV.str []), (AV.bool false)] [(2, (1, (X.t (i (o (i z)))))), (3, (1, (X.t (i (i (i z))))))]) (.some (o (o (o (o z))))) Gd.no [],
   .mk (fun _ H => newC false [(AV.str []), (AV.int .i64 0), (AV.str []), (AV.bool false)] H) (.some (i (i z))) Gd.no [],
   .mk (stR 4 (X.t (i (i z))) (X.t (o (o (o (o z)))))) .none Gd.no []])
  (.seq (.seq (.region [.mk (mvR (X.t z)) (.some (i (o (o (o z))))) Gd.no [],
   .mk (lenR LnK.slice (X.t (i (o (o (o z)))))) (.some (o (i (o (o z))))) Gd.no [],
   .mk (mvR (X.c (AV.int .i64 0))) (.some (i (i (o (o z))))) Gd.no []])
  (.block 0 (.loop C118L0)))
  (.seq (.region [.mk (mvR (X.t (o (i z)))) (.some (i (o (i (o (o z)))))) Gd.no [],
   .mk (faR 2 (X.t (o (o z)))) (.some (o (i (i (o (o z)))))) Gd.no [],
   .mk (ldR false 1 (X.t (o (i (i (o (o z))))))) (.some (i (i (i (o (o z)))))) Gd.no [],
   .mk (binR Tryz.prog EK.no .none false BinOp.eql (X.t (i (o (i (o (o z)))))) (X.t (i (i (i (o (o z))))))) (.some (o (o (o (i (o z)))))) Gd.no [],
   .mk (mvR (X.t (o (o (o (i (o z))))))) (.some (i (o (o (i (o z)))))) Gd.no [],
   .mk (faR 2 (X.t (i (i z)))) (.some (o (i (o (i (o z)))))) (Gd.on (i (o (o (i (o z))))) true) [],
   .mk (ldR false 1 (X.t (o (i (o (i (o z))))))) (.some (i (i (o (i (o z)))))) (Gd.on (i (o (o (i (o z))))) true) [],
   .mk (faR 1 (X.t (o (o z)))) (.some (o (o (i (i (o z)))))) (Gd.on (i (o (o (i (o z))))) true) [],
   .mk (ldR false 1 (X.t (o (o (i (i (o z))))))) (.some (i (o (i (i (o z)))))) (Gd.on (i (o (o (i (o z))))) true) [],
   .mk (binR Tryz.prog EK.no .none false BinOp.eql (X.t (i (i (o (i (o z)))))) (X.t (i (o (i (i (o z))))))) (.some (o (i (i (i (o z)))))) (Gd.on (i (o (o (i (o z))))) true) [],
   .mk (pickR (X.t (i (o (o (i (o z)))))) (X.t (o (i (i (i (o z)))))) (X.c (AV.bool false))) (.some (i (i (i (i (o z)))))) Gd.no [],
   .mk (mvR (X.t (i (i (i (i (o z))))))) (.some (o (o (o (o (i z)))))) Gd.no [],
   .mk (faR 3 (X.t (i (i z)))) (.some (i (o (o (o (i z)))))) (Gd.on (o (o (o (o (i z))))) true) [],
   .mk (ldR false 1 (X.t (i (o (o (o (i z))))))) (.some (o (i (o (o (i z)))))) (Gd.on (o (o (o (o (i z))))) true) [],
   .mk (faR 3 (X.t (o (o z)))) (.some (i (i (o (o (i z)))))) (Gd.on (o (o (o (o (i z))))) true) [],
   .mk (ldR false 1 (X.t (i (i (o (o (i z))))))) (.some (o (o (i (o (i z)))))) (Gd.on (o (o (o (o (i z))))) true) [],
   .mk (binR Tryz.prog EK.bool .none false BinOp.eql (X.t (o (i (o (o (i z)))))) (X.t (o (o (i (o (i z))))))) (.some (i (o (i (o (i z)))))) (Gd.on (o (o (o (o (i z))))) true) [],
   .mk (pickR (X.t (o (o (o (o (i z)))))) (X.t (i (o (i (o (i z)))))) (X.c (AV.bool false))) (.some (o (i (i (o (i z)))))) Gd.no [],
   .mk (mvR (X.t (o (i (i (o (i z))))))) (.some (i (o z))) Gd.no []])
  .ret)))))
theorem C118ok : (match Tryz.f118.body with | some c => comp Tryz.prog 54 c | none => none) = some C118 := by kernel_rfl
@[go_sem] theorem call118 (args : List AV) (H : Heap) : callC Tryz.prog 118 args H = .call 118 args := callC_ok (by kernel_rfl) args H
theorem R118ok : resKs Tryz.prog Tryz.f118.results.toList = some [(RK.tmp (i (o z)))] := by kernel_rfl

@[go_sem] theorem call16 (args : List AV) (H : Heap) : callC Tryz.prog 16 args H = .call 16 args := callC_ok (by kernel_rfl) args H
end Go.Proofs
