/- part. -/
import Derived.Test.YtglpihajimhekaaGreatDoorZ12
set_option linter.all false
namespace Go.Ev
variable {P : Program} {φ : Phi} {H : Heap} {w : World}
noncomputable def cloCC (P : Program) (esz bytes : Nat) (zero : List AV) : CC :=
  (.seq (.region [.mk (mvR (X.c AV.nils)) (Option.some (K.i K.z)) Gd.no []])
  (.seq (.seq (.region [.mk (mvR (X.t K.z)) (Option.some (K.o (K.o K.z))) Gd.no [],
   .mk (binR P EK.slice Option.none Bool.true BinOp.eql (X.t (K.o (K.o K.z))) (X.c AV.nils)) (Option.some (K.i (K.o K.z))) Gd.no []])
  (.cond (X.t (K.i (K.o K.z)))
  (.seq (.region [.mk (mvR (X.c AV.nils)) (Option.some (K.i K.z)) Gd.no []])
  .ret)
  .skip))
  (.seq (.region [.mk (bslR esz 0 zero []) (Option.some (K.o (K.i K.z))) Gd.no [],
   .mk (mvR (X.t K.z)) (Option.some (K.i (K.i K.z))) Gd.no [],
   .mk (appR esz bytes (X.t (K.o (K.i K.z))) (X.t (K.i (K.i K.z)))) (Option.some (K.o (K.o (K.o K.z)))) Gd.no [],
   .mk (mvR (X.t (K.o (K.o (K.o K.z))))) (Option.some (K.i K.z)) Gd.no []])
  .ret)))
noncomputable def insCC (P : Program) (esz bytes : Nat) (zero : List AV) (ov rr : FuncId) : CC :=
  (.seq (.region [.mk (mvR (X.c AV.nils)) (Option.some (K.i (K.i K.z))) Gd.no []])
  (.seq (.region [.mk (mvR (X.t K.z)) (Option.some (K.i (K.i (K.o K.z)))) Gd.no [],
   .mk (mvR (X.t (K.o K.z))) (Option.some (K.o (K.o (K.i K.z)))) Gd.no [],
   .mk (slvR esz (X.t (K.i (K.i (K.o K.z)))) (Option.some (X.t (K.o (K.o (K.i K.z))))) Option.none Option.none) (Option.some (K.i (K.o (K.i K.z)))) Gd.no []])
  (.seq (.region [.mk (mvR (X.t (K.i K.z))) (Option.some (K.o (K.i (K.i K.z)))) Gd.no [],
   .mk (lenR LnK.slice (X.t (K.o (K.i (K.i K.z))))) (Option.some (K.i (K.i (K.i K.z)))) Gd.no [],
   .mk (mvR (X.t (K.i (K.i (K.i K.z))))) (Option.some (K.o (K.o (K.o K.z)))) Gd.no []])
  (.seq (.seq (.region [.mk (mvR (X.t (K.o (K.o (K.o K.z))))) (Option.some (K.o (K.o (K.o (K.o K.z))))) Gd.no [],
   .mk (binR P EK.no Option.none Bool.true BinOp.eql (X.t (K.o (K.o (K.o (K.o K.z))))) (X.c (AV.int IntKind.i64 0))) (Option.some (K.i (K.o (K.o (K.o K.z))))) Gd.no []])
  (.cond (X.t (K.i (K.o (K.o (K.o K.z)))))
  (.seq (.region [.mk (mvR (X.t K.z)) (Option.some (K.o (K.i (K.o (K.o K.z))))) Gd.no [],
   .mk (mvR (X.t (K.o (K.i (K.o (K.o K.z)))))) (Option.some (K.i (K.i K.z))) Gd.no []])
  .ret)
  .skip))
  (.seq (.region [.mk (mvR (X.t K.z)) (Option.some (K.i (K.i (K.o (K.o K.z))))) Gd.no [],
   .mk (lenR LnK.slice (X.t (K.i (K.i (K.o (K.o K.z)))))) (Option.some (K.o (K.o (K.i (K.o K.z))))) Gd.no [],
   .mk (mvR (X.t (K.o (K.o (K.i (K.o K.z)))))) (Option.some (K.i (K.o (K.o K.z)))) Gd.no []])
  (.seq (.seq (.region [.mk (mvR (X.t (K.o K.z))) (Option.some (K.i (K.o (K.i (K.o K.z))))) Gd.no [],
   .mk (mvR (X.t (K.i (K.o (K.o K.z))))) (Option.some (K.o (K.i (K.i (K.o K.z))))) Gd.no [],
   .mk (binR P EK.no Option.none Bool.false BinOp.eql (X.t (K.i (K.o (K.i (K.o K.z))))) (X.t (K.o (K.i (K.i (K.o K.z)))))) (Option.some (K.i (K.i (K.i (K.o K.z))))) Gd.no []])
  (.cond (X.t (K.i (K.i (K.i (K.o K.z)))))
  (.seq (.region [.mk (mvR (X.t K.z)) (Option.some (K.o (K.o (K.o (K.i K.z))))) Gd.no [],
   .mk (mvR (X.t (K.i K.z))) (Option.some (K.i (K.o (K.o (K.i K.z))))) Gd.no [],
   .mk (appR esz bytes (X.t (K.o (K.o (K.o (K.i K.z))))) (X.t (K.i (K.o (K.o (K.i K.z)))))) (Option.some (K.o (K.i (K.o (K.i K.z))))) Gd.no [],
   .mk (mvR (X.t (K.o (K.i (K.o (K.i K.z)))))) (Option.some (K.i (K.i K.z))) Gd.no []])
  .ret)
  .skip))
  (.seq (.seq (.region [.mk (mvR (X.t (K.i (K.o (K.o K.z))))) (Option.some (K.i (K.i (K.o (K.i K.z))))) Gd.no [],
   .mk (mvR (X.t (K.o (K.o (K.o K.z))))) (Option.some (K.o (K.o (K.i (K.i K.z))))) Gd.no [],
   .mk (binR P EK.no Option.none Bool.false BinOp.add (X.t (K.i (K.i (K.o (K.i K.z))))) (X.t (K.o (K.o (K.i (K.i K.z)))))) (Option.some (K.i (K.o (K.i (K.i K.z))))) Gd.no [],
   .mk (mvR (X.t K.z)) (Option.some (K.o (K.i (K.i (K.i K.z))))) Gd.no [],
   .mk (capR (X.t (K.o (K.i (K.i (K.i K.z)))))) (Option.some (K.i (K.i (K.i (K.i K.z))))) Gd.no [],
   .mk (binR P EK.no Option.none Bool.false BinOp.gtr (X.t (K.i (K.o (K.i (K.i K.z))))) (X.t (K.i (K.i (K.i (K.i K.z)))))) (Option.some (K.o (K.o (K.o (K.o (K.o K.z)))))) Gd.no []])
  (.cond (X.t (K.o (K.o (K.o (K.o (K.o K.z))))))
  (.seq (.region [.mk (mvR (X.t K.z)) (Option.some (K.i (K.o (K.o (K.o (K.o K.z)))))) Gd.no [],
   .mk (mvR (X.t (K.o K.z))) (Option.some (K.o (K.i (K.o (K.o (K.o K.z)))))) Gd.no [],
   .mk (slvR esz (X.t (K.i (K.o (K.o (K.o (K.o K.z)))))) Option.none (Option.some (X.t (K.o (K.i (K.o (K.o (K.o K.z))))))) Option.none) (Option.some (K.i (K.i (K.o (K.o (K.o K.z)))))) Gd.no [],
   .mk (mvR (X.t (K.i (K.o (K.o K.z))))) (Option.some (K.o (K.o (K.i (K.o (K.o K.z)))))) Gd.no [],
   .mk (mvR (X.t (K.o (K.o (K.o K.z))))) (Option.some (K.i (K.o (K.i (K.o (K.o K.z)))))) Gd.no [],
   .mk (binR P EK.no Option.none Bool.false BinOp.add (X.t (K.o (K.o (K.i (K.o (K.o K.z)))))) (X.t (K.i (K.o (K.i (K.o (K.o K.z))))))) (Option.some (K.o (K.i (K.i (K.o (K.o K.z)))))) Gd.no [],
   .mk (mvR (X.t (K.o K.z))) (Option.some (K.i (K.i (K.i (K.o (K.o K.z)))))) Gd.no [],
   .mk (binR P EK.no Option.none Bool.false BinOp.sub (X.t (K.o (K.i (K.i (K.o (K.o K.z)))))) (X.t (K.i (K.i (K.i (K.o (K.o K.z))))))) (Option.some (K.o (K.o (K.o (K.i (K.o K.z)))))) Gd.no [],
   .mk (apzR esz bytes zero (X.t (K.i (K.i (K.o (K.o (K.o K.z)))))) (X.t (K.o (K.o (K.o (K.i (K.o K.z))))))) (Option.some (K.i (K.o (K.o (K.i (K.o K.z)))))) Gd.no [],
   .mk (mvR (X.t (K.i (K.o (K.o (K.i (K.o K.z))))))) (Option.some (K.o (K.i (K.o K.z)))) Gd.no []])
  (.seq (.region [.mk (mvR (X.t (K.o (K.i (K.o K.z))))) (Option.some (K.o (K.i (K.o (K.i (K.o K.z)))))) Gd.no [],
   .mk (mvR (X.t (K.o K.z))) (Option.some (K.i (K.i (K.o (K.i (K.o K.z)))))) Gd.no [],
   .mk (slvR esz (X.t (K.o (K.i (K.o (K.i (K.o K.z)))))) (Option.some (X.t (K.i (K.i (K.o (K.i (K.o K.z))))))) Option.none Option.none) (Option.some (K.o (K.o (K.i (K.i (K.o K.z)))))) Gd.no [],
   .mk (mvR (X.t (K.i K.z))) (Option.some (K.i (K.o (K.i (K.i (K.o K.z)))))) Gd.no [],
   .mk (cpyR esz (X.t (K.o (K.o (K.i (K.i (K.o K.z)))))) (X.t (K.i (K.o (K.i (K.i (K.o K.z))))))) (Option.some (K.o (K.i (K.i (K.i (K.o K.z)))))) Gd.no []])
  (.seq (.regionD [.mk (keepH (mvR (X.t (K.o K.z)))) (Option.some (K.i (K.o (K.i (K.o (K.i K.z)))))) Gd.no [],
   .mk (keepH (mvR (X.t K.z))) (Option.some (K.o (K.o (K.i (K.o (K.i K.z)))))) Gd.no [],
   .mk (keepH (slvR esz (X.t (K.o (K.o (K.i (K.o (K.i K.z)))))) (Option.some (X.t (K.i (K.o (K.i (K.o (K.i K.z))))))) Option.none Option.none)) (Option.some (K.o (K.i (K.i (K.o (K.i K.z)))))) Gd.no [],
   .mk (keepH (mvR (X.t (K.o (K.o (K.o K.z)))))) (Option.some (K.i (K.o (K.o (K.o (K.i K.z)))))) Gd.no [],
   .mk (keepH (mvR (X.t (K.o K.z)))) (Option.some (K.o (K.o (K.o (K.o (K.i K.z)))))) Gd.no [],
   .mk (keepH (binR P EK.no Option.none Bool.false BinOp.add (X.t (K.o (K.o (K.o (K.o (K.i K.z)))))) (X.t (K.i (K.o (K.o (K.o (K.i K.z)))))))) (Option.some (K.o (K.i (K.o (K.o (K.i K.z)))))) Gd.no [],
   .mk (keepH (mvR (X.t (K.o (K.i (K.o K.z)))))) (Option.some (K.i (K.i (K.i (K.i (K.o K.z)))))) Gd.no [],
   .mk (keepH (slvR esz (X.t (K.i (K.i (K.i (K.i (K.o K.z)))))) (Option.some (X.t (K.o (K.i (K.o (K.o (K.i K.z))))))) Option.none Option.none)) (Option.some (K.i (K.i (K.o (K.o (K.i K.z)))))) Gd.no [],
   .mk (cpyR esz (X.t (K.i (K.i (K.o (K.o (K.i K.z)))))) (X.t (K.o (K.i (K.i (K.o (K.i K.z))))))) (Option.some (K.i (K.i (K.i (K.o (K.i K.z)))))) Gd.no []])
  (.seq (.region [.mk (mvR (X.t (K.o (K.i (K.o K.z))))) (Option.some (K.o (K.o (K.o (K.i (K.i K.z)))))) Gd.no [],
   .mk (mvR (X.t (K.o (K.o (K.o (K.i (K.i K.z))))))) (Option.some (K.i (K.i K.z))) Gd.no []])
  .ret))))
  .skip))
  (.seq (.region [.mk (mvR (X.t K.z)) (Option.some (K.i (K.o (K.o (K.i (K.i K.z)))))) Gd.no [],
   .mk (mvR (X.t (K.i (K.o (K.o K.z))))) (Option.some (K.o (K.i (K.o (K.i (K.i K.z)))))) Gd.no [],
   .mk (mvR (X.t (K.o (K.o (K.o K.z))))) (Option.some (K.i (K.i (K.o (K.i (K.i K.z)))))) Gd.no [],
   .mk (binR P EK.no Option.none Bool.false BinOp.add (X.t (K.o (K.i (K.o (K.i (K.i K.z)))))) (X.t (K.i (K.i (K.o (K.i (K.i K.z))))))) (Option.some (K.o (K.o (K.i (K.i (K.i K.z)))))) Gd.no [],
   .mk (slvR esz (X.t (K.i (K.o (K.o (K.i (K.i K.z)))))) Option.none (Option.some (X.t (K.o (K.o (K.i (K.i (K.i K.z))))))) Option.none) (Option.some (K.i (K.o (K.i (K.i (K.i K.z)))))) Gd.no [],
   .mk (mvR (X.t (K.i (K.o (K.i (K.i (K.i K.z))))))) (Option.some K.z) Gd.no []])
  (.seq (.seq (.region [.mk (mvR (X.t (K.i K.z))) (Option.some (K.o (K.i (K.i (K.i (K.i K.z)))))) Gd.no [],
   .mk (mvR (X.t K.z)) (Option.some (K.i (K.i (K.i (K.i (K.i K.z)))))) Gd.no [],
   .mk (mvR (X.t (K.o K.z))) (Option.some (K.o (K.o (K.o (K.o (K.o (K.o K.z))))))) Gd.no [],
   .mk (mvR (X.t (K.o (K.o (K.o K.z))))) (Option.some (K.i (K.o (K.o (K.o (K.o (K.o K.z))))))) Gd.no [],
   .mk (binR P EK.no Option.none Bool.false BinOp.add (X.t (K.o (K.o (K.o (K.o (K.o (K.o K.z))))))) (X.t (K.i (K.o (K.o (K.o (K.o (K.o K.z)))))))) (Option.some (K.o (K.i (K.o (K.o (K.o (K.o K.z))))))) Gd.no [],
   .mk (slvR esz (X.t (K.i (K.i (K.i (K.i (K.i K.z)))))) (Option.some (X.t (K.o (K.i (K.o (K.o (K.o (K.o K.z)))))))) Option.none Option.none) (Option.some (K.i (K.i (K.o (K.o (K.o (K.o K.z))))))) Gd.no [],
   .mk (callS P ov [(X.t (K.o (K.i (K.i (K.i (K.i K.z)))))), (X.t (K.i (K.i (K.o (K.o (K.o (K.o K.z)))))))]) (Option.some (K.o (K.o (K.i (K.o (K.o (K.o K.z))))))) Gd.no [],
   .mk (unR UnOp.not (X.t (K.o (K.o (K.i (K.o (K.o (K.o K.z)))))))) (Option.some (K.i (K.o (K.i (K.o (K.o (K.o K.z))))))) Gd.no []])
  (.cond (X.t (K.i (K.o (K.i (K.o (K.o (K.o K.z)))))))
  (.seq (.regionD [.mk (keepH (mvR (X.t (K.o K.z)))) (Option.some (K.o (K.o (K.i (K.i (K.o (K.o K.z))))))) Gd.no [],
   .mk (keepH (mvR (X.t K.z))) (Option.some (K.i (K.i (K.o (K.i (K.o (K.o K.z))))))) Gd.no [],
   .mk (keepH (slvR esz (X.t (K.i (K.i (K.o (K.i (K.o (K.o K.z))))))) (Option.some (X.t (K.o (K.o (K.i (K.i (K.o (K.o K.z)))))))) Option.none Option.none)) (Option.some (K.i (K.o (K.i (K.i (K.o (K.o K.z))))))) Gd.no [],
   .mk (keepH (mvR (X.t (K.o (K.o (K.o K.z)))))) (Option.some (K.o (K.o (K.o (K.i (K.o (K.o K.z))))))) Gd.no [],
   .mk (keepH (mvR (X.t (K.o K.z)))) (Option.some (K.i (K.i (K.i (K.o (K.o (K.o K.z))))))) Gd.no [],
   .mk (keepH (binR P EK.no Option.none Bool.false BinOp.add (X.t (K.i (K.i (K.i (K.o (K.o (K.o K.z))))))) (X.t (K.o (K.o (K.o (K.i (K.o (K.o K.z))))))))) (Option.some (K.i (K.o (K.o (K.i (K.o (K.o K.z))))))) Gd.no [],
   .mk (keepH (mvR (X.t K.z))) (Option.some (K.o (K.i (K.i (K.o (K.o (K.o K.z))))))) Gd.no [],
   .mk (keepH (slvR esz (X.t (K.o (K.i (K.i (K.o (K.o (K.o K.z))))))) (Option.some (X.t (K.i (K.o (K.o (K.i (K.o (K.o K.z)))))))) Option.none Option.none)) (Option.some (K.o (K.i (K.o (K.i (K.o (K.o K.z))))))) Gd.no [],
   .mk (cpyR esz (X.t (K.o (K.i (K.o (K.i (K.o (K.o K.z))))))) (X.t (K.i (K.o (K.i (K.i (K.o (K.o K.z)))))))) (Option.some (K.o (K.i (K.i (K.i (K.o (K.o K.z))))))) Gd.no []])
  (.seq (.region [.mk (mvR (X.t K.z)) (Option.some (K.i (K.i (K.i (K.i (K.o (K.o K.z))))))) Gd.no [],
   .mk (mvR (X.t (K.o K.z))) (Option.some (K.o (K.o (K.o (K.o (K.i (K.o K.z))))))) Gd.no [],
   .mk (slvR esz (X.t (K.i (K.i (K.i (K.i (K.o (K.o K.z))))))) (Option.some (X.t (K.o (K.o (K.o (K.o (K.i (K.o K.z)))))))) Option.none Option.none) (Option.some (K.i (K.o (K.o (K.o (K.i (K.o K.z))))))) Gd.no [],
   .mk (mvR (X.t (K.i K.z))) (Option.some (K.o (K.i (K.o (K.o (K.i (K.o K.z))))))) Gd.no [],
   .mk (cpyR esz (X.t (K.i (K.o (K.o (K.o (K.i (K.o K.z))))))) (X.t (K.o (K.i (K.o (K.o (K.i (K.o K.z)))))))) (Option.some (K.i (K.i (K.o (K.o (K.i (K.o K.z))))))) Gd.no []])
  (.seq (.region [.mk (mvR (X.t K.z)) (Option.some (K.o (K.o (K.i (K.o (K.i (K.o K.z))))))) Gd.no [],
   .mk (mvR (X.t (K.o (K.o (K.i (K.o (K.i (K.o K.z)))))))) (Option.some (K.i (K.i K.z))) Gd.no []])
  .ret)))
  .skip))
  (.seq (.region [.mk (mvR (X.t K.z)) (Option.some (K.i (K.o (K.i (K.o (K.i (K.o K.z))))))) Gd.no [],
   .mk (mvR (X.t (K.i (K.o (K.o K.z))))) (Option.some (K.o (K.i (K.i (K.o (K.i (K.o K.z))))))) Gd.no [],
   .mk (slvR esz (X.t (K.i (K.o (K.i (K.o (K.i (K.o K.z))))))) (Option.some (X.t (K.o (K.i (K.i (K.o (K.i (K.o K.z)))))))) Option.none Option.none) (Option.some (K.i (K.i (K.i (K.o (K.i (K.o K.z))))))) Gd.no [],
   .mk (mvR (X.t (K.i K.z))) (Option.some (K.o (K.o (K.o (K.i (K.i (K.o K.z))))))) Gd.no [],
   .mk (cpyR esz (X.t (K.i (K.i (K.i (K.o (K.i (K.o K.z))))))) (X.t (K.o (K.o (K.o (K.i (K.i (K.o K.z)))))))) (Option.some (K.i (K.o (K.o (K.i (K.i (K.o K.z))))))) Gd.no []])
  (.seq (.region [.mk (mvR (X.t K.z)) (Option.some (K.o (K.i (K.o (K.i (K.i (K.o K.z))))))) Gd.no [],
   .mk (mvR (X.t (K.o K.z))) (Option.some (K.i (K.i (K.o (K.i (K.i (K.o K.z))))))) Gd.no [],
   .mk (slvR esz (X.t (K.o (K.i (K.o (K.i (K.i (K.o K.z))))))) (Option.some (X.t (K.i (K.i (K.o (K.i (K.i (K.o K.z)))))))) Option.none Option.none) (Option.some (K.o (K.o (K.i (K.i (K.i (K.o K.z))))))) Gd.no [],
   .mk (mvR (X.t (K.o (K.o (K.o K.z))))) (Option.some (K.i (K.o (K.i (K.i (K.i (K.o K.z))))))) Gd.no [],
   .mk (callS P rr [(X.t (K.o (K.o (K.i (K.i (K.i (K.o K.z))))))), (X.t (K.i (K.o (K.i (K.i (K.i (K.o K.z)))))))]) (Option.some (K.o (K.i (K.i (K.i (K.i (K.o K.z))))))) Gd.no []])
  (.seq (.region [.mk (mvR (X.t K.z)) (Option.some (K.i (K.i (K.i (K.i (K.i (K.o K.z))))))) Gd.no [],
   .mk (mvR (X.t (K.i (K.i (K.i (K.i (K.i (K.o K.z)))))))) (Option.some (K.i (K.i K.z))) Gd.no []])
  .ret))))))))))))
structure CloFn (P : Program) (f : FuncId) (esz bytes : Nat) (zero : List AV) : Prop where
 fn : ∃ fn, P.funcs[f]? = some fn ∧ (match fn.body with | some c => comp P fn.ntmps c | none => none) = some (cloCC P esz bytes zero) ∧ resKs P fn.results.toList = some [(RK.tmp (K.i K.z))]
 zl : zero.length = esz
 pos : 1 < esz
structure InsFn (P : Program) (f : FuncId) (esz bytes : Nat) (zero : List AV) : Prop where
 fn : ∃ fn ov rr, P.funcs[f]? = some fn ∧ (match fn.body with | some c => comp P fn.ntmps c | none => none) = some (insCC P esz bytes zero ov rr) ∧ resKs P fn.results.toList = some [(RK.tmp (K.i (K.i K.z)))] ∧ ovlOf P ov = some esz ∧ callOk P ov = false
 zl : zero.length = esz
 pos : 1 < esz
theorem clone_nil {f : FuncId} {esz bytes : Nat} {zero : List AV} (hf : CloFn P f esz bytes zero) : FnOk P f [.nils] H fun v G => v = .nils ∧ G = H := by
 obtain ⟨fn, h1, h2, h3⟩ := hf.fn
 refine FnOk.of_WW h1 rfl h2 h3 E0 good_E0 ?_
 simp only [go_sem, cloCC, Nat.reduceAdd, Nat.reduceSub, Nat.reduceMul, Nat.reduceDiv, Nat.reduceMod, Nat.reduceEqDiff, Nat.reduceLeDiff, Nat.reduceLT, Int.reduceLT, Int.reduceLE, Int.reduceEq, Int.reduceToNat, reduceIte, reduceCtorEq, Heap.ext_nil]
theorem insert_nil {f : FuncId} {esz bytes : Nat} {zero : List AV} (hf : InsFn P f esz bytes zero) {kv : K} {wr : Bool} {x : List AV} (hv : H.get kv = some (.row wr esz [x])) (hb : 194 * bytes ≤ 281474976710656) :
  FnOk P f [.nils, .int .i64 0, .slice kv 0 1 esz true 1] H fun v G => v = .slice H.nx 0 1 esz false 1 ∧ G = H.ext [.row true esz [x]] := by
 obtain ⟨fn, ov, rr, h1, h2, h3, h4, h5⟩ := hf.fn
 refine FnOk.assume fun hok => ?_
 have hg := Heap.get_ext_old hok hv
 refine FnOk.of_WW h1 rfl h2 h3 E0 good_E0 ?_
 simp only [go_sem, insCC, hg, Nat.zero_mod, Nat.zero_div, Nat.reduceAdd, Nat.reduceSub, Nat.reduceMul, Nat.reduceDiv, Nat.reduceMod, Nat.reduceEqDiff, Nat.reduceLeDiff, Nat.reduceLT, Int.reduceLT, Int.reduceLE, Int.reduceEq, Int.reduceToNat, reduceIte, reduceCtorEq, hb, Heap.key_zero]
theorem clone_arr {f : FuncId} {esz bytes : Nat} {zero : List AV} (hf : CloFn P f esz bytes zero) {k : K} {r : Nat} {ex : Bool} {cap n : Nat} {wr : Bool} {rows : List (List AV)} (hg : H.get k = some (.row wr esz rows)) (hn : r + n ≤ rows.length) (h0 : 0 < n)
  (hb : (2 * n + 192) * bytes ≤ 281474976710656) :
  FnOk P f [.slice k (r * esz) n esz ex cap] H fun v G => v = .slice (H.key 1) 0 n esz false n ∧ G = H.ext [.row true esz [], .row true esz ((rows.drop r).take n)] := by
 obtain ⟨fn, h1, h2, h3⟩ := hf.fn
 have hpos := hf.pos
 refine FnOk.assume fun hok => ?_
 have hgo := Heap.get_ext_old hok hg
 have e1 : r * esz % esz = 0 := Nat.mul_mod_left r esz
 have e2 : r * esz / esz = r := Nat.mul_div_cancel r (by omega)
 have e3 : n ≤ (rows.drop r).length := by rw [List.length_drop]; omega
 have e4 : ¬ n = 0 := by omega
 have e5 : ¬ n ≤ 0 := by omega
 refine FnOk.of_WW h1 rfl h2 h3 E0 good_E0 ?_
 simp only [go_sem, cloCC, hgo, e1, e2, e3, e4, e5, hb, List.replicate_zero, Nat.zero_mod, Nat.zero_div, Nat.zero_le, Nat.reduceAdd, Nat.reduceSub, Nat.reduceMul, Nat.reduceDiv, Nat.reduceMod, Nat.reduceEqDiff, Nat.reduceLeDiff, Nat.reduceLT, Int.reduceLT, Int.reduceLE, Int.reduceEq, Int.reduceToNat, reduceIte, reduceCtorEq]
theorem insert_end {f : FuncId} {esz bytes : Nat} {zero : List AV} (hf : InsFn P f esz bytes zero) {kv k : K} {wr : Bool} {x : List AV} {rows : List (List AV)} (hv : H.get kv = some (.row wr esz [x])) (hg : H.get k = some (.row true esz rows)) (h0 : 0 < rows.length) (hn : rows.length < 4294967296)
  (hb : (2 * (rows.length + 1) + 192) * bytes ≤ 281474976710656) :
  FnOk P f [.slice k 0 rows.length esz false rows.length, .int .i64 rows.length, .slice kv 0 1 esz true 1] H fun v G => v = .slice H.nx 0 (rows.length + 1) esz false (rows.length + 1) ∧ G = (H.set k .dead).ext [.row true esz (rows ++ [x])] := by
 obtain ⟨fn, ov, rr, h1, h2, h3, h4, h5⟩ := hf.fn
 have hpos := hf.pos
 refine FnOk.assume fun hok => ?_
 have hgk := Heap.get_ext_old hok hg
 have hgv := Heap.get_ext_old hok hv
 have e1 : rows.length ≤ rows.length := Nat.le_refl _
 have e2 : ¬ rows.length + 1 ≤ rows.length := by omega
 have e3 : ¬ rows.length = 0 := by omega
 refine FnOk.of_WW h1 rfl h2 h3 E0 good_E0 ?_
 have hset : ∀ l b (c : Heap → R1), (H.ext l).setC k b c = c ((H.set k b).ext l) := fun l b c => Heap.setC_old H l k b c (hok k _ hg)
 simp only [go_sem, insCC, hgk, hgv, e1, e2, e3, hb, hset, Heap.key_set, Nat.zero_mod, Nat.zero_div, Nat.zero_le, List.take_length, Nat.reduceAdd, Nat.reduceSub, Nat.reduceMul, Nat.reduceDiv, Nat.reduceMod, Nat.reduceEqDiff, Nat.reduceLeDiff, Nat.reduceLT, Int.reduceLT, Int.reduceLE, Int.reduceEq, Int.reduceToNat, reduceIte, reduceCtorEq, Heap.key_zero, Heap.nx_set']
theorem insert_A {f : FuncId} {esz bytes : Nat} {zero : List AV} (hf : InsFn P f esz bytes zero) {kv k : K} {wr : Bool} {x : List AV} {rows : List (List AV)} {i : Nat} (hv : H.get kv = some (.row wr esz [x])) (hg : H.get k = some (.row true esz rows)) (hi : i < rows.length) (hn : rows.length < 4294967296)
  (hb : (2 * (rows.length + 1) + 192) * bytes ≤ 281474976710656) :
  FnOk P f [.slice k 0 rows.length esz true rows.length, .int .i64 i, .slice kv 0 1 esz true 1] H fun v G => v = .slice (H.key 0) 0 (rows.length + 1) esz false (rows.length + 1) ∧ G = H.ext [.row true esz (rows.take i ++ x :: rows.drop i)] := by
 obtain ⟨fn, ov, rr, h1, h2, h3, h4, h5⟩ := hf.fn
 have hpos := hf.pos
 refine FnOk.assume fun hok => ?_
 have hgk := Heap.get_ext_old hok hg
 have hgv := Heap.get_ext_old hok hv
 have a1 : ¬ (i : Int) = (rows.length : Int) := by omega
 have a2 : IntKind.i64.wrap ((rows.length : Int) + 1) = ((rows.length + 1 : Nat) : Int) := wrap_succ (by omega)
 have a3 : (rows.length : Int) < ((rows.length + 1 : Nat) : Int) := by omega
 have a4 : IntKind.i64.wrap (((rows.length + 1 : Nat) : Int) - (i : Int)) = ((rows.length + 1 - i : Nat) : Int) := by rw [show ((rows.length + 1 : Nat) : Int) - (i : Int) = ((rows.length + 1 - i : Nat) : Int) by omega, wrap_i64 (by omega) (by omega)]
 have a5 : IntKind.i64.wrap ((i : Int) + 1) = ((i + 1 : Nat) : Int) := wrap_succ (by omega)
 have b1 : i ≤ rows.length := by omega
 have b2 : ¬ rows.length + 1 - i = 0 := by omega
 have b3 : i + (rows.length + 1 - i) = rows.length + 1 := by omega
 have b4 : ¬ rows.length + 1 ≤ rows.length := by omega
 have b5 : ¬ rows.length = 0 := by omega
 have b6 : Nat.min 1 (rows.length + 1 - i) = 1 := Nat.min_eq_left (by omega)
 have b7 : i * esz % esz = 0 := Nat.mul_mod_left i esz
 have b8 : i * esz / esz = i := Nat.mul_div_cancel i (by omega)
 have b9 : ¬ rows.length - i = 0 := by omega
 have c1 : (i + 1) * esz % esz = 0 := Nat.mul_mod_left _ esz
 have c2 : (i + 1) * esz / esz = i + 1 := Nat.mul_div_cancel _ (by omega)
 have c3 : i + 1 ≤ rows.length + 1 := by omega
 have c4 : i ≤ rows.length + 1 := by omega
 have c5 : Nat.min (rows.length - i) (rows.length + 1 - (i + 1)) = rows.length - i := Nat.min_eq_left (by omega)
 have c6 : min i rows.length = i := Nat.min_eq_left (by omega)
 have c7 : i + (rows.length + 1 - i) = rows.length + 1 := by omega
 have c8 : i < rows.length + 1 := by omega
 have c9 : rows.length - i ≤ (rows.drop i).length := by rw [List.length_drop]; omega
 have d1 : 1 ≤ rows.length + 1 - i := by omega
 have d2 : (rows.drop i).take (rows.length - i) = rows.drop i := List.take_of_length_le (by rw [List.length_drop]; omega)
 refine FnOk.of_WW h1 rfl h2 h3 E0 good_E0 ?_
 simp only [go_sem, insCC, hgk, hgv, a1, a2, a3, a4, a5, b1, b2, b3, b4, b5, b6, b7, b8, b9, c1, c2, c3, c4, c5, c6, c7, c8, c9, d1, d2, Nat.le_refl, hb, Heap.key_set, Nat.zero_mod, Nat.zero_div, Nat.zero_le, List.take_length, Nat.sub_zero, List.length_take, List.length_drop, List.length_replicate, Nat.zero_mul, Nat.min_self, Nat.reduceAdd, Nat.reduceSub, Nat.reduceMul, Nat.reduceDiv, Nat.reduceMod, Nat.reduceEqDiff, Nat.reduceLeDiff, Nat.reduceLT, Int.reduceLT, Int.reduceLE, Int.reduceEq, Int.reduceToNat, reduceIte, reduceCtorEq]
 refine ⟨by omega, by omega, ?_⟩
 congr 3
 have f0 : (rows.take i ++ List.replicate (rows.length + 1 - i) zero).take i = rows.take i := by
  rw [List.take_append_of_le_length (by rw [List.length_take]; omega), List.take_take, Nat.min_self]
 have hZl : (List.take i rows ++ List.replicate (rows.length + 1 - i) zero).length = rows.length + 1 := by rw [List.length_append, List.length_take, List.length_replicate]; omega
 rw [f0]
 have f1 : (rows.take i ++ [x]).length = i + 1 := by rw [List.length_append, List.length_take, List.length_cons, List.length_nil]; omega
 generalize List.take i rows ++ List.replicate (rows.length + 1 - i) zero = Z at *
 have f2 : (rows.take i ++ [x] ++ Z.drop (i + 1)).take (i + 1) = rows.take i ++ [x] := by
  rw [List.take_append_of_le_length (by omega), List.take_of_length_le (by omega)]
 rw [f2]
 have hZ : Z.length = rows.length + 1 := hZl
 rw [List.drop_of_length_le (l := rows.take i ++ [x] ++ Z.drop (i + 1)) (by rw [List.length_append, f1, List.length_drop, hZ]; omega)]
 simp only [List.append_assoc, List.append_nil, List.cons_append, List.nil_append]
theorem insert_B {f : FuncId} {esz bytes : Nat} {zero : List AV} (hf : InsFn P f esz bytes zero) {kv k : K} {x y : List AV} {rows : List (List AV)} {i : Nat} (hkk : kv ≠ k) (hv : H.get kv = some (.row true esz [x])) (hg : H.get k = some (.row true esz (rows ++ [y]))) (hi : i < rows.length) (hn : rows.length < 4294967296) :
  FnOk P f [.slice k 0 rows.length esz false (rows.length + 1), .int .i64 i, .slice kv 0 1 esz true 1] H fun v G => v = .slice k 0 (rows.length + 1) esz false (rows.length + 1) ∧ G = H.set k (.row true esz (rows.take i ++ x :: rows.drop i)) := by
 obtain ⟨fn, ov, rr, h1, h2, h3, h4, h5⟩ := hf.fn
 have hpos := hf.pos
 refine FnOk.assume fun hok => ?_
 have hgk := Heap.get_ext_old hok hg
 have hgv := Heap.get_ext_old hok hv
 have hset : ∀ l b (c : Heap → R1), (H.ext l).setC k b c = c ((H.set k b).ext l) := fun l b c => Heap.setC_old H l k b c (hok k _ hg)
 have hok2 : ∀ b, (H.set k b).ok := fun b j c hj => by
  rw [Heap.nx_set]
  rw [Heap.get_set] at hj
  split at hj
  ·rename_i e; subst e; exact hok _ _ hg
  ·exact hok _ _ hj
 have hset2 : ∀ l b d (c : Heap → R1), ((H.set k d).ext l).setC k b c = c ((H.set k b).ext l) := fun l b d c => by
  rw [Heap.setC_old _ l k b c (by rw [Heap.nx_set]; exact hok k _ hg), Heap.set_set]
 have hgk2 : ∀ l b, ((H.set k b).ext l).get k = some b := fun l b => Heap.get_ext_old (hok2 b) (by rw [Heap.get_set, if_pos rfl]) l
 have hgv2 : ∀ l b, ((H.set k b).ext l).get kv = some (.row true esz [x]) := fun l b => Heap.get_ext_old (hok2 b) (by rw [Heap.get_set, if_neg (Ne.symm hkk)]; exact hv) l
 have hbk : K.beq kv k = false := by
  cases h : K.beq kv k
  ·rfl
  ·exact absurd ((K.beq_iff _ _).1 h) hkk
 have a1 : ¬ (i : Int) = (rows.length : Int) := by omega
 have a2 : IntKind.i64.wrap ((rows.length : Int) + 1) = ((rows.length + 1 : Nat) : Int) := wrap_succ (by omega)
 have a5 : IntKind.i64.wrap ((i : Int) + 1) = ((i + 1 : Nat) : Int) := wrap_succ (by omega)
 have b1 : i ≤ rows.length := by omega
 have b5 : ¬ rows.length = 0 := by omega
 have b6 : Nat.min 1 (rows.length + 1 - i) = 1 := Nat.min_eq_left (by omega)
 have b7 : i * esz % esz = 0 := Nat.mul_mod_left i esz
 have b8 : i * esz / esz = i := Nat.mul_div_cancel i (by omega)
 have c1 : (i + 1) * esz % esz = 0 := Nat.mul_mod_left _ esz
 have c2 : (i + 1) * esz / esz = i + 1 := Nat.mul_div_cancel _ (by omega)
 have c3 : i + 1 ≤ rows.length + 1 := by omega
 have c4 : i ≤ rows.length + 1 := by omega
 have c5 : Nat.min (rows.length + 1 - i) (rows.length + 1 - (i + 1)) = rows.length + 1 - (i + 1) := Nat.min_eq_right (by omega)
 have c8 : i < rows.length + 1 := by omega
 have d1 : 1 ≤ rows.length + 1 - i := by omega
 have d3 : ¬ rows.length + 1 - (i + 1) = 0 := by omega
 have d4 : rows.length ≤ rows.length + 1 := by omega
 have d5 : esz ≠ 1 := by omega
 have d6 : esz ≠ 0 := by omega
 refine FnOk.of_WW h1 rfl h2 h3 E0 good_E0 ?_
 simp only [go_sem, insCC, hgk, hgv, hgk2, hgv2, hset, hset2, h4, h5, callC, ovlC, hbk, a1, a2, a5, b1, b5, b6, b7, b8, c1, c2, c3, c4, c5, c8, d1, d3, d4, d5, d6, Nat.le_refl, Heap.key_set, Nat.zero_mod, Nat.zero_div, Nat.zero_le, List.take_length, Nat.sub_zero, List.length_take, List.length_drop, List.length_replicate, Nat.zero_mul, Nat.min_self, Int.lt_irrefl, Nat.reduceAdd, Nat.reduceSub, Nat.reduceMul, Nat.reduceDiv, Nat.reduceMod, Nat.reduceEqDiff, Nat.reduceLeDiff, Nat.reduceLT, Int.reduceLT, Int.reduceLE, Int.reduceEq, Int.reduceToNat, reduceIte, reduceCtorEq]
 refine ⟨Int.le_refl _, by omega, by omega, by omega, by omega, ?_⟩
 rw [Heap.ext_nil]
 congr 2
 have e1 : min (rows.length + 1 - (i + 1)) (rows.length + 1 - i) = rows.length - i := by omega
 have e2 : rows.length + 1 - (i + 1) = rows.length - i := by omega
 rw [e1, e2, List.drop_of_length_le (l := rows ++ [y]) (i := i + 1 + (rows.length - i)) (by simp; omega), List.append_nil]
 have e3 : (List.take (i + 1) (rows ++ [y])).length = i + 1 := by rw [List.length_take, List.length_append, List.length_cons, List.length_nil]; omega
 have e4 : (List.take (i + 1) (rows ++ [y]) ++ List.take (rows.length - i) (List.drop i (rows ++ [y]))).take i = rows.take i := by
  rw [List.take_append_of_le_length (by omega), List.take_take, show min i (i + 1) = i by omega, List.take_append_of_le_length (by omega)]
 have e5 : (List.take (i + 1) (rows ++ [y]) ++ List.take (rows.length - i) (List.drop i (rows ++ [y]))).drop (i + 1) = rows.drop i := by
  rw [List.drop_append, e3, Nat.sub_self, List.drop_zero, List.drop_of_length_le (by omega), List.nil_append, List.drop_append_of_le_length (by omega), List.take_append_of_le_length (by rw [List.length_drop]; omega), List.take_of_length_le (by rw [List.length_drop]; omega)]
 rw [e4, e5]
 simp only [List.append_assoc, List.cons_append, List.nil_append]
end Go.Ev
namespace Go.Ev
variable {P : Program} {φ ψ : Phi} {H : Heap} {w u : World}
theorem vrels_anys : ∀ (l : List Value), (∀ v ∈ l, v.oneCell' = true) → VRels P φ (List.replicate l.length .any) l
 | [], _ => .nil
 | v :: l, h => .cons _ _ _ _ (.any v (h v (by simp))) (vrels_anys l fun x hx => h x (by simp [hx]))
theorem view_more (hw : WRel P φ H w) {k : K} {esz : Nat} {rows : List (List AV)} {a : At} (hg : H.get k = some (.row true esz rows)) (hk : φ k = some a) (hr : a.o + (rows.length + 1) * esz ≤ a.n) :
  WRel P φ (H.set k (.row true esz (rows ++ [List.replicate esz .any]))) w := by
 obtain ⟨hp, hl, pre, vs, post, e, lo, hi, h1, h2, h3, h4, h5, h6, h7⟩ := hw.blk k _ a hg hk
 have hlen := flatten_length_of esz rows hl
 have hvl := h5.length
 have hpost : esz ≤ post.length := by
  simp only [List.length_append] at h3
  rw [Nat.add_mul] at hr
  omega
 have hnew : BlkRel P φ w a (.row true esz (rows ++ [List.replicate esz .any])) := by
  refine ⟨hp, fun r hr => ?_, pre, vs ++ post.take esz, post.drop esz, e, lo, hi, ?_, h2, ?_, h4, ?_, ?_, fun _ v hv => h7 rfl v (List.mem_of_mem_drop hv)⟩
  ·rcases List.mem_append.1 hr with h | h
   ·exact hl r h
   ·simp only [List.mem_singleton] at h; rw [h, List.length_replicate]
  ·rw [h1, show pre ++ (vs ++ post.take esz) ++ post.drop esz = pre ++ vs ++ post by simp only [List.append_assoc, List.take_append_drop]]
  ·rw [← h3, show pre ++ (vs ++ post.take esz) ++ post.drop esz = pre ++ vs ++ post by simp only [List.append_assoc, List.take_append_drop]]
  ·rw [List.flatten_append]
   refine h5.append ?_
   have := vrels_anys (P := P) (φ := φ) (post.take esz) fun v hv => h7 rfl v (List.mem_of_mem_take hv)
   rw [List.length_take, Nat.min_eq_left hpost] at this
   simpa using this
  ·intro v hv
   rcases List.mem_append.1 hv with h | h
   ·exact h6 v h
   ·exact h7 rfl v (List.mem_of_mem_take h)
 refine ⟨⟨hw.dom, ?_, ?_, ?_, hw.size⟩, fun g v hm => ⟨(hw.rom g v hm).1, fun ⟨j, c, y, hj, hc, hy, e⟩ => (hw.rom g v hm).2 ?_⟩⟩
 rotate_right
 ·rw [Heap.get_set] at hj
  split at hj
  ·rename_i e2; subst e2; cases hj; exact ⟨_, _, y, hg, rfl, hy, e⟩
  ·exact ⟨j, c, y, hj, hc, hy, e⟩
 ·intro j b hj
  rw [Heap.get_set] at hj
  split at hj
  ·rename_i e; subst e; exact hw.top k _ hg
  ·exact hw.top j b hj
 ·intro j b x hj hx
  rw [Heap.get_set] at hj
  split at hj
  ·rename_i e; subst e; cases hj; rw [hk] at hx; cases hx; exact hnew
  ·exact hw.blk j b x hj hx
 ·intro i j c d x y hij hi hj hx hy hc hd hxy
  have key : ∀ j c, (H.set k (.row true esz (rows ++ [List.replicate esz .any]))).get j = some c → c.live → ∃ c', H.get j = some c' ∧ c'.live ∧ (c.mayWrite → c'.mayWrite) := by
   intro j c hj hc
   rw [Heap.get_set] at hj
   split at hj
   ·rename_i e; subst e; cases hj; exact ⟨_, hg, trivial, fun _ => rfl⟩
   ·exact ⟨c, hj, hc, fun h => h⟩
  obtain ⟨c', g1, l1, m1⟩ := key i c hi hc
  obtain ⟨d', g2, l2, m2⟩ := key j d hj hd
  exact fun h => hw.inj i j c' d' x y hij g1 g2 hx hy l1 l2 hxy (m1 h)
theorem ext_view {H' : Heap} {G : Heap} (hnx : H'.nx = H.nx) (hget : ∀ j, φ j = none → j.toNat < H.nx.toNat → H'.get j = H.get j) (hown : ∀ b, Owned φ H' b → Owned φ H b) (he : Ext φ H' w ψ G u) : Ext φ H w ψ G u :=
 ⟨fun k hk => he.phi k (by rw [hnx]; exact hk), by rw [← hnx]; exact he.nx, he.size, fun b hb ho => he.keeps b hb fun h => ho (hown b h), fun k hk hn => by rw [he.hidden k (by rw [hnx]; exact hk) hn, hget k hn hk], fun b hb h => hown b (he.own b hb h), he.os, he.tape, he.output⟩
theorem insert_mid {f : FuncId} {esz bytes : Nat} {zero : List AV} (hf : InsFn P f esz bytes zero) {kv k : K} {x : List AV} {rows : List (List AV)} {i : Nat} (hkk : kv ≠ k) (hv : H.get kv = some (.row true esz [x])) (hg : H.get k = some (.row true esz rows)) (hi : i < rows.length) (hn : rows.length < 4294967296)
  (hb : (2 * (rows.length + 1) + 192) * bytes ≤ 281474976710656) :
  FnOk P f [.slice k 0 rows.length esz false rows.length, .int .i64 i, .slice kv 0 1 esz true 1] H fun v G => v = .slice H.nx 0 (rows.length + 1) esz false (rows.length + 1) ∧ G = (H.set k .dead).ext [.row true esz (rows.take i ++ x :: rows.drop i)] := by
 intro φ w args' ha hw
 have hpos := hf.pos
 rcases hal : args'.toList with _ | ⟨s', rest⟩
 ·rw [hal] at ha; cases ha
 rw [hal] at ha
 cases ha with
 | cons _ _ _ _ hs hrest =>
 have hle : ∀ s, VRel P φ s s' → VRels P φ (s :: [.int .i64 i, .slice kv 0 1 esz true 1]) args'.toList := fun s h => by rw [hal]; exact .cons _ _ _ _ h hrest
 generalize hnn : rows.length = n at hs
 cases hs with
 | sliceE => omega
 | slice _ _ _ _ _ _ a c hk hx hc hl hcap =>
 subst hnn
 have hkold := hw.top k _ hg
 by_cases hcn : c = rows.length
 ·subst hcn
  have h1 := hle _ (VRel.slice (P := P) (φ := φ) k 0 rows.length esz true rows.length a rows.length hk (fun _ => rfl) (Nat.le_refl _) (Nat.le_refl _) hcap)
  refine (insert_A hf hv hg hi hn hb φ w args' h1 hw).mono ?_
  rintro e u ⟨v, G, ⟨rfl, rfl⟩, ψ, v', he, hvr, hwu, hext⟩
  have hdead := dead_sound hwu k (by rw [Heap.nx_ext, Heap.toNat_key]; omega) (by rw [hext.phi k hkold, hk]; simp)
  rw [Heap.set_ext_old _ _ _ _ hkold] at hdead
  exact ⟨_, _, ⟨by rw [Heap.key_zero], rfl⟩, ψ, v', he, hvr, hdead.1, hext.trans hdead.2⟩
 ·have hroom : a.o + (rows.length + 1) * esz ≤ a.n := by
   have : (rows.length + 1) * esz ≤ c * esz := Nat.mul_le_mul_right _ (by omega)
   omega
  have hw' := view_more hw hg hk hroom
  have h1 := hle _ (VRel.slice (P := P) (φ := φ) k 0 rows.length esz false (rows.length + 1) a c hk (fun h => by cases h) (by omega) (by omega) hcap)
  have hg' : (H.set k (.row true esz (rows ++ [List.replicate esz .any]))).get k = some (.row true esz (rows ++ [List.replicate esz .any])) := by rw [Heap.get_set, if_pos rfl]
  have hv' : (H.set k (.row true esz (rows ++ [List.replicate esz .any]))).get kv = some (.row true esz [x]) := by rw [Heap.get_set, if_neg (Ne.symm hkk)]; exact hv
  refine (insert_B hf hkk hv' hg' hi hn φ w args' h1 hw').mono ?_
  rintro e u ⟨v, G, ⟨rfl, rfl⟩, ψ, v', he, hvr, hwu, hext⟩
  rw [Heap.set_set] at hwu hext
  have hψ : ψ k = some a := by rw [hext.phi k (by rw [Heap.nx_set]; exact hkold), hk]
  have hgk : (H.set k (.row true esz (rows.take i ++ x :: rows.drop i))).get k = some (.row true esz (rows.take i ++ x :: rows.drop i)) := by rw [Heap.get_set, if_pos rfl]
  have hsh := shift_sound (P := P) hwu (b' := .row true esz (rows.take i ++ x :: rows.drop i)) (x' := a) hgk hψ rfl rfl rfl (fun _ _ => rfl) rfl rfl rfl (BlkRel.mono (Phi.put_le ψ _ a hwu.nx_none) (hwu.blk k _ a hgk hψ))
  rw [Heap.set_set, Heap.nx_set] at hsh
  have hext2 : Ext φ H w (ψ.put H.nx a) ((H.set k .dead).add (.row true esz (rows.take i ++ x :: rows.drop i))) u := by
   refine ext_view (H' := H.set k (.row true esz (rows ++ [List.replicate esz .any]))) rfl ?_ ?_ (hext.trans hsh.2)
   ·intro j hj _
    rw [Heap.get_set, if_neg]
    intro e; subst e; rw [hk] at hj; cases hj
   ·rintro b ⟨j, c', y, hj, hm, hy, e⟩
    rw [Heap.get_set] at hj
    split at hj
    ·rename_i e1; subst e1; exact ⟨_, _, y, hg, rfl, hy, e⟩
    ·exact ⟨j, c', y, hj, hm, hy, e⟩
  refine ⟨_, _, ⟨rfl, by rw [Heap.ext_one]⟩, ψ.put H.nx a, v', he, ?_, hsh.1, hext2⟩
  cases hvr with
  | slice _ _ _ _ _ _ a2 c2 hk2 hx2 hc2 hl2 hn2 =>
   rw [hψ] at hk2; cases hk2
   exact .slice H.nx 0 _ esz false _ a c2 (Phi.put_same _ _ _) (fun h => by cases h) hc2 hl2 hn2
theorem insert_own {f : FuncId} {esz bytes : Nat} {zero : List AV} (hf : InsFn P f esz bytes zero) {kv k : K} {x : List AV} {rows : List (List AV)} {i : Nat} (hkk : kv ≠ k) (hv : H.get kv = some (.row true esz [x])) (hg : H.get k = some (.row true esz rows)) (h0 : 0 < rows.length) (hi : i ≤ rows.length) (hn : rows.length < 4294967296)
  (hb : (2 * (rows.length + 1) + 192) * bytes ≤ 281474976710656) :
  FnOk P f [.slice k 0 rows.length esz false rows.length, .int .i64 i, .slice kv 0 1 esz true 1] H fun v G => v = .slice H.nx 0 (rows.length + 1) esz false (rows.length + 1) ∧ G = (H.set k .dead).ext [.row true esz (rows.take i ++ x :: rows.drop i)] := by
 rcases Nat.lt_or_ge i rows.length with h | h
 ·exact insert_mid hf hkk hv hg h hn hb
 ·have : i = rows.length := by omega
  subst this
  refine (insert_end hf hv hg h0 hn hb).mono ?_
  rintro v G ⟨rfl, rfl⟩
  exact ⟨rfl, by simp⟩
end Go.Ev
namespace Go.Ev
variable {P : Program} {H : Heap}
theorem callC_ok {f : FuncId} (h : callOk P f = true) (args : List AV) (H : Heap) : callC P f args H = .call f args := by unfold callC; rw [h, bif_true]
section
variable {E : FuncId → List AV → Heap → RC} {N : Nat} {H0 : Heap} {k : List It} {Q : Ex → Tr AV → Heap → Prop} {T : Tr AV}
theorem CL.bool {f : FuncId} {args : List AV} {d : Option K} {p : Prop} [Decidable p] (h : FnOk P f args H fun v G => v = .bool (decide p) ∧ G = H) (ht : p → WW P E N H0 k (putD T d (.bool true)) H Q) (hf : ¬p → WW P E N H0 k (putD T d (.bool false)) H Q) : CL P E N H0 f args d k T H Q := by
 refine CL.of h ?_
 rintro v G ⟨rfl, rfl⟩
 by_cases hp : p
 ·rw [decide_eq_true hp]; exact ht hp
 ·rw [decide_eq_false hp]; exact hf hp
theorem CL.one {f : FuncId} {args : List AV} {d : Option K} {v : AV} {G : Heap} (h : FnOk P f args H fun v' G' => v' = v ∧ G' = G) (hk : WW P E N H0 k (putD T d v) G Q) : CL P E N H0 f args d k T H Q := by
 refine CL.of h ?_
 rintro _ _ ⟨rfl, rfl⟩
 exact hk
end
section
variable {E : FuncId → List AV → Heap → RC} {N : Nat} {H0 : Heap} {k : List It} {Q : Ex → Tr AV → Heap → Prop} {T : Tr AV}
@[go_sem] theorem postW_ret' : postW P E N H0 k Q .ret T H = Q .ret T H := postW_ret k
@[go_sem] theorem postW_exit (n : Nat) : postW P E N H0 k Q (.exit n) T H = WX P E N H0 n k T H Q := nrf rfl
@[go_sem] theorem postW_norm : postW P E N H0 k Q .norm T H = WW P E N H0 k T H Q := nrf rfl
def NextR (H0 : Heap) {S : Type} (μ : S → Nat) (good : S → Prop) (ts : S → List (K × AV)) (bl : S → List Blk) (s : S) (T : Tr AV) (G : Heap) : Prop :=
 ∃ s', μ s' < μ s ∧ good s' ∧ ∃ l σ, G = H0.ext l ∧ Wk H0 T l (ts s') (bl s') σ
theorem LL.st {x : CC} (hE : Good P E) {S : Type} (μ : S → Nat) (good : S → Prop) (ts : S → List (K × AV)) (bl : S → List Blk)
  (h : ∀ s, good s → WW P E N H0 [.code x] (trOf (ts s)) (H0.ext (bl s)) (behind (NextR H0 μ good ts bl s) (postW P E N H0 k Q))) {l : List Blk} (s0 : S) {σ : List Nat} (hw : Wk H0 T l (ts s0) (bl s0) σ) (h0 : good s0) : LL P E N H0 x k T (H0.ext l) Q := by
 refine LL.wk hw ?_
 refine LL.ofR hE (fun m T G => ∃ s, m = μ s ∧ good s ∧ T = trOf (ts s) ∧ G = H0.ext (bl s)) ?_ (m := μ s0) ⟨s0, rfl, h0, rfl, rfl⟩
 rintro m T G ⟨s, rfl, hs, rfl, rfl⟩
 have := h s hs
 refine (?_ : ∀ (R R' : Ex → Tr AV → Heap → Prop), (∀ e T H, R e T H → R' e T H) → WW P E N H0 [.code x] (trOf (ts s)) (H0.ext (bl s)) R → WW P E N H0 [.code x] (trOf (ts s)) (H0.ext (bl s)) R') _ _ ?_ this
 ·intro R R' hr h
  exact wpc_mono x _ _ _ _ hr h
 ·intro e T G q
  cases e with
  | norm =>
   obtain ⟨s', hm, hg, l, σ, hG, hk⟩ := q
   exact ⟨l, ts s', bl s', σ, hG, hk, μ s', hm, s', rfl, hg, rfl, rfl⟩
  | exit n => exact q
  | ret => exact q
end
theorem Wk.mk' {H : Heap} {T : Tr AV} {l : List Blk} {ts : List (K × AV)} {l2 : List Blk} {σ : List Nat} (h1 : l2.length = σ.length) (h2 : σ.Nodup) (h3 : ∀ p ∈ ts, T.get p.1 = some (p.2.ren (rho H l.length σ))) (h4 : ∀ p ∈ l2.zip σ, p.1.live → l[p.2]? = some (p.1.ren (rho H l.length σ))) : Wk H T l ts l2 σ := ⟨h1, h3, h4, h2⟩
section
variable {E : FuncId → List AV → Heap → RC} {N : Nat} {H0 : Heap} {k : List It} {Q : Ex → Tr AV → Heap → Prop}
noncomputable def RCW (P : Program) (E : FuncId → List AV → Heap → RC) (N : Nat) (H0 : Heap) (r : RC) (d : Option K) (re : List Rk) (k : List It) (T : Tr AV) (Q : Ex → Tr AV → Heap → Prop) : Prop := match r with
 | .fail => False
 | .ok v G => AW P E N H0 re k (putD T d v) G Q
@[go_sem] theorem RD_call (d re T) (f a) : RD P E N H0 (.call f a) d re k T H Q = RCW P E N H0 (E f a H) d re k T Q := nrf rfl
@[go_sem] theorem RCW_ok (d re T v) (G : Heap) : RCW P E N H0 (.ok v G) d re k T Q = AW P E N H0 re k (putD T d v) G Q := nrf rfl
@[go_sem high] theorem RCW_dec (d re T) (G : Heap) (p : Prop) [Decidable p] : RCW P E N H0 (.ok (.bool (decide p)) G) d re k T Q = ((p → AW P E N H0 re k (putD T d (.bool true)) G Q) ∧ (¬p → AW P E N H0 re k (putD T d (.bool false)) G Q)) := by
 rw [RCW_ok]
 by_cases h : p
 ·simp [h]
 ·simp [h]
end
section
variable {β : Type} (ek : EK) (lit : Bool) (f : β) (c : Bool → β) (a b : List AV)
@[congr] theorem eqCs_congr {x x' y y' : List AV} {ks : List LK} {f : β} {c : Bool → β} (h : x = x') (h2 : y = y') : eqCs x y ks f c = eqCs x' y' ks f c := by rw [h, h2]
@[congr] theorem eq1C_congr {k : LK} {x x' y y' : AV} {f : β} {c : Bool → β} (h : x = x') (h2 : y = y') : eq1C k x y f c = eq1C k x' y' f c := by rw [h, h2]
@[go_sem] theorem eqCs_nil' : eqCs [] [] [] f c = c true := nrf rfl
@[go_sem] theorem eqCs_cons' (v u : AV) (x y : List AV) (k : LK) (ks : List LK) : eqCs (v :: x) (u :: y) (k :: ks) f c = eq1C k v u f fun z => bif' z (eqCs x y ks f c) (c false) := nrf rfl
@[go_sem] theorem eq1C_bool (a b : Bool) : eq1C .bool (.bool a) (.bool b) f c = c (decide (a = b)) := by
 show fB (bif' a b (Bool.not b)) c = _; rw [fB_eq]; congr 1; cases a <;> cases b <;> rfl
@[go_sem] theorem eq1C_int (k : IntKind) (a b : Int) : eq1C .int (.int k a) (.int k b) f c = c (decide (a = b)) := by
 show bif' (Nat.beq (kn k) (kn k)) (eqI a b c) f = _; rw [Nat.beq_refl, bif_true, eqI_eq]
@[go_sem] theorem eq1C_str (a b : List Nat) : eq1C .str (.str a) (.str b) f c = c (decide (a = b)) := by
 show fB (eqL a b) c = _; rw [fB_eq, eqL_eq]
@[go_sem] theorem bin_agg_eq (ks : List LK) (g : AV → β) : binV P ek (some ks) lit .eql (.agg a) (.agg b) f g = bif' (Bool.and (Nat.beq a.length ks.length) (Nat.beq b.length ks.length)) (eqCs a b ks f fun z => g (.bool z)) f := by
 show bif' _ (eqCs a b ks f fun z => fB (bif' false (Bool.not z) z) fun z => g (.bool z)) f = _
 congr 1; congr 1; funext z; rw [fB_eq]; rfl
@[go_sem] theorem bin_agg_ne (ks : List LK) (g : AV → β) : binV P ek (some ks) lit .neq (.agg a) (.agg b) f g = bif' (Bool.and (Nat.beq a.length ks.length) (Nat.beq b.length ks.length)) (eqCs a b ks f fun z => g (.bool (Bool.not z))) f := by
 show bif' _ (eqCs a b ks f fun z => fB (bif' true (Bool.not z) z) fun z => g (.bool z)) f = _
 congr 1; congr 1; funext z; rw [fB_eq]; rfl
end
theorem ltS_nil (x : Nat) (l : List Nat) : ltS [] (x :: l) := rfl
theorem not_ltS_nil (l : List Nat) : ¬ ltS l [] := by cases l <;> (intro h; cases h)
theorem ltS_cons (x y : Nat) (a b : List Nat) : ltS (x :: a) (y :: b) ↔ x < y ∨ (x = y ∧ ltS a b) := by
 show bif' (Nat.beq x y) (ltL a b) (Nat.ble (x + 1) y) = true ↔ _
 rw [natBeq, natBle, bif_dec]
 by_cases h : x = y
 ·rw [if_pos h]; subst h; simp [ltS]
 ·rw [if_neg h]; simp [h]; omega
theorem ltS_irrefl : ∀ a : List Nat, ¬ ltS a a
 | [] => not_ltS_nil []
 | x :: a => by rw [ltS_cons]; intro h; rcases h with h | ⟨_, h⟩; exact Nat.lt_irrefl _ h; exact ltS_irrefl a h
theorem ltS_trans : ∀ {a b c : List Nat}, ltS a b → ltS b c → ltS a c
 | _, [], _, h, _ => absurd h (not_ltS_nil _)
 | _, _ :: _, [], _, h => absurd h (not_ltS_nil _)
 | [], _ :: _, z :: c, _, _ => ltS_nil z c
 | x :: a, y :: b, z :: c, h, g => by
  rw [ltS_cons] at h g ⊢
  rcases h with h | ⟨rfl, h⟩
  ·rcases g with g | ⟨rfl, _⟩
   ·exact .inl (by omega)
   ·exact .inl h
  ·rcases g with g | ⟨rfl, g⟩
   ·exact .inl g
   ·exact .inr ⟨rfl, ltS_trans h g⟩
theorem ltS_tri : ∀ a b : List Nat, ltS a b ∨ a = b ∨ ltS b a
 | [], [] => .inr (.inl rfl)
 | [], y :: b => .inl (ltS_nil y b)
 | x :: a, [] => .inr (.inr (ltS_nil x a))
 | x :: a, y :: b => by
  rw [ltS_cons, ltS_cons]
  rcases Nat.lt_trichotomy x y with h | rfl | h
  ·exact .inl (.inl h)
  ·rcases ltS_tri a b with h | rfl | h
   ·exact .inl (.inr ⟨rfl, h⟩)
   ·exact .inr (.inl rfl)
   ·exact .inr (.inr (.inr ⟨rfl, h⟩))
  ·exact .inr (.inr (.inl h))
theorem ltS_asymm {a b : List Nat} (h : ltS a b) : ¬ ltS b a := fun g => ltS_irrefl a (ltS_trans h g)
theorem not_leS {a b : List Nat} : ¬ (ltS a b ∨ a = b) ↔ ltS b a :=
 ⟨fun h => by rcases ltS_tri a b with g | g | g; exact absurd (.inl g) h; exact absurd (.inr g) h; exact g, fun h g => by rcases g with g | rfl; exact ltS_asymm h g; exact ltS_irrefl a h⟩
theorem FnOk.drop {f : FuncId} {args : List AV} {R : AV → Prop} (h : FnOk P f args H fun v G => R v ∧ ∃ l, G = H.ext l) (hr : ∀ v, R v → ∀ ρ, v.ren ρ = v) : FnOk P f args H fun v G => R v ∧ G = H := by
 refine h.wk ?_
 rintro v G ⟨hv, l, rfl⟩
 exact ⟨l, [], [], v, rfl, (hr v hv _).symm, rfl, List.nodup_nil, by simp, hv, Heap.ext_nil H⟩
theorem FnOk.drop1 {f : FuncId} {args : List AV} {n esz : Nat} {ex : Bool} {cap : Nat} {b : Blk} (h : FnOk P f args H fun v G => ∃ l i, v = .slice (H.key i) 0 n esz ex cap ∧ G = H.ext l ∧ l[i]? = some b) (hb : ∀ ρ, b.ren ρ = b) :
  FnOk P f args H fun v G => v = .slice H.nx 0 n esz ex cap ∧ G = H.ext [b] := by
 refine h.wk ?_
 rintro v G ⟨l, i, rfl, rfl, hi⟩
 refine ⟨l, [b], [i], .slice H.nx 0 n esz ex cap, rfl, ?_, rfl, by simp, ?_, rfl, rfl⟩
 ·rw [AV.ren, ← Heap.key_zero, rho_key rfl]
 ·simp only [List.zip_cons_cons, List.zip_nil_left, List.mem_singleton, forall_eq]
  intro _
  rw [hb]; exact hi
theorem FnOk.loose {f : FuncId} {args : List AV} {k : K} {o n e m : Nat} {ex : Bool} {G : Heap} (h : FnOk P f args H fun v G' => v = .slice k o n e ex m ∧ G' = G) : FnOk P f args H fun v G' => v = .slice k o n e false m ∧ G' = G := by
 intro φ w args' ha hw
 refine (h φ w args' ha hw).mono ?_
 rintro e' u ⟨v, G', ⟨rfl, rfl⟩, ψ, v', he, hv, hwu, hext⟩
 refine ⟨_, _, ⟨rfl, rfl⟩, ψ, v', he, ?_, hwu, hext⟩
 cases hv with
 | slice _ _ _ _ _ _ a c hk hx hc hl hn => exact .slice k o n e false m a c hk (fun h => by cases h) hc hl hn
 | sliceE _ _ _ _ a x hk => exact .sliceE k o e false a x hk
def Fr (H : Heap) (esz : Nat) (xs : List (List AV)) (v : AV) (G : Heap) : Prop :=
 (v = .nils ∧ xs = [] ∧ G = H) ∨ (v = .slice H.nx 0 xs.length esz false xs.length ∧ G = H.ext [.row true esz xs])
theorem clone_any {f : FuncId} {esz bytes : Nat} {zero : List AV} (hf : CloFn P f esz bytes zero) {v : AV} {xs : List (List AV)} (hA : Arr H esz v xs) (hb : (2 * xs.length + 192) * bytes ≤ 281474976710656) (hx : ∀ ρ, xs.map (AV.rens ρ) = xs) :
  FnOk P f [v] H fun r G => Fr H esz xs r G := by
 rcases hA with ⟨rfl, rfl⟩ | ⟨k, off, ex, cap, rfl, hk, h⟩
 ·exact (clone_nil hf).mono fun v G ⟨h1, h2⟩ => .inl ⟨h1, rfl, h2⟩
 ·rcases Nat.eq_zero_or_pos xs.length with h0 | h0
  ·obtain rfl := List.length_eq_zero_iff.1 h0
   obtain ⟨fn, h1, h2, h3⟩ := hf.fn
   have hpos := hf.pos
   have key : FnOk P f [.slice k off 0 esz ex cap] H fun v G => v = .slice (H.key 0) 0 0 esz true 0 ∧ G = H.ext [.row true esz []] := by
    refine FnOk.of_WW h1 rfl h2 h3 E0 good_E0 ?_
    simp only [go_sem, cloCC, List.replicate_zero, Nat.reduceAdd, Nat.reduceSub, Nat.reduceMul, Nat.reduceDiv, Nat.reduceMod, Nat.reduceEqDiff, Nat.reduceLeDiff, Nat.reduceLT, Int.reduceLT, Int.reduceLE, Int.reduceEq, reduceIte, reduceCtorEq]
   exact key.loose.mono fun v G ⟨e1, e2⟩ => .inr ⟨e1, e2⟩
  ·obtain ⟨r, wr, rows, rfl, hg, hrow⟩ := h (by intro e; rw [e] at h0; simp at h0)
   have hn : r + xs.length ≤ rows.length := by
    have := congrArg List.length hrow
    rw [List.length_take, List.length_drop] at this
    omega
   have key := clone_arr hf hg hn h0 hb (ex := ex) (cap := cap)
   rw [hrow] at key
   refine (FnOk.drop1 (b := .row true esz xs) (key.mono fun v G ⟨e1, e2⟩ => ⟨_, 1, e1, e2, rfl⟩) ?_).mono fun v G h => .inr h
   intro ρ
   show Blk.row true esz (xs.map (AV.rens ρ)) = _
   rw [hx]
end Go.Ev
namespace Go.Ev
variable {P : Program} {H : Heap}
def outV (k : K) (esz n : Nat) : AV := match n with | 0 => .nils | n + 1 => .slice k 0 (n + 1) esz false (n + 1)
def outB (esz : Nat) (xs : List (List AV)) : Blk := match xs with | [] => .dead | x :: xs => .row true esz (x :: xs)
def outL (esz : Nat) (xs : List (List AV)) : List Blk := match xs with | [] => [] | x :: xs => [.row true esz (x :: xs)]
@[go_sem] theorem outV_zero (k : K) (esz : Nat) : outV k esz 0 = .nils := rfl
@[go_sem] theorem outV_succ (k : K) (esz n : Nat) : outV k esz (n + 1) = .slice k 0 (n + 1) esz false (n + 1) := rfl
@[go_sem] theorem outB_nil (esz : Nat) : outB esz [] = .dead := rfl
@[go_sem] theorem outB_cons (esz : Nat) (x xs) : outB esz (x :: xs) = .row true esz (x :: xs) := rfl
theorem outV_pos {k : K} {esz n : Nat} (h : 0 < n) : outV k esz n = .slice k 0 n esz false n := by cases n with | zero => exact absurd h (Nat.lt_irrefl 0) | succ n => rfl
@[go_sem] theorem outL_nil (esz : Nat) : outL esz [] = [] := rfl
theorem FnOk.dropOld {f : FuncId} {args : List AV} {R : AV → Prop} (h : FnOk P f args H fun v G => R v ∧ ∃ l, G = H.ext l) (hr : ∀ v, R v → ∀ top σ, v.ren (rho H top σ) = v) : FnOk P f args H fun v G => R v ∧ G = H := by
 refine h.wk ?_
 rintro v G ⟨hv, l, rfl⟩
 exact ⟨l, [], [], v, rfl, (hr v hv _ _).symm, rfl, List.nodup_nil, by simp, hv, Heap.ext_nil H⟩
theorem FnOk.dropV {f : FuncId} {args : List AV} {esz : Nat} {xs : List (List AV)} (hx : ∀ ρ, xs.map (AV.rens ρ) = xs)
  (h : FnOk P f args H fun v G => ∃ l i, v = outV (H.key i) esz xs.length ∧ G = H.ext l ∧ l[i]? = some (outB esz xs)) :
  FnOk P f args H fun v G => v = outV H.nx esz xs.length ∧ G = H.ext (outL esz xs) := by
 cases xs with
 | nil =>
  refine (FnOk.drop (R := fun v => v = .nils) (h.mono ?_) ?_).mono ?_
  ·rintro v G ⟨l, i, rfl, rfl, _⟩; exact ⟨rfl, _, rfl⟩
  ·rintro v rfl ρ; rw [AV.ren]
  ·rintro v G ⟨rfl, rfl⟩; exact ⟨rfl, (Heap.ext_nil _).symm⟩
 | cons x xs =>
  refine (FnOk.drop1 (esz := esz) (n := xs.length + 1) (ex := false) (cap := xs.length + 1) (b := .row true esz (x :: xs)) (h.mono ?_) ?_)
  ·rintro v G ⟨l, i, rfl, rfl, hl⟩; exact ⟨l, i, rfl, rfl, hl⟩
  ·intro ρ
   show Blk.row true esz ((x :: xs).map (AV.rens ρ)) = _
   rw [hx]
end Go.Ev
namespace Go.Ev
variable {P : Program} {H : Heap}
theorem clone_zero {f : FuncId} {esz bytes : Nat} {zero : List AV} (hf : CloFn P f esz bytes zero) {k : K} {off : Nat} {ex : Bool} {cap : Nat} :
  FnOk P f [.slice k off 0 esz ex cap] H fun v G => v = .slice H.nx 0 0 esz true 0 ∧ G = H.ext [.row true esz []] := by
 obtain ⟨fn, h1, h2, h3⟩ := hf.fn
 have hpos := hf.pos
 refine FnOk.of_WW h1 rfl h2 h3 E0 good_E0 ?_
 simp only [go_sem, cloCC, List.replicate_zero, Heap.key_zero, Nat.reduceAdd, Nat.reduceSub, Nat.reduceMul, Nat.reduceDiv, Nat.reduceMod, Nat.reduceEqDiff, Nat.reduceLeDiff, Nat.reduceLT, Int.reduceLT, Int.reduceLE, Int.reduceEq, reduceIte, reduceCtorEq]
theorem insert_zero {f : FuncId} {esz bytes : Nat} {zero : List AV} (hf : InsFn P f esz bytes zero) {kv k : K} {wr : Bool} {x : List AV} (hv : H.get kv = some (.row wr esz [x])) (hg : H.get k = some (.row true esz [])) (hb : 194 * bytes ≤ 281474976710656) :
  FnOk P f [.slice k 0 0 esz true 0, .int .i64 0, .slice kv 0 1 esz true 1] H fun v G => v = .slice H.nx 0 1 esz false 1 ∧ G = H.ext [.row true esz [x]] := by
 obtain ⟨fn, ov, rr, h1, h2, h3, h4, h5⟩ := hf.fn
 have hpos := hf.pos
 refine FnOk.assume fun hok => ?_
 have hgk := Heap.get_ext_old hok hg
 have hgv := Heap.get_ext_old hok hv
 refine FnOk.of_WW h1 rfl h2 h3 E0 good_E0 ?_
 simp only [go_sem, insCC, hgk, hgv, hb, Nat.zero_mod, Nat.zero_div, Nat.zero_le, Nat.reduceAdd, Nat.reduceSub, Nat.reduceMul, Nat.reduceDiv, Nat.reduceMod, Nat.reduceEqDiff, Nat.reduceLeDiff, Nat.reduceLT, Int.reduceLT, Int.reduceLE, Int.reduceEq, Int.reduceToNat, reduceIte, reduceCtorEq, Heap.key_zero]
end Go.Ev
