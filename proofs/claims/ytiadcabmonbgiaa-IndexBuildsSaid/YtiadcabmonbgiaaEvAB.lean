/- slices.Clone and slices.Insert, of elements of any size. -/
import Derived.Test.YtiadcabmonbgiaaEvAA
set_option linter.all false
namespace Go.Ev
variable {P : Program} {φ : Phi} {H : Heap} {w : World}

noncomputable def cloCC (P : Program) (esz bytes : Nat) (zero : List AV) : CC :=
  (.seq (.region [.mk (mvR (X.c AV.nils)) (Option.some (K.i K.z)) Gd.no []])
  (.seq (.seq (.region [.mk (mvR (X.t K.z)) (Option.some (K.o (K.o K.z))) Gd.no [],
   .mk (binR P EK.slice Option.none Bool.true BinOp.eql (X.t (K.o (K.o K.z))) (X.c AV.nils)) (Option.some (K.i (K.o K.z))) Gd.no []])
  (.cond (X.t (K.i (K.o K.z)))
  (.seq (.region [.mk (mvR (X.c AV.nils)) (Option.some (K.i K.z)) Gd.no []])
  .ret)
  .skip))
  (.seq (.region [.mk (bslR esz 0 zero []) (Option.some (K.o (K.i K.z))) Gd.no [],
   .mk (mvR (X.t K.z)) (Option.some (K.i (K.i K.z))) Gd.no [],
   .mk (appR esz bytes (X.t (K.o (K.i K.z))) (X.t (K.i (K.i K.z)))) (Option.some (K.o (K.o (K.o K.z)))) Gd.no [],
   .mk (mvR (X.t (K.o (K.o (K.o K.z))))) (Option.some (K.i K.z)) Gd.no []])
  .ret)))
noncomputable def insCC (P : Program) (esz bytes : Nat) (zero : List AV) (ov rr : FuncId) : CC :=
  (.seq (.region [.mk (mvR (X.c AV.nils)) (Option.some (K.i (K.i K.z))) Gd.no []])
  (.seq (.region [.mk (mvR (X.t K.z)) (Option.some (K.i (K.i (K.o K.z)))) Gd.no [],
   .mk (mvR (X.t (K.o K.z))) (Option.some (K.o (K.o (K.i K.z)))) Gd.no [],
   .mk (slvR esz (X.t (K.i (K.i (K.o K.z)))) (Option.some (X.t (K.o (K.o (K.i K.z))))) Option.none Option.none) (Option.some (K.i (K.o (K.i K.z)))) Gd.no []])
  (.seq (.region [.mk (mvR (X.t (K.i K.z))) (Option.some (K.o (K.i (K.i K.z)))) Gd.no [],
   .mk (lenR LnK.slice (X.t (K.o (K.i (K.i K.z))))) (Option.some (K.i (K.i (K.i K.z)))) Gd.no [],
   .mk (mvR (X.t (K.i (K.i (K.i K.z))))) (Option.some (K.o (K.o (K.o K.z)))) Gd.no []])
  (.seq (.seq (.region [.mk (mvR (X.t (K.o (K.o (K.o K.z))))) (Option.some (K.o (K.o (K.o (K.o K.z))))) Gd.no [],
   .mk (binR P EK.no Option.none Bool.true BinOp.eql (X.t (K.o (K.o (K.o (K.o K.z))))) (X.c (AV.int IntKind.i64 0))) (Option.some (K.i (K.o (K.o (K.o K.z))))) Gd.no []])
  (.cond (X.t (K.i (K.o (K.o (K.o K.z)))))
  (.seq (.region [.mk (mvR (X.t K.z)) (Option.some (K.o (K.i (K.o (K.o K.z))))) Gd.no [],
   .mk (mvR (X.t (K.o (K.i (K.o (K.o K.z)))))) (Option.some (K.i (K.i K.z))) Gd.no []])
  .ret)
  .skip))
  (.seq (.region [.mk (mvR (X.t K.z)) (Option.some (K.i (K.i (K.o (K.o K.z))))) Gd.no [],
   .mk (lenR LnK.slice (X.t (K.i (K.i (K.o (K.o K.z)))))) (Option.some (K.o (K.o (K.i (K.o K.z))))) Gd.no [],
   .mk (mvR (X.t (K.o (K.o (K.i (K.o K.z)))))) (Option.some (K.i (K.o (K.o K.z)))) Gd.no []])
  (.seq (.seq (.region [.mk (mvR (X.t (K.o K.z))) (Option.some (K.i (K.o (K.i (K.o K.z))))) Gd.no [],
   .mk (mvR (X.t (K.i (K.o (K.o K.z))))) (Option.some (K.o (K.i (K.i (K.o K.z))))) Gd.no [],
   .mk (binR P EK.no Option.none Bool.false BinOp.eql (X.t (K.i (K.o (K.i (K.o K.z))))) (X.t (K.o (K.i (K.i (K.o K.z)))))) (Option.some (K.i (K.i (K.i (K.o K.z))))) Gd.no []])
  (.cond (X.t (K.i (K.i (K.i (K.o K.z)))))
  (.seq (.region [.mk (mvR (X.t K.z)) (Option.some (K.o (K.o (K.o (K.i K.z))))) Gd.no [],
   .mk (mvR (X.t (K.i K.z))) (Option.some (K.i (K.o (K.o (K.i K.z))))) Gd.no [],
   .mk (appR esz bytes (X.t (K.o (K.o (K.o (K.i K.z))))) (X.t (K.i (K.o (K.o (K.i K.z)))))) (Option.some (K.o (K.i (K.o (K.i K.z))))) Gd.no [],
   .mk (mvR (X.t (K.o (K.i (K.o (K.i K.z)))))) (Option.some (K.i (K.i K.z))) Gd.no []])
  .ret)
  .skip))
  (.seq (.seq (.region [.mk (mvR (X.t (K.i (K.o (K.o K.z))))) (Option.some (K.i (K.i (K.o (K.i K.z))))) Gd.no [],
   .mk (mvR (X.t (K.o (K.o (K.o K.z))))) (Option.some (K.o (K.o (K.i (K.i K.z))))) Gd.no [],
   .mk (binR P EK.no Option.none Bool.false BinOp.add (X.t (K.i (K.i (K.o (K.i K.z))))) (X.t (K.o (K.o (K.i (K.i K.z)))))) (Option.some (K.i (K.o (K.i (K.i K.z))))) Gd.no [],
   .mk (mvR (X.t K.z)) (Option.some (K.o (K.i (K.i (K.i K.z))))) Gd.no [],
   .mk (capR (X.t (K.o (K.i (K.i (K.i K.z)))))) (Option.some (K.i (K.i (K.i (K.i K.z))))) Gd.no [],
   .mk (binR P EK.no Option.none Bool.false BinOp.gtr (X.t (K.i (K.o (K.i (K.i K.z))))) (X.t (K.i (K.i (K.i (K.i K.z)))))) (Option.some (K.o (K.o (K.o (K.o (K.o K.z)))))) Gd.no []])
  (.cond (X.t (K.o (K.o (K.o (K.o (K.o K.z))))))
  (.seq (.region [.mk (mvR (X.t K.z)) (Option.some (K.i (K.o (K.o (K.o (K.o K.z)))))) Gd.no [],
   .mk (mvR (X.t (K.o K.z))) (Option.some (K.o (K.i (K.o (K.o (K.o K.z)))))) Gd.no [],
   .mk (slvR esz (X.t (K.i (K.o (K.o (K.o (K.o K.z)))))) Option.none (Option.some (X.t (K.o (K.i (K.o (K.o (K.o K.z))))))) Option.none) (Option.some (K.i (K.i (K.o (K.o (K.o K.z)))))) Gd.no [],
   .mk (mvR (X.t (K.i (K.o (K.o K.z))))) (Option.some (K.o (K.o (K.i (K.o (K.o K.z)))))) Gd.no [],
   .mk (mvR (X.t (K.o (K.o (K.o K.z))))) (Option.some (K.i (K.o (K.i (K.o (K.o K.z)))))) Gd.no [],
   .mk (binR P EK.no Option.none Bool.false BinOp.add (X.t (K.o (K.o (K.i (K.o (K.o K.z)))))) (X.t (K.i (K.o (K.i (K.o (K.o K.z))))))) (Option.some (K.o (K.i (K.i (K.o (K.o K.z)))))) Gd.no [],
   .mk (mvR (X.t (K.o K.z))) (Option.some (K.i (K.i (K.i (K.o (K.o K.z)))))) Gd.no [],
   .mk (binR P EK.no Option.none Bool.false BinOp.sub (X.t (K.o (K.i (K.i (K.o (K.o K.z)))))) (X.t (K.i (K.i (K.i (K.o (K.o K.z))))))) (Option.some (K.o (K.o (K.o (K.i (K.o K.z)))))) Gd.no [],
   .mk (apzR esz bytes zero (X.t (K.i (K.i (K.o (K.o (K.o K.z)))))) (X.t (K.o (K.o (K.o (K.i (K.o K.z))))))) (Option.some (K.i (K.o (K.o (K.i (K.o K.z)))))) Gd.no [],
   .mk (mvR (X.t (K.i (K.o (K.o (K.i (K.o K.z))))))) (Option.some (K.o (K.i (K.o K.z)))) Gd.no []])
  (.seq (.region [.mk (mvR (X.t (K.o (K.i (K.o K.z))))) (Option.some (K.o (K.i (K.o (K.i (K.o K.z)))))) Gd.no [],
   .mk (mvR (X.t (K.o K.z))) (Option.some (K.i (K.i (K.o (K.i (K.o K.z)))))) Gd.no [],
   .mk (slvR esz (X.t (K.o (K.i (K.o (K.i (K.o K.z)))))) (Option.some (X.t (K.i (K.i (K.o (K.i (K.o K.z))))))) Option.none Option.none) (Option.some (K.o (K.o (K.i (K.i (K.o K.z)))))) Gd.no [],
   .mk (mvR (X.t (K.i K.z))) (Option.some (K.i (K.o (K.i (K.i (K.o K.z)))))) Gd.no [],
   .mk (cpyR esz (X.t (K.o (K.o (K.i (K.i (K.o K.z)))))) (X.t (K.i (K.o (K.i (K.i (K.o K.z))))))) (Option.some (K.o (K.i (K.i (K.i (K.o K.z)))))) Gd.no []])
  (.seq (.regionD [.mk (keepH (mvR (X.t (K.o K.z)))) (Option.some (K.i (K.o (K.i (K.o (K.i K.z)))))) Gd.no [],
   .mk (keepH (mvR (X.t K.z))) (Option.some (K.o (K.o (K.i (K.o (K.i K.z)))))) Gd.no [],
   .mk (keepH (slvR esz (X.t (K.o (K.o (K.i (K.o (K.i K.z)))))) (Option.some (X.t (K.i (K.o (K.i (K.o (K.i K.z))))))) Option.none Option.none)) (Option.some (K.o (K.i (K.i (K.o (K.i K.z)))))) Gd.no [],
   .mk (keepH (mvR (X.t (K.o (K.o (K.o K.z)))))) (Option.some (K.i (K.o (K.o (K.o (K.i K.z)))))) Gd.no [],
   .mk (keepH (mvR (X.t (K.o K.z)))) (Option.some (K.o (K.o (K.o (K.o (K.i K.z)))))) Gd.no [],
   .mk (keepH (binR P EK.no Option.none Bool.false BinOp.add (X.t (K.o (K.o (K.o (K.o (K.i K.z)))))) (X.t (K.i (K.o (K.o (K.o (K.i K.z)))))))) (Option.some (K.o (K.i (K.o (K.o (K.i K.z)))))) Gd.no [],
   .mk (keepH (mvR (X.t (K.o (K.i (K.o K.z)))))) (Option.some (K.i (K.i (K.i (K.i (K.o K.z)))))) Gd.no [],
   .mk (keepH (slvR esz (X.t (K.i (K.i (K.i (K.i (K.o K.z)))))) (Option.some (X.t (K.o (K.i (K.o (K.o (K.i K.z))))))) Option.none Option.none)) (Option.some (K.i (K.i (K.o (K.o (K.i K.z)))))) Gd.no [],
   .mk (cpyR esz (X.t (K.i (K.i (K.o (K.o (K.i K.z)))))) (X.t (K.o (K.i (K.i (K.o (K.i K.z))))))) (Option.some (K.i (K.i (K.i (K.o (K.i K.z)))))) Gd.no []])
  (.seq (.region [.mk (mvR (X.t (K.o (K.i (K.o K.z))))) (Option.some (K.o (K.o (K.o (K.i (K.i K.z)))))) Gd.no [],
   .mk (mvR (X.t (K.o (K.o (K.o (K.i (K.i K.z))))))) (Option.some (K.i (K.i K.z))) Gd.no []])
  .ret))))
  .skip))
  (.seq (.region [.mk (mvR (X.t K.z)) (Option.some (K.i (K.o (K.o (K.i (K.i K.z)))))) Gd.no [],
   .mk (mvR (X.t (K.i (K.o (K.o K.z))))) (Option.some (K.o (K.i (K.o (K.i (K.i K.z)))))) Gd.no [],
   .mk (mvR (X.t (K.o (K.o (K.o K.z))))) (Option.some (K.i (K.i (K.o (K.i (K.i K.z)))))) Gd.no [],
   .mk (binR P EK.no Option.none Bool.false BinOp.add (X.t (K.o (K.i (K.o (K.i (K.i K.z)))))) (X.t (K.i (K.i (K.o (K.i (K.i K.z))))))) (Option.some (K.o (K.o (K.i (K.i (K.i K.z)))))) Gd.no [],
   .mk (slvR esz (X.t (K.i (K.o (K.o (K.i (K.i K.z)))))) Option.none (Option.some (X.t (K.o (K.o (K.i (K.i (K.i K.z))))))) Option.none) (Option.some (K.i (K.o (K.i (K.i (K.i K.z)))))) Gd.no [],
   .mk (mvR (X.t (K.i (K.o (K.i (K.i (K.i K.z))))))) (Option.some K.z) Gd.no []])
  (.seq (.seq (.region [.mk (mvR (X.t (K.i K.z))) (Option.some (K.o (K.i (K.i (K.i (K.i K.z)))))) Gd.no [],
   .mk (mvR (X.t K.z)) (Option.some (K.i (K.i (K.i (K.i (K.i K.z)))))) Gd.no [],
   .mk (mvR (X.t (K.o K.z))) (Option.some (K.o (K.o (K.o (K.o (K.o (K.o K.z))))))) Gd.no [],
   .mk (mvR (X.t (K.o (K.o (K.o K.z))))) (Option.some (K.i (K.o (K.o (K.o (K.o (K.o K.z))))))) Gd.no [],
   .mk (binR P EK.no Option.none Bool.false BinOp.add (X.t (K.o (K.o (K.o (K.o (K.o (K.o K.z))))))) (X.t (K.i (K.o (K.o (K.o (K.o (K.o K.z)))))))) (Option.some (K.o (K.i (K.o (K.o (K.o (K.o K.z))))))) Gd.no [],
   .mk (slvR esz (X.t (K.i (K.i (K.i (K.i (K.i K.z)))))) (Option.some (X.t (K.o (K.i (K.o (K.o (K.o (K.o K.z)))))))) Option.none Option.none) (Option.some (K.i (K.i (K.o (K.o (K.o (K.o K.z))))))) Gd.no [],
   .mk (callS P ov [(X.t (K.o (K.i (K.i (K.i (K.i K.z)))))), (X.t (K.i (K.i (K.o (K.o (K.o (K.o K.z)))))))]) (Option.some (K.o (K.o (K.i (K.o (K.o (K.o K.z))))))) Gd.no [],
   .mk (unR UnOp.not (X.t (K.o (K.o (K.i (K.o (K.o (K.o K.z)))))))) (Option.some (K.i (K.o (K.i (K.o (K.o (K.o K.z))))))) Gd.no []])
  (.cond (X.t (K.i (K.o (K.i (K.o (K.o (K.o K.z)))))))
  (.seq (.regionD [.mk (keepH (mvR (X.t (K.o K.z)))) (Option.some (K.o (K.o (K.i (K.i (K.o (K.o K.z))))))) Gd.no [],
   .mk (keepH (mvR (X.t K.z))) (Option.some (K.i (K.i (K.o (K.i (K.o (K.o K.z))))))) Gd.no [],
   .mk (keepH (slvR esz (X.t (K.i (K.i (K.o (K.i (K.o (K.o K.z))))))) (Option.some (X.t (K.o (K.o (K.i (K.i (K.o (K.o K.z)))))))) Option.none Option.none)) (Option.some (K.i (K.o (K.i (K.i (K.o (K.o K.z))))))) Gd.no [],
   .mk (keepH (mvR (X.t (K.o (K.o (K.o K.z)))))) (Option.some (K.o (K.o (K.o (K.i (K.o (K.o K.z))))))) Gd.no [],
   .mk (keepH (mvR (X.t (K.o K.z)))) (Option.some (K.i (K.i (K.i (K.o (K.o (K.o K.z))))))) Gd.no [],
   .mk (keepH (binR P EK.no Option.none Bool.false BinOp.add (X.t (K.i (K.i (K.i (K.o (K.o (K.o K.z))))))) (X.t (K.o (K.o (K.o (K.i (K.o (K.o K.z))))))))) (Option.some (K.i (K.o (K.o (K.i (K.o (K.o K.z))))))) Gd.no [],
   .mk (keepH (mvR (X.t K.z))) (Option.some (K.o (K.i (K.i (K.o (K.o (K.o K.z))))))) Gd.no [],
   .mk (keepH (slvR esz (X.t (K.o (K.i (K.i (K.o (K.o (K.o K.z))))))) (Option.some (X.t (K.i (K.o (K.o (K.i (K.o (K.o K.z)))))))) Option.none Option.none)) (Option.some (K.o (K.i (K.o (K.i (K.o (K.o K.z))))))) Gd.no [],
   .mk (cpyR esz (X.t (K.o (K.i (K.o (K.i (K.o (K.o K.z))))))) (X.t (K.i (K.o (K.i (K.i (K.o (K.o K.z)))))))) (Option.some (K.o (K.i (K.i (K.i (K.o (K.o K.z))))))) Gd.no []])
  (.seq (.region [.mk (mvR (X.t K.z)) (Option.some (K.i (K.i (K.i (K.i (K.o (K.o K.z))))))) Gd.no [],
   .mk (mvR (X.t (K.o K.z))) (Option.some (K.o (K.o (K.o (K.o (K.i (K.o K.z))))))) Gd.no [],
   .mk (slvR esz (X.t (K.i (K.i (K.i (K.i (K.o (K.o K.z))))))) (Option.some (X.t (K.o (K.o (K.o (K.o (K.i (K.o K.z)))))))) Option.none Option.none) (Option.some (K.i (K.o (K.o (K.o (K.i (K.o K.z))))))) Gd.no [],
   .mk (mvR (X.t (K.i K.z))) (Option.some (K.o (K.i (K.o (K.o (K.i (K.o K.z))))))) Gd.no [],
   .mk (cpyR esz (X.t (K.i (K.o (K.o (K.o (K.i (K.o K.z))))))) (X.t (K.o (K.i (K.o (K.o (K.i (K.o K.z)))))))) (Option.some (K.i (K.i (K.o (K.o (K.i (K.o K.z))))))) Gd.no []])
  (.seq (.region [.mk (mvR (X.t K.z)) (Option.some (K.o (K.o (K.i (K.o (K.i (K.o K.z))))))) Gd.no [],
   .mk (mvR (X.t (K.o (K.o (K.i (K.o (K.i (K.o K.z)))))))) (Option.some (K.i (K.i K.z))) Gd.no []])
  .ret)))
  .skip))
  (.seq (.region [.mk (mvR (X.t K.z)) (Option.some (K.i (K.o (K.i (K.o (K.i (K.o K.z))))))) Gd.no [],
   .mk (mvR (X.t (K.i (K.o (K.o K.z))))) (Option.some (K.o (K.i (K.i (K.o (K.i (K.o K.z))))))) Gd.no [],
   .mk (slvR esz (X.t (K.i (K.o (K.i (K.o (K.i (K.o K.z))))))) (Option.some (X.t (K.o (K.i (K.i (K.o (K.i (K.o K.z)))))))) Option.none Option.none) (Option.some (K.i (K.i (K.i (K.o (K.i (K.o K.z))))))) Gd.no [],
   .mk (mvR (X.t (K.i K.z))) (Option.some (K.o (K.o (K.o (K.i (K.i (K.o K.z))))))) Gd.no [],
   .mk (cpyR esz (X.t (K.i (K.i (K.i (K.o (K.i (K.o K.z))))))) (X.t (K.o (K.o (K.o (K.i (K.i (K.o K.z)))))))) (Option.some (K.i (K.o (K.o (K.i (K.i (K.o K.z))))))) Gd.no []])
  (.seq (.region [.mk (mvR (X.t K.z)) (Option.some (K.o (K.i (K.o (K.i (K.i (K.o K.z))))))) Gd.no [],
   .mk (mvR (X.t (K.o K.z))) (Option.some (K.i (K.i (K.o (K.i (K.i (K.o K.z))))))) Gd.no [],
   .mk (slvR esz (X.t (K.o (K.i (K.o (K.i (K.i (K.o K.z))))))) (Option.some (X.t (K.i (K.i (K.o (K.i (K.i (K.o K.z)))))))) Option.none Option.none) (Option.some (K.o (K.o (K.i (K.i (K.i (K.o K.z))))))) Gd.no [],
   .mk (mvR (X.t (K.o (K.o (K.o K.z))))) (Option.some (K.i (K.o (K.i (K.i (K.i (K.o K.z))))))) Gd.no [],
   .mk (callS P rr [(X.t (K.o (K.o (K.i (K.i (K.i (K.o K.z))))))), (X.t (K.i (K.o (K.i (K.i (K.i (K.o K.z)))))))]) (Option.some (K.o (K.i (K.i (K.i (K.i (K.o K.z))))))) Gd.no []])
  (.seq (.region [.mk (mvR (X.t K.z)) (Option.some (K.i (K.i (K.i (K.i (K.i (K.o K.z))))))) Gd.no [],
   .mk (mvR (X.t (K.i (K.i (K.i (K.i (K.i (K.o K.z)))))))) (Option.some (K.i (K.i K.z))) Gd.no []])
  .ret))))))))))))

/-- a function that clones slices of such elements -/
structure CloFn (P : Program) (f : FuncId) (esz bytes : Nat) (zero : List AV) : Prop where
  fn : ∃ fn, P.funcs[f]? = some fn ∧ (match fn.body with | some c => comp P fn.ntmps c | none => none) = some (cloCC P esz bytes zero) ∧ resKs P fn.results.toList = some [(RK.tmp (K.i K.z))]
  zl : zero.length = esz
  pos : 1 < esz
/-- a function that inserts into slices of such elements -/
structure InsFn (P : Program) (f : FuncId) (esz bytes : Nat) (zero : List AV) : Prop where
  fn : ∃ fn ov rr, P.funcs[f]? = some fn ∧ (match fn.body with | some c => comp P fn.ntmps c | none => none) = some (insCC P esz bytes zero ov rr) ∧ resKs P fn.results.toList = some [(RK.tmp (K.i (K.i K.z)))] ∧ ovlOf P ov = some esz ∧ callOk P ov = false
  zl : zero.length = esz
  pos : 1 < esz

/-! ### The nil slice -/
theorem clone_nil {f : FuncId} {esz bytes : Nat} {zero : List AV} (hf : CloFn P f esz bytes zero) : FnOk P f [.nils] H fun v G => v = .nils ∧ G = H := by
  obtain ⟨fn, h1, h2, h3⟩ := hf.fn
  refine FnOk.of_WW h1 rfl h2 h3 E0 good_E0 ?_
  simp only [go_sem, cloCC, Nat.reduceAdd, Nat.reduceSub, Nat.reduceMul, Nat.reduceDiv, Nat.reduceMod, Nat.reduceEqDiff, Nat.reduceLeDiff, Nat.reduceLT, Int.reduceLT, Int.reduceLE, Int.reduceEq, Int.reduceToNat, reduceIte, reduceCtorEq, Heap.ext_nil]
theorem insert_nil {f : FuncId} {esz bytes : Nat} {zero : List AV} (hf : InsFn P f esz bytes zero) {kv : K} {wr : Bool} {x : List AV} (hv : H.get kv = some (.row wr esz [x])) (hb : 194 * bytes ≤ 281474976710656) :
    FnOk P f [.nils, .int .i64 0, .slice kv 0 1 esz true 1] H fun v G => v = .slice H.nx 0 1 esz false 1 ∧ G = H.ext [.row true esz [x]] := by
  obtain ⟨fn, ov, rr, h1, h2, h3, h4, h5⟩ := hf.fn
  refine FnOk.assume fun hok => ?_
  have hg := Heap.get_ext_old hok hv
  refine FnOk.of_WW h1 rfl h2 h3 E0 good_E0 ?_
  simp only [go_sem, insCC, hg, Nat.zero_mod, Nat.zero_div, Nat.reduceAdd, Nat.reduceSub, Nat.reduceMul, Nat.reduceDiv, Nat.reduceMod, Nat.reduceEqDiff, Nat.reduceLeDiff, Nat.reduceLT, Int.reduceLT, Int.reduceLE, Int.reduceEq, Int.reduceToNat, reduceIte, reduceCtorEq, hb, Heap.key_zero]
/-! ### A slice of one's own -/
theorem clone_arr {f : FuncId} {esz bytes : Nat} {zero : List AV} (hf : CloFn P f esz bytes zero) {k : K} {r : Nat} {ex : Bool} {cap n : Nat} {wr : Bool} {rows : List (List AV)} (hg : H.get k = some (.row wr esz rows)) (hn : r + n ≤ rows.length) (h0 : 0 < n)
    (hb : (2 * n + 192) * bytes ≤ 281474976710656) :
    FnOk P f [.slice k (r * esz) n esz ex cap] H fun v G => v = .slice (H.key 1) 0 n esz false n ∧ G = H.ext [.row true esz [], .row true esz ((rows.drop r).take n)] := by
  obtain ⟨fn, h1, h2, h3⟩ := hf.fn
  have hpos := hf.pos
  refine FnOk.assume fun hok => ?_
  have hgo := Heap.get_ext_old hok hg
  have e1 : r * esz % esz = 0 := Nat.mul_mod_left r esz
  have e2 : r * esz / esz = r := Nat.mul_div_cancel r (by omega)
  have e3 : n ≤ (rows.drop r).length := by rw [List.length_drop]; omega
  have e4 : ¬ n = 0 := by omega
  have e5 : ¬ n ≤ 0 := by omega
  refine FnOk.of_WW h1 rfl h2 h3 E0 good_E0 ?_
  simp only [go_sem, cloCC, hgo, e1, e2, e3, e4, e5, hb, List.replicate_zero, Nat.zero_mod, Nat.zero_div, Nat.zero_le, Nat.reduceAdd, Nat.reduceSub, Nat.reduceMul, Nat.reduceDiv, Nat.reduceMod, Nat.reduceEqDiff, Nat.reduceLeDiff, Nat.reduceLT, Int.reduceLT, Int.reduceLE, Int.reduceEq, Int.reduceToNat, reduceIte, reduceCtorEq]
theorem insert_end {f : FuncId} {esz bytes : Nat} {zero : List AV} (hf : InsFn P f esz bytes zero) {kv k : K} {wr : Bool} {x : List AV} {rows : List (List AV)} (hv : H.get kv = some (.row wr esz [x])) (hg : H.get k = some (.row true esz rows)) (h0 : 0 < rows.length) (hn : rows.length < 4294967296)
    (hb : (2 * (rows.length + 1) + 192) * bytes ≤ 281474976710656) :
    FnOk P f [.slice k 0 rows.length esz false rows.length, .int .i64 rows.length, .slice kv 0 1 esz true 1] H fun v G => v = .slice H.nx 0 (rows.length + 1) esz false (rows.length + 1) ∧ G = (H.set k .dead).ext [.row true esz (rows ++ [x])] := by
  obtain ⟨fn, ov, rr, h1, h2, h3, h4, h5⟩ := hf.fn
  have hpos := hf.pos
  refine FnOk.assume fun hok => ?_
  have hgk := Heap.get_ext_old hok hg
  have hgv := Heap.get_ext_old hok hv
  have e1 : rows.length ≤ rows.length := Nat.le_refl _
  have e2 : ¬ rows.length + 1 ≤ rows.length := by omega
  have e3 : ¬ rows.length = 0 := by omega
  refine FnOk.of_WW h1 rfl h2 h3 E0 good_E0 ?_
  have hset : ∀ l b (c : Heap → R1), (H.ext l).setC k b c = c ((H.set k b).ext l) := fun l b c => Heap.setC_old H l k b c (hok k _ hg)
  simp only [go_sem, insCC, hgk, hgv, e1, e2, e3, hb, hset, Heap.key_set, Nat.zero_mod, Nat.zero_div, Nat.zero_le, List.take_length, Nat.reduceAdd, Nat.reduceSub, Nat.reduceMul, Nat.reduceDiv, Nat.reduceMod, Nat.reduceEqDiff, Nat.reduceLeDiff, Nat.reduceLT, Int.reduceLT, Int.reduceLE, Int.reduceEq, Int.reduceToNat, reduceIte, reduceCtorEq, Heap.key_zero, Heap.nx_set']
theorem insert_A {f : FuncId} {esz bytes : Nat} {zero : List AV} (hf : InsFn P f esz bytes zero) {kv k : K} {wr : Bool} {x : List AV} {rows : List (List AV)} {i : Nat} (hv : H.get kv = some (.row wr esz [x])) (hg : H.get k = some (.row true esz rows)) (hi : i < rows.length) (hn : rows.length < 4294967296)
    (hb : (2 * (rows.length + 1) + 192) * bytes ≤ 281474976710656) :
    FnOk P f [.slice k 0 rows.length esz true rows.length, .int .i64 i, .slice kv 0 1 esz true 1] H fun v G => v = .slice (H.key 0) 0 (rows.length + 1) esz false (rows.length + 1) ∧ G = H.ext [.row true esz (rows.take i ++ x :: rows.drop i)] := by
  obtain ⟨fn, ov, rr, h1, h2, h3, h4, h5⟩ := hf.fn
  have hpos := hf.pos
  refine FnOk.assume fun hok => ?_
  have hgk := Heap.get_ext_old hok hg
  have hgv := Heap.get_ext_old hok hv
  have a1 : ¬ (i : Int) = (rows.length : Int) := by omega
  have a2 : IntKind.i64.wrap ((rows.length : Int) + 1) = ((rows.length + 1 : Nat) : Int) := wrap_succ (by omega)
  have a3 : (rows.length : Int) < ((rows.length + 1 : Nat) : Int) := by omega
  have a4 : IntKind.i64.wrap (((rows.length + 1 : Nat) : Int) - (i : Int)) = ((rows.length + 1 - i : Nat) : Int) := by rw [show ((rows.length + 1 : Nat) : Int) - (i : Int) = ((rows.length + 1 - i : Nat) : Int) by omega, wrap_i64 (by omega) (by omega)]
  have a5 : IntKind.i64.wrap ((i : Int) + 1) = ((i + 1 : Nat) : Int) := wrap_succ (by omega)
  have b1 : i ≤ rows.length := by omega
  have b2 : ¬ rows.length + 1 - i = 0 := by omega
  have b3 : i + (rows.length + 1 - i) = rows.length + 1 := by omega
  have b4 : ¬ rows.length + 1 ≤ rows.length := by omega
  have b5 : ¬ rows.length = 0 := by omega
  have b6 : Nat.min 1 (rows.length + 1 - i) = 1 := Nat.min_eq_left (by omega)
  have b7 : i * esz % esz = 0 := Nat.mul_mod_left i esz
  have b8 : i * esz / esz = i := Nat.mul_div_cancel i (by omega)
  have b9 : ¬ rows.length - i = 0 := by omega
  have c1 : (i + 1) * esz % esz = 0 := Nat.mul_mod_left _ esz
  have c2 : (i + 1) * esz / esz = i + 1 := Nat.mul_div_cancel _ (by omega)
  have c3 : i + 1 ≤ rows.length + 1 := by omega
  have c4 : i ≤ rows.length + 1 := by omega
  have c5 : Nat.min (rows.length - i) (rows.length + 1 - (i + 1)) = rows.length - i := Nat.min_eq_left (by omega)
  have c6 : min i rows.length = i := Nat.min_eq_left (by omega)
  have c7 : i + (rows.length + 1 - i) = rows.length + 1 := by omega
  have c8 : i < rows.length + 1 := by omega
  have c9 : rows.length - i ≤ (rows.drop i).length := by rw [List.length_drop]; omega
  have d1 : 1 ≤ rows.length + 1 - i := by omega
  have d2 : (rows.drop i).take (rows.length - i) = rows.drop i := List.take_of_length_le (by rw [List.length_drop]; omega)
  refine FnOk.of_WW h1 rfl h2 h3 E0 good_E0 ?_
  simp only [go_sem, insCC, hgk, hgv, a1, a2, a3, a4, a5, b1, b2, b3, b4, b5, b6, b7, b8, b9, c1, c2, c3, c4, c5, c6, c7, c8, c9, d1, d2, Nat.le_refl, hb, Heap.key_set, Nat.zero_mod, Nat.zero_div, Nat.zero_le, List.take_length, Nat.sub_zero, List.length_take, List.length_drop, List.length_replicate, Nat.zero_mul, Nat.min_self, Nat.reduceAdd, Nat.reduceSub, Nat.reduceMul, Nat.reduceDiv, Nat.reduceMod, Nat.reduceEqDiff, Nat.reduceLeDiff, Nat.reduceLT, Int.reduceLT, Int.reduceLE, Int.reduceEq, Int.reduceToNat, reduceIte, reduceCtorEq]
  refine ⟨by omega, by omega, ?_⟩
  congr 3
  have f0 : (rows.take i ++ List.replicate (rows.length + 1 - i) zero).take i = rows.take i := by
    rw [List.take_append_of_le_length (by rw [List.length_take]; omega), List.take_take, Nat.min_self]
  have hZl : (List.take i rows ++ List.replicate (rows.length + 1 - i) zero).length = rows.length + 1 := by rw [List.length_append, List.length_take, List.length_replicate]; omega
  rw [f0]
  have f1 : (rows.take i ++ [x]).length = i + 1 := by rw [List.length_append, List.length_take, List.length_cons, List.length_nil]; omega
  generalize List.take i rows ++ List.replicate (rows.length + 1 - i) zero = Z at *
  have f2 : (rows.take i ++ [x] ++ Z.drop (i + 1)).take (i + 1) = rows.take i ++ [x] := by
    rw [List.take_append_of_le_length (by omega), List.take_of_length_le (by omega)]
  rw [f2]
  have hZ : Z.length = rows.length + 1 := hZl
  rw [List.drop_of_length_le (l := rows.take i ++ [x] ++ Z.drop (i + 1)) (by rw [List.length_append, f1, List.length_drop, hZ]; omega)]
  simp only [List.append_assoc, List.append_nil, List.cons_append, List.nil_append]
theorem insert_B {f : FuncId} {esz bytes : Nat} {zero : List AV} (hf : InsFn P f esz bytes zero) {kv k : K} {x y : List AV} {rows : List (List AV)} {i : Nat} (hkk : kv ≠ k) (hv : H.get kv = some (.row true esz [x])) (hg : H.get k = some (.row true esz (rows ++ [y]))) (hi : i < rows.length) (hn : rows.length < 4294967296) :
    FnOk P f [.slice k 0 rows.length esz false (rows.length + 1), .int .i64 i, .slice kv 0 1 esz true 1] H fun v G => v = .slice k 0 (rows.length + 1) esz false (rows.length + 1) ∧ G = H.set k (.row true esz (rows.take i ++ x :: rows.drop i)) := by
  obtain ⟨fn, ov, rr, h1, h2, h3, h4, h5⟩ := hf.fn
  have hpos := hf.pos
  refine FnOk.assume fun hok => ?_
  have hgk := Heap.get_ext_old hok hg
  have hgv := Heap.get_ext_old hok hv
  have hset : ∀ l b (c : Heap → R1), (H.ext l).setC k b c = c ((H.set k b).ext l) := fun l b c => Heap.setC_old H l k b c (hok k _ hg)
  have hok2 : ∀ b, (H.set k b).ok := fun b j c hj => by
    rw [Heap.nx_set]
    rw [Heap.get_set] at hj
    split at hj
    · rename_i e; subst e; exact hok _ _ hg
    · exact hok _ _ hj
  have hset2 : ∀ l b d (c : Heap → R1), ((H.set k d).ext l).setC k b c = c ((H.set k b).ext l) := fun l b d c => by
    rw [Heap.setC_old _ l k b c (by rw [Heap.nx_set]; exact hok k _ hg), Heap.set_set]
  have hgk2 : ∀ l b, ((H.set k b).ext l).get k = some b := fun l b => Heap.get_ext_old (hok2 b) (by rw [Heap.get_set, if_pos rfl]) l
  have hgv2 : ∀ l b, ((H.set k b).ext l).get kv = some (.row true esz [x]) := fun l b => Heap.get_ext_old (hok2 b) (by rw [Heap.get_set, if_neg (Ne.symm hkk)]; exact hv) l
  have hbk : K.beq kv k = false := by
    cases h : K.beq kv k
    · rfl
    · exact absurd ((K.beq_iff _ _).1 h) hkk
  have a1 : ¬ (i : Int) = (rows.length : Int) := by omega
  have a2 : IntKind.i64.wrap ((rows.length : Int) + 1) = ((rows.length + 1 : Nat) : Int) := wrap_succ (by omega)
  have a5 : IntKind.i64.wrap ((i : Int) + 1) = ((i + 1 : Nat) : Int) := wrap_succ (by omega)
  have b1 : i ≤ rows.length := by omega
  have b5 : ¬ rows.length = 0 := by omega
  have b6 : Nat.min 1 (rows.length + 1 - i) = 1 := Nat.min_eq_left (by omega)
  have b7 : i * esz % esz = 0 := Nat.mul_mod_left i esz
  have b8 : i * esz / esz = i := Nat.mul_div_cancel i (by omega)
  have c1 : (i + 1) * esz % esz = 0 := Nat.mul_mod_left _ esz
  have c2 : (i + 1) * esz / esz = i + 1 := Nat.mul_div_cancel _ (by omega)
  have c3 : i + 1 ≤ rows.length + 1 := by omega
  have c4 : i ≤ rows.length + 1 := by omega
  have c5 : Nat.min (rows.length + 1 - i) (rows.length + 1 - (i + 1)) = rows.length + 1 - (i + 1) := Nat.min_eq_right (by omega)
  have c8 : i < rows.length + 1 := by omega
  have d1 : 1 ≤ rows.length + 1 - i := by omega
  have d3 : ¬ rows.length + 1 - (i + 1) = 0 := by omega
  have d4 : rows.length ≤ rows.length + 1 := by omega
  have d5 : esz ≠ 1 := by omega
  have d6 : esz ≠ 0 := by omega
  refine FnOk.of_WW h1 rfl h2 h3 E0 good_E0 ?_
  simp only [go_sem, insCC, hgk, hgv, hgk2, hgv2, hset, hset2, h4, h5, callC, ovlC, hbk, a1, a2, a5, b1, b5, b6, b7, b8, c1, c2, c3, c4, c5, c8, d1, d3, d4, d5, d6, Nat.le_refl, Heap.key_set, Nat.zero_mod, Nat.zero_div, Nat.zero_le, List.take_length, Nat.sub_zero, List.length_take, List.length_drop, List.length_replicate, Nat.zero_mul, Nat.min_self, Int.lt_irrefl, Nat.reduceAdd, Nat.reduceSub, Nat.reduceMul, Nat.reduceDiv, Nat.reduceMod, Nat.reduceEqDiff, Nat.reduceLeDiff, Nat.reduceLT, Int.reduceLT, Int.reduceLE, Int.reduceEq, Int.reduceToNat, reduceIte, reduceCtorEq]
  refine ⟨Int.le_refl _, by omega, by omega, by omega, by omega, ?_⟩
  rw [Heap.ext_nil]
  congr 2
  have e1 : min (rows.length + 1 - (i + 1)) (rows.length + 1 - i) = rows.length - i := by omega
  have e2 : rows.length + 1 - (i + 1) = rows.length - i := by omega
  rw [e1, e2, List.drop_of_length_le (l := rows ++ [y]) (i := i + 1 + (rows.length - i)) (by simp; omega), List.append_nil]
  have e3 : (List.take (i + 1) (rows ++ [y])).length = i + 1 := by rw [List.length_take, List.length_append, List.length_cons, List.length_nil]; omega
  have e4 : (List.take (i + 1) (rows ++ [y]) ++ List.take (rows.length - i) (List.drop i (rows ++ [y]))).take i = rows.take i := by
    rw [List.take_append_of_le_length (by omega), List.take_take, show min i (i + 1) = i by omega, List.take_append_of_le_length (by omega)]
  have e5 : (List.take (i + 1) (rows ++ [y]) ++ List.take (rows.length - i) (List.drop i (rows ++ [y]))).drop (i + 1) = rows.drop i := by
    rw [List.drop_append, e3, Nat.sub_self, List.drop_zero, List.drop_of_length_le (by omega), List.nil_append, List.drop_append_of_le_length (by omega), List.take_append_of_le_length (by rw [List.length_drop]; omega), List.take_of_length_le (by rw [List.length_drop]; omega)]
  rw [e4, e5]
  simp only [List.append_assoc, List.cons_append, List.nil_append]
end Go.Ev
