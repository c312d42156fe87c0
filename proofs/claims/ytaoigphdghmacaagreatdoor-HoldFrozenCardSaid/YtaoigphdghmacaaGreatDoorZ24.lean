/- The laid-out code of the functions that are walked. Printed by a program. -/
import Derived.Test.YtaoigphdghmacaaGreatDoorZ23
import Derived.Test.YtaoigphdghmacaaGreatDoorProg
import Derived.KernelRfl
set_option linter.all false
set_option maxRecDepth 100000
namespace Go.Proofs
open Go Go.Ev K
noncomputable def C64L0 : CC := (.seq (.region [.mk (binR Tryz.prog EK.no .none false BinOp.lss z.o.o.i z.o.o.o) z.o.i.o]) (.seq (.cond z.o.i.o .skip (.exit 0)) (.seq (.block 1 (.seq (.region [.mk (mvR z.o.o.i) z.o.i.i, .mk (mvR z.o.i.i) z.i.o]) (.seq (.region [.mk (mvR z.o) z.i.o.o, .mk (mvR z) z.i.o.i, .mk (mvR z.i.o) z.i.i.o, .mk (iaS 8 z.i.o.i z.i.i.o) z.i.i.i, .mk (ldR true 8 z.i.i.i) z.o.o.o.o, .mk (callX Tryz.prog z.i.o.o [z.o.o.o.o]) z.o.o.o.i]) (.cond z.o.o.o.i (.seq (.region [.mk (mvR z.i.o) z.o.o.i.o, .mk (mvR z.o.o.i.o) z.o.i]) .ret) .skip)))) (.region [.mk (binR Tryz.prog EK.no .none true BinOp.add z.o.o.i (X.c (.int .i64 1))) z.o.o.i.i, .mk (mvR z.o.o.i.i) z.o.o.i]))))
noncomputable def C64 : CC := (.seq (.region [.mk (mvR (X.c (.int .i64 0))) z.o.i]) (.seq (.seq (.region [.mk (mvR z) z.i.i, .mk (lenR LnK.slice z.i.i) z.o.o.o, .mk (mvR (X.c (.int .i64 0))) z.o.o.i]) (.block 0 (.loop C64L0))) (.seq (.region [.mk (mvR (X.c (.int .i64 (-1)))) z.o.i]) .ret)))
theorem C64ok : CCok Tryz.prog Tryz.f64 19 C64 := by show _ = _; kernel_rfl
@[go_sem] theorem call64 (args H) : callC Tryz.prog 64 args H = .call 64 args := callC_ok (by kernel_rfl) args H
theorem R64ok : resKs Tryz.prog Tryz.f64.results.toList = some [(RK.tmp z.o.i)] := by kernel_rfl

noncomputable def C67L0 : CC := (.seq (.region [.mk (binR Tryz.prog EK.no .none true BinOp.lss z.o.o.o (X.c (.int .i64 8))) z.o.o.i]) (.seq (.cond z.o.o.i .skip (.exit 0)) (.seq (.block 1 (.seq (.region [.mk (mvR z.o.o.o) z.o.i.o, .mk (mvR z.o.i.o) z.i.i]) (.seq (.block 2 (.seq (.region [.mk (mvR z.i.i) z.i.o.o, .mk (mvR z) z.i.o.i, .mk (lenR LnK.str z.i.o.i) z.i.i.o, .mk (binR Tryz.prog EK.no .none false BinOp.geq z.i.o.o z.i.i.o) z.i.i.i, .mk (mvR z.i.i.i) z.o.i.i]) (.cond z.o.i.i (.seq (.region [.mk (mvR z) z.o.o.o.o, .mk (callS Tryz.prog 110 [(X.c (.int .i64 11)), (X.c (.str [112, 97, 99, 107]))]) z.o.o.o.i, .mk (mvR (X.c (.int .i64 0))) z.i, .mk (mvR z.o.o.o.o) z.o.o, .mk (mvR z.o.o.o.i) z.o.i]) .ret) (.seq (.region [.mk (mvR z) z.o.o.i.i, .mk (mvR z.i.i) z.o.i.o.o, .mk (ixR true false 0 0 z.o.o.i.i z.o.i.o.o) z.o.i.o.i, .mk (binR Tryz.prog EK.no .none true BinOp.gtr z.o.i.o.i (X.c (.int .u8 127))) z.o.i.i.o, .mk (mvR z.o.i.i.o) z.o.i.i.i, .mk (mvR z) z.i.o.o.o (Gd.on z.o.i.i.i false) [], .mk (mvR z.i.i) z.i.o.o.i (Gd.on z.o.i.i.i false) [], .mk (ixR true false 0 0 z.i.o.o.o z.i.o.o.i) z.i.o.i.o (Gd.on z.o.i.i.i false) [], .mk (binR Tryz.prog EK.no .none true BinOp.eql z.i.o.i.o (X.c (.int .u8 0))) z.i.o.i.i (Gd.on z.o.i.i.i false) [], .mk (mvR z.i.o.i.i) z.i.i.o.o (Gd.on z.o.i.i.i false) [], .mk (mvR z.i.i) z.i.i.o.i (Gd.on z.i.i.o.o true) [], .mk (binR Tryz.prog EK.no .none true BinOp.gtr z.i.i.o.i (X.c (.int .i64 0))) z.i.i.i.o (Gd.on z.i.i.o.o true) [], .mk (pickR z.i.i.o.o z.i.i.i.o (X.c (.bool false))) z.i.i.i.i (Gd.on z.o.i.i.i false) [], .mk (pickR z.o.i.i.i (X.c (.bool true)) z.i.i.i.i) z.o.o.o.o.o, .mk (mvR z.o.o.o.o.o) z.o.o.i.o]) (.cond z.o.o.i.o (.seq (.region [.mk (mvR z) z.o.o.o.o.i, .mk (callS Tryz.prog 110 [(X.c (.int .i64 10)), (X.c (.str [112, 97, 99, 107]))]) z.o.o.o.i.o, .mk (mvR (X.c (.int .i64 0))) z.i, .mk (mvR z.o.o.o.o.i) z.o.o, .mk (mvR z.o.o.o.i.o) z.o.i]) .ret) .skip))))) (.seq (.region [.mk (mvR z.i.o) z.o.o.o.i.i, .mk (mvR z) z.o.o.i.o.o, .mk (mvR z.i.i) z.o.o.i.o.i, .mk (ixR true false 0 0 z.o.o.i.o.o z.o.o.i.o.i) z.o.o.i.i.o, .mk (binR Tryz.prog EK.no .none true BinOp.and z.o.o.i.i.o (X.c (.int .u8 63))) z.o.o.i.i.i, .mk (convR (Cv.int .i64) z.o.o.i.i.i) z.o.i.o.o.o, .mk (mvR z.i.i) z.o.i.o.o.i, .mk (binR Tryz.prog EK.no .none true BinOp.mul (X.c (.int .i64 6)) z.o.i.o.o.i) z.o.i.o.i.o, .mk (binR Tryz.prog EK.no .none false BinOp.shl z.o.i.o.o.o z.o.i.o.i.o) z.o.i.o.i.i, .mk (binR Tryz.prog EK.no .none false BinOp.or z.o.o.o.i.i z.o.i.o.i.i) z.o.i.i.o.o, .mk (mvR z.o.i.i.o.o) z.i.o]) (.seq (.region [.mk (mvR z) z.o.i.i.o.i, .mk (mvR z.i.i) z.o.i.i.i.o, .mk (ixR true false 0 0 z.o.i.i.o.i z.o.i.i.i.o) z.o.i.i.i.i, .mk (binR Tryz.prog EK.no .none true BinOp.lss z.o.i.i.i.i (X.c (.int .u8 64))) z.i.o.o.o.o]) (.cond z.i.o.o.o.o (.seq (.regionD [.mk (keepH (mvR z.i.i)) z.i.o.o.i.i, .mk (keepH (binR Tryz.prog EK.no .none true BinOp.add z.i.o.o.i.i (X.c (.int .i64 1)))) z.i.o.i.o.o, .mk (keepH (mvR z)) z.i.o.o.i.o, .mk (keepH (slsR z.i.o.o.i.o (.some z.i.o.i.o.o) .none)) z.i.o.i.o.i, .mk (keepH (mvR z.i.o)) z.i.o.o.o.i, .mk (mvR z.i.o.o.o.i) z.i Gd.no [.mk (slsR z.i.o.o.i.o (.some z.i.o.i.o.o) .none) z.i.o.i.o.i Gd.no, .mk (mvR z) z.i.o.o.i.o Gd.no, .mk (binR Tryz.prog EK.no .none true BinOp.add z.i.o.o.i.i (X.c (.int .i64 1))) z.i.o.i.o.o Gd.no, .mk (mvR z.i.i) z.i.o.o.i.i Gd.no], .mk (mvR z.i.o.i.o.i) z.o.o, .mk (mvR (X.c AV.nili)) z.o.i]) .ret) .skip)))))) (.region [.mk (binR Tryz.prog EK.no .none true BinOp.add z.o.o.o (X.c (.int .i64 1))) z.i.o.i.i.o, .mk (mvR z.i.o.i.i.o) z.o.o.o]))))
noncomputable def C67 : CC := (.seq (.region [.mk (mvR (X.c (.int .i64 0))) z.i, .mk (mvR (X.c (.str []))) z.o.o, .mk (mvR (X.c AV.nili)) z.o.i]) (.seq (.region [.mk (mvR (X.c (.int .i64 0))) z.i.o]) (.seq (.seq (.region [.mk (mvR (X.c (.int .i64 0))) z.o.o.o]) (.block 0 (.loop C67L0))) (.seq (.region [.mk (mvR z) z.i.o.i.i.i, .mk (callS Tryz.prog 110 [(X.c (.int .i64 10)), (X.c (.str [112, 97, 99, 107]))]) z.i.i.o.o.o, .mk (mvR (X.c (.int .i64 0))) z.i, .mk (mvR z.i.o.i.i.i) z.o.o, .mk (mvR z.i.i.o.o.o) z.o.i]) .ret))))
theorem C67ok : CCok Tryz.prog Tryz.f67 56 C67 := by show _ = _; kernel_rfl
@[go_sem] theorem call67 (args H) : callC Tryz.prog 67 args H = .call 67 args := callC_ok (by kernel_rfl) args H
theorem R67ok : resKs Tryz.prog Tryz.f67.results.toList = some [(RK.tmp z.i), (RK.tmp z.o.o), (RK.tmp z.o.i)] := by kernel_rfl

noncomputable def C68 : CC := (.seq (.region [.mk (mvR (X.c (.bool false))) z.i.i]) (.seq (.seq (.region [.mk (mvR z) z.o.o.o, .mk (nilR z.o.o.o) z.o.o.i, .mk (faR 1 z.o.o.i) z.o.i.o, .mk (ldR false 1 z.o.i.o) z.o.i.i, .mk (binR Tryz.prog EK.iface .none true BinOp.neq z.o.i.i (X.c AV.nili)) z.i.o.o]) (.cond z.i.o.o (.seq (.region [.mk (mvR (X.c (.bool false))) z.i.i]) .ret) .skip)) (.seq (.region [.mk (mvR z) z.i.o.i, .mk (mvR z) z.i.i.o, .mk (mvR z.o) z.i.i.i, .mk (mvR z.i) z.o.o.o.o, .mk (nilR z.i.o.i) z.o.o.o.i, .mk (faR 0 z.o.o.o.i) z.o.o.i.o, .mk (stR 1 z.o.o.i.o z.i.i.i) .none, .mk (nilR z.i.i.o) z.o.o.i.i, .mk (faR 1 z.o.o.i.i) z.o.i.o.o, .mk (stR 1 z.o.i.o.o z.o.o.o.o) .none]) (.seq (.region [.mk (mvR z.i) z.o.i.o.i, .mk (binR Tryz.prog EK.iface .none true BinOp.eql z.o.i.o.i (X.c AV.nili)) z.o.i.i.o, .mk (mvR z.o.i.i.o) z.i.i]) .ret))))
theorem C68ok : CCok Tryz.prog Tryz.f68 22 C68 := by show _ = _; kernel_rfl
@[go_sem] theorem call68 (args H) : callC Tryz.prog 68 args H = .call 68 args := callC_ok (by kernel_rfl) args H
theorem R68ok : resKs Tryz.prog Tryz.f68.results.toList = some [(RK.tmp z.i.i)] := by kernel_rfl

noncomputable def C70 : CC := (.seq (.region [.mk (mvR (X.c (.str []))) z.o.i, .mk (mvR (X.c (.str []))) z.i.o, .mk (mvR (X.c AV.nili)) z.i.i]) (.seq (.region [.mk (mvR z) z.i.o.o, .mk (callS Tryz.prog 67 [z.i.o.o]) z.i.o.i, .mk (mvR z.i.o.i) z.o.i.i, .mk (extR z.o.i.i 0) z.i.i.o, .mk (extR z.o.i.i 1) z.i.i.i, .mk (extR z.o.i.i 2) z.o.o.o.o, .mk (mvR z.i.i.o) z.o.o.o, .mk (mvR z.i.i.i) z.o.o.i, .mk (mvR z.o.o.o.o) z.o.i.o]) (.seq (.block 0 (.seq (.region [.mk (mvR z.o.i.o) z.o.o.i.o, .mk (mkiR 51 (X.c (.int .i64 11))) z.o.o.i.i, .mk (callS Tryz.prog 23 [z.o.o.i.o, z.o.o.i.i]) z.o.i.o.o, .mk (mvR z.o.i.o.o) z.o.i.o.i, .mk (mvR z.o.i.o) z.o.i.i.o (Gd.on z.o.i.o.i false) [], .mk (binR Tryz.prog EK.iface .none true BinOp.neq z.o.i.i.o (X.c AV.nili)) z.o.i.i.i (Gd.on z.o.i.o.i false) [], .mk (pickR z.o.i.o.i (X.c (.bool true)) z.o.i.i.i) z.i.o.o.o, .mk (mvR z.i.o.o.o) z.o.o.o.i]) (.cond z.o.o.o.i (.seq (.region [.mk (mvR z) z.i.o.o.i, .mk (mvR z.o.i.o) z.i.o.i.o, .mk (mvR (X.c (.str []))) z.o.i, .mk (mvR z.i.o.o.i) z.i.o, .mk (mvR z.i.o.i.o) z.i.i]) .ret) (.seq (.region [.mk (mvR z.o.o.o) z.i.i.o.o, .mk (mvR z.o) z.i.i.o.i, .mk (binR Tryz.prog EK.no .none false BinOp.gtr z.i.i.o.o z.i.i.o.i) z.i.i.i.o, .mk (mvR z.i.i.i.o) z.i.o.i.i]) (.cond z.i.o.i.i (.seq (.region [.mk (mvR z) z.i.i.i.i, .mk (callS Tryz.prog 110 [(X.c (.int .i64 13)), (X.c (.str [112, 97, 99, 107]))]) z.o.o.o.o.o, .mk (mvR (X.c (.str []))) z.o.i, .mk (mvR z.i.i.i.i) z.i.o, .mk (mvR z.o.o.o.o.o) z.i.i]) .ret) (.seq (.region [.mk (mvR z.o.o.o) z.o.o.o.i.o, .mk (mvR z.o.o.i) z.o.o.o.i.i, .mk (lenR LnK.str z.o.o.o.i.i) z.o.o.i.o.o, .mk (binR Tryz.prog EK.no .none false BinOp.gtr z.o.o.o.i.o z.o.o.i.o.o) z.o.o.i.o.i, .mk (mvR z.o.o.i.o.i) z.o.o.o.o.i]) (.cond z.o.o.o.o.i (.seq (.region [.mk (mvR z) z.o.o.i.i.o, .mk (callS Tryz.prog 110 [(X.c (.int .i64 11)), (X.c (.str [112, 97, 99, 107]))]) z.o.o.i.i.i, .mk (mvR (X.c (.str []))) z.o.i, .mk (mvR z.o.o.i.i.o) z.i.o, .mk (mvR z.o.o.i.i.i) z.i.i]) .ret) .skip))))))) (.seq (.regionD [.mk (keepH (mvR z.o.o.o)) z.o.i.i.o.o, .mk (keepH (mvR z.o.o.i)) z.o.i.o.i.i, .mk (keepH (slsR z.o.i.o.i.i (.some z.o.i.i.o.o) .none)) z.o.i.i.o.i, .mk (keepH (mvR z.o.o.o)) z.o.i.o.o.i, .mk (keepH (mvR z.o.o.i)) z.o.i.o.o.o, .mk (keepH (slsR z.o.i.o.o.o .none (.some z.o.i.o.o.i))) z.o.i.o.i.o, .mk (mvR z.o.i.o.i.o) z.o.i Gd.no [.mk (slsR z.o.i.o.i.i (.some z.o.i.i.o.o) .none) z.o.i.i.o.i Gd.no, .mk (mvR z.o.o.i) z.o.i.o.i.i Gd.no, .mk (mvR z.o.o.o) z.o.i.i.o.o Gd.no], .mk (mvR z.o.i.i.o.i) z.i.o, .mk (mvR (X.c AV.nili)) z.i.i]) .ret))))
theorem C70ok : CCok Tryz.prog Tryz.f70 45 C70 := by show _ = _; kernel_rfl
@[go_sem] theorem call70 (args H) : callC Tryz.prog 70 args H = .call 70 args := callC_ok (by kernel_rfl) args H
theorem R70ok : resKs Tryz.prog Tryz.f70.results.toList = some [(RK.tmp z.o.i), (RK.tmp z.i.o), (RK.tmp z.i.i)] := by kernel_rfl

noncomputable def C72 : CC := (.seq (.region [.mk (boxR false z) z.i, .mk (boxR false z.o) z.o.o, .mk (mvR (X.c (.bool false))) z.o.i]) (.seq (.region [.mk (faR 0 z.i) z.i.o, .mk (ldR false 1 z.i.o) z.i.i, .mk (faR 0 z.o.o) z.o.o.o, .mk (ldR false 1 z.o.o.o) z.o.o.i, .mk (binR Tryz.prog EK.no .none false BinOp.eql z.i.i z.o.o.i) z.o.i.o, .mk (mvR z.o.i.o) z.o.i.i, .mk (faR 1 z.i) z.i.o.o (Gd.on z.o.i.i true) [], .mk (ldR false 1 z.i.o.o) z.i.o.i (Gd.on z.o.i.i true) [], .mk (faR 1 z.o.o) z.i.i.o (Gd.on z.o.i.i true) [], .mk (ldR false 1 z.i.i.o) z.i.i.i (Gd.on z.o.i.i true) [], .mk (binR Tryz.prog EK.no .none false BinOp.eql z.i.o.i z.i.i.i) z.o.o.o.o (Gd.on z.o.i.i true) [], .mk (pickR z.o.i.i z.o.o.o.o (X.c (.bool false))) z.o.o.o.i, .mk (mvR z.o.o.o.i) z.o.o.i.o, .mk (faR 2 z.i) z.o.o.i.i (Gd.on z.o.o.i.o true) [], .mk (ldR false 1 z.o.o.i.i) z.o.i.o.o (Gd.on z.o.o.i.o true) [], .mk (faR 2 z.o.o) z.o.i.o.i (Gd.on z.o.o.i.o true) [], .mk (ldR false 1 z.o.i.o.i) z.o.i.i.o (Gd.on z.o.o.i.o true) [], .mk (binR Tryz.prog EK.no .none false BinOp.eql z.o.i.o.o z.o.i.i.o) z.o.i.i.i (Gd.on z.o.o.i.o true) [], .mk (pickR z.o.o.i.o z.o.i.i.i (X.c (.bool false))) z.i.o.o.o, .mk (mvR z.i.o.o.o) z.i.o.o.i, .mk (faR 3 z.i) z.i.o.i.o (Gd.on z.i.o.o.i true) [], .mk (ldR false 1 z.i.o.i.o) z.i.o.i.i (Gd.on z.i.o.o.i true) [], .mk (faR 3 z.o.o) z.i.i.o.o (Gd.on z.i.o.o.i true) [], .mk (ldR false 1 z.i.i.o.o) z.i.i.o.i (Gd.on z.i.o.o.i true) [], .mk (binR Tryz.prog EK.no .none false BinOp.eql z.i.o.i.i z.i.i.o.i) z.i.i.i.o (Gd.on z.i.o.o.i true) [], .mk (pickR z.i.o.o.i z.i.i.i.o (X.c (.bool false))) z.i.i.i.i, .mk (mvR z.i.i.i.i) z.o.o.o.o.o, .mk (faR 4 z.i) z.o.o.o.o.i (Gd.on z.o.o.o.o.o true) [], .mk (ldR false 1 z.o.o.o.o.i) z.o.o.o.i.o (Gd.on z.o.o.o.o.o true) [], .mk (faR 4 z.o.o) z.o.o.o.i.i (Gd.on z.o.o.o.o.o true) [], .mk (ldR false 1 z.o.o.o.i.i) z.o.o.i.o.o (Gd.on z.o.o.o.o.o true) [], .mk (binR Tryz.prog EK.no .none false BinOp.eql z.o.o.o.i.o z.o.o.i.o.o) z.o.o.i.o.i (Gd.on z.o.o.o.o.o true) [], .mk (pickR z.o.o.o.o.o z.o.o.i.o.i (X.c (.bool false))) z.o.o.i.i.o, .mk (mvR z.o.o.i.i.o) z.o.o.i.i.i, .mk (faR 5 z.i) z.o.i.o.o.o (Gd.on z.o.o.i.i.i true) [], .mk (ldR false 1 z.o.i.o.o.o) z.o.i.o.o.i (Gd.on z.o.o.i.i.i true) [], .mk (faR 5 z.o.o) z.o.i.o.i.o (Gd.on z.o.o.i.i.i true) [], .mk (ldR false 1 z.o.i.o.i.o) z.o.i.o.i.i (Gd.on z.o.o.i.i.i true) [], .mk (callS Tryz.prog 117 [z.o.i.o.o.i, z.o.i.o.i.i]) z.o.i.i.o.o (Gd.on z.o.o.i.i.i true) [], .mk (pickR z.o.o.i.i.i z.o.i.i.o.o (X.c (.bool false))) z.o.i.i.o.i, .mk (mvR z.o.i.i.o.i) z.o.i]) .ret))
theorem C72ok : CCok Tryz.prog Tryz.f72 45 C72 := by show _ = _; kernel_rfl
@[go_sem] theorem call72 (args H) : callC Tryz.prog 72 args H = .call 72 args := callC_ok (by kernel_rfl) args H
theorem R72ok : resKs Tryz.prog Tryz.f72.results.toList = some [(RK.tmp z.o.i)] := by kernel_rfl

@[go_sem] theorem call74 (args H) : callC Tryz.prog 74 args H = .call 74 args := callC_ok (by kernel_rfl) args H
noncomputable def C85 : CC := (.region [.mk (mvR z) z.o.i, .mk (mvR z) z.i.o, .mk (lenR LnK.slice z.i.o) z.i.i, .mk (mvR z.o) z.o.o.o, .mk (callS Tryz.prog 127 [z.o.i, z.i.i, z.o.o.o]) z.o.o.i])
theorem C85ok : CCok Tryz.prog Tryz.f85 9 C85 := by show _ = _; kernel_rfl
@[go_sem] theorem call85 (args H) : callC Tryz.prog 85 args H = .call 85 args := callC_ok (by kernel_rfl) args H
theorem R85ok : resKs Tryz.prog Tryz.f85.results.toList = some [] := by kernel_rfl

noncomputable def C86 : CC := (.seq (.region [.mk (boxR false z) z.i, .mk (boxR false z.o) z.o.o, .mk (mvR (X.c (.int .i64 0))) z.o.i]) (.seq (.regionD [.mk (keepH (faR 0 z.o.o)) z.i.i.i, .mk (keepH (ldR false 1 z.i.i.i)) z.o.o.o.o, .mk (keepH (faR 0 z.i)) z.i.o.i, .mk (keepH (ldR false 1 z.i.o.i)) z.i.i.o, .mk (keepH (faR 2 z.o.o)) z.o.o.i, .mk (keepH (faR 0 z.o.o.i)) z.o.i.o, .mk (keepH (ldR false 1 z.o.i.o)) z.o.i.i, .mk (keepH (faR 2 z.i)) z.i.o, .mk (keepH (faR 0 z.i.o)) z.i.i, .mk (keepH (ldR false 1 z.i.i)) z.o.o.o, .mk (callS Tryz.prog 88 [z.o.o.o, z.o.i.i]) z.i.o.o Gd.no [.mk (ldR false 1 z.i.o.i) z.i.i.o Gd.no, .mk (faR 0 z.i) z.i.o.i Gd.no, .mk (ldR false 1 z.i.i.i) z.o.o.o.o Gd.no, .mk (faR 0 z.o.o) z.i.i.i Gd.no], .mk (callS Tryz.prog 49 [z.i.i.o, z.o.o.o.o]) z.o.o.o.i, .mk (addH (bslR 1 2 [(.int .i64 0)] [(0, z.i.o.o), (1, z.o.o.o.i)])) z.o.o.i.o, .mk (callS Tryz.prog 87 [z.o.o.i.o]) z.o.o.i.i, .mk (mvR z.o.o.i.i) z.o.i]) .ret))
theorem C86ok : CCok Tryz.prog Tryz.f86 19 C86 := by show _ = _; kernel_rfl
@[go_sem] theorem call86 (args H) : callC Tryz.prog 86 args H = .call 86 args := callC_ok (by kernel_rfl) args H
theorem R86ok : resKs Tryz.prog Tryz.f86.results.toList = some [(RK.tmp z.o.i)] := by kernel_rfl

noncomputable def C87L0 : CC := (.seq (.region [.mk (binR Tryz.prog EK.no .none false BinOp.lss z.o.o.i z.o.o.o) z.o.i.o]) (.seq (.cond z.o.i.o .skip (.exit 0)) (.seq (.block 1 (.seq (.region [.mk (iaS 1 z.i.i z.o.o.i) z.o.i.i, .mk (ldR false 1 z.o.i.i) z.i.o.o, .mk (mvR z.i.o.o) z.i.o]) (.seq (.region [.mk (mvR z.i.o) z.i.o.i, .mk (mvR z.o.o) z.i.i.o, .mk (binR Tryz.prog EK.no .none false BinOp.neq z.i.o.i z.i.i.o) z.i.i.i]) (.cond z.i.i.i (.seq (.region [.mk (mvR z.i.o) z.o.o.o.o, .mk (mvR z.o.o.o.o) z.i]) .ret) .skip)))) (.region [.mk (binR Tryz.prog EK.no .none true BinOp.add z.o.o.i (X.c (.int .i64 1))) z.o.o.o.i, .mk (mvR z.o.o.o.i) z.o.o.i]))))
noncomputable def C87 : CC := (.seq (.region [.mk (mvR (X.c (.int .i64 0))) z.i]) (.seq (.region [.mk (mvR (X.c (.int .i64 0))) z.o.o]) (.seq (.seq (.region [.mk (mvR z) z.i.i, .mk (lenR LnK.slice z.i.i) z.o.o.o, .mk (mvR (X.c (.int .i64 0))) z.o.o.i]) (.block 0 (.loop C87L0))) (.seq (.region [.mk (mvR z.o.o) z.o.o.i.o, .mk (mvR z.o.o.i.o) z.i]) .ret))))
theorem C87ok : CCok Tryz.prog Tryz.f87 18 C87 := by show _ = _; kernel_rfl
@[go_sem] theorem call87 (args H) : callC Tryz.prog 87 args H = .call 87 args := callC_ok (by kernel_rfl) args H
theorem R87ok : resKs Tryz.prog Tryz.f87.results.toList = some [(RK.tmp z.i)] := by kernel_rfl

noncomputable def C88 : CC := (.seq (.region [.mk (mvR (X.c (.int .i64 0))) z.o.i]) (.seq (.region [.mk (mvR z) z.o.o.o, .mk (callS Tryz.prog 128 [z.o.o.o]) z.o.o.i, .mk (mvR z.o.o.i) z.i.o]) (.seq (.region [.mk (mvR z.o) z.o.i.o, .mk (callS Tryz.prog 128 [z.o.i.o]) z.o.i.i, .mk (mvR z.o.i.i) z.i.i]) (.seq (.seq (.region [.mk (mvR z.i.o) z.i.o.o]) (.cond z.i.o.o (.seq (.seq (.region [.mk (mvR z.i.i) z.i.o.i]) (.cond z.i.o.i (.seq (.region [.mk (mvR (X.c (.int .i64 0))) z.o.i]) .ret) .skip)) (.seq (.region [.mk (mvR (X.c (.int .i64 (-1)))) z.o.i]) .ret)) .skip)) (.seq (.seq (.region [.mk (mvR z.i.i) z.i.i.o]) (.cond z.i.i.o (.seq (.region [.mk (mvR (X.c (.int .i64 1))) z.o.i]) .ret) .skip)) (.seq (.seq (.region [.mk (mvR z) z.i.i.i, .mk (mvR z.o) z.o.o.o.o, .mk (binR Tryz.prog EK.no .none false BinOp.lss z.i.i.i z.o.o.o.o) z.o.o.o.i]) (.cond z.o.o.o.i (.seq (.region [.mk (mvR (X.c (.int .i64 (-1)))) z.o.i]) .ret) .skip)) (.seq (.seq (.region [.mk (mvR z) z.o.o.i.o, .mk (mvR z.o) z.o.o.i.i, .mk (binR Tryz.prog EK.no .none false BinOp.gtr z.o.o.i.o z.o.o.i.i) z.o.i.o.o]) (.cond z.o.i.o.o (.seq (.region [.mk (mvR (X.c (.int .i64 1))) z.o.i]) .ret) .skip)) (.seq (.region [.mk (mvR (X.c (.int .i64 0))) z.o.i]) .ret))))))))
theorem C88ok : CCok Tryz.prog Tryz.f88 20 C88 := by show _ = _; kernel_rfl
@[go_sem] theorem call88 (args H) : callC Tryz.prog 88 args H = .call 88 args := callC_ok (by kernel_rfl) args H
theorem R88ok : resKs Tryz.prog Tryz.f88.results.toList = some [(RK.tmp z.o.i)] := by kernel_rfl

noncomputable def C89L0 : CC := (.block 1 (.seq (.region [.mk (mvR z.i) z.o.i.i.o, .mk (mvR z.o) z.o.i.i.i, .mk (binR Tryz.prog EK.no .none false BinOp.sub z.o.i.i.o z.o.i.i.i) z.i.o.o.o, .mk (mvR z.i.o.o.o) z.i.o.i]) (.seq (.seq (.region [.mk (mvR z.i.o.i) z.i.o.o.i, .mk (binR Tryz.prog EK.no .none true BinOp.leq z.i.o.o.i (X.c (.int .i64 12))) z.i.o.i.o]) (.cond z.i.o.i.o (.seq (.region [.mk (mvR z) z.i.o.i.i, .mk (mvR z.o) z.i.i.o.o, .mk (mvR z.i) z.i.i.o.i, .mk (mvR z.o.i) z.i.i.i.o, .mk (callS Tryz.prog 129 [z.i.o.i.i, z.i.i.o.o, z.i.i.o.i, z.i.i.i.o]) z.i.i.i.i]) .ret) .skip)) (.seq (.seq (.region [.mk (mvR z.o.o) z.o.o.o.o.o, .mk (binR Tryz.prog EK.no .none true BinOp.eql z.o.o.o.o.o (X.c (.int .i64 0))) z.o.o.o.o.i]) (.cond z.o.o.o.o.i (.seq (.region [.mk (mvR z) z.o.o.o.i.o, .mk (mvR z.o) z.o.o.o.i.i, .mk (mvR z.i) z.o.o.i.o.o, .mk (mvR z.o.i) z.o.o.i.o.i, .mk (callS Tryz.prog 130 [z.o.o.o.i.o, z.o.o.o.i.i, z.o.o.i.o.o, z.o.o.i.o.i]) z.o.o.i.i.o]) .ret) .skip)) (.seq (.seq (.region [.mk (mvR z.o.i.i) z.o.o.i.i.i, .mk (unR UnOp.not z.o.o.i.i.i) z.o.i.o.o.o]) (.cond z.o.i.o.o.o (.seq (.region [.mk (mvR z) z.o.i.o.o.i, .mk (mvR z.o) z.o.i.o.i.o, .mk (mvR z.i) z.o.i.o.i.i, .mk (mvR z.o.i) z.o.i.i.o.o, .mk (callS Tryz.prog 131 [z.o.i.o.o.i, z.o.i.o.i.o, z.o.i.o.i.i, z.o.i.i.o.o]) z.o.i.i.o.i]) (.region [.mk (mvR z.o.o) z.o.i.i.i.o, .mk (binR Tryz.prog EK.no .none true BinOp.sub z.o.i.i.i.o (X.c (.int .i64 1))) z.o.i.i.i.i, .mk (mvR z.o.i.i.i.i) z.o.o])) .skip)) (.seq (.region [.mk (mvR z) z.i.o.o.o.i, .mk (mvR z.o) z.i.o.o.i.o, .mk (mvR z.i) z.i.o.o.i.i, .mk (mvR z.o.i) z.i.o.i.o.o, .mk (callS Tryz.prog 132 [z.i.o.o.o.i, z.i.o.o.i.o, z.i.o.o.i.i, z.i.o.i.o.o]) z.i.o.i.o.i, .mk (mvR z.i.o.i.o.i) z.i.o.o.o.o, .mk (extR z.i.o.o.o.o 0) z.i.o.i.i.o, .mk (extR z.i.o.o.o.o 1) z.i.o.i.i.i, .mk (mvR z.i.o.i.i.o) z.i.i.o, .mk (mvR z.i.o.i.i.i) z.i.i.i]) (.seq (.seq (.region [.mk (mvR z.i.i.i) z.i.i.o.o.o, .mk (binR Tryz.prog EK.no .none true BinOp.eql z.i.i.o.o.o (X.c (.int .i64 2))) z.i.i.o.o.i]) (.cond z.i.i.o.o.i (.seq (.region [.mk (mvR z) z.i.i.o.i.o, .mk (mvR z.o) z.i.i.o.i.i, .mk (mvR z.i) z.i.i.i.o.o, .mk (mvR z.o.i) z.i.i.i.o.i, .mk (callS Tryz.prog 133 [z.i.i.o.i.o, z.i.i.o.i.i, z.i.i.i.o.o, z.i.i.i.o.i]) z.i.i.i.i.o]) (.seq (.region [.mk (mvR z.i) z.i.i.i.i.i, .mk (binR Tryz.prog EK.no .none true BinOp.sub z.i.i.i.i.i (X.c (.int .i64 1))) z.o.o.o.o.o.o, .mk (mvR z.i.i.o) z.o.o.o.o.o.i, .mk (mvR z.o) z.o.o.o.o.i.o, .mk (binR Tryz.prog EK.no .none false BinOp.sub z.o.o.o.o.o.i z.o.o.o.o.i.o) z.o.o.o.o.i.i, .mk (binR Tryz.prog EK.no .none false BinOp.sub z.o.o.o.o.o.o z.o.o.o.o.i.i) z.o.o.o.i.o.o, .mk (mvR z.o.o.o.i.o.o) z.i.i.o]) (.region [.mk (mvR (X.c (.int .i64 1))) z.i.i.i]))) .skip)) (.seq (.seq (.region [.mk (mvR z.o.i.i) z.o.o.o.i.o.i, .mk (mvR z.o.o.o.i.o.i) z.o.o.o.i.i.o, .mk (mvR z.i.o.o) z.o.o.o.i.i.i (Gd.on z.o.o.o.i.i.o true) [], .mk (pickR z.o.o.o.i.i.o z.o.o.o.i.i.i (X.c (.bool false))) z.o.o.i.o.o.o, .mk (mvR z.o.o.i.o.o.o) z.o.o.i.o.o.i, .mk (mvR z.i.i.i) z.o.o.i.o.i.o (Gd.on z.o.o.i.o.o.i true) [], .mk (binR Tryz.prog EK.no .none true BinOp.eql z.o.o.i.o.i.o (X.c (.int .i64 1))) z.o.o.i.o.i.i (Gd.on z.o.o.i.o.o.i true) [], .mk (pickR z.o.o.i.o.o.i z.o.o.i.o.i.i (X.c (.bool false))) z.o.o.i.i.o.o]) (.cond z.o.o.i.i.o.o (.seq (.region [.mk (mvR z) z.o.o.i.i.o.i, .mk (mvR z.o) z.o.o.i.i.i.o, .mk (mvR z.i) z.o.o.i.i.i.i, .mk (mvR z.o.i) z.o.i.o.o.o.o, .mk (callS Tryz.prog 134 [z.o.o.i.i.o.i, z.o.o.i.i.i.o, z.o.o.i.i.i.i, z.o.i.o.o.o.o]) z.o.i.o.o.o.i]) (.cond z.o.i.o.o.o.i .ret .skip)) .skip)) (.seq (.seq (.regionD [.mk (keepH (mvR z.o)) z.o.i.o.o.i.o, .mk (keepH (binR Tryz.prog EK.no .none true BinOp.gtr z.o.i.o.o.i.o (X.c (.int .i64 0)))) z.o.i.o.o.i.i, .mk (keepH (mvR z.o.i.o.o.i.i)) z.o.i.o.i.o.o, .mk (keepH (mvR z.i.i.o)) z.o.i.i.i.o.o (Gd.on z.o.i.o.i.o.o true) [], .mk (keepH (mvR z)) z.o.i.i.o.i.i (Gd.on z.o.i.o.i.o.o true) [], .mk (keepH (iaS 2 z.o.i.i.o.i.i z.o.i.i.i.o.o)) z.o.i.i.i.o.i (Gd.on z.o.i.o.i.o.o true) [], .mk (keepH (ldR true 2 z.o.i.i.i.o.i)) z.o.i.i.i.i.o (Gd.on z.o.i.o.i.o.o true) [], .mk (keepH (mvR z.o)) z.o.i.o.i.i.i (Gd.on z.o.i.o.i.o.o true) [], .mk (keepH (binR Tryz.prog EK.no .none true BinOp.sub z.o.i.o.i.i.i (X.c (.int .i64 1)))) z.o.i.i.o.o.o (Gd.on z.o.i.o.i.o.o true) [], .mk (keepH (mvR z)) z.o.i.o.i.i.o (Gd.on z.o.i.o.i.o.o true) [], .mk (keepH (iaS 2 z.o.i.o.i.i.o z.o.i.i.o.o.o)) z.o.i.i.o.o.i (Gd.on z.o.i.o.i.o.o true) [], .mk (keepH (ldR true 2 z.o.i.i.o.o.i)) z.o.i.i.o.i.o (Gd.on z.o.i.o.i.o.o true) [], .mk (keepH (mvR z.o.i)) z.o.i.o.i.o.i (Gd.on z.o.i.o.i.o.o true) [], .mk (callX Tryz.prog z.o.i.o.i.o.i [z.o.i.i.o.i.o, z.o.i.i.i.i.o]) z.o.i.i.i.i.i (Gd.on z.o.i.o.i.o.o true) [], .mk (keepH (binR Tryz.prog EK.no .none true BinOp.lss z.o.i.i.i.i.i (X.c (.int .i64 0)))) z.i.o.o.o.o.o (Gd.on z.o.i.o.i.o.o true) [], .mk (keepH (unR UnOp.not z.i.o.o.o.o.o)) z.i.o.o.o.o.i (Gd.on z.o.i.o.i.o.o true) [], .mk (keepH (pickR z.o.i.o.i.o.o z.i.o.o.o.o.i (X.c (.bool false)))) z.i.o.o.o.i.o]) (.cond z.i.o.o.o.i.o (.seq (.region [.mk (mvR z) z.i.o.o.o.i.i, .mk (mvR z.o) z.i.o.o.i.o.o, .mk (mvR z.i) z.i.o.o.i.o.i, .mk (mvR z.i.i.o) z.i.o.o.i.i.o, .mk (mvR z.o.i) z.i.o.o.i.i.i, .mk (callS Tryz.prog 135 [z.i.o.o.o.i.i, z.i.o.o.i.o.o, z.i.o.o.i.o.i, z.i.o.o.i.i.o, z.i.o.o.i.i.i]) z.i.o.i.o.o.o, .mk (mvR z.i.o.i.o.o.o) z.o.o.o.o]) (.seq (.region [.mk (mvR z.o.o.o.o) z.i.o.i.o.o.i, .mk (mvR z.i.o.i.o.o.i) z.o]) (.exit 1))) .skip)) (.seq (.region [.mk (mvR z) z.i.o.i.o.i.i, .mk (mvR z.o) z.i.o.i.i.o.o, .mk (mvR z.i) z.i.o.i.i.o.i, .mk (mvR z.i.i.o) z.i.o.i.i.i.o, .mk (mvR z.o.i) z.i.o.i.i.i.i, .mk (callS Tryz.prog 136 [z.i.o.i.o.i.i, z.i.o.i.i.o.o, z.i.o.i.i.o.i, z.i.o.i.i.i.o, z.i.o.i.i.i.i]) z.i.i.o.o.o.o, .mk (mvR z.i.i.o.o.o.o) z.i.o.i.o.i.o, .mk (extR z.i.o.i.o.i.o 0) z.i.i.o.o.o.i, .mk (extR z.i.o.i.o.i.o 1) z.i.i.o.o.i.o, .mk (mvR z.i.i.o.o.o.i) z.o.o.o.i, .mk (mvR z.i.i.o.o.i.o) z.o.o.i.o]) (.seq (.region [.mk (mvR z.o.o.i.o) z.i.i.o.o.i.i, .mk (mvR z.i.i.o.o.i.i) z.i.o.o]) (.seq (.region [.mk (mvR z.o.o.o.i) z.i.i.o.i.o.o, .mk (mvR z.o) z.i.i.o.i.o.i, .mk (binR Tryz.prog EK.no .none false BinOp.sub z.i.i.o.i.o.o z.i.i.o.i.o.i) z.i.i.o.i.i.o, .mk (mvR z.i) z.i.i.o.i.i.i, .mk (mvR z.o.o.o.i) z.i.i.i.o.o.o, .mk (binR Tryz.prog EK.no .none false BinOp.sub z.i.i.o.i.i.i z.i.i.i.o.o.o) z.i.i.i.o.o.i, .mk (mvR z.i.i.o.i.i.o) z.o.o.i.i, .mk (mvR z.i.i.i.o.o.i) z.o.i.o.o]) (.seq (.region [.mk (mvR z.i.o.i) z.i.i.i.o.i.o, .mk (binR Tryz.prog EK.no .none true BinOp.quo z.i.i.i.o.i.o (X.c (.int .i64 8))) z.i.i.i.o.i.i, .mk (mvR z.i.i.i.o.i.i) z.o.i.o.i]) (.seq (.region [.mk (mvR z.o.o.i.i) z.i.i.i.i.o.o, .mk (mvR z.o.i.o.o) z.i.i.i.i.o.i, .mk (binR Tryz.prog EK.no .none false BinOp.lss z.i.i.i.i.o.o z.i.i.i.i.o.i) z.i.i.i.i.i.o]) (.cond z.i.i.i.i.i.o (.seq (.region [.mk (mvR z.o.o.i.i) z.i.i.i.i.i.i, .mk (mvR z.o.i.o.i) z.o.o.o.o.o.o.o, .mk (binR Tryz.prog EK.no .none false BinOp.geq z.i.i.i.i.i.i z.o.o.o.o.o.o.o) z.o.o.o.o.o.o.i, .mk (mvR z.o.o.o.o.o.o.i) z.o.i.i]) (.seq (.region [.mk (mvR z) z.o.o.o.o.o.i.o, .mk (mvR z.o) z.o.o.o.o.o.i.i, .mk (mvR z.o.o.o.i) z.o.o.o.o.i.o.o, .mk (mvR z.o.o) z.o.o.o.o.i.o.i, .mk (mvR z.o.i) z.o.o.o.o.i.i.o, .mk (callS Tryz.prog 89 [z.o.o.o.o.o.i.o, z.o.o.o.o.o.i.i, z.o.o.o.o.i.o.o, z.o.o.o.o.i.o.i, z.o.o.o.o.i.i.o]) z.o.o.o.o.i.i.i]) (.region [.mk (mvR z.o.o.o.i) z.o.o.o.i.o.o.o, .mk (binR Tryz.prog EK.no .none true BinOp.add z.o.o.o.i.o.o.o (X.c (.int .i64 1))) z.o.o.o.i.o.o.i, .mk (mvR z.o.o.o.i.o.o.i) z.o]))) (.seq (.region [.mk (mvR z.o.i.o.o) z.o.o.o.i.o.i.o, .mk (mvR z.o.i.o.i) z.o.o.o.i.o.i.i, .mk (binR Tryz.prog EK.no .none false BinOp.geq z.o.o.o.i.o.i.o z.o.o.o.i.o.i.i) z.o.o.o.i.i.o.o, .mk (mvR z.o.o.o.i.i.o.o) z.o.i.i]) (.seq (.region [.mk (mvR z) z.o.o.o.i.i.o.i, .mk (mvR z.o.o.o.i) z.o.o.o.i.i.i.o, .mk (binR Tryz.prog EK.no .none true BinOp.add z.o.o.o.i.i.i.o (X.c (.int .i64 1))) z.o.o.o.i.i.i.i, .mk (mvR z.i) z.o.o.i.o.o.o.o, .mk (mvR z.o.o) z.o.o.i.o.o.o.i, .mk (mvR z.o.i) z.o.o.i.o.o.i.o, .mk (callS Tryz.prog 89 [z.o.o.o.i.i.o.i, z.o.o.o.i.i.i.i, z.o.o.i.o.o.o.o, z.o.o.i.o.o.o.i, z.o.o.i.o.o.i.o]) z.o.o.i.o.o.i.i]) (.region [.mk (mvR z.o.o.o.i) z.o.o.i.o.i.o.o, .mk (mvR z.o.o.i.o.i.o.o) z.i]))))))))))))))))))
noncomputable def C89 : CC := (.seq (.region [.mk (mvR (X.c (.bool true))) z.o.i.i]) (.seq (.region [.mk (mvR (X.c (.bool true))) z.i.o.o]) (.block 0 (.loop C89L0))))
theorem C89ok : CCok Tryz.prog Tryz.f89 148 C89 := by show _ = _; kernel_rfl
@[go_sem] theorem call89 (args H) : callC Tryz.prog 89 args H = .call 89 args := callC_ok (by kernel_rfl) args H
theorem R89ok : resKs Tryz.prog Tryz.f89.results.toList = some [] := by kernel_rfl

noncomputable def C90 : CC := (.seq (.region [.mk (mvR (X.c (.int .i64 0))) z.i]) (.seq (.cond (X.c (.bool false)) (.seq (.region [.mk (mvR z) z.o.o, .mk (convR (Cv.int IntKind.u32) z.o.o) z.o.i, .mk (callS Tryz.prog 137 [z.o.i]) z.i.o, .mk (mvR z.i.o) z.i]) .ret) .skip) (.seq (.region [.mk (mvR z) z.i.i, .mk (callS Tryz.prog 138 [z.i.i]) z.o.o.o, .mk (mvR z.o.o.o) z.i]) .ret)))
theorem C90ok : CCok Tryz.prog Tryz.f90 8 C90 := by show _ = _; kernel_rfl
@[go_sem] theorem call90 (args H) : callC Tryz.prog 90 args H = .call 90 args := callC_ok (by kernel_rfl) args H
theorem R90ok : resKs Tryz.prog Tryz.f90.results.toList = some [(RK.tmp z.i)] := by kernel_rfl

noncomputable def C91 : CC := (.seq (.region [.mk (mvR (X.c (.bool false))) z.i]) (.seq (.region [.mk (mvR z) z.o.o, .mk (mvR z) z.o.i, .mk (binR Tryz.prog EK.no .none false BinOp.neq z.o.o z.o.i) z.i.o, .mk (mvR z.i.o) z.i]) .ret))
theorem C91ok : CCok Tryz.prog Tryz.f91 6 C91 := by show _ = _; kernel_rfl
@[go_sem] theorem call91 (args H) : callC Tryz.prog 91 args H = .call 91 args := callC_ok (by kernel_rfl) args H
theorem R91ok : resKs Tryz.prog Tryz.f91.results.toList = some [(RK.tmp z.i)] := by kernel_rfl

noncomputable def C96L0 : CC := (.seq (.seq (.region [.mk (mvR z.i.i) z.o.o.o.i, .mk (mvR z) z.o.o.i.o, .mk (lenR LnK.slice z.o.o.i.o) z.o.o.i.i, .mk (binR Tryz.prog EK.no .none false BinOp.lss z.o.o.o.i z.o.o.i.i) z.o.i.o.o]) (.cond z.o.i.o.o .skip (.exit 0))) (.seq (.block 1 (.seq (.region [.mk (mvR z) z.o.i.i.i, .mk (mvR z.i.i) z.i.o.o.o, .mk (iaS 8 z.o.i.i.i z.i.o.o.o) z.i.o.o.i, .mk (ldR true 8 z.i.o.o.i) z.i.o.i.o, .mk (fun _ H => newC false [(.int .i64 0), (.int .i64 0), (.str []), (.str []), (.bool false), AV.nils, AV.nils, AV.nils] H) z.o.o.o, .mk (stR 8 z.o.o.o z.i.o.i.o) .none]) (.seq (.region [.mk (mvR z.o) z.i.o.i.i, .mk (ldR true 8 z.o.o.o) z.i.i.o.o, .mk (callX Tryz.prog z.i.o.i.i [z.i.i.o.o]) z.i.i.o.i, .mk (unR UnOp.not z.i.i.o.i) z.i.i.i.o]) (.cond z.i.i.i.o (.seq (.region [.mk (mvR z) z.i.i.i.i, .mk (mvR z.i.o) z.o.o.o.o.o, .mk (ldR true 8 z.o.o.o) z.o.o.o.o.i, .mk (iaS 8 z.i.i.i.i z.o.o.o.o.o) z.o.o.o.i.o, .mk (stR 8 z.o.o.o.i.o z.o.o.o.o.i) .none]) (.region [.mk (mvR z.i.o) z.o.o.o.i.i, .mk (binR Tryz.prog EK.no .none true BinOp.add z.o.o.o.i.i (X.c (.int .i64 1))) z.o.o.i.o.o, .mk (mvR z.o.o.i.o.o) z.i.o])) .skip)))) (.region [.mk (mvR z.i.i) z.o.i.o.i, .mk (binR Tryz.prog EK.no .none true BinOp.add z.o.i.o.i (X.c (.int .i64 1))) z.o.i.i.o, .mk (mvR z.o.i.i.o) z.i.i])))
noncomputable def C96 : CC := (.seq (.region [.mk (mvR (X.c AV.nils)) z.o.i]) (.seq (.region [.mk (mvR z) z.o.o.i, .mk (mvR z.o) z.o.i.o, .mk (callS Tryz.prog 64 [z.o.o.i, z.o.i.o]) z.o.i.i, .mk (mvR z.o.i.i) z.i.o]) (.seq (.seq (.region [.mk (mvR z.i.o) z.i.o.o, .mk (binR Tryz.prog EK.no .none true BinOp.eql z.i.o.o (X.c (.int .i64 (-1)))) z.i.o.i]) (.cond z.i.o.i (.seq (.region [.mk (mvR z) z.i.i.o, .mk (mvR z.i.i.o) z.o.i]) .ret) .skip)) (.seq (.seq (.region [.mk (mvR z.i.o) z.i.i.i, .mk (binR Tryz.prog EK.no .none true BinOp.add z.i.i.i (X.c (.int .i64 1))) z.o.o.o.o, .mk (mvR z.o.o.o.o) z.i.i]) (.block 0 (.loop C96L0))) (.seq (.region [.mk (mvR z) z.o.o.i.o.i, .mk (mvR z.i.o) z.o.o.i.i.o, .mk (slvR 8 z.o.o.i.o.i (.some z.o.o.i.i.o) .none .none) z.o.o.i.i.i, .mk (clrR 8 [(.int .i64 0), (.int .i64 0), (.str []), (.str []), (.bool false), AV.nils, AV.nils, AV.nils] z.o.o.i.i.i) .none]) (.seq (.region [.mk (mvR z) z.o.i.o.o.o, .mk (mvR z.i.o) z.o.i.o.o.i, .mk (slvR 8 z.o.i.o.o.o .none (.some z.o.i.o.o.i) .none) z.o.i.o.i.o, .mk (mvR z.o.i.o.i.o) z.o.i]) .ret))))))
theorem C96ok : CCok Tryz.prog Tryz.f96 42 C96 := by show _ = _; kernel_rfl
@[go_sem] theorem call96 (args H) : callC Tryz.prog 96 args H = .call 96 args := callC_ok (by kernel_rfl) args H
theorem R96ok : resKs Tryz.prog Tryz.f96.results.toList = some [(RK.tmp z.o.i)] := by kernel_rfl

@[go_sem] theorem call97 (args H) : callC Tryz.prog 97 args H = .call 97 args := callC_ok (by kernel_rfl) args H
noncomputable def C98 : CC := (.seq (.region [.mk (boxR false z) z.i, .mk (mvR (X.c (.bool false))) z.o.o]) (.seq (.region [.mk (faR 0 z.i) z.o.i, .mk (ldR false 1 z.o.i) z.i.o, .mk (faR 0 z.o) z.i.i, .mk (ldR false 1 z.i.i) z.o.o.o, .mk (binR Tryz.prog EK.no .none false BinOp.eql z.i.o z.o.o.o) z.o.o.i, .mk (mvR z.o.o.i) z.o.o]) .ret))
theorem C98ok : CCok Tryz.prog Tryz.f98 9 C98 := by show _ = _; kernel_rfl
@[go_sem] theorem call98 (args H) : callC Tryz.prog 98 args H = .call 98 args := callC_ok (by kernel_rfl) args H
theorem R98ok : resKs Tryz.prog Tryz.f98.results.toList = some [(RK.tmp z.o.o)] := by kernel_rfl

noncomputable def C101 : CC := (.seq (.region [.mk (mvR (X.c (.bool false))) z.o.i]) (.seq (.region [.mk (mvR z) z.o.o.i, .mk (mvR z.o) z.o.i.o, .mk (callS Tryz.prog 12 [z.o.o.i, z.o.i.o]) z.o.i.i, .mk (mvR z.o.i.i) z.o.o.o, .mk (extR z.o.o.o 0) z.i.o.o, .mk (extR z.o.o.o 1) z.i.o.i, .mk (fun _ H => newC false [(.int .i64 0), (.int .i64 0), (.str []), (.str []), (.bool false), AV.nils, AV.nils, AV.nils] H) z.i.o, .mk (stR 8 z.i.o z.i.o.o) .none, .mk (mvR z.i.o.i) z.i.i]) (.seq (.region [.mk (mvR z.i.i) z.i.i.o, .mk (unR UnOp.not z.i.i.o) z.i.i.i, .mk (mvR z.i.i.i) z.o.o.o.o, .mk (mvR z) z.o.o.o.i (Gd.on z.o.o.o.o true) [], .mk (mvR z.o) z.o.o.i.o (Gd.on z.o.o.o.o true) [], .mk (callS Tryz.prog 15 [z.o.o.o.i, z.o.o.i.o]) z.o.o.i.i (Gd.on z.o.o.o.o true) [], .mk (binR Tryz.prog EK.no .none true BinOp.eql z.o.o.i.i (X.c (.int .i64 0))) z.o.i.o.o (Gd.on z.o.o.o.o true) [], .mk (pickR z.o.o.o.o z.o.i.o.o (X.c (.bool false))) z.o.i.o.i, .mk (mvR z.o.i.o.i) z.o.i]) .ret)))
theorem C101ok : CCok Tryz.prog Tryz.f101 21 C101 := by show _ = _; kernel_rfl
@[go_sem] theorem call101 (args H) : callC Tryz.prog 101 args H = .call 101 args := callC_ok (by kernel_rfl) args H
theorem R101ok : resKs Tryz.prog Tryz.f101.results.toList = some [(RK.tmp z.o.i)] := by kernel_rfl

noncomputable def C104 : CC := (.seq (.region [.mk (boxR false z) z.i, .mk (mvR (X.c (.bool false))) z.o.o]) (.seq (.region [.mk (faR 0 z.i) z.o.i, .mk (ldR false 1 z.o.i) z.i.o, .mk (faR 0 z.o) z.i.i, .mk (ldR false 1 z.i.i) z.o.o.o, .mk (binR Tryz.prog EK.no .none false BinOp.eql z.i.o z.o.o.o) z.o.o.i, .mk (mvR z.o.o.i) z.o.o]) .ret))
theorem C104ok : CCok Tryz.prog Tryz.f104 9 C104 := by show _ = _; kernel_rfl
@[go_sem] theorem call104 (args H) : callC Tryz.prog 104 args H = .call 104 args := callC_ok (by kernel_rfl) args H
theorem R104ok : resKs Tryz.prog Tryz.f104.results.toList = some [(RK.tmp z.o.o)] := by kernel_rfl

noncomputable def C105L0 : CC := (.seq (.seq (.region [.mk (mvR z.i.i) z.o.o.o.i, .mk (mvR z) z.o.o.i.o, .mk (lenR LnK.slice z.o.o.i.o) z.o.o.i.i, .mk (binR Tryz.prog EK.no .none false BinOp.lss z.o.o.o.i z.o.o.i.i) z.o.i.o.o]) (.cond z.o.i.o.o .skip (.exit 0))) (.seq (.block 1 (.seq (.region [.mk (mvR z) z.o.i.i.i, .mk (mvR z.i.i) z.i.o.o.o, .mk (iaS 2 z.o.i.i.i z.i.o.o.o) z.i.o.o.i, .mk (ldR true 2 z.i.o.o.i) z.i.o.i.o, .mk (fun _ H => newC false [(.int .i64 0), (.int .i64 0)] H) z.o.o.o, .mk (stR 2 z.o.o.o z.i.o.i.o) .none]) (.seq (.region [.mk (mvR z.o) z.i.o.i.i, .mk (ldR true 2 z.o.o.o) z.i.i.o.o, .mk (callX Tryz.prog z.i.o.i.i [z.i.i.o.o]) z.i.i.o.i, .mk (unR UnOp.not z.i.i.o.i) z.i.i.i.o]) (.cond z.i.i.i.o (.seq (.region [.mk (mvR z) z.i.i.i.i, .mk (mvR z.i.o) z.o.o.o.o.o, .mk (ldR true 2 z.o.o.o) z.o.o.o.o.i, .mk (iaS 2 z.i.i.i.i z.o.o.o.o.o) z.o.o.o.i.o, .mk (stR 2 z.o.o.o.i.o z.o.o.o.o.i) .none]) (.region [.mk (mvR z.i.o) z.o.o.o.i.i, .mk (binR Tryz.prog EK.no .none true BinOp.add z.o.o.o.i.i (X.c (.int .i64 1))) z.o.o.i.o.o, .mk (mvR z.o.o.i.o.o) z.i.o])) .skip)))) (.region [.mk (mvR z.i.i) z.o.i.o.i, .mk (binR Tryz.prog EK.no .none true BinOp.add z.o.i.o.i (X.c (.int .i64 1))) z.o.i.i.o, .mk (mvR z.o.i.i.o) z.i.i])))
noncomputable def C105 : CC := (.seq (.region [.mk (mvR (X.c AV.nils)) z.o.i]) (.seq (.region [.mk (mvR z) z.o.o.i, .mk (mvR z.o) z.o.i.o, .mk (callS Tryz.prog 162 [z.o.o.i, z.o.i.o]) z.o.i.i, .mk (mvR z.o.i.i) z.i.o]) (.seq (.seq (.region [.mk (mvR z.i.o) z.i.o.o, .mk (binR Tryz.prog EK.no .none true BinOp.eql z.i.o.o (X.c (.int .i64 (-1)))) z.i.o.i]) (.cond z.i.o.i (.seq (.region [.mk (mvR z) z.i.i.o, .mk (mvR z.i.i.o) z.o.i]) .ret) .skip)) (.seq (.seq (.region [.mk (mvR z.i.o) z.i.i.i, .mk (binR Tryz.prog EK.no .none true BinOp.add z.i.i.i (X.c (.int .i64 1))) z.o.o.o.o, .mk (mvR z.o.o.o.o) z.i.i]) (.block 0 (.loop C105L0))) (.seq (.region [.mk (mvR z) z.o.o.i.o.i, .mk (mvR z.i.o) z.o.o.i.i.o, .mk (slvR 2 z.o.o.i.o.i (.some z.o.o.i.i.o) .none .none) z.o.o.i.i.i, .mk (clrR 2 [(.int .i64 0), (.int .i64 0)] z.o.o.i.i.i) .none]) (.seq (.region [.mk (mvR z) z.o.i.o.o.o, .mk (mvR z.i.o) z.o.i.o.o.i, .mk (slvR 2 z.o.i.o.o.o .none (.some z.o.i.o.o.i) .none) z.o.i.o.i.o, .mk (mvR z.o.i.o.i.o) z.o.i]) .ret))))))
theorem C105ok : CCok Tryz.prog Tryz.f105 42 C105 := by show _ = _; kernel_rfl
@[go_sem] theorem call105 (args H) : callC Tryz.prog 105 args H = .call 105 args := callC_ok (by kernel_rfl) args H
theorem R105ok : resKs Tryz.prog Tryz.f105.results.toList = some [(RK.tmp z.o.i)] := by kernel_rfl

@[go_sem] theorem call110 (args H) : callC Tryz.prog 110 args H = .call 110 args := callC_ok (by kernel_rfl) args H
noncomputable def C117L0 : CC := (.seq (.region [.mk (binR Tryz.prog EK.no .none false BinOp.lss z.i.i.o z.i.o.i) z.i.i.i]) (.seq (.cond z.i.i.i .skip (.exit 0)) (.seq (.block 1 (.seq (.region [.mk (mvR z.i.i.o) z.o.o.o.o, .mk (mvR z.o.o.o.o) z.i.o]) (.seq (.regionD [.mk (keepH (mvR z.i.o)) z.o.i.i.o, .mk (keepH (mvR z.o)) z.o.i.o.i, .mk (keepH (iaS 3 z.o.i.o.i z.o.i.i.o)) z.o.i.i.i, .mk (keepH (ldR true 3 z.o.i.i.i)) z.i.o.o.o, .mk (keepH (mvR z.i.o)) z.o.o.i.o, .mk (keepH (mvR z)) z.o.o.o.i, .mk (keepH (iaS 3 z.o.o.o.i z.o.o.i.o)) z.o.o.i.i, .mk (keepH (ldR true 3 z.o.o.i.i)) z.o.i.o.o, .mk (keepH (binR Tryz.prog EK.no (.some [LK.str, LK.str, LK.bool]) false BinOp.neq z.o.i.o.o z.i.o.o.o)) z.i.o.o.i]) (.cond z.i.o.o.i (.seq (.region [.mk (mvR (X.c (.bool false))) z.o.i]) .ret) .skip)))) (.region [.mk (binR Tryz.prog EK.no .none true BinOp.add z.i.i.o (X.c (.int .i64 1))) z.i.o.i.o, .mk (mvR z.i.o.i.o) z.i.i.o]))))
noncomputable def C117 : CC := (.seq (.region [.mk (mvR (X.c (.bool false))) z.o.i]) (.seq (.seq (.region [.mk (mvR z) z.i.i, .mk (lenR LnK.slice z.i.i) z.o.o.o, .mk (mvR z.o) z.o.o.i, .mk (lenR LnK.slice z.o.o.i) z.o.i.o, .mk (binR Tryz.prog EK.no .none false BinOp.neq z.o.o.o z.o.i.o) z.o.i.i]) (.cond z.o.i.i (.seq (.region [.mk (mvR (X.c (.bool false))) z.o.i]) .ret) .skip)) (.seq (.seq (.region [.mk (mvR z) z.i.o.o, .mk (lenR LnK.slice z.i.o.o) z.i.o.i, .mk (mvR (X.c (.int .i64 0))) z.i.i.o]) (.block 0 (.loop C117L0))) (.seq (.region [.mk (mvR (X.c (.bool true))) z.o.i]) .ret))))
theorem C117ok : CCok Tryz.prog Tryz.f117 26 C117 := by show _ = _; kernel_rfl
@[go_sem] theorem call117 (args H) : callC Tryz.prog 117 args H = .call 117 args := callC_ok (by kernel_rfl) args H
theorem R117ok : resKs Tryz.prog Tryz.f117.results.toList = some [(RK.tmp z.o.i)] := by kernel_rfl

noncomputable def C127L0 : CC := (.seq (.seq (.region [.mk (mvR z.o.o.i) z.i.o.o, .mk (mvR z.o) z.i.o.i, .mk (binR Tryz.prog EK.no .none false BinOp.leq z.i.o.o z.i.o.i) z.i.i.o]) (.cond z.i.i.o .skip (.exit 0))) (.block 1 (.seq (.region [.mk (mvR z) z.i.i.i, .mk (mvR z.o.o.o) z.o.o.o.o, .mk (mvR z.o.o.i) z.o.o.o.i, .mk (mvR z.i) z.o.o.i.o, .mk (callS Tryz.prog 168 [z.i.i.i, z.o.o.o.o, z.o.o.o.i, z.o.o.i.o]) z.o.o.i.i]) (.seq (.region [.mk (mvR z.o.o.i) z.o.i.o.o, .mk (mvR z.o.i.o.o) z.o.o.o]) (.region [.mk (mvR z.o.o.i) z.o.i.o.i, .mk (mvR z.i.i) z.o.i.i.o, .mk (binR Tryz.prog EK.no .none false BinOp.add z.o.i.o.i z.o.i.i.o) z.o.i.i.i, .mk (mvR z.o.i.i.i) z.o.o.i])))))
noncomputable def C127L1 : CC := (.seq (.seq (.region [.mk (mvR z.o.o.i) z.o.o.o.i.o, .mk (mvR z.o) z.o.o.o.i.i, .mk (binR Tryz.prog EK.no .none false BinOp.leq z.o.o.o.i.o z.o.o.o.i.i) z.o.o.i.o.o]) (.cond z.o.o.i.o.o .skip (.exit 4))) (.block 5 (.seq (.region [.mk (mvR z) z.o.o.i.o.i, .mk (mvR z.o.o.o) z.o.o.i.i.o, .mk (mvR z.o.o.o) z.o.o.i.i.i, .mk (mvR z.i.i) z.o.i.o.o.o, .mk (binR Tryz.prog EK.no .none false BinOp.add z.o.o.i.i.i z.o.i.o.o.o) z.o.i.o.o.i, .mk (mvR z.o.o.i) z.o.i.o.i.o, .mk (mvR z.i) z.o.i.o.i.i, .mk (callS Tryz.prog 169 [z.o.o.i.o.i, z.o.o.i.i.o, z.o.i.o.o.i, z.o.i.o.i.o, z.o.i.o.i.i]) z.o.i.i.o.o]) (.seq (.region [.mk (mvR z.o.o.i) z.o.i.i.o.i, .mk (mvR z.o.i.i.o.i) z.o.o.o]) (.region [.mk (mvR z.o.o.i) z.o.i.i.i.o, .mk (mvR z.i.i) z.o.i.i.i.i, .mk (binR Tryz.prog EK.no .none true BinOp.mul (X.c (.int .i64 2)) z.o.i.i.i.i) z.i.o.o.o.o, .mk (binR Tryz.prog EK.no .none false BinOp.add z.o.i.i.i.o z.i.o.o.o.o) z.i.o.o.o.i, .mk (mvR z.i.o.o.o.i) z.o.o.i])))))
noncomputable def C127L2 : CC := (.seq (.seq (.region [.mk (mvR z.i.i) z.i.i.o.i, .mk (mvR z.o) z.i.i.i.o, .mk (binR Tryz.prog EK.no .none false BinOp.lss z.i.i.o.i z.i.i.i.o) z.i.i.i.i]) (.cond z.i.i.i.i .skip (.exit 2))) (.block 3 (.seq (.region [.mk (mvR z.i.i) z.o.o.o.o.o, .mk (binR Tryz.prog EK.no .none true BinOp.mul (X.c (.int .i64 2)) z.o.o.o.o.o) z.o.o.o.o.i, .mk (mvR (X.c (.int .i64 0))) z.o.o.o, .mk (mvR z.o.o.o.o.i) z.o.o.i]) (.seq (.block 4 (.loop C127L1)) (.seq (.seq (.region [.mk (mvR z.o.o.o) z.i.o.o.i.o, .mk (mvR z.i.i) z.i.o.o.i.i, .mk (binR Tryz.prog EK.no .none false BinOp.add z.i.o.o.i.o z.i.o.o.i.i) z.i.o.i.o.o, .mk (mvR z.i.o.i.o.o) z.o.i.o]) (.seq (.region [.mk (mvR z.o.i.o) z.i.o.i.o.i, .mk (mvR z.o) z.i.o.i.i.o, .mk (binR Tryz.prog EK.no .none false BinOp.lss z.i.o.i.o.i z.i.o.i.i.o) z.i.o.i.i.i]) (.cond z.i.o.i.i.i (.region [.mk (mvR z) z.i.i.o.o.o, .mk (mvR z.o.o.o) z.i.i.o.o.i, .mk (mvR z.o.i.o) z.i.i.o.i.o, .mk (mvR z.o) z.i.i.o.i.i, .mk (mvR z.i) z.i.i.i.o.o, .mk (callS Tryz.prog 169 [z.i.i.o.o.o, z.i.i.o.o.i, z.i.i.o.i.o, z.i.i.o.i.i, z.i.i.i.o.o]) z.i.i.i.o.i]) .skip))) (.region [.mk (mvR z.i.i) z.i.i.i.i.o, .mk (binR Tryz.prog EK.no .none true BinOp.mul z.i.i.i.i.o (X.c (.int .i64 2))) z.i.i.i.i.i, .mk (mvR z.i.i.i.i.i) z.i.i]))))))
noncomputable def C127 : CC := (.seq (.region [.mk (mvR (X.c (.int .i64 20))) z.i.i]) (.seq (.region [.mk (mvR z.i.i) z.o.i.i, .mk (mvR (X.c (.int .i64 0))) z.o.o.o, .mk (mvR z.o.i.i) z.o.o.i]) (.seq (.block 0 (.loop C127L0)) (.seq (.region [.mk (mvR z) z.i.o.o.o, .mk (mvR z.o.o.o) z.i.o.o.i, .mk (mvR z.o) z.i.o.i.o, .mk (mvR z.i) z.i.o.i.i, .mk (callS Tryz.prog 168 [z.i.o.o.o, z.i.o.o.i, z.i.o.i.o, z.i.o.i.i]) z.i.i.o.o]) (.block 2 (.loop C127L2))))))
theorem C127ok : CCok Tryz.prog Tryz.f127 63 C127 := by show _ = _; kernel_rfl
@[go_sem] theorem call127 (args H) : callC Tryz.prog 127 args H = .call 127 args := callC_ok (by kernel_rfl) args H
theorem R127ok : resKs Tryz.prog Tryz.f127.results.toList = some [] := by kernel_rfl

noncomputable def C128 : CC := (.seq (.region [.mk (mvR (X.c (.bool false))) z.i]) (.seq (.region [.mk (mvR z) z.o.o, .mk (mvR z) z.o.i, .mk (binR Tryz.prog EK.no .none false BinOp.neq z.o.o z.o.i) z.i.o, .mk (mvR z.i.o) z.i]) .ret))
theorem C128ok : CCok Tryz.prog Tryz.f128 6 C128 := by show _ = _; kernel_rfl
@[go_sem] theorem call128 (args H) : callC Tryz.prog 128 args H = .call 128 args := callC_ok (by kernel_rfl) args H
theorem R128ok : resKs Tryz.prog Tryz.f128.results.toList = some [(RK.tmp z.i)] := by kernel_rfl

noncomputable def C129L0 : CC := (.seq (.seq (.regionD [.mk (keepH (mvR z.o)) z.o.i.o.o, .mk (keepH (mvR z.o.i.o)) z.o.o.i.i, .mk (keepH (binR Tryz.prog EK.no .none false BinOp.gtr z.o.o.i.i z.o.i.o.o)) z.o.i.o.i, .mk (keepH (mvR z.o.i.o.i)) z.o.i.i.o, .mk (keepH (mvR z.o.i.o)) z.i.i.o.i (Gd.on z.o.i.i.o true) [], .mk (keepH (binR Tryz.prog EK.no .none true BinOp.sub z.i.i.o.i (X.c (.int .i64 1)))) z.i.i.i.o (Gd.on z.o.i.i.o true) [], .mk (keepH (mvR z)) z.i.i.o.o (Gd.on z.o.i.i.o true) [], .mk (keepH (iaS 2 z.i.i.o.o z.i.i.i.o)) z.i.i.i.i (Gd.on z.o.i.i.o true) [], .mk (keepH (ldR true 2 z.i.i.i.i)) z.o.o.o.o.o (Gd.on z.o.i.i.o true) [], .mk (keepH (mvR z.o.i.o)) z.i.o.o.i (Gd.on z.o.i.i.o true) [], .mk (keepH (mvR z)) z.i.o.o.o (Gd.on z.o.i.i.o true) [], .mk (keepH (iaS 2 z.i.o.o.o z.i.o.o.i)) z.i.o.i.o (Gd.on z.o.i.i.o true) [], .mk (keepH (ldR true 2 z.i.o.i.o)) z.i.o.i.i (Gd.on z.o.i.i.o true) [], .mk (keepH (mvR z.o.o)) z.o.i.i.i (Gd.on z.o.i.i.o true) [], .mk (callX Tryz.prog z.o.i.i.i [z.i.o.i.i, z.o.o.o.o.o]) z.o.o.o.o.i (Gd.on z.o.i.i.o true) [], .mk (keepH (binR Tryz.prog EK.no .none true BinOp.lss z.o.o.o.o.i (X.c (.int .i64 0)))) z.o.o.o.i.o (Gd.on z.o.i.i.o true) [], .mk (keepH (pickR z.o.i.i.o z.o.o.o.i.o (X.c (.bool false)))) z.o.o.o.i.i]) (.cond z.o.o.o.i.i .skip (.exit 2))) (.seq (.block 3 (.regionD [.mk (keepH (mvR z.o.i.o)) z.i.o.o.o.i, .mk (keepH (mvR z)) z.i.o.o.o.o, .mk (keepH (iaS 2 z.i.o.o.o.o z.i.o.o.o.i)) z.i.o.o.i.o, .mk (keepH (ldR true 2 z.i.o.o.i.o)) z.i.o.o.i.i, .mk (keepH (mvR z.o.i.o)) z.o.i.i.o.o, .mk (keepH (binR Tryz.prog EK.no .none true BinOp.sub z.o.i.i.o.o (X.c (.int .i64 1)))) z.o.i.i.o.i, .mk (keepH (mvR z)) z.o.i.o.i.i, .mk (keepH (iaS 2 z.o.i.o.i.i z.o.i.i.o.i)) z.o.i.i.i.o, .mk (keepH (ldR true 2 z.o.i.i.i.o)) z.o.i.i.i.i, .mk (keepH (mvR z.o.i.o)) z.o.i.o.o.i, .mk (keepH (binR Tryz.prog EK.no .none true BinOp.sub z.o.i.o.o.i (X.c (.int .i64 1)))) z.o.i.o.i.o, .mk (keepH (mvR z)) z.o.i.o.o.o, .mk (keepH (mvR z.o.i.o)) z.o.o.i.i.i, .mk (keepH (mvR z)) z.o.o.i.i.o, .mk (keepH (iaS 2 z.o.o.i.i.o z.o.o.i.i.i)) z.i.o.i.o.o, .mk (stR 2 z.i.o.i.o.o z.o.i.i.i.i) .none Gd.no [.mk (mvR z) z.o.i.o.o.o Gd.no, .mk (binR Tryz.prog EK.no .none true BinOp.sub z.o.i.o.o.i (X.c (.int .i64 1))) z.o.i.o.i.o Gd.no, .mk (mvR z.o.i.o) z.o.i.o.o.i Gd.no], .mk (keepH (iaS 2 z.o.i.o.o.o z.o.i.o.i.o)) z.i.o.i.o.i, .mk (stR 2 z.i.o.i.o.i z.i.o.o.i.i) .none])) (.region [.mk (mvR z.o.i.o) z.o.o.i.o.o, .mk (binR Tryz.prog EK.no .none true BinOp.sub z.o.o.i.o.o (X.c (.int .i64 1))) z.o.o.i.o.i, .mk (mvR z.o.o.i.o.i) z.o.i.o])))
noncomputable def C129L1 : CC := (.seq (.seq (.region [.mk (mvR z.o.o.i) z.i.o.i, .mk (mvR z.i) z.i.i.o, .mk (binR Tryz.prog EK.no .none false BinOp.lss z.i.o.i z.i.i.o) z.i.i.i]) (.cond z.i.i.i .skip (.exit 0))) (.seq (.block 1 (.seq (.region [.mk (mvR z.o.o.i) z.o.o.i.o, .mk (mvR z.o.o.i.o) z.o.i.o]) (.block 2 (.loop C129L0)))) (.region [.mk (mvR z.o.o.i) z.o.o.o.o, .mk (binR Tryz.prog EK.no .none true BinOp.add z.o.o.o.o (X.c (.int .i64 1))) z.o.o.o.i, .mk (mvR z.o.o.o.i) z.o.o.i])))
noncomputable def C129 : CC := (.seq (.region [.mk (mvR z.o) z.o.i.i, .mk (binR Tryz.prog EK.no .none true BinOp.add z.o.i.i (X.c (.int .i64 1))) z.i.o.o, .mk (mvR z.i.o.o) z.o.o.i]) (.block 0 (.loop C129L1)))
theorem C129ok : CCok Tryz.prog Tryz.f129 53 C129 := by show _ = _; kernel_rfl
@[go_sem] theorem call129 (args H) : callC Tryz.prog 129 args H = .call 129 args := callC_ok (by kernel_rfl) args H
theorem R129ok : resKs Tryz.prog Tryz.f129.results.toList = some [] := by kernel_rfl

@[go_sem] theorem call137 (args H) : callC Tryz.prog 137 args H = .call 137 args := callC_ok (by kernel_rfl) args H
noncomputable def C138 : CC := (.seq (.region [.mk (mvR (X.c (.int .i64 0))) z.i]) (.seq (.seq (.region [.mk (mvR z) z.o.o, .mk (binR Tryz.prog EK.no .none true BinOp.geq z.o.o (X.c (.int .u64 4294967296))) z.o.i]) (.cond z.o.i (.seq (.region [.mk (mvR z) z.i.o, .mk (binR Tryz.prog EK.no .none true BinOp.shr z.i.o (X.c (.int .u64 32))) z.i.i, .mk (mvR z.i.i) z]) (.region [.mk (mvR (X.c (.int .i64 32))) z.i])) .skip)) (.seq (.seq (.region [.mk (mvR z) z.o.o.o, .mk (binR Tryz.prog EK.no .none true BinOp.geq z.o.o.o (X.c (.int .u64 65536))) z.o.o.i]) (.cond z.o.o.i (.seq (.region [.mk (mvR z) z.o.i.o, .mk (binR Tryz.prog EK.no .none true BinOp.shr z.o.i.o (X.c (.int .u64 16))) z.o.i.i, .mk (mvR z.o.i.i) z]) (.region [.mk (mvR z.i) z.i.o.o, .mk (binR Tryz.prog EK.no .none true BinOp.add z.i.o.o (X.c (.int .i64 16))) z.i.o.i, .mk (mvR z.i.o.i) z.i])) .skip)) (.seq (.seq (.region [.mk (mvR z) z.i.i.o, .mk (binR Tryz.prog EK.no .none true BinOp.geq z.i.i.o (X.c (.int .u64 256))) z.i.i.i]) (.cond z.i.i.i (.seq (.region [.mk (mvR z) z.o.o.o.o, .mk (binR Tryz.prog EK.no .none true BinOp.shr z.o.o.o.o (X.c (.int .u64 8))) z.o.o.o.i, .mk (mvR z.o.o.o.i) z]) (.region [.mk (mvR z.i) z.o.o.i.o, .mk (binR Tryz.prog EK.no .none true BinOp.add z.o.o.i.o (X.c (.int .i64 8))) z.o.o.i.i, .mk (mvR z.o.o.i.i) z.i])) .skip)) (.seq (.region [.mk (mvR z.i) z.o.i.o.o, .mk (mvR z) z.o.i.o.i, .mk (convR (Cv.int IntKind.u8) z.o.i.o.i) z.o.i.i.o, .mk (ixR true false 0 0 (X.c (.str [0, 1, 2, 2, 3, 3, 3, 3, 4, 4, 4, 4, 4, 4, 4, 4, 5, 5, 5, 5, 5, 5, 5, 5, 5, 5, 5, 5, 5, 5, 5, 5, 6, 6, 6, 6, 6, 6, 6, 6, 6, 6, 6, 6, 6, 6, 6, 6, 6, 6, 6, 6, 6, 6, 6, 6, 6, 6, 6, 6, 6, 6, 6, 6, 7, 7, 7, 7, 7, 7, 7, 7, 7, 7, 7, 7, 7, 7, 7, 7, 7, 7, 7, 7, 7, 7, 7, 7, 7, 7, 7, 7, 7, 7, 7, 7, 7, 7, 7, 7, 7, 7, 7, 7, 7, 7, 7, 7, 7, 7, 7, 7, 7, 7, 7, 7, 7, 7, 7, 7, 7, 7, 7, 7, 7, 7, 7, 7, 8, 8, 8, 8, 8, 8, 8, 8, 8, 8, 8, 8, 8, 8, 8, 8, 8, 8, 8, 8, 8, 8, 8, 8, 8, 8, 8, 8, 8, 8, 8, 8, 8, 8, 8, 8, 8, 8, 8, 8, 8, 8, 8, 8, 8, 8, 8, 8, 8, 8, 8, 8, 8, 8, 8, 8, 8, 8, 8, 8, 8, 8, 8, 8, 8, 8, 8, 8, 8, 8, 8, 8, 8, 8, 8, 8, 8, 8, 8, 8, 8, 8, 8, 8, 8, 8, 8, 8, 8, 8, 8, 8, 8, 8, 8, 8, 8, 8, 8, 8, 8, 8, 8, 8, 8, 8, 8, 8, 8, 8, 8, 8, 8, 8, 8, 8, 8, 8, 8, 8, 8, 8, 8, 8, 8, 8, 8, 8])) z.o.i.i.o) z.o.i.i.i, .mk (convR (Cv.int .i64) z.o.i.i.i) z.i.o.o.o, .mk (binR Tryz.prog EK.no .none false BinOp.add z.o.i.o.o z.i.o.o.o) z.i.o.o.i, .mk (mvR z.i.o.o.i) z.i]) .ret)))))
theorem C138ok : CCok Tryz.prog Tryz.f138 25 C138 := by show _ = _; kernel_rfl
@[go_sem] theorem call138 (args H) : callC Tryz.prog 138 args H = .call 138 args := callC_ok (by kernel_rfl) args H
theorem R138ok : resKs Tryz.prog Tryz.f138.results.toList = some [(RK.tmp z.i)] := by kernel_rfl

noncomputable def C162L0 : CC := (.seq (.region [.mk (binR Tryz.prog EK.no .none false BinOp.lss z.o.o.i z.o.o.o) z.o.i.o]) (.seq (.cond z.o.i.o .skip (.exit 0)) (.seq (.block 1 (.seq (.region [.mk (mvR z.o.o.i) z.o.i.i, .mk (mvR z.o.i.i) z.i.o]) (.seq (.region [.mk (mvR z.o) z.i.o.o, .mk (mvR z) z.i.o.i, .mk (mvR z.i.o) z.i.i.o, .mk (iaS 2 z.i.o.i z.i.i.o) z.i.i.i, .mk (ldR true 2 z.i.i.i) z.o.o.o.o, .mk (callX Tryz.prog z.i.o.o [z.o.o.o.o]) z.o.o.o.i]) (.cond z.o.o.o.i (.seq (.region [.mk (mvR z.i.o) z.o.o.i.o, .mk (mvR z.o.o.i.o) z.o.i]) .ret) .skip)))) (.region [.mk (binR Tryz.prog EK.no .none true BinOp.add z.o.o.i (X.c (.int .i64 1))) z.o.o.i.i, .mk (mvR z.o.o.i.i) z.o.o.i]))))
noncomputable def C162 : CC := (.seq (.region [.mk (mvR (X.c (.int .i64 0))) z.o.i]) (.seq (.seq (.region [.mk (mvR z) z.i.i, .mk (lenR LnK.slice z.i.i) z.o.o.o, .mk (mvR (X.c (.int .i64 0))) z.o.o.i]) (.block 0 (.loop C162L0))) (.seq (.region [.mk (mvR (X.c (.int .i64 (-1)))) z.o.i]) .ret)))
theorem C162ok : CCok Tryz.prog Tryz.f162 19 C162 := by show _ = _; kernel_rfl
@[go_sem] theorem call162 (args H) : callC Tryz.prog 162 args H = .call 162 args := callC_ok (by kernel_rfl) args H
theorem R162ok : resKs Tryz.prog Tryz.f162.results.toList = some [(RK.tmp z.o.i)] := by kernel_rfl

noncomputable def C168L0 : CC := (.seq (.seq (.regionD [.mk (keepH (mvR z.o)) z.o.i.o.o, .mk (keepH (mvR z.o.i.o)) z.o.o.i.i, .mk (keepH (binR Tryz.prog EK.no .none false BinOp.gtr z.o.o.i.i z.o.i.o.o)) z.o.i.o.i, .mk (keepH (mvR z.o.i.o.i)) z.o.i.i.o, .mk (keepH (mvR z.o.i.o)) z.i.i.o.i (Gd.on z.o.i.i.o true) [], .mk (keepH (binR Tryz.prog EK.no .none true BinOp.sub z.i.i.o.i (X.c (.int .i64 1)))) z.i.i.i.o (Gd.on z.o.i.i.o true) [], .mk (keepH (mvR z)) z.i.i.o.o (Gd.on z.o.i.i.o true) [], .mk (keepH (iaS 8 z.i.i.o.o z.i.i.i.o)) z.i.i.i.i (Gd.on z.o.i.i.o true) [], .mk (keepH (ldR true 8 z.i.i.i.i)) z.o.o.o.o.o (Gd.on z.o.i.i.o true) [], .mk (keepH (mvR z.o.i.o)) z.i.o.o.i (Gd.on z.o.i.i.o true) [], .mk (keepH (mvR z)) z.i.o.o.o (Gd.on z.o.i.i.o true) [], .mk (keepH (iaS 8 z.i.o.o.o z.i.o.o.i)) z.i.o.i.o (Gd.on z.o.i.i.o true) [], .mk (keepH (ldR true 8 z.i.o.i.o)) z.i.o.i.i (Gd.on z.o.i.i.o true) [], .mk (keepH (mvR z.o.o)) z.o.i.i.i (Gd.on z.o.i.i.o true) [], .mk (callX Tryz.prog z.o.i.i.i [z.i.o.i.i, z.o.o.o.o.o]) z.o.o.o.o.i (Gd.on z.o.i.i.o true) [], .mk (keepH (binR Tryz.prog EK.no .none true BinOp.lss z.o.o.o.o.i (X.c (.int .i64 0)))) z.o.o.o.i.o (Gd.on z.o.i.i.o true) [], .mk (keepH (pickR z.o.i.i.o z.o.o.o.i.o (X.c (.bool false)))) z.o.o.o.i.i]) (.cond z.o.o.o.i.i .skip (.exit 2))) (.seq (.block 3 (.regionD [.mk (keepH (mvR z.o.i.o)) z.i.o.o.o.i, .mk (keepH (mvR z)) z.i.o.o.o.o, .mk (keepH (iaS 8 z.i.o.o.o.o z.i.o.o.o.i)) z.i.o.o.i.o, .mk (keepH (ldR true 8 z.i.o.o.i.o)) z.i.o.o.i.i, .mk (keepH (mvR z.o.i.o)) z.o.i.i.o.o, .mk (keepH (binR Tryz.prog EK.no .none true BinOp.sub z.o.i.i.o.o (X.c (.int .i64 1)))) z.o.i.i.o.i, .mk (keepH (mvR z)) z.o.i.o.i.i, .mk (keepH (iaS 8 z.o.i.o.i.i z.o.i.i.o.i)) z.o.i.i.i.o, .mk (keepH (ldR true 8 z.o.i.i.i.o)) z.o.i.i.i.i, .mk (keepH (mvR z.o.i.o)) z.o.i.o.o.i, .mk (keepH (binR Tryz.prog EK.no .none true BinOp.sub z.o.i.o.o.i (X.c (.int .i64 1)))) z.o.i.o.i.o, .mk (keepH (mvR z)) z.o.i.o.o.o, .mk (keepH (mvR z.o.i.o)) z.o.o.i.i.i, .mk (keepH (mvR z)) z.o.o.i.i.o, .mk (keepH (iaS 8 z.o.o.i.i.o z.o.o.i.i.i)) z.i.o.i.o.o, .mk (stR 8 z.i.o.i.o.o z.o.i.i.i.i) .none Gd.no [.mk (mvR z) z.o.i.o.o.o Gd.no, .mk (binR Tryz.prog EK.no .none true BinOp.sub z.o.i.o.o.i (X.c (.int .i64 1))) z.o.i.o.i.o Gd.no, .mk (mvR z.o.i.o) z.o.i.o.o.i Gd.no], .mk (keepH (iaS 8 z.o.i.o.o.o z.o.i.o.i.o)) z.i.o.i.o.i, .mk (stR 8 z.i.o.i.o.i z.i.o.o.i.i) .none])) (.region [.mk (mvR z.o.i.o) z.o.o.i.o.o, .mk (binR Tryz.prog EK.no .none true BinOp.sub z.o.o.i.o.o (X.c (.int .i64 1))) z.o.o.i.o.i, .mk (mvR z.o.o.i.o.i) z.o.i.o])))
noncomputable def C168L1 : CC := (.seq (.seq (.region [.mk (mvR z.o.o.i) z.i.o.i, .mk (mvR z.i) z.i.i.o, .mk (binR Tryz.prog EK.no .none false BinOp.lss z.i.o.i z.i.i.o) z.i.i.i]) (.cond z.i.i.i .skip (.exit 0))) (.seq (.block 1 (.seq (.region [.mk (mvR z.o.o.i) z.o.o.i.o, .mk (mvR z.o.o.i.o) z.o.i.o]) (.block 2 (.loop C168L0)))) (.region [.mk (mvR z.o.o.i) z.o.o.o.o, .mk (binR Tryz.prog EK.no .none true BinOp.add z.o.o.o.o (X.c (.int .i64 1))) z.o.o.o.i, .mk (mvR z.o.o.o.i) z.o.o.i])))
noncomputable def C168 : CC := (.seq (.region [.mk (mvR z.o) z.o.i.i, .mk (binR Tryz.prog EK.no .none true BinOp.add z.o.i.i (X.c (.int .i64 1))) z.i.o.o, .mk (mvR z.i.o.o) z.o.o.i]) (.block 0 (.loop C168L1)))
theorem C168ok : CCok Tryz.prog Tryz.f168 53 C168 := by show _ = _; kernel_rfl
@[go_sem] theorem call168 (args H) : callC Tryz.prog 168 args H = .call 168 args := callC_ok (by kernel_rfl) args H
theorem R168ok : resKs Tryz.prog Tryz.f168.results.toList = some [] := by kernel_rfl
end Go.Proofs
/- shards of a node: which is the first that is so: walked. -/




set_option linter.all false
set_option linter.all false
set_option maxRecDepth 100000
namespace Go.Proofs
open Go Go.Ev
variable {H : Heap}

/-- the place of the first that is so; below 0: there is none -/
def idx {α : Type} (q : α → Bool) : List α → Nat → Int
  | [], _ => -1
  | s :: l, i => if q s = true then i else idx q l (i + 1)
theorem idx_next {α : Type} (q : α → Bool) {l : List α} {i : Nat} {s : α} (h : l[i]? = some s) : idx q (l.drop i) i = if q s = true then (i : Int) else idx q (l.drop (i + 1)) (i + 1) := by
  obtain ⟨h1, h2⟩ := List.getElem?_eq_some_iff.1 h
  rw [List.drop_eq_getElem_cons h1, h2]
  rfl
theorem idx_end {α : Type} (q : α → Bool) {l : List α} {i : Nat} (h : l.length ≤ i) : idx q (l.drop i) i = -1 := by
  rw [List.drop_eq_nil_of_le h]
  rfl
theorem f64_ok {v : AV} {l : List Sh} (hA : Arr H 8 v (l.map Sh.enc)) (hl : l.length ≤ 100000) {g : FuncId} {caps : List AV} (hcall : ∀ args H, callC Tryz.prog g args H = .call g args)
    (hcaps : ∀ top σ, AV.ren (rho H top σ) (.fn (.func g) [] caps) = .fn (.func g) [] caps) {q : Sh → Bool} (hg : ∀ s ∈ l, ∀ L, FnOk Tryz.prog g (.agg s.enc :: caps) (H.ext L) fun r G => r = .bool (q s) ∧ G = H.ext L) :
    FnOk Tryz.prog 64 [v, .fn (.func g) [] caps] H fun r G => r = .int .i64 (idx q l 0) ∧ G = H := by
  refine FnOk.assume fun hok => ?_
  refine FnOk.drop (R := fun r => r = .int .i64 (idx q l 0)) ?_ (by rintro v rfl ρ; rw [AV.ren])
  refine FnOk.of_WW Tryz.func64 rfl C64ok R64ok E0 good_E0 ?_
  have hlen := fun G => hA.len G; simp only [List.length_map] at hlen; have hren := hA.ren
  simp only [go_sem, C64, hlen]
  refine LL.st good_E0 (fun i : Nat => l.length - i) (fun i => i ≤ l.length ∧ idx q l 0 = idx q (l.drop i) i)
    (fun i => [(.z, v), ((.o .z), .fn (.func g) [] caps), ((.i (.i .z)), v), ((.o (.o (.o .z))), .int .i64 l.length), ((.i (.o (.o .z))), .int .i64 i)]) (fun i => []) ?_ 0 (σ := []) (Wk.of rfl (by decide) (by simp only [go_sem, hren, ↓hcaps]) (by simp only [go_sem])) ⟨Nat.zero_le _, rfl⟩
  rintro i ⟨hi, hno⟩
  by_cases hlt : i < l.length
  · obtain ⟨kk, r, ex', cap', wr, rows, hv, hrho, hgo, hrow⟩ := hA.at hok (j := i) (by rw [List.length_map]; exact hlt)
    simp only [List.length_map, List.getElem_map] at hv hrow
    have hget : l[i]? = some l[i] := List.getElem?_eq_getElem hlt
    generalize l[i] = c at hrow hget
    have hw := wrap_succ (n := i) (by omega)
    have hci : (i : Int) < (l.length : Int) := (by omega)
    have hsi : i + 1 ≤ l.length := (by omega)
    have hgc := hg c (List.mem_of_getElem? hget)
    have hnx := idx_next q hget
    simp only [Sh.enc] at hgc
    simp only [go_sem, C64L0, hv, hci, hsi, hgo, hrow, hw, Sh.enc, hcall]
    refine CL.of (hgc _) ?_
    rintro _ G' ⟨rfl, hG⟩
    rw [hG]
    clear hG
    cases hq : q c
    · rw [hq, if_neg Bool.false_ne_true] at hnx
      simp only [go_sem, hw]
      exact ⟨i + 1, by show l.length - (i + 1) < l.length - i; omega, ⟨by omega, hno.trans hnx⟩, _, [], rfl, Wk.of rfl (by decide) (by simp only [go_sem, hren, hrho, hv, ↓hcaps, hw]; first | done | rfl | trace_state) (by simp only [go_sem])⟩
    · rw [hq, if_pos rfl] at hnx
      simp only [go_sem]
      exact ⟨by rw [hno, hnx], _, rfl⟩
  · have hci : ¬ (i : Int) < (l.length : Int) := by omega
    simp only [go_sem, C64L0, hci]
    exact ⟨by rw [hno, idx_end q (by omega)], _, rfl⟩
structure Gn where
  id : Int
  ep : Int
def Gn.enc (g : Gn) : List AV := [.int .i64 g.id, .int .i64 g.ep]
/-- requests whose answers have no rows -/
def bareL (l : List Dn) : Prop := ∀ d ∈ l, d.an.rv = .nils ∧ d.an.rows = []
/-- a shard that isn't great -/
structure smallS (s : Sh) : Prop where
  b : bareL s.done
  c : s.cells.length < 1000
  e : s.evs.length < 1000
  d : s.done.length < 1000
/-- a node's shards, and what it gave away -/
structure isHd (G : Heap) (k : K) (lv gv : AV) (hs : List Sh) (gs : List Gn) : Prop where
  ok : G.ok
  row : G.get k = some (.row true 2 [[lv, gv]])
  l : Arr G 8 lv (hs.map Sh.enc)
  g : Arr G 2 gv (gs.map Gn.enc)
  each : ∀ s ∈ hs, s.ok G
  small : ∀ s ∈ hs, smallS s
  few : hs.length ≤ 8 ∧ gs.length ≤ 8
theorem isHd.ext {G : Heap} {k : K} {lv gv : AV} {hs : List Sh} {gs : List Gn} (h : isHd G k lv gv hs gs) (L : List Blk) : isHd (G.ext L) k lv gv hs gs :=
  ⟨Heap.ok_ext h.ok L, Heap.get_ext_old h.ok h.row L, h.l.ext L, h.g.ext L, fun s hs => (h.each s hs).ext L, h.small, h.few⟩
section
variable {G : Heap} {k : K} {lv gv : AV} {hs : List Sh} {gs : List Gn}
theorem f25_ok (h : isHd G k lv gv hs gs) {g : FuncId} {caps : List AV} (hcall : ∀ args H, callC Tryz.prog g args H = .call g args)
    (hcaps : ∀ top σ, AV.ren (rho G top σ) (.fn (.func g) [] caps) = .fn (.func g) [] caps) {q : Sh → Bool} (hg : ∀ s ∈ hs, ∀ L, FnOk Tryz.prog g (.agg s.enc :: caps) (G.ext L) fun r G' => r = .bool (q s) ∧ G' = G.ext L) :
    FnOk Tryz.prog 25 [.ptr k 0, .fn (.func g) [] caps] G fun r G' => r = .int .i64 (idx q hs 0) ∧ G' = G := by
  refine FnOk.drop (R := fun r => r = .int .i64 (idx q hs 0)) ?_ (by rintro v rfl ρ; rw [AV.ren])
  refine FnOk.of_WW Tryz.func25 rfl C25ok R25ok E0 good_E0 ?_
  have hk : ∀ L, (G.ext L).get k = _ := fun L => Heap.get_ext_old h.ok h.row L
  simp only [go_sem, C25, hk]
  have h64 := f64_ok h.l (by have := h.few.1; omega) hcall hcaps hg
  rw [← Heap.ext_nil G] at h64
  refine CL.of h64 ?_
  rintro _ G' ⟨rfl, hG⟩
  rw [hG]
  clear hG
  simp only [go_sem]
  exact ⟨_, rfl⟩
/-- a shard of a number -/
theorem f30_ok {H : Heap} {c : K} {wr : Bool} {n : Int} (hk : H.get c = some (.row wr 1 [[.int .i64 n]])) (s : Sh) : FnOk Tryz.prog 30 [.agg s.enc, .ptr c 0] H fun r G => r = .bool (decide (s.id = n)) ∧ G = H := by
  refine FnOk.assume fun hok => ?_
  refine FnOk.drop (R := fun r => r = .bool (decide (s.id = n))) ?_ (by rintro v rfl ρ; rw [AV.ren])
  refine FnOk.of_WW Tryz.func30 rfl C30ok R30ok E0 good_E0 ?_
  have hgo := Heap.get_ext_old hok hk
  simp only [go_sem, C30, Sh.enc, hgo]
  exact ⟨fun h => ⟨bool_t h, _, rfl⟩, fun h => ⟨bool_f h, _, rfl⟩⟩
/-- a shard that does what is asked of a key -/
noncomputable def findQ (key : List Nat) (s : Sh) : Bool := if s.frz = true then false else decide (has s.fr s.to key)
theorem f26_ok {H : Heap} {c : K} {wr : Bool} {key : List Nat} (hk : H.get c = some (.row wr 1 [[.str key]])) (s : Sh) : FnOk Tryz.prog 26 [.agg s.enc, .ptr c 0] H fun r G => r = .bool (findQ key s) ∧ G = H := by
  refine FnOk.assume fun hok => ?_
  refine FnOk.drop (R := fun r => r = .bool (findQ key s)) ?_ (by rintro v rfl ρ; rw [AV.ren])
  refine FnOk.of_WW Tryz.func26 rfl C26ok R26ok E0 good_E0 ?_
  have hgo := Heap.get_ext_old hok hk
  obtain ⟨id, ep, fr, to, frz, cells, evs, done, cv, ev, dv⟩ := s
  cases frz
  · simp only [go_sem, C26, Sh.enc, hgo]
    refine CL.bool (f27_ok fr to key) (fun g => ?_) (fun g => ?_)
    · simp only [go_sem]
      exact ⟨(show AV.bool true = .bool (decide (has fr to key)) from bool_t g), _, rfl⟩
    · simp only [go_sem]
      exact ⟨(show AV.bool false = .bool (decide (has fr to key)) from bool_f g), _, rfl⟩
  · simp only [go_sem, C26, Sh.enc, hgo]
    exact ⟨rfl, _, rfl⟩
/-- a shard where a span begins -/
noncomputable def atQ (f : List Nat) (s : Sh) : Bool := if s.frz = true then false else decide ((ltS s.fr f ∨ s.fr = f) ∧ (s.to = [] ∨ ¬ (ltS s.to f ∨ s.to = f)))
theorem f28_ok {H : Heap} {c : K} {wr : Bool} {f : List Nat} (hk : H.get c = some (.row wr 1 [[.str f]])) (s : Sh) : FnOk Tryz.prog 28 [.agg s.enc, .ptr c 0] H fun r G => r = .bool (atQ f s) ∧ G = H := by
  refine FnOk.assume fun hok => ?_
  refine FnOk.drop (R := fun r => r = .bool (atQ f s)) ?_ (by rintro v rfl ρ; rw [AV.ren])
  refine FnOk.of_WW Tryz.func28 rfl C28ok R28ok E0 good_E0 ?_
  have hgo := Heap.get_ext_old hok hk
  obtain ⟨id, ep, fr, to, frz, cells, evs, done, cv, ev, dv⟩ := s
  cases frz
  · simp only [go_sem, C28, Sh.enc, hgo]
    have hQ : ∀ b, (AV.bool b = .bool (atQ f ⟨id, ep, fr, to, false, cells, evs, done, cv, ev, dv⟩)) = (AV.bool b = .bool (decide ((ltS fr f ∨ fr = f) ∧ (to = [] ∨ ¬ (ltS to f ∨ to = f))))) := fun b => rfl
    simp only [hQ]
    repeat' (first | apply And.intro | intro _)
    all_goals first | exact ⟨_, rfl⟩ | exact bool_t (by grind) | exact bool_f (by grind)
  · simp only [go_sem, C28, Sh.enc, hgo]
    exact ⟨rfl, _, rfl⟩
end
end Go.Proofs
/- a shard as a copy: walked. -/

set_option linter.all false
set_option linter.all false
set_option maxRecDepth 100000
namespace Go.Proofs
open Go Go.Ev
variable {H : Heap}

/-- what is cloned -/
def AC (e : Nat) (H : Heap) (args : List AV) (xs : List (List AV)) : Prop := ∃ v, args = [v] ∧ Arr H e v xs ∧ xs.length < 100000 ∧ ∀ top σ, xs.map (AV.rens (rho H top σ)) = xs
noncomputable def ECl (f : FuncId) (args : List AV) (H : Heap) : RC :=
  match f with
  | 77 => ot (AC 5 H args) fun xs => .ok (zV (nilB (args.headD .nils)) H.nx 5 xs.length) (H.ext [zB (nilB (args.headD .nils)) 5 xs])
  | 78 => ot (AC 4 H args) fun xs => .ok (zV (nilB (args.headD .nils)) H.nx 4 xs.length) (H.ext [zB (nilB (args.headD .nils)) 4 xs])
  | 79 => ot (AC 6 H args) fun xs => .ok (zV (nilB (args.headD .nils)) H.nx 6 xs.length) (H.ext [zB (nilB (args.headD .nils)) 6 xs])
  | 80 => match args with | [.nils] => .ok .nils H | _ => .fail
  | _ => .fail
theorem good_ECl : Ev.Good Tryz.prog ECl := by
  intro f args H r G he φ w args' ha hw
  refine (?_ : FnOk Tryz.prog f args H fun v' G' => v' = r ∧ G' = G).one φ w args' ha hw
  unfold ECl at he
  split at he
  · obtain ⟨xs, ⟨v, rfl, h1, h2, h3⟩, hz⟩ := ot_ok he
    clear he
    cases hz
    exact clone_zd clo50 h1 (by omega) h3
  · obtain ⟨xs, ⟨v, rfl, h1, h2, h3⟩, hz⟩ := ot_ok he
    clear he
    cases hz
    exact clone_zd clo75 h1 (by omega) h3
  · obtain ⟨xs, ⟨v, rfl, h1, h2, h3⟩, hz⟩ := ot_ok he
    clear he
    cases hz
    exact clone_zd clo57 h1 (by omega) h3
  · split at he
    · cases he; exact clone_nil clo55
    · cases he
  · cases he
theorem ac_eq {e : Nat} (he : 0 < e) {H : Heap} {v : AV} {xs : List (List AV)} (hA : Arr H e v xs) (hl : xs.length < 100000) (hx : ∀ top σ, xs.map (AV.rens (rho H top σ)) = xs) (c : List (List AV) → RC) : ot (AC e H [v]) c = c xs :=
  ot_eq (p := AC e H [v]) (x := xs) ⟨v, rfl, hA, hl, hx⟩ (by
    rintro ys ⟨v', h1, h2, _⟩
    injection h1 with h1 _
    subst h1
    exact Arr.uniq h2 hA he) c
theorem ec77 {v : AV} {l : List Cell} (hA : Arr H 5 v (l.map Cell.enc)) (hl : l.length < 100000) (L : List Blk) : ECl 77 [v] (H.ext L) = .ok (zV (nilB v) (H.key L.length) 5 l.length) (H.ext (L ++ [zB (nilB v) 5 (l.map Cell.enc)])) := by
  show ot (AC 5 (H.ext L) [v]) _ = _
  rw [ac_eq (by decide) (hA.ext L) (by rw [List.length_map]; exact hl) (fun _ _ => Cell.map_rens _ _), List.length_map, Heap.nx_ext, Heap.ext_append]
  rfl
theorem ec78 {v : AV} {l : List Evn} (hA : Arr H 4 v (l.map Evn.enc)) (hl : l.length < 100000) (L : List Blk) : ECl 78 [v] (H.ext L) = .ok (zV (nilB v) (H.key L.length) 4 l.length) (H.ext (L ++ [zB (nilB v) 4 (l.map Evn.enc)])) := by
  show ot (AC 4 (H.ext L) [v]) _ = _
  rw [ac_eq (by decide) (hA.ext L) (by rw [List.length_map]; exact hl) (fun _ _ => Evn.map_rens _ _), List.length_map, Heap.nx_ext, Heap.ext_append]
  rfl
theorem bareL.rens {l : List Dn} (h : bareL l) (ρ : K → K) : (l.map Dn.enc).map (AV.rens ρ) = l.map Dn.enc := by
  rw [List.map_map]
  refine List.map_congr_left fun d hd => ?_
  simp only [Function.comp, Dn.enc, AV.rens, AV.ren, (h d hd).1]
theorem bareL.ok {l : List Dn} (h : bareL l) (H : Heap) : allOk H l := fun d hd => ⟨by rw [(h d hd).1, (h d hd).2]; exact .inl ⟨rfl, rfl⟩, by rw [(h d hd).2]; exact Nat.zero_le _⟩
theorem ec79 {v : AV} {l : List Dn} (hA : Arr H 6 v (l.map Dn.enc)) (hb : bareL l) (hl : l.length < 100000) (L : List Blk) : ECl 79 [v] (H.ext L) = .ok (zV (nilB v) (H.key L.length) 6 l.length) (H.ext (L ++ [zB (nilB v) 6 (l.map Dn.enc)])) := by
  show ot (AC 6 (H.ext L) [v]) _ = _
  rw [ac_eq (by decide) (hA.ext L) (by rw [List.length_map]; exact hl) (fun _ _ => hb.rens _), List.length_map, Heap.nx_ext, Heap.ext_append]
  rfl
theorem ec80 (H : Heap) : ECl 80 [.nils] H = .ok .nils H := rfl
/-- a shard whose lists are copies -/
noncomputable def Sh.cop (s : Sh) (k0 k1 k2 : K) : Sh := ⟨s.id, s.ep, s.fr, s.to, s.frz, s.cells, s.evs, s.done, zV (nilB s.cv) k0 5 s.cells.length, zV (nilB s.ev) k1 4 s.evs.length, zV (nilB s.dv) k2 6 s.done.length⟩
noncomputable def copB (s : Sh) : List Blk := [zB (nilB s.cv) 5 (s.cells.map Cell.enc), zB (nilB s.ev) 4 (s.evs.map Evn.enc), zB (nilB s.dv) 6 (s.done.map Dn.enc)]
theorem set_same {α : Type} {l : List α} {k : Nat} {x : α} (h : l[k]? = some x) : l.set k x = l := by
  apply List.ext_getElem?
  intro j
  by_cases hj : k = j
  · subst hj
    rw [List.getElem?_set_self (List.getElem?_eq_some_iff.1 h).1, h]
  · rw [List.getElem?_set_ne hj]
theorem f41_ok {s : Sh} (h : s.ok H) (hsm : smallS s) :
    FnOk Tryz.prog 41 [.agg s.enc] H fun r G => r = .agg (s.cop (H.key 0) (H.key 1) (H.key 2)).enc ∧ G = H.ext (copB s) := by
  refine FnOk.dropW ?_
  refine FnOk.of_WW Tryz.func41 rfl C41ok R41ok ECl good_ECl ?_
  obtain ⟨hb, hc, he, hd⟩ := hsm
  have i77 := ec77 h.c (by omega)
  have i78 := ec78 h.e (by omega)
  have i79 := ec79 h.d hb (by omega)
  have drn := hb.rens
  simp only [go_sem, C41, Sh.enc, i77, i78, i79]
  refine LL.st good_ECl (fun i : Nat => s.done.length - i) (fun i => i ≤ s.done.length)
    (fun i => [((.o .z), .ptr (H.key 0) 0), ((.i .z), .ptr (H.key 1) 0), ((.i (.i (.o (.o .z)))), .int .i64 s.done.length), ((.o (.o (.i (.o .z)))), .int .i64 i)])
    (fun _ => .row true 8 [(s.cop (H.key 2) (H.key 3) (H.key 4)).enc] :: .row true 8 [[.int .i64 0, .int .i64 0, .str [], .str [], .bool false, .nils, .nils, .nils]] :: copB s) ?_ 0 (σ := [0, 1, 2, 3, 4]) (Wk.of rfl (by decide) (by simp only [go_sem]; first | done | rfl | trace_state) (by simp only [go_sem, copB, Sh.cop, Sh.enc, zV_ren, ↓zB_ren, Cell.map_rens, Evn.map_rens, drn, implies_true]; first | done | trace_state)) (Nat.zero_le _)
  rintro i hi
  by_cases hlt : i < s.done.length
  · have hci : (i : Int) < (s.done.length : Int) := by omega
    have hw := wrap_succ (n := i) (by omega)
    have hget : s.done[i]? = some s.done[i] := List.getElem?_eq_getElem hlt
    generalize s.done[i] = d at hget
    obtain ⟨hn1, hn2⟩ := hb d (List.mem_of_getElem? hget)
    have hrow : (s.done.map Dn.enc)[i]? = some [.int .i64 d.ses, .int .i64 d.id, .int .i64 d.an.code, .str d.an.val, .int .i64 d.an.ver, .nils] := by
      rw [List.getElem?_map, hget, ← hn1]; rfl
    have hset : (s.done.map Dn.enc).set i [.int .i64 d.ses, .int .i64 d.id, .int .i64 d.an.code, .str d.an.val, .int .i64 d.an.ver, .nils] = s.done.map Dn.enc := set_same hrow
    have hv := zV_pos (z := nilB s.dv) (k := H.key 4) (esz := 6) (n := s.done.length) (by omega)
    have hB := zB_pos (z := nilB s.dv) (esz := 6) (xs := s.done.map Dn.enc) (by rw [List.length_map]; omega)
    have hsi : i + 1 ≤ s.done.length := hlt
    simp only [go_sem, C41L0, copB, Sh.cop, Sh.enc, hci, hw, hv, hB, hrow, hset, hsi, off6, ec80, Nat.zero_add]
    exact ⟨i + 1, by show s.done.length - (i + 1) < s.done.length - i; omega, hlt, _, [0, 1, 2, 3, 4], rfl, Wk.of rfl (by decide) (by simp only [go_sem]; first | done | rfl | trace_state) (by simp only [go_sem, copB, Sh.cop, Sh.enc, hv, hB, zV_ren, ↓zB_ren, Cell.map_rens, Evn.map_rens, drn, implies_true]; first | done | trace_state)⟩
  · have hci : ¬ (i : Int) < (s.done.length : Int) := by omega
    simp only [go_sem, C41L0, copB, Sh.cop, Sh.enc, hci]
    exact ⟨_, [2, 3, 4], by simp only [zV_ren, go_sem], rfl, rfl, by decide, by simp only [go_sem, copB, zV_ren, ↓zB_ren, Cell.map_rens, Evn.map_rens, drn, implies_true]⟩
end Go.Proofs
/- a node's shards told: by number, by key, by where they begin: walked. -/

set_option linter.all false
set_option linter.all false
set_option maxRecDepth 100000
namespace Go.Proofs
open Go Go.Ev
variable {H : Heap}

theorem get_lit {bl : List Blk} {i : Nat} {x : Blk} (h : bl[i]? = some x) : (H.ext bl).get (H.key i) = some x := by
  rw [Heap.get_ext_key _ _ _ (List.getElem?_eq_some_iff.1 h).1]; exact h
theorem get_lit2 {bl L : List Blk} {i : Nat} {x : Blk} (h : bl[i]? = some x) : ((H.ext bl).ext L).get (H.key i) = some x := by
  rw [Heap.ext_append]
  refine get_lit ?_
  rw [List.getElem?_append_left (List.getElem?_eq_some_iff.1 h).1]
  exact h
theorem cap_lit {bl : List Blk} {i : Nat} (h : i < bl.length) (g : FuncId) (top : Nat) (σ : List Nat) : AV.ren (rho (H.ext bl) top σ) (.fn (.func g) [] [.ptr (H.key i) 0]) = .fn (.func g) [] [.ptr (H.key i) 0] := by
  have : rho (H.ext bl) top σ (H.key i) = H.key i := rho_old (by rw [Heap.nx_ext, Heap.toNat_key, Heap.toNat_key]; omega)
  simp only [AV.ren, AV.rens, this]
/-- no shard -/
def zS : List AV := [.int .i64 0, .int .i64 0, .str [], .str [], .bool false, .nils, .nils, .nils]
section
variable {G : Heap} {k : K} {lv gv : AV} {hs : List Sh} {gs : List Gn}
theorem f24_no (k : K) {i : Int} (hi : i < 0) : FnOk Tryz.prog 24 [.ptr k 0, .int .i64 i] G fun r G' => r = .tup [.agg zS, .bool false] ∧ G' = G := by
  refine FnOk.drop (R := fun r => r = .tup [.agg zS, .bool false]) ?_ (by rintro v rfl ρ; simp only [zS, AV.ren, AV.rens])
  refine FnOk.of_WW Tryz.func24 rfl C24ok R24ok E0 good_E0 ?_
  simp only [go_sem, C24, hi, zS]
  exact ⟨_, rfl⟩
theorem f24_yes (h : isHd G k lv gv hs gs) {i : Nat} {s : Sh} (hi : hs[i]? = some s) : FnOk Tryz.prog 24 [.ptr k 0, .int .i64 i] G fun r G' => r = .tup [.agg (s.cop (G.key 0) (G.key 1) (G.key 2)).enc, .bool true] ∧ G' = G.ext (copB s) := by
  refine FnOk.dropW ?_
  refine FnOk.of_WW Tryz.func24 rfl C24ok R24ok E0 good_E0 ?_
  have hk : ∀ L, (G.ext L).get k = _ := fun L => Heap.get_ext_old h.ok h.row L
  obtain ⟨hlt, hs'⟩ := List.getElem?_eq_some_iff.1 hi
  obtain ⟨kk, r, ex', cap', wr, rows, hv, hrho, hgo, hrow⟩ := h.l.at h.ok (j := i) (by rw [List.length_map]; exact hlt)
  simp only [List.length_map, List.getElem_map, hs'] at hv hrow
  have hm := List.mem_of_getElem? hi
  have hsok := h.each s hm
  have hsm := h.small s hm
  have hci : ¬ (i : Int) < 0 := by omega
  have hsi : i + 1 ≤ hs.length := hlt
  have drn := bareL.rens hsm.b
  simp only [go_sem, C24, hci, hk, hv, hsi, hgo, hrow, Sh.enc]
  refine CL.of (f41_ok (hsok.ext _) hsm) ?_
  rintro _ _ ⟨rfl, rfl⟩
  simp only [go_sem, Sh.enc, Sh.cop, copB, Heap.key_ext]
  exact ⟨_, [1, 2, 3], by simp only [zV_ren, go_sem], rfl, rfl, by decide, by simp only [go_sem, zV_ren, ↓zB_ren, Cell.map_rens, Evn.map_rens, drn, implies_true]⟩
theorem f12_yes (h : isHd G k lv gv hs gs) (n : Int) {i : Nat} {s : Sh} (hx : idx (fun s => decide (s.id = n)) hs 0 = i) (hi : hs[i]? = some s) : FnOk Tryz.prog 12 [.ptr k 0, .int .i64 n] G fun r G' => r = .tup [.agg (s.cop (G.key 0) (G.key 1) (G.key 2)).enc, .bool true] ∧ G' = G.ext (copB s) := by
  refine FnOk.dropW ?_
  refine FnOk.of_WW Tryz.func12 rfl C12ok R12ok E0 good_E0 ?_
  have hsm := h.small s (List.mem_of_getElem? hi)
  have drn := bareL.rens hsm.b
  simp only [go_sem, C12]
  refine CL.of (f25_ok (q := fun s => decide (s.id = n)) (h.ext _) (fun _ _ => call30 ..) (fun top σ => by exact cap_lit (Nat.zero_lt_succ _) 30 top σ) (fun s _ L => by exact f30_ok (get_lit2 rfl) s)) ?_
  rintro _ G' ⟨rfl, hG⟩
  rw [hG, hx]
  clear hG
  simp only [go_sem]
  refine CL.of (f24_yes (h.ext _) hi) ?_
  rintro _ _ ⟨rfl, rfl⟩
  simp only [go_sem, Sh.enc, Sh.cop, copB, Heap.key_ext]
  exact ⟨_, [2, 3, 4], by simp only [zV_ren, go_sem], rfl, rfl, by decide, by simp only [go_sem, zV_ren, ↓zB_ren, Cell.map_rens, Evn.map_rens, drn, implies_true]⟩
theorem f12_no (h : isHd G k lv gv hs gs) (n : Int) (hx : idx (fun s => decide (s.id = n)) hs 0 = -1) : FnOk Tryz.prog 12 [.ptr k 0, .int .i64 n] G fun r G' => r = .tup [.agg zS, .bool false] ∧ G' = G := by
  refine FnOk.drop (R := fun r => r = .tup [.agg zS, .bool false]) ?_ (by rintro v rfl ρ; simp only [zS, AV.ren, AV.rens])
  refine FnOk.of_WW Tryz.func12 rfl C12ok R12ok E0 good_E0 ?_
  simp only [go_sem, C12]
  refine CL.of (f25_ok (q := fun s => decide (s.id = n)) (h.ext _) (fun _ _ => call30 ..) (fun top σ => by exact cap_lit (Nat.zero_lt_succ _) 30 top σ) (fun s _ L => by exact f30_ok (get_lit2 rfl) s)) ?_
  rintro _ G' ⟨rfl, hG⟩
  rw [hG, hx]
  clear hG
  simp only [go_sem]
  refine CL.of (f24_no _ (by decide)) ?_
  rintro _ G' ⟨rfl, hG⟩
  rw [hG]
  clear hG
  simp only [go_sem, zS]
  exact ⟨_, rfl⟩
theorem f8_yes (h : isHd G k lv gv hs gs) (key : List Nat) {i : Nat} {s : Sh} (hx : idx (findQ key) hs 0 = i) (hi : hs[i]? = some s) : FnOk Tryz.prog 8 [.ptr k 0, .str key] G fun r G' => r = .tup [.agg (s.cop (G.key 0) (G.key 1) (G.key 2)).enc, .bool true] ∧ G' = G.ext (copB s) := by
  refine FnOk.dropW ?_
  refine FnOk.of_WW Tryz.func8 rfl C8ok R8ok E0 good_E0 ?_
  have hsm := h.small s (List.mem_of_getElem? hi)
  have drn := bareL.rens hsm.b
  simp only [go_sem, C8]
  refine CL.of (f25_ok (q := findQ key) (h.ext _) (fun _ _ => call26 ..) (fun top σ => by exact cap_lit (Nat.zero_lt_succ _) 26 top σ) (fun s _ L => by exact f26_ok (get_lit2 rfl) s)) ?_
  rintro _ G' ⟨rfl, hG⟩
  rw [hG, hx]
  clear hG
  simp only [go_sem]
  refine CL.of (f24_yes (h.ext _) hi) ?_
  rintro _ _ ⟨rfl, rfl⟩
  simp only [go_sem, Sh.enc, Sh.cop, copB, Heap.key_ext]
  exact ⟨_, [2, 3, 4], by simp only [zV_ren, go_sem], rfl, rfl, by decide, by simp only [go_sem, zV_ren, ↓zB_ren, Cell.map_rens, Evn.map_rens, drn, implies_true]⟩
theorem f8_no (h : isHd G k lv gv hs gs) (key : List Nat) (hx : idx (findQ key) hs 0 = -1) : FnOk Tryz.prog 8 [.ptr k 0, .str key] G fun r G' => r = .tup [.agg zS, .bool false] ∧ G' = G := by
  refine FnOk.drop (R := fun r => r = .tup [.agg zS, .bool false]) ?_ (by rintro v rfl ρ; simp only [zS, AV.ren, AV.rens])
  refine FnOk.of_WW Tryz.func8 rfl C8ok R8ok E0 good_E0 ?_
  simp only [go_sem, C8]
  refine CL.of (f25_ok (q := findQ key) (h.ext _) (fun _ _ => call26 ..) (fun top σ => by exact cap_lit (Nat.zero_lt_succ _) 26 top σ) (fun s _ L => by exact f26_ok (get_lit2 rfl) s)) ?_
  rintro _ G' ⟨rfl, hG⟩
  rw [hG, hx]
  clear hG
  simp only [go_sem]
  refine CL.of (f24_no _ (by decide)) ?_
  rintro _ G' ⟨rfl, hG⟩
  rw [hG]
  clear hG
  simp only [go_sem, zS]
  exact ⟨_, rfl⟩
theorem f9_yes (h : isHd G k lv gv hs gs) (f : List Nat) {i : Nat} {s : Sh} (hx : idx (atQ f) hs 0 = i) (hi : hs[i]? = some s) : FnOk Tryz.prog 9 [.ptr k 0, .str f] G fun r G' => r = .tup [.agg (s.cop (G.key 0) (G.key 1) (G.key 2)).enc, .bool true] ∧ G' = G.ext (copB s) := by
  refine FnOk.dropW ?_
  refine FnOk.of_WW Tryz.func9 rfl C9ok R9ok E0 good_E0 ?_
  have hsm := h.small s (List.mem_of_getElem? hi)
  have drn := bareL.rens hsm.b
  simp only [go_sem, C9]
  refine CL.of (f25_ok (q := atQ f) (h.ext _) (fun _ _ => call28 ..) (fun top σ => by exact cap_lit (Nat.zero_lt_succ _) 28 top σ) (fun s _ L => by exact f28_ok (get_lit2 rfl) s)) ?_
  rintro _ G' ⟨rfl, hG⟩
  rw [hG, hx]
  clear hG
  simp only [go_sem]
  refine CL.of (f24_yes (h.ext _) hi) ?_
  rintro _ _ ⟨rfl, rfl⟩
  simp only [go_sem, Sh.enc, Sh.cop, copB, Heap.key_ext]
  exact ⟨_, [2, 3, 4], by simp only [zV_ren, go_sem], rfl, rfl, by decide, by simp only [go_sem, zV_ren, ↓zB_ren, Cell.map_rens, Evn.map_rens, drn, implies_true]⟩
theorem f9_no (h : isHd G k lv gv hs gs) (f : List Nat) (hx : idx (atQ f) hs 0 = -1) : FnOk Tryz.prog 9 [.ptr k 0, .str f] G fun r G' => r = .tup [.agg zS, .bool false] ∧ G' = G := by
  refine FnOk.drop (R := fun r => r = .tup [.agg zS, .bool false]) ?_ (by rintro v rfl ρ; simp only [zS, AV.ren, AV.rens])
  refine FnOk.of_WW Tryz.func9 rfl C9ok R9ok E0 good_E0 ?_
  simp only [go_sem, C9]
  refine CL.of (f25_ok (q := atQ f) (h.ext _) (fun _ _ => call28 ..) (fun top σ => by exact cap_lit (Nat.zero_lt_succ _) 28 top σ) (fun s _ L => by exact f28_ok (get_lit2 rfl) s)) ?_
  rintro _ G' ⟨rfl, hG⟩
  rw [hG, hx]
  clear hG
  simp only [go_sem]
  refine CL.of (f24_no _ (by decide)) ?_
  rintro _ G' ⟨rfl, hG⟩
  rw [hG]
  clear hG
  simp only [go_sem, zS]
  exact ⟨_, rfl⟩
end
end Go.Proofs
/- shards in order: how two are compared: walked. -/

set_option linter.all false
set_option linter.all false
set_option maxRecDepth 100000
namespace Go.Proofs
open Go Go.Ev
variable {H : Heap}

/-- two texts compared -/
noncomputable def cmpT (a b : List Nat) : Int := if ltS a b then -1 else if ¬ (ltS a b ∨ a = b) then 1 else 0
def cmpN (a b : Int) : Int := if a < b then -1 else if b < a then 1 else 0
theorem f128_ok (a : List Nat) : FnOk Tryz.prog 128 [.str a] H fun r G => r = .bool false ∧ G = H := by
  refine FnOk.drop (R := fun r => r = .bool false) ?_ (by rintro v rfl ρ; rw [AV.ren])
  refine FnOk.of_WW Tryz.func128 rfl C128ok R128ok E0 good_E0 ?_
  simp only [go_sem, C128]
  exact ⟨_, rfl⟩
theorem f91_ok (a : Int) : FnOk Tryz.prog 91 [.int .i64 a] H fun r G => r = .bool false ∧ G = H := by
  refine FnOk.drop (R := fun r => r = .bool false) ?_ (by rintro v rfl ρ; rw [AV.ren])
  refine FnOk.of_WW Tryz.func91 rfl C91ok R91ok E0 good_E0 ?_
  simp only [go_sem, C91]
  exact ⟨_, rfl⟩
theorem f88_ok (a b : List Nat) : FnOk Tryz.prog 88 [.str a, .str b] H fun r G => r = .int .i64 (cmpT a b) ∧ G = H := by
  refine FnOk.drop (R := fun r => r = .int .i64 (cmpT a b)) ?_ (by rintro v rfl ρ; rw [AV.ren])
  refine FnOk.of_WW Tryz.func88 rfl C88ok R88ok E0 good_E0 ?_
  simp only [go_sem, C88]
  refine CL.of (f128_ok a) ?_
  rintro _ G' ⟨rfl, hG⟩; rw [hG]; clear hG
  simp only [go_sem]
  refine CL.of (f128_ok b) ?_
  rintro _ G' ⟨rfl, hG⟩; rw [hG]; clear hG
  simp only [go_sem]
  unfold cmpT
  refine ⟨fun h => ⟨by rw [if_pos h], _, rfl⟩, fun h => ⟨fun g => ⟨by rw [if_neg h, if_pos g], _, rfl⟩, fun g => ⟨by rw [if_neg h, if_neg g], _, rfl⟩⟩⟩
theorem f49_ok (a b : Int) : FnOk Tryz.prog 49 [.int .i64 a, .int .i64 b] H fun r G => r = .int .i64 (cmpN a b) ∧ G = H := by
  refine FnOk.drop (R := fun r => r = .int .i64 (cmpN a b)) ?_ (by rintro v rfl ρ; rw [AV.ren])
  refine FnOk.of_WW Tryz.func49 rfl C49ok R49ok E0 good_E0 ?_
  simp only [go_sem, C49]
  refine CL.of (f91_ok a) ?_
  rintro _ G' ⟨rfl, hG⟩; rw [hG]; clear hG
  simp only [go_sem]
  refine CL.of (f91_ok b) ?_
  rintro _ G' ⟨rfl, hG⟩; rw [hG]; clear hG
  simp only [go_sem]
  unfold cmpN
  refine ⟨fun h => ⟨by rw [if_pos h], _, rfl⟩, fun h => ⟨fun g => ⟨by rw [if_neg h, if_pos g], _, rfl⟩, fun g => ⟨by rw [if_neg h, if_neg g], _, rfl⟩⟩⟩
theorem readC_1 {β : Type} (f : β) (rows : List (List AV)) (k : Nat) (c : List AV → β) : readC f 1 rows k 1 c = optC rows[k]? f c := by
  have h := readC_at0 f 1 rows k 1 c (by decide) (Nat.le_refl _)
  rw [Nat.mul_one] at h
  exact h
theorem f87_ok {k : K} {wr : Bool} {a b : Int} (hk : H.get k = some (.row wr 1 [[.int .i64 a], [.int .i64 b]])) (ex : Bool) (cap : Nat) : FnOk Tryz.prog 87 [.slice k 0 2 1 ex cap] H fun r G => r = .int .i64 (if ¬ a = 0 then a else b) ∧ G = H := by
  refine FnOk.assume fun hok => ?_
  refine FnOk.drop (R := fun r => r = .int .i64 (if ¬ a = 0 then a else b)) ?_ (by rintro v rfl ρ; rw [AV.ren])
  refine FnOk.of_WW Tryz.func87 rfl C87ok R87ok E0 good_E0 ?_
  have hgo := Heap.get_ext_old hok hk
  have hA : Arr H 1 (.slice k 0 2 1 ex cap) [[.int .i64 a], [.int .i64 b]] := .inr ⟨k, 0, ex, cap, rfl, hok k _ hk, fun _ => ⟨0, wr, _, rfl, hk, rfl⟩⟩
  have hren : ∀ top σ, rho H top σ k = k := fun _ _ => rho_old (hok k _ hk)
  have hw01 : IntKind.i64.wrap (0 + 1) = 1 := rfl
  have hw11 : IntKind.i64.wrap (1 + 1) = 2 := rfl
  simp only [go_sem, C87]
  refine LL.st good_E0 (fun i : Nat => 2 - i) (fun i => i ≤ 2 ∧ (0 < i → a = 0) ∧ (1 < i → b = 0))
    (fun i => [((.o (.o .z)), .int .i64 0), ((.i (.i .z)), .slice k 0 2 1 ex cap), ((.o (.o (.o .z))), .int .i64 2), ((.i (.o (.o .z))), .int .i64 i)]) (fun i => []) ?_ 0 (σ := []) (Wk.of rfl (by decide) (by simp only [go_sem, hren, hw01, hw11]; first | done | rfl | trace_state) (by simp only [go_sem])) ⟨Nat.zero_le _, fun h => absurd h (Nat.lt_irrefl _), fun h => absurd h (Nat.not_lt_zero _)⟩
  rintro i ⟨hi, h1, h2⟩
  have h3 : i = 0 ∨ i = 1 ∨ i = 2 := by omega
  rcases h3 with rfl | rfl | rfl
  · simp only [go_sem, C87L0, hgo]
    refine ⟨fun h => ⟨by rw [if_pos h], _, rfl⟩, fun h => ?_⟩
    exact ⟨1, by show 2 - 1 < 2 - 0; decide, ⟨by decide, fun _ => Classical.not_not.1 h, fun h => absurd h (Nat.lt_irrefl _)⟩, _, [], rfl, Wk.of rfl (by decide) (by simp only [go_sem, hren, hw01, hw11]; first | done | rfl | trace_state) (by simp only [go_sem])⟩
  · have ha := h1 (by decide)
    simp only [go_sem, C87L0, hgo, readC_1]
    refine ⟨fun h => ⟨by rw [if_neg (fun g => g ha)], _, rfl⟩, fun h => ?_⟩
    exact ⟨2, by show 2 - 2 < 2 - 1; decide, ⟨by decide, fun _ => ha, fun _ => Classical.not_not.1 h⟩, _, [], rfl, Wk.of rfl (by decide) (by simp only [go_sem, hren, hw01, hw11]; first | done | rfl | trace_state) (by simp only [go_sem])⟩
  · have ha := h1 (by decide)
    have hb := h2 (by decide)
    simp only [go_sem, C87L0]
    exact ⟨by rw [if_neg (fun g => g ha), hb], _, rfl⟩
noncomputable def EQ (f : FuncId) (args : List AV) (H : Heap) : RC :=
  match f with
  | 88 => match args with | [.str a, .str b] => .ok (.int .i64 (cmpT a b)) H | _ => .fail
  | 49 => match args with | [.int .i64 a, .int .i64 b] => .ok (.int .i64 (cmpN a b)) H | _ => .fail
  | 87 => match args with
    | [.slice k 0 2 1 ex cap] => match H.get k with
      | some (.row wr 1 [[.int .i64 a], [.int .i64 b]]) => .ok (.int .i64 (if ¬ a = 0 then a else b)) H
      | _ => .fail
    | _ => .fail
  | _ => .fail
theorem good_EQ : Ev.Good Tryz.prog EQ := by
  intro f args H r G he φ w args' ha hw
  refine (?_ : FnOk Tryz.prog f args H fun v' G' => v' = r ∧ G' = G).one φ w args' ha hw
  unfold EQ at he
  split at he
  · split at he
    · cases he; exact f88_ok _ _
    · cases he
  · split at he
    · cases he; exact f49_ok _ _
    · cases he
  · split at he
    · split at he
      · rename_i hk
        cases he; exact f87_ok hk _ _
      · cases he
    · cases he
  · cases he
theorem eq88 (a b : List Nat) (H : Heap) : EQ 88 [.str a, .str b] H = .ok (.int .i64 (cmpT a b)) H := rfl
theorem eq49 (a b : Int) (H : Heap) : EQ 49 [.int .i64 a, .int .i64 b] H = .ok (.int .i64 (cmpN a b)) H := rfl
theorem eq87 {k : K} {wr ex : Bool} {cap : Nat} {a b : Int} {H : Heap} (hk : H.get k = some (.row wr 1 [[.int .i64 a], [.int .i64 b]])) : EQ 87 [.slice k 0 2 1 ex cap] H = .ok (.int .i64 (if ¬ a = 0 then a else b)) H := by
  show (match H.get k with | some (.row wr 1 [[.int .i64 a], [.int .i64 b]]) => .ok (.int .i64 (if ¬ a = 0 then a else b)) H | _ => .fail : RC) = _
  rw [hk]
  rfl
/-- two shards compared -/
noncomputable def cmpS (f g : List Nat) (i j : Int) : Int := if ¬ cmpT f g = 0 then cmpT f g else cmpN i j
theorem f86_ok (i e : Int) (f t : List Nat) (z : Bool) (c v d : AV) (i' e' : Int) (f' t' : List Nat) (z' : Bool) (c' v' d' : AV) :
    FnOk Tryz.prog 86 [.agg [.int .i64 i, .int .i64 e, .str f, .str t, .bool z, c, v, d], .agg [.int .i64 i', .int .i64 e', .str f', .str t', .bool z', c', v', d']] H fun r G => r = .int .i64 (cmpS f f' i i') ∧ G = H := by
  refine FnOk.drop (R := fun r => r = .int .i64 (cmpS f f' i i')) ?_ (by rintro v rfl ρ; rw [AV.ren])
  refine FnOk.of_WW Tryz.func86 rfl C86ok R86ok EQ good_EQ ?_
  have i87 := fun b0 b1 => eq87 (H := H.ext [b0, b1, .row true 1 [[.int .i64 (cmpT f f')], [.int .i64 (cmpN i i')]]]) (k := H.key 2) (wr := true) (ex := true) (cap := 2) (get_lit rfl)
  simp only [go_sem, C86, eq88, eq49, i87]
  exact ⟨rfl, _, rfl⟩
noncomputable def EM (f : FuncId) (args : List AV) (H : Heap) : RC :=
  match f with
  | 86 => match args with | [.agg [.int .i64 i, .int .i64 _, .str f, .str _, .bool _, _, _, _], .agg [.int .i64 i', .int .i64 _, .str f', .str _, .bool _, _, _, _]] => .ok (.int .i64 (cmpS f f' i i')) H | _ => .fail
  | _ => .fail
theorem good_EM : Ev.Good Tryz.prog EM := by
  intro f args H r G he φ w args' ha hw
  refine (?_ : FnOk Tryz.prog f args H fun v' G' => v' = r ∧ G' = G).one φ w args' ha hw
  unfold EM at he
  split at he
  · split at he
    · cases he; exact f86_ok _ _ _ _ _ _ _ _ _ _ _ _ _ _ _ _
    · cases he
  · cases he
theorem em86 (i e : Int) (f t : List Nat) (z : Bool) (c v d : AV) (i' e' : Int) (f' t' : List Nat) (z' : Bool) (c' v' d' : AV) (H : Heap) :
    EM 86 [.agg [.int .i64 i, .int .i64 e, .str f, .str t, .bool z, c, v, d], .agg [.int .i64 i', .int .i64 e', .str f', .str t', .bool z', c', v', d']] H = .ok (.int .i64 (cmpS f f' i i')) H := rfl
/-- shards in order: by where they begin, by number -/
def sorted2 : List Sh → Prop
  | [a, b] => ¬ cmpS b.fr a.fr b.id a.id < 0
  | l => l.length ≤ 1
theorem f168_one {v : AV} {n : Nat} (hn : n ≤ 1) (g : AV) : FnOk Tryz.prog 168 [v, .int .i64 0, .int .i64 n, g] H fun r G => r = .tup [] ∧ G = H := by
  refine FnOk.drop (R := fun r => r = .tup []) ?_ (by rintro v rfl ρ; simp only [AV.ren, AV.rens])
  refine FnOk.of_WW Tryz.func168 rfl C168ok R168ok E0 good_E0 ?_
  have hw01 : IntKind.i64.wrap (0 + 1) = 1 := rfl
  have hc : ¬ (1 : Int) < (n : Int) := by omega
  simp only [go_sem, C168, hw01]
  refine LL.st good_E0 (fun _ : Nat => 0) (fun _ => True) (fun _ => [((.i .z), .int .i64 n), ((.i (.o (.o .z))), .int .i64 1)]) (fun _ => []) ?_ 0 (σ := []) (Wk.of rfl (by decide) (by simp only [go_sem]; first | done | rfl | trace_state) (by simp only [go_sem])) trivial
  rintro _ _
  simp only [go_sem, C168L1, hc]
  exact ⟨_, rfl⟩
theorem f168_two {v : AV} {a b : Sh} (hA : Arr H 8 v [a.enc, b.enc]) (hs : ¬ cmpS b.fr a.fr b.id a.id < 0) : FnOk Tryz.prog 168 [v, .int .i64 0, .int .i64 2, .fn (.func 86) [] []] H fun r G => r = .tup [] ∧ G = H := by
  refine FnOk.assume fun hok => ?_
  refine FnOk.drop (R := fun r => r = .tup []) ?_ (by rintro v rfl ρ; simp only [AV.ren, AV.rens])
  refine FnOk.of_WW Tryz.func168 rfl C168ok R168ok EM good_EM ?_
  have hw01 : IntKind.i64.wrap (0 + 1) = 1 := rfl
  have hw11 : IntKind.i64.wrap (1 + 1) = 2 := rfl
  have hw10 : IntKind.i64.wrap (1 - 1) = 0 := rfl
  have hren := hA.ren
  simp only [go_sem, C168, hw01]
  refine LL.st good_EM (fun i : Nat => 2 - i) (fun i => i = 1 ∨ i = 2) (fun i => [(.z, v), ((.o .z), .int .i64 0), ((.i .z), .int .i64 2), ((.o (.o .z)), .fn (.func 86) [] []), ((.i (.o (.o .z))), .int .i64 i)]) (fun _ => []) ?_ 1 (σ := []) (Wk.of rfl (by decide) (by simp only [go_sem, hren]; first | done | rfl | trace_state) (by simp only [go_sem])) (.inl rfl)
  rintro i (rfl | rfl)
  · simp only [go_sem, C168L1]
    refine LL.st good_EM (fun _ : Nat => 0) (fun _ => True) (fun _ => [(.z, v), ((.o .z), .int .i64 0), ((.i .z), .int .i64 2), ((.o (.o .z)), .fn (.func 86) [] []), ((.i (.o (.o .z))), .int .i64 1), ((.o (.i (.o .z))), .int .i64 1)]) (fun _ => []) ?_ 0 (σ := []) (Wk.of rfl (by decide) (by simp only [go_sem, hren]; first | done | rfl | trace_state) (by simp only [go_sem])) trivial
    rintro _ _
    obtain ⟨kk, r, ex', cap', wr, rows, hv, hrho, hgo, hrow⟩ := hA.at hok (j := 1) (Nat.lt_succ_self 1)
    obtain ⟨kk', r', ex'', cap'', wr', rows', hv', hrho', hgo', hrow'⟩ := hA.at hok (j := 0) (Nat.zero_lt_succ _)
    rw [hv] at hv'
    injection hv' with e1 e2 e3 e4 e5 e6
    subst e1
    have e7 := Option.some.inj ((hgo []).symm.trans (hgo' []))
    injection e7 with e7 e8 e9
    subst e9
    have e2' : r' = r := by omega
    subst e2'
    simp only [List.getElem_cons_zero, List.getElem_cons_succ, Sh.enc, Nat.add_zero] at hrow hrow'
    have hs' := eq_false hs
    have h88 : r' * 8 + 8 = (r' + 1) * 8 := by omega
    simp only [go_sem, C168L0, hv, hgo, hw10, h88, hrow, hrow', em86, hs', hw11]
    exact ⟨2, by show 2 - 2 < 2 - 1; decide, .inr rfl, _, [], rfl, Wk.of rfl (by decide) (by simp only [go_sem, hren, hv, hrho]; first | done | rfl | trace_state) (by simp only [go_sem])⟩
  · simp only [go_sem, C168L1]
    exact ⟨_, rfl⟩
end Go.Proofs
/- shards in order: sorted already; one left out: walked. -/

set_option linter.all false
set_option linter.all false
set_option maxRecDepth 100000
namespace Go.Proofs
open Go Go.Ev
variable {H : Heap}

theorem f168_ok {v : AV} {hs : List Sh} (hA : Arr H 8 v (hs.map Sh.enc)) (hs2 : sorted2 hs) : FnOk Tryz.prog 168 [v, .int .i64 0, .int .i64 hs.length, .fn (.func 86) [] []] H fun r G => r = .tup [] ∧ G = H := by
  match hs, hA, hs2 with
  | [], _, _ => exact f168_one (n := 0) (by decide) _
  | [_], _, _ => exact f168_one (n := 1) (by decide) _
  | [a, b], hA, hs2 => exact f168_two hA hs2
  | _ :: _ :: _ :: _, _, h => exact absurd (show _ + 1 + 1 + 1 ≤ 1 from h) (by omega)
theorem sorted2_len {hs : List Sh} (h : sorted2 hs) : hs.length ≤ 2 := by
  match hs, h with
  | [], _ => exact Nat.zero_le _
  | [_], _ => exact Nat.le_succ 1
  | [_, _], _ => exact Nat.le_refl 2
  | _ :: _ :: _ :: _, h => exact absurd (show _ + 1 + 1 + 1 ≤ 1 from h) (by omega)
theorem f127_ok {v : AV} {hs : List Sh} (hA : Arr H 8 v (hs.map Sh.enc)) (hs2 : sorted2 hs) : FnOk Tryz.prog 127 [v, .int .i64 hs.length, .fn (.func 86) [] []] H fun r G => r = .tup [] ∧ G = H := by
  refine FnOk.drop (R := fun r => r = .tup []) ?_ (by rintro v rfl ρ; simp only [AV.ren, AV.rens])
  refine FnOk.of_WW Tryz.func127 rfl C127ok R127ok E0 good_E0 ?_
  have hren := hA.ren
  have hl := sorted2_len hs2
  have hc : ¬ (20 : Int) ≤ (hs.length : Int) := by omega
  have hc2 : ¬ (20 : Int) < (hs.length : Int) := by omega
  simp only [go_sem, C127]
  refine LL.st good_E0 (fun _ : Nat => 0) (fun _ => True) (fun _ => [(.z, v), ((.o .z), .int .i64 hs.length), ((.i .z), .fn (.func 86) [] []), ((.i (.i .z)), .int .i64 20), ((.o (.o (.o .z))), .int .i64 0), ((.i (.o (.o .z))), .int .i64 20)]) (fun _ => []) ?_ 0 (σ := []) (Wk.of rfl (by decide) (by simp only [go_sem, hren]; first | done | rfl | trace_state) (by simp only [go_sem])) trivial
  rintro _ _
  simp only [go_sem, C127L0, hc]
  refine CL.of (f168_ok (hA.ext _) hs2) ?_
  rintro _ G' ⟨rfl, hG⟩; rw [hG]; clear hG
  simp only [go_sem]
  refine LL.st good_E0 (fun _ : Nat => 0) (fun _ => True) (fun _ => [((.o .z), .int .i64 hs.length), ((.i (.i .z)), .int .i64 20)]) (fun _ => []) ?_ 0 (σ := []) (Wk.of rfl (by decide) (by simp only [go_sem, hren]; first | done | rfl | trace_state) (by simp only [go_sem])) trivial
  rintro _ _
  simp only [go_sem, C127L2, hc2]
  exact ⟨_, rfl⟩
theorem f85_ok {v : AV} {hs : List Sh} (hA : Arr H 8 v (hs.map Sh.enc)) (hs2 : sorted2 hs) : FnOk Tryz.prog 85 [v, .fn (.func 86) [] []] H fun r G => r = .tup [] ∧ G = H := by
  refine FnOk.drop (R := fun r => r = .tup []) ?_ (by rintro v rfl ρ; simp only [AV.ren, AV.rens])
  refine FnOk.of_WW Tryz.func85 rfl C85ok R85ok E0 good_E0 ?_
  have hlen := fun G => hA.len G
  simp only [List.length_map] at hlen
  simp only [go_sem, C85, hlen]
  refine CL.of (f127_ok (hA.ext _) hs2) ?_
  rintro _ G' ⟨rfl, hG⟩; rw [hG]; clear hG
  simp only [go_sem]
  exact ⟨_, rfl⟩
theorem f46_ok {G : Heap} {k : K} {lv gv : AV} {hs : List Sh} {gs : List Gn} (h : isHd G k lv gv hs gs) (hs2 : sorted2 hs) : FnOk Tryz.prog 46 [.ptr k 0] G fun r G' => r = .tup [] ∧ G' = G := by
  refine FnOk.drop (R := fun r => r = .tup []) ?_ (by rintro v rfl ρ; simp only [AV.ren, AV.rens])
  refine FnOk.of_WW Tryz.func46 rfl C46ok R46ok E0 good_E0 ?_
  have hk : ∀ L, (G.ext L).get k = _ := fun L => Heap.get_ext_old h.ok h.row L
  simp only [go_sem, C46, hk]
  refine CL.of (f85_ok (h.l.ext _) hs2) ?_
  rintro _ G' ⟨rfl, hG⟩; rw [hG]; clear hG
  simp only [go_sem]
  exact ⟨_, rfl⟩
/-- nothing is left out -/
theorem f96_none {v : AV} {l : List Sh} (hA : Arr H 8 v (l.map Sh.enc)) (hl : l.length ≤ 100000) {g : FuncId} {caps : List AV} (hcall : ∀ args H, callC Tryz.prog g args H = .call g args)
    (hcaps : ∀ top σ, AV.ren (rho H top σ) (.fn (.func g) [] caps) = .fn (.func g) [] caps) {q : Sh → Bool} (hg : ∀ s ∈ l, ∀ L, FnOk Tryz.prog g (.agg s.enc :: caps) (H.ext L) fun r G => r = .bool (q s) ∧ G = H.ext L) (hq : idx q l 0 = -1) :
    FnOk Tryz.prog 96 [v, .fn (.func g) [] caps] H fun r G => r = v ∧ G = H := by
  have hren := hA.ren
  refine FnOk.dropOld (R := fun r => r = v) ?_ (by rintro _ rfl top σ; exact hren top σ)
  refine FnOk.of_WW Tryz.func96 rfl C96ok R96ok E0 good_E0 ?_
  simp only [go_sem, C96]
  have h64 := f64_ok hA hl hcall hcaps hg
  rw [← Heap.ext_nil H] at h64
  refine CL.of h64 ?_
  rintro _ G' ⟨rfl, hG⟩
  rw [hG, hq]
  clear hG
  simp only [go_sem]
  exact ⟨_, rfl⟩
/-- the only one is left out -/
theorem f96_only {G : Heap} {c : K} {s : Sh} (hok : G.ok) (hc : G.get c = some (.row true 8 [s.enc])) {g : FuncId} {caps : List AV} (hcall : ∀ args H, callC Tryz.prog g args H = .call g args)
    (hcaps : ∀ top σ, AV.ren (rho G top σ) (.fn (.func g) [] caps) = .fn (.func g) [] caps) {q : Sh → Bool} (hg : ∀ L, FnOk Tryz.prog g (.agg s.enc :: caps) (G.ext L) fun r G' => r = .bool (q s) ∧ G' = G.ext L) (hq : q s = true) :
    FnOk Tryz.prog 96 [.slice c 0 1 8 false 1, .fn (.func g) [] caps] G fun r G' => r = .slice c 0 0 8 false 1 ∧ G' = G.set c (.row true 8 [zS]) := by
  have hA : Arr G 8 (.slice c 0 1 8 false 1) ([s].map Sh.enc) := .inr ⟨c, 0, false, 1, rfl, hok c _ hc, fun _ => ⟨0, true, _, rfl, hc, rfl⟩⟩
  have hren : ∀ top σ, rho G top σ c = c := fun _ _ => rho_old (hok c _ hc)
  have hgo : ∀ L, (G.ext L).get c = _ := fun L => Heap.get_ext_old hok hc L
  refine FnOk.of_WW Tryz.func96 rfl C96ok R96ok E0 good_E0 ?_
  simp only [go_sem, C96]
  have h64 := f64_ok (q := q) hA (by show 1 ≤ 100000; decide) hcall hcaps (fun s' hs' L => by rw [List.mem_singleton.1 hs']; exact hg L)
  have hx : idx q [s] 0 = 0 := by unfold idx; rw [hq]; rfl
  rw [hx, ← Heap.ext_nil G] at h64
  have hw01 : IntKind.i64.wrap (0 + 1) = 1 := rfl
  refine CL.of h64 ?_
  rintro _ G' ⟨rfl, hG⟩
  rw [hG]
  clear hG
  simp only [go_sem, hw01]
  refine LL.st good_E0 (fun _ : Nat => 0) (fun _ => True) (fun _ => [(.z, .slice c 0 1 8 false 1), ((.o (.i .z)), .int .i64 0), ((.i (.i .z)), .int .i64 1)]) (fun _ => []) ?_ 0 (σ := []) (Wk.of rfl (by decide) (by simp only [go_sem, hren]; first | done | rfl | trace_state) (by simp only [go_sem])) trivial
  rintro _ _
  have hset := fun b (l : List Blk) (α : Type) (c' : Heap → α) => Heap.setC_here hok hc b l c'
  simp only [go_sem, C96L0, hgo, hset]
  exact Heap.ext_nil _
end Go.Proofs
