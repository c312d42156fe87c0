/- The laid-out code of the functions that are walked. Printed by a program. -/
import Derived.Test.YtaoigphdghmacaaGreatDoorZ16
import Derived.Test.YtaoigphdghmacaaGreatDoorProg
import Derived.KernelRfl
set_option linter.all false
set_option maxRecDepth 100000
namespace Go.Proofs
open Go Go.Ev K
@[go_sem] theorem call144 (args H) : callC Tryz.prog 144 args H = .call 144 args := callC_ok (by kernel_rfl) args H
@[go_sem] theorem call145 (args H) : callC Tryz.prog 145 args H = .call 145 args := callC_ok (by kernel_rfl) args H
noncomputable def C151 : CC := (.seq (.region [.mk (boxR false z) z.o, .mk (mvR (X.c AV.nili)) z.i]) (.seq (.block 0 (.seq (.block 2 (.block 1 (.seq (.seq (.seq (.region [.mk (ldR true 8 z.o) z.o.i, .mk (callS Tryz.prog 45 [z.o.i]) z.i.o, .mk (unR UnOp.not z.i.o) z.i.i, .mk (mvR z.i.i) z.o.o]) (.cond z.o.o (.exit 1) .skip)) (.seq (.region [.mk (faR 4 z.o) z.o.o.i, .mk (ldR false 1 z.o.o.i) z.o.i.o, .mk (mvR z.o.i.o) z.o.o.o]) (.cond z.o.o.o (.exit 2) .skip))) (.exit 0)))) (.seq (.seq (.region [.mk (mkiR 51 (X.c (.int .i64 10))) z.o.i.i, .mk (mvR z.o.i.i) z.i]) .ret) (.exit 0)))) (.seq (.region [.mk (mvR (X.c AV.nili)) z.i]) .ret)))
theorem C151ok : CCok Tryz.prog Tryz.f151 11 C151 := by show _ = _; kernel_rfl
@[go_sem] theorem call151 (args H) : callC Tryz.prog 151 args H = .call 151 args := callC_ok (by kernel_rfl) args H
theorem R151ok : resKs Tryz.prog Tryz.f151.results.toList = some [(RK.tmp z.i)] := by kernel_rfl

noncomputable def C152 : CC := (.seq (.region [.mk (mvR (X.c (.bool false))) z.i]) (.seq (.region [.mk (mvR z) z.o.o, .mk (binR Tryz.prog EK.no .none true BinOp.geq z.o.o (X.c (.int .i64 1))) z.o.i, .mk (mvR z.o.i) z.i.o, .mk (mvR z) z.i.i (Gd.on z.i.o true) [], .mk (binR Tryz.prog EK.no .none true BinOp.leq z.i.i (X.c (.int .i64 1000000000000))) z.o.o.o (Gd.on z.i.o true) [], .mk (pickR z.i.o z.o.o.o (X.c (.bool false))) z.o.o.i, .mk (mvR z.o.o.i) z.i]) .ret))
theorem C152ok : CCok Tryz.prog Tryz.f152 9 C152 := by show _ = _; kernel_rfl
@[go_sem] theorem call152 (args H) : callC Tryz.prog 152 args H = .call 152 args := callC_ok (by kernel_rfl) args H
theorem R152ok : resKs Tryz.prog Tryz.f152.results.toList = some [(RK.tmp z.i)] := by kernel_rfl

noncomputable def C153 : CC := (.seq (.region [.mk (boxR false z) z.i, .mk (fun _ H => newC false [(.str []), (.str [])] H) z.o.i, .mk (fun _ H => newC false [(.str []), (.str [])] H) z.i.o, .mk (mvR (X.c (.bool false))) z.i.i]) (.seq (.seq (.region [.mk (ldR true 2 z.i) z.o.o.o, .mk (mvR z.o) z.o.o.i, .mk (callS Tryz.prog 27 [z.o.o.o, z.o.o.i]) z.o.i.o, .mk (unR UnOp.not z.o.i.o) z.o.i.i, .mk (mvR z.o.i.i) z.i.o.o, .mk (mvR z.o) z.i.o.i (Gd.on z.i.o.o false) [], .mk (faR 0 z.i) z.i.i.o (Gd.on z.i.o.o false) [], .mk (ldR false 1 z.i.i.o) z.i.i.i (Gd.on z.i.o.o false) [], .mk (binR Tryz.prog EK.no .none false BinOp.leq z.i.o.i z.i.i.i) z.o.o.o.o (Gd.on z.i.o.o false) [], .mk (pickR z.i.o.o (X.c (.bool true)) z.o.o.o.o) z.o.o.o.i]) (.cond z.o.o.o.i (.seq (.region [.mk (buildR [(.str []), (.str [])] []) z.o.o.i.o, .mk (buildR [(.str []), (.str [])] []) z.o.o.i.i, .mk (stR 2 z.o.i z.o.o.i.o) .none, .mk (stR 2 z.i.o z.o.o.i.i) .none, .mk (mvR (X.c (.bool false))) z.i.i]) .ret) .skip)) (.seq (.regionD [.mk (keepH (faR 1 z.i)) z.i.o.o.i, .mk (keepH (ldR false 1 z.i.o.o.i)) z.i.o.i.o, .mk (keepH (mvR z.o)) z.i.o.o.o, .mk (keepH (buildR [(.str []), (.str [])] [(0, (1, z.i.o.o.o)), (1, (1, z.i.o.i.o))])) z.i.o.i.i, .mk (keepH (mvR z.o)) z.o.i.i.o, .mk (keepH (faR 0 z.i)) z.o.i.o.o, .mk (keepH (ldR false 1 z.o.i.o.o)) z.o.i.o.i, .mk (keepH (buildR [(.str []), (.str [])] [(0, (1, z.o.i.o.i)), (1, (1, z.o.i.i.o))])) z.o.i.i.i, .mk (stR 2 z.o.i z.o.i.i.i) .none Gd.no [.mk (buildR [(.str []), (.str [])] [(0, (1, z.i.o.o.o)), (1, (1, z.i.o.i.o))]) z.i.o.i.i Gd.no, .mk (mvR z.o) z.i.o.o.o Gd.no, .mk (ldR false 1 z.i.o.o.i) z.i.o.i.o Gd.no, .mk (faR 1 z.i) z.i.o.o.i Gd.no], .mk (stR 2 z.i.o z.i.o.i.i) .none, .mk (mvR (X.c (.bool true))) z.i.i]) .ret)))
theorem C153ok : CCok Tryz.prog Tryz.f153 27 C153 := by show _ = _; kernel_rfl
@[go_sem] theorem call153 (args H) : callC Tryz.prog 153 args H = .call 153 args := callC_ok (by kernel_rfl) args H
theorem R153ok : resKs Tryz.prog Tryz.f153.results.toList = some [(RK.cell z.o.i true 2), (RK.cell z.i.o true 2), (RK.tmp z.i.i)] := by kernel_rfl

noncomputable def C154L0 : CC := (.seq (.region [.mk (binR Tryz.prog EK.no .none false BinOp.lss z.o.i.i.o z.o.i.o.i) z.o.i.i.i]) (.seq (.cond z.o.i.i.i .skip (.exit 0)) (.seq (.block 1 (.seq (.region [.mk (iaS 4 z.o.i.o.o z.o.i.i.o) z.i.o.o.o, .mk (ldR true 4 z.i.o.o.o) z.i.o.o.i, .mk (fun _ H => newC false [(.str []), (.int .i64 0), (.str []), (.bool false)] H) z.o.i.o, .mk (stR 4 z.o.i.o z.i.o.o.i) .none]) (.seq (.region [.mk (ldR true 2 z.i.o) z.i.o.i.o, .mk (faR 0 z.o.i.o) z.i.o.i.i, .mk (ldR false 1 z.i.o.i.i) z.i.i.o.o, .mk (callS Tryz.prog 27 [z.i.o.i.o, z.i.i.o.o]) z.i.i.o.i]) (.cond z.i.i.o.i (.region [.mk (faR 6 z.o.o.o) z.i.i.i.o, .mk (ldR false 1 z.i.i.i.o) z.i.i.i.i, .mk (ldR true 4 z.o.i.o) z.o.o.o.o.o, .mk (bslR 4 1 [(.str []), (.int .i64 0), (.str []), (.bool false)] [(0, z.o.o.o.o.o)]) z.o.o.o.o.i, .mk (appR 4 48 z.i.i.i.i z.o.o.o.o.i) z.o.o.o.i.o, .mk (faR 6 z.o.o.o) z.o.o.o.i.i, .mk (stR 1 z.o.o.o.i.i z.o.o.o.i.o) .none]) .skip)))) (.region [.mk (binR Tryz.prog EK.no .none true BinOp.add z.o.i.i.o (X.c (.int .i64 1))) z.o.o.i.o.o, .mk (mvR z.o.o.i.o.o) z.o.i.i.o]))))
noncomputable def C154 : CC := (.seq (.region [.mk (boxR false z) z.o.o, .mk (boxR false z.i) z.i.o, .mk (fun _ H => newC false [(.int .i64 0), (.int .i64 0), (.str []), (.str []), (.bool false), AV.nils, AV.nils, AV.nils] H) z.i.i]) (.seq (.region [.mk (mvR z.o) z.o.i.i, .mk (ldR true 2 z.i.o) z.i.o.o, .mk (callS Tryz.prog 157 [z.o.i.i, (X.c (.int .i64 1)), z.i.o.o]) z.i.o.i, .mk (fun _ H => newC false [(.int .i64 0), (.int .i64 0), (.str []), (.str []), (.bool false), AV.nils, AV.nils, AV.nils] H) z.o.o.o, .mk (stR 8 z.o.o.o z.i.o.i) .none]) (.seq (.region [.mk (faR 5 z.o.o) z.i.i.o, .mk (ldR false 1 z.i.i.o) z.i.i.i, .mk (ldR true 2 z.i.o) z.o.o.o.o, .mk (callS Tryz.prog 186 [z.i.i.i, z.o.o.o.o]) z.o.o.o.i, .mk (faR 5 z.o.o.o) z.o.o.i.o, .mk (stR 1 z.o.o.i.o z.o.o.o.i) .none]) (.seq (.seq (.region [.mk (faR 6 z.o.o) z.o.o.i.i, .mk (ldR false 1 z.o.o.i.i) z.o.i.o.o, .mk (lenR LnK.slice z.o.i.o.o) z.o.i.o.i, .mk (mvR (X.c (.int .i64 0))) z.o.i.i.o]) (.block 0 (.loop C154L0))) (.seq (.region [.mk (faR 7 z.o.o) z.o.o.i.o.i, .mk (ldR false 1 z.o.o.i.o.i) z.o.o.i.i.o, .mk (callS Tryz.prog 79 [z.o.o.i.i.o]) z.o.o.i.i.i, .mk (faR 7 z.o.o.o) z.o.i.o.o.o, .mk (stR 1 z.o.i.o.o.o z.o.o.i.i.i) .none]) (.seq (.region [.mk (ldR true 8 z.o.o.o) z.o.i.o.o.i, .mk (stR 8 z.i.i z.o.i.o.o.i) .none]) .ret))))))
theorem C154ok : CCok Tryz.prog Tryz.f154 41 C154 := by show _ = _; kernel_rfl
@[go_sem] theorem call154 (args H) : callC Tryz.prog 154 args H = .call 154 args := callC_ok (by kernel_rfl) args H
theorem R154ok : resKs Tryz.prog Tryz.f154.results.toList = some [(RK.cell z.i.i true 8)] := by kernel_rfl

noncomputable def C155 : CC := (.seq (.region [.mk (mvR (X.c AV.nili)) z.o.i]) (.seq (.seq (.region [.mk (mvR z) z.i.o, .mk (binR Tryz.prog EK.iface .none true BinOp.neq z.i.o (X.c AV.nili)) z.i.i]) (.cond z.i.i (.seq (.region [.mk (mvR z) z.o.o.o, .mk (mvR z.o.o.o) z.o.i]) .ret) .skip)) (.seq (.region [.mk (mvR z.o) z.o.o.i, .mk (mvR z.o.o.i) z.o.i]) .ret)))
theorem C155ok : CCok Tryz.prog Tryz.f155 9 C155 := by show _ = _; kernel_rfl
@[go_sem] theorem call155 (args H) : callC Tryz.prog 155 args H = .call 155 args := callC_ok (by kernel_rfl) args H
theorem R155ok : resKs Tryz.prog Tryz.f155.results.toList = some [(RK.tmp z.o.i)] := by kernel_rfl

noncomputable def C157 : CC := (.seq (.region [.mk (boxR false z.i) z.i.o, .mk (fun _ H => newC false [(.int .i64 0), (.int .i64 0), (.str []), (.str []), (.bool false), AV.nils, AV.nils, AV.nils] H) z.i.i]) (.seq (.region [.mk (mvR z) z.o.o.o, .mk (mvR z.o) z.o.o.i, .mk (ldR true 2 z.i.o) z.o.i.o, .mk (buildR [(.int .i64 0), (.int .i64 0), (.str []), (.str []), (.bool false), AV.nils, AV.nils, AV.nils] [(0, (1, z.o.o.o)), (1, (1, z.o.o.i)), (2, (2, z.o.i.o))]) z.o.i.i, .mk (stR 8 z.i.i z.o.i.i) .none]) .ret))
theorem C157ok : CCok Tryz.prog Tryz.f157 11 C157 := by show _ = _; kernel_rfl
@[go_sem] theorem call157 (args H) : callC Tryz.prog 157 args H = .call 157 args := callC_ok (by kernel_rfl) args H
theorem R157ok : resKs Tryz.prog Tryz.f157.results.toList = some [(RK.cell z.i.i true 8)] := by kernel_rfl

noncomputable def C158L0 : CC := (.seq (.region [.mk (binR Tryz.prog EK.no .none false BinOp.lss z.o.o.o.o.o z.i.i.i.i) z.o.o.o.o.i]) (.seq (.cond z.o.o.o.o.i .skip (.exit 2)) (.seq (.block 3 (.seq (.region [.mk (mvR z.o.o.o.o.o) z.o.o.o.i.o, .mk (mvR z.o.o.o.i.o) z.i.o.i]) (.seq (.regionD [.mk (keepH (faR 0 z.i.o.o)) z.o.i.o.o.o, .mk (keepH (ldR false 1 z.o.i.o.o.o)) z.o.i.o.o.i, .mk (keepH (mvR z.i.o.i)) z.o.o.i.o.o, .mk (keepH (mvR z.o.i.o)) z.o.o.o.i.i, .mk (keepH (iaS 5 z.o.o.o.i.i z.o.o.i.o.o)) z.o.o.i.o.i, .mk (keepH (faR 0 z.o.o.i.o.i)) z.o.o.i.i.o, .mk (keepH (ldR false 1 z.o.o.i.i.o)) z.o.o.i.i.i, .mk (keepH (binR Tryz.prog EK.no .none false BinOp.eql z.o.o.i.i.i z.o.i.o.o.i)) z.o.i.o.i.o]) (.cond z.o.i.o.i.o (.regionD [.mk (keepH (faR 1 z.i.o.o)) z.i.o.o.i.o, .mk (keepH (ldR false 1 z.i.o.o.i.o)) z.i.o.o.i.i, .mk (keepH (mvR z.i.o.i)) z.o.i.i.i.o, .mk (keepH (mvR z.o.i.o)) z.o.i.i.o.i, .mk (keepH (iaS 5 z.o.i.i.o.i z.o.i.i.i.o)) z.o.i.i.i.i, .mk (keepH (faR 4 z.o.i.i.i.i)) z.i.o.o.o.o, .mk (keepH (ldR false 1 z.i.o.o.o.o)) z.i.o.o.o.i, .mk (keepH (mmR true z.i.o.o.o.i z.i.o.o.i.i)) z.i.o.i.o.o, .mk (keepH (mvR z.i.o.i)) z.o.i.i.o.o, .mk (keepH (mvR z.o.i.o)) z.o.i.o.i.i, .mk (keepH (iaS 5 z.o.i.o.i.i z.o.i.i.o.o)) z.i.o.i.o.i, .mk (keepH (faR 4 z.i.o.i.o.i)) z.i.o.i.i.o, .mk (stR 1 z.i.o.i.i.o z.i.o.i.o.o) .none]) .skip)))) (.region [.mk (binR Tryz.prog EK.no .none true BinOp.add z.o.o.o.o.o (X.c (.int .i64 1))) z.i.o.i.i.i, .mk (mvR z.i.o.i.i.i) z.o.o.o.o.o]))))
noncomputable def C158L1 : CC := (.seq (.region [.mk (binR Tryz.prog EK.no .none false BinOp.lss z.i.o.i.o z.i.o.o.i) z.i.o.i.i]) (.seq (.cond z.i.o.i.i .skip (.exit 0)) (.seq (.block 1 (.seq (.region [.mk (iaS 4 z.i.o.o.o z.i.o.i.o) z.i.i.o.o, .mk (ldR true 4 z.i.i.o.o) z.i.i.o.i, .mk (fun _ H => newC false [(.str []), (.int .i64 0), (.str []), (.bool false)] H) z.i.o.o, .mk (stR 4 z.i.o.o z.i.i.o.i) .none]) (.seq (.region [.mk (mvR z.o.i.o) z.i.i.i.o, .mk (lenR LnK.slice z.i.i.i.o) z.i.i.i.i, .mk (mvR (X.c (.int .i64 0))) z.o.o.o.o.o]) (.block 2 (.loop C158L0))))) (.region [.mk (binR Tryz.prog EK.no .none true BinOp.add z.i.o.i.o (X.c (.int .i64 1))) z.i.i.o.o.o, .mk (mvR z.i.i.o.o.o) z.i.o.i.o]))))
noncomputable def C158 : CC := (.seq (.region [.mk (mvR (X.c AV.nils)) z.i.i, .mk (mvR (X.c AV.nils)) z.o.o.o]) (.seq (.region [.mk (mvR z) z.i.i.o, .mk (lenR LnK.slice z.i.i.o) z.i.i.i, .mk (mvR z.i) z.o.o.o.o, .mk (mmR true z.o.o.o.o (X.c (.int .i64 0))) z.o.o.o.i, .mk (binR Tryz.prog EK.no .none false BinOp.sub z.i.i.i z.o.o.o.i) z.o.o.i.o, .mk (mmR true z.o.o.i.o (X.c (.int .i64 0))) z.o.o.i.i, .mk (mvR z.o.o.i.i) z.o.o.i]) (.seq (.region [.mk (mvR z.o) z.o.i.o.o, .mk (callS Tryz.prog 77 [z.o.i.o.o]) z.o.i.o.i, .mk (mvR z.o.i.o.i) z.o.i.o]) (.seq (.seq (.region [.mk (mvR z) z.o.i.i.o, .mk (mvR z.o.o.i) z.o.i.i.i, .mk (slvR 4 z.o.i.i.o .none (.some z.o.i.i.i) .none) z.i.o.o.o, .mk (lenR LnK.slice z.i.o.o.o) z.i.o.o.i, .mk (mvR (X.c (.int .i64 0))) z.i.o.i.o]) (.block 0 (.loop C158L1))) (.seq (.region [.mk (mvR z) z.i.i.o.o.i, .mk (mvR z.o.o.i) z.i.i.o.i.o, .mk (slvR 4 z.i.i.o.o.i (.some z.i.i.o.i.o) .none .none) z.i.i.o.i.i, .mk (callS Tryz.prog 78 [z.i.i.o.i.i]) z.i.i.i.o.o, .mk (mvR z.o.i.o) z.i.i.i.o.i, .mk (mvR z.i.i.i.o.o) z.i.i, .mk (mvR z.i.i.i.o.i) z.o.o.o]) .ret)))))
theorem C158ok : CCok Tryz.prog Tryz.f158 61 C158 := by show _ = _; kernel_rfl
@[go_sem] theorem call158 (args H) : callC Tryz.prog 158 args H = .call 158 args := callC_ok (by kernel_rfl) args H
theorem R158ok : resKs Tryz.prog Tryz.f158.results.toList = some [(RK.tmp z.i.i), (RK.tmp z.o.o.o)] := by kernel_rfl

noncomputable def C159L0 : CC := (.seq (.region [.mk (binR Tryz.prog EK.no .none false BinOp.lss z.i.o.o z.o.i.i) z.i.o.i]) (.seq (.cond z.i.o.i .skip (.exit 0)) (.seq (.block 1 (.seq (.region [.mk (iaS 1 z.o.i.o z.i.o.o) z.i.i.o, .mk (ldR false 1 z.i.i.o) z.i.i.i, .mk (mvR z.i.i.i) z.i.o]) (.seq (.region [.mk (mvR z.o.o) z.o.o.o.o, .mk (mvR z.i.o) z.o.o.o.i, .mk (lenR LnK.slice z.o.o.o.i) z.o.o.i.o, .mk (binR Tryz.prog EK.no .none false BinOp.add z.o.o.o.o z.o.o.i.o) z.o.o.i.i, .mk (mvR z.o.o.i.i) z.o.o]) (.seq (.region [.mk (mvR z.o.o) z.o.i.o.o, .mk (binR Tryz.prog EK.no .none true BinOp.lss z.o.i.o.o (X.c (.int .i64 0))) z.o.i.o.i]) (.cond z.o.i.o.i (.region [.mk (mkiR 9 (X.c (.str [108, 101, 110, 32, 111, 117, 116, 32, 111, 102, 32, 114, 97, 110, 103, 101]))) z.o.i.i.o, .mk (fun _ _ => R1.fail) .none]) .skip))))) (.region [.mk (binR Tryz.prog EK.no .none true BinOp.add z.i.o.o (X.c (.int .i64 1))) z.o.i.i.i, .mk (mvR z.o.i.i.i) z.i.o.o]))))
noncomputable def C159L1 : CC := (.seq (.region [.mk (binR Tryz.prog EK.no .none false BinOp.lss z.i.i.o.o z.i.o.i.i) z.i.i.o.i]) (.seq (.cond z.i.i.o.i .skip (.exit 2)) (.seq (.block 3 (.seq (.region [.mk (iaS 1 z.i.o.i.o z.i.i.o.o) z.i.i.i.o, .mk (ldR false 1 z.i.i.i.o) z.i.i.i.i, .mk (mvR z.i.i.i.i) z.o.o.i]) (.region [.mk (mvR z.i.i) z.o.o.o.o.o, .mk (mvR z.o.o.i) z.o.o.o.o.i, .mk (appR 4 48 z.o.o.o.o.o z.o.o.o.o.i) z.o.o.o.i.o, .mk (mvR z.o.o.o.i.o) z.i.i]))) (.region [.mk (binR Tryz.prog EK.no .none true BinOp.add z.i.i.o.o (X.c (.int .i64 1))) z.o.o.o.i.i, .mk (mvR z.o.o.o.i.i) z.i.i.o.o]))))
noncomputable def C159 : CC := (.seq (.region [.mk (mvR (X.c AV.nils)) z.i]) (.seq (.region [.mk (mvR (X.c (.int .i64 0))) z.o.o]) (.seq (.seq (.region [.mk (mvR z) z.o.i.o, .mk (lenR LnK.slice z.o.i.o) z.o.i.i, .mk (mvR (X.c (.int .i64 0))) z.i.o.o]) (.block 0 (.loop C159L0))) (.seq (.region [.mk (mvR z.o.o) z.i.o.o.o, .mk (callS Tryz.prog 187 [(X.c AV.nils), z.i.o.o.o]) z.i.o.o.i, .mk (mvR z.i.o.o.i) z.i.i]) (.seq (.seq (.region [.mk (mvR z) z.i.o.i.o, .mk (lenR LnK.slice z.i.o.i.o) z.i.o.i.i, .mk (mvR (X.c (.int .i64 0))) z.i.i.o.o]) (.block 2 (.loop C159L1))) (.seq (.region [.mk (mvR z.i.i) z.o.o.i.o.o, .mk (mvR z.o.o.i.o.o) z.i]) .ret))))))
theorem C159ok : CCok Tryz.prog Tryz.f159 36 C159 := by show _ = _; kernel_rfl
@[go_sem] theorem call159 (args H) : callC Tryz.prog 159 args H = .call 159 args := callC_ok (by kernel_rfl) args H
theorem R159ok : resKs Tryz.prog Tryz.f159.results.toList = some [(RK.tmp z.i)] := by kernel_rfl

noncomputable def C160L0 : CC := (.seq (.region [.mk (binR Tryz.prog EK.no .none false BinOp.lss z.i.o.o z.o.i.i) z.i.o.i]) (.seq (.cond z.i.o.i .skip (.exit 0)) (.seq (.block 1 (.seq (.region [.mk (iaS 1 z.o.i.o z.i.o.o) z.i.i.o, .mk (ldR false 1 z.i.i.o) z.i.i.i, .mk (mvR z.i.i.i) z.i.o]) (.seq (.region [.mk (mvR z.o.o) z.o.o.o.o, .mk (mvR z.i.o) z.o.o.o.i, .mk (lenR LnK.slice z.o.o.o.i) z.o.o.i.o, .mk (binR Tryz.prog EK.no .none false BinOp.add z.o.o.o.o z.o.o.i.o) z.o.o.i.i, .mk (mvR z.o.o.i.i) z.o.o]) (.seq (.region [.mk (mvR z.o.o) z.o.i.o.o, .mk (binR Tryz.prog EK.no .none true BinOp.lss z.o.i.o.o (X.c (.int .i64 0))) z.o.i.o.i]) (.cond z.o.i.o.i (.region [.mk (mkiR 9 (X.c (.str [108, 101, 110, 32, 111, 117, 116, 32, 111, 102, 32, 114, 97, 110, 103, 101]))) z.o.i.i.o, .mk (fun _ _ => R1.fail) .none]) .skip))))) (.region [.mk (binR Tryz.prog EK.no .none true BinOp.add z.i.o.o (X.c (.int .i64 1))) z.o.i.i.i, .mk (mvR z.o.i.i.i) z.i.o.o]))))
noncomputable def C160L1 : CC := (.seq (.region [.mk (binR Tryz.prog EK.no .none false BinOp.lss z.i.i.o.o z.i.o.i.i) z.i.i.o.i]) (.seq (.cond z.i.i.o.i .skip (.exit 2)) (.seq (.block 3 (.seq (.region [.mk (iaS 1 z.i.o.i.o z.i.i.o.o) z.i.i.i.o, .mk (ldR false 1 z.i.i.i.o) z.i.i.i.i, .mk (mvR z.i.i.i.i) z.o.o.i]) (.region [.mk (mvR z.i.i) z.o.o.o.o.o, .mk (mvR z.o.o.i) z.o.o.o.o.i, .mk (appR 5 56 z.o.o.o.o.o z.o.o.o.o.i) z.o.o.o.i.o, .mk (mvR z.o.o.o.i.o) z.i.i]))) (.region [.mk (binR Tryz.prog EK.no .none true BinOp.add z.i.i.o.o (X.c (.int .i64 1))) z.o.o.o.i.i, .mk (mvR z.o.o.o.i.i) z.i.i.o.o]))))
noncomputable def C160 : CC := (.seq (.region [.mk (mvR (X.c AV.nils)) z.i]) (.seq (.region [.mk (mvR (X.c (.int .i64 0))) z.o.o]) (.seq (.seq (.region [.mk (mvR z) z.o.i.o, .mk (lenR LnK.slice z.o.i.o) z.o.i.i, .mk (mvR (X.c (.int .i64 0))) z.i.o.o]) (.block 0 (.loop C160L0))) (.seq (.region [.mk (mvR z.o.o) z.i.o.o.o, .mk (callS Tryz.prog 188 [(X.c AV.nils), z.i.o.o.o]) z.i.o.o.i, .mk (mvR z.i.o.o.i) z.i.i]) (.seq (.seq (.region [.mk (mvR z) z.i.o.i.o, .mk (lenR LnK.slice z.i.o.i.o) z.i.o.i.i, .mk (mvR (X.c (.int .i64 0))) z.i.i.o.o]) (.block 2 (.loop C160L1))) (.seq (.region [.mk (mvR z.i.i) z.o.o.i.o.o, .mk (mvR z.o.o.i.o.o) z.i]) .ret))))))
theorem C160ok : CCok Tryz.prog Tryz.f160 36 C160 := by show _ = _; kernel_rfl
@[go_sem] theorem call160 (args H) : callC Tryz.prog 160 args H = .call 160 args := callC_ok (by kernel_rfl) args H
theorem R160ok : resKs Tryz.prog Tryz.f160.results.toList = some [(RK.tmp z.i)] := by kernel_rfl

noncomputable def C164 : CC := (.seq (.region [.mk (boxR false z) z.o, .mk (mvR (X.c (.bool false))) z.i]) (.seq (.region [.mk (faR 0 z.o) z.o.o, .mk (ldR false 1 z.o.o) z.o.i, .mk (lenR LnK.str z.o.i) z.i.o, .mk (binR Tryz.prog EK.no .none true BinOp.gtr z.i.o (X.c (.int .i64 255))) z.i.i, .mk (mvR z.i.i) z.o.o.o, .mk (faR 1 z.o) z.o.o.i (Gd.on z.o.o.o false) [], .mk (ldR false 1 z.o.o.i) z.o.i.o (Gd.on z.o.o.o false) [], .mk (lenR LnK.str z.o.i.o) z.o.i.i (Gd.on z.o.o.o false) [], .mk (binR Tryz.prog EK.no .none true BinOp.gtr z.o.i.i (X.c (.int .i64 255))) z.i.o.o (Gd.on z.o.o.o false) [], .mk (pickR z.o.o.o (X.c (.bool true)) z.i.o.o) z.i.o.i, .mk (mvR z.i.o.i) z.i.i.o, .mk (faR 2 z.o) z.i.i.i (Gd.on z.i.i.o false) [], .mk (ldR false 1 z.i.i.i) z.o.o.o.o (Gd.on z.i.i.o false) [], .mk (binR Tryz.prog EK.no .none true BinOp.lss z.o.o.o.o (X.c (.int .i64 0))) z.o.o.o.i (Gd.on z.i.i.o false) [], .mk (pickR z.i.i.o (X.c (.bool true)) z.o.o.o.i) z.o.o.i.o, .mk (mvR z.o.o.i.o) z.o.o.i.i, .mk (faR 2 z.o) z.o.i.o.o (Gd.on z.o.o.i.i false) [], .mk (ldR false 1 z.o.i.o.o) z.o.i.o.i (Gd.on z.o.o.i.i false) [], .mk (binR Tryz.prog EK.no .none true BinOp.geq z.o.i.o.i (X.c (.int .i64 281474976710656))) z.o.i.i.o (Gd.on z.o.o.i.i false) [], .mk (pickR z.o.o.i.i (X.c (.bool true)) z.o.i.i.o) z.o.i.i.i, .mk (mvR z.o.i.i.i) z.i]) .ret))
theorem C164ok : CCok Tryz.prog Tryz.f164 23 C164 := by show _ = _; kernel_rfl
@[go_sem] theorem call164 (args H) : callC Tryz.prog 164 args H = .call 164 args := callC_ok (by kernel_rfl) args H
theorem R164ok : resKs Tryz.prog Tryz.f164.results.toList = some [(RK.tmp z.i)] := by kernel_rfl

noncomputable def C165 : CC := (.seq (.region [.mk (mvR (X.c (.bool false))) z.o.i]) (.seq (.region [.mk (mvR z) z.i.o, .mk (mvR z.o) z.i.i, .mk (callS Tryz.prog 189 [z.i.o, z.i.i]) z.o.o.o, .mk (binR Tryz.prog EK.no .none true BinOp.geq z.o.o.o (X.c (.int .i64 0))) z.o.o.i, .mk (mvR z.o.o.i) z.o.i]) .ret))
theorem C165ok : CCok Tryz.prog Tryz.f165 9 C165 := by show _ = _; kernel_rfl
@[go_sem] theorem call165 (args H) : callC Tryz.prog 165 args H = .call 165 args := callC_ok (by kernel_rfl) args H
theorem R165ok : resKs Tryz.prog Tryz.f165.results.toList = some [(RK.tmp z.o.i)] := by kernel_rfl

noncomputable def C166 : CC := (.seq (.region [.mk (boxR false z) z.o, .mk (mvR (X.c (.bool false))) z.i]) (.seq (.region [.mk (faR 0 z.o) z.o.o, .mk (ldR false 1 z.o.o) z.o.i, .mk (faR 1 z.o) z.i.o, .mk (ldR false 1 z.i.o) z.i.i, .mk (faR 2 z.o) z.o.o.o, .mk (ldR false 1 z.o.o.o) z.o.o.i, .mk (faR 3 z.o) z.o.i.o, .mk (ldR false 1 z.o.i.o) z.o.i.i, .mk (callS Tryz.prog 167 [z.o.i, z.i.i, z.o.o.i, z.o.i.i]) z.i.o.o, .mk (mvR z.i.o.o) z.i.o.i, .mk (faR 4 z.o) z.i.i.o (Gd.on z.i.o.i true) [], .mk (ldR false 1 z.i.i.o) z.i.i.i (Gd.on z.i.o.i true) [], .mk (binR Tryz.prog EK.no .none true BinOp.geq z.i.i.i (X.c (.int .i64 0))) z.o.o.o.o (Gd.on z.i.o.i true) [], .mk (pickR z.i.o.i z.o.o.o.o (X.c (.bool false))) z.o.o.o.i, .mk (mvR z.o.o.o.i) z.o.o.i.o, .mk (faR 4 z.o) z.o.o.i.i (Gd.on z.o.o.i.o true) [], .mk (ldR false 1 z.o.o.i.i) z.o.i.o.o (Gd.on z.o.o.i.o true) [], .mk (faR 2 z.o) z.o.i.o.i (Gd.on z.o.o.i.o true) [], .mk (ldR false 1 z.o.i.o.i) z.o.i.i.o (Gd.on z.o.o.i.o true) [], .mk (binR Tryz.prog EK.no .none false BinOp.leq z.o.i.o.o z.o.i.i.o) z.o.i.i.i (Gd.on z.o.o.i.o true) [], .mk (pickR z.o.o.i.o z.o.i.i.i (X.c (.bool false))) z.i.o.o.o, .mk (mvR z.i.o.o.o) z.i]) .ret))
theorem C166ok : CCok Tryz.prog Tryz.f166 24 C166 := by show _ = _; kernel_rfl
@[go_sem] theorem call166 (args H) : callC Tryz.prog 166 args H = .call 166 args := callC_ok (by kernel_rfl) args H
theorem R166ok : resKs Tryz.prog Tryz.f166.results.toList = some [(RK.tmp z.i)] := by kernel_rfl

noncomputable def C167 : CC := (.seq (.region [.mk (mvR (X.c (.bool false))) z.o.o.i]) (.seq (.block 0 (.seq (.block 3 (.block 2 (.block 1 (.seq (.seq (.seq (.region [.mk (mvR z) z.o.i.i, .mk (callS Tryz.prog 66 [z.o.i.i]) z.i.o.o, .mk (unR UnOp.not z.i.o.o) z.i.o.i, .mk (mvR z.i.o.i) z.i.i.o, .mk (mvR z.o) z.i.i.i (Gd.on z.i.i.o false) [], .mk (lenR LnK.str z.i.i.i) z.o.o.o.o (Gd.on z.i.i.o false) [], .mk (binR Tryz.prog EK.no .none true BinOp.gtr z.o.o.o.o (X.c (.int .i64 12))) z.o.o.o.i (Gd.on z.i.i.o false) [], .mk (pickR z.i.i.o (X.c (.bool true)) z.o.o.o.i) z.o.o.i.o, .mk (mvR z.o.o.i.o) z.o.i.o]) (.cond z.o.i.o (.exit 1) .skip)) (.seq (.seq (.region [.mk (mvR z.o.o) z.o.i.o.o, .mk (mvR z.o.i.o.o) z.o.i.o.i, .mk (mvR z.o) z.o.i.i.o (Gd.on z.o.i.o.i true) [], .mk (binR Tryz.prog EK.no .none true BinOp.neq z.o.i.i.o (X.c (.str []))) z.o.i.i.i (Gd.on z.o.i.o.i true) [], .mk (pickR z.o.i.o.i z.o.i.i.i (X.c (.bool false))) z.i.o.o.o, .mk (mvR z.i.o.o.o) z.o.o.i.i]) (.cond z.o.o.i.i (.exit 2) .skip)) (.seq (.region [.mk (mvR z.i) z.i.o.i.o, .mk (binR Tryz.prog EK.no .none true BinOp.lss z.i.o.i.o (X.c (.int .i64 1))) z.i.o.i.i, .mk (mvR z.i.o.i.i) z.i.i.o.o, .mk (mvR z.i) z.i.i.o.i (Gd.on z.i.i.o.o false) [], .mk (binR Tryz.prog EK.no .none true BinOp.gtr z.i.i.o.i (X.c (.int .i64 1000000000000))) z.i.i.i.o (Gd.on z.i.i.o.o false) [], .mk (pickR z.i.i.o.o (X.c (.bool true)) z.i.i.i.o) z.i.i.i.i, .mk (mvR z.i.i.i.i) z.i.o.o.i]) (.cond z.i.o.o.i (.exit 3) .skip)))) (.exit 0))))) (.seq (.seq (.region [.mk (mvR (X.c (.bool false))) z.o.o.i]) .ret) (.exit 0)))) (.seq (.region [.mk (mvR (X.c (.bool true))) z.o.o.i]) .ret)))
theorem C167ok : CCok Tryz.prog Tryz.f167 31 C167 := by show _ = _; kernel_rfl
@[go_sem] theorem call167 (args H) : callC Tryz.prog 167 args H = .call 167 args := callC_ok (by kernel_rfl) args H
theorem R167ok : resKs Tryz.prog Tryz.f167.results.toList = some [(RK.tmp z.o.o.i)] := by kernel_rfl

noncomputable def C176 : CC := (.seq (.region [.mk (boxR false z) z.o.i, .mk (fun _ H => newC false [(.int .i64 0), (.int .i64 0), (.str []), (.str []), (.bool false), AV.nils, AV.nils, AV.nils] H) z.o.o.i, .mk (fun _ H => newC false [(.str []), (.str []), (.int .i64 0), (.bool false), (.int .i64 0)] H) z.o.i.o, .mk (mvR (X.c AV.nili)) z.o.i.i]) (.seq (.region [.mk (faR 5 z.o.i) z.o.o.i.o, .mk (ldR false 1 z.o.o.i.o) z.o.o.i.i, .mk (mvR z.o) z.o.i.o.o, .mk (callS Tryz.prog 123 [z.o.o.i.i, z.o.i.o.o]) z.o.i.o.i, .mk (mvR z.o.i.o.i) z.o.o.o.i, .mk (extR z.o.o.o.i 0) z.o.i.i.o, .mk (extR z.o.o.o.i 1) z.o.i.i.i, .mk (fun _ H => newC false [(.str []), (.str []), (.int .i64 0), (.bool false), (.int .i64 0)] H) z.i.o.o, .mk (stR 5 z.i.o.o z.o.i.i.o) .none, .mk (mvR z.o.i.i.i) z.i.o.i]) (.seq (.region [.mk (ldR true 5 z.i.o.o) z.i.o.o.i, .mk (mvR z.i) z.i.o.i.o, .mk (callS Tryz.prog 192 [z.i.o.o.i, z.i.o.i.o]) z.i.o.i.i, .mk (mvR z.i.o.i.i) z.i.o.o.o, .mk (extR z.i.o.o.o 0) z.i.i.o.o, .mk (extR z.i.o.o.o 1) z.i.i.o.i, .mk (extR z.i.o.o.o 2) z.i.i.i.o, .mk (fun _ H => newC false [(.str []), (.str []), (.int .i64 0), (.bool false), (.int .i64 0)] H) z.i.i.o, .mk (fun _ H => newC false [(.str []), (.int .i64 0), (.str []), (.bool false)] H) z.i.i.i, .mk (stR 5 z.i.i.o z.i.i.o.o) .none, .mk (stR 4 z.i.i.i z.i.i.o.i) .none, .mk (mvR z.i.i.i.o) z.o.o.o.o]) (.seq (.seq (.region [.mk (mvR z.o.o) z.i.i.i.i]) (.cond z.i.i.i.i (.region [.mk (ldR true 5 z.i.o.o) z.o.o.o.o.i, .mk (callS Tryz.prog 193 [z.o.o.o.o.i]) z.o.o.o.i.o, .mk (mvR z.o.o.o.i.o) z.o.o.o.o.o, .mk (extR z.o.o.o.o.o 0) z.o.o.o.i.i, .mk (extR z.o.o.o.o.o 1) z.o.o.i.o.o, .mk (extR z.o.o.o.o.o 2) z.o.o.i.o.i, .mk (stR 5 z.i.i.o z.o.o.o.i.i) .none, .mk (stR 4 z.i.i.i z.o.o.i.o.o) .none, .mk (mvR z.o.o.i.o.i) z.o.o.o.o]) .skip)) (.seq (.seq (.region [.mk (mvR z.o.o.o.o) z.o.o.i.i.o, .mk (binR Tryz.prog EK.iface .none true BinOp.neq z.o.o.i.i.o (X.c AV.nili)) z.o.o.i.i.i]) (.cond z.o.o.i.i.i (.seq (.regionD [.mk (keepH (mvR z.o.o.o.o)) z.o.i.o.i.o, .mk (keepH (ldR true 5 z.i.o.o)) z.o.i.o.o.i, .mk (keepH (ldR true 8 z.o.i)) z.o.i.o.o.o, .mk (stR 8 z.o.o.i z.o.i.o.o.o) .none Gd.no [.mk (ldR true 5 z.i.o.o) z.o.i.o.o.i Gd.no, .mk (mvR z.o.o.o.o) z.o.i.o.i.o Gd.no], .mk (stR 5 z.o.i.o z.o.i.o.o.i) .none Gd.no [.mk (mvR z.o.o.o.o) z.o.i.o.i.o Gd.no], .mk (mvR z.o.i.o.i.o) z.o.i.i]) .ret) .skip)) (.seq (.regionD [.mk (keepH (ldR true 4 z.i.i.i)) z.i.o.o.i.o, .mk (keepH (ldR true 5 z.i.i.o)) z.i.o.o.o.o, .mk (keepH (faR 5 z.o.i)) z.o.i.i.i.o, .mk (keepH (ldR false 1 z.o.i.i.i.o)) z.o.i.i.i.i, .mk (keepH (faR 6 z.o.i)) z.o.i.i.o.o, .mk (keepH (ldR false 1 z.o.i.i.o.o)) z.o.i.i.o.i, .mk (callS Tryz.prog 195 [z.o.i.i.i.i, z.i.o.o.o.o]) z.i.o.o.o.i Gd.no [.mk (ldR false 1 z.o.i.i.o.o) z.o.i.i.o.i Gd.no, .mk (faR 6 z.o.i) z.o.i.i.o.o Gd.no, .mk (ldR true 4 z.i.i.i) z.i.o.o.i.o Gd.no], .mk (callS Tryz.prog 194 [z.o.i.i.o.i, z.i.o.o.o.i, z.i.o.o.i.o, (X.c (.int .i64 24))]) z.i.o.o.i.i, .mk (keepH (mvR z.i.o.o.i.i)) z.o.i.o.i.i, .mk (keepH (extR z.o.i.o.i.i 1)) z.i.o.i.o.i, .mk (keepH (extR z.o.i.o.i.i 0)) z.i.o.i.o.o, .mk (keepH (faR 6 z.o.i)) z.i.o.i.i.o, .mk (stR 1 z.i.o.i.i.o z.i.o.i.o.o) .none Gd.no [.mk (extR z.o.i.o.i.i 1) z.i.o.i.o.i Gd.no], .mk (keepH (faR 5 z.o.i)) z.i.o.i.i.i, .mk (stR 1 z.i.o.i.i.i z.i.o.i.o.i) .none]) (.seq (.regionD [.mk (keepH (ldR true 5 z.i.i.o)) z.i.i.o.o.i, .mk (keepH (ldR true 8 z.o.i)) z.i.i.o.o.o, .mk (stR 8 z.o.o.i z.i.i.o.o.o) .none Gd.no [.mk (ldR true 5 z.i.i.o) z.i.i.o.o.i Gd.no], .mk (stR 5 z.o.i.o z.i.i.o.o.i) .none, .mk (mvR (X.c AV.nili)) z.o.i.i]) .ret)))))))
theorem C176ok : CCok Tryz.prog Tryz.f176 57 C176 := by show _ = _; kernel_rfl
@[go_sem] theorem call176 (args H) : callC Tryz.prog 176 args H = .call 176 args := callC_ok (by kernel_rfl) args H
theorem R176ok : resKs Tryz.prog Tryz.f176.results.toList = some [(RK.cell z.o.o.i true 8), (RK.cell z.o.i.o true 5), (RK.tmp z.o.i.i)] := by kernel_rfl

@[go_sem] theorem call177 (args H) : callC Tryz.prog 177 args H = .call 177 args := callC_ok (by kernel_rfl) args H
noncomputable def C186L0 : CC := (.seq (.region [.mk (binR Tryz.prog EK.no .none false BinOp.lss z.o.i.i z.o.i.o) z.i.o.o]) (.seq (.cond z.i.o.o .skip (.exit 0)) (.seq (.block 1 (.seq (.region [.mk (iaS 5 z.o.o.i z.o.i.i) z.i.o.i, .mk (ldR true 5 z.i.o.i) z.i.i.o, .mk (fun _ H => newC false [(.str []), (.str []), (.int .i64 0), (.bool false), (.int .i64 0)] H) z.o.o.o, .mk (stR 5 z.o.o.o z.i.i.o) .none]) (.seq (.region [.mk (ldR true 2 z.o.o) z.i.i.i, .mk (faR 0 z.o.o.o) z.o.o.o.o, .mk (ldR false 1 z.o.o.o.o) z.o.o.o.i, .mk (callS Tryz.prog 27 [z.i.i.i, z.o.o.o.i]) z.o.o.i.o]) (.cond z.o.o.i.o (.region [.mk (mvR z.i.o) z.o.o.i.i, .mk (ldR true 5 z.o.o.o) z.o.i.o.o, .mk (bslR 5 1 [(.str []), (.str []), (.int .i64 0), (.bool false), (.int .i64 0)] [(0, z.o.i.o.o)]) z.o.i.o.i, .mk (appR 5 56 z.o.o.i.i z.o.i.o.i) z.o.i.i.o, .mk (mvR z.o.i.i.o) z.i.o]) .skip)))) (.region [.mk (binR Tryz.prog EK.no .none true BinOp.add z.o.i.i (X.c (.int .i64 1))) z.o.i.i.i, .mk (mvR z.o.i.i.i) z.o.i.i]))))
noncomputable def C186 : CC := (.seq (.region [.mk (boxR false z.o) z.o.o, .mk (mvR (X.c AV.nils)) z.o.i]) (.seq (.region [.mk (mvR (X.c AV.nils)) z.i.o]) (.seq (.seq (.region [.mk (mvR z) z.o.o.i, .mk (lenR LnK.slice z.o.o.i) z.o.i.o, .mk (mvR (X.c (.int .i64 0))) z.o.i.i]) (.block 0 (.loop C186L0))) (.seq (.region [.mk (mvR z.i.o) z.i.o.o.o, .mk (mvR z.i.o.o.o) z.o.i]) .ret))))
theorem C186ok : CCok Tryz.prog Tryz.f186 24 C186 := by show _ = _; kernel_rfl
@[go_sem] theorem call186 (args H) : callC Tryz.prog 186 args H = .call 186 args := callC_ok (by kernel_rfl) args H
theorem R186ok : resKs Tryz.prog Tryz.f186.results.toList = some [(RK.tmp z.o.i)] := by kernel_rfl

noncomputable def C187 : CC := (.seq (.region [.mk (mvR (X.c AV.nils)) z.o.i]) (.seq (.seq (.region [.mk (mvR z.o) z.i.o, .mk (binR Tryz.prog EK.no .none true BinOp.lss z.i.o (X.c (.int .i64 0))) z.i.i]) (.cond z.i.i (.region [.mk (mkiR 9 (X.c (.str [99, 97, 110, 110, 111, 116, 32, 98, 101, 32, 110, 101, 103, 97, 116, 105, 118, 101]))) z.o.o.o, .mk (fun _ _ => R1.fail) .none]) .skip)) (.seq (.seq (.region [.mk (mvR z.o) z.o.o.i, .mk (mvR z) z.o.i.o, .mk (capR z.o.i.o) z.o.i.i, .mk (mvR z) z.i.o.o, .mk (lenR LnK.slice z.i.o.o) z.i.o.i, .mk (binR Tryz.prog EK.no .none false BinOp.sub z.o.i.i z.i.o.i) z.i.i.o, .mk (binR Tryz.prog EK.no .none false BinOp.sub z.o.o.i z.i.i.o) z.i.i.i, .mk (mvR z.i.i.i) z.o]) (.seq (.region [.mk (mvR z.o) z.o.o.o.o, .mk (binR Tryz.prog EK.no .none true BinOp.gtr z.o.o.o.o (X.c (.int .i64 0))) z.o.o.o.i]) (.cond z.o.o.o.i (.region [.mk (mvR z) z.o.o.i.o, .mk (mvR z) z.o.o.i.i, .mk (capR z.o.o.i.i) z.o.i.o.o, .mk (slvR 4 z.o.o.i.o .none (.some z.o.i.o.o) .none) z.o.i.o.i, .mk (mvR z.o) z.o.i.i.o, .mk (apzR 4 48 [(.str []), (.int .i64 0), (.str []), (.bool false)] z.o.i.o.i z.o.i.i.o) z.o.i.i.i, .mk (mvR z) z.i.o.o.o, .mk (lenR LnK.slice z.i.o.o.o) z.i.o.o.i, .mk (slvR 4 z.o.i.i.i .none (.some z.i.o.o.i) .none) z.i.o.i.o, .mk (mvR z.i.o.i.o) z]) .skip))) (.seq (.region [.mk (mvR z) z.i.o.i.i, .mk (mvR z.i.o.i.i) z.o.i]) .ret))))
theorem C187ok : CCok Tryz.prog Tryz.f187 27 C187 := by show _ = _; kernel_rfl
@[go_sem] theorem call187 (args H) : callC Tryz.prog 187 args H = .call 187 args := callC_ok (by kernel_rfl) args H
theorem R187ok : resKs Tryz.prog Tryz.f187.results.toList = some [(RK.tmp z.o.i)] := by kernel_rfl

noncomputable def C188 : CC := (.seq (.region [.mk (mvR (X.c AV.nils)) z.o.i]) (.seq (.seq (.region [.mk (mvR z.o) z.i.o, .mk (binR Tryz.prog EK.no .none true BinOp.lss z.i.o (X.c (.int .i64 0))) z.i.i]) (.cond z.i.i (.region [.mk (mkiR 9 (X.c (.str [99, 97, 110, 110, 111, 116, 32, 98, 101, 32, 110, 101, 103, 97, 116, 105, 118, 101]))) z.o.o.o, .mk (fun _ _ => R1.fail) .none]) .skip)) (.seq (.seq (.region [.mk (mvR z.o) z.o.o.i, .mk (mvR z) z.o.i.o, .mk (capR z.o.i.o) z.o.i.i, .mk (mvR z) z.i.o.o, .mk (lenR LnK.slice z.i.o.o) z.i.o.i, .mk (binR Tryz.prog EK.no .none false BinOp.sub z.o.i.i z.i.o.i) z.i.i.o, .mk (binR Tryz.prog EK.no .none false BinOp.sub z.o.o.i z.i.i.o) z.i.i.i, .mk (mvR z.i.i.i) z.o]) (.seq (.region [.mk (mvR z.o) z.o.o.o.o, .mk (binR Tryz.prog EK.no .none true BinOp.gtr z.o.o.o.o (X.c (.int .i64 0))) z.o.o.o.i]) (.cond z.o.o.o.i (.region [.mk (mvR z) z.o.o.i.o, .mk (mvR z) z.o.o.i.i, .mk (capR z.o.o.i.i) z.o.i.o.o, .mk (slvR 5 z.o.o.i.o .none (.some z.o.i.o.o) .none) z.o.i.o.i, .mk (mvR z.o) z.o.i.i.o, .mk (apzR 5 56 [(.str []), (.str []), (.int .i64 0), (.bool false), (.int .i64 0)] z.o.i.o.i z.o.i.i.o) z.o.i.i.i, .mk (mvR z) z.i.o.o.o, .mk (lenR LnK.slice z.i.o.o.o) z.i.o.o.i, .mk (slvR 5 z.o.i.i.i .none (.some z.i.o.o.i) .none) z.i.o.i.o, .mk (mvR z.i.o.i.o) z]) .skip))) (.seq (.region [.mk (mvR z) z.i.o.i.i, .mk (mvR z.i.o.i.i) z.o.i]) .ret))))
theorem C188ok : CCok Tryz.prog Tryz.f188 27 C188 := by show _ = _; kernel_rfl
@[go_sem] theorem call188 (args H) : callC Tryz.prog 188 args H = .call 188 args := callC_ok (by kernel_rfl) args H
theorem R188ok : resKs Tryz.prog Tryz.f188.results.toList = some [(RK.tmp z.o.i)] := by kernel_rfl

noncomputable def C189L0 : CC := (.seq (.region [.mk (binR Tryz.prog EK.no .none false BinOp.lss z.o.o.i z.o.o.o) z.o.i.o]) (.seq (.cond z.o.i.o .skip (.exit 0)) (.seq (.block 1 (.seq (.region [.mk (mvR z.o.o.i) z.o.i.i, .mk (mvR z.o.i.i) z.i.o]) (.seq (.region [.mk (mvR z.o) z.i.o.o, .mk (mvR z) z.i.o.i, .mk (mvR z.i.o) z.i.i.o, .mk (iaS 3 z.i.o.i z.i.i.o) z.i.i.i, .mk (ldR true 3 z.i.i.i) z.o.o.o.o, .mk (callX Tryz.prog z.i.o.o [z.o.o.o.o]) z.o.o.o.i]) (.cond z.o.o.o.i (.seq (.region [.mk (mvR z.i.o) z.o.o.i.o, .mk (mvR z.o.o.i.o) z.o.i]) .ret) .skip)))) (.region [.mk (binR Tryz.prog EK.no .none true BinOp.add z.o.o.i (X.c (.int .i64 1))) z.o.o.i.i, .mk (mvR z.o.o.i.i) z.o.o.i]))))
noncomputable def C189 : CC := (.seq (.region [.mk (mvR (X.c (.int .i64 0))) z.o.i]) (.seq (.seq (.region [.mk (mvR z) z.i.i, .mk (lenR LnK.slice z.i.i) z.o.o.o, .mk (mvR (X.c (.int .i64 0))) z.o.o.i]) (.block 0 (.loop C189L0))) (.seq (.region [.mk (mvR (X.c (.int .i64 (-1)))) z.o.i]) .ret)))
theorem C189ok : CCok Tryz.prog Tryz.f189 19 C189 := by show _ = _; kernel_rfl
@[go_sem] theorem call189 (args H) : callC Tryz.prog 189 args H = .call 189 args := callC_ok (by kernel_rfl) args H
theorem R189ok : resKs Tryz.prog Tryz.f189.results.toList = some [(RK.tmp z.o.i)] := by kernel_rfl

noncomputable def C192 : CC := (.seq (.region [.mk (boxR false z) z.i, .mk (fun _ H => newC false [(.str []), (.str []), (.int .i64 0), (.bool false), (.int .i64 0)] H) z.o.i, .mk (fun _ H => newC false [(.str []), (.int .i64 0), (.str []), (.bool false)] H) z.i.o, .mk (mvR (X.c AV.nili)) z.i.i]) (.seq (.seq (.region [.mk (mvR z.o) z.o.o.o, .mk (lenR LnK.str z.o.o.o) z.o.o.i, .mk (binR Tryz.prog EK.no .none true BinOp.gtr z.o.o.i (X.c (.int .i64 12))) z.o.i.o]) (.cond z.o.i.o (.seq (.region [.mk (ldR true 5 z.i) z.o.i.i, .mk (buildR [(.str []), (.int .i64 0), (.str []), (.bool false)] []) z.i.o.o, .mk (mkiR 51 (X.c (.int .i64 13))) z.i.o.i, .mk (stR 5 z.o.i z.o.i.i) .none, .mk (stR 4 z.i.o z.i.o.o) .none, .mk (mvR z.i.o.i) z.i.i]) .ret) .skip)) (.seq (.region [.mk (ldR true 5 z.i) z.i.i.o, .mk (mvR z.o) z.i.i.i, .mk (callS Tryz.prog 199 [z.i.i.o, z.i.i.i, (X.c (.bool false))]) z.o.o.o.o, .mk (extR z.o.o.o.o 0) z.o.o.o.i, .mk (extR z.o.o.o.o 1) z.o.o.i.o, .mk (extR z.o.o.o.o 2) z.o.o.i.i, .mk (stR 5 z.o.i z.o.o.o.i) .none, .mk (stR 4 z.i.o z.o.o.i.o) .none, .mk (mvR z.o.o.i.i) z.i.i]) .ret)))
theorem C192ok : CCok Tryz.prog Tryz.f192 19 C192 := by show _ = _; kernel_rfl
@[go_sem] theorem call192 (args H) : callC Tryz.prog 192 args H = .call 192 args := callC_ok (by kernel_rfl) args H
theorem R192ok : resKs Tryz.prog Tryz.f192.results.toList = some [(RK.cell z.o.i true 5), (RK.cell z.i.o true 4), (RK.tmp z.i.i)] := by kernel_rfl

@[go_sem] theorem call193 (args H) : callC Tryz.prog 193 args H = .call 193 args := callC_ok (by kernel_rfl) args H
noncomputable def C194 : CC := (.seq (.region [.mk (boxR false z.i) z.i.i, .mk (mvR (X.c AV.nils)) z.o.o.i, .mk (mvR (X.c AV.nils)) z.o.i.o]) (.seq (.regionD [.mk (keepH (mvR z.o.o)) z.o.o.o.i, .mk (keepH (mvR z.o)) z.o.o.o.o, .mk (keepH (ldR true 4 z.i.i)) z.i.o.i, .mk (addH (bslR 4 1 [(.str []), (.int .i64 0), (.str []), (.bool false)] [(0, z.i.o.i)])) z.i.i.o Gd.no [.mk (ldR true 4 z.i.i) z.i.o.i Gd.no, .mk (mvR z.o) z.o.o.o.o Gd.no, .mk (mvR z.o.o) z.o.o.o.i Gd.no], .mk (keepH (mvR z)) z.o.i.i, .mk (callS Tryz.prog 78 [z.o.i.i]) z.i.o.o Gd.no [.mk (ldR true 4 z.i.i) z.i.o.i Gd.no, .mk (mvR z.o) z.o.o.o.o Gd.no, .mk (mvR z.o.o) z.o.o.o.i Gd.no], .mk (appR 4 48 z.i.o.o z.i.i.o) z.i.i.i Gd.no [.mk (mvR z.o) z.o.o.o.o Gd.no, .mk (mvR z.o.o) z.o.o.o.i Gd.no], .mk (callS Tryz.prog 158 [z.i.i.i, z.o.o.o.o, z.o.o.o.i]) z.o.o.i.o, .mk (keepH (extR z.o.o.i.o 1)) z.o.i.o.o, .mk (keepH (extR z.o.o.i.o 0)) z.o.o.i.i, .mk (mvR z.o.o.i.i) z.o.o.i, .mk (mvR z.o.i.o.o) z.o.i.o]) .ret))
theorem C194ok : CCok Tryz.prog Tryz.f194 20 C194 := by show _ = _; kernel_rfl
@[go_sem] theorem call194 (args H) : callC Tryz.prog 194 args H = .call 194 args := callC_ok (by kernel_rfl) args H
theorem R194ok : resKs Tryz.prog Tryz.f194.results.toList = some [(RK.tmp z.o.o.i), (RK.tmp z.o.i.o)] := by kernel_rfl

noncomputable def C195L0 : CC := (.seq (.seq (.regionD [.mk (keepH (mvR z.i.o)) z.i.i.i, .mk (keepH (lenR LnK.slice z.i.i.i)) z.o.o.o.o, .mk (keepH (mvR z.i.i)) z.i.i.o, .mk (keepH (binR Tryz.prog EK.no .none false BinOp.lss z.i.i.o z.o.o.o.o)) z.o.o.o.i, .mk (keepH (mvR z.o.o.o.i)) z.o.o.i.o, .mk (keepH (faR 0 z.o.o)) z.i.o.o.o (Gd.on z.o.o.i.o true) [], .mk (keepH (ldR false 1 z.i.o.o.o)) z.i.o.o.i (Gd.on z.o.o.i.o true) [], .mk (keepH (mvR z.i.i)) z.o.i.o.o (Gd.on z.o.o.i.o true) [], .mk (keepH (mvR z.i.o)) z.o.o.i.i (Gd.on z.o.o.i.o true) [], .mk (keepH (iaS 5 z.o.o.i.i z.o.i.o.o)) z.o.i.o.i (Gd.on z.o.o.i.o true) [], .mk (keepH (faR 0 z.o.i.o.i)) z.o.i.i.o (Gd.on z.o.o.i.o true) [], .mk (keepH (ldR false 1 z.o.i.i.o)) z.o.i.i.i (Gd.on z.o.o.i.o true) [], .mk (keepH (binR Tryz.prog EK.no .none false BinOp.lss z.o.i.i.i z.i.o.o.i)) z.i.o.i.o (Gd.on z.o.o.i.o true) [], .mk (keepH (pickR z.o.o.i.o z.i.o.i.o (X.c (.bool false)))) z.i.o.i.i]) (.cond z.i.o.i.i .skip (.exit 0))) (.block 1 (.region [.mk (mvR z.i.i) z.i.i.o.o, .mk (binR Tryz.prog EK.no .none true BinOp.add z.i.i.o.o (X.c (.int .i64 1))) z.i.i.o.i, .mk (mvR z.i.i.o.i) z.i.i])))
noncomputable def C195 : CC := (.seq (.region [.mk (boxR false z.o) z.o.o, .mk (mvR (X.c AV.nils)) z.o.i]) (.seq (.region [.mk (mvR z) z.o.o.o, .mk (callS Tryz.prog 77 [z.o.o.o]) z.o.o.i, .mk (mvR z.o.o.i) z.i.o]) (.seq (.seq (.region [.mk (ldR true 5 z.o.o) z.o.i.o, .mk (callS Tryz.prog 166 [z.o.i.o]) z.o.i.i, .mk (unR UnOp.not z.o.i.i) z.i.o.o]) (.cond z.i.o.o (.seq (.region [.mk (mvR z.i.o) z.i.o.i, .mk (mvR z.i.o.i) z.o.i]) .ret) .skip)) (.seq (.region [.mk (mvR (X.c (.int .i64 0))) z.i.i]) (.seq (.block 0 (.loop C195L0)) (.seq (.seq (.regionD [.mk (keepH (mvR z.i.o)) z.i.i.i.i, .mk (keepH (lenR LnK.slice z.i.i.i.i)) z.o.o.o.o.o, .mk (keepH (mvR z.i.i)) z.i.i.i.o, .mk (keepH (binR Tryz.prog EK.no .none false BinOp.lss z.i.i.i.o z.o.o.o.o.o)) z.o.o.o.o.i, .mk (keepH (mvR z.o.o.o.o.i)) z.o.o.o.i.o, .mk (keepH (faR 0 z.o.o)) z.o.i.o.o.o (Gd.on z.o.o.o.i.o true) [], .mk (keepH (ldR false 1 z.o.i.o.o.o)) z.o.i.o.o.i (Gd.on z.o.o.o.i.o true) [], .mk (keepH (mvR z.i.i)) z.o.o.i.o.o (Gd.on z.o.o.o.i.o true) [], .mk (keepH (mvR z.i.o)) z.o.o.o.i.i (Gd.on z.o.o.o.i.o true) [], .mk (keepH (iaS 5 z.o.o.o.i.i z.o.o.i.o.o)) z.o.o.i.o.i (Gd.on z.o.o.o.i.o true) [], .mk (keepH (faR 0 z.o.o.i.o.i)) z.o.o.i.i.o (Gd.on z.o.o.o.i.o true) [], .mk (keepH (ldR false 1 z.o.o.i.i.o)) z.o.o.i.i.i (Gd.on z.o.o.o.i.o true) [], .mk (keepH (binR Tryz.prog EK.no .none false BinOp.eql z.o.o.i.i.i z.o.i.o.o.i)) z.o.i.o.i.o (Gd.on z.o.o.o.i.o true) [], .mk (keepH (pickR z.o.o.o.i.o z.o.i.o.i.o (X.c (.bool false)))) z.o.i.o.i.i]) (.cond z.o.i.o.i.i (.seq (.region [.mk (mvR z.i.o) z.o.i.i.o.o, .mk (mvR z.i.i) z.o.i.i.o.i, .mk (ldR true 5 z.o.o) z.o.i.i.i.o, .mk (iaS 5 z.o.i.i.o.o z.o.i.i.o.i) z.o.i.i.i.i, .mk (stR 5 z.o.i.i.i.i z.o.i.i.i.o) .none]) (.seq (.region [.mk (mvR z.i.o) z.i.o.o.o.o, .mk (mvR z.i.o.o.o.o) z.o.i]) .ret)) .skip)) (.seq (.region [.mk (mvR z.i.o) z.i.o.o.o.i, .mk (mvR z.i.i) z.i.o.o.i.o, .mk (ldR true 5 z.o.o) z.i.o.o.i.i, .mk (bslR 5 1 [(.str []), (.str []), (.int .i64 0), (.bool false), (.int .i64 0)] [(0, z.i.o.o.i.i)]) z.i.o.i.o.o, .mk (callS Tryz.prog 200 [z.i.o.o.o.i, z.i.o.o.i.o, z.i.o.i.o.o]) z.i.o.i.o.i, .mk (mvR z.i.o.i.o.i) z.o.i]) .ret)))))))
theorem C195ok : CCok Tryz.prog Tryz.f195 53 C195 := by show _ = _; kernel_rfl
@[go_sem] theorem call195 (args H) : callC Tryz.prog 195 args H = .call 195 args := callC_ok (by kernel_rfl) args H
theorem R195ok : resKs Tryz.prog Tryz.f195.results.toList = some [(RK.tmp z.o.i)] := by kernel_rfl

noncomputable def C199 : CC := (.seq (.region [.mk (boxR false z) z.o.o, .mk (fun _ H => newC false [(.str []), (.str []), (.int .i64 0), (.bool false), (.int .i64 0)] H) z.i.i, .mk (fun _ H => newC false [(.str []), (.int .i64 0), (.str []), (.bool false)] H) z.o.o.o, .mk (mvR (X.c AV.nili)) z.o.o.i]) (.seq (.seq (.region [.mk (faR 2 z.o.o) z.o.i.o, .mk (ldR false 1 z.o.i.o) z.o.i.i, .mk (binR Tryz.prog EK.no .none true BinOp.geq z.o.i.i (X.c (.int .i64 1000000000000))) z.i.o.o]) (.cond z.i.o.o (.seq (.region [.mk (ldR true 5 z.o.o) z.i.o.i, .mk (buildR [(.str []), (.int .i64 0), (.str []), (.bool false)] []) z.i.i.o, .mk (mkiR 51 (X.c (.int .i64 18))) z.i.i.i, .mk (stR 5 z.i.i z.i.o.i) .none, .mk (stR 4 z.o.o.o z.i.i.o) .none, .mk (mvR z.i.i.i) z.o.o.i]) .ret) .skip)) (.seq (.region [.mk (faR 2 z.o.o) z.o.o.o.o, .mk (ldR false 1 z.o.o.o.o) z.o.o.o.i, .mk (binR Tryz.prog EK.no .none true BinOp.add z.o.o.o.i (X.c (.int .i64 1))) z.o.o.i.o, .mk (faR 2 z.o.o) z.o.o.i.i, .mk (stR 1 z.o.o.i.i z.o.o.i.o) .none]) (.seq (.region [.mk (mvR z.o) z.o.i.o.o, .mk (mvR z.i) z.o.i.o.i, .mk (faR 1 z.o.o) z.o.i.i.o, .mk (stR 1 z.o.i.i.o z.o.i.o.o) .none, .mk (faR 3 z.o.o) z.o.i.i.i, .mk (stR 1 z.o.i.i.i z.o.i.o.i) .none]) (.seq (.regionD [.mk (keepH (mvR z.i)) z.i.i.i.o, .mk (keepH (mvR z.o)) z.i.i.o.i, .mk (keepH (faR 2 z.o.o)) z.i.o.i.i, .mk (keepH (ldR false 1 z.i.o.i.i)) z.i.i.o.o, .mk (keepH (faR 0 z.o.o)) z.i.o.o.i, .mk (keepH (ldR false 1 z.i.o.o.i)) z.i.o.i.o, .mk (keepH (buildR [(.str []), (.int .i64 0), (.str []), (.bool false)] [(0, (1, z.i.o.i.o)), (1, (1, z.i.i.o.o)), (2, (1, z.i.i.o.i)), (3, (1, z.i.i.i.o))])) z.i.i.i.i, .mk (keepH (ldR true 5 z.o.o)) z.i.o.o.o, .mk (stR 5 z.i.i z.i.o.o.o) .none Gd.no [.mk (buildR [(.str []), (.int .i64 0), (.str []), (.bool false)] [(0, (1, z.i.o.i.o)), (1, (1, z.i.i.o.o)), (2, (1, z.i.i.o.i)), (3, (1, z.i.i.i.o))]) z.i.i.i.i Gd.no, .mk (ldR false 1 z.i.o.o.i) z.i.o.i.o Gd.no, .mk (faR 0 z.o.o) z.i.o.o.i Gd.no, .mk (ldR false 1 z.i.o.i.i) z.i.i.o.o Gd.no, .mk (faR 2 z.o.o) z.i.o.i.i Gd.no, .mk (mvR z.o) z.i.i.o.i Gd.no, .mk (mvR z.i) z.i.i.i.o Gd.no], .mk (stR 4 z.o.o.o z.i.i.i.i) .none, .mk (mvR (X.c AV.nili)) z.o.o.i]) .ret)))))
theorem C199ok : CCok Tryz.prog Tryz.f199 31 C199 := by show _ = _; kernel_rfl
@[go_sem] theorem call199 (args H) : callC Tryz.prog 199 args H = .call 199 args := callC_ok (by kernel_rfl) args H
theorem R199ok : resKs Tryz.prog Tryz.f199.results.toList = some [(RK.cell z.i.i true 5), (RK.cell z.o.o.o true 4), (RK.tmp z.o.o.i)] := by kernel_rfl

@[go_sem] theorem call200 (args H) : callC Tryz.prog 200 args H = .call 200 args := callC_ok (by kernel_rfl) args H
end Go.Proofs
/- Small functions of keys, spans, cells, walked. -/

set_option linter.all false
set_option maxRecDepth 100000
namespace Go.Proofs
open Go Go.Ev
variable {H : Heap}
theorem bool_t {p : Prop} [Decidable p] (h : p) : AV.bool true = .bool (decide p) := by rw [decide_eq_true h]
theorem bool_f {p : Prop} [Decidable p] (h : ¬p) : AV.bool false = .bool (decide p) := by rw [decide_eq_false h]
def isKey (k : List Nat) : Prop := ¬ k = [] ∧ (k.length : Int) ≤ 8
instance (k : List Nat) : Decidable (isKey k) := inferInstanceAs (Decidable (_ ∧ _))
theorem f66_ok (k : List Nat) : FnOk Tryz.prog 66 [.str k] H fun v G => v = .bool (decide (isKey k)) ∧ G = H := by
  refine FnOk.of_WW Tryz.func66 rfl C66ok R66ok E0 good_E0 ?_
  simp only [go_sem, C66]
  repeat' (first | apply And.intro | intro _)
  all_goals first | exact Heap.ext_nil H | simp_all [isKey]
def isSpan (f t : List Nat) : Prop := (f.length : Int) ≤ 8 ∧ (t.length : Int) ≤ 8 ∧ (t = [] ∨ ltS f t)
noncomputable instance (f t : List Nat) : Decidable (isSpan f t) := inferInstanceAs (Decidable (_ ∧ _))
theorem f65_ok (f t : List Nat) : FnOk Tryz.prog 65 [.agg [.str f, .str t]] H fun v G => v = .bool (decide (isSpan f t)) ∧ G = H := by
  refine FnOk.drop (R := fun v => v = .bool (decide (isSpan f t))) ?_ (by rintro v rfl ρ; rw [AV.ren])
  refine FnOk.of_WW Tryz.func65 rfl C65ok R65ok E0 good_E0 ?_
  simp only [go_sem, C65, not_leS]
  repeat' (first | apply And.intro | intro _)
  all_goals first | exact ⟨_, rfl⟩ | exact bool_t (by unfold isSpan; grind) | exact bool_f (by unfold isSpan; grind)
def mayBe (k v : List Nat) (n : Int) (d : Bool) : Prop := isKey k ∧ (v.length : Int) ≤ 12 ∧ (d = true → v = []) ∧ 1 ≤ n ∧ n ≤ 1000000000000
instance (k v : List Nat) (n : Int) (d : Bool) : Decidable (mayBe k v n d) := inferInstanceAs (Decidable (_ ∧ _))
theorem f167_ok (f t : List Nat) (v : Int) (d : Bool) : FnOk Tryz.prog 167 [.str f, .str t, .int .i64 v, .bool d] H fun r G => r = .bool (decide (mayBe f t v d)) ∧ G = H := by
  refine FnOk.of_WW Tryz.func167 rfl C167ok R167ok E0 good_E0 ?_
  cases d
  all_goals simp only [go_sem, C167]
  all_goals refine CL.bool (f66_ok _) (fun h1 => ?_) (fun h1 => ?_)
  all_goals simp only [go_sem]
  all_goals repeat' (first | apply And.intro | intro _)
  all_goals first | exact Heap.ext_nil H | exact bool_t (by unfold mayBe; grind) | exact bool_f (by unfold mayBe; grind)

structure Cell where
  key : List Nat
  value : List Nat
  ver : Int
  del : Bool
  floor : Int
  deriving DecidableEq
def Cell.enc (c : Cell) : List AV := [.str c.key, .str c.value, .int .i64 c.ver, .bool c.del, .int .i64 c.floor]
@[go_sem] theorem Cell.rens (ρ : K → K) (c : Cell) : AV.rens ρ c.enc = c.enc := by simp only [Cell.enc, AV.rens, AV.ren]
theorem Cell.map_rens (ρ : K → K) (l : List Cell) : (l.map Cell.enc).map (AV.rens ρ) = l.map Cell.enc := by
  rw [List.map_map]; exact List.map_congr_left fun c _ => Cell.rens ρ c
def has (f t k : List Nat) : Prop := isSpan f t ∧ isKey k ∧ ¬ ltS k f ∧ (t = [] ∨ ltS k t)
noncomputable instance (f t k : List Nat) : Decidable (has f t k) := inferInstanceAs (Decidable (_ ∧ _))
theorem f27_ok (f t k : List Nat) : FnOk Tryz.prog 27 [.agg [.str f, .str t], .str k] H fun v G => v = .bool (decide (has f t k)) ∧ G = H := by
  refine FnOk.drop (R := fun v => v = .bool (decide (has f t k))) ?_ (by rintro v rfl ρ; rw [AV.ren])
  refine FnOk.of_WW Tryz.func27 rfl C27ok R27ok E0 good_E0 ?_
  simp only [go_sem, C27]
  refine CL.bool (f65_ok _ _) (fun h1 => ?_) (fun h1 => ?_)
  all_goals simp only [go_sem]
  · refine CL.bool (f66_ok _) (fun h2 => ?_) (fun h2 => ?_)
    all_goals simp only [go_sem]
    all_goals repeat' (first | apply And.intro | intro _)
    all_goals first | exact ⟨_, rfl⟩ | exact bool_t (by unfold has; grind) | exact bool_f (by unfold has; grind)
  · exact ⟨bool_f (by unfold has; grind), _, rfl⟩
def cellIs (c : Cell) : Prop := mayBe c.key c.value c.ver c.del ∧ 0 ≤ c.floor ∧ c.floor ≤ c.ver
instance (c : Cell) : Decidable (cellIs c) := inferInstanceAs (Decidable (_ ∧ _))
theorem f166_ok (c : Cell) : FnOk Tryz.prog 166 [.agg c.enc] H fun v G => v = .bool (decide (cellIs c)) ∧ G = H := by
  refine FnOk.drop (R := fun v => v = .bool (decide (cellIs c))) ?_ (by rintro v rfl ρ; rw [AV.ren])
  refine FnOk.of_WW Tryz.func166 rfl C166ok R166ok E0 good_E0 ?_
  simp only [go_sem, C166, Cell.enc]
  refine CL.bool (f167_ok _ _ _ _) (fun h1 => ?_) (fun h1 => ?_)
  all_goals simp only [go_sem]
  all_goals repeat' (first | apply And.intro | intro _)
  all_goals first | exact ⟨_, rfl⟩ | exact bool_t (by unfold cellIs; grind) | exact bool_f (by unfold cellIs; grind)
end Go.Proofs
/- index: Get, walked. -/

set_option linter.all false
set_option maxRecDepth 100000
namespace Go.Proofs
open Go Go.Ev
variable {H : Heap}
def Cell.zero : Cell := ⟨[], [], 0, false, 0⟩
def getL (l : List Cell) (key : List Nat) : Cell × Bool := match l with
  | [] => (⟨key, [], 0, false, 0⟩, false)
  | c :: l => if c.key = key then (c, true) else getL l key
theorem getL_at {key : List Nat} : ∀ {l : List Cell} {i : Nat} {c : Cell}, (∀ x ∈ l.take i, x.key ≠ key) → l[i]? = some c → c.key = key → getL l key = (c, true)
  | [], i, c, _, h, _ => by simp at h
  | x :: l, 0, c, _, h, hc => by simp at h; subst h; rw [getL, if_pos hc]
  | x :: l, i + 1, c, hn, h, hc => by
    rw [getL, if_neg (hn x (by simp))]
    exact getL_at (i := i) (fun y hy => hn y (by simp [hy])) (by simpa using h) hc
theorem getL_none {key : List Nat} : ∀ {l : List Cell}, (∀ x ∈ l, x.key ≠ key) → getL l key = (⟨key, [], 0, false, 0⟩, false)
  | [], _ => rfl
  | x :: l, h => by rw [getL, if_neg (h x (by simp))]; exact getL_none fun y hy => h y (by simp [hy])
theorem take_all {α : Type} {l : List α} {i : Nat} (h : l.length ≤ i) : l.take i = l := List.take_of_length_le h
theorem take_next {α : Type} {l : List α} {i : Nat} {c : α} (h : l[i]? = some c) : l.take (i + 1) = l.take i ++ [c] := by
  rw [List.take_succ, h]; rfl


theorem f123_ok {v : AV} {l : List Cell} (hA : Arr H 5 v (l.map Cell.enc)) (hl : l.length < 4294967296) (key : List Nat) :
    FnOk Tryz.prog 123 [v, .str key] H fun r G => r = .tup [.agg (getL l key).1.enc, .bool (getL l key).2] ∧ G = H := by
  refine FnOk.assume fun hok => ?_
  refine FnOk.drop (R := fun r => r = .tup [.agg (getL l key).1.enc, .bool (getL l key).2]) ?_ (by rintro v rfl ρ; simp only [AV.ren, AV.rens, Cell.rens])
  refine FnOk.of_WW Tryz.func123 rfl C123ok R123ok E0 good_E0 ?_
  rcases hA.forms with ⟨rfl, hnil⟩ | ⟨k, off, ex, cap, rfl, hrho⟩
  · have hn0 : l.length = 0 := by simpa using hnil
    simp only [go_sem, C123]
    refine LL.st good_E0 (fun i : Nat => l.length - i) (fun i => i ≤ l.length ∧ ∀ x ∈ l.take i, x.key ≠ key)
      (fun i => [(.o .z, .str key), (.i (.o .z), .ptr (H.key 0) 0), (.i (.o (.o .z)), .nils), (.o (.i (.o .z)), .int .i64 l.length), (.i (.i (.o .z)), .int .i64 i)])
      (fun i => [.row true 5 [[.str [], .str [], .int .i64 0, .bool false, .int .i64 0]]]) ?_ 0 (σ := [0]) (Wk.mk' rfl (by decide) (by simp only [go_sem, List.length_map, hn0]) (by simp only [go_sem, List.length_map, hn0])) ⟨by omega, by simp⟩
    rintro i ⟨hi, hno⟩
    by_cases hlt : i < l.length
    · exact absurd hlt (by omega)
    · have hci : ¬ (i : Int) < (l.length : Int) := by omega
      have := getL_none (l := l) (key := key) (by rw [take_all (by omega)] at hno; exact hno)
      simp only [go_sem, C123L0, hci]
      rw [this]
      exact ⟨rfl, _, rfl⟩
  · have hn0 : True := trivial
    simp only [go_sem, C123]
    refine LL.st good_E0 (fun i : Nat => l.length - i) (fun i => i ≤ l.length ∧ ∀ x ∈ l.take i, x.key ≠ key)
      (fun i => [(.o .z, .str key), (.i (.o .z), .ptr (H.key 0) 0), (.i (.o (.o .z)), .slice k off (l.map Cell.enc).length 5 ex cap), (.o (.i (.o .z)), .int .i64 l.length), (.i (.i (.o .z)), .int .i64 i)])
      (fun i => [.row true 5 [[.str [], .str [], .int .i64 0, .bool false, .int .i64 0]]]) ?_ 0 (σ := [0]) (Wk.mk' rfl (by decide) (by simp only [go_sem, List.length_map, hrho]) (by simp only [go_sem, List.length_map, hrho])) ⟨by omega, by simp⟩
    rintro i ⟨hi, hno⟩
    by_cases hlt : i < l.length
    · obtain ⟨kk, r, ex', cap', wr, rows, hv, hk, hg, _, hat⟩ := hA.pick (j := i) (by simpa using hlt)
      have hrow := hat i (by simpa using hlt)
      have hgo := Heap.get_ext_old hok hg
      have hw := wrap_succ (n := i) (by omega)
      have hci : (i : Int) < (l.length : Int) := by omega
      have hsi : i + 1 ≤ l.length := by omega
      cases hv
      simp only [go_sem, C123L0, List.length_map, hw, hgo, hrow, hci, hsi, List.getElem?_eq_getElem hlt, Cell.enc]
      have hget : l[i]? = some l[i] := List.getElem?_eq_getElem hlt
      refine ⟨fun he => ?_, fun he => ?_⟩
      · have := getL_at hno hget he
        rw [this]
        exact ⟨rfl, _, rfl⟩
      · refine ⟨i + 1, by show l.length - (i + 1) < l.length - i; omega, ⟨by omega, ?_⟩, _, [0], rfl, Wk.mk' rfl (by decide) (by simp only [go_sem, hrho, List.length_map]) (by simp only [go_sem, hrho, List.length_map])⟩
        rw [take_next hget]
        intro x hx
        rcases List.mem_append.1 hx with h | h
        · exact hno x h
        · simp only [List.mem_singleton] at h; subst h; exact he
    · have hci : ¬ (i : Int) < (l.length : Int) := by omega
      have := getL_none (l := l) (key := key) (by rw [take_all (by omega)] at hno; exact hno)
      simp only [go_sem, C123L0, hci]
      rw [this]
      exact ⟨rfl, _, rfl⟩
end Go.Proofs
/- index: loops that only read, walked. -/

set_option linter.all false
set_option maxRecDepth 100000
namespace Go.Proofs
open Go Go.Ev
variable {H : Heap}

def few (l : List Cell) : Prop := (∀ c ∈ l, (c.key.length : Int) ≤ 20 ∧ (c.value.length : Int) ≤ 40) ∧ (l.length : Int) ≤ 30
instance (l : List Cell) : Decidable (few l) := inferInstanceAs (Decidable (_ ∧ _))

end Go.Proofs
/- index: the order of cells, walked. -/

set_option linter.all false
set_option maxRecDepth 100000
namespace Go.Proofs
open Go Go.Ev
variable {H : Heap}

def okAt (l : List Cell) (j : Nat) : Prop := ∃ c, l[j]? = some c ∧ cellIs c ∧ (0 < j → ∃ d, l[j - 1]? = some d ∧ ltS d.key c.key)
def isIdx (l : List Cell) : Prop := ∀ j, j < l.length → okAt l j
noncomputable instance (l : List Cell) : Decidable (isIdx l) := Classical.propDecidable _

theorem f122_ok {v : AV} {l : List Cell} (hA : Arr H 5 v (l.map Cell.enc)) (hl : l.length < 4294967296) :
    FnOk Tryz.prog 122 [v] H fun r G => r = .bool (decide (isIdx l)) ∧ G = H := by
  refine FnOk.assume fun hok => ?_
  refine FnOk.drop (R := fun r => r = .bool (decide (isIdx l))) ?_ (by rintro v rfl ρ; rw [AV.ren])
  refine FnOk.of_WW Tryz.func122 rfl C122ok R122ok E0 good_E0 ?_
  rcases hA.forms with ⟨rfl, hnil⟩ | ⟨k, off, ex, cap, rfl, hrho⟩
  · have hn0 : l.length = 0 := by simpa using hnil
    simp only [go_sem, C122]
    refine LL.st good_E0 (fun i : Nat => l.length - i) (fun i => i ≤ l.length ∧ ∀ j, j < i → okAt l j)
      (fun i => [(.z, .nils), ((.o (.i .z)), .nils), ((.i (.i .z)), .int .i64 l.length), ((.o (.o (.o .z))), .int .i64 i)])
      (fun i => []) ?_ 0 (σ := []) (Wk.mk' rfl (by decide) (by simp only [go_sem, List.length_map, hn0]) (by simp only [go_sem, List.length_map, hn0])) ⟨by omega, by simp⟩
    rintro i ⟨hi, hno⟩
    by_cases hlt : i < l.length
    · exact absurd hlt (by omega)
    · have hci : ¬ (i : Int) < (l.length : Int) := by omega
      simp only [go_sem, C122L0, List.length_map, hci, show ¬ (i : Int) < 0 by omega]
      exact ⟨bool_t fun j hj => hno j (by omega), _, rfl⟩
  · simp only [go_sem, C122]
    refine LL.st good_E0 (fun i : Nat => l.length - i) (fun i => i ≤ l.length ∧ ∀ j, j < i → okAt l j)
      (fun i => [(.z, .slice k off (l.map Cell.enc).length 5 ex cap), ((.o (.i .z)), .slice k off (l.map Cell.enc).length 5 ex cap), ((.i (.i .z)), .int .i64 l.length), ((.o (.o (.o .z))), .int .i64 i)])
      (fun i => []) ?_ 0 (σ := []) (Wk.mk' rfl (by decide) (by simp only [go_sem, List.length_map, hrho]) (by simp only [go_sem, List.length_map, hrho])) ⟨by omega, by simp⟩
    rintro i ⟨hi, hno⟩
    by_cases hlt : i < l.length
    · obtain ⟨kk, r, ex', cap', wr, rows, hv, hk, hg, _, hat⟩ := hA.pick (j := i) (by simpa using hlt)
      have hrow := hat i (by simpa using hlt)
      have hgo := Heap.get_ext_old hok hg
      have hw := wrap_succ (n := i) (by omega)
      have hci : (i : Int) < (l.length : Int) := by omega
      have hsi : i + 1 ≤ l.length := by omega
      have hget : l[i]? = some l[i] := List.getElem?_eq_getElem hlt
      cases hv
      have hbad : ¬ okAt l i → ¬ isIdx l := fun h g => h (g i hlt)
      simp only [go_sem, C122L0, List.length_map, hw, hgo, hrow, hci, hsi, List.getElem?_eq_getElem hlt, Cell.enc]
      refine CL.bool (f166_ok l[i]) (fun h1 => ?_) (fun h1 => ?_)
      · rcases Nat.eq_zero_or_pos i with h0 | h0
        · subst h0
          have hw0 : IntKind.i64.wrap (0 + 1) = ((0 + 1 : Nat) : Int) := rfl
          simp only [go_sem, List.length_map, hw, hgo, hrow, hci, hsi, List.getElem?_eq_getElem hlt, Cell.enc, Int.lt_irrefl, Int.ofNat_zero, hw0]
          refine ⟨0 + 1, by show l.length - (0 + 1) < l.length - 0; omega, ?_, _, [], rfl, Wk.mk' rfl (by decide) (by simp only [go_sem, hrho, List.length_map]) (by simp only [go_sem, hrho, List.length_map])⟩
          refine ⟨by omega, fun j hj => ?_⟩
          obtain rfl : j = 0 := by omega
          exact ⟨_, hget, h1, fun h => absurd h (by omega)⟩
        · obtain ⟨j, rfl⟩ : ∃ j, i = j + 1 := ⟨i - 1, by omega⟩
          have hrow' := hat j (by simp only [List.length_map]; omega)
          have hp : IntKind.i64.wrap (((j + 1 : Nat) : Int) - 1) = (j : Int) := by rw [wrap_i64 (by omega) (by omega)]; omega
          have hpos : (0 : Int) < ((j + 1 : Nat) : Int) := by omega
          have hltj : (j : Int) < (l.length : Int) := by omega
          have hsj : j + 1 ≤ l.length := by omega
          have hgetj : l[j]? = some l[j] := List.getElem?_eq_getElem (by omega)
          simp only [go_sem, List.length_map, hw, hgo, hrow, hci, hsi, List.getElem?_eq_getElem hlt, Cell.enc, hrow', hp, hpos, hltj, hsj, hgetj]
          refine ⟨fun h2 => ⟨bool_f (hbad ?_), _, rfl⟩, fun h2 => ?_⟩
          · rintro ⟨c, hc, _, hlt'⟩
            obtain ⟨d, hd, hlt'⟩ := hlt' (by omega)
            rw [hget] at hc
            rw [Nat.add_sub_cancel, hgetj] at hd
            cases hc; cases hd
            exact h2 hlt'
          · refine ⟨(j + 1) + 1, by show l.length - ((j + 1) + 1) < l.length - (j + 1); omega, ?_, _, [], rfl, Wk.mk' rfl (by decide) (by simp only [go_sem, hrho, List.length_map]) (by simp only [go_sem, hrho, List.length_map])⟩
            refine ⟨by omega, fun x hx => ?_⟩
            rcases Nat.lt_or_ge x (j + 1) with g | g
            · exact hno x g
            · obtain rfl : x = j + 1 := by omega
              exact ⟨_, hget, h1, fun _ => ⟨_, hgetj, Classical.not_not.1 h2⟩⟩
      · simp only [go_sem, List.length_map, hw, hgo, hrow, hci, hsi, List.getElem?_eq_getElem hlt, Cell.enc]
        exact ⟨bool_f (hbad (by rintro ⟨c, hc, h, _⟩; rw [hget] at hc; cases hc; exact h1 h)), _, rfl⟩
    · have hci : ¬ (i : Int) < (l.length : Int) := by omega
      simp only [go_sem, C122L0, List.length_map, hci]
      exact ⟨bool_t fun j hj => hno j (by omega), _, rfl⟩

end Go.Proofs
/- index: the cells of a span, walked. -/


set_option linter.all false
set_option maxRecDepth 100000
namespace Go.Proofs
open Go Go.Ev
variable {H : Heap}

noncomputable def withinL (f t : List Nat) (l : List Cell) : List Cell := l.filter fun c => decide (has f t c.key)
theorem withinL_yes {f t : List Nat} {l : List Cell} {i : Nat} {c : Cell} (h : l[i]? = some c) (h2 : has f t c.key) : withinL f t (l.take (i + 1)) = withinL f t (l.take i) ++ [c] := by
  rw [take_next h]; simp [withinL, h2]
theorem withinL_no {f t : List Nat} {l : List Cell} {i : Nat} {c : Cell} (h : l[i]? = some c) (h2 : ¬ has f t c.key) : withinL f t (l.take (i + 1)) = withinL f t (l.take i) := by
  rw [take_next h]; simp [withinL, h2]
theorem withinL_len (f t : List Nat) (l : List Cell) (i : Nat) : (withinL f t (l.take i)).length ≤ i := Nat.le_trans (List.length_filter_le _ _) (by simp; omega)

theorem f186_ok {v : AV} {l : List Cell} (hA : Arr H 5 v (l.map Cell.enc)) (hl : l.length < 4294967296) (f t : List Nat) :
    FnOk Tryz.prog 186 [v, .agg [.str f, .str t]] H fun r G => r = outV H.nx 5 (withinL f t l).length ∧ G = H.ext (outL 5 ((withinL f t l).map Cell.enc)) := by
  refine FnOk.assume fun hok => ?_
  rw [show (withinL f t l).length = ((withinL f t l).map Cell.enc).length from (List.length_map ..).symm]
  refine FnOk.dropV (Cell.map_rens · _) ?_
  rw [List.length_map]
  refine FnOk.of_WW Tryz.func186 rfl C186ok R186ok E0 good_E0 ?_
  rcases hA.forms with ⟨rfl, hnil⟩ | ⟨k, off, ex, cap, rfl, hrho⟩
  · have hn0 : l.length = 0 := by simpa using hnil
    simp only [go_sem, C186]
    refine LL.st good_E0 (fun i : Nat => l.length - i) (fun i => i ≤ l.length)
      (fun i => [((.o (.o .z)), .ptr (H.key 0) 0), ((.o (.i .z)), outV (H.key 1) 5 (withinL f t (l.take i)).length), ((.i (.o (.o .z))), .nils), ((.o (.i (.o .z))), .int .i64 l.length), ((.i (.i (.o .z))), .int .i64 i)])
      (fun i => [.row true 2 [[.str f, .str t]], outB 5 ((withinL f t (l.take i)).map Cell.enc)]) ?_ 0 (σ := [0, 1]) (Wk.mk' rfl (by decide) (by simp only [go_sem, List.length_map, hn0, withinL, List.filter_nil]) (by simp only [go_sem, List.length_map, hn0, withinL, List.filter_nil])) (by omega)
    rintro i hi
    by_cases hlt : i < l.length
    · exact absurd hlt (by omega)
    · have hci : ¬ (i : Int) < (l.length : Int) := by omega
      simp only [go_sem, C186L0, List.length_map, hci, show ¬ (i : Int) < 0 by omega]
      rw [take_all (by omega)]
      exact ⟨_, 1, rfl, rfl, rfl⟩
  · simp only [go_sem, C186]
    refine LL.st good_E0 (fun i : Nat => l.length - i) (fun i => i ≤ l.length)
      (fun i => [((.o (.o .z)), .ptr (H.key 0) 0), ((.o (.i .z)), outV (H.key 1) 5 (withinL f t (l.take i)).length), ((.i (.o (.o .z))), .slice k off (l.map Cell.enc).length 5 ex cap), ((.o (.i (.o .z))), .int .i64 l.length), ((.i (.i (.o .z))), .int .i64 i)])
      (fun i => [.row true 2 [[.str f, .str t]], outB 5 ((withinL f t (l.take i)).map Cell.enc)]) ?_ 0 (σ := [0, 1]) (Wk.mk' rfl (by decide) (by simp only [go_sem, List.length_map, hrho, withinL, List.filter_nil]) (by simp only [go_sem, List.length_map, hrho, withinL, List.filter_nil])) (by omega)
    rintro i hi
    by_cases hlt : i < l.length
    · obtain ⟨kk, r, ex', cap', wr, rows, hv, hk, hg, _, hat⟩ := hA.pick (j := i) (by simpa using hlt)
      have hrow := hat i (by simpa using hlt)
      have hgo := Heap.get_ext_old hok hg
      have hw := wrap_succ (n := i) (by omega)
      have hci : (i : Int) < (l.length : Int) := by omega
      have hsi : i + 1 ≤ l.length := by omega
      have hget : l[i]? = some l[i] := List.getElem?_eq_getElem hlt
      cases hv
      have hlen := withinL_len f t l i
      rcases hx : withinL f t (l.take i) with _ | ⟨x, xs⟩
      · simp only [go_sem, C186L0, List.length_map, hw, hgo, hrow, hci, hsi, List.getElem?_eq_getElem hlt, Cell.enc]
        refine CL.bool (f27_ok f t l[i].key) (fun h1 => ?_) (fun h1 => ?_)
        · have hnew : withinL f t (l.take (i + 1)) = [l[i]] := by rw [withinL_yes hget h1, hx]; rfl
          try simp only [go_sem, List.length_map, hw, hgo, hrow, hci, hsi, List.getElem?_eq_getElem hlt, Cell.enc]
          refine ⟨i + 1, by show l.length - (i + 1) < l.length - i; omega, ?_, _, [0, 4], rfl, Wk.mk' rfl (by decide) (by simp only [go_sem, hrho, List.length_map, hnew, Cell.enc, Cell.map_rens]) (by simp only [go_sem, hrho, List.length_map, hnew, Cell.enc, Cell.map_rens])⟩
          omega
        · have hnew : withinL f t (l.take (i + 1)) = [] := by rw [withinL_no hget h1, hx]
          try simp only [go_sem, List.length_map, hw, hgo, hrow, hci, hsi, List.getElem?_eq_getElem hlt, Cell.enc]
          refine ⟨i + 1, by show l.length - (i + 1) < l.length - i; omega, ?_, _, [0, 1], rfl, Wk.mk' rfl (by decide) (by simp only [go_sem, hrho, List.length_map, hnew, Cell.enc, Cell.map_rens]) (by simp only [go_sem, hrho, List.length_map, hnew, Cell.enc, Cell.map_rens])⟩
          omega
      · have hfull : ¬ xs.length + 1 ≤ xs.length := by omega
        have htk : List.take xs.length (xs.map Cell.enc) = xs.map Cell.enc := List.take_of_length_le (by simp)
        have hself : xs.length ≤ xs.length := Nat.le_refl _
        have hmx : (2 * (xs.length + 1 + 1) + 192) * 56 ≤ 281474976710656 := by rw [hx] at hlen; simp only [List.length_cons] at hlen; omega
        simp only [go_sem, C186L0, List.length_map, hw, hgo, hrow, hci, hsi, List.getElem?_eq_getElem hlt, Cell.enc, hfull, htk, hself, hmx]
        refine CL.bool (f27_ok f t l[i].key) (fun h1 => ?_) (fun h1 => ?_)
        · have hnew : withinL f t (l.take (i + 1)) = x :: (xs ++ [l[i]]) := by rw [withinL_yes hget h1, hx]; rfl
          try simp only [go_sem, List.length_map, hw, hgo, hrow, hci, hsi, List.getElem?_eq_getElem hlt, Cell.enc, hfull, htk, hself, hmx]
          refine ⟨i + 1, by show l.length - (i + 1) < l.length - i; omega, ?_, _, [0, 4], rfl, Wk.mk' rfl (by decide) (by simp only [go_sem, hrho, List.length_map, hnew, Cell.enc, Cell.map_rens]) (by simp only [go_sem, hrho, List.length_map, hnew, Cell.enc, Cell.map_rens])⟩
          omega
        · have hnew : withinL f t (l.take (i + 1)) = x :: xs := by rw [withinL_no hget h1, hx]
          try simp only [go_sem, List.length_map, hw, hgo, hrow, hci, hsi, List.getElem?_eq_getElem hlt, Cell.enc]
          refine ⟨i + 1, by show l.length - (i + 1) < l.length - i; omega, ?_, _, [0, 1], rfl, Wk.mk' rfl (by decide) (by simp only [go_sem, hrho, List.length_map, hnew, Cell.enc, Cell.map_rens]) (by simp only [go_sem, hrho, List.length_map, hnew, Cell.enc, Cell.map_rens])⟩
          omega
    · have hci : ¬ (i : Int) < (l.length : Int) := by omega
      simp only [go_sem, C186L0, List.length_map, hci]
      rw [take_all (by omega)]
      exact ⟨_, 1, rfl, rfl, rfl⟩

end Go.Proofs
/- index: the rows of a span, walked. -/

set_option linter.all false
set_option maxRecDepth 100000
namespace Go.Proofs
open Go Go.Ev
variable {H : Heap}

def there (c : Cell) : Prop := 0 < c.ver ∧ c.del = false
instance (c : Cell) : Decidable (there c) := inferInstanceAs (Decidable (_ ∧ _))
def Cell.row (c : Cell) : List AV := [.str c.key, .str c.value, .int .i64 c.ver]
end Go.Proofs
/- index: a cell put in its place, walked. -/


set_option linter.all false
set_option maxRecDepth 100000
namespace Go.Proofs
open Go Go.Ev
variable {H : Heap}

theorem clo50 : CloFn Tryz.prog 77 5 56 [.str [], .str [], .int .i64 0, .bool false, .int .i64 0] := ⟨⟨Tryz.f77, Tryz.func77, by kernel_rfl, by kernel_rfl⟩, rfl, by decide⟩
theorem ins51 : InsFn Tryz.prog 200 5 56 [.str [], .str [], .int .i64 0, .bool false, .int .i64 0] := ⟨⟨Tryz.f200, 202, 203, Tryz.func200, by kernel_rfl, by kernel_rfl, by kernel_rfl, by kernel_rfl⟩, rfl, by decide⟩
/-- the cell c put among the cells l -/
noncomputable def withL (l : List Cell) (c : Cell) : List Cell :=
  match l with
  | [] => [c]
  | d :: l => if ltS d.key c.key then d :: withL l c else if d.key = c.key then c :: l else c :: d :: l
theorem withL_at : ∀ (l : List Cell) (c : Cell) (i : Nat), (∀ j d, j < i → l[j]? = some d → ltS d.key c.key) → i ≤ l.length →
    (∀ d, l[i]? = some d → ¬ ltS d.key c.key) → withL l c = l.take i ++ c :: (match l[i]? with | none => [] | some d => if d.key = c.key then l.drop (i + 1) else l.drop i)
  | [], c, i, _, hi, _ => by
    obtain rfl : i = 0 := by simpa using hi
    rfl
  | d :: l, c, 0, _, _, h => by
    have := h d rfl
    simp [withL, this]
    split <;> rfl
  | d :: l, c, i + 1, h, hi, h2 => by
    have h1 := h 0 d (by omega) rfl
    have ih := withL_at l c i (fun j e hj he => h (j + 1) e (by omega) (by simpa using he)) (by simpa using hi) (fun e he => h2 e (by simpa using he))
    simp only [withL, h1, if_true, ih, List.take_succ_cons, List.cons_append, List.getElem?_cons_succ, List.drop_succ_cons]

noncomputable def withC (l : List Cell) (c : Cell) : List Cell := if cellIs c then withL l c else l
/-- a slice handed back that is nil only where the given one is -/
def frV (v : AV) (k : K) (esz n : Nat) : AV := match v with | .nils => outV k esz n | _ => .slice k 0 n esz false n
def frL (v : AV) (esz : Nat) (xs : List (List AV)) : List Blk := match v with | .nils => outL esz xs | _ => [.row true esz xs]

theorem f195_nil {c : Cell} : FnOk Tryz.prog 195 [.nils, .agg c.enc] H fun r G => r = frV (.nils) H.nx 5 (withC [] c).length ∧ G = H.ext (frL (.nils) 5 ((withC [] c).map Cell.enc)) := by
  refine FnOk.assume fun hok => ?_
  by_cases hc : cellIs c
  · rw [withC, if_pos hc]
    refine FnOk.drop1 (esz := 5) (n := 1) (ex := false) (cap := 1) (b := .row true 5 [c.enc]) ?_ (fun ρ => by simp only [Blk.ren, List.map_cons, List.map_nil, Cell.rens])
    refine FnOk.of_WW Tryz.func195 rfl C195ok R195ok E0 good_E0 ?_
    simp only [go_sem, C195, Cell.enc]
    refine CL.of (clone_nil clo50) ?_
    rintro _ _ ⟨rfl, rfl⟩
    simp only [go_sem, Cell.enc]
    refine CL.bool (f166_ok c) (fun h1 => ?_) (fun h1 => absurd hc h1)
    simp only [go_sem]
    refine LL.st good_E0 (fun i : Nat => 0) (fun i => True)
      (fun i => [((.o (.o .z)), .ptr (H.key 0) 0), ((.o (.i .z)), .nils), ((.i (.i .z)), .int .i64 0)])
      (fun i => [.row true 5 [c.enc]]) ?_ 0 (σ := [0]) (Wk.mk' rfl (by decide) (by simp only [go_sem, Cell.enc]) (by simp only [go_sem, Cell.enc])) trivial
    rintro i -
    simp only [go_sem, C195L0, Cell.enc]
    refine CL.of (insert_nil ins51 (x := c.enc) (wr := true) (by rw [Heap.get_ext_key _ _ _ (by simp)]; rfl) (by decide)) ?_
    rintro _ _ ⟨rfl, rfl⟩
    simp only [go_sem]
    exact ⟨_, 2, rfl, rfl, rfl⟩
  · rw [withC, if_neg hc]
    refine (FnOk.drop (R := fun r => r = .nils) ?_ (by rintro v rfl ρ; rw [AV.ren])).mono (by rintro v G ⟨rfl, rfl⟩; exact ⟨rfl, (Heap.ext_nil _).symm⟩)
    refine FnOk.of_WW Tryz.func195 rfl C195ok R195ok E0 good_E0 ?_
    simp only [go_sem, C195, Cell.enc]
    refine CL.of (clone_nil clo50) ?_
    rintro _ _ ⟨rfl, rfl⟩
    simp only [go_sem, Cell.enc]
    refine CL.bool (f166_ok c) (fun h1 => absurd h1 hc) (fun h1 => ?_)
    simp only [go_sem]
    exact ⟨_, rfl⟩

theorem f195_zero {c : Cell} {k : K} {off : Nat} {ex : Bool} {cap : Nat} : FnOk Tryz.prog 195 [.slice k off 0 5 ex cap, .agg c.enc] H fun r G => r = frV (.slice k off 0 5 ex cap) H.nx 5 (withC [] c).length ∧ G = H.ext (frL (.slice k off 0 5 ex cap) 5 ((withC [] c).map Cell.enc)) := by
  refine FnOk.assume fun hok => ?_
  by_cases hc : cellIs c
  · rw [withC, if_pos hc]
    refine FnOk.drop1 (esz := 5) (n := 1) (ex := false) (cap := 1) (b := .row true 5 [c.enc]) ?_ (fun ρ => by simp only [Blk.ren, List.map_cons, List.map_nil, Cell.rens])
    refine FnOk.of_WW Tryz.func195 rfl C195ok R195ok E0 good_E0 ?_
    simp only [go_sem, C195, Cell.enc]
    refine CL.of (clone_zero clo50) ?_
    rintro _ _ ⟨rfl, rfl⟩
    simp only [go_sem, Cell.enc]
    refine CL.bool (f166_ok c) (fun h1 => ?_) (fun h1 => absurd hc h1)
    simp only [go_sem]
    refine LL.st good_E0 (fun i : Nat => 0) (fun i => True)
      (fun i => [((.o (.o .z)), .ptr (H.key 0) 0), ((.o (.i .z)), .slice (H.key 1) 0 0 5 true 0), ((.i (.i .z)), .int .i64 0)])
      (fun i => [.row true 5 [c.enc], .row true 5 []]) ?_ 0 (σ := [0, 1]) (Wk.mk' rfl (by decide) (by simp only [go_sem, Cell.enc]) (by simp only [go_sem, Cell.enc])) trivial
    rintro i -
    simp only [go_sem, C195L0, Cell.enc]
    refine CL.of (insert_zero ins51 (x := c.enc) (wr := true) (by rw [Heap.get_ext_key _ _ _ (by simp)]; rfl) (by rw [Heap.get_ext_key _ _ _ (by simp)]; rfl) (by decide)) ?_
    rintro _ _ ⟨rfl, rfl⟩
    simp only [go_sem]
    exact ⟨_, 3, rfl, rfl, rfl⟩
  · rw [withC, if_neg hc]
    refine FnOk.loose (FnOk.drop1 (esz := 5) (n := 0) (ex := true) (cap := 0) (b := .row true 5 []) ?_ (fun ρ => rfl))
    refine FnOk.of_WW Tryz.func195 rfl C195ok R195ok E0 good_E0 ?_
    simp only [go_sem, C195, Cell.enc]
    refine CL.of (clone_zero clo50) ?_
    rintro _ _ ⟨rfl, rfl⟩
    simp only [go_sem, Cell.enc]
    refine CL.bool (f166_ok c) (fun h1 => absurd h1 hc) (fun h1 => ?_)
    simp only [go_sem]
    exact ⟨_, 1, rfl, rfl, rfl⟩

theorem f195_arr {c : Cell} {l : List Cell} {k : K} {off : Nat} {ex : Bool} {cap : Nat} (hA : Arr H 5 (.slice k off (l.map Cell.enc).length 5 ex cap) (l.map Cell.enc)) (h0 : 0 < l.length) (hl : l.length < 4294967295) :
    FnOk Tryz.prog 195 [.slice k off (l.map Cell.enc).length 5 ex cap, .agg c.enc] H fun r G => r = .slice H.nx 0 (withC l c).length 5 false (withC l c).length ∧ G = H.ext [.row true 5 ((withC l c).map Cell.enc)] := by
  refine FnOk.assume fun hok => ?_
  have hmb : (2 * (l.map Cell.enc).length + 192) * 56 ≤ 281474976710656 := by rw [List.length_map]; omega
  have hclo := clone_any clo50 (hA.ext [.row true 5 [c.enc]]) hmb (Cell.map_rens · l)
  refine FnOk.drop1 (esz := 5) (n := (withC l c).length) (ex := false) (cap := (withC l c).length) (b := .row true 5 ((withC l c).map Cell.enc)) ?_ (fun ρ => by rw [Blk.ren, Cell.map_rens])
  refine FnOk.of_WW Tryz.func195 rfl C195ok R195ok E0 good_E0 ?_
  simp only [go_sem, C195, Cell.enc]
  simp only [Cell.enc, List.length_map] at hclo
  refine CL.of hclo ?_
  rintro v G (⟨rfl, hn, rfl⟩ | ⟨rfl, rfl⟩)
  · exact absurd (congrArg List.length hn) (by rw [List.length_map, List.length_nil]; omega)
  have hins : ∀ i ≤ l.length, _ := fun i (hi : i ≤ l.length) => insert_own (H := H.ext [.row true 5 [c.enc], .row true 5 (l.map Cell.enc), .row true 5 [c.enc]]) ins51 (kv := H.key 2) (k := H.key 1) (x := c.enc) (i := i) (rows := l.map Cell.enc) (fun e => absurd (congrArg K.toNat e) (by rw [Heap.toNat_key, Heap.toNat_key]; omega)) (by rw [Heap.get_ext_key _ _ _ (by simp)]; rfl) (by rw [Heap.get_ext_key _ _ _ (by simp)]; rfl) (by rw [List.length_map]; omega) (by rw [List.length_map]; omega) (by rw [List.length_map]; omega) (by rw [List.length_map]; omega)
  simp only [Cell.enc, List.length_map] at hins
  simp only [go_sem, List.length_map]
  refine CL.bool (f166_ok c) (fun h1 => ?_) (fun h1 => ?_)
  · simp only [go_sem]
    rw [withC, if_pos h1]
    refine LL.st good_E0 (fun i : Nat => l.length - i) (fun i => i ≤ l.length ∧ ∀ j d, j < i → l[j]? = some d → ltS d.key c.key)
      (fun i => [((.o (.o .z)), .ptr (H.key 0) 0), ((.o (.i .z)), .slice (H.key 1) 0 l.length 5 false l.length), ((.i (.i .z)), .int .i64 i)])
      (fun i => [.row true 5 [c.enc], .row true 5 (l.map Cell.enc)]) ?_ 0 (σ := [0, 1]) (Wk.mk' rfl (by decide) (by simp only [go_sem, Cell.enc, Cell.map_rens]) (by simp only [go_sem, Cell.enc, Cell.map_rens])) ⟨by omega, by intro j d h; omega⟩
    rintro i ⟨hi, hno⟩
    have hins := hins i hi
    by_cases hlt : i < l.length
    · have hw := wrap_succ (n := i) (by omega)
      have hci : (i : Int) < (l.length : Int) := by omega
      have hsi : i + 1 ≤ l.length := by omega
      have hget : l[i]? = some l[i] := List.getElem?_eq_getElem hlt
      have hmi : (l.map Cell.enc)[i]? = some l[i].enc := by rw [List.getElem?_map, hget]; rfl
      simp only [go_sem, C195L0, hw, hci, hsi, hmi, hget, Cell.enc]
      refine ⟨fun h2 => ?_, fun h2 => ?_⟩
      · refine ⟨i + 1, by show l.length - (i + 1) < l.length - i; omega, ⟨by omega, ?_⟩, _, [0, 1], rfl, Wk.mk' rfl (by decide) (by simp only [go_sem, List.length_map, Cell.map_rens]) (by simp only [go_sem, List.length_map, Cell.map_rens])⟩
        intro j d hj hd
        rcases Nat.lt_or_ge j i with g | g
        · exact hno j d g hd
        · obtain rfl : j = i := by omega
          rw [hget] at hd; cases hd; exact h2
      · have hwl := withL_at l c i hno hi (fun d hd => by rw [hget] at hd; cases hd; exact h2)
        rw [hget] at hwl
        refine ⟨fun h3 => ?_, fun h3 => ?_⟩
        · rw [hwl]
          simp only [h3, if_true]
          have hlen : (List.take i l ++ c :: List.drop (i + 1) l).length = l.length := by rw [List.length_append, List.length_take, List.length_cons, List.length_drop]; omega
          rw [hlen]
          refine ⟨_, 1, rfl, rfl, ?_⟩
          rw [List.map_append, List.map_cons, List.map_take, List.map_drop]
          rw [show [AV.str c.key, AV.str c.value, AV.int .i64 c.ver, AV.bool c.del, AV.int .i64 c.floor] = c.enc from rfl, List.set_eq_take_append_cons_drop, if_pos (by rw [List.length_map]; exact hlt)]
          rfl
        · refine CL.of hins ?_
          rintro _ _ ⟨rfl, rfl⟩
          simp only [go_sem, List.length_map]
          rw [hwl]
          simp only [h3, if_false]
          have hlen : (List.take i l ++ c :: List.drop i l).length = l.length + 1 := by rw [List.length_append, List.length_take, List.length_cons, List.length_drop]; omega
          rw [hlen, Heap.set_ext_key _ _ _ _ (by simp), Heap.ext_append]
          refine ⟨_, 3, rfl, rfl, ?_⟩
          rw [List.map_append, List.map_cons]
          first | rw [List.map_take, List.map_drop] | rw [List.map_take, List.map_nil]
          rfl
    · have hci : ¬ (i : Int) < (l.length : Int) := by omega
      have hin : i = l.length := by omega
      have hnone : l[i]? = none := List.getElem?_eq_none (by omega)
      have hwl := withL_at l c i hno hi (fun d hd => by rw [hnone] at hd; cases hd)
      rw [hnone] at hwl
      simp only [go_sem, C195L0, List.length_map, hci, Cell.enc]
      refine CL.of hins ?_
      rintro _ _ ⟨rfl, rfl⟩
      simp only [go_sem, List.length_map]
      rw [hwl]
      have hlen : (List.take i l ++ [c]).length = l.length + 1 := by rw [List.length_append, List.length_take, List.length_cons, List.length_nil]; omega
      have hdr : List.drop i (l.map Cell.enc) = [] := List.drop_of_length_le (by rw [List.length_map]; omega)
      simp only [hdr]
      rw [hlen, Heap.set_ext_key _ _ _ _ (by simp), Heap.ext_append]
      refine ⟨_, 3, rfl, rfl, ?_⟩
      rw [List.map_append, List.map_cons]
      first | rw [List.map_take, List.map_drop] | rw [List.map_take, List.map_nil]
      rfl
  · simp only [go_sem]
    rw [withC, if_neg h1]
    exact ⟨_, 1, rfl, rfl, rfl⟩

end Go.Proofs
/- index: the reference way to put a cell in its place, walked. -/

set_option linter.all false
set_option maxRecDepth 100000
namespace Go.Proofs
open Go Go.Ev
variable {H : Heap}

theorem f195_ok {v : AV} {l : List Cell} (hA : Arr H 5 v (l.map Cell.enc)) (hl : l.length < 4294967295) (c : Cell) :
    FnOk Tryz.prog 195 [v, .agg c.enc] H fun r G => r = frV v H.nx 5 (withC l c).length ∧ G = H.ext (frL v 5 ((withC l c).map Cell.enc)) := by
  rcases hA.forms with ⟨rfl, hnil⟩ | ⟨k, off, ex, cap, rfl, _⟩
  · obtain rfl : l = [] := List.map_eq_nil_iff.1 hnil
    exact f195_nil
  · rcases Nat.eq_zero_or_pos l.length with h0 | h0
    · obtain rfl := List.length_eq_zero_iff.1 h0
      exact f195_zero
    · exact f195_arr hA h0 hl
noncomputable def stepW (c : Cell) (s : List Cell × Bool) (d : Cell) : List Cell × Bool :=
  let s' := if s.2 = false ∧ ¬ ltS d.key c.key then (s.1 ++ [c], true) else s
  (if d.key = c.key then s'.1 else s'.1 ++ [d], s'.2)
noncomputable def runW (c : Cell) (l : List Cell) : List Cell × Bool := l.foldl (stepW c) ([], false)
noncomputable def refW (l : List Cell) (c : Cell) : List Cell := if (runW c l).2 then (runW c l).1 else (runW c l).1 ++ [c]
end Go.Proofs
/- index: the law that both ways tell the same, walked. -/

set_option linter.all false
set_option maxRecDepth 100000
namespace Go.Proofs
open Go Go.Ev
variable {H : Heap}

theorem filter_all {c : Cell} : ∀ (l : List Cell) (a : List Cell), (∀ d ∈ l, d.key ≠ c.key) → l.foldl (stepW c) (a, true) = (a ++ l, true)
  | [], a, _ => by simp
  | d :: l, a, h => by
    have h1 := h d (by simp)
    rw [List.foldl_cons, show stepW c (a, true) d = (a ++ [d], true) by simp [stepW, h1], filter_all l _ fun x hx => h x (by simp [hx])]
    simp
theorem fold_withL {c : Cell} : ∀ (l : List Cell) (a : List Cell), List.Pairwise (fun x y => ltS x.key y.key) l → (if (l.foldl (stepW c) (a, false)).2 then (l.foldl (stepW c) (a, false)).1 else (l.foldl (stepW c) (a, false)).1 ++ [c]) = a ++ withL l c
  | [], a, _ => by simp [withL]
  | d :: l, a, h => by
    rw [List.pairwise_cons] at h
    rw [List.foldl_cons, withL]
    by_cases h1 : ltS d.key c.key
    · have hne : d.key ≠ c.key := fun e => ltS_irrefl _ (e ▸ h1)
      rw [show stepW c (a, false) d = (a ++ [d], false) by simp [stepW, h1, hne], fold_withL l _ h.2, if_pos h1]
      simp
    · rw [if_neg h1]
      by_cases h2 : d.key = c.key
      · rw [show stepW c (a, false) d = (a ++ [c], true) by simp [stepW, h2, ltS_irrefl], filter_all l _ (fun x hx e => ltS_irrefl _ (show ltS c.key c.key by have := h.1 x hx; rw [e, h2] at this; exact this)), if_pos h2]
        simp
      · have h3 : ltS c.key d.key := by rcases ltS_tri d.key c.key with g | g | g; exact absurd g h1; exact absurd g h2; exact g
        rw [show stepW c (a, false) d = (a ++ [c] ++ [d], true) by simp [stepW, h1, h2], filter_all l _ (fun x hx e => ltS_irrefl _ (show ltS c.key c.key by have := ltS_trans h3 (h.1 x hx); rw [e] at this; exact this)), if_neg h2]
        simp
theorem isIdx_pair {l : List Cell} (h : isIdx l) : List.Pairwise (fun x y => ltS x.key y.key) l := by
  have key : ∀ (n i : Nat) (c d : Cell), l[i]? = some c → l[i + n + 1]? = some d → ltS c.key d.key := by
    intro n
    induction n with
    | zero =>
      intro i c d hc hd
      obtain ⟨d', h1, _, h2⟩ := h (i + 1) (List.getElem?_eq_some_iff.1 hd).1
      rw [show i + 0 + 1 = i + 1 from rfl, h1] at hd; cases hd
      obtain ⟨c', h3, h4⟩ := h2 (by omega)
      rw [Nat.add_sub_cancel, hc] at h3; cases h3
      exact h4
    | succ n ih =>
      intro i c d hc hd
      have hi := (List.getElem?_eq_some_iff.1 hd).1
      obtain ⟨e, he⟩ : ∃ e, l[i + 1]? = some e := ⟨_, List.getElem?_eq_getElem (by omega)⟩
      obtain ⟨e', h1, _, h2⟩ := h (i + 1) (by omega)
      rw [he] at h1; cases h1
      obtain ⟨c', h3, h4⟩ := h2 (by omega)
      rw [Nat.add_sub_cancel, hc] at h3; cases h3
      exact ltS_trans h4 (ih (i + 1) e d he (by rw [← hd]; congr 1; omega))
  rw [List.pairwise_iff_getElem]
  intro i j hi hj hij
  exact key (j - i - 1) i _ _ (List.getElem?_eq_getElem hi) (by rw [show i + (j - i - 1) + 1 = j by omega]; exact List.getElem?_eq_getElem hj)
theorem refW_eq {l : List Cell} (h : isIdx l) (c : Cell) : refW l c = withL l c := fold_withL l [] (isIdx_pair h)
end Go.Proofs
/- once: numbers and texts as bytes, answers that may be: walked. -/


set_option linter.all false
set_option maxRecDepth 100000
namespace Go.Proofs
open Go Go.Ev
variable {H : Heap}

def byteV (b : Nat) : AV := .int .u8 (b : Int)
/-- a byte, in a cell -/
def byteC (b : Nat) : List AV := [byteV b]
theorem byteC_rens (ρ : K → K) (l : List Nat) : (l.map byteC).map (AV.rens ρ) = l.map byteC := by
  rw [List.map_map]
  refine List.map_congr_left fun j _ => ?_
  show [AV.ren ρ (.int .u8 (j : Int))] = _
  rw [AV.ren]; rfl
theorem byteC_ren1 (ρ : K → K) (b : Nat) : AV.rens ρ (byteC b) = byteC b := by show [AV.ren ρ (.int .u8 (b : Int))] = _; rw [AV.ren]; rfl
theorem bytesC_all {β : Type} : ∀ {l : List Nat} (_ : ∀ b ∈ l, b ≤ 255) (f : β) (c : List Nat → β), bytesC (l.map byteV) f c = c l
  | [], _, _, _ => rfl
  | b :: l, h, f, c => by
    show bif' (Nat.beq (kn .u8) 4) (bif' (Nat.ble b 255) (bytesC (l.map byteV) f fun r => c (b :: r)) f) f = _
    rw [show Nat.beq (kn .u8) 4 = true from rfl, bif_true, show Nat.ble b 255 = true by rw [Nat.ble_eq]; exact h b (by simp), bif_true]
    exact bytesC_all (fun x hx => h x (by simp [hx])) f _
theorem flat_bytes : ∀ l : List Nat, (l.map byteC).flatten = l.map byteV
  | [] => rfl
  | b :: l => by rw [List.map_cons, List.flatten_cons, flat_bytes l]; rfl
theorem read_bytes {β : Type} {l : List Nat} (h : 0 < l.length) (f : β) (c : List AV → β) : readC f 1 (l.map byteC) 0 l.length c = c (l.map byteV) := by
  match l, h with
  | b :: l, _ =>
    by_cases hl : l = []
    · subst hl
      simp only [List.map_cons, List.map_nil, List.length_cons, List.length_nil]
      rfl
    · have h1 : 0 < l.length := List.length_pos_iff.2 hl
      have h2 : ((b :: l).map byteC).flatten = (b :: l).map byteV := flat_bytes _
      unfold readC
      simp only [fN_eq, nthL_eq, Nat.zero_div, Nat.zero_mod, dropL_eq, List.drop_zero, flatL_eq, h2, takeC_eq, Nat.zero_add, List.length_map, Nat.le_refl, if_true]
      show bif' (Nat.beq 0 0 && Nat.beq (b :: l).length 1) (c [byteV b]) (bif' (Nat.ble (b :: l).length 1) (if (b :: l).length ≤ 1 then c _ else f) (c (List.take (b :: l).length _))) = _
      rw [show Nat.beq (b :: l).length 1 = false by rw [Bool.eq_false_iff]; intro e; rw [Nat.beq_eq] at e; simp at e; exact hl e, show Nat.ble (b :: l).length 1 = false by rw [Bool.eq_false_iff]; intro e; rw [Nat.ble_eq, List.length_cons] at e; omega]
      show c _ = c _
      rw [List.take_of_length_le (by rw [List.length_map]; exact Nat.le_refl _)]
theorem and63 {m : Nat} (h : m < 9223372036854775808) : IntKind.i64.wrap ((BitVec.ofInt IntKind.i64.bits (m : Int) &&& BitVec.ofInt IntKind.i64.bits 63).toNat : Int) = ((m % 64 : Nat) : Int) := by
  have h1 : (BitVec.ofInt IntKind.i64.bits (m : Int) &&& BitVec.ofInt IntKind.i64.bits 63).toNat = m % 64 := by
    rw [BitVec.toNat_and, BitVec.toNat_ofInt, BitVec.toNat_ofInt]
    show ((m : Int) % ((2 ^ 64 : Nat) : Int)).toNat &&& ((63 : Int) % ((2 ^ 64 : Nat) : Int)).toNat = _
    rw [show ((m : Int) % ((2 ^ 64 : Nat) : Int)).toNat = m by omega, show ((63 : Int) % ((2 ^ 64 : Nat) : Int)).toNat = 2 ^ 6 - 1 by decide, Nat.and_two_pow_sub_one_eq_mod]
  rw [h1]
  exact wrap_i64 (by omega) (by omega)
theorem or64 {r : Nat} (h : r < 64) : IntKind.i64.wrap ((BitVec.ofInt IntKind.i64.bits 64 ||| BitVec.ofInt IntKind.i64.bits (r : Int)).toNat : Int) = ((64 + r : Nat) : Int) := by
  have h1 : (BitVec.ofInt IntKind.i64.bits 64 ||| BitVec.ofInt IntKind.i64.bits (r : Int)).toNat = 64 + r := by
    rw [BitVec.toNat_or, BitVec.toNat_ofInt, BitVec.toNat_ofInt]
    show ((64 : Int) % ((2 ^ 64 : Nat) : Int)).toNat ||| ((r : Int) % ((2 ^ 64 : Nat) : Int)).toNat = _
    rw [show ((r : Int) % ((2 ^ 64 : Nat) : Int)).toNat = r by omega, show ((64 : Int) % ((2 ^ 64 : Nat) : Int)).toNat = 2 ^ 6 * 1 by decide]
    exact (Nat.two_pow_add_eq_or_of_lt (i := 6) h 1).symm
  rw [h1]
  exact wrap_i64 (by omega) (by omega)
theorem bin_and63 {β : Type} {P : Program} (ek : EK) (pk : Option (List LK)) (lit : Bool) {m : Nat} (h : m < 9223372036854775808) (f : β) (c : AV → β) : binV P ek pk lit .and (.int .i64 (m : Int)) (.int .i64 63) f c = c (.int .i64 ((m % 64 : Nat) : Int)) := by rw [bin_and, and63 h]
theorem bin_or64 {β : Type} {P : Program} (ek : EK) (pk : Option (List LK)) (lit : Bool) {r : Nat} (h : r < 64) (f : β) (c : AV → β) : binV P ek pk lit .or (.int .i64 64) (.int .i64 (r : Int)) f c = c (.int .i64 ((64 + r : Nat) : Int)) := by rw [bin_or, or64 h]
@[go_sem] theorem bin_shr6 {β : Type} {P : Program} (ek : EK) (pk : Option (List LK)) (lit : Bool) (a : Int) (f : β) (c : AV → β) : binV P ek pk lit .shr (.int .i64 a) (.int .u64 6) f c = c (.int .i64 (a.fdiv 64)) := bin_shr ek pk lit .i64 a f c .u64 6
/-- a number's bytes -/
def numT (n : Nat) : List Nat := if h : n < 64 then [n] else (64 + n % 64) :: numT (n / 64)
termination_by n
decreasing_by omega
theorem numT_lo {n : Nat} (h : n < 64) : numT n = [n] := by rw [numT, dif_pos h]
theorem numT_hi {n : Nat} (h : ¬ n < 64) : numT n = (64 + n % 64) :: numT (n / 64) := by rw [numT, dif_neg h]
theorem numT_len : ∀ (k n : Nat), n < 64 ^ (k + 1) → (numT n).length ≤ k + 1
  | 0, n, h => by rw [numT_lo (by simpa using h)]; simp
  | k + 1, n, h => by
    by_cases hn : n < 64
    · rw [numT_lo hn]; simp
    · rw [numT_hi hn, List.length_cons]
      have : n / 64 < 64 ^ (k + 1) := by
        rw [Nat.div_lt_iff_lt_mul (by decide)]
        rw [Nat.pow_succ] at h
        exact h
      have := numT_len k (n / 64) this
      omega
theorem numT_pos (n : Nat) : 0 < (numT n).length := by
  by_cases hn : n < 64
  · rw [numT_lo hn]; simp
  · rw [numT_hi hn]; simp
theorem numT_small {n : Nat} (h : n < 9223372036854775808) : (numT n).length ≤ 11 := numT_len 10 n (by omega)
theorem f37_ok {n : Nat} (hn : n < 9223372036854775808) : FnOk Tryz.prog 37 [.int .i64 (n : Int)] H fun r G => r = .str (numT n) ∧ G = H := by
  refine FnOk.drop (R := fun r => r = .str (numT n)) ?_ (by rintro v rfl ρ; rw [AV.ren])
  refine FnOk.of_WW Tryz.func37 rfl C37ok R37ok E0 good_E0 ?_
  have hmax : max (n : Int) 0 = (n : Int) := by omega
  simp only [go_sem, C37, hmax]
  refine LL.st good_E0 (fun s : Nat × List Nat => s.1) (fun s => s.1 ≤ n ∧ s.2 ++ numT s.1 = numT n ∧ ∀ b ∈ s.2, b ≤ 255)
    (fun s => [(.z, .int .i64 s.1), ((.o (.o .z)), outV (H.key 0) 1 s.2.length)]) (fun s => [outB 1 (s.2.map byteC)]) ?_ (n, []) (σ := [0]) (Wk.of rfl (by decide) (by simp only [go_sem]) (by simp only [go_sem, ↓outB_ren', ↓zB_ren, byteC_rens, byteC_ren1, implies_true])) ⟨Nat.le_refl _, rfl, by simp⟩
  rintro ⟨m, acc⟩ ⟨hm, hacc, hby⟩
  simp only at hm hacc hby
  have hlen := congrArg List.length hacc
  rw [List.length_append] at hlen
  have h11 := numT_small hn
  have hmp := numT_pos m
  by_cases hlt : m < 64
  · have hc : ¬ (64 : Int) ≤ (m : Int) := by omega
    have hw := wrap_u8 (m := m) (by omega)
    simp only [go_sem, ↓appR_hide, C37L0, hc, hw]
    refine RW_app _ (byteC m) rfl (List.length_map ..) rfl (okBig_le (by omega) (by decide)) ?_
    have hs : acc.map byteC ++ [byteC m] = (acc ++ [m]).map byteC := by rw [List.map_append]; rfl
    have hsl : (acc ++ [m]).length = acc.length + 1 := by rw [List.length_append]; rfl
    have hB := outB_pos (e := 1) (xs := (acc ++ [m]).map byteC) (by rw [List.length_map, hsl]; omega)
    have hrd := fun c => read_bytes (l := acc ++ [m]) (by omega) R1.fail c
    have hall := fun c => bytesC_all (l := acc ++ [m]) (fun b hb => by
      rcases List.mem_append.1 hb with h | h
      · exact hby b h
      · rw [List.mem_singleton] at h; omega) R1.fail c
    rw [hsl] at hrd
    rw [hs, hB]
    rw [numT_lo hlt] at hacc
    rw [hacc] at hall hrd ⊢
    simp only [go_sem, hrd, hall]
    exact ⟨_, rfl⟩
  · have hc : (64 : Int) ≤ (m : Int) := by omega
    have ha := fun f c => bin_and63 (β := R1) (P := Tryz.prog) .no none true (m := m) (by omega) f c
    have hr : m % 64 < 64 := Nat.mod_lt _ (by decide)
    have ho := fun f c => bin_or64 (β := R1) (P := Tryz.prog) .no none true hr f c
    have hu := wrap_u8 (m := 64 + m % 64) (by omega)
    have hs : Int.fdiv (m : Int) 64 = ((m / 64 : Nat) : Int) := by rw [Int.fdiv_eq_ediv_of_nonneg _ (by decide)]; omega
    simp only [go_sem, ↓appR_hide, C37L0, hc, ↓ha, ↓ho, hu, hs]
    refine RW_app _ (byteC (64 + m % 64)) rfl (List.length_map ..) rfl (okBig_le (by omega) (by decide)) ?_
    have hs2 : acc.map byteC ++ [byteC (64 + m % 64)] = (acc ++ [64 + m % 64]).map byteC := by rw [List.map_append]; rfl
    rw [hs2]
    simp only [go_sem, hs]
    refine ⟨(m / 64, acc ++ [64 + m % 64]), by show m / 64 < m; omega, ⟨by show m / 64 ≤ n; omega, ?_, ?_⟩, _, [2], rfl, Wk.of rfl (by decide) (by simp only [go_sem, outV_ren']) (by simp only [go_sem, ↓outB_ren', ↓zB_ren, byteC_rens, byteC_ren1, implies_true])⟩
    · show (acc ++ [64 + m % 64]) ++ numT (m / 64) = numT n
      rw [← hacc, numT_hi hlt, List.append_assoc]; rfl
    · intro b hb
      rcases List.mem_append.1 hb with h | h
      · exact hby b h
      · rw [List.mem_singleton] at h; omega
end Go.Proofs
/- once: texts as bytes, answers that may be: walked. -/

set_option linter.all false
set_option maxRecDepth 100000
namespace Go.Proofs
open Go Go.Ev
variable {H : Heap}

def textT (s : List Nat) : List Nat := numT s.length ++ s
theorem f39_ok {s : List Nat} (hs : s.length < 4611686018427387904) : FnOk Tryz.prog 39 [.str s] H fun r G => r = .str (textT s) ∧ G = H := by
  refine FnOk.drop (R := fun r => r = .str (textT s)) ?_ (by rintro v rfl ρ; rw [AV.ren])
  refine FnOk.of_WW Tryz.func39 rfl C39ok R39ok E0 good_E0 ?_
  have h := numT_small (n := s.length) (by omega)
  have hle : (numT s.length).length + s.length ≤ 9223372036854775807 := by omega
  simp only [go_sem, C39]
  refine CL.one (f37_ok (by omega)) ?_
  simp only [go_sem, hle]
  exact ⟨rfl, _, rfl⟩
/-- a row of an answer -/
structure Rw where
  k : List Nat
  v : List Nat
  ver : Int
def Rw.enc (r : Rw) : List AV := [.str r.k, .str r.v, .int .i64 r.ver]
theorem Rw.rens (ρ : K → K) (c : Rw) : AV.rens ρ c.enc = c.enc := by simp only [Rw.enc, AV.rens, AV.ren]
theorem Rw.map_rens (ρ : K → K) (l : List Rw) : (l.map Rw.enc).map (AV.rens ρ) = l.map Rw.enc := by
  rw [List.map_map]; exact List.map_congr_left fun c _ => Rw.rens ρ c
theorem Rw.enc_inj {c d : Rw} (h : c.k = d.k ∧ c.v = d.v ∧ c.ver = d.ver) : c = d := by cases c; cases d; simp_all
def badR (r : Rw) : Prop := (255 : Int) < (r.k.length : Int) ∨ (255 : Int) < (r.v.length : Int) ∨ r.ver < 0 ∨ (281474976710656 : Int) ≤ r.ver
instance (r : Rw) : Decidable (badR r) := inferInstanceAs (Decidable (_ ∨ _))
theorem f164_ok (c : Rw) : FnOk Tryz.prog 164 [.agg c.enc] H fun r G => r = .bool (decide (badR c)) ∧ G = H := by
  refine FnOk.drop (R := fun r => r = .bool (decide (badR c))) ?_ (by rintro v rfl ρ; rw [AV.ren])
  refine FnOk.of_WW Tryz.func164 rfl C164ok R164ok E0 good_E0 ?_
  simp only [go_sem, C164, Rw.enc]
  refine ⟨fun h => ⟨bool_t (.inl h), _, rfl⟩, fun h1 => ⟨fun h => ⟨bool_t (.inr (.inl h)), _, rfl⟩, fun h2 => ⟨fun h => ⟨bool_t (.inr (.inr (.inl h))), _, rfl⟩, fun h3 => ⟨fun h => ⟨bool_t (.inr (.inr (.inr h))), _, rfl⟩, fun h4 => ⟨bool_f ?_, _, rfl⟩⟩⟩⟩⟩
  rintro (h | h | h | h)
  · exact h1 h
  · exact h2 h
  · exact h3 h
  · exact h4 h
def anyBad (l : List Rw) : Prop := ∃ r ∈ l, badR r
noncomputable instance (l : List Rw) : Decidable (anyBad l) := Classical.propDecidable _
theorem f189_ok {v : AV} {l : List Rw} (hA : Arr H 3 v (l.map Rw.enc)) (hl : l.length ≤ 9223372036854775807) :
    FnOk Tryz.prog 189 [v, .fn (.func 164) [] []] H fun r G => (∃ n : Int, r = .int .i64 n ∧ (0 ≤ n ↔ anyBad l)) ∧ G = H := by
  refine FnOk.assume fun hok => ?_
  refine FnOk.drop (R := fun r => ∃ n : Int, r = .int .i64 n ∧ (0 ≤ n ↔ anyBad l)) ?_ (by rintro v ⟨n, rfl, _⟩ ρ; rw [AV.ren])
  refine FnOk.of_WW Tryz.func189 rfl C189ok R189ok E0 good_E0 ?_
  have hlen := fun G => hA.len G; simp only [List.length_map] at hlen; have hren := hA.ren
  simp only [go_sem, C189, hlen]
  refine LL.st good_E0 (fun i : Nat => l.length - i) (fun i => i ≤ l.length ∧ ∀ j d, j < i → l[j]? = some d → ¬ badR d)
    (fun i => [(.z, v), ((.o .z), .fn (.func 164) [] []), ((.i (.i .z)), v), ((.o (.o (.o .z))), .int .i64 l.length), ((.i (.o (.o .z))), .int .i64 i)]) (fun i => []) ?_ 0 (σ := []) (Wk.of rfl (by decide) (by simp only [go_sem, hren]) (by simp only [go_sem])) ⟨Nat.zero_le _, fun j d h => absurd h (Nat.not_lt_zero _)⟩
  rintro i ⟨hi, hno⟩
  by_cases hlt : i < l.length
  · obtain ⟨kk, r, ex', cap', wr, rows, hv, hrho, hgo, hrow⟩ := hA.at hok (j := i) (by rw [List.length_map]; exact hlt); simp only [List.length_map, List.getElem_map] at hv hrow; cases hv; have hget : l[i]? = some l[i] := List.getElem?_eq_getElem hlt; generalize l[i] = c at hrow hget; have hw := wrap_succ (n := i) (by omega); have hci : (i : Int) < (l.length : Int) := (by omega); have hsi : i + 1 ≤ l.length := (by omega)
    simp only [go_sem, C189L0, hci, hsi, hgo, hrow, hw, Rw.enc]
    refine CL.bool (f164_ok c) (fun g => ?_) (fun g => ?_)
    · simp only [go_sem]
      exact ⟨⟨_, rfl, fun _ => ⟨c, List.mem_of_getElem? hget, g⟩, fun _ => by omega⟩, _, rfl⟩
    · simp only [go_sem, hw]
      refine ⟨i + 1, by show l.length - (i + 1) < l.length - i; omega, ⟨by omega, fun j d hj hd => ?_⟩, _, [], rfl, Wk.of rfl (by decide) (by simp only [go_sem, hren, hrho, hw]) (by simp only [go_sem])⟩
      rcases Nat.lt_or_ge j i with h | h
      · exact hno j d h hd
      · obtain rfl : j = i := by omega
        rw [hget] at hd; cases hd; exact g
  · have hci : ¬ (i : Int) < (l.length : Int) := by omega
    simp only [go_sem, C189L0, hci]
    refine ⟨⟨_, rfl, fun h => absurd h (by decide), ?_⟩, _, rfl⟩
    rintro ⟨d, hd, hb⟩
    obtain ⟨j, hj⟩ := List.mem_iff_getElem?.1 hd
    exact absurd hb (hno j d (by have := (List.getElem?_eq_some_iff.1 hj).1; omega) hj)
theorem f165_ok {v : AV} {l : List Rw} (hA : Arr H 3 v (l.map Rw.enc)) (hl : l.length ≤ 9223372036854775807) :
    FnOk Tryz.prog 165 [v, .fn (.func 164) [] []] H fun r G => r = .bool (decide (anyBad l)) ∧ G = H := by
  refine FnOk.drop (R := fun r => r = .bool (decide (anyBad l))) ?_ (by rintro v rfl ρ; rw [AV.ren])
  refine FnOk.of_WW Tryz.func165 rfl C165ok R165ok E0 good_E0 ?_
  simp only [go_sem, C165]
  refine CL.of (f189_ok (hA.ext []) hl) ?_
  rintro _ _ ⟨⟨n, rfl, hn⟩, rfl⟩
  simp only [go_sem]
  exact ⟨fun h => ⟨bool_t (hn.1 h), [], rfl⟩, fun h => ⟨bool_f fun e => h (hn.2 e), [], rfl⟩⟩
/-- an answer, with where its rows lie -/
structure An where
  code : Int
  val : List Nat
  ver : Int
  rows : List Rw
  rv : AV
def An.enc (a : An) : List AV := [.int .i64 a.code, .str a.val, .int .i64 a.ver, a.rv]
def An.ok (H : Heap) (a : An) : Prop := Arr H 3 a.rv (a.rows.map Rw.enc) ∧ a.rows.length ≤ 9223372036854775807
theorem An.ok.ext {a : An} (h : a.ok H) (L : List Blk) : a.ok (H.ext L) := ⟨h.1.ext L, h.2⟩
def isAns (a : An) : Prop := (0 ≤ a.code ∧ a.code < 281474976710656 ∧ 0 ≤ a.ver ∧ a.ver < 281474976710656 ∧ (a.val.length : Int) ≤ 255) ∧ (a.rows.length : Int) ≤ 16 ∧ ¬ anyBad a.rows
noncomputable instance (a : An) : Decidable (isAns a) := Classical.propDecidable _
theorem f118_ok {a : An} (h : a.ok H) : FnOk Tryz.prog 118 [.agg a.enc] H fun r G => r = .bool (decide (isAns a)) ∧ G = H := by
  refine FnOk.drop (R := fun r => r = .bool (decide (isAns a))) ?_ (by rintro v rfl ρ; rw [AV.ren])
  refine FnOk.of_WW Tryz.func118 rfl C118ok R118ok E0 good_E0 ?_
  have hlen := fun G => h.1.len G
  simp only [List.length_map] at hlen
  simp only [go_sem, C118, An.enc, hlen]
  refine ⟨fun g => ⟨bool_f fun e => absurd e.1.1 (by omega), _, rfl⟩, fun g1 => ⟨fun g => ⟨bool_f fun e => absurd e.1.2.1 (by omega), _, rfl⟩, fun g2 => ⟨fun g => ⟨bool_f fun e => absurd e.1.2.2.1 (by omega), _, rfl⟩, fun g3 => ⟨fun g => ⟨bool_f fun e => absurd e.1.2.2.2.1 (by omega), _, rfl⟩, fun g4 => ⟨fun g => ⟨bool_f fun e => absurd e.1.2.2.2.2 (by omega), _, rfl⟩, fun g5 => ⟨fun g => ⟨bool_f fun e => absurd e.2.1 (by omega), _, rfl⟩, fun g6 => ?_⟩⟩⟩⟩⟩⟩
  refine CL.bool (f165_ok (h.1.ext _) h.2) (fun g7 => ?_) (fun g7 => ?_)
  · simp only [go_sem]
    exact ⟨bool_f fun e => e.2.2 g7, _, rfl⟩
  · simp only [go_sem]
    exact ⟨bool_t ⟨⟨by omega, by omega, by omega, by omega, by omega⟩, by omega, g7⟩, _, rfl⟩
end Go.Proofs
