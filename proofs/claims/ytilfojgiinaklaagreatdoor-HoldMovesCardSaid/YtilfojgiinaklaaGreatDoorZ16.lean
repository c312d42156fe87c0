/- Kinds of fields of types whose values are compared. -/
import Derived.Test.YtilfojgiinaklaaGreatDoorZ15
import Derived.Test.YtilfojgiinaklaaGreatDoorProg
import Derived.KernelRfl
set_option linter.all false
set_option maxRecDepth 100000
namespace Go.Proofs
open Go Go.Ev K
@[go_sem] theorem pk50 : plainK Tryz.prog 50 = some [LK.str, LK.str] := by kernel_rfl
@[go_sem] theorem pk68 : plainK Tryz.prog 68 = some [LK.int, LK.int] := by kernel_rfl
@[go_sem] theorem pk92 : plainK Tryz.prog 92 = some [LK.str, LK.str, LK.int, LK.bool, LK.int] := by kernel_rfl
@[go_sem] theorem pk94 : plainK Tryz.prog 94 = some [LK.str, LK.int, LK.str, LK.bool] := by kernel_rfl
@[go_sem] theorem pk111 : plainK Tryz.prog 111 = some [LK.str, LK.str, LK.bool] := by kernel_rfl
@[go_sem] theorem pk149 : plainK Tryz.prog 149 = some [LK.str, LK.str, LK.int] := by kernel_rfl
end Go.Proofs
/- The laid-out code of the functions that are walked. Printed by a program. -/

set_option linter.all false
set_option maxRecDepth 100000
namespace Go.Proofs
open Go Go.Ev K
noncomputable def C20 := mkC Tryz.prog Tryz.f20 21
theorem C20ok : CCok Tryz.prog Tryz.f20 21 C20 := mkC_ok _
@[go_sem] theorem call20 (a H) : callC Tryz.prog 20 a H = .call 20 a := callC_ok (by kernel_rfl) a H
theorem R20ok : resKs Tryz.prog Tryz.f20.results.toList = some [(RK.tmp z.o.i)] := by kernel_rfl

@[go_sem] theorem call43 (a H) : callC Tryz.prog 43 a H = .call 43 a := callC_ok (by kernel_rfl) a H
noncomputable def C58 := mkC Tryz.prog Tryz.f58 28
theorem C58ok : CCok Tryz.prog Tryz.f58 28 C58 := mkC_ok _
@[go_sem] theorem call58 (a H) : callC Tryz.prog 58 a H = .call 58 a := callC_ok (by kernel_rfl) a H
theorem R58ok : resKs Tryz.prog Tryz.f58.results.toList = some [(RK.tmp z.o.i)] := by kernel_rfl

@[go_sem] theorem call56 (a H) : callC Tryz.prog 56 a H = .call 56 a := callC_ok (by kernel_rfl) a H
noncomputable def C28 := mkC Tryz.prog Tryz.f28 23
theorem C28ok : CCok Tryz.prog Tryz.f28 23 C28 := mkC_ok _
@[go_sem] theorem call28 (a H) : callC Tryz.prog 28 a H = .call 28 a := callC_ok (by kernel_rfl) a H
theorem R28ok : resKs Tryz.prog Tryz.f28.results.toList = some [(RK.tmp z.i)] := by kernel_rfl

noncomputable def C30 := mkC Tryz.prog Tryz.f30 8
theorem C30ok : CCok Tryz.prog Tryz.f30 8 C30 := mkC_ok _
@[go_sem] theorem call30 (a H) : callC Tryz.prog 30 a H = .call 30 a := callC_ok (by kernel_rfl) a H
theorem R30ok : resKs Tryz.prog Tryz.f30.results.toList = some [(RK.tmp z.i)] := by kernel_rfl

noncomputable def C69 := mkC Tryz.prog Tryz.f69 53
theorem C69ok : CCok Tryz.prog Tryz.f69 53 C69 := mkC_ok _
@[go_sem] theorem call69 (a H) : callC Tryz.prog 69 a H = .call 69 a := callC_ok (by kernel_rfl) a H
theorem R69ok : resKs Tryz.prog Tryz.f69.results.toList = some [(RK.tmp z.i)] := by kernel_rfl

noncomputable def C86 := mkC Tryz.prog Tryz.f86 45
theorem C86ok : CCok Tryz.prog Tryz.f86 45 C86 := mkC_ok _
@[go_sem] theorem call86 (a H) : callC Tryz.prog 86 a H = .call 86 a := callC_ok (by kernel_rfl) a H
theorem R86ok : resKs Tryz.prog Tryz.f86.results.toList = some [(RK.cell z.o.o.i true 8), (RK.cell z.o.i.o true 4), (RK.tmp z.o.i.i)] := by kernel_rfl

noncomputable def C106 := mkC Tryz.prog Tryz.f106 23
theorem C106ok : CCok Tryz.prog Tryz.f106 23 C106 := mkC_ok _
@[go_sem] theorem call106 (a H) : callC Tryz.prog 106 a H = .call 106 a := callC_ok (by kernel_rfl) a H
theorem R106ok : resKs Tryz.prog Tryz.f106.results.toList = some [(RK.tmp z.i)] := by kernel_rfl

noncomputable def C107 := mkC Tryz.prog Tryz.f107 10
theorem C107ok : CCok Tryz.prog Tryz.f107 10 C107 := mkC_ok _
@[go_sem] theorem call107 (a H) : callC Tryz.prog 107 a H = .call 107 a := callC_ok (by kernel_rfl) a H
theorem R107ok : resKs Tryz.prog Tryz.f107.results.toList = some [(RK.tmp z.i)] := by kernel_rfl

noncomputable def C67 := mkC Tryz.prog Tryz.f67 65
theorem C67ok : CCok Tryz.prog Tryz.f67 65 C67 := mkC_ok _
@[go_sem] theorem call67 (a H) : callC Tryz.prog 67 a H = .call 67 a := callC_ok (by kernel_rfl) a H
theorem R67ok : resKs Tryz.prog Tryz.f67.results.toList = some [(RK.tmp z.i)] := by kernel_rfl

noncomputable def C72 := mkC Tryz.prog Tryz.f72 47
theorem C72ok : CCok Tryz.prog Tryz.f72 47 C72 := mkC_ok _
@[go_sem] theorem call72 (a H) : callC Tryz.prog 72 a H = .call 72 a := callC_ok (by kernel_rfl) a H
theorem R72ok : resKs Tryz.prog Tryz.f72.results.toList = some [(RK.tmp z.i)] := by kernel_rfl

@[go_sem] theorem call101 (a H) : callC Tryz.prog 101 a H = .call 101 a := callC_ok (by kernel_rfl) a H
@[go_sem] theorem call102 (a H) : callC Tryz.prog 102 a H = .call 102 a := callC_ok (by kernel_rfl) a H
@[go_sem] theorem call103 (a H) : callC Tryz.prog 103 a H = .call 103 a := callC_ok (by kernel_rfl) a H
@[go_sem] theorem call104 (a H) : callC Tryz.prog 104 a H = .call 104 a := callC_ok (by kernel_rfl) a H
noncomputable def C114 := mkC Tryz.prog Tryz.f114 10
theorem C114ok : CCok Tryz.prog Tryz.f114 10 C114 := mkC_ok _
@[go_sem] theorem call114 (a H) : callC Tryz.prog 114 a H = .call 114 a := callC_ok (by kernel_rfl) a H
theorem R114ok : resKs Tryz.prog Tryz.f114.results.toList = some [(RK.tmp z.o.o)] := by kernel_rfl

noncomputable def C115 := mkC Tryz.prog Tryz.f115 9
theorem C115ok : CCok Tryz.prog Tryz.f115 9 C115 := mkC_ok _
@[go_sem] theorem call115 (a H) : callC Tryz.prog 115 a H = .call 115 a := callC_ok (by kernel_rfl) a H
theorem R115ok : resKs Tryz.prog Tryz.f115.results.toList = some [(RK.tmp z.o.i)] := by kernel_rfl

noncomputable def C116 := mkC Tryz.prog Tryz.f116 37
theorem C116ok : CCok Tryz.prog Tryz.f116 37 C116 := mkC_ok _
@[go_sem] theorem call116 (a H) : callC Tryz.prog 116 a H = .call 116 a := callC_ok (by kernel_rfl) a H
theorem R116ok : resKs Tryz.prog Tryz.f116.results.toList = some [(RK.tmp z.o.i)] := by kernel_rfl

noncomputable def C117 := mkC Tryz.prog Tryz.f117 51
theorem C117ok : CCok Tryz.prog Tryz.f117 51 C117 := mkC_ok _
@[go_sem] theorem call117 (a H) : callC Tryz.prog 117 a H = .call 117 a := callC_ok (by kernel_rfl) a H
theorem R117ok : resKs Tryz.prog Tryz.f117.results.toList = some [(RK.tmp z.i)] := by kernel_rfl

noncomputable def C135 := mkC Tryz.prog Tryz.f135 43
theorem C135ok : CCok Tryz.prog Tryz.f135 43 C135 := mkC_ok _
@[go_sem] theorem call135 (a H) : callC Tryz.prog 135 a H = .call 135 a := callC_ok (by kernel_rfl) a H
theorem R135ok : resKs Tryz.prog Tryz.f135.results.toList = some [(RK.cell z.i.i true 4), (RK.tmp z.o.o.o)] := by kernel_rfl

noncomputable def C136 := mkC Tryz.prog Tryz.f136 61
theorem C136ok : CCok Tryz.prog Tryz.f136 61 C136 := mkC_ok _
@[go_sem] theorem call136 (a H) : callC Tryz.prog 136 a H = .call 136 a := callC_ok (by kernel_rfl) a H
theorem R136ok : resKs Tryz.prog Tryz.f136.results.toList = some [(RK.cell z.o.i true 8), (RK.cell z.i.o true 4)] := by kernel_rfl

noncomputable def C137 := mkC Tryz.prog Tryz.f137 11
theorem C137ok : CCok Tryz.prog Tryz.f137 11 C137 := mkC_ok _
@[go_sem] theorem call137 (a H) : callC Tryz.prog 137 a H = .call 137 a := callC_ok (by kernel_rfl) a H
theorem R137ok : resKs Tryz.prog Tryz.f137.results.toList = some [(RK.tmp z.i)] := by kernel_rfl

noncomputable def C138 := mkC Tryz.prog Tryz.f138 57
theorem C138ok : CCok Tryz.prog Tryz.f138 57 C138 := mkC_ok _
@[go_sem] theorem call138 (a H) : callC Tryz.prog 138 a H = .call 138 a := callC_ok (by kernel_rfl) a H
theorem R138ok : resKs Tryz.prog Tryz.f138.results.toList = some [(RK.tmp z.o.i)] := by kernel_rfl

noncomputable def C143 := mkC Tryz.prog Tryz.f143 59
theorem C143ok : CCok Tryz.prog Tryz.f143 59 C143 := mkC_ok _
@[go_sem] theorem call143 (a H) : callC Tryz.prog 143 a H = .call 143 a := callC_ok (by kernel_rfl) a H
theorem R143ok : resKs Tryz.prog Tryz.f143.results.toList = some [(RK.cell z.o.o.i true 8), (RK.cell z.o.i.o true 8), (RK.tmp z.o.i.i)] := by kernel_rfl

noncomputable def C111 := mkC Tryz.prog Tryz.f111 50
theorem C111ok : CCok Tryz.prog Tryz.f111 50 C111 := mkC_ok _
@[go_sem] theorem call111 (a H) : callC Tryz.prog 111 a H = .call 111 a := callC_ok (by kernel_rfl) a H
theorem R111ok : resKs Tryz.prog Tryz.f111.results.toList = some [(RK.tmp z.i)] := by kernel_rfl

noncomputable def C118 := mkC Tryz.prog Tryz.f118 40
theorem C118ok : CCok Tryz.prog Tryz.f118 40 C118 := mkC_ok _
@[go_sem] theorem call118 (a H) : callC Tryz.prog 118 a H = .call 118 a := callC_ok (by kernel_rfl) a H
theorem R118ok : resKs Tryz.prog Tryz.f118.results.toList = some [(RK.tmp z.i)] := by kernel_rfl

noncomputable def C152 := mkC Tryz.prog Tryz.f152 19
theorem C152ok : CCok Tryz.prog Tryz.f152 19 C152 := mkC_ok _
@[go_sem] theorem call152 (a H) : callC Tryz.prog 152 a H = .call 152 a := callC_ok (by kernel_rfl) a H
theorem R152ok : resKs Tryz.prog Tryz.f152.results.toList = some [(RK.tmp z.o.i)] := by kernel_rfl

noncomputable def C153 := mkC Tryz.prog Tryz.f153 31
theorem C153ok : CCok Tryz.prog Tryz.f153 31 C153 := mkC_ok _
@[go_sem] theorem call153 (a H) : callC Tryz.prog 153 a H = .call 153 a := callC_ok (by kernel_rfl) a H
theorem R153ok : resKs Tryz.prog Tryz.f153.results.toList = some [(RK.tmp z.i)] := by kernel_rfl

noncomputable def C154 := mkC Tryz.prog Tryz.f154 22
theorem C154ok : CCok Tryz.prog Tryz.f154 22 C154 := mkC_ok _
@[go_sem] theorem call154 (a H) : callC Tryz.prog 154 a H = .call 154 a := callC_ok (by kernel_rfl) a H
theorem R154ok : resKs Tryz.prog Tryz.f154.results.toList = some [(RK.cell z.o.i true 5), (RK.tmp z.i.o)] := by kernel_rfl

noncomputable def C155 := mkC Tryz.prog Tryz.f155 12
theorem C155ok : CCok Tryz.prog Tryz.f155 12 C155 := mkC_ok _
@[go_sem] theorem call155 (a H) : callC Tryz.prog 155 a H = .call 155 a := callC_ok (by kernel_rfl) a H
theorem R155ok : resKs Tryz.prog Tryz.f155.results.toList = some [(RK.tmp z.i)] := by kernel_rfl

noncomputable def C156 := mkC Tryz.prog Tryz.f156 8
theorem C156ok : CCok Tryz.prog Tryz.f156 8 C156 := mkC_ok _
@[go_sem] theorem call156 (a H) : callC Tryz.prog 156 a H = .call 156 a := callC_ok (by kernel_rfl) a H
theorem R156ok : resKs Tryz.prog Tryz.f156.results.toList = some [(RK.tmp z.o.o)] := by kernel_rfl

noncomputable def C157 := mkC Tryz.prog Tryz.f157 54
theorem C157ok : CCok Tryz.prog Tryz.f157 54 C157 := mkC_ok _
@[go_sem] theorem call157 (a H) : callC Tryz.prog 157 a H = .call 157 a := callC_ok (by kernel_rfl) a H
theorem R157ok : resKs Tryz.prog Tryz.f157.results.toList = some [(RK.tmp z.o.i)] := by kernel_rfl

noncomputable def C179 := mkC Tryz.prog Tryz.f179 28
theorem C179ok : CCok Tryz.prog Tryz.f179 28 C179 := mkC_ok _
@[go_sem] theorem call179 (a H) : callC Tryz.prog 179 a H = .call 179 a := callC_ok (by kernel_rfl) a H
theorem R179ok : resKs Tryz.prog Tryz.f179.results.toList = some [(RK.cell z.o.o.i true 8), (RK.cell z.o.i.o true 4)] := by kernel_rfl

end Go.Proofs
/- The laid-out code of the functions that are walked. Printed by a program. -/

set_option linter.all false
set_option maxRecDepth 100000
namespace Go.Proofs
open Go Go.Ev K
@[go_sem] theorem call184 (a H) : callC Tryz.prog 184 a H = .call 184 a := callC_ok (by kernel_rfl) a H
noncomputable def C185 := mkC Tryz.prog Tryz.f185 11
theorem C185ok : CCok Tryz.prog Tryz.f185 11 C185 := mkC_ok _
@[go_sem] theorem call185 (a H) : callC Tryz.prog 185 a H = .call 185 a := callC_ok (by kernel_rfl) a H
theorem R185ok : resKs Tryz.prog Tryz.f185.results.toList = some [(RK.tmp z.i)] := by kernel_rfl

noncomputable def C186 := mkC Tryz.prog Tryz.f186 9
theorem C186ok : CCok Tryz.prog Tryz.f186 9 C186 := mkC_ok _
@[go_sem] theorem call186 (a H) : callC Tryz.prog 186 a H = .call 186 a := callC_ok (by kernel_rfl) a H
theorem R186ok : resKs Tryz.prog Tryz.f186.results.toList = some [(RK.tmp z.i)] := by kernel_rfl

noncomputable def C187 := mkC Tryz.prog Tryz.f187 27
theorem C187ok : CCok Tryz.prog Tryz.f187 27 C187 := mkC_ok _
@[go_sem] theorem call187 (a H) : callC Tryz.prog 187 a H = .call 187 a := callC_ok (by kernel_rfl) a H
theorem R187ok : resKs Tryz.prog Tryz.f187.results.toList = some [(RK.cell z.o.i true 2), (RK.cell z.i.o true 2), (RK.tmp z.i.i)] := by kernel_rfl

noncomputable def C188 := mkC Tryz.prog Tryz.f188 41
theorem C188ok : CCok Tryz.prog Tryz.f188 41 C188 := mkC_ok _
@[go_sem] theorem call188 (a H) : callC Tryz.prog 188 a H = .call 188 a := callC_ok (by kernel_rfl) a H
theorem R188ok : resKs Tryz.prog Tryz.f188.results.toList = some [(RK.cell z.i.i true 8)] := by kernel_rfl

noncomputable def C189 := mkC Tryz.prog Tryz.f189 9
theorem C189ok : CCok Tryz.prog Tryz.f189 9 C189 := mkC_ok _
@[go_sem] theorem call189 (a H) : callC Tryz.prog 189 a H = .call 189 a := callC_ok (by kernel_rfl) a H
theorem R189ok : resKs Tryz.prog Tryz.f189.results.toList = some [(RK.tmp z.o.i)] := by kernel_rfl

noncomputable def C191 := mkC Tryz.prog Tryz.f191 11
theorem C191ok : CCok Tryz.prog Tryz.f191 11 C191 := mkC_ok _
@[go_sem] theorem call191 (a H) : callC Tryz.prog 191 a H = .call 191 a := callC_ok (by kernel_rfl) a H
theorem R191ok : resKs Tryz.prog Tryz.f191.results.toList = some [(RK.cell z.i.i true 8)] := by kernel_rfl

noncomputable def C192 := mkC Tryz.prog Tryz.f192 61
theorem C192ok : CCok Tryz.prog Tryz.f192 61 C192 := mkC_ok _
@[go_sem] theorem call192 (a H) : callC Tryz.prog 192 a H = .call 192 a := callC_ok (by kernel_rfl) a H
theorem R192ok : resKs Tryz.prog Tryz.f192.results.toList = some [(RK.tmp z.i.i), (RK.tmp z.o.o.o)] := by kernel_rfl

noncomputable def C193 := mkC Tryz.prog Tryz.f193 36
theorem C193ok : CCok Tryz.prog Tryz.f193 36 C193 := mkC_ok _
@[go_sem] theorem call193 (a H) : callC Tryz.prog 193 a H = .call 193 a := callC_ok (by kernel_rfl) a H
theorem R193ok : resKs Tryz.prog Tryz.f193.results.toList = some [(RK.tmp z.i)] := by kernel_rfl

noncomputable def C194 := mkC Tryz.prog Tryz.f194 36
theorem C194ok : CCok Tryz.prog Tryz.f194 36 C194 := mkC_ok _
@[go_sem] theorem call194 (a H) : callC Tryz.prog 194 a H = .call 194 a := callC_ok (by kernel_rfl) a H
theorem R194ok : resKs Tryz.prog Tryz.f194.results.toList = some [(RK.tmp z.i)] := by kernel_rfl

noncomputable def C158 := mkC Tryz.prog Tryz.f158 23
theorem C158ok : CCok Tryz.prog Tryz.f158 23 C158 := mkC_ok _
@[go_sem] theorem call158 (a H) : callC Tryz.prog 158 a H = .call 158 a := callC_ok (by kernel_rfl) a H
theorem R158ok : resKs Tryz.prog Tryz.f158.results.toList = some [(RK.tmp z.i)] := by kernel_rfl

noncomputable def C159 := mkC Tryz.prog Tryz.f159 9
theorem C159ok : CCok Tryz.prog Tryz.f159 9 C159 := mkC_ok _
@[go_sem] theorem call159 (a H) : callC Tryz.prog 159 a H = .call 159 a := callC_ok (by kernel_rfl) a H
theorem R159ok : resKs Tryz.prog Tryz.f159.results.toList = some [(RK.tmp z.o.i)] := by kernel_rfl

noncomputable def C197 := mkC Tryz.prog Tryz.f197 24
theorem C197ok : CCok Tryz.prog Tryz.f197 24 C197 := mkC_ok _
@[go_sem] theorem call197 (a H) : callC Tryz.prog 197 a H = .call 197 a := callC_ok (by kernel_rfl) a H
theorem R197ok : resKs Tryz.prog Tryz.f197.results.toList = some [(RK.tmp z.i)] := by kernel_rfl

noncomputable def C198 := mkC Tryz.prog Tryz.f198 31
theorem C198ok : CCok Tryz.prog Tryz.f198 31 C198 := mkC_ok _
@[go_sem] theorem call198 (a H) : callC Tryz.prog 198 a H = .call 198 a := callC_ok (by kernel_rfl) a H
theorem R198ok : resKs Tryz.prog Tryz.f198.results.toList = some [(RK.tmp z.o.o.i)] := by kernel_rfl

noncomputable def C210 := mkC Tryz.prog Tryz.f210 57
theorem C210ok : CCok Tryz.prog Tryz.f210 57 C210 := mkC_ok _
@[go_sem] theorem call210 (a H) : callC Tryz.prog 210 a H = .call 210 a := callC_ok (by kernel_rfl) a H
theorem R210ok : resKs Tryz.prog Tryz.f210.results.toList = some [(RK.cell z.o.o.i true 8), (RK.cell z.o.i.o true 5), (RK.tmp z.o.i.i)] := by kernel_rfl

@[go_sem] theorem call211 (a H) : callC Tryz.prog 211 a H = .call 211 a := callC_ok (by kernel_rfl) a H
noncomputable def C218 := mkC Tryz.prog Tryz.f218 24
theorem C218ok : CCok Tryz.prog Tryz.f218 24 C218 := mkC_ok _
@[go_sem] theorem call218 (a H) : callC Tryz.prog 218 a H = .call 218 a := callC_ok (by kernel_rfl) a H
theorem R218ok : resKs Tryz.prog Tryz.f218.results.toList = some [(RK.tmp z.o.i)] := by kernel_rfl

noncomputable def C219 := mkC Tryz.prog Tryz.f219 27
theorem C219ok : CCok Tryz.prog Tryz.f219 27 C219 := mkC_ok _
@[go_sem] theorem call219 (a H) : callC Tryz.prog 219 a H = .call 219 a := callC_ok (by kernel_rfl) a H
theorem R219ok : resKs Tryz.prog Tryz.f219.results.toList = some [(RK.tmp z.o.i)] := by kernel_rfl

noncomputable def C220 := mkC Tryz.prog Tryz.f220 27
theorem C220ok : CCok Tryz.prog Tryz.f220 27 C220 := mkC_ok _
@[go_sem] theorem call220 (a H) : callC Tryz.prog 220 a H = .call 220 a := callC_ok (by kernel_rfl) a H
theorem R220ok : resKs Tryz.prog Tryz.f220.results.toList = some [(RK.tmp z.o.i)] := by kernel_rfl

noncomputable def C199 := mkC Tryz.prog Tryz.f199 19
theorem C199ok : CCok Tryz.prog Tryz.f199 19 C199 := mkC_ok _
@[go_sem] theorem call199 (a H) : callC Tryz.prog 199 a H = .call 199 a := callC_ok (by kernel_rfl) a H
theorem R199ok : resKs Tryz.prog Tryz.f199.results.toList = some [(RK.tmp z.o.i)] := by kernel_rfl

noncomputable def C223 := mkC Tryz.prog Tryz.f223 19
theorem C223ok : CCok Tryz.prog Tryz.f223 19 C223 := mkC_ok _
@[go_sem] theorem call223 (a H) : callC Tryz.prog 223 a H = .call 223 a := callC_ok (by kernel_rfl) a H
theorem R223ok : resKs Tryz.prog Tryz.f223.results.toList = some [(RK.cell z.o.i true 5), (RK.cell z.i.o true 4), (RK.tmp z.i.i)] := by kernel_rfl

noncomputable def C225 := mkC Tryz.prog Tryz.f225 20
theorem C225ok : CCok Tryz.prog Tryz.f225 20 C225 := mkC_ok _
@[go_sem] theorem call225 (a H) : callC Tryz.prog 225 a H = .call 225 a := callC_ok (by kernel_rfl) a H
theorem R225ok : resKs Tryz.prog Tryz.f225.results.toList = some [(RK.tmp z.o.o.i), (RK.tmp z.o.i.o)] := by kernel_rfl

noncomputable def C226 := mkC Tryz.prog Tryz.f226 53
theorem C226ok : CCok Tryz.prog Tryz.f226 53 C226 := mkC_ok _
@[go_sem] theorem call226 (a H) : callC Tryz.prog 226 a H = .call 226 a := callC_ok (by kernel_rfl) a H
theorem R226ok : resKs Tryz.prog Tryz.f226.results.toList = some [(RK.tmp z.o.i)] := by kernel_rfl

noncomputable def C230 := mkC Tryz.prog Tryz.f230 31
theorem C230ok : CCok Tryz.prog Tryz.f230 31 C230 := mkC_ok _
@[go_sem] theorem call230 (a H) : callC Tryz.prog 230 a H = .call 230 a := callC_ok (by kernel_rfl) a H
theorem R230ok : resKs Tryz.prog Tryz.f230.results.toList = some [(RK.cell z.i.i true 5), (RK.cell z.o.o.o true 4), (RK.tmp z.o.o.i)] := by kernel_rfl

@[go_sem] theorem call231 (a H) : callC Tryz.prog 231 a H = .call 231 a := callC_ok (by kernel_rfl) a H
end Go.Proofs
/- Small functions of keys, spans, cells, walked. -/

set_option linter.all false
set_option maxRecDepth 100000
namespace Go.Proofs
open Go Go.Ev
variable {H : Heap}
theorem bool_t {p : Prop} [Decidable p] (h : p) : AV.bool true = .bool (decide p) := by rw [decide_eq_true h]
theorem bool_f {p : Prop} [Decidable p] (h : ¬p) : AV.bool false = .bool (decide p) := by rw [decide_eq_false h]
def isKey (k : List Nat) : Prop := ¬ k = [] ∧ (k.length : Int) ≤ 8
instance (k : List Nat) : Decidable (isKey k) := inferInstanceAs (Decidable (_ ∧ _))
theorem f107_ok (k : List Nat) : FnOk Tryz.prog 107 [.str k] H fun v G => v = .bool (decide (isKey k)) ∧ G = H := by
  refine FnOk.of_WW Tryz.func107 rfl C107ok R107ok E0 good_E0 ?_
  simp only [go_sem, C107]
  repeat' (first | apply And.intro | intro _)
  all_goals first | exact Heap.ext_nil H | simp_all [isKey]
def isSpan (f t : List Nat) : Prop := (f.length : Int) ≤ 8 ∧ (t.length : Int) ≤ 8 ∧ (t = [] ∨ ltS f t)
noncomputable instance (f t : List Nat) : Decidable (isSpan f t) := inferInstanceAs (Decidable (_ ∧ _))
theorem f106_ok (f t : List Nat) : FnOk Tryz.prog 106 [.agg [.str f, .str t]] H fun v G => v = .bool (decide (isSpan f t)) ∧ G = H := by
  refine FnOk.drop (R := fun v => v = .bool (decide (isSpan f t))) ?_ (by rintro v rfl ρ; rw [AV.ren])
  refine FnOk.of_WW Tryz.func106 rfl C106ok R106ok E0 good_E0 ?_
  simp only [go_sem, C106, not_leS]
  repeat' (first | apply And.intro | intro _)
  all_goals first | exact ⟨_, rfl⟩ | exact bool_t (by unfold isSpan; grind) | exact bool_f (by unfold isSpan; grind)
def mayBe (k v : List Nat) (n : Int) (d : Bool) : Prop := isKey k ∧ (v.length : Int) ≤ 12 ∧ (d = true → v = []) ∧ 1 ≤ n ∧ n ≤ 1000000000000
instance (k v : List Nat) (n : Int) (d : Bool) : Decidable (mayBe k v n d) := inferInstanceAs (Decidable (_ ∧ _))
theorem f198_ok (f t : List Nat) (v : Int) (d : Bool) : FnOk Tryz.prog 198 [.str f, .str t, .int .i64 v, .bool d] H fun r G => r = .bool (decide (mayBe f t v d)) ∧ G = H := by
  refine FnOk.of_WW Tryz.func198 rfl C198ok R198ok E0 good_E0 ?_
  cases d
  all_goals simp only [go_sem, C198]
  all_goals refine CL.bool (f107_ok _) (fun h1 => ?_) (fun h1 => ?_)
  all_goals simp only [go_sem]
  all_goals repeat' (first | apply And.intro | intro _)
  all_goals first | exact Heap.ext_nil H | exact bool_t (by unfold mayBe; grind) | exact bool_f (by unfold mayBe; grind)

structure Cell where
  key : List Nat
  value : List Nat
  ver : Int
  del : Bool
  floor : Int
  deriving DecidableEq
def Cell.enc (c : Cell) : List AV := [.str c.key, .str c.value, .int .i64 c.ver, .bool c.del, .int .i64 c.floor]
@[go_sem] theorem Cell.rens (ρ : K → K) (c : Cell) : AV.rens ρ c.enc = c.enc := by simp only [Cell.enc, AV.rens, AV.ren]
theorem Cell.map_rens (ρ : K → K) (l : List Cell) : (l.map Cell.enc).map (AV.rens ρ) = l.map Cell.enc := by
  rw [List.map_map]; exact List.map_congr_left fun c _ => Cell.rens ρ c
def has (f t k : List Nat) : Prop := isSpan f t ∧ isKey k ∧ ¬ ltS k f ∧ (t = [] ∨ ltS k t)
noncomputable instance (f t k : List Nat) : Decidable (has f t k) := inferInstanceAs (Decidable (_ ∧ _))
theorem f58_ok (f t k : List Nat) : FnOk Tryz.prog 58 [.agg [.str f, .str t], .str k] H fun v G => v = .bool (decide (has f t k)) ∧ G = H := by
  refine FnOk.drop (R := fun v => v = .bool (decide (has f t k))) ?_ (by rintro v rfl ρ; rw [AV.ren])
  refine FnOk.of_WW Tryz.func58 rfl C58ok R58ok E0 good_E0 ?_
  simp only [go_sem, C58]
  refine CL.bool (f106_ok _ _) (fun h1 => ?_) (fun h1 => ?_)
  all_goals simp only [go_sem]
  · refine CL.bool (f107_ok _) (fun h2 => ?_) (fun h2 => ?_)
    all_goals simp only [go_sem]
    all_goals repeat' (first | apply And.intro | intro _)
    all_goals first | exact ⟨_, rfl⟩ | exact bool_t (by unfold has; grind) | exact bool_f (by unfold has; grind)
  · exact ⟨bool_f (by unfold has; grind), _, rfl⟩
def cellIs (c : Cell) : Prop := mayBe c.key c.value c.ver c.del ∧ 0 ≤ c.floor ∧ c.floor ≤ c.ver
instance (c : Cell) : Decidable (cellIs c) := inferInstanceAs (Decidable (_ ∧ _))
theorem f197_ok (c : Cell) : FnOk Tryz.prog 197 [.agg c.enc] H fun v G => v = .bool (decide (cellIs c)) ∧ G = H := by
  refine FnOk.drop (R := fun v => v = .bool (decide (cellIs c))) ?_ (by rintro v rfl ρ; rw [AV.ren])
  refine FnOk.of_WW Tryz.func197 rfl C197ok R197ok E0 good_E0 ?_
  simp only [go_sem, C197, Cell.enc]
  refine CL.bool (f198_ok _ _ _ _) (fun h1 => ?_) (fun h1 => ?_)
  all_goals simp only [go_sem]
  all_goals repeat' (first | apply And.intro | intro _)
  all_goals first | exact ⟨_, rfl⟩ | exact bool_t (by unfold cellIs; grind) | exact bool_f (by unfold cellIs; grind)
end Go.Proofs
/- index: Get, walked. -/

set_option linter.all false
set_option maxRecDepth 100000
namespace Go.Proofs
open Go Go.Ev
variable {H : Heap}
def Cell.zero : Cell := ⟨[], [], 0, false, 0⟩
def getL (l : List Cell) (key : List Nat) : Cell × Bool := match l with
  | [] => (⟨key, [], 0, false, 0⟩, false)
  | c :: l => if c.key = key then (c, true) else getL l key
theorem getL_at {key : List Nat} : ∀ {l : List Cell} {i : Nat} {c : Cell}, (∀ x ∈ l.take i, x.key ≠ key) → l[i]? = some c → c.key = key → getL l key = (c, true)
  | [], i, c, _, h, _ => by simp at h
  | x :: l, 0, c, _, h, hc => by simp at h; subst h; rw [getL, if_pos hc]
  | x :: l, i + 1, c, hn, h, hc => by
    rw [getL, if_neg (hn x (by simp))]
    exact getL_at (i := i) (fun y hy => hn y (by simp [hy])) (by simpa using h) hc
theorem getL_none {key : List Nat} : ∀ {l : List Cell}, (∀ x ∈ l, x.key ≠ key) → getL l key = (⟨key, [], 0, false, 0⟩, false)
  | [], _ => rfl
  | x :: l, h => by rw [getL, if_neg (h x (by simp))]; exact getL_none fun y hy => h y (by simp [hy])
theorem take_all {α : Type} {l : List α} {i : Nat} (h : l.length ≤ i) : l.take i = l := List.take_of_length_le h
theorem take_next {α : Type} {l : List α} {i : Nat} {c : α} (h : l[i]? = some c) : l.take (i + 1) = l.take i ++ [c] := by
  rw [List.take_succ, h]; rfl


theorem f154_ok {v : AV} {l : List Cell} (hA : Arr H 5 v (l.map Cell.enc)) (hl : l.length < 4294967296) (key : List Nat) :
    FnOk Tryz.prog 154 [v, .str key] H fun r G => r = .tup [.agg (getL l key).1.enc, .bool (getL l key).2] ∧ G = H := by
  refine FnOk.assume fun hok => ?_
  refine FnOk.drop (R := fun r => r = .tup [.agg (getL l key).1.enc, .bool (getL l key).2]) ?_ (by rintro v rfl ρ; simp only [AV.ren, AV.rens, Cell.rens])
  refine FnOk.of_WW Tryz.func154 rfl C154ok R154ok E0 good_E0 ?_
  rcases hA.forms with ⟨rfl, hnil⟩ | ⟨k, off, ex, cap, rfl, hrho⟩
  · have hn0 : l.length = 0 := by simpa using hnil
    simp only [go_sem, C154]
    refine LL.st good_E0 (fun i : Nat => l.length - i) (fun i => i ≤ l.length ∧ ∀ x ∈ l.take i, x.key ≠ key)
      (fun i => [(.o .z, .str key), (.i (.o .z), .ptr (H.key 0) 0), (.i (.o (.o .z)), .nils), (.o (.i (.o .z)), .int .i64 l.length), (.i (.i (.o .z)), .int .i64 i)])
      (fun i => [.row true 5 [[.str [], .str [], .int .i64 0, .bool false, .int .i64 0]]]) ?_ 0 (σ := [0]) (Wk.mk' rfl (by decide) (by simp only [go_sem, List.length_map, hn0]) (by simp only [go_sem, List.length_map, hn0])) ⟨by omega, by simp⟩
    rintro i ⟨hi, hno⟩
    by_cases hlt : i < l.length
    · exact absurd hlt (by omega)
    · have hci : ¬ (i : Int) < (l.length : Int) := by omega
      have := getL_none (l := l) (key := key) (by rw [take_all (by omega)] at hno; exact hno)
      simp only [go_sem, hci]
      rw [this]
      exact ⟨rfl, _, rfl⟩
  · have hn0 : True := trivial
    simp only [go_sem, C154]
    refine LL.st good_E0 (fun i : Nat => l.length - i) (fun i => i ≤ l.length ∧ ∀ x ∈ l.take i, x.key ≠ key)
      (fun i => [(.o .z, .str key), (.i (.o .z), .ptr (H.key 0) 0), (.i (.o (.o .z)), .slice k off (l.map Cell.enc).length 5 ex cap), (.o (.i (.o .z)), .int .i64 l.length), (.i (.i (.o .z)), .int .i64 i)])
      (fun i => [.row true 5 [[.str [], .str [], .int .i64 0, .bool false, .int .i64 0]]]) ?_ 0 (σ := [0]) (Wk.mk' rfl (by decide) (by simp only [go_sem, List.length_map, hrho]) (by simp only [go_sem, List.length_map, hrho])) ⟨by omega, by simp⟩
    rintro i ⟨hi, hno⟩
    by_cases hlt : i < l.length
    · obtain ⟨kk, r, ex', cap', wr, rows, hv, hk, hg, _, hat⟩ := hA.pick (j := i) (by simpa using hlt)
      have hrow := hat i (by simpa using hlt)
      have hgo := Heap.get_ext_old hok hg
      have hw := wrap_succ (n := i) (by omega)
      have hci : (i : Int) < (l.length : Int) := by omega
      have hsi : i + 1 ≤ l.length := by omega
      cases hv
      simp only [go_sem, List.length_map, hw, hgo, hrow, hci, hsi, List.getElem?_eq_getElem hlt, Cell.enc]
      have hget : l[i]? = some l[i] := List.getElem?_eq_getElem hlt
      refine ⟨fun he => ?_, fun he => ?_⟩
      · have := getL_at hno hget he
        rw [this]
        exact ⟨rfl, _, rfl⟩
      · refine ⟨i + 1, by show l.length - (i + 1) < l.length - i; omega, ⟨by omega, ?_⟩, _, [0], rfl, Wk.mk' rfl (by decide) (by simp only [go_sem, hrho, List.length_map]) (by simp only [go_sem, hrho, List.length_map])⟩
        rw [take_next hget]
        intro x hx
        rcases List.mem_append.1 hx with h | h
        · exact hno x h
        · simp only [List.mem_singleton] at h; subst h; exact he
    · have hci : ¬ (i : Int) < (l.length : Int) := by omega
      have := getL_none (l := l) (key := key) (by rw [take_all (by omega)] at hno; exact hno)
      simp only [go_sem, hci]
      rw [this]
      exact ⟨rfl, _, rfl⟩
end Go.Proofs
/- index: loops that only read, walked. -/

set_option linter.all false
set_option maxRecDepth 100000
namespace Go.Proofs
open Go Go.Ev
variable {H : Heap}

def few (l : List Cell) : Prop := (∀ c ∈ l, (c.key.length : Int) ≤ 20 ∧ (c.value.length : Int) ≤ 40) ∧ (l.length : Int) ≤ 30
instance (l : List Cell) : Decidable (few l) := inferInstanceAs (Decidable (_ ∧ _))

end Go.Proofs
/- index: the order of cells, walked. -/

set_option linter.all false
set_option maxRecDepth 100000
namespace Go.Proofs
open Go Go.Ev
variable {H : Heap}

def okAt (l : List Cell) (j : Nat) : Prop := ∃ c, l[j]? = some c ∧ cellIs c ∧ (0 < j → ∃ d, l[j - 1]? = some d ∧ ltS d.key c.key)
def isIdx (l : List Cell) : Prop := ∀ j, j < l.length → okAt l j
noncomputable instance (l : List Cell) : Decidable (isIdx l) := Classical.propDecidable _

theorem f153_ok {v : AV} {l : List Cell} (hA : Arr H 5 v (l.map Cell.enc)) (hl : l.length < 4294967296) :
    FnOk Tryz.prog 153 [v] H fun r G => r = .bool (decide (isIdx l)) ∧ G = H := by
  refine FnOk.assume fun hok => ?_
  refine FnOk.drop (R := fun r => r = .bool (decide (isIdx l))) ?_ (by rintro v rfl ρ; rw [AV.ren])
  refine FnOk.of_WW Tryz.func153 rfl C153ok R153ok E0 good_E0 ?_
  rcases hA.forms with ⟨rfl, hnil⟩ | ⟨k, off, ex, cap, rfl, hrho⟩
  · have hn0 : l.length = 0 := by simpa using hnil
    simp only [go_sem, C153]
    refine LL.st good_E0 (fun i : Nat => l.length - i) (fun i => i ≤ l.length ∧ ∀ j, j < i → okAt l j)
      (fun i => [(.z, .nils), ((.o (.i .z)), .nils), ((.i (.i .z)), .int .i64 l.length), ((.o (.o (.o .z))), .int .i64 i)])
      (fun i => []) ?_ 0 (σ := []) (Wk.mk' rfl (by decide) (by simp only [go_sem, List.length_map, hn0]) (by simp only [go_sem, List.length_map, hn0])) ⟨by omega, by simp⟩
    rintro i ⟨hi, hno⟩
    by_cases hlt : i < l.length
    · exact absurd hlt (by omega)
    · have hci : ¬ (i : Int) < (l.length : Int) := by omega
      simp only [go_sem, List.length_map, hci, show ¬ (i : Int) < 0 by omega]
      exact ⟨bool_t fun j hj => hno j (by omega), _, rfl⟩
  · simp only [go_sem, C153]
    refine LL.st good_E0 (fun i : Nat => l.length - i) (fun i => i ≤ l.length ∧ ∀ j, j < i → okAt l j)
      (fun i => [(.z, .slice k off (l.map Cell.enc).length 5 ex cap), ((.o (.i .z)), .slice k off (l.map Cell.enc).length 5 ex cap), ((.i (.i .z)), .int .i64 l.length), ((.o (.o (.o .z))), .int .i64 i)])
      (fun i => []) ?_ 0 (σ := []) (Wk.mk' rfl (by decide) (by simp only [go_sem, List.length_map, hrho]) (by simp only [go_sem, List.length_map, hrho])) ⟨by omega, by simp⟩
    rintro i ⟨hi, hno⟩
    by_cases hlt : i < l.length
    · obtain ⟨kk, r, ex', cap', wr, rows, hv, hk, hg, _, hat⟩ := hA.pick (j := i) (by simpa using hlt)
      have hrow := hat i (by simpa using hlt)
      have hgo := Heap.get_ext_old hok hg
      have hw := wrap_succ (n := i) (by omega)
      have hci : (i : Int) < (l.length : Int) := by omega
      have hsi : i + 1 ≤ l.length := by omega
      have hget : l[i]? = some l[i] := List.getElem?_eq_getElem hlt
      cases hv
      have hbad : ¬ okAt l i → ¬ isIdx l := fun h g => h (g i hlt)
      simp only [go_sem, List.length_map, hw, hgo, hrow, hci, hsi, List.getElem?_eq_getElem hlt, Cell.enc]
      refine CL.bool (f197_ok l[i]) (fun h1 => ?_) (fun h1 => ?_)
      · rcases Nat.eq_zero_or_pos i with h0 | h0
        · subst h0
          have hw0 : IntKind.i64.wrap (0 + 1) = ((0 + 1 : Nat) : Int) := rfl
          simp only [go_sem, List.length_map, hw, hgo, hrow, hci, hsi, List.getElem?_eq_getElem hlt, Cell.enc, Int.lt_irrefl, Int.ofNat_zero, hw0]
          refine ⟨0 + 1, by show l.length - (0 + 1) < l.length - 0; omega, ?_, _, [], rfl, Wk.mk' rfl (by decide) (by simp only [go_sem, hrho, List.length_map]) (by simp only [go_sem, hrho, List.length_map])⟩
          refine ⟨by omega, fun j hj => ?_⟩
          obtain rfl : j = 0 := by omega
          exact ⟨_, hget, h1, fun h => absurd h (by omega)⟩
        · obtain ⟨j, rfl⟩ : ∃ j, i = j + 1 := ⟨i - 1, by omega⟩
          have hrow' := hat j (by simp only [List.length_map]; omega)
          have hp : IntKind.i64.wrap (((j + 1 : Nat) : Int) - 1) = (j : Int) := by rw [wrap_i64 (by omega) (by omega)]; omega
          have hpos : (0 : Int) < ((j + 1 : Nat) : Int) := by omega
          have hltj : (j : Int) < (l.length : Int) := by omega
          have hsj : j + 1 ≤ l.length := by omega
          have hgetj : l[j]? = some l[j] := List.getElem?_eq_getElem (by omega)
          simp only [go_sem, List.length_map, hw, hgo, hrow, hci, hsi, List.getElem?_eq_getElem hlt, Cell.enc, hrow', hp, hpos, hltj, hsj, hgetj]
          refine ⟨fun h2 => ⟨bool_f (hbad ?_), _, rfl⟩, fun h2 => ?_⟩
          · rintro ⟨c, hc, _, hlt'⟩
            obtain ⟨d, hd, hlt'⟩ := hlt' (by omega)
            rw [hget] at hc
            rw [Nat.add_sub_cancel, hgetj] at hd
            cases hc; cases hd
            exact h2 hlt'
          · refine ⟨(j + 1) + 1, by show l.length - ((j + 1) + 1) < l.length - (j + 1); omega, ?_, _, [], rfl, Wk.mk' rfl (by decide) (by simp only [go_sem, hrho, List.length_map]) (by simp only [go_sem, hrho, List.length_map])⟩
            refine ⟨by omega, fun x hx => ?_⟩
            rcases Nat.lt_or_ge x (j + 1) with g | g
            · exact hno x g
            · obtain rfl : x = j + 1 := by omega
              exact ⟨_, hget, h1, fun _ => ⟨_, hgetj, Classical.not_not.1 h2⟩⟩
      · simp only [go_sem, List.length_map, hw, hgo, hrow, hci, hsi, List.getElem?_eq_getElem hlt, Cell.enc]
        exact ⟨bool_f (hbad (by rintro ⟨c, hc, h, _⟩; rw [hget] at hc; cases hc; exact h1 h)), _, rfl⟩
    · have hci : ¬ (i : Int) < (l.length : Int) := by omega
      simp only [go_sem, List.length_map, hci]
      exact ⟨bool_t fun j hj => hno j (by omega), _, rfl⟩

end Go.Proofs
/- index: the cells of a span, walked. -/


set_option linter.all false
set_option maxRecDepth 100000
namespace Go.Proofs
open Go Go.Ev
variable {H : Heap}

noncomputable def withinL (f t : List Nat) (l : List Cell) : List Cell := l.filter fun c => decide (has f t c.key)
theorem withinL_yes {f t : List Nat} {l : List Cell} {i : Nat} {c : Cell} (h : l[i]? = some c) (h2 : has f t c.key) : withinL f t (l.take (i + 1)) = withinL f t (l.take i) ++ [c] := by
  rw [take_next h]; simp [withinL, h2]
theorem withinL_no {f t : List Nat} {l : List Cell} {i : Nat} {c : Cell} (h : l[i]? = some c) (h2 : ¬ has f t c.key) : withinL f t (l.take (i + 1)) = withinL f t (l.take i) := by
  rw [take_next h]; simp [withinL, h2]
theorem withinL_len (f t : List Nat) (l : List Cell) (i : Nat) : (withinL f t (l.take i)).length ≤ i := Nat.le_trans (List.length_filter_le _ _) (by simp; omega)

theorem f218_ok {v : AV} {l : List Cell} (hA : Arr H 5 v (l.map Cell.enc)) (hl : l.length < 4294967296) (f t : List Nat) :
    FnOk Tryz.prog 218 [v, .agg [.str f, .str t]] H fun r G => r = outV H.nx 5 (withinL f t l).length ∧ G = H.ext (outL 5 ((withinL f t l).map Cell.enc)) := by
  refine FnOk.assume fun hok => ?_
  rw [show (withinL f t l).length = ((withinL f t l).map Cell.enc).length from (List.length_map ..).symm]
  refine FnOk.dropV (Cell.map_rens · _) ?_
  rw [List.length_map]
  refine FnOk.of_WW Tryz.func218 rfl C218ok R218ok E0 good_E0 ?_
  rcases hA.forms with ⟨rfl, hnil⟩ | ⟨k, off, ex, cap, rfl, hrho⟩
  · have hn0 : l.length = 0 := by simpa using hnil
    simp only [go_sem, C218]
    refine LL.st good_E0 (fun i : Nat => l.length - i) (fun i => i ≤ l.length)
      (fun i => [((.o (.o .z)), .ptr (H.key 0) 0), ((.o (.i .z)), outV (H.key 1) 5 (withinL f t (l.take i)).length), ((.i (.o (.o .z))), .nils), ((.o (.i (.o .z))), .int .i64 l.length), ((.i (.i (.o .z))), .int .i64 i)])
      (fun i => [.row true 2 [[.str f, .str t]], outB 5 ((withinL f t (l.take i)).map Cell.enc)]) ?_ 0 (σ := [0, 1]) (Wk.mk' rfl (by decide) (by simp only [go_sem, List.length_map, hn0, withinL, List.filter_nil]) (by simp only [go_sem, List.length_map, hn0, withinL, List.filter_nil])) (by omega)
    rintro i hi
    by_cases hlt : i < l.length
    · exact absurd hlt (by omega)
    · have hci : ¬ (i : Int) < (l.length : Int) := by omega
      simp only [go_sem, List.length_map, hci, show ¬ (i : Int) < 0 by omega]
      rw [take_all (by omega)]
      exact ⟨_, 1, rfl, rfl, rfl⟩
  · simp only [go_sem, C218]
    refine LL.st good_E0 (fun i : Nat => l.length - i) (fun i => i ≤ l.length)
      (fun i => [((.o (.o .z)), .ptr (H.key 0) 0), ((.o (.i .z)), outV (H.key 1) 5 (withinL f t (l.take i)).length), ((.i (.o (.o .z))), .slice k off (l.map Cell.enc).length 5 ex cap), ((.o (.i (.o .z))), .int .i64 l.length), ((.i (.i (.o .z))), .int .i64 i)])
      (fun i => [.row true 2 [[.str f, .str t]], outB 5 ((withinL f t (l.take i)).map Cell.enc)]) ?_ 0 (σ := [0, 1]) (Wk.mk' rfl (by decide) (by simp only [go_sem, List.length_map, hrho, withinL, List.filter_nil]) (by simp only [go_sem, List.length_map, hrho, withinL, List.filter_nil])) (by omega)
    rintro i hi
    by_cases hlt : i < l.length
    · obtain ⟨kk, r, ex', cap', wr, rows, hv, hk, hg, _, hat⟩ := hA.pick (j := i) (by simpa using hlt)
      have hrow := hat i (by simpa using hlt)
      have hgo := Heap.get_ext_old hok hg
      have hw := wrap_succ (n := i) (by omega)
      have hci : (i : Int) < (l.length : Int) := by omega
      have hsi : i + 1 ≤ l.length := by omega
      have hget : l[i]? = some l[i] := List.getElem?_eq_getElem hlt
      cases hv
      have hlen := withinL_len f t l i
      rcases hx : withinL f t (l.take i) with _ | ⟨x, xs⟩
      · simp only [go_sem, List.length_map, hw, hgo, hrow, hci, hsi, List.getElem?_eq_getElem hlt, Cell.enc]
        refine CL.bool (f58_ok f t l[i].key) (fun h1 => ?_) (fun h1 => ?_)
        · have hnew : withinL f t (l.take (i + 1)) = [l[i]] := by rw [withinL_yes hget h1, hx]; rfl
          try simp only [go_sem, List.length_map, hw, hgo, hrow, hci, hsi, List.getElem?_eq_getElem hlt, Cell.enc]
          refine ⟨i + 1, by show l.length - (i + 1) < l.length - i; omega, ?_, _, [0, 4], rfl, Wk.mk' rfl (by decide) (by simp only [go_sem, hrho, List.length_map, hnew, Cell.enc, Cell.map_rens]) (by simp only [go_sem, hrho, List.length_map, hnew, Cell.enc, Cell.map_rens])⟩
          omega
        · have hnew : withinL f t (l.take (i + 1)) = [] := by rw [withinL_no hget h1, hx]
          try simp only [go_sem, List.length_map, hw, hgo, hrow, hci, hsi, List.getElem?_eq_getElem hlt, Cell.enc]
          refine ⟨i + 1, by show l.length - (i + 1) < l.length - i; omega, ?_, _, [0, 1], rfl, Wk.mk' rfl (by decide) (by simp only [go_sem, hrho, List.length_map, hnew, Cell.enc, Cell.map_rens]) (by simp only [go_sem, hrho, List.length_map, hnew, Cell.enc, Cell.map_rens])⟩
          omega
      · have hfull : ¬ xs.length + 1 ≤ xs.length := by omega
        have htk : List.take xs.length (xs.map Cell.enc) = xs.map Cell.enc := List.take_of_length_le (by simp)
        have hself : xs.length ≤ xs.length := Nat.le_refl _
        have hmx : (2 * (xs.length + 1 + 1) + 192) * 56 ≤ 281474976710656 := by rw [hx] at hlen; simp only [List.length_cons] at hlen; omega
        simp only [go_sem, List.length_map, hw, hgo, hrow, hci, hsi, List.getElem?_eq_getElem hlt, Cell.enc, hfull, htk, hself, hmx]
        refine CL.bool (f58_ok f t l[i].key) (fun h1 => ?_) (fun h1 => ?_)
        · have hnew : withinL f t (l.take (i + 1)) = x :: (xs ++ [l[i]]) := by rw [withinL_yes hget h1, hx]; rfl
          try simp only [go_sem, List.length_map, hw, hgo, hrow, hci, hsi, List.getElem?_eq_getElem hlt, Cell.enc, hfull, htk, hself, hmx]
          refine ⟨i + 1, by show l.length - (i + 1) < l.length - i; omega, ?_, _, [0, 4], rfl, Wk.mk' rfl (by decide) (by simp only [go_sem, hrho, List.length_map, hnew, Cell.enc, Cell.map_rens]) (by simp only [go_sem, hrho, List.length_map, hnew, Cell.enc, Cell.map_rens])⟩
          omega
        · have hnew : withinL f t (l.take (i + 1)) = x :: xs := by rw [withinL_no hget h1, hx]
          try simp only [go_sem, List.length_map, hw, hgo, hrow, hci, hsi, List.getElem?_eq_getElem hlt, Cell.enc]
          refine ⟨i + 1, by show l.length - (i + 1) < l.length - i; omega, ?_, _, [0, 1], rfl, Wk.mk' rfl (by decide) (by simp only [go_sem, hrho, List.length_map, hnew, Cell.enc, Cell.map_rens]) (by simp only [go_sem, hrho, List.length_map, hnew, Cell.enc, Cell.map_rens])⟩
          omega
    · have hci : ¬ (i : Int) < (l.length : Int) := by omega
      simp only [go_sem, List.length_map, hci]
      rw [take_all (by omega)]
      exact ⟨_, 1, rfl, rfl, rfl⟩

end Go.Proofs
/- index: the rows of a span, walked. -/

set_option linter.all false
set_option maxRecDepth 100000
namespace Go.Proofs
open Go Go.Ev
variable {H : Heap}

def there (c : Cell) : Prop := 0 < c.ver ∧ c.del = false
instance (c : Cell) : Decidable (there c) := inferInstanceAs (Decidable (_ ∧ _))
def Cell.row (c : Cell) : List AV := [.str c.key, .str c.value, .int .i64 c.ver]
end Go.Proofs
/- index: a cell put in its place, walked. -/


set_option linter.all false
set_option maxRecDepth 100000
namespace Go.Proofs
open Go Go.Ev
variable {H : Heap}

theorem clo50 : CloFn Tryz.prog 101 5 56 [.str [], .str [], .int .i64 0, .bool false, .int .i64 0] := ⟨⟨Tryz.f101, Tryz.func101, by kernel_rfl, by kernel_rfl⟩, rfl, by decide⟩
theorem ins51 : InsFn Tryz.prog 231 5 56 [.str [], .str [], .int .i64 0, .bool false, .int .i64 0] := ⟨⟨Tryz.f231, 233, 234, Tryz.func231, by kernel_rfl, by kernel_rfl, by kernel_rfl, by kernel_rfl⟩, rfl, by decide⟩
/-- the cell c put among the cells l -/
noncomputable def withL (l : List Cell) (c : Cell) : List Cell :=
  match l with
  | [] => [c]
  | d :: l => if ltS d.key c.key then d :: withL l c else if d.key = c.key then c :: l else c :: d :: l
theorem withL_at : ∀ (l : List Cell) (c : Cell) (i : Nat), (∀ j d, j < i → l[j]? = some d → ltS d.key c.key) → i ≤ l.length →
    (∀ d, l[i]? = some d → ¬ ltS d.key c.key) → withL l c = l.take i ++ c :: (match l[i]? with | none => [] | some d => if d.key = c.key then l.drop (i + 1) else l.drop i)
  | [], c, i, _, hi, _ => by
    obtain rfl : i = 0 := by simpa using hi
    rfl
  | d :: l, c, 0, _, _, h => by
    have := h d rfl
    simp [withL, this]
    split <;> rfl
  | d :: l, c, i + 1, h, hi, h2 => by
    have h1 := h 0 d (by omega) rfl
    have ih := withL_at l c i (fun j e hj he => h (j + 1) e (by omega) (by simpa using he)) (by simpa using hi) (fun e he => h2 e (by simpa using he))
    simp only [withL, h1, if_true, ih, List.take_succ_cons, List.cons_append, List.getElem?_cons_succ, List.drop_succ_cons]

noncomputable def withC (l : List Cell) (c : Cell) : List Cell := if cellIs c then withL l c else l
/-- a slice handed back that is nil only where the given one is -/
def frV (v : AV) (k : K) (esz n : Nat) : AV := match v with | .nils => outV k esz n | _ => .slice k 0 n esz false n
def frL (v : AV) (esz : Nat) (xs : List (List AV)) : List Blk := match v with | .nils => outL esz xs | _ => [.row true esz xs]

theorem f226_nil {c : Cell} : FnOk Tryz.prog 226 [.nils, .agg c.enc] H fun r G => r = frV (.nils) H.nx 5 (withC [] c).length ∧ G = H.ext (frL (.nils) 5 ((withC [] c).map Cell.enc)) := by
  refine FnOk.assume fun hok => ?_
  by_cases hc : cellIs c
  · rw [withC, if_pos hc]
    refine FnOk.drop1 (esz := 5) (n := 1) (ex := false) (cap := 1) (b := .row true 5 [c.enc]) ?_ (fun ρ => by simp only [Blk.ren, List.map_cons, List.map_nil, Cell.rens])
    refine FnOk.of_WW Tryz.func226 rfl C226ok R226ok E0 good_E0 ?_
    simp only [go_sem, C226, Cell.enc]
    refine CL.of (clone_nil clo50) ?_
    rintro _ _ ⟨rfl, rfl⟩
    simp only [go_sem, Cell.enc]
    refine CL.bool (f197_ok c) (fun h1 => ?_) (fun h1 => absurd hc h1)
    simp only [go_sem]
    refine LL.st good_E0 (fun i : Nat => 0) (fun i => True)
      (fun i => [((.o (.o .z)), .ptr (H.key 0) 0), ((.o (.i .z)), .nils), ((.i (.i .z)), .int .i64 0)])
      (fun i => [.row true 5 [c.enc]]) ?_ 0 (σ := [0]) (Wk.mk' rfl (by decide) (by simp only [go_sem, Cell.enc]) (by simp only [go_sem, Cell.enc])) trivial
    rintro i -
    simp only [go_sem, Cell.enc]
    refine CL.of (insert_nil ins51 (x := c.enc) (wr := true) (by rw [Heap.get_ext_key _ _ _ (by simp)]; rfl) (by decide)) ?_
    rintro _ _ ⟨rfl, rfl⟩
    simp only [go_sem]
    exact ⟨_, 2, rfl, rfl, rfl⟩
  · rw [withC, if_neg hc]
    refine (FnOk.drop (R := fun r => r = .nils) ?_ (by rintro v rfl ρ; rw [AV.ren])).mono (by rintro v G ⟨rfl, rfl⟩; exact ⟨rfl, (Heap.ext_nil _).symm⟩)
    refine FnOk.of_WW Tryz.func226 rfl C226ok R226ok E0 good_E0 ?_
    simp only [go_sem, C226, Cell.enc]
    refine CL.of (clone_nil clo50) ?_
    rintro _ _ ⟨rfl, rfl⟩
    simp only [go_sem, Cell.enc]
    refine CL.bool (f197_ok c) (fun h1 => absurd h1 hc) (fun h1 => ?_)
    simp only [go_sem]
    exact ⟨_, rfl⟩

theorem f226_zero {c : Cell} {k : K} {off : Nat} {ex : Bool} {cap : Nat} : FnOk Tryz.prog 226 [.slice k off 0 5 ex cap, .agg c.enc] H fun r G => r = frV (.slice k off 0 5 ex cap) H.nx 5 (withC [] c).length ∧ G = H.ext (frL (.slice k off 0 5 ex cap) 5 ((withC [] c).map Cell.enc)) := by
  refine FnOk.assume fun hok => ?_
  by_cases hc : cellIs c
  · rw [withC, if_pos hc]
    refine FnOk.drop1 (esz := 5) (n := 1) (ex := false) (cap := 1) (b := .row true 5 [c.enc]) ?_ (fun ρ => by simp only [Blk.ren, List.map_cons, List.map_nil, Cell.rens])
    refine FnOk.of_WW Tryz.func226 rfl C226ok R226ok E0 good_E0 ?_
    simp only [go_sem, C226, Cell.enc]
    refine CL.of (clone_zero clo50) ?_
    rintro _ _ ⟨rfl, rfl⟩
    simp only [go_sem, Cell.enc]
    refine CL.bool (f197_ok c) (fun h1 => ?_) (fun h1 => absurd hc h1)
    simp only [go_sem]
    refine LL.st good_E0 (fun i : Nat => 0) (fun i => True)
      (fun i => [((.o (.o .z)), .ptr (H.key 0) 0), ((.o (.i .z)), .slice (H.key 1) 0 0 5 true 0), ((.i (.i .z)), .int .i64 0)])
      (fun i => [.row true 5 [c.enc], .row true 5 []]) ?_ 0 (σ := [0, 1]) (Wk.mk' rfl (by decide) (by simp only [go_sem, Cell.enc]) (by simp only [go_sem, Cell.enc])) trivial
    rintro i -
    simp only [go_sem, Cell.enc]
    refine CL.of (insert_zero ins51 (x := c.enc) (wr := true) (by rw [Heap.get_ext_key _ _ _ (by simp)]; rfl) (by rw [Heap.get_ext_key _ _ _ (by simp)]; rfl) (by decide)) ?_
    rintro _ _ ⟨rfl, rfl⟩
    simp only [go_sem]
    exact ⟨_, 3, rfl, rfl, rfl⟩
  · rw [withC, if_neg hc]
    refine FnOk.loose (FnOk.drop1 (esz := 5) (n := 0) (ex := true) (cap := 0) (b := .row true 5 []) ?_ (fun ρ => rfl))
    refine FnOk.of_WW Tryz.func226 rfl C226ok R226ok E0 good_E0 ?_
    simp only [go_sem, C226, Cell.enc]
    refine CL.of (clone_zero clo50) ?_
    rintro _ _ ⟨rfl, rfl⟩
    simp only [go_sem, Cell.enc]
    refine CL.bool (f197_ok c) (fun h1 => absurd h1 hc) (fun h1 => ?_)
    simp only [go_sem]
    exact ⟨_, 1, rfl, rfl, rfl⟩

theorem f226_arr {c : Cell} {l : List Cell} {k : K} {off : Nat} {ex : Bool} {cap : Nat} (hA : Arr H 5 (.slice k off (l.map Cell.enc).length 5 ex cap) (l.map Cell.enc)) (h0 : 0 < l.length) (hl : l.length < 4294967295) :
    FnOk Tryz.prog 226 [.slice k off (l.map Cell.enc).length 5 ex cap, .agg c.enc] H fun r G => r = .slice H.nx 0 (withC l c).length 5 false (withC l c).length ∧ G = H.ext [.row true 5 ((withC l c).map Cell.enc)] := by
  refine FnOk.assume fun hok => ?_
  have hmb : (2 * (l.map Cell.enc).length + 192) * 56 ≤ 281474976710656 := by rw [List.length_map]; omega
  have hclo := clone_any clo50 (hA.ext [.row true 5 [c.enc]]) hmb (Cell.map_rens · l)
  refine FnOk.drop1 (esz := 5) (n := (withC l c).length) (ex := false) (cap := (withC l c).length) (b := .row true 5 ((withC l c).map Cell.enc)) ?_ (fun ρ => by rw [Blk.ren, Cell.map_rens])
  refine FnOk.of_WW Tryz.func226 rfl C226ok R226ok E0 good_E0 ?_
  simp only [go_sem, C226, Cell.enc]
  simp only [Cell.enc, List.length_map] at hclo
  refine CL.of hclo ?_
  rintro v G (⟨rfl, hn, rfl⟩ | ⟨rfl, rfl⟩)
  · exact absurd (congrArg List.length hn) (by rw [List.length_map, List.length_nil]; omega)
  have hins : ∀ i ≤ l.length, _ := fun i (hi : i ≤ l.length) => insert_own (H := H.ext [.row true 5 [c.enc], .row true 5 (l.map Cell.enc), .row true 5 [c.enc]]) ins51 (kv := H.key 2) (k := H.key 1) (x := c.enc) (i := i) (rows := l.map Cell.enc) (fun e => absurd (congrArg K.toNat e) (by rw [Heap.toNat_key, Heap.toNat_key]; omega)) (by rw [Heap.get_ext_key _ _ _ (by simp)]; rfl) (by rw [Heap.get_ext_key _ _ _ (by simp)]; rfl) (by rw [List.length_map]; omega) (by rw [List.length_map]; omega) (by rw [List.length_map]; omega) (by rw [List.length_map]; omega)
  simp only [Cell.enc, List.length_map] at hins
  simp only [go_sem, List.length_map]
  refine CL.bool (f197_ok c) (fun h1 => ?_) (fun h1 => ?_)
  · simp only [go_sem]
    rw [withC, if_pos h1]
    refine LL.st good_E0 (fun i : Nat => l.length - i) (fun i => i ≤ l.length ∧ ∀ j d, j < i → l[j]? = some d → ltS d.key c.key)
      (fun i => [((.o (.o .z)), .ptr (H.key 0) 0), ((.o (.i .z)), .slice (H.key 1) 0 l.length 5 false l.length), ((.i (.i .z)), .int .i64 i)])
      (fun i => [.row true 5 [c.enc], .row true 5 (l.map Cell.enc)]) ?_ 0 (σ := [0, 1]) (Wk.mk' rfl (by decide) (by simp only [go_sem, Cell.enc, Cell.map_rens]) (by simp only [go_sem, Cell.enc, Cell.map_rens])) ⟨by omega, by intro j d h; omega⟩
    rintro i ⟨hi, hno⟩
    have hins := hins i hi
    by_cases hlt : i < l.length
    · have hw := wrap_succ (n := i) (by omega)
      have hci : (i : Int) < (l.length : Int) := by omega
      have hsi : i + 1 ≤ l.length := by omega
      have hget : l[i]? = some l[i] := List.getElem?_eq_getElem hlt
      have hmi : (l.map Cell.enc)[i]? = some l[i].enc := by rw [List.getElem?_map, hget]; rfl
      simp only [go_sem, hw, hci, hsi, hmi, hget, Cell.enc]
      refine ⟨fun h2 => ?_, fun h2 => ?_⟩
      · refine ⟨i + 1, by show l.length - (i + 1) < l.length - i; omega, ⟨by omega, ?_⟩, _, [0, 1], rfl, Wk.mk' rfl (by decide) (by simp only [go_sem, List.length_map, Cell.map_rens]) (by simp only [go_sem, List.length_map, Cell.map_rens])⟩
        intro j d hj hd
        rcases Nat.lt_or_ge j i with g | g
        · exact hno j d g hd
        · obtain rfl : j = i := by omega
          rw [hget] at hd; cases hd; exact h2
      · have hwl := withL_at l c i hno hi (fun d hd => by rw [hget] at hd; cases hd; exact h2)
        rw [hget] at hwl
        refine ⟨fun h3 => ?_, fun h3 => ?_⟩
        · rw [hwl]
          simp only [h3, if_true]
          have hlen : (List.take i l ++ c :: List.drop (i + 1) l).length = l.length := by rw [List.length_append, List.length_take, List.length_cons, List.length_drop]; omega
          rw [hlen]
          refine ⟨_, 1, rfl, rfl, ?_⟩
          rw [List.map_append, List.map_cons, List.map_take, List.map_drop]
          rw [show [AV.str c.key, AV.str c.value, AV.int .i64 c.ver, AV.bool c.del, AV.int .i64 c.floor] = c.enc from rfl, List.set_eq_take_append_cons_drop, if_pos (by rw [List.length_map]; exact hlt)]
          rfl
        · refine CL.of hins ?_
          rintro _ _ ⟨rfl, rfl⟩
          simp only [go_sem, List.length_map]
          rw [hwl]
          simp only [h3, if_false]
          have hlen : (List.take i l ++ c :: List.drop i l).length = l.length + 1 := by rw [List.length_append, List.length_take, List.length_cons, List.length_drop]; omega
          rw [hlen, Heap.set_ext_key _ _ _ _ (by simp), Heap.ext_append]
          refine ⟨_, 3, rfl, rfl, ?_⟩
          rw [List.map_append, List.map_cons]
          first | rw [List.map_take, List.map_drop] | rw [List.map_take, List.map_nil]
          rfl
    · have hci : ¬ (i : Int) < (l.length : Int) := by omega
      have hin : i = l.length := by omega
      have hnone : l[i]? = none := List.getElem?_eq_none (by omega)
      have hwl := withL_at l c i hno hi (fun d hd => by rw [hnone] at hd; cases hd)
      rw [hnone] at hwl
      simp only [go_sem, List.length_map, hci, Cell.enc]
      refine CL.of hins ?_
      rintro _ _ ⟨rfl, rfl⟩
      simp only [go_sem, List.length_map]
      rw [hwl]
      have hlen : (List.take i l ++ [c]).length = l.length + 1 := by rw [List.length_append, List.length_take, List.length_cons, List.length_nil]; omega
      have hdr : List.drop i (l.map Cell.enc) = [] := List.drop_of_length_le (by rw [List.length_map]; omega)
      simp only [hdr]
      rw [hlen, Heap.set_ext_key _ _ _ _ (by simp), Heap.ext_append]
      refine ⟨_, 3, rfl, rfl, ?_⟩
      rw [List.map_append, List.map_cons]
      first | rw [List.map_take, List.map_drop] | rw [List.map_take, List.map_nil]
      rfl
  · simp only [go_sem]
    rw [withC, if_neg h1]
    exact ⟨_, 1, rfl, rfl, rfl⟩

end Go.Proofs
/- index: the reference way to put a cell in its place, walked. -/

set_option linter.all false
set_option maxRecDepth 100000
namespace Go.Proofs
open Go Go.Ev
variable {H : Heap}

theorem f226_ok {v : AV} {l : List Cell} (hA : Arr H 5 v (l.map Cell.enc)) (hl : l.length < 4294967295) (c : Cell) :
    FnOk Tryz.prog 226 [v, .agg c.enc] H fun r G => r = frV v H.nx 5 (withC l c).length ∧ G = H.ext (frL v 5 ((withC l c).map Cell.enc)) := by
  rcases hA.forms with ⟨rfl, hnil⟩ | ⟨k, off, ex, cap, rfl, _⟩
  · obtain rfl : l = [] := List.map_eq_nil_iff.1 hnil
    exact f226_nil
  · rcases Nat.eq_zero_or_pos l.length with h0 | h0
    · obtain rfl := List.length_eq_zero_iff.1 h0
      exact f226_zero
    · exact f226_arr hA h0 hl
noncomputable def stepW (c : Cell) (s : List Cell × Bool) (d : Cell) : List Cell × Bool :=
  let s' := if s.2 = false ∧ ¬ ltS d.key c.key then (s.1 ++ [c], true) else s
  (if d.key = c.key then s'.1 else s'.1 ++ [d], s'.2)
noncomputable def runW (c : Cell) (l : List Cell) : List Cell × Bool := l.foldl (stepW c) ([], false)
noncomputable def refW (l : List Cell) (c : Cell) : List Cell := if (runW c l).2 then (runW c l).1 else (runW c l).1 ++ [c]
end Go.Proofs
/- index: the law that both ways tell the same, walked. -/

set_option linter.all false
set_option maxRecDepth 100000
namespace Go.Proofs
open Go Go.Ev
variable {H : Heap}

theorem filter_all {c : Cell} : ∀ (l : List Cell) (a : List Cell), (∀ d ∈ l, d.key ≠ c.key) → l.foldl (stepW c) (a, true) = (a ++ l, true)
  | [], a, _ => by simp
  | d :: l, a, h => by
    have h1 := h d (by simp)
    rw [List.foldl_cons, show stepW c (a, true) d = (a ++ [d], true) by simp [stepW, h1], filter_all l _ fun x hx => h x (by simp [hx])]
    simp
theorem fold_withL {c : Cell} : ∀ (l : List Cell) (a : List Cell), List.Pairwise (fun x y => ltS x.key y.key) l → (if (l.foldl (stepW c) (a, false)).2 then (l.foldl (stepW c) (a, false)).1 else (l.foldl (stepW c) (a, false)).1 ++ [c]) = a ++ withL l c
  | [], a, _ => by simp [withL]
  | d :: l, a, h => by
    rw [List.pairwise_cons] at h
    rw [List.foldl_cons, withL]
    by_cases h1 : ltS d.key c.key
    · have hne : d.key ≠ c.key := fun e => ltS_irrefl _ (e ▸ h1)
      rw [show stepW c (a, false) d = (a ++ [d], false) by simp [stepW, h1, hne], fold_withL l _ h.2, if_pos h1]
      simp
    · rw [if_neg h1]
      by_cases h2 : d.key = c.key
      · rw [show stepW c (a, false) d = (a ++ [c], true) by simp [stepW, h2, ltS_irrefl], filter_all l _ (fun x hx e => ltS_irrefl _ (show ltS c.key c.key by have := h.1 x hx; rw [e, h2] at this; exact this)), if_pos h2]
        simp
      · have h3 : ltS c.key d.key := by rcases ltS_tri d.key c.key with g | g | g; exact absurd g h1; exact absurd g h2; exact g
        rw [show stepW c (a, false) d = (a ++ [c] ++ [d], true) by simp [stepW, h1, h2], filter_all l _ (fun x hx e => ltS_irrefl _ (show ltS c.key c.key by have := ltS_trans h3 (h.1 x hx); rw [e] at this; exact this)), if_neg h2]
        simp
theorem isIdx_pair {l : List Cell} (h : isIdx l) : List.Pairwise (fun x y => ltS x.key y.key) l := by
  have key : ∀ (n i : Nat) (c d : Cell), l[i]? = some c → l[i + n + 1]? = some d → ltS c.key d.key := by
    intro n
    induction n with
    | zero =>
      intro i c d hc hd
      obtain ⟨d', h1, _, h2⟩ := h (i + 1) (List.getElem?_eq_some_iff.1 hd).1
      rw [show i + 0 + 1 = i + 1 from rfl, h1] at hd; cases hd
      obtain ⟨c', h3, h4⟩ := h2 (by omega)
      rw [Nat.add_sub_cancel, hc] at h3; cases h3
      exact h4
    | succ n ih =>
      intro i c d hc hd
      have hi := (List.getElem?_eq_some_iff.1 hd).1
      obtain ⟨e, he⟩ : ∃ e, l[i + 1]? = some e := ⟨_, List.getElem?_eq_getElem (by omega)⟩
      obtain ⟨e', h1, _, h2⟩ := h (i + 1) (by omega)
      rw [he] at h1; cases h1
      obtain ⟨c', h3, h4⟩ := h2 (by omega)
      rw [Nat.add_sub_cancel, hc] at h3; cases h3
      exact ltS_trans h4 (ih (i + 1) e d he (by rw [← hd]; congr 1; omega))
  rw [List.pairwise_iff_getElem]
  intro i j hi hj hij
  exact key (j - i - 1) i _ _ (List.getElem?_eq_getElem hi) (by rw [show i + (j - i - 1) + 1 = j by omega]; exact List.getElem?_eq_getElem hj)
theorem refW_eq {l : List Cell} (h : isIdx l) (c : Cell) : refW l c = withL l c := fold_withL l [] (isIdx_pair h)
end Go.Proofs
/- once: numbers and texts as bytes, answers that may be: walked. -/


set_option linter.all false
set_option maxRecDepth 100000
namespace Go.Proofs
open Go Go.Ev
variable {H : Heap}

def byteV (b : Nat) : AV := .int .u8 (b : Int)
/-- a byte, in a cell -/
def byteC (b : Nat) : List AV := [byteV b]
theorem byteC_rens (ρ : K → K) (l : List Nat) : (l.map byteC).map (AV.rens ρ) = l.map byteC := by
  rw [List.map_map]
  refine List.map_congr_left fun j _ => ?_
  show [AV.ren ρ (.int .u8 (j : Int))] = _
  rw [AV.ren]; rfl
theorem byteC_ren1 (ρ : K → K) (b : Nat) : AV.rens ρ (byteC b) = byteC b := by show [AV.ren ρ (.int .u8 (b : Int))] = _; rw [AV.ren]; rfl
theorem bytesC_all {β : Type} : ∀ {l : List Nat} (_ : ∀ b ∈ l, b ≤ 255) (f : β) (c : List Nat → β), bytesC (l.map byteV) f c = c l
  | [], _, _, _ => rfl
  | b :: l, h, f, c => by
    show bif' (Nat.beq (kn .u8) 4) (bif' (Nat.ble b 255) (bytesC (l.map byteV) f fun r => c (b :: r)) f) f = _
    rw [show Nat.beq (kn .u8) 4 = true from rfl, bif_true, show Nat.ble b 255 = true by rw [Nat.ble_eq]; exact h b (by simp), bif_true]
    exact bytesC_all (fun x hx => h x (by simp [hx])) f _
theorem flat_bytes : ∀ l : List Nat, (l.map byteC).flatten = l.map byteV
  | [] => rfl
  | b :: l => by rw [List.map_cons, List.flatten_cons, flat_bytes l]; rfl
theorem read_bytes {β : Type} {l : List Nat} (h : 0 < l.length) (f : β) (c : List AV → β) : readC f 1 (l.map byteC) 0 l.length c = c (l.map byteV) := by
  match l, h with
  | b :: l, _ =>
    by_cases hl : l = []
    · subst hl
      simp only [List.map_cons, List.map_nil, List.length_cons, List.length_nil]
      rfl
    · have h1 : 0 < l.length := List.length_pos_iff.2 hl
      have h2 : ((b :: l).map byteC).flatten = (b :: l).map byteV := flat_bytes _
      unfold readC
      simp only [fN_eq, nthL_eq, Nat.zero_div, Nat.zero_mod, dropL_eq, List.drop_zero, flatL_eq, h2, takeC_eq, Nat.zero_add, List.length_map, Nat.le_refl, if_true]
      show bif' (Nat.beq 0 0 && Nat.beq (b :: l).length 1) (c [byteV b]) (bif' (Nat.ble (b :: l).length 1) (if (b :: l).length ≤ 1 then c _ else f) (c (List.take (b :: l).length _))) = _
      rw [show Nat.beq (b :: l).length 1 = false by rw [Bool.eq_false_iff]; intro e; rw [Nat.beq_eq] at e; simp at e; exact hl e, show Nat.ble (b :: l).length 1 = false by rw [Bool.eq_false_iff]; intro e; rw [Nat.ble_eq, List.length_cons] at e; omega]
      show c _ = c _
      rw [List.take_of_length_le (by rw [List.length_map]; exact Nat.le_refl _)]
theorem and63 {m : Nat} (h : m < 9223372036854775808) : IntKind.i64.wrap ((BitVec.ofInt IntKind.i64.bits (m : Int) &&& BitVec.ofInt IntKind.i64.bits 63).toNat : Int) = ((m % 64 : Nat) : Int) := by
  have h1 : (BitVec.ofInt IntKind.i64.bits (m : Int) &&& BitVec.ofInt IntKind.i64.bits 63).toNat = m % 64 := by
    rw [BitVec.toNat_and, BitVec.toNat_ofInt, BitVec.toNat_ofInt]
    show ((m : Int) % ((2 ^ 64 : Nat) : Int)).toNat &&& ((63 : Int) % ((2 ^ 64 : Nat) : Int)).toNat = _
    rw [show ((m : Int) % ((2 ^ 64 : Nat) : Int)).toNat = m by omega, show ((63 : Int) % ((2 ^ 64 : Nat) : Int)).toNat = 2 ^ 6 - 1 by decide, Nat.and_two_pow_sub_one_eq_mod]
  rw [h1]
  exact wrap_i64 (by omega) (by omega)
theorem or64 {r : Nat} (h : r < 64) : IntKind.i64.wrap ((BitVec.ofInt IntKind.i64.bits 64 ||| BitVec.ofInt IntKind.i64.bits (r : Int)).toNat : Int) = ((64 + r : Nat) : Int) := by
  have h1 : (BitVec.ofInt IntKind.i64.bits 64 ||| BitVec.ofInt IntKind.i64.bits (r : Int)).toNat = 64 + r := by
    rw [BitVec.toNat_or, BitVec.toNat_ofInt, BitVec.toNat_ofInt]
    show ((64 : Int) % ((2 ^ 64 : Nat) : Int)).toNat ||| ((r : Int) % ((2 ^ 64 : Nat) : Int)).toNat = _
    rw [show ((r : Int) % ((2 ^ 64 : Nat) : Int)).toNat = r by omega, show ((64 : Int) % ((2 ^ 64 : Nat) : Int)).toNat = 2 ^ 6 * 1 by decide]
    exact (Nat.two_pow_add_eq_or_of_lt (i := 6) h 1).symm
  rw [h1]
  exact wrap_i64 (by omega) (by omega)
theorem bin_and63 {β : Type} {P : Program} (ek : EK) (pk : Option (List LK)) (lit : Bool) {m : Nat} (h : m < 9223372036854775808) (f : β) (c : AV → β) : binV P ek pk lit .and (.int .i64 (m : Int)) (.int .i64 63) f c = c (.int .i64 ((m % 64 : Nat) : Int)) := by rw [bin_and, and63 h]
theorem bin_or64 {β : Type} {P : Program} (ek : EK) (pk : Option (List LK)) (lit : Bool) {r : Nat} (h : r < 64) (f : β) (c : AV → β) : binV P ek pk lit .or (.int .i64 64) (.int .i64 (r : Int)) f c = c (.int .i64 ((64 + r : Nat) : Int)) := by rw [bin_or, or64 h]
@[go_sem] theorem bin_shr6 {β : Type} {P : Program} (ek : EK) (pk : Option (List LK)) (lit : Bool) (a : Int) (f : β) (c : AV → β) : binV P ek pk lit .shr (.int .i64 a) (.int .u64 6) f c = c (.int .i64 (a.fdiv 64)) := bin_shr ek pk lit .i64 a f c .u64 6
/-- a number's bytes -/
def numT (n : Nat) : List Nat := if h : n < 64 then [n] else (64 + n % 64) :: numT (n / 64)
termination_by n
decreasing_by omega
theorem numT_lo {n : Nat} (h : n < 64) : numT n = [n] := by rw [numT, dif_pos h]
theorem numT_hi {n : Nat} (h : ¬ n < 64) : numT n = (64 + n % 64) :: numT (n / 64) := by rw [numT, dif_neg h]
theorem numT_len : ∀ (k n : Nat), n < 64 ^ (k + 1) → (numT n).length ≤ k + 1
  | 0, n, h => by rw [numT_lo (by simpa using h)]; simp
  | k + 1, n, h => by
    by_cases hn : n < 64
    · rw [numT_lo hn]; simp
    · rw [numT_hi hn, List.length_cons]
      have : n / 64 < 64 ^ (k + 1) := by
        rw [Nat.div_lt_iff_lt_mul (by decide)]
        rw [Nat.pow_succ] at h
        exact h
      have := numT_len k (n / 64) this
      omega
theorem numT_pos (n : Nat) : 0 < (numT n).length := by
  by_cases hn : n < 64
  · rw [numT_lo hn]; simp
  · rw [numT_hi hn]; simp
theorem numT_small {n : Nat} (h : n < 9223372036854775808) : (numT n).length ≤ 11 := numT_len 10 n (by omega)
theorem f28_ok {n : Nat} (hn : n < 9223372036854775808) : FnOk Tryz.prog 28 [.int .i64 (n : Int)] H fun r G => r = .str (numT n) ∧ G = H := by
  refine FnOk.drop (R := fun r => r = .str (numT n)) ?_ (by rintro v rfl ρ; rw [AV.ren])
  refine FnOk.of_WW Tryz.func28 rfl C28ok R28ok E0 good_E0 ?_
  have hmax : max (n : Int) 0 = (n : Int) := by omega
  simp only [go_sem, C28, hmax]
  refine LL.st good_E0 (fun s : Nat × List Nat => s.1) (fun s => s.1 ≤ n ∧ s.2 ++ numT s.1 = numT n ∧ ∀ b ∈ s.2, b ≤ 255)
    (fun s => [(.z, .int .i64 s.1), ((.o (.o .z)), outV (H.key 0) 1 s.2.length)]) (fun s => [outB 1 (s.2.map byteC)]) ?_ (n, []) (σ := [0]) (Wk.of rfl (by decide) (by simp only [go_sem]) (by simp only [go_sem, ↓outB_ren', ↓zB_ren, byteC_rens, byteC_ren1, implies_true])) ⟨Nat.le_refl _, rfl, by simp⟩
  rintro ⟨m, acc⟩ ⟨hm, hacc, hby⟩
  simp only at hm hacc hby
  have hlen := congrArg List.length hacc
  rw [List.length_append] at hlen
  have h11 := numT_small hn
  have hmp := numT_pos m
  by_cases hlt : m < 64
  · have hc : ¬ (64 : Int) ≤ (m : Int) := by omega
    have hw := wrap_u8 (m := m) (by omega)
    simp only [go_sem, ↓appR_hide, hc, hw]
    refine RW_app _ (byteC m) rfl (List.length_map ..) rfl (okBig_le (by omega) (by decide)) ?_
    have hs : acc.map byteC ++ [byteC m] = (acc ++ [m]).map byteC := by rw [List.map_append]; rfl
    have hsl : (acc ++ [m]).length = acc.length + 1 := by rw [List.length_append]; rfl
    have hB := outB_pos (e := 1) (xs := (acc ++ [m]).map byteC) (by rw [List.length_map, hsl]; omega)
    have hrd := fun c => read_bytes (l := acc ++ [m]) (by omega) R1.fail c
    have hall := fun c => bytesC_all (l := acc ++ [m]) (fun b hb => by
      rcases List.mem_append.1 hb with h | h
      · exact hby b h
      · rw [List.mem_singleton] at h; omega) R1.fail c
    rw [hsl] at hrd
    rw [hs, hB]
    rw [numT_lo hlt] at hacc
    rw [hacc] at hall hrd ⊢
    simp only [go_sem, hrd, hall]
    exact ⟨_, rfl⟩
  · have hc : (64 : Int) ≤ (m : Int) := by omega
    have ha := fun f c => bin_and63 (β := R1) (P := Tryz.prog) .no none true (m := m) (by omega) f c
    have hr : m % 64 < 64 := Nat.mod_lt _ (by decide)
    have ho := fun f c => bin_or64 (β := R1) (P := Tryz.prog) .no none true hr f c
    have hu := wrap_u8 (m := 64 + m % 64) (by omega)
    have hs : Int.fdiv (m : Int) 64 = ((m / 64 : Nat) : Int) := by rw [Int.fdiv_eq_ediv_of_nonneg _ (by decide)]; omega
    simp only [go_sem, ↓appR_hide, hc, ↓ha, ↓ho, hu, hs]
    refine RW_app _ (byteC (64 + m % 64)) rfl (List.length_map ..) rfl (okBig_le (by omega) (by decide)) ?_
    have hs2 : acc.map byteC ++ [byteC (64 + m % 64)] = (acc ++ [64 + m % 64]).map byteC := by rw [List.map_append]; rfl
    rw [hs2]
    simp only [go_sem, hs]
    refine ⟨(m / 64, acc ++ [64 + m % 64]), by show m / 64 < m; omega, ⟨by show m / 64 ≤ n; omega, ?_, ?_⟩, _, [2], rfl, Wk.of rfl (by decide) (by simp only [go_sem, outV_ren']) (by simp only [go_sem, ↓outB_ren', ↓zB_ren, byteC_rens, byteC_ren1, implies_true])⟩
    · show (acc ++ [64 + m % 64]) ++ numT (m / 64) = numT n
      rw [← hacc, numT_hi hlt, List.append_assoc]; rfl
    · intro b hb
      rcases List.mem_append.1 hb with h | h
      · exact hby b h
      · rw [List.mem_singleton] at h; omega
end Go.Proofs
/- once: texts as bytes, answers that may be: walked. -/

set_option linter.all false
set_option maxRecDepth 100000
namespace Go.Proofs
open Go Go.Ev
variable {H : Heap}

def textT (s : List Nat) : List Nat := numT s.length ++ s
theorem f30_ok {s : List Nat} (hs : s.length < 4611686018427387904) : FnOk Tryz.prog 30 [.str s] H fun r G => r = .str (textT s) ∧ G = H := by
  refine FnOk.drop (R := fun r => r = .str (textT s)) ?_ (by rintro v rfl ρ; rw [AV.ren])
  refine FnOk.of_WW Tryz.func30 rfl C30ok R30ok E0 good_E0 ?_
  have h := numT_small (n := s.length) (by omega)
  have hle : (numT s.length).length + s.length ≤ 9223372036854775807 := by omega
  simp only [go_sem, C30]
  refine CL.one (f28_ok (by omega)) ?_
  simp only [go_sem, hle]
  exact ⟨rfl, _, rfl⟩
/-- a row of an answer -/
structure Rw where
  k : List Nat
  v : List Nat
  ver : Int
def Rw.enc (r : Rw) : List AV := [.str r.k, .str r.v, .int .i64 r.ver]
theorem Rw.rens (ρ : K → K) (c : Rw) : AV.rens ρ c.enc = c.enc := by simp only [Rw.enc, AV.rens, AV.ren]
theorem Rw.map_rens (ρ : K → K) (l : List Rw) : (l.map Rw.enc).map (AV.rens ρ) = l.map Rw.enc := by
  rw [List.map_map]; exact List.map_congr_left fun c _ => Rw.rens ρ c
theorem Rw.enc_inj {c d : Rw} (h : c.k = d.k ∧ c.v = d.v ∧ c.ver = d.ver) : c = d := by cases c; cases d; simp_all
def badR (r : Rw) : Prop := (255 : Int) < (r.k.length : Int) ∨ (255 : Int) < (r.v.length : Int) ∨ r.ver < 0 ∨ (281474976710656 : Int) ≤ r.ver
instance (r : Rw) : Decidable (badR r) := inferInstanceAs (Decidable (_ ∨ _))
theorem f158_ok (c : Rw) : FnOk Tryz.prog 158 [.agg c.enc] H fun r G => r = .bool (decide (badR c)) ∧ G = H := by
  refine FnOk.drop (R := fun r => r = .bool (decide (badR c))) ?_ (by rintro v rfl ρ; rw [AV.ren])
  refine FnOk.of_WW Tryz.func158 rfl C158ok R158ok E0 good_E0 ?_
  simp only [go_sem, C158, Rw.enc]
  refine ⟨fun h => ⟨bool_t (.inl h), _, rfl⟩, fun h1 => ⟨fun h => ⟨bool_t (.inr (.inl h)), _, rfl⟩, fun h2 => ⟨fun h => ⟨bool_t (.inr (.inr (.inl h))), _, rfl⟩, fun h3 => ⟨fun h => ⟨bool_t (.inr (.inr (.inr h))), _, rfl⟩, fun h4 => ⟨bool_f ?_, _, rfl⟩⟩⟩⟩⟩
  rintro (h | h | h | h)
  · exact h1 h
  · exact h2 h
  · exact h3 h
  · exact h4 h
def anyBad (l : List Rw) : Prop := ∃ r ∈ l, badR r
noncomputable instance (l : List Rw) : Decidable (anyBad l) := Classical.propDecidable _
theorem f199_ok {v : AV} {l : List Rw} (hA : Arr H 3 v (l.map Rw.enc)) (hl : l.length ≤ 9223372036854775807) :
    FnOk Tryz.prog 199 [v, .fn (.func 158) [] []] H fun r G => (∃ n : Int, r = .int .i64 n ∧ (0 ≤ n ↔ anyBad l)) ∧ G = H := by
  refine FnOk.assume fun hok => ?_
  refine FnOk.drop (R := fun r => ∃ n : Int, r = .int .i64 n ∧ (0 ≤ n ↔ anyBad l)) ?_ (by rintro v ⟨n, rfl, _⟩ ρ; rw [AV.ren])
  refine FnOk.of_WW Tryz.func199 rfl C199ok R199ok E0 good_E0 ?_
  have hlen := fun G => hA.len G; simp only [List.length_map] at hlen; have hren := hA.ren
  simp only [go_sem, C199, hlen]
  refine LL.st good_E0 (fun i : Nat => l.length - i) (fun i => i ≤ l.length ∧ ∀ j d, j < i → l[j]? = some d → ¬ badR d)
    (fun i => [(.z, v), ((.o .z), .fn (.func 158) [] []), ((.i (.i .z)), v), ((.o (.o (.o .z))), .int .i64 l.length), ((.i (.o (.o .z))), .int .i64 i)]) (fun i => []) ?_ 0 (σ := []) (Wk.of rfl (by decide) (by simp only [go_sem, hren]) (by simp only [go_sem])) ⟨Nat.zero_le _, fun j d h => absurd h (Nat.not_lt_zero _)⟩
  rintro i ⟨hi, hno⟩
  by_cases hlt : i < l.length
  · obtain ⟨kk, r, ex', cap', wr, rows, hv, hrho, hgo, hrow⟩ := hA.at hok (j := i) (by rw [List.length_map]; exact hlt); simp only [List.length_map, List.getElem_map] at hv hrow; cases hv; have hget : l[i]? = some l[i] := List.getElem?_eq_getElem hlt; generalize l[i] = c at hrow hget; have hw := wrap_succ (n := i) (by omega); have hci : (i : Int) < (l.length : Int) := (by omega); have hsi : i + 1 ≤ l.length := (by omega)
    simp only [go_sem, hci, hsi, hgo, hrow, hw, Rw.enc]
    refine CL.bool (f158_ok c) (fun g => ?_) (fun g => ?_)
    · simp only [go_sem]
      exact ⟨⟨_, rfl, fun _ => ⟨c, List.mem_of_getElem? hget, g⟩, fun _ => by omega⟩, _, rfl⟩
    · simp only [go_sem, hw]
      refine ⟨i + 1, by show l.length - (i + 1) < l.length - i; omega, ⟨by omega, fun j d hj hd => ?_⟩, _, [], rfl, Wk.of rfl (by decide) (by simp only [go_sem, hren, hrho, hw]) (by simp only [go_sem])⟩
      rcases Nat.lt_or_ge j i with h | h
      · exact hno j d h hd
      · obtain rfl : j = i := by omega
        rw [hget] at hd; cases hd; exact g
  · have hci : ¬ (i : Int) < (l.length : Int) := by omega
    simp only [go_sem, hci]
    refine ⟨⟨_, rfl, fun h => absurd h (by decide), ?_⟩, _, rfl⟩
    rintro ⟨d, hd, hb⟩
    obtain ⟨j, hj⟩ := List.mem_iff_getElem?.1 hd
    exact absurd hb (hno j d (by have := (List.getElem?_eq_some_iff.1 hj).1; omega) hj)
theorem f159_ok {v : AV} {l : List Rw} (hA : Arr H 3 v (l.map Rw.enc)) (hl : l.length ≤ 9223372036854775807) :
    FnOk Tryz.prog 159 [v, .fn (.func 158) [] []] H fun r G => r = .bool (decide (anyBad l)) ∧ G = H := by
  refine FnOk.drop (R := fun r => r = .bool (decide (anyBad l))) ?_ (by rintro v rfl ρ; rw [AV.ren])
  refine FnOk.of_WW Tryz.func159 rfl C159ok R159ok E0 good_E0 ?_
  simp only [go_sem, C159]
  refine CL.of (f199_ok (hA.ext []) hl) ?_
  rintro _ _ ⟨⟨n, rfl, hn⟩, rfl⟩
  simp only [go_sem]
  exact ⟨fun h => ⟨bool_t (hn.1 h), [], rfl⟩, fun h => ⟨bool_f fun e => h (hn.2 e), [], rfl⟩⟩
/-- an answer, with where its rows lie -/
structure An where
  code : Int
  val : List Nat
  ver : Int
  rows : List Rw
  rv : AV
def An.enc (a : An) : List AV := [.int .i64 a.code, .str a.val, .int .i64 a.ver, a.rv]
def An.ok (H : Heap) (a : An) : Prop := Arr H 3 a.rv (a.rows.map Rw.enc) ∧ a.rows.length ≤ 9223372036854775807
theorem An.ok.ext {a : An} (h : a.ok H) (L : List Blk) : a.ok (H.ext L) := ⟨h.1.ext L, h.2⟩
def isAns (a : An) : Prop := (0 ≤ a.code ∧ a.code < 281474976710656 ∧ 0 ≤ a.ver ∧ a.ver < 281474976710656 ∧ (a.val.length : Int) ≤ 255) ∧ (a.rows.length : Int) ≤ 16 ∧ ¬ anyBad a.rows
noncomputable instance (a : An) : Decidable (isAns a) := Classical.propDecidable _
theorem f118_ok {a : An} (h : a.ok H) : FnOk Tryz.prog 118 [.agg a.enc] H fun r G => r = .bool (decide (isAns a)) ∧ G = H := by
  refine FnOk.drop (R := fun r => r = .bool (decide (isAns a))) ?_ (by rintro v rfl ρ; rw [AV.ren])
  refine FnOk.of_WW Tryz.func118 rfl C118ok R118ok E0 good_E0 ?_
  have hlen := fun G => h.1.len G
  simp only [List.length_map] at hlen
  simp only [go_sem, C118, An.enc, hlen]
  refine ⟨fun g => ⟨bool_f fun e => absurd e.1.1 (by omega), _, rfl⟩, fun g1 => ⟨fun g => ⟨bool_f fun e => absurd e.1.2.1 (by omega), _, rfl⟩, fun g2 => ⟨fun g => ⟨bool_f fun e => absurd e.1.2.2.1 (by omega), _, rfl⟩, fun g3 => ⟨fun g => ⟨bool_f fun e => absurd e.1.2.2.2.1 (by omega), _, rfl⟩, fun g4 => ⟨fun g => ⟨bool_f fun e => absurd e.1.2.2.2.2 (by omega), _, rfl⟩, fun g5 => ⟨fun g => ⟨bool_f fun e => absurd e.2.1 (by omega), _, rfl⟩, fun g6 => ?_⟩⟩⟩⟩⟩⟩
  refine CL.bool (f159_ok (h.1.ext _) h.2) (fun g7 => ?_) (fun g7 => ?_)
  · simp only [go_sem]
    exact ⟨bool_f fun e => e.2.2 g7, _, rfl⟩
  · simp only [go_sem]
    exact ⟨bool_t ⟨⟨by omega, by omega, by omega, by omega, by omega⟩, by omega, g7⟩, _, rfl⟩
end Go.Proofs
/- once: an answer's bytes; whether an answer may be, by the document: walked. -/

set_option linter.all false
set_option maxRecDepth 100000
namespace Go.Proofs
open Go Go.Ev
variable {H : Heap}

noncomputable def EO1 : FuncId → List AV → Heap → RC
  | 28, [.int .i64 n], H => if 0 ≤ n ∧ n < 9223372036854775808 then .ok (.str (numT n.toNat)) H else .fail
  | 30, [.str s], H => if s.length < 4611686018427387904 then .ok (.str (textT s)) H else .fail
  | _, _, _ => .fail
theorem good_EO1 : Ev.Good Tryz.prog EO1 := by
  intro f args H r G he φ w args' ha hw
  refine (?_ : FnOk Tryz.prog f args H fun v' G' => v' = r ∧ G' = G).one φ w args' ha hw
  unfold EO1 at he
  split at he
  · rename_i n
    split at he
    · rename_i hn
      cases he
      have := f28_ok (H := H) (n := n.toNat) (by omega)
      rwa [Int.toNat_of_nonneg hn.1] at this
    · cases he
  · split at he
    · rename_i hs
      cases he
      exact f30_ok hs
    · cases he
  · cases he
theorem e69 {n : Int} (h0 : 0 ≤ n) (h1 : n < 9223372036854775808) (H : Heap) : EO1 28 [.int .i64 n] H = .ok (.str (numT n.toNat)) H := if_pos ⟨h0, h1⟩
theorem e70 {s : List Nat} (h : s.length < 4611686018427387904) (H : Heap) : EO1 30 [.str s] H = .ok (.str (textT s)) H := if_pos h
def rowT (r : Rw) : List Nat := (textT r.k ++ textT r.v) ++ numT r.ver.toNat
def headT (a : An) : List Nat := ((numT a.code.toNat ++ textT a.val) ++ numT a.ver.toNat) ++ numT a.rows.length
def ansP (a : An) (i : Nat) : List Nat := (a.rows.take i).foldl (fun s r => s ++ rowT r) (headT a)
noncomputable def ansT (a : An) : List Nat := open Classical in if isAns a then ansP a a.rows.length else []
theorem ansP_succ {a : An} {i : Nat} {c : Rw} (h : a.rows[i]? = some c) : ansP a (i + 1) = ansP a i ++ rowT c := by
  obtain ⟨hl, rfl⟩ := List.getElem?_eq_some_iff.1 h
  unfold ansP
  rw [List.take_succ_eq_append_getElem hl, List.foldl_append]; rfl
theorem textT_len {s : List Nat} (h : (s.length : Int) ≤ 255) : (textT s).length ≤ 266 := by
  unfold textT
  rw [List.length_append]
  have := numT_small (n := s.length) (by omega)
  omega
theorem foldl_len (l : List Rw) : ∀ s : List Nat, s.length ≤ (l.foldl (fun s r => s ++ rowT r) s).length := by
  induction l with
  | nil => intro s; exact Nat.le_refl _
  | cons r l ih =>
    intro s
    refine Nat.le_trans ?_ (ih _)
    rw [List.length_append]; omega
theorem ansT_nil {a : An} : ansT a = [] ↔ ¬ isAns a := by
  unfold ansT
  by_cases h : isAns a
  · rw [if_pos h]
    refine ⟨fun e => ?_, fun g => absurd h g⟩
    have h1 := foldl_len (a.rows.take a.rows.length) (headT a)
    have h2 : (headT a).length = 0 := by
      have := congrArg List.length e
      unfold ansP at this
      rw [this] at h1
      simpa using h1
    unfold headT at h2
    have := numT_pos a.rows.length
    simp only [List.length_append] at h2
    omega
  · rw [if_neg h]; exact ⟨fun _ => h, fun _ => rfl⟩
theorem f72_ok {a : An} (h : a.ok H) : FnOk Tryz.prog 72 [.agg a.enc] H fun r G => r = .str (ansT a) ∧ G = H := by
  refine FnOk.assume fun hok => ?_
  refine FnOk.drop (R := fun r => r = .str (ansT a)) ?_ (by rintro v rfl ρ; rw [AV.ren])
  refine FnOk.of_WW Tryz.func72 rfl C72ok R72ok EO1 good_EO1 ?_
  have hans : isAns a → ansT a = ansP a a.rows.length := fun g => by unfold ansT; rw [if_pos g]
  have hnot : ¬ isAns a → ansT a = [] := ansT_nil.2
  have hsucc := @ansP_succ a
  have h0 : ansP a 0 = headT a := rfl
  have hbox := h
  obtain ⟨hA, hl⟩ := h
  have hlen := fun G => hA.len G
  simp only [List.length_map] at hlen
  have hren := hA.ren
  simp only [go_sem, C72, An.enc]
  refine CL.bool (f118_ok (a := a) (hbox.ext _)) (fun g => ?_) (fun g => ?_)
  · have hnb : ∀ r ∈ a.rows, ¬ badR r := fun r hr hb => g.2.2 ⟨r, hr, hb⟩
    have hr16 := g.2.1
    obtain ⟨c1, c2, c3, c4, c5⟩ := g.1
    have x1 := fun G => e69 c1 (by omega) G
    have x2 := fun G => e70 (s := a.val) (by omega) G
    have x3 := fun G => e69 c3 (by omega) G
    have x4 := fun G => e69 (n := (a.rows.length : Int)) (by omega) (by omega) G
    rw [Int.toNat_natCast] at x4
    have n1 := numT_small (n := a.code.toNat) (by omega)
    have n2 := textT_len c5
    have n3 := numT_small (n := a.ver.toNat) (by omega)
    have n4 := numT_small (n := a.rows.length) (by omega)
    have m1 : (numT a.code.toNat).length + (textT a.val).length ≤ 9223372036854775807 := by omega
    have m2 : (numT a.code.toNat).length + (textT a.val).length + (numT a.ver.toNat).length ≤ 9223372036854775807 := by omega
    have m3 : (numT a.code.toNat).length + (textT a.val).length + (numT a.ver.toNat).length + (numT a.rows.length).length ≤ 9223372036854775807 := by omega
    have mh : (headT a).length ≤ 1000 := by unfold headT; rw [List.length_append, List.length_append, List.length_append]; omega
    have hhead : numT a.code.toNat ++ textT a.val ++ numT a.ver.toNat ++ numT a.rows.length = headT a := rfl
    simp only [go_sem, hlen, x1, x2, x3, x4, m1, m2, m3, hhead]
    have hfin := hans g
    obtain ⟨code, val, ver, l, v⟩ := a
    simp only at hA hl hlen hren hnb hr16 hfin hsucc
    refine LL.st good_EO1 (fun i : Nat => l.length - i) (fun i => i ≤ l.length ∧ (ansP ⟨code, val, ver, l, v⟩ i).length ≤ 1000 + 1000 * i)
      (fun i => [((.o (.o .z)), .str (ansP ⟨code, val, ver, l, v⟩ i)), ((.i (.i (.o (.i .z)))), v), ((.o (.o (.i (.i .z)))), .int .i64 l.length), ((.i (.o (.i (.i .z)))), .int .i64 i)]) (fun i => []) ?_ 0 (σ := []) (Wk.of rfl (by decide) (by simp only [go_sem, hren, h0]) (by simp only [go_sem])) ⟨Nat.zero_le _, by rw [h0]; omega⟩
    rintro i ⟨hi, hpl⟩
    by_cases hlt : i < l.length
    · generalize hP : ansP ⟨code, val, ver, l, v⟩ = P at *
      obtain ⟨kk, r, ex', cap', wr, rows, hv, hrho, hgo, hrow⟩ := hA.at hok (j := i) (by rw [List.length_map]; exact hlt); simp only [List.length_map, List.getElem_map] at hv hrow; cases hv; have hget : l[i]? = some l[i] := List.getElem?_eq_getElem hlt; generalize l[i] = c at hrow hget; have hw := wrap_succ (n := i) (by omega); have hci : (i : Int) < (l.length : Int) := (by omega); have hsi : i + 1 ≤ l.length := (by omega)
      have hb := hnb c (List.mem_of_getElem? hget)
      have hs := hsucc hget
      have b1 : (c.k.length : Int) ≤ 255 := Int.not_lt.1 fun e => hb (.inl e)
      have b2 : (c.v.length : Int) ≤ 255 := Int.not_lt.1 fun e => hb (.inr (.inl e))
      have b3 : 0 ≤ c.ver := Int.not_lt.1 fun e => hb (.inr (.inr (.inl e)))
      have b4 : c.ver < 281474976710656 := Int.not_le.1 fun e => hb (.inr (.inr (.inr e)))
      have y1 := fun G => e70 (s := c.k) (by omega) G
      have y2 := fun G => e70 (s := c.v) (by omega) G
      have y3 := fun G => e69 b3 (by omega) G
      have n1 := textT_len b1
      have n2 := textT_len b2
      have n3 := numT_small (n := c.ver.toNat) (by omega)
      have q1 : (textT c.k).length + (textT c.v).length ≤ 9223372036854775807 := by omega
      have q2 : (textT c.k).length + (textT c.v).length + (numT c.ver.toNat).length ≤ 9223372036854775807 := by omega
      have q3 : (P i).length + ((textT c.k).length + (textT c.v).length + (numT c.ver.toNat).length) ≤ 9223372036854775807 := by omega
      have hrow2 : textT c.k ++ textT c.v ++ numT c.ver.toNat = rowT c := rfl
      have hrl : (rowT c).length = (textT c.k).length + (textT c.v).length + (numT c.ver.toNat).length := by unfold rowT; rw [List.length_append, List.length_append]
      simp only [go_sem, hci, hsi, hgo, hrow, hw, Rw.enc, y1, y2, y3, q1, q2, q3, hrow2]
      refine ⟨by omega, i + 1, by show l.length - (i + 1) < l.length - i; omega, ⟨by omega, ?_⟩, _, [], rfl, Wk.of rfl (by decide) (by simp only [go_sem, hrho, hw, hs]) (by simp only [go_sem])⟩
      rw [hs, List.length_append]
      omega
    · have hci : ¬ (i : Int) < (l.length : Int) := by omega
      simp only [go_sem, hci]
      rw [hfin, show i = l.length by omega]
      exact ⟨rfl, _, rfl⟩
  · simp only [go_sem]
    rw [hnot g]
    exact ⟨rfl, _, rfl⟩
end Go.Proofs
/- once: whether they are any, few, the same: walked. -/

set_option linter.all false
set_option maxRecDepth 100000
namespace Go.Proofs
open Go Go.Ev
variable {H : Heap}

/-- what was done of a session last -/
structure Dn where
  ses : Int
  id : Int
  an : An
theorem off6 (a b c : Nat) : a * 6 + b + c = a * 6 + (b + c) := Nat.add_assoc ..
theorem wrap01 : IntKind.i64.wrap (0 + 1) = 1 := rfl
def Dn.enc (d : Dn) : List AV := [.int .i64 d.ses, .int .i64 d.id, .int .i64 d.an.code, .str d.an.val, .int .i64 d.an.ver, d.an.rv]
def allOk (H : Heap) (l : List Dn) : Prop := ∀ d ∈ l, d.an.ok H
theorem allOk.ext {l : List Dn} (h : allOk H l) (L : List Blk) : allOk (H.ext L) l := fun d hd => (h d hd).ext L
theorem An.ok.ren {a : An} (h : a.ok H) (top : Nat) (σ : List Nat) : AV.ren (rho H top σ) a.rv = a.rv := h.1.ren top σ
theorem Dn.ren1 {d : Dn} (h : d.an.ok H) (top : Nat) (σ : List Nat) : AV.rens (rho H top σ) d.enc = d.enc := by
  simp only [Dn.enc, AV.rens, AV.ren, h.ren]
theorem allOk.rens {l : List Dn} (h : allOk H l) (top : Nat) (σ : List Nat) : (l.map Dn.enc).map (AV.rens (rho H top σ)) = l.map Dn.enc := by
  rw [List.map_map]; exact List.map_congr_left fun d hd => Dn.ren1 (h d hd) top σ
def okD (d : Dn) : Prop := (0 ≤ d.ses ∧ d.ses < 3 ∧ 1 ≤ d.id ∧ d.id ≤ 1000000000000) ∧ isAns d.an
def okDt (l : List Dn) (j : Nat) : Prop := ∃ c, l[j]? = some c ∧ okD c ∧ (0 < j → ∃ d, l[j - 1]? = some d ∧ d.ses < c.ses)
def isDone (l : List Dn) : Prop := ∀ j, j < l.length → okDt l j
noncomputable instance (l : List Dn) : Decidable (isDone l) := Classical.propDecidable _
theorem f117_ok {v : AV} {l : List Dn} (hA : Arr H 6 v (l.map Dn.enc)) (ha : allOk H l) (hl : l.length < 9223372036854775807) :
    FnOk Tryz.prog 117 [v] H fun r G => r = .bool (decide (isDone l)) ∧ G = H := by
  refine FnOk.assume fun hok => ?_
  refine FnOk.drop (R := fun r => r = .bool (decide (isDone l))) ?_ (by rintro v rfl ρ; rw [AV.ren])
  refine FnOk.of_WW Tryz.func117 rfl C117ok R117ok E0 good_E0 ?_
  have hlen := fun G => hA.len G; simp only [List.length_map] at hlen; have hren := hA.ren
  simp only [go_sem, C117, hlen]
  refine LL.st good_E0 (fun i : Nat => l.length - i) (fun i => i ≤ l.length ∧ ∀ j, j < i → okDt l j)
    (fun i => [(.z, v), ((.o (.i .z)), v), ((.i (.i .z)), .int .i64 l.length), ((.o (.o (.o .z))), .int .i64 i)]) (fun i => []) ?_ 0 (σ := []) (Wk.of rfl (by decide) (by simp only [go_sem, hren]) (by simp only [go_sem])) ⟨Nat.zero_le _, fun j h => absurd h (Nat.not_lt_zero _)⟩
  rintro i ⟨hi, hno⟩
  by_cases hlt : i < l.length
  · obtain ⟨kk, r, ex', cap', wr, rows, hv, hrho, hgo, hrow⟩ := hA.at hok (j := i) (by rw [List.length_map]; exact hlt); simp only [List.length_map, List.getElem_map] at hv hrow; cases hv; have hget : l[i]? = some l[i] := List.getElem?_eq_getElem hlt; generalize l[i] = c at hrow hget; have hw := wrap_succ (n := i) (by omega); have hci : (i : Int) < (l.length : Int) := (by omega); have hsi : i + 1 ≤ l.length := (by omega)
    have hco := ha c (List.mem_of_getElem? hget)
    have hbad : ¬ okDt l i → AV.bool false = .bool (decide (isDone l)) := fun h => bool_f fun g => h (g i hlt)
    have hb1 : ¬ okD c → ¬ okDt l i := fun g ⟨c', h1, h2, _⟩ => by rw [hget] at h1; cases h1; exact g h2
    have hend : ∀ L, WW Tryz.prog E0 Tryz.f117.ntmps H [] L (H.ext []) (fun _ _ _ => True) → True := fun _ _ => trivial
    simp only [go_sem, hci, hsi, hgo, hrow, hw, Dn.enc]
    refine ⟨fun g1 => ⟨hbad (hb1 fun e => absurd e.1.1 (by omega)), _, rfl⟩, fun g1 => ⟨fun g2 => ⟨hbad (hb1 fun e => absurd e.1.2.1 (by omega)), _, rfl⟩, fun g2 => ?_⟩⟩
    rcases i with _ | i
    · simp only [go_sem, Int.ofNat_zero, Int.lt_irrefl]
      refine ⟨fun g3 => ⟨hbad (hb1 fun e => absurd e.1.2.2.1 (by omega)), _, rfl⟩, fun g3 => ⟨fun g4 => ⟨hbad (hb1 fun e => absurd e.1.2.2.2 (by omega)), _, rfl⟩, fun g4 => ?_⟩⟩
      refine CL.one (f72_ok (a := c.an) (hco.ext _)) ?_
      by_cases hans : isAns c.an
      · have hne : ¬ ansT c.an = [] := fun e => ansT_nil.1 e hans
        simp only [go_sem, hne, hw]
        refine ⟨0 + 1, by show l.length - (0 + 1) < l.length - 0; omega, ⟨by omega, fun j hj => ?_⟩, _, [], rfl, Wk.of rfl (by decide) (by simp only [go_sem, hren, hrho, hw, wrap01]) (by simp only [go_sem])⟩
        obtain rfl : j = 0 := by omega
        exact ⟨c, hget, ⟨⟨by omega, by omega, by omega, by omega⟩, hans⟩, fun h => absurd h (by decide)⟩
      · have hne : ansT c.an = [] := ansT_nil.2 hans
        simp only [go_sem, hne]
        exact ⟨hbad (hb1 fun e => hans e.2), _, rfl⟩
    · have hpos : (0 : Int) < ((i + 1 : Nat) : Int) := by omega
      have hp : IntKind.i64.wrap (((i + 1 : Nat) : Int) - 1) = (i : Int) := by rw [wrap_i64 (by omega) (by omega)]; omega
      have hltj : i < l.length := by omega
      obtain ⟨kk2, r2, ex2, cap2, wr2, rows2, hv2, _, hgo2, hrow2⟩ := hA.at hok (j := i) (by rw [List.length_map]; exact hltj); simp only [List.length_map, List.getElem_map] at hv2 hrow2; have hgetd : l[i]? = some l[i] := List.getElem?_eq_getElem hltj; generalize l[i] = d at hrow2 hgetd; injection hv2 with e1 e2 e3 e4 e5 e6; have e2' : r2 = r := (by omega); subst e1 e2'; have hrr := hgo2 []; rw [hgo []] at hrr; cases hrr
      have hsj : i + 1 ≤ l.length := by omega
      have hi0 : (0 : Int) ≤ (i : Int) := by omega
      simp only [go_sem, hpos, hp, hi0, hsj, hgo, hrow2, Dn.enc]
      refine ⟨fun g5 => ⟨hbad ?_, _, rfl⟩, fun g5 => ?_⟩
      · rintro ⟨c', h1, _, h2⟩
        obtain ⟨d', h3, h4⟩ := h2 (by omega)
        rw [hget] at h1; cases h1
        rw [Nat.add_sub_cancel, hgetd] at h3; cases h3
        omega
      refine ⟨fun g3 => ⟨hbad (hb1 fun e => absurd e.1.2.2.1 (by omega)), _, rfl⟩, fun g3 => ⟨fun g4 => ⟨hbad (hb1 fun e => absurd e.1.2.2.2 (by omega)), _, rfl⟩, fun g4 => ?_⟩⟩
      refine CL.one (f72_ok (a := c.an) (hco.ext _)) ?_
      by_cases hans : isAns c.an
      · have hne : ¬ ansT c.an = [] := fun e => ansT_nil.1 e hans
        simp only [go_sem, hne, hw]
        refine ⟨i + 1 + 1, by show l.length - (i + 1 + 1) < l.length - (i + 1); omega, ⟨by omega, fun j hj => ?_⟩, _, [], rfl, Wk.of rfl (by decide) (by simp only [go_sem, hren, hrho, hw, wrap01]) (by simp only [go_sem])⟩
        rcases Nat.lt_or_ge j (i + 1) with h | h
        · exact hno j h
        · obtain rfl : j = i + 1 := by omega
          exact ⟨c, hget, ⟨⟨by omega, by omega, by omega, by omega⟩, hans⟩, fun _ => ⟨d, by rw [Nat.add_sub_cancel]; exact hgetd, by omega⟩⟩
      · have hne : ansT c.an = [] := ansT_nil.2 hans
        simp only [go_sem, hne]
        exact ⟨hbad (hb1 fun e => hans e.2), _, rfl⟩
  · have hci : ¬ (i : Int) < (l.length : Int) := by omega
    simp only [go_sem, hci]
    exact ⟨bool_t fun j hj => hno j (by omega), _, rfl⟩
def fewD (l : List Dn) : Prop := (∀ d ∈ l, (d.an.val.length : Int) ≤ 60 ∧ (d.an.rows.length : Int) ≤ 8) ∧ (l.length : Int) ≤ 10
instance (l : List Dn) : Decidable (fewD l) := inferInstanceAs (Decidable (_ ∧ _))
end Go.Proofs
/- once: the same answers, the same rows of what was done, where a session's is: walked. -/

set_option linter.all false
set_option maxRecDepth 100000
namespace Go.Proofs
open Go Go.Ev
variable {H : Heap}

def sameA (a b : An) : Prop := a.code = b.code ∧ a.val = b.val ∧ a.ver = b.ver ∧ a.rows = b.rows
noncomputable instance (a b : An) : Decidable (sameA a b) := Classical.propDecidable _
theorem Rw.enc_one {a b : Rw} (h : a.enc = b.enc) : a = b := by
  simp [Rw.enc] at h
  exact Rw.enc_inj h
noncomputable def rwsOf (H : Heap) (v : AV) : Option (List Rw) := open Classical in if h : ∃ l : List Rw, Arr H 3 v (l.map Rw.enc) ∧ l.length ≤ 9223372036854775807 then some (Classical.choose h) else none
theorem rwsOf_eq {v : AV} {l : List Rw} (h : Arr H 3 v (l.map Rw.enc)) (hl : l.length ≤ 9223372036854775807) : rwsOf H v = some l := by
  unfold rwsOf
  have hex : ∃ l : List Rw, Arr H 3 v (l.map Rw.enc) ∧ l.length ≤ 9223372036854775807 := ⟨l, h, hl⟩
  rw [dif_pos hex]
  congr 1
  have := Arr.uniq (Classical.choose_spec hex).1 h (by decide)
  exact List.map_inj_right (fun _ _ => Rw.enc_one) |>.1 this
theorem rwsOf_spec {v : AV} {l : List Rw} (h : rwsOf H v = some l) : Arr H 3 v (l.map Rw.enc) ∧ l.length ≤ 9223372036854775807 := by
  unfold rwsOf at h
  split at h
  · rename_i hex
    cases h
    exact Classical.choose_spec hex
  · cases h
def sameDn (c d : Dn) : Prop := c.ses = d.ses ∧ c.id = d.id ∧ sameA c.an d.an
/-- the same rows of what was done -/
def sameD (l m : List Dn) : Prop := l.length = m.length ∧ ∀ (i : Nat) (c d : Dn), l[i]? = some c → m[i]? = some d → sameDn c d
noncomputable instance (l m : List Dn) : Decidable (sameD l m) := Classical.propDecidable _
def findD : List Dn → Int → Option Dn
  | [], _ => none
  | d :: l, s => if d.ses = s then some d else findD l s
theorem findD_mem : ∀ {l : List Dn} {s : Int} {d : Dn}, findD l s = some d → d ∈ l ∧ d.ses = s
  | [], _, _, h => by cases h
  | c :: l, s, d, h => by
    unfold findD at h
    split at h
    · cases h; rename_i hk; exact ⟨by simp, hk⟩
    · obtain ⟨h1, h2⟩ := findD_mem h; exact ⟨by simp [h1], h2⟩
def zeroA : An := ⟨0, [], 0, [], .nils⟩
end Go.Proofs
/- once: what was done, the plain law. -/

set_option linter.all false
set_option maxRecDepth 100000
namespace Go.Proofs
open Go Go.Ev
def risesD (l : List Dn) : Prop := ∀ (p q : Nat) (c d : Dn), p < q → l[p]? = some c → l[q]? = some d → c.ses < d.ses
def hasAtD (l : List Dn) (k : Int) (i : Nat) : Prop := ∃ c, l[i]? = some c ∧ c.ses = k
def lowAtD (l : List Dn) (k : Int) (i : Nat) : Prop := i ≤ l.length ∧ (∀ q c, q < i → l[q]? = some c → c.ses < k) ∧ ∀ q c, i ≤ q → l[q]? = some c → ¬ c.ses < k
abbrev upD (l : List Dn) : Prop := l.Pairwise fun c d => c.ses < d.ses
theorem upD_cons {c : Dn} {l : List Dn} : upD (c :: l) ↔ (∀ d ∈ l, c.ses < d.ses) ∧ upD l := List.pairwise_cons
theorem isDone_cons {c : Dn} {l : List Dn} : isDone (c :: l) ↔ okD c ∧ (∀ d, l[0]? = some d → c.ses < d.ses) ∧ isDone l := by
  constructor
  · intro h
    obtain ⟨c', h0, h1, _⟩ := h 0 (by simp)
    cases h0
    refine ⟨h1, fun d hd => ?_, fun j hj => ?_⟩
    · obtain ⟨e, g0, _, g2⟩ := h 1 (by have := (List.getElem?_eq_some_iff.1 hd).1; simp; omega)
      obtain ⟨c', g3, g4⟩ := g2 (by decide)
      rw [List.getElem?_cons_succ, hd] at g0; cases g0
      cases g3; exact g4
    · obtain ⟨e, g0, g1, g2⟩ := h (j + 1) (by simp; omega)
      rw [List.getElem?_cons_succ] at g0
      refine ⟨e, g0, g1, fun h0 => ?_⟩
      obtain ⟨c', g3, g4⟩ := g2 (by omega)
      rw [show j + 1 - 1 = (j - 1) + 1 by omega, List.getElem?_cons_succ] at g3
      exact ⟨c', g3, g4⟩
  · rintro ⟨h1, h2, h3⟩ j hj
    cases j with
    | zero => exact ⟨c, rfl, h1, fun h => absurd h (by decide)⟩
    | succ j =>
      obtain ⟨e, g0, g1, g2⟩ := h3 j (by simp at hj; omega)
      refine ⟨e, by rw [List.getElem?_cons_succ]; exact g0, g1, fun _ => ?_⟩
      cases j with
      | zero => exact ⟨c, rfl, h2 e g0⟩
      | succ j => obtain ⟨d, g3, g4⟩ := g2 (by omega); exact ⟨d, by simpa using g3, g4⟩
theorem done_iff : ∀ {l : List Dn}, isDone l ↔ (∀ c ∈ l, okD c) ∧ upD l
  | [] => ⟨fun _ => ⟨by simp, .nil⟩, fun _ j hj => by simp at hj⟩
  | c :: l => by
    rw [isDone_cons, done_iff (l := l), upD_cons]
    constructor
    · rintro ⟨h1, h2, h3, h4⟩
      refine ⟨by simpa using ⟨h1, h3⟩, fun d hd => ?_, h4⟩
      cases l with
      | nil => simp at hd
      | cons e l =>
        have he := h2 e rfl
        rcases List.mem_cons.1 hd with rfl | hd
        · exact he
        · exact Int.lt_trans he ((upD_cons.1 h4).1 d hd)
    · rintro ⟨h1, h2, h4⟩
      exact ⟨h1 c (by simp), fun d hd => h2 d (List.mem_of_getElem? hd), fun d hd => h1 d (by simp [hd]), h4⟩
theorem upD_rises {l : List Dn} (h : upD l) : risesD l := by
  intro p q c d hpq hc hd
  obtain ⟨hp, rfl⟩ := List.getElem?_eq_some_iff.1 hc
  obtain ⟨hq, rfl⟩ := List.getElem?_eq_some_iff.1 hd
  exact List.pairwise_iff_getElem.1 h p q hp hq hpq
/-- one put in its place, f where its ses is there -/
noncomputable def putGD (f : Dn → Dn → Dn) : List Dn → Dn → List Dn
  | [], x => [x]
  | d :: l, x => if d.ses < x.ses then d :: putGD f l x else if d.ses = x.ses then f d x :: l else x :: d :: l
theorem lowAtD_tail {d : Dn} {l : List Dn} {k : Int} {i : Nat} (h : lowAtD (d :: l) k (i + 1)) : d.ses < k ∧ lowAtD l k i :=
  ⟨h.2.1 0 d (by omega) rfl, by have := h.1; simp at this; omega, fun q c hq hc => h.2.1 (q + 1) c (by omega) (by simpa using hc), fun q c hq hc => h.2.2 (q + 1) c (by omega) (by simpa using hc)⟩
theorem putGD_has {f : Dn → Dn → Dn} {x : Dn} : ∀ {l : List Dn} {i : Nat} {d : Dn}, lowAtD l x.ses i → l[i]? = some d → d.ses = x.ses → putGD f l x = l.set i (f d x)
  | [], i, d, _, h, _ => by simp at h
  | e :: l, 0, d, h, hd, hk => by
    cases hd
    rw [putGD, if_neg (by rw [hk]; exact Int.lt_irrefl _), if_pos hk]; rfl
  | e :: l, i + 1, d, h, hd, hk => by
    obtain ⟨h1, h2⟩ := lowAtD_tail h
    rw [putGD, if_pos h1, putGD_has h2 (by simpa using hd) hk]; rfl
theorem putGD_not {f : Dn → Dn → Dn} {x : Dn} : ∀ {l : List Dn} {i : Nat}, lowAtD l x.ses i → ¬ hasAtD l x.ses i → putGD f l x = l.take i ++ x :: l.drop i
  | [], i, h, _ => by
    obtain rfl : i = 0 := by have := h.1; simp at this; exact this
    rfl
  | e :: l, 0, h, hk => by
    have h1 : ¬ e.ses < x.ses := h.2.2 0 e (Nat.le_refl _) rfl
    rw [putGD, if_neg h1, if_neg (fun g => hk ⟨e, rfl, g⟩)]; rfl
  | e :: l, i + 1, h, hk => by
    obtain ⟨h1, h2⟩ := lowAtD_tail h
    rw [putGD, if_pos h1, putGD_not h2 (fun ⟨c, hc, g⟩ => hk ⟨c, by simpa using hc, g⟩)]; rfl
theorem mem_putGD {f : Dn → Dn → Dn} {x c : Dn} : ∀ {l : List Dn}, c ∈ putGD f l x → c = x ∨ c ∈ l ∨ ∃ d ∈ l, d.ses = x.ses ∧ c = f d x
  | [], h => by simp [putGD] at h; exact .inl h
  | d :: l, h => by
    unfold putGD at h
    split at h
    · rcases List.mem_cons.1 h with rfl | h
      · exact .inr (.inl (by simp))
      · rcases mem_putGD h with h | h | ⟨e, h1, h2⟩
        · exact .inl h
        · exact .inr (.inl (by simp [h]))
        · exact .inr (.inr ⟨e, by simp [h1], h2⟩)
    · split at h
      · rename_i hk
        rcases List.mem_cons.1 h with rfl | h
        · exact .inr (.inr ⟨d, by simp, hk, rfl⟩)
        · exact .inr (.inl (by simp [h]))
      · rcases List.mem_cons.1 h with rfl | h
        · exact .inl rfl
        · exact .inr (.inl h)
theorem putGD_len {f : Dn → Dn → Dn} {x : Dn} : ∀ {l : List Dn}, (putGD f l x).length ≤ l.length + 1
  | [] => by simp [putGD]
  | d :: l => by
    unfold putGD
    split
    · have := putGD_len (f := f) (x := x) (l := l)
      simp only [List.length_cons]; omega
    · split <;> simp
theorem findD_at : ∀ {l : List Dn} {c : Dn}, upD l → c ∈ l → findD l c.ses = some c
  | d :: l, c, h, hc => by
    obtain ⟨h1, h2⟩ := upD_cons.1 h
    rcases List.mem_cons.1 hc with rfl | hc
    · rw [findD, if_pos rfl]
    · rw [findD, if_neg (fun e => by have := h1 c hc; rw [e] at this; exact Int.lt_irrefl _ this), findD_at h2 hc]
end Go.Proofs
