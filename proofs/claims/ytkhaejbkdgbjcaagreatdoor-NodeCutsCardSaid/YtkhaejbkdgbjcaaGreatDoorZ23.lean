/- NodeCuts: states. Printed by a program. -/
import Derived.Test.YtkhaejbkdgbjcaaGreatDoorZ22
import Derived.KernelRfl
set_option linter.all false
set_option maxRecDepth 100000
namespace Go.Proofs
open Go Go.Ev
/-- the first six names -/
def pre6 : List K := [K.z, K.z.o, K.z.i, K.z.o.o, K.z.o.i, K.z.i.o]
theorem pre6_ok (l : List K) : ∀ i, i < 6 → (pre6 ++ l)[i]? = some (hp0.key i)
  | 0, _ => rfl
  | 1, _ => rfl
  | 2, _ => rfl
  | 3, _ => rfl
  | 4, _ => rfl
  | 5, _ => rfl
  | n + 6, h => absurd h (by omega)
/-- behind c puts; split; joined -/
def tP : Nat → List Blk
  | 0 => [.row true 2 [[.str [47, 152, 82, 102, 24, 1, 0, 0, 0, 0, 0, 0, 0, 1, 13, 113, 135, 31, 170, 8, 1, 1, 0, 0, 0, 0, 0, 0, 0], .int .i64 0]],
    .row true 2 [[.ptr K.z.i 0, .int .i64 1]],
    .row true 2 [[.slice K.z.i.i 0 1 8 false 1, .nils]],
    .map [],
    .row true 8 [[.int .i64 1, .int .i64 1, .str [], .str [], .bool false, .nils, .nils, .nils]]]
  | 1 => [.row true 2 [[.str [47, 152, 82, 102, 24, 1, 0, 0, 0, 0, 0, 0, 0, 1, 13, 113, 135, 31, 170, 8, 1, 1, 0, 0, 0, 0, 0, 0, 0, 201, 212, 22, 39, 18, 2, 0, 1, 0, 0, 0, 2, 1, 97, 0, 1, 118, 0, 0, 0, 0, 0, 0], .int .i64 23]],
    .row true 2 [[.ptr K.z.i 0, .int .i64 2]],
    .row true 2 [[.slice K.z.i.i 0 1 8 false 1, .nils]],
    .map [],
    .row true 8 [[.int .i64 1, .int .i64 1, .str [], .str [], .bool false, .slice K.z.o.o.o 0 1 5 false 1, .slice K.z.o.o.i 0 1 4 false 1, .slice K.z.o.i.o 0 1 6 false 1]],
    .row true 5 [[.str [97], .str [118], .int .i64 1, .bool false, .int .i64 0]],
    .row true 4 [[.str [97], .int .i64 1, .str [118], .bool false]],
    .row true 6 [[.int .i64 0, .int .i64 1, .int .i64 0, .str [], .int .i64 1, .nils]]]
  | 2 => [.row true 2 [[.str [47, 152, 82, 102, 24, 1, 0, 0, 0, 0, 0, 0, 0, 1, 13, 113, 135, 31, 170, 8, 1, 1, 0, 0, 0, 0, 0, 0, 0, 201, 212, 22, 39, 18, 2, 0, 1, 0, 0, 0, 2, 1, 97, 0, 1, 118, 0, 0, 0, 0, 0, 0, 4, 187, 251, 244, 18, 2, 0, 2, 0, 0, 0, 2, 1, 99, 0, 1, 118, 0, 0, 0, 0, 0, 0], .int .i64 46]],
    .row true 2 [[.ptr K.z.i 0, .int .i64 3]],
    .row true 2 [[.slice K.z.i.i 0 1 8 false 1, .nils]],
    .map [],
    .row true 8 [[.int .i64 1, .int .i64 1, .str [], .str [], .bool false, .slice K.z.o.o.o 0 2 5 false 2, .slice K.z.o.o.i 0 2 4 false 2, .slice K.z.o.i.o 0 1 6 false 1]],
    .row true 5 [[.str [97], .str [118], .int .i64 1, .bool false, .int .i64 0], [.str [99], .str [118], .int .i64 1, .bool false, .int .i64 0]],
    .row true 4 [[.str [97], .int .i64 1, .str [118], .bool false], [.str [99], .int .i64 1, .str [118], .bool false]],
    .row true 6 [[.int .i64 0, .int .i64 2, .int .i64 0, .str [], .int .i64 1, .nils]]]
  | 3 => [.row true 2 [[.str [47, 152, 82, 102, 24, 1, 0, 0, 0, 0, 0, 0, 0, 1, 13, 113, 135, 31, 170, 8, 1, 1, 0, 0, 0, 0, 0, 0, 0, 201, 212, 22, 39, 18, 2, 0, 1, 0, 0, 0, 2, 1, 97, 0, 1, 118, 0, 0, 0, 0, 0, 0, 4, 187, 251, 244, 18, 2, 0, 2, 0, 0, 0, 2, 1, 99, 0, 1, 118, 0, 0, 0, 0, 0, 0, 227, 176, 126, 249, 18, 2, 0, 3, 0, 0, 0, 2, 1, 101, 0, 1, 118, 0, 0, 0, 0, 0, 0], .int .i64 69]],
    .row true 2 [[.ptr K.z.i 0, .int .i64 4]],
    .row true 2 [[.slice K.z.i.i 0 1 8 false 1, .nils]],
    .map [],
    .row true 8 [[.int .i64 1, .int .i64 1, .str [], .str [], .bool false, .slice K.z.o.o.o 0 3 5 false 3, .slice K.z.o.o.i 0 3 4 false 3, .slice K.z.o.i.o 0 1 6 false 1]],
    .row true 5 [[.str [97], .str [118], .int .i64 1, .bool false, .int .i64 0], [.str [99], .str [118], .int .i64 1, .bool false, .int .i64 0], [.str [101], .str [118], .int .i64 1, .bool false, .int .i64 0]],
    .row true 4 [[.str [97], .int .i64 1, .str [118], .bool false], [.str [99], .int .i64 1, .str [118], .bool false], [.str [101], .int .i64 1, .str [118], .bool false]],
    .row true 6 [[.int .i64 0, .int .i64 3, .int .i64 0, .str [], .int .i64 1, .nils]]]
  | 4 => [.row true 2 [[.str [47, 152, 82, 102, 24, 1, 0, 0, 0, 0, 0, 0, 0, 1, 13, 113, 135, 31, 170, 8, 1, 1, 0, 0, 0, 0, 0, 0, 0, 201, 212, 22, 39, 18, 2, 0, 1, 0, 0, 0, 2, 1, 97, 0, 1, 118, 0, 0, 0, 0, 0, 0, 4, 187, 251, 244, 18, 2, 0, 2, 0, 0, 0, 2, 1, 99, 0, 1, 118, 0, 0, 0, 0, 0, 0, 227, 176, 126, 249, 18, 2, 0, 3, 0, 0, 0, 2, 1, 101, 0, 1, 118, 0, 0, 0, 0, 0, 0, 162, 23, 26, 109, 18, 2, 0, 4, 0, 0, 0, 2, 1, 103, 0, 1, 118, 0, 0, 0, 0, 0, 0], .int .i64 92]],
    .row true 2 [[.ptr K.z.i 0, .int .i64 5]],
    .row true 2 [[.slice K.z.i.i 0 1 8 false 1, .nils]],
    .map [],
    .row true 8 [[.int .i64 1, .int .i64 1, .str [], .str [], .bool false, .slice K.z.o.o.o 0 4 5 false 4, .slice K.z.o.o.i 0 4 4 false 4, .slice K.z.o.i.o 0 1 6 false 1]],
    .row true 5 [[.str [97], .str [118], .int .i64 1, .bool false, .int .i64 0], [.str [99], .str [118], .int .i64 1, .bool false, .int .i64 0], [.str [101], .str [118], .int .i64 1, .bool false, .int .i64 0], [.str [103], .str [118], .int .i64 1, .bool false, .int .i64 0]],
    .row true 4 [[.str [97], .int .i64 1, .str [118], .bool false], [.str [99], .int .i64 1, .str [118], .bool false], [.str [101], .int .i64 1, .str [118], .bool false], [.str [103], .int .i64 1, .str [118], .bool false]],
    .row true 6 [[.int .i64 0, .int .i64 4, .int .i64 0, .str [], .int .i64 1, .nils]]]
  | 5 => [.row true 2 [[.str [47, 152, 82, 102, 24, 1, 0, 0, 0, 0, 0, 0, 0, 1, 13, 113, 135, 31, 170, 8, 1, 1, 0, 0, 0, 0, 0, 0, 0, 201, 212, 22, 39, 18, 2, 0, 1, 0, 0, 0, 2, 1, 97, 0, 1, 118, 0, 0, 0, 0, 0, 0, 4, 187, 251, 244, 18, 2, 0, 2, 0, 0, 0, 2, 1, 99, 0, 1, 118, 0, 0, 0, 0, 0, 0, 227, 176, 126, 249, 18, 2, 0, 3, 0, 0, 0, 2, 1, 101, 0, 1, 118, 0, 0, 0, 0, 0, 0, 162, 23, 26, 109, 18, 2, 0, 4, 0, 0, 0, 2, 1, 103, 0, 1, 118, 0, 0, 0, 0, 0, 0, 85, 217, 43, 82, 18, 2, 0, 5, 0, 0, 0, 2, 1, 105, 0, 1, 118, 0, 0, 0, 0, 0, 0], .int .i64 115]],
    .row true 2 [[.ptr K.z.i 0, .int .i64 6]],
    .row true 2 [[.slice K.z.i.i 0 1 8 false 1, .nils]],
    .map [],
    .row true 8 [[.int .i64 1, .int .i64 1, .str [], .str [], .bool false, .slice K.z.o.o.o 0 5 5 false 5, .slice K.z.o.o.i 0 5 4 false 5, .slice K.z.o.i.o 0 1 6 false 1]],
    .row true 5 [[.str [97], .str [118], .int .i64 1, .bool false, .int .i64 0], [.str [99], .str [118], .int .i64 1, .bool false, .int .i64 0], [.str [101], .str [118], .int .i64 1, .bool false, .int .i64 0], [.str [103], .str [118], .int .i64 1, .bool false, .int .i64 0], [.str [105], .str [118], .int .i64 1, .bool false, .int .i64 0]],
    .row true 4 [[.str [97], .int .i64 1, .str [118], .bool false], [.str [99], .int .i64 1, .str [118], .bool false], [.str [101], .int .i64 1, .str [118], .bool false], [.str [103], .int .i64 1, .str [118], .bool false], [.str [105], .int .i64 1, .str [118], .bool false]],
    .row true 6 [[.int .i64 0, .int .i64 5, .int .i64 0, .str [], .int .i64 1, .nils]]]
  | 6 => [.row true 2 [[.str [47, 152, 82, 102, 24, 1, 0, 0, 0, 0, 0, 0, 0, 1, 13, 113, 135, 31, 170, 8, 1, 1, 0, 0, 0, 0, 0, 0, 0, 201, 212, 22, 39, 18, 2, 0, 1, 0, 0, 0, 2, 1, 97, 0, 1, 118, 0, 0, 0, 0, 0, 0, 4, 187, 251, 244, 18, 2, 0, 2, 0, 0, 0, 2, 1, 99, 0, 1, 118, 0, 0, 0, 0, 0, 0, 227, 176, 126, 249, 18, 2, 0, 3, 0, 0, 0, 2, 1, 101, 0, 1, 118, 0, 0, 0, 0, 0, 0, 162, 23, 26, 109, 18, 2, 0, 4, 0, 0, 0, 2, 1, 103, 0, 1, 118, 0, 0, 0, 0, 0, 0, 85, 217, 43, 82, 18, 2, 0, 5, 0, 0, 0, 2, 1, 105, 0, 1, 118, 0, 0, 0, 0, 0, 0, 80, 250, 51, 195, 18, 2, 0, 6, 0, 0, 0, 2, 1, 107, 0, 1, 118, 0, 0, 0, 0, 0, 0], .int .i64 138]],
    .row true 2 [[.ptr K.z.i 0, .int .i64 7]],
    .row true 2 [[.slice K.z.i.i 0 1 8 false 1, .nils]],
    .map [],
    .row true 8 [[.int .i64 1, .int .i64 1, .str [], .str [], .bool false, .slice K.z.o.o.o 0 6 5 false 6, .slice K.z.o.o.i 0 6 4 false 6, .slice K.z.o.i.o 0 1 6 false 1]],
    .row true 5 [[.str [97], .str [118], .int .i64 1, .bool false, .int .i64 0], [.str [99], .str [118], .int .i64 1, .bool false, .int .i64 0], [.str [101], .str [118], .int .i64 1, .bool false, .int .i64 0], [.str [103], .str [118], .int .i64 1, .bool false, .int .i64 0], [.str [105], .str [118], .int .i64 1, .bool false, .int .i64 0], [.str [107], .str [118], .int .i64 1, .bool false, .int .i64 0]],
    .row true 4 [[.str [97], .int .i64 1, .str [118], .bool false], [.str [99], .int .i64 1, .str [118], .bool false], [.str [101], .int .i64 1, .str [118], .bool false], [.str [103], .int .i64 1, .str [118], .bool false], [.str [105], .int .i64 1, .str [118], .bool false], [.str [107], .int .i64 1, .str [118], .bool false]],
    .row true 6 [[.int .i64 0, .int .i64 6, .int .i64 0, .str [], .int .i64 1, .nils]]]
  | 7 => [.row true 2 [[.str [47, 152, 82, 102, 24, 1, 0, 0, 0, 0, 0, 0, 0, 1, 13, 113, 135, 31, 170, 8, 1, 1, 0, 0, 0, 0, 0, 0, 0, 201, 212, 22, 39, 18, 2, 0, 1, 0, 0, 0, 2, 1, 97, 0, 1, 118, 0, 0, 0, 0, 0, 0, 4, 187, 251, 244, 18, 2, 0, 2, 0, 0, 0, 2, 1, 99, 0, 1, 118, 0, 0, 0, 0, 0, 0, 227, 176, 126, 249, 18, 2, 0, 3, 0, 0, 0, 2, 1, 101, 0, 1, 118, 0, 0, 0, 0, 0, 0, 162, 23, 26, 109, 18, 2, 0, 4, 0, 0, 0, 2, 1, 103, 0, 1, 118, 0, 0, 0, 0, 0, 0, 85, 217, 43, 82, 18, 2, 0, 5, 0, 0, 0, 2, 1, 105, 0, 1, 118, 0, 0, 0, 0, 0, 0, 80, 250, 51, 195, 18, 2, 0, 6, 0, 0, 0, 2, 1, 107, 0, 1, 118, 0, 0, 0, 0, 0, 0, 7, 227, 82, 192, 18, 2, 0, 7, 0, 0, 0, 2, 1, 109, 0, 1, 118, 0, 0, 0, 0, 0, 0], .int .i64 161]],
    .row true 2 [[.ptr K.z.i 0, .int .i64 8]],
    .row true 2 [[.slice K.z.i.i 0 1 8 false 1, .nils]],
    .map [],
    .row true 8 [[.int .i64 1, .int .i64 1, .str [], .str [], .bool false, .slice K.z.o.o.o 0 7 5 false 7, .slice K.z.o.o.i 0 7 4 false 7, .slice K.z.o.i.o 0 1 6 false 1]],
    .row true 5 [[.str [97], .str [118], .int .i64 1, .bool false, .int .i64 0], [.str [99], .str [118], .int .i64 1, .bool false, .int .i64 0], [.str [101], .str [118], .int .i64 1, .bool false, .int .i64 0], [.str [103], .str [118], .int .i64 1, .bool false, .int .i64 0], [.str [105], .str [118], .int .i64 1, .bool false, .int .i64 0], [.str [107], .str [118], .int .i64 1, .bool false, .int .i64 0], [.str [109], .str [118], .int .i64 1, .bool false, .int .i64 0]],
    .row true 4 [[.str [97], .int .i64 1, .str [118], .bool false], [.str [99], .int .i64 1, .str [118], .bool false], [.str [101], .int .i64 1, .str [118], .bool false], [.str [103], .int .i64 1, .str [118], .bool false], [.str [105], .int .i64 1, .str [118], .bool false], [.str [107], .int .i64 1, .str [118], .bool false], [.str [109], .int .i64 1, .str [118], .bool false]],
    .row true 6 [[.int .i64 0, .int .i64 7, .int .i64 0, .str [], .int .i64 1, .nils]]]
  | 8 => [.row true 2 [[.str [47, 152, 82, 102, 24, 1, 0, 0, 0, 0, 0, 0, 0, 1, 13, 113, 135, 31, 170, 8, 1, 1, 0, 0, 0, 0, 0, 0, 0, 201, 212, 22, 39, 18, 2, 0, 1, 0, 0, 0, 2, 1, 97, 0, 1, 118, 0, 0, 0, 0, 0, 0, 4, 187, 251, 244, 18, 2, 0, 2, 0, 0, 0, 2, 1, 99, 0, 1, 118, 0, 0, 0, 0, 0, 0, 227, 176, 126, 249, 18, 2, 0, 3, 0, 0, 0, 2, 1, 101, 0, 1, 118, 0, 0, 0, 0, 0, 0, 162, 23, 26, 109, 18, 2, 0, 4, 0, 0, 0, 2, 1, 103, 0, 1, 118, 0, 0, 0, 0, 0, 0, 85, 217, 43, 82, 18, 2, 0, 5, 0, 0, 0, 2, 1, 105, 0, 1, 118, 0, 0, 0, 0, 0, 0, 80, 250, 51, 195, 18, 2, 0, 6, 0, 0, 0, 2, 1, 107, 0, 1, 118, 0, 0, 0, 0, 0, 0, 7, 227, 82, 192, 18, 2, 0, 7, 0, 0, 0, 2, 1, 109, 0, 1, 118, 0, 0, 0, 0, 0, 0, 230, 35, 189, 97, 18, 2, 0, 8, 0, 0, 0, 2, 1, 111, 0, 1, 118, 0, 0, 0, 0, 0, 0], .int .i64 184]],
    .row true 2 [[.ptr K.z.i 0, .int .i64 9]],
    .row true 2 [[.slice K.z.i.i 0 1 8 false 1, .nils]],
    .map [],
    .row true 8 [[.int .i64 1, .int .i64 1, .str [], .str [], .bool false, .slice K.z.o.o.o 0 8 5 false 8, .slice K.z.o.o.i 0 8 4 false 8, .slice K.z.o.i.o 0 1 6 false 1]],
    .row true 5 [[.str [97], .str [118], .int .i64 1, .bool false, .int .i64 0], [.str [99], .str [118], .int .i64 1, .bool false, .int .i64 0], [.str [101], .str [118], .int .i64 1, .bool false, .int .i64 0], [.str [103], .str [118], .int .i64 1, .bool false, .int .i64 0], [.str [105], .str [118], .int .i64 1, .bool false, .int .i64 0], [.str [107], .str [118], .int .i64 1, .bool false, .int .i64 0], [.str [109], .str [118], .int .i64 1, .bool false, .int .i64 0], [.str [111], .str [118], .int .i64 1, .bool false, .int .i64 0]],
    .row true 4 [[.str [97], .int .i64 1, .str [118], .bool false], [.str [99], .int .i64 1, .str [118], .bool false], [.str [101], .int .i64 1, .str [118], .bool false], [.str [103], .int .i64 1, .str [118], .bool false], [.str [105], .int .i64 1, .str [118], .bool false], [.str [107], .int .i64 1, .str [118], .bool false], [.str [109], .int .i64 1, .str [118], .bool false], [.str [111], .int .i64 1, .str [118], .bool false]],
    .row true 6 [[.int .i64 0, .int .i64 8, .int .i64 0, .str [], .int .i64 1, .nils]]]
  | _ => [.row true 2 [[.str [47, 152, 82, 102, 24, 1, 0, 0, 0, 0, 0, 0, 0, 1, 13, 113, 135, 31, 170, 8, 1, 1, 0, 0, 0, 0, 0, 0, 0, 201, 212, 22, 39, 18, 2, 0, 1, 0, 0, 0, 2, 1, 97, 0, 1, 118, 0, 0, 0, 0, 0, 0, 4, 187, 251, 244, 18, 2, 0, 2, 0, 0, 0, 2, 1, 99, 0, 1, 118, 0, 0, 0, 0, 0, 0, 227, 176, 126, 249, 18, 2, 0, 3, 0, 0, 0, 2, 1, 101, 0, 1, 118, 0, 0, 0, 0, 0, 0, 162, 23, 26, 109, 18, 2, 0, 4, 0, 0, 0, 2, 1, 103, 0, 1, 118, 0, 0, 0, 0, 0, 0, 85, 217, 43, 82, 18, 2, 0, 5, 0, 0, 0, 2, 1, 105, 0, 1, 118, 0, 0, 0, 0, 0, 0, 80, 250, 51, 195, 18, 2, 0, 6, 0, 0, 0, 2, 1, 107, 0, 1, 118, 0, 0, 0, 0, 0, 0, 7, 227, 82, 192, 18, 2, 0, 7, 0, 0, 0, 2, 1, 109, 0, 1, 118, 0, 0, 0, 0, 0, 0, 230, 35, 189, 97, 18, 2, 0, 8, 0, 0, 0, 2, 1, 111, 0, 1, 118, 0, 0, 0, 0, 0, 0, 49, 19, 142, 226, 18, 2, 0, 9, 0, 0, 0, 2, 1, 113, 0, 1, 118, 0, 0, 0, 0, 0, 0], .int .i64 207]],
    .row true 2 [[.ptr K.z.i 0, .int .i64 10]],
    .row true 2 [[.slice K.z.i.i 0 1 8 false 1, .nils]],
    .map [],
    .row true 8 [[.int .i64 1, .int .i64 1, .str [], .str [], .bool false, .slice K.z.o.o.o 0 9 5 false 9, .slice K.z.o.o.i 0 9 4 false 9, .slice K.z.o.i.o 0 1 6 false 1]],
    .row true 5 [[.str [97], .str [118], .int .i64 1, .bool false, .int .i64 0], [.str [99], .str [118], .int .i64 1, .bool false, .int .i64 0], [.str [101], .str [118], .int .i64 1, .bool false, .int .i64 0], [.str [103], .str [118], .int .i64 1, .bool false, .int .i64 0], [.str [105], .str [118], .int .i64 1, .bool false, .int .i64 0], [.str [107], .str [118], .int .i64 1, .bool false, .int .i64 0], [.str [109], .str [118], .int .i64 1, .bool false, .int .i64 0], [.str [111], .str [118], .int .i64 1, .bool false, .int .i64 0], [.str [113], .str [118], .int .i64 1, .bool false, .int .i64 0]],
    .row true 4 [[.str [97], .int .i64 1, .str [118], .bool false], [.str [99], .int .i64 1, .str [118], .bool false], [.str [101], .int .i64 1, .str [118], .bool false], [.str [103], .int .i64 1, .str [118], .bool false], [.str [105], .int .i64 1, .str [118], .bool false], [.str [107], .int .i64 1, .str [118], .bool false], [.str [109], .int .i64 1, .str [118], .bool false], [.str [111], .int .i64 1, .str [118], .bool false], [.str [113], .int .i64 1, .str [118], .bool false]],
    .row true 6 [[.int .i64 0, .int .i64 9, .int .i64 0, .str [], .int .i64 1, .nils]]]
def tS : Nat → List Blk
  | 0 => [.row true 2 [[.str [47, 152, 82, 102, 24, 1, 0, 0, 0, 0, 0, 0, 0, 1, 13, 113, 135, 31, 170, 8, 1, 1, 0, 0, 0, 0, 0, 0, 0, 49, 180, 213, 125, 11, 7, 1, 1, 2, 3, 0, 1, 104, 0, 0, 0], .int .i64 16]],
    .row true 2 [[.ptr K.z.i 0, .int .i64 2]],
    .row true 2 [[.slice K.z.i.i 0 2 8 false 2, .slice K.z.o.o.o 0 1 2 false 1]],
    .map [],
    .row true 8 [[.int .i64 2, .int .i64 1, .str [], .str [104], .bool false, .nils, .nils, .nils], [.int .i64 3, .int .i64 1, .str [104], .str [], .bool false, .nils, .nils, .nils]],
    .row true 2 [[.int .i64 1, .int .i64 1]]]
  | 1 => [.row true 2 [[.str [47, 152, 82, 102, 24, 1, 0, 0, 0, 0, 0, 0, 0, 1, 13, 113, 135, 31, 170, 8, 1, 1, 0, 0, 0, 0, 0, 0, 0, 201, 212, 22, 39, 18, 2, 0, 1, 0, 0, 0, 2, 1, 97, 0, 1, 118, 0, 0, 0, 0, 0, 0, 49, 180, 213, 125, 11, 7, 1, 1, 2, 3, 0, 1, 104, 0, 0, 0], .int .i64 39]],
    .row true 2 [[.ptr K.z.i 0, .int .i64 3]],
    .row true 2 [[.slice K.z.i.i 0 2 8 false 2, .slice K.z.o.o.o 0 1 2 false 1]],
    .map [],
    .row true 8 [[.int .i64 2, .int .i64 1, .str [], .str [104], .bool false, .slice K.z.o.o.i 0 1 5 false 1, .slice K.z.o.i.o 0 1 4 false 1, .slice K.z.o.i.i 0 1 6 false 1], [.int .i64 3, .int .i64 1, .str [104], .str [], .bool false, .nils, .nils, .slice K.z.i.o.o 0 1 6 false 1]],
    .row true 2 [[.int .i64 1, .int .i64 1]],
    .row true 5 [[.str [97], .str [118], .int .i64 1, .bool false, .int .i64 0]],
    .row true 4 [[.str [97], .int .i64 1, .str [118], .bool false]],
    .row true 6 [[.int .i64 0, .int .i64 1, .int .i64 0, .str [], .int .i64 1, .nils]],
    .row true 6 [[.int .i64 0, .int .i64 1, .int .i64 0, .str [], .int .i64 1, .nils]]]
  | 2 => [.row true 2 [[.str [47, 152, 82, 102, 24, 1, 0, 0, 0, 0, 0, 0, 0, 1, 13, 113, 135, 31, 170, 8, 1, 1, 0, 0, 0, 0, 0, 0, 0, 201, 212, 22, 39, 18, 2, 0, 1, 0, 0, 0, 2, 1, 97, 0, 1, 118, 0, 0, 0, 0, 0, 0, 4, 187, 251, 244, 18, 2, 0, 2, 0, 0, 0, 2, 1, 99, 0, 1, 118, 0, 0, 0, 0, 0, 0, 49, 180, 213, 125, 11, 7, 1, 1, 2, 3, 0, 1, 104, 0, 0, 0], .int .i64 62]],
    .row true 2 [[.ptr K.z.i 0, .int .i64 4]],
    .row true 2 [[.slice K.z.i.i 0 2 8 false 2, .slice K.z.o.o.o 0 1 2 false 1]],
    .map [],
    .row true 8 [[.int .i64 2, .int .i64 1, .str [], .str [104], .bool false, .slice K.z.o.o.i 0 2 5 false 2, .slice K.z.o.i.o 0 2 4 false 2, .slice K.z.o.i.i 0 1 6 false 1], [.int .i64 3, .int .i64 1, .str [104], .str [], .bool false, .nils, .nils, .slice K.z.i.o.o 0 1 6 false 1]],
    .row true 2 [[.int .i64 1, .int .i64 1]],
    .row true 5 [[.str [97], .str [118], .int .i64 1, .bool false, .int .i64 0], [.str [99], .str [118], .int .i64 1, .bool false, .int .i64 0]],
    .row true 4 [[.str [97], .int .i64 1, .str [118], .bool false], [.str [99], .int .i64 1, .str [118], .bool false]],
    .row true 6 [[.int .i64 0, .int .i64 2, .int .i64 0, .str [], .int .i64 1, .nils]],
    .row true 6 [[.int .i64 0, .int .i64 2, .int .i64 0, .str [], .int .i64 1, .nils]]]
  | 3 => [.row true 2 [[.str [47, 152, 82, 102, 24, 1, 0, 0, 0, 0, 0, 0, 0, 1, 13, 113, 135, 31, 170, 8, 1, 1, 0, 0, 0, 0, 0, 0, 0, 201, 212, 22, 39, 18, 2, 0, 1, 0, 0, 0, 2, 1, 97, 0, 1, 118, 0, 0, 0, 0, 0, 0, 4, 187, 251, 244, 18, 2, 0, 2, 0, 0, 0, 2, 1, 99, 0, 1, 118, 0, 0, 0, 0, 0, 0, 227, 176, 126, 249, 18, 2, 0, 3, 0, 0, 0, 2, 1, 101, 0, 1, 118, 0, 0, 0, 0, 0, 0, 49, 180, 213, 125, 11, 7, 1, 1, 2, 3, 0, 1, 104, 0, 0, 0], .int .i64 85]],
    .row true 2 [[.ptr K.z.i 0, .int .i64 5]],
    .row true 2 [[.slice K.z.i.i 0 2 8 false 2, .slice K.z.o.o.o 0 1 2 false 1]],
    .map [],
    .row true 8 [[.int .i64 2, .int .i64 1, .str [], .str [104], .bool false, .slice K.z.o.o.i 0 3 5 false 3, .slice K.z.o.i.o 0 3 4 false 3, .slice K.z.o.i.i 0 1 6 false 1], [.int .i64 3, .int .i64 1, .str [104], .str [], .bool false, .nils, .nils, .slice K.z.i.o.o 0 1 6 false 1]],
    .row true 2 [[.int .i64 1, .int .i64 1]],
    .row true 5 [[.str [97], .str [118], .int .i64 1, .bool false, .int .i64 0], [.str [99], .str [118], .int .i64 1, .bool false, .int .i64 0], [.str [101], .str [118], .int .i64 1, .bool false, .int .i64 0]],
    .row true 4 [[.str [97], .int .i64 1, .str [118], .bool false], [.str [99], .int .i64 1, .str [118], .bool false], [.str [101], .int .i64 1, .str [118], .bool false]],
    .row true 6 [[.int .i64 0, .int .i64 3, .int .i64 0, .str [], .int .i64 1, .nils]],
    .row true 6 [[.int .i64 0, .int .i64 3, .int .i64 0, .str [], .int .i64 1, .nils]]]
  | 4 => [.row true 2 [[.str [47, 152, 82, 102, 24, 1, 0, 0, 0, 0, 0, 0, 0, 1, 13, 113, 135, 31, 170, 8, 1, 1, 0, 0, 0, 0, 0, 0, 0, 201, 212, 22, 39, 18, 2, 0, 1, 0, 0, 0, 2, 1, 97, 0, 1, 118, 0, 0, 0, 0, 0, 0, 4, 187, 251, 244, 18, 2, 0, 2, 0, 0, 0, 2, 1, 99, 0, 1, 118, 0, 0, 0, 0, 0, 0, 227, 176, 126, 249, 18, 2, 0, 3, 0, 0, 0, 2, 1, 101, 0, 1, 118, 0, 0, 0, 0, 0, 0, 162, 23, 26, 109, 18, 2, 0, 4, 0, 0, 0, 2, 1, 103, 0, 1, 118, 0, 0, 0, 0, 0, 0, 49, 180, 213, 125, 11, 7, 1, 1, 2, 3, 0, 1, 104, 0, 0, 0], .int .i64 108]],
    .row true 2 [[.ptr K.z.i 0, .int .i64 6]],
    .row true 2 [[.slice K.z.i.i 0 2 8 false 2, .slice K.z.o.o.o 0 1 2 false 1]],
    .map [],
    .row true 8 [[.int .i64 2, .int .i64 1, .str [], .str [104], .bool false, .slice K.z.o.o.i 0 4 5 false 4, .slice K.z.o.i.o 0 4 4 false 4, .slice K.z.o.i.i 0 1 6 false 1], [.int .i64 3, .int .i64 1, .str [104], .str [], .bool false, .nils, .nils, .slice K.z.i.o.o 0 1 6 false 1]],
    .row true 2 [[.int .i64 1, .int .i64 1]],
    .row true 5 [[.str [97], .str [118], .int .i64 1, .bool false, .int .i64 0], [.str [99], .str [118], .int .i64 1, .bool false, .int .i64 0], [.str [101], .str [118], .int .i64 1, .bool false, .int .i64 0], [.str [103], .str [118], .int .i64 1, .bool false, .int .i64 0]],
    .row true 4 [[.str [97], .int .i64 1, .str [118], .bool false], [.str [99], .int .i64 1, .str [118], .bool false], [.str [101], .int .i64 1, .str [118], .bool false], [.str [103], .int .i64 1, .str [118], .bool false]],
    .row true 6 [[.int .i64 0, .int .i64 4, .int .i64 0, .str [], .int .i64 1, .nils]],
    .row true 6 [[.int .i64 0, .int .i64 4, .int .i64 0, .str [], .int .i64 1, .nils]]]
  | 5 => [.row true 2 [[.str [47, 152, 82, 102, 24, 1, 0, 0, 0, 0, 0, 0, 0, 1, 13, 113, 135, 31, 170, 8, 1, 1, 0, 0, 0, 0, 0, 0, 0, 201, 212, 22, 39, 18, 2, 0, 1, 0, 0, 0, 2, 1, 97, 0, 1, 118, 0, 0, 0, 0, 0, 0, 4, 187, 251, 244, 18, 2, 0, 2, 0, 0, 0, 2, 1, 99, 0, 1, 118, 0, 0, 0, 0, 0, 0, 227, 176, 126, 249, 18, 2, 0, 3, 0, 0, 0, 2, 1, 101, 0, 1, 118, 0, 0, 0, 0, 0, 0, 162, 23, 26, 109, 18, 2, 0, 4, 0, 0, 0, 2, 1, 103, 0, 1, 118, 0, 0, 0, 0, 0, 0, 85, 217, 43, 82, 18, 2, 0, 5, 0, 0, 0, 2, 1, 105, 0, 1, 118, 0, 0, 0, 0, 0, 0, 49, 180, 213, 125, 11, 7, 1, 1, 2, 3, 0, 1, 104, 0, 0, 0], .int .i64 131]],
    .row true 2 [[.ptr K.z.i 0, .int .i64 7]],
    .row true 2 [[.slice K.z.i.i 0 2 8 false 2, .slice K.z.o.o.o 0 1 2 false 1]],
    .map [],
    .row true 8 [[.int .i64 2, .int .i64 1, .str [], .str [104], .bool false, .slice K.z.o.o.i 0 4 5 false 4, .slice K.z.o.i.o 0 4 4 false 4, .slice K.z.o.i.i 0 1 6 false 1], [.int .i64 3, .int .i64 1, .str [104], .str [], .bool false, .slice K.z.i.o.o 0 1 5 false 1, .slice K.z.i.o.i 0 1 4 false 1, .slice K.z.i.i.o 0 1 6 false 1]],
    .row true 2 [[.int .i64 1, .int .i64 1]],
    .row true 5 [[.str [97], .str [118], .int .i64 1, .bool false, .int .i64 0], [.str [99], .str [118], .int .i64 1, .bool false, .int .i64 0], [.str [101], .str [118], .int .i64 1, .bool false, .int .i64 0], [.str [103], .str [118], .int .i64 1, .bool false, .int .i64 0]],
    .row true 4 [[.str [97], .int .i64 1, .str [118], .bool false], [.str [99], .int .i64 1, .str [118], .bool false], [.str [101], .int .i64 1, .str [118], .bool false], [.str [103], .int .i64 1, .str [118], .bool false]],
    .row true 6 [[.int .i64 0, .int .i64 5, .int .i64 0, .str [], .int .i64 1, .nils]],
    .row true 5 [[.str [105], .str [118], .int .i64 1, .bool false, .int .i64 0]],
    .row true 4 [[.str [105], .int .i64 1, .str [118], .bool false]],
    .row true 6 [[.int .i64 0, .int .i64 5, .int .i64 0, .str [], .int .i64 1, .nils]]]
  | 6 => [.row true 2 [[.str [47, 152, 82, 102, 24, 1, 0, 0, 0, 0, 0, 0, 0, 1, 13, 113, 135, 31, 170, 8, 1, 1, 0, 0, 0, 0, 0, 0, 0, 201, 212, 22, 39, 18, 2, 0, 1, 0, 0, 0, 2, 1, 97, 0, 1, 118, 0, 0, 0, 0, 0, 0, 4, 187, 251, 244, 18, 2, 0, 2, 0, 0, 0, 2, 1, 99, 0, 1, 118, 0, 0, 0, 0, 0, 0, 227, 176, 126, 249, 18, 2, 0, 3, 0, 0, 0, 2, 1, 101, 0, 1, 118, 0, 0, 0, 0, 0, 0, 162, 23, 26, 109, 18, 2, 0, 4, 0, 0, 0, 2, 1, 103, 0, 1, 118, 0, 0, 0, 0, 0, 0, 85, 217, 43, 82, 18, 2, 0, 5, 0, 0, 0, 2, 1, 105, 0, 1, 118, 0, 0, 0, 0, 0, 0, 80, 250, 51, 195, 18, 2, 0, 6, 0, 0, 0, 2, 1, 107, 0, 1, 118, 0, 0, 0, 0, 0, 0, 49, 180, 213, 125, 11, 7, 1, 1, 2, 3, 0, 1, 104, 0, 0, 0], .int .i64 154]],
    .row true 2 [[.ptr K.z.i 0, .int .i64 8]],
    .row true 2 [[.slice K.z.i.i 0 2 8 false 2, .slice K.z.o.o.o 0 1 2 false 1]],
    .map [],
    .row true 8 [[.int .i64 2, .int .i64 1, .str [], .str [104], .bool false, .slice K.z.o.o.i 0 4 5 false 4, .slice K.z.o.i.o 0 4 4 false 4, .slice K.z.o.i.i 0 1 6 false 1], [.int .i64 3, .int .i64 1, .str [104], .str [], .bool false, .slice K.z.i.o.o 0 2 5 false 2, .slice K.z.i.o.i 0 2 4 false 2, .slice K.z.i.i.o 0 1 6 false 1]],
    .row true 2 [[.int .i64 1, .int .i64 1]],
    .row true 5 [[.str [97], .str [118], .int .i64 1, .bool false, .int .i64 0], [.str [99], .str [118], .int .i64 1, .bool false, .int .i64 0], [.str [101], .str [118], .int .i64 1, .bool false, .int .i64 0], [.str [103], .str [118], .int .i64 1, .bool false, .int .i64 0]],
    .row true 4 [[.str [97], .int .i64 1, .str [118], .bool false], [.str [99], .int .i64 1, .str [118], .bool false], [.str [101], .int .i64 1, .str [118], .bool false], [.str [103], .int .i64 1, .str [118], .bool false]],
    .row true 6 [[.int .i64 0, .int .i64 6, .int .i64 0, .str [], .int .i64 1, .nils]],
    .row true 5 [[.str [105], .str [118], .int .i64 1, .bool false, .int .i64 0], [.str [107], .str [118], .int .i64 1, .bool false, .int .i64 0]],
    .row true 4 [[.str [105], .int .i64 1, .str [118], .bool false], [.str [107], .int .i64 1, .str [118], .bool false]],
    .row true 6 [[.int .i64 0, .int .i64 6, .int .i64 0, .str [], .int .i64 1, .nils]]]
  | 7 => [.row true 2 [[.str [47, 152, 82, 102, 24, 1, 0, 0, 0, 0, 0, 0, 0, 1, 13, 113, 135, 31, 170, 8, 1, 1, 0, 0, 0, 0, 0, 0, 0, 201, 212, 22, 39, 18, 2, 0, 1, 0, 0, 0, 2, 1, 97, 0, 1, 118, 0, 0, 0, 0, 0, 0, 4, 187, 251, 244, 18, 2, 0, 2, 0, 0, 0, 2, 1, 99, 0, 1, 118, 0, 0, 0, 0, 0, 0, 227, 176, 126, 249, 18, 2, 0, 3, 0, 0, 0, 2, 1, 101, 0, 1, 118, 0, 0, 0, 0, 0, 0, 162, 23, 26, 109, 18, 2, 0, 4, 0, 0, 0, 2, 1, 103, 0, 1, 118, 0, 0, 0, 0, 0, 0, 85, 217, 43, 82, 18, 2, 0, 5, 0, 0, 0, 2, 1, 105, 0, 1, 118, 0, 0, 0, 0, 0, 0, 80, 250, 51, 195, 18, 2, 0, 6, 0, 0, 0, 2, 1, 107, 0, 1, 118, 0, 0, 0, 0, 0, 0, 7, 227, 82, 192, 18, 2, 0, 7, 0, 0, 0, 2, 1, 109, 0, 1, 118, 0, 0, 0, 0, 0, 0, 49, 180, 213, 125, 11, 7, 1, 1, 2, 3, 0, 1, 104, 0, 0, 0], .int .i64 177]],
    .row true 2 [[.ptr K.z.i 0, .int .i64 9]],
    .row true 2 [[.slice K.z.i.i 0 2 8 false 2, .slice K.z.o.o.o 0 1 2 false 1]],
    .map [],
    .row true 8 [[.int .i64 2, .int .i64 1, .str [], .str [104], .bool false, .slice K.z.o.o.i 0 4 5 false 4, .slice K.z.o.i.o 0 4 4 false 4, .slice K.z.o.i.i 0 1 6 false 1], [.int .i64 3, .int .i64 1, .str [104], .str [], .bool false, .slice K.z.i.o.o 0 3 5 false 3, .slice K.z.i.o.i 0 3 4 false 3, .slice K.z.i.i.o 0 1 6 false 1]],
    .row true 2 [[.int .i64 1, .int .i64 1]],
    .row true 5 [[.str [97], .str [118], .int .i64 1, .bool false, .int .i64 0], [.str [99], .str [118], .int .i64 1, .bool false, .int .i64 0], [.str [101], .str [118], .int .i64 1, .bool false, .int .i64 0], [.str [103], .str [118], .int .i64 1, .bool false, .int .i64 0]],
    .row true 4 [[.str [97], .int .i64 1, .str [118], .bool false], [.str [99], .int .i64 1, .str [118], .bool false], [.str [101], .int .i64 1, .str [118], .bool false], [.str [103], .int .i64 1, .str [118], .bool false]],
    .row true 6 [[.int .i64 0, .int .i64 7, .int .i64 0, .str [], .int .i64 1, .nils]],
    .row true 5 [[.str [105], .str [118], .int .i64 1, .bool false, .int .i64 0], [.str [107], .str [118], .int .i64 1, .bool false, .int .i64 0], [.str [109], .str [118], .int .i64 1, .bool false, .int .i64 0]],
    .row true 4 [[.str [105], .int .i64 1, .str [118], .bool false], [.str [107], .int .i64 1, .str [118], .bool false], [.str [109], .int .i64 1, .str [118], .bool false]],
    .row true 6 [[.int .i64 0, .int .i64 7, .int .i64 0, .str [], .int .i64 1, .nils]]]
  | 8 => [.row true 2 [[.str [47, 152, 82, 102, 24, 1, 0, 0, 0, 0, 0, 0, 0, 1, 13, 113, 135, 31, 170, 8, 1, 1, 0, 0, 0, 0, 0, 0, 0, 201, 212, 22, 39, 18, 2, 0, 1, 0, 0, 0, 2, 1, 97, 0, 1, 118, 0, 0, 0, 0, 0, 0, 4, 187, 251, 244, 18, 2, 0, 2, 0, 0, 0, 2, 1, 99, 0, 1, 118, 0, 0, 0, 0, 0, 0, 227, 176, 126, 249, 18, 2, 0, 3, 0, 0, 0, 2, 1, 101, 0, 1, 118, 0, 0, 0, 0, 0, 0, 162, 23, 26, 109, 18, 2, 0, 4, 0, 0, 0, 2, 1, 103, 0, 1, 118, 0, 0, 0, 0, 0, 0, 85, 217, 43, 82, 18, 2, 0, 5, 0, 0, 0, 2, 1, 105, 0, 1, 118, 0, 0, 0, 0, 0, 0, 80, 250, 51, 195, 18, 2, 0, 6, 0, 0, 0, 2, 1, 107, 0, 1, 118, 0, 0, 0, 0, 0, 0, 7, 227, 82, 192, 18, 2, 0, 7, 0, 0, 0, 2, 1, 109, 0, 1, 118, 0, 0, 0, 0, 0, 0, 230, 35, 189, 97, 18, 2, 0, 8, 0, 0, 0, 2, 1, 111, 0, 1, 118, 0, 0, 0, 0, 0, 0, 49, 180, 213, 125, 11, 7, 1, 1, 2, 3, 0, 1, 104, 0, 0, 0], .int .i64 200]],
    .row true 2 [[.ptr K.z.i 0, .int .i64 10]],
    .row true 2 [[.slice K.z.i.i 0 2 8 false 2, .slice K.z.o.o.o 0 1 2 false 1]],
    .map [],
    .row true 8 [[.int .i64 2, .int .i64 1, .str [], .str [104], .bool false, .slice K.z.o.o.i 0 4 5 false 4, .slice K.z.o.i.o 0 4 4 false 4, .slice K.z.o.i.i 0 1 6 false 1], [.int .i64 3, .int .i64 1, .str [104], .str [], .bool false, .slice K.z.i.o.o 0 4 5 false 4, .slice K.z.i.o.i 0 4 4 false 4, .slice K.z.i.i.o 0 1 6 false 1]],
    .row true 2 [[.int .i64 1, .int .i64 1]],
    .row true 5 [[.str [97], .str [118], .int .i64 1, .bool false, .int .i64 0], [.str [99], .str [118], .int .i64 1, .bool false, .int .i64 0], [.str [101], .str [118], .int .i64 1, .bool false, .int .i64 0], [.str [103], .str [118], .int .i64 1, .bool false, .int .i64 0]],
    .row true 4 [[.str [97], .int .i64 1, .str [118], .bool false], [.str [99], .int .i64 1, .str [118], .bool false], [.str [101], .int .i64 1, .str [118], .bool false], [.str [103], .int .i64 1, .str [118], .bool false]],
    .row true 6 [[.int .i64 0, .int .i64 8, .int .i64 0, .str [], .int .i64 1, .nils]],
    .row true 5 [[.str [105], .str [118], .int .i64 1, .bool false, .int .i64 0], [.str [107], .str [118], .int .i64 1, .bool false, .int .i64 0], [.str [109], .str [118], .int .i64 1, .bool false, .int .i64 0], [.str [111], .str [118], .int .i64 1, .bool false, .int .i64 0]],
    .row true 4 [[.str [105], .int .i64 1, .str [118], .bool false], [.str [107], .int .i64 1, .str [118], .bool false], [.str [109], .int .i64 1, .str [118], .bool false], [.str [111], .int .i64 1, .str [118], .bool false]],
    .row true 6 [[.int .i64 0, .int .i64 8, .int .i64 0, .str [], .int .i64 1, .nils]]]
  | _ => [.row true 2 [[.str [47, 152, 82, 102, 24, 1, 0, 0, 0, 0, 0, 0, 0, 1, 13, 113, 135, 31, 170, 8, 1, 1, 0, 0, 0, 0, 0, 0, 0, 201, 212, 22, 39, 18, 2, 0, 1, 0, 0, 0, 2, 1, 97, 0, 1, 118, 0, 0, 0, 0, 0, 0, 4, 187, 251, 244, 18, 2, 0, 2, 0, 0, 0, 2, 1, 99, 0, 1, 118, 0, 0, 0, 0, 0, 0, 227, 176, 126, 249, 18, 2, 0, 3, 0, 0, 0, 2, 1, 101, 0, 1, 118, 0, 0, 0, 0, 0, 0, 162, 23, 26, 109, 18, 2, 0, 4, 0, 0, 0, 2, 1, 103, 0, 1, 118, 0, 0, 0, 0, 0, 0, 85, 217, 43, 82, 18, 2, 0, 5, 0, 0, 0, 2, 1, 105, 0, 1, 118, 0, 0, 0, 0, 0, 0, 80, 250, 51, 195, 18, 2, 0, 6, 0, 0, 0, 2, 1, 107, 0, 1, 118, 0, 0, 0, 0, 0, 0, 7, 227, 82, 192, 18, 2, 0, 7, 0, 0, 0, 2, 1, 109, 0, 1, 118, 0, 0, 0, 0, 0, 0, 230, 35, 189, 97, 18, 2, 0, 8, 0, 0, 0, 2, 1, 111, 0, 1, 118, 0, 0, 0, 0, 0, 0, 49, 19, 142, 226, 18, 2, 0, 9, 0, 0, 0, 2, 1, 113, 0, 1, 118, 0, 0, 0, 0, 0, 0, 49, 180, 213, 125, 11, 7, 1, 1, 2, 3, 0, 1, 104, 0, 0, 0], .int .i64 223]],
    .row true 2 [[.ptr K.z.i 0, .int .i64 11]],
    .row true 2 [[.slice K.z.i.i 0 2 8 false 2, .slice K.z.o.o.o 0 1 2 false 1]],
    .map [],
    .row true 8 [[.int .i64 2, .int .i64 1, .str [], .str [104], .bool false, .slice K.z.o.o.i 0 4 5 false 4, .slice K.z.o.i.o 0 4 4 false 4, .slice K.z.o.i.i 0 1 6 false 1], [.int .i64 3, .int .i64 1, .str [104], .str [], .bool false, .slice K.z.i.o.o 0 5 5 false 5, .slice K.z.i.o.i 0 5 4 false 5, .slice K.z.i.i.o 0 1 6 false 1]],
    .row true 2 [[.int .i64 1, .int .i64 1]],
    .row true 5 [[.str [97], .str [118], .int .i64 1, .bool false, .int .i64 0], [.str [99], .str [118], .int .i64 1, .bool false, .int .i64 0], [.str [101], .str [118], .int .i64 1, .bool false, .int .i64 0], [.str [103], .str [118], .int .i64 1, .bool false, .int .i64 0]],
    .row true 4 [[.str [97], .int .i64 1, .str [118], .bool false], [.str [99], .int .i64 1, .str [118], .bool false], [.str [101], .int .i64 1, .str [118], .bool false], [.str [103], .int .i64 1, .str [118], .bool false]],
    .row true 6 [[.int .i64 0, .int .i64 9, .int .i64 0, .str [], .int .i64 1, .nils]],
    .row true 5 [[.str [105], .str [118], .int .i64 1, .bool false, .int .i64 0], [.str [107], .str [118], .int .i64 1, .bool false, .int .i64 0], [.str [109], .str [118], .int .i64 1, .bool false, .int .i64 0], [.str [111], .str [118], .int .i64 1, .bool false, .int .i64 0], [.str [113], .str [118], .int .i64 1, .bool false, .int .i64 0]],
    .row true 4 [[.str [105], .int .i64 1, .str [118], .bool false], [.str [107], .int .i64 1, .str [118], .bool false], [.str [109], .int .i64 1, .str [118], .bool false], [.str [111], .int .i64 1, .str [118], .bool false], [.str [113], .int .i64 1, .str [118], .bool false]],
    .row true 6 [[.int .i64 0, .int .i64 9, .int .i64 0, .str [], .int .i64 1, .nils]]]
def tJ : Nat → List Blk
  | 0 => [.row true 2 [[.str [47, 152, 82, 102, 24, 1, 0, 0, 0, 0, 0, 0, 0, 1, 13, 113, 135, 31, 170, 8, 1, 1, 0, 0, 0, 0, 0, 0, 0, 49, 180, 213, 125, 11, 7, 1, 1, 2, 3, 0, 1, 104, 0, 0, 0, 246, 254, 131, 247, 10, 8, 2, 1, 3, 1, 4, 0, 0, 0, 0], .int .i64 31]],
    .row true 2 [[.ptr K.z.i 0, .int .i64 3]],
    .row true 2 [[.slice K.z.i.i 0 1 8 false 1, .slice K.z.o.o.o 0 3 2 false 3]],
    .map [],
    .row true 8 [[.int .i64 4, .int .i64 1, .str [], .str [], .bool false, .nils, .nils, .nils]],
    .row true 2 [[.int .i64 1, .int .i64 1], [.int .i64 2, .int .i64 1], [.int .i64 3, .int .i64 1]]]
  | 1 => [.row true 2 [[.str [47, 152, 82, 102, 24, 1, 0, 0, 0, 0, 0, 0, 0, 1, 13, 113, 135, 31, 170, 8, 1, 1, 0, 0, 0, 0, 0, 0, 0, 201, 212, 22, 39, 18, 2, 0, 1, 0, 0, 0, 2, 1, 97, 0, 1, 118, 0, 0, 0, 0, 0, 0, 49, 180, 213, 125, 11, 7, 1, 1, 2, 3, 0, 1, 104, 0, 0, 0, 246, 254, 131, 247, 10, 8, 2, 1, 3, 1, 4, 0, 0, 0, 0], .int .i64 54]],
    .row true 2 [[.ptr K.z.i 0, .int .i64 4]],
    .row true 2 [[.slice K.z.i.i 0 1 8 false 1, .slice K.z.o.o.o 0 3 2 false 3]],
    .map [],
    .row true 8 [[.int .i64 4, .int .i64 1, .str [], .str [], .bool false, .slice K.z.o.o.i 0 1 5 false 1, .slice K.z.o.i.o 0 1 4 false 1, .slice K.z.o.i.i 0 1 6 false 1]],
    .row true 2 [[.int .i64 1, .int .i64 1], [.int .i64 2, .int .i64 1], [.int .i64 3, .int .i64 1]],
    .row true 5 [[.str [97], .str [118], .int .i64 1, .bool false, .int .i64 0]],
    .row true 4 [[.str [97], .int .i64 1, .str [118], .bool false]],
    .row true 6 [[.int .i64 0, .int .i64 1, .int .i64 0, .str [], .int .i64 1, .nils]]]
  | 2 => [.row true 2 [[.str [47, 152, 82, 102, 24, 1, 0, 0, 0, 0, 0, 0, 0, 1, 13, 113, 135, 31, 170, 8, 1, 1, 0, 0, 0, 0, 0, 0, 0, 201, 212, 22, 39, 18, 2, 0, 1, 0, 0, 0, 2, 1, 97, 0, 1, 118, 0, 0, 0, 0, 0, 0, 4, 187, 251, 244, 18, 2, 0, 2, 0, 0, 0, 2, 1, 99, 0, 1, 118, 0, 0, 0, 0, 0, 0, 49, 180, 213, 125, 11, 7, 1, 1, 2, 3, 0, 1, 104, 0, 0, 0, 246, 254, 131, 247, 10, 8, 2, 1, 3, 1, 4, 0, 0, 0, 0], .int .i64 77]],
    .row true 2 [[.ptr K.z.i 0, .int .i64 5]],
    .row true 2 [[.slice K.z.i.i 0 1 8 false 1, .slice K.z.o.o.o 0 3 2 false 3]],
    .map [],
    .row true 8 [[.int .i64 4, .int .i64 1, .str [], .str [], .bool false, .slice K.z.o.o.i 0 2 5 false 2, .slice K.z.o.i.o 0 2 4 false 2, .slice K.z.o.i.i 0 1 6 false 1]],
    .row true 2 [[.int .i64 1, .int .i64 1], [.int .i64 2, .int .i64 1], [.int .i64 3, .int .i64 1]],
    .row true 5 [[.str [97], .str [118], .int .i64 1, .bool false, .int .i64 0], [.str [99], .str [118], .int .i64 1, .bool false, .int .i64 0]],
    .row true 4 [[.str [97], .int .i64 1, .str [118], .bool false], [.str [99], .int .i64 1, .str [118], .bool false]],
    .row true 6 [[.int .i64 0, .int .i64 2, .int .i64 0, .str [], .int .i64 1, .nils]]]
  | 3 => [.row true 2 [[.str [47, 152, 82, 102, 24, 1, 0, 0, 0, 0, 0, 0, 0, 1, 13, 113, 135, 31, 170, 8, 1, 1, 0, 0, 0, 0, 0, 0, 0, 201, 212, 22, 39, 18, 2, 0, 1, 0, 0, 0, 2, 1, 97, 0, 1, 118, 0, 0, 0, 0, 0, 0, 4, 187, 251, 244, 18, 2, 0, 2, 0, 0, 0, 2, 1, 99, 0, 1, 118, 0, 0, 0, 0, 0, 0, 227, 176, 126, 249, 18, 2, 0, 3, 0, 0, 0, 2, 1, 101, 0, 1, 118, 0, 0, 0, 0, 0, 0, 49, 180, 213, 125, 11, 7, 1, 1, 2, 3, 0, 1, 104, 0, 0, 0, 246, 254, 131, 247, 10, 8, 2, 1, 3, 1, 4, 0, 0, 0, 0], .int .i64 100]],
    .row true 2 [[.ptr K.z.i 0, .int .i64 6]],
    .row true 2 [[.slice K.z.i.i 0 1 8 false 1, .slice K.z.o.o.o 0 3 2 false 3]],
    .map [],
    .row true 8 [[.int .i64 4, .int .i64 1, .str [], .str [], .bool false, .slice K.z.o.o.i 0 3 5 false 3, .slice K.z.o.i.o 0 3 4 false 3, .slice K.z.o.i.i 0 1 6 false 1]],
    .row true 2 [[.int .i64 1, .int .i64 1], [.int .i64 2, .int .i64 1], [.int .i64 3, .int .i64 1]],
    .row true 5 [[.str [97], .str [118], .int .i64 1, .bool false, .int .i64 0], [.str [99], .str [118], .int .i64 1, .bool false, .int .i64 0], [.str [101], .str [118], .int .i64 1, .bool false, .int .i64 0]],
    .row true 4 [[.str [97], .int .i64 1, .str [118], .bool false], [.str [99], .int .i64 1, .str [118], .bool false], [.str [101], .int .i64 1, .str [118], .bool false]],
    .row true 6 [[.int .i64 0, .int .i64 3, .int .i64 0, .str [], .int .i64 1, .nils]]]
  | 4 => [.row true 2 [[.str [47, 152, 82, 102, 24, 1, 0, 0, 0, 0, 0, 0, 0, 1, 13, 113, 135, 31, 170, 8, 1, 1, 0, 0, 0, 0, 0, 0, 0, 201, 212, 22, 39, 18, 2, 0, 1, 0, 0, 0, 2, 1, 97, 0, 1, 118, 0, 0, 0, 0, 0, 0, 4, 187, 251, 244, 18, 2, 0, 2, 0, 0, 0, 2, 1, 99, 0, 1, 118, 0, 0, 0, 0, 0, 0, 227, 176, 126, 249, 18, 2, 0, 3, 0, 0, 0, 2, 1, 101, 0, 1, 118, 0, 0, 0, 0, 0, 0, 162, 23, 26, 109, 18, 2, 0, 4, 0, 0, 0, 2, 1, 103, 0, 1, 118, 0, 0, 0, 0, 0, 0, 49, 180, 213, 125, 11, 7, 1, 1, 2, 3, 0, 1, 104, 0, 0, 0, 246, 254, 131, 247, 10, 8, 2, 1, 3, 1, 4, 0, 0, 0, 0], .int .i64 123]],
    .row true 2 [[.ptr K.z.i 0, .int .i64 7]],
    .row true 2 [[.slice K.z.i.i 0 1 8 false 1, .slice K.z.o.o.o 0 3 2 false 3]],
    .map [],
    .row true 8 [[.int .i64 4, .int .i64 1, .str [], .str [], .bool false, .slice K.z.o.o.i 0 4 5 false 4, .slice K.z.o.i.o 0 4 4 false 4, .slice K.z.o.i.i 0 1 6 false 1]],
    .row true 2 [[.int .i64 1, .int .i64 1], [.int .i64 2, .int .i64 1], [.int .i64 3, .int .i64 1]],
    .row true 5 [[.str [97], .str [118], .int .i64 1, .bool false, .int .i64 0], [.str [99], .str [118], .int .i64 1, .bool false, .int .i64 0], [.str [101], .str [118], .int .i64 1, .bool false, .int .i64 0], [.str [103], .str [118], .int .i64 1, .bool false, .int .i64 0]],
    .row true 4 [[.str [97], .int .i64 1, .str [118], .bool false], [.str [99], .int .i64 1, .str [118], .bool false], [.str [101], .int .i64 1, .str [118], .bool false], [.str [103], .int .i64 1, .str [118], .bool false]],
    .row true 6 [[.int .i64 0, .int .i64 4, .int .i64 0, .str [], .int .i64 1, .nils]]]
  | 5 => [.row true 2 [[.str [47, 152, 82, 102, 24, 1, 0, 0, 0, 0, 0, 0, 0, 1, 13, 113, 135, 31, 170, 8, 1, 1, 0, 0, 0, 0, 0, 0, 0, 201, 212, 22, 39, 18, 2, 0, 1, 0, 0, 0, 2, 1, 97, 0, 1, 118, 0, 0, 0, 0, 0, 0, 4, 187, 251, 244, 18, 2, 0, 2, 0, 0, 0, 2, 1, 99, 0, 1, 118, 0, 0, 0, 0, 0, 0, 227, 176, 126, 249, 18, 2, 0, 3, 0, 0, 0, 2, 1, 101, 0, 1, 118, 0, 0, 0, 0, 0, 0, 162, 23, 26, 109, 18, 2, 0, 4, 0, 0, 0, 2, 1, 103, 0, 1, 118, 0, 0, 0, 0, 0, 0, 85, 217, 43, 82, 18, 2, 0, 5, 0, 0, 0, 2, 1, 105, 0, 1, 118, 0, 0, 0, 0, 0, 0, 49, 180, 213, 125, 11, 7, 1, 1, 2, 3, 0, 1, 104, 0, 0, 0, 246, 254, 131, 247, 10, 8, 2, 1, 3, 1, 4, 0, 0, 0, 0], .int .i64 146]],
    .row true 2 [[.ptr K.z.i 0, .int .i64 8]],
    .row true 2 [[.slice K.z.i.i 0 1 8 false 1, .slice K.z.o.o.o 0 3 2 false 3]],
    .map [],
    .row true 8 [[.int .i64 4, .int .i64 1, .str [], .str [], .bool false, .slice K.z.o.o.i 0 5 5 false 5, .slice K.z.o.i.o 0 5 4 false 5, .slice K.z.o.i.i 0 1 6 false 1]],
    .row true 2 [[.int .i64 1, .int .i64 1], [.int .i64 2, .int .i64 1], [.int .i64 3, .int .i64 1]],
    .row true 5 [[.str [97], .str [118], .int .i64 1, .bool false, .int .i64 0], [.str [99], .str [118], .int .i64 1, .bool false, .int .i64 0], [.str [101], .str [118], .int .i64 1, .bool false, .int .i64 0], [.str [103], .str [118], .int .i64 1, .bool false, .int .i64 0], [.str [105], .str [118], .int .i64 1, .bool false, .int .i64 0]],
    .row true 4 [[.str [97], .int .i64 1, .str [118], .bool false], [.str [99], .int .i64 1, .str [118], .bool false], [.str [101], .int .i64 1, .str [118], .bool false], [.str [103], .int .i64 1, .str [118], .bool false], [.str [105], .int .i64 1, .str [118], .bool false]],
    .row true 6 [[.int .i64 0, .int .i64 5, .int .i64 0, .str [], .int .i64 1, .nils]]]
  | 6 => [.row true 2 [[.str [47, 152, 82, 102, 24, 1, 0, 0, 0, 0, 0, 0, 0, 1, 13, 113, 135, 31, 170, 8, 1, 1, 0, 0, 0, 0, 0, 0, 0, 201, 212, 22, 39, 18, 2, 0, 1, 0, 0, 0, 2, 1, 97, 0, 1, 118, 0, 0, 0, 0, 0, 0, 4, 187, 251, 244, 18, 2, 0, 2, 0, 0, 0, 2, 1, 99, 0, 1, 118, 0, 0, 0, 0, 0, 0, 227, 176, 126, 249, 18, 2, 0, 3, 0, 0, 0, 2, 1, 101, 0, 1, 118, 0, 0, 0, 0, 0, 0, 162, 23, 26, 109, 18, 2, 0, 4, 0, 0, 0, 2, 1, 103, 0, 1, 118, 0, 0, 0, 0, 0, 0, 85, 217, 43, 82, 18, 2, 0, 5, 0, 0, 0, 2, 1, 105, 0, 1, 118, 0, 0, 0, 0, 0, 0, 80, 250, 51, 195, 18, 2, 0, 6, 0, 0, 0, 2, 1, 107, 0, 1, 118, 0, 0, 0, 0, 0, 0, 49, 180, 213, 125, 11, 7, 1, 1, 2, 3, 0, 1, 104, 0, 0, 0, 246, 254, 131, 247, 10, 8, 2, 1, 3, 1, 4, 0, 0, 0, 0], .int .i64 169]],
    .row true 2 [[.ptr K.z.i 0, .int .i64 9]],
    .row true 2 [[.slice K.z.i.i 0 1 8 false 1, .slice K.z.o.o.o 0 3 2 false 3]],
    .map [],
    .row true 8 [[.int .i64 4, .int .i64 1, .str [], .str [], .bool false, .slice K.z.o.o.i 0 6 5 false 6, .slice K.z.o.i.o 0 6 4 false 6, .slice K.z.o.i.i 0 1 6 false 1]],
    .row true 2 [[.int .i64 1, .int .i64 1], [.int .i64 2, .int .i64 1], [.int .i64 3, .int .i64 1]],
    .row true 5 [[.str [97], .str [118], .int .i64 1, .bool false, .int .i64 0], [.str [99], .str [118], .int .i64 1, .bool false, .int .i64 0], [.str [101], .str [118], .int .i64 1, .bool false, .int .i64 0], [.str [103], .str [118], .int .i64 1, .bool false, .int .i64 0], [.str [105], .str [118], .int .i64 1, .bool false, .int .i64 0], [.str [107], .str [118], .int .i64 1, .bool false, .int .i64 0]],
    .row true 4 [[.str [97], .int .i64 1, .str [118], .bool false], [.str [99], .int .i64 1, .str [118], .bool false], [.str [101], .int .i64 1, .str [118], .bool false], [.str [103], .int .i64 1, .str [118], .bool false], [.str [105], .int .i64 1, .str [118], .bool false], [.str [107], .int .i64 1, .str [118], .bool false]],
    .row true 6 [[.int .i64 0, .int .i64 6, .int .i64 0, .str [], .int .i64 1, .nils]]]
  | 7 => [.row true 2 [[.str [47, 152, 82, 102, 24, 1, 0, 0, 0, 0, 0, 0, 0, 1, 13, 113, 135, 31, 170, 8, 1, 1, 0, 0, 0, 0, 0, 0, 0, 201, 212, 22, 39, 18, 2, 0, 1, 0, 0, 0, 2, 1, 97, 0, 1, 118, 0, 0, 0, 0, 0, 0, 4, 187, 251, 244, 18, 2, 0, 2, 0, 0, 0, 2, 1, 99, 0, 1, 118, 0, 0, 0, 0, 0, 0, 227, 176, 126, 249, 18, 2, 0, 3, 0, 0, 0, 2, 1, 101, 0, 1, 118, 0, 0, 0, 0, 0, 0, 162, 23, 26, 109, 18, 2, 0, 4, 0, 0, 0, 2, 1, 103, 0, 1, 118, 0, 0, 0, 0, 0, 0, 85, 217, 43, 82, 18, 2, 0, 5, 0, 0, 0, 2, 1, 105, 0, 1, 118, 0, 0, 0, 0, 0, 0, 80, 250, 51, 195, 18, 2, 0, 6, 0, 0, 0, 2, 1, 107, 0, 1, 118, 0, 0, 0, 0, 0, 0, 7, 227, 82, 192, 18, 2, 0, 7, 0, 0, 0, 2, 1, 109, 0, 1, 118, 0, 0, 0, 0, 0, 0, 49, 180, 213, 125, 11, 7, 1, 1, 2, 3, 0, 1, 104, 0, 0, 0, 246, 254, 131, 247, 10, 8, 2, 1, 3, 1, 4, 0, 0, 0, 0], .int .i64 192]],
    .row true 2 [[.ptr K.z.i 0, .int .i64 10]],
    .row true 2 [[.slice K.z.i.i 0 1 8 false 1, .slice K.z.o.o.o 0 3 2 false 3]],
    .map [],
    .row true 8 [[.int .i64 4, .int .i64 1, .str [], .str [], .bool false, .slice K.z.o.o.i 0 7 5 false 7, .slice K.z.o.i.o 0 7 4 false 7, .slice K.z.o.i.i 0 1 6 false 1]],
    .row true 2 [[.int .i64 1, .int .i64 1], [.int .i64 2, .int .i64 1], [.int .i64 3, .int .i64 1]],
    .row true 5 [[.str [97], .str [118], .int .i64 1, .bool false, .int .i64 0], [.str [99], .str [118], .int .i64 1, .bool false, .int .i64 0], [.str [101], .str [118], .int .i64 1, .bool false, .int .i64 0], [.str [103], .str [118], .int .i64 1, .bool false, .int .i64 0], [.str [105], .str [118], .int .i64 1, .bool false, .int .i64 0], [.str [107], .str [118], .int .i64 1, .bool false, .int .i64 0], [.str [109], .str [118], .int .i64 1, .bool false, .int .i64 0]],
    .row true 4 [[.str [97], .int .i64 1, .str [118], .bool false], [.str [99], .int .i64 1, .str [118], .bool false], [.str [101], .int .i64 1, .str [118], .bool false], [.str [103], .int .i64 1, .str [118], .bool false], [.str [105], .int .i64 1, .str [118], .bool false], [.str [107], .int .i64 1, .str [118], .bool false], [.str [109], .int .i64 1, .str [118], .bool false]],
    .row true 6 [[.int .i64 0, .int .i64 7, .int .i64 0, .str [], .int .i64 1, .nils]]]
  | 8 => [.row true 2 [[.str [47, 152, 82, 102, 24, 1, 0, 0, 0, 0, 0, 0, 0, 1, 13, 113, 135, 31, 170, 8, 1, 1, 0, 0, 0, 0, 0, 0, 0, 201, 212, 22, 39, 18, 2, 0, 1, 0, 0, 0, 2, 1, 97, 0, 1, 118, 0, 0, 0, 0, 0, 0, 4, 187, 251, 244, 18, 2, 0, 2, 0, 0, 0, 2, 1, 99, 0, 1, 118, 0, 0, 0, 0, 0, 0, 227, 176, 126, 249, 18, 2, 0, 3, 0, 0, 0, 2, 1, 101, 0, 1, 118, 0, 0, 0, 0, 0, 0, 162, 23, 26, 109, 18, 2, 0, 4, 0, 0, 0, 2, 1, 103, 0, 1, 118, 0, 0, 0, 0, 0, 0, 85, 217, 43, 82, 18, 2, 0, 5, 0, 0, 0, 2, 1, 105, 0, 1, 118, 0, 0, 0, 0, 0, 0, 80, 250, 51, 195, 18, 2, 0, 6, 0, 0, 0, 2, 1, 107, 0, 1, 118, 0, 0, 0, 0, 0, 0, 7, 227, 82, 192, 18, 2, 0, 7, 0, 0, 0, 2, 1, 109, 0, 1, 118, 0, 0, 0, 0, 0, 0, 230, 35, 189, 97, 18, 2, 0, 8, 0, 0, 0, 2, 1, 111, 0, 1, 118, 0, 0, 0, 0, 0, 0, 49, 180, 213, 125, 11, 7, 1, 1, 2, 3, 0, 1, 104, 0, 0, 0, 246, 254, 131, 247, 10, 8, 2, 1, 3, 1, 4, 0, 0, 0, 0], .int .i64 215]],
    .row true 2 [[.ptr K.z.i 0, .int .i64 11]],
    .row true 2 [[.slice K.z.i.i 0 1 8 false 1, .slice K.z.o.o.o 0 3 2 false 3]],
    .map [],
    .row true 8 [[.int .i64 4, .int .i64 1, .str [], .str [], .bool false, .slice K.z.o.o.i 0 8 5 false 8, .slice K.z.o.i.o 0 8 4 false 8, .slice K.z.o.i.i 0 1 6 false 1]],
    .row true 2 [[.int .i64 1, .int .i64 1], [.int .i64 2, .int .i64 1], [.int .i64 3, .int .i64 1]],
    .row true 5 [[.str [97], .str [118], .int .i64 1, .bool false, .int .i64 0], [.str [99], .str [118], .int .i64 1, .bool false, .int .i64 0], [.str [101], .str [118], .int .i64 1, .bool false, .int .i64 0], [.str [103], .str [118], .int .i64 1, .bool false, .int .i64 0], [.str [105], .str [118], .int .i64 1, .bool false, .int .i64 0], [.str [107], .str [118], .int .i64 1, .bool false, .int .i64 0], [.str [109], .str [118], .int .i64 1, .bool false, .int .i64 0], [.str [111], .str [118], .int .i64 1, .bool false, .int .i64 0]],
    .row true 4 [[.str [97], .int .i64 1, .str [118], .bool false], [.str [99], .int .i64 1, .str [118], .bool false], [.str [101], .int .i64 1, .str [118], .bool false], [.str [103], .int .i64 1, .str [118], .bool false], [.str [105], .int .i64 1, .str [118], .bool false], [.str [107], .int .i64 1, .str [118], .bool false], [.str [109], .int .i64 1, .str [118], .bool false], [.str [111], .int .i64 1, .str [118], .bool false]],
    .row true 6 [[.int .i64 0, .int .i64 8, .int .i64 0, .str [], .int .i64 1, .nils]]]
  | _ => [.row true 2 [[.str [47, 152, 82, 102, 24, 1, 0, 0, 0, 0, 0, 0, 0, 1, 13, 113, 135, 31, 170, 8, 1, 1, 0, 0, 0, 0, 0, 0, 0, 201, 212, 22, 39, 18, 2, 0, 1, 0, 0, 0, 2, 1, 97, 0, 1, 118, 0, 0, 0, 0, 0, 0, 4, 187, 251, 244, 18, 2, 0, 2, 0, 0, 0, 2, 1, 99, 0, 1, 118, 0, 0, 0, 0, 0, 0, 227, 176, 126, 249, 18, 2, 0, 3, 0, 0, 0, 2, 1, 101, 0, 1, 118, 0, 0, 0, 0, 0, 0, 162, 23, 26, 109, 18, 2, 0, 4, 0, 0, 0, 2, 1, 103, 0, 1, 118, 0, 0, 0, 0, 0, 0, 85, 217, 43, 82, 18, 2, 0, 5, 0, 0, 0, 2, 1, 105, 0, 1, 118, 0, 0, 0, 0, 0, 0, 80, 250, 51, 195, 18, 2, 0, 6, 0, 0, 0, 2, 1, 107, 0, 1, 118, 0, 0, 0, 0, 0, 0, 7, 227, 82, 192, 18, 2, 0, 7, 0, 0, 0, 2, 1, 109, 0, 1, 118, 0, 0, 0, 0, 0, 0, 230, 35, 189, 97, 18, 2, 0, 8, 0, 0, 0, 2, 1, 111, 0, 1, 118, 0, 0, 0, 0, 0, 0, 49, 19, 142, 226, 18, 2, 0, 9, 0, 0, 0, 2, 1, 113, 0, 1, 118, 0, 0, 0, 0, 0, 0, 49, 180, 213, 125, 11, 7, 1, 1, 2, 3, 0, 1, 104, 0, 0, 0, 246, 254, 131, 247, 10, 8, 2, 1, 3, 1, 4, 0, 0, 0, 0], .int .i64 238]],
    .row true 2 [[.ptr K.z.i 0, .int .i64 12]],
    .row true 2 [[.slice K.z.i.i 0 1 8 false 1, .slice K.z.o.o.o 0 3 2 false 3]],
    .map [],
    .row true 8 [[.int .i64 4, .int .i64 1, .str [], .str [], .bool false, .slice K.z.o.o.i 0 9 5 false 9, .slice K.z.o.i.o 0 9 4 false 9, .slice K.z.o.i.i 0 1 6 false 1]],
    .row true 2 [[.int .i64 1, .int .i64 1], [.int .i64 2, .int .i64 1], [.int .i64 3, .int .i64 1]],
    .row true 5 [[.str [97], .str [118], .int .i64 1, .bool false, .int .i64 0], [.str [99], .str [118], .int .i64 1, .bool false, .int .i64 0], [.str [101], .str [118], .int .i64 1, .bool false, .int .i64 0], [.str [103], .str [118], .int .i64 1, .bool false, .int .i64 0], [.str [105], .str [118], .int .i64 1, .bool false, .int .i64 0], [.str [107], .str [118], .int .i64 1, .bool false, .int .i64 0], [.str [109], .str [118], .int .i64 1, .bool false, .int .i64 0], [.str [111], .str [118], .int .i64 1, .bool false, .int .i64 0], [.str [113], .str [118], .int .i64 1, .bool false, .int .i64 0]],
    .row true 4 [[.str [97], .int .i64 1, .str [118], .bool false], [.str [99], .int .i64 1, .str [118], .bool false], [.str [101], .int .i64 1, .str [118], .bool false], [.str [103], .int .i64 1, .str [118], .bool false], [.str [105], .int .i64 1, .str [118], .bool false], [.str [107], .int .i64 1, .str [118], .bool false], [.str [109], .int .i64 1, .str [118], .bool false], [.str [111], .int .i64 1, .str [118], .bool false], [.str [113], .int .i64 1, .str [118], .bool false]],
    .row true 6 [[.int .i64 0, .int .i64 9, .int .i64 0, .str [], .int .i64 1, .nils]]]
/-- the names of what is new -/
def xS : Nat → List K
  | 0 => [K.z.i.o.i.o.o.i.i, K.z.i.o.o.i.o.o.i]
  | 1 => [K.z.o.i.i.o.o.o.o.i, K.z.o.i.o.i.o.i.i.i, K.z.o.o.i.i.i.o.o.i, K.z.o.o.i.i.i.i.i.o, K.z.o.i.o.o.o.o.o.o, K.z.o.i.o.o.i.i.i.i]
  | 2 => [K.z.i.o.i.i.o.i.o.o, K.z.i.o.i.o.i.o.i.o, K.z.i.o.o.o.o.o.o.i, K.z.i.o.o.o.i.o.i.i, K.z.i.o.o.o.i.i.o.i, K.z.i.o.i.o.o.o.i.o]
  | 3 => [K.z.o.o.o.o.i.o.o.o.o, K.z.o.o.o.o.o.o.i.i.o, K.z.i.i.o.i.o.o.i.o, K.z.i.i.i.o.o.o.o.i, K.z.i.i.i.o.o.o.i.i, K.z.i.i.i.i.i.i.i.o]
  | 4 => [K.z.o.o.i.i.i.o.i.o.i, K.z.o.o.i.i.o.i.o.i.i, K.z.o.o.o.i.o.i.i.o.o, K.z.o.o.i.o.o.o.o.o.o, K.z.o.o.i.o.o.o.o.i.o, K.z.o.o.i.i.o.o.o.i.i]
  | 5 => [K.z.o.i.i.i.o.o.o.i.i, K.z.o.i.i.o.i.i.o.o.i, K.z.o.i.o.o.o.i.o.i.o, K.z.o.i.o.i.o.o.o.o.i, K.z.o.i.o.i.o.o.i.i.o, K.z.o.i.o.i.i.i.i.i.o, K.z.o.i.i.o.o.i.i.i.i, K.z.o.i.i.o.i.o.o.o.i]
  | 6 => [K.z.i.o.i.o.i.i.o.i.o, K.z.i.o.i.o.i.o.o.o.o, K.z.o.i.i.i.i.o.o.o.i, K.z.i.o.o.o.o.i.o.i.i, K.z.i.o.o.o.i.o.o.i.i, K.z.i.o.o.i.i.o.o.o.o, K.z.i.o.i.o.o.o.i.i.o, K.z.i.o.i.o.o.i.o.o.o]
  | 7 => [K.z.i.i.i.o.i.i.o.i.o, K.z.i.i.i.o.i.o.o.o.o, K.z.i.o.i.i.o.o.o.o.i, K.z.i.o.i.i.i.i.i.i.o, K.z.i.i.o.o.o.i.o.o.i, K.z.i.i.o.i.o.i.o.i.i, K.z.i.i.i.o.o.o.i.i.o, K.z.i.i.i.o.o.i.o.o.o]
  | 8 => [K.z.o.o.o.i.i.o.o.o.i.i, K.z.o.o.o.i.o.i.i.o.o.i, K.z.i.i.i.o.i.i.o.i.o, K.z.i.i.i.i.i.i.o.i.o, K.z.o.o.o.o.o.o.i.o.o.o, K.z.o.o.o.o.i.o.i.i.i.i, K.z.o.o.o.i.o.o.i.i.i.i, K.z.o.o.o.i.o.i.o.o.o.i]
  | _ => [K.z.o.o.i.i.i.i.o.i.o.i, K.z.o.o.i.i.i.o.i.o.i.i, K.z.o.o.o.i.o.i.i.i.o.o, K.z.o.o.o.i.i.i.i.i.i.i, K.z.o.o.i.o.o.i.o.o.o.o, K.z.o.o.i.o.i.i.i.i.o.o, K.z.o.o.i.i.i.o.o.o.o.i, K.z.o.o.i.i.i.o.o.o.i.i]
def xJ : Nat → List K
  | 0 => [K.z.o.o.o.o.o.i.i.o, K.z.i.i.i.i.i.i.o]
  | 1 => [K.z.i.o.i.o.i.i.i.o, K.z.i.o.i.o.o.i.i.o, K.z.i.o.o.o.o.o.i.i, K.z.i.o.o.o.o.i.o.i, K.z.i.o.o.o.i.o.i.i]
  | 2 => [K.z.i.i.i.o.o.o.o.i, K.z.i.i.o.i.i.o.o.i, K.z.i.o.i.i.o.i.i.o, K.z.i.o.i.i.i.o.o.o, K.z.i.o.i.i.i.i.i.o]
  | 3 => [K.z.o.o.o.o.i.i.i.o.i, K.z.o.o.o.o.i.o.i.o.i, K.z.i.i.i.i.o.o.i.o, K.z.i.i.i.i.o.i.o.o, K.z.i.i.i.i.i.o.i.o]
  | 4 => [K.z.o.o.i.i.o.o.o.i.o, K.z.o.o.i.o.i.i.o.i.o, K.z.o.o.o.i.i.o.i.i.i, K.z.o.o.o.i.i.i.o.o.i, K.z.o.o.o.i.i.i.i.i.i]
  | 5 => [K.z.o.i.o.o.i.i.i.i.o, K.z.o.i.o.o.i.o.i.i.o, K.z.o.o.i.i.i.o.o.i.i, K.z.o.o.i.i.i.o.i.o.i, K.z.o.o.i.i.i.i.o.i.i]
  | 6 => [K.z.o.i.i.o.i.o.o.o.i, K.z.o.i.i.o.o.i.o.o.i, K.z.o.i.o.i.o.o.i.i.o, K.z.o.i.o.i.o.i.o.o.o, K.z.o.i.o.i.o.i.i.i.o]
  | 7 => [K.z.i.o.o.o.o.i.i.o.i, K.z.i.o.o.o.o.o.i.o.i, K.z.o.i.i.i.o.o.o.i.o, K.z.o.i.i.i.o.o.i.o.o, K.z.o.i.i.i.o.i.o.i.o]
  | 8 => [K.z.i.o.i.o.i.o.o.i.o, K.z.i.o.i.o.o.i.o.i.o, K.z.i.o.o.i.o.o.i.i.i, K.z.i.o.o.i.o.i.o.o.i, K.z.i.o.o.i.o.i.i.i.i]
  | _ => [K.z.i.i.o.i.o.o.o.o.o, K.z.i.i.o.o.i.i.o.o.o, K.z.i.o.i.i.i.o.i.o.i, K.z.i.o.i.i.i.o.i.i.i, K.z.i.o.i.i.i.i.i.o.i]
def yS : Nat → List K
  | 0 => [K.z.i.i, K.z.o.o.o]
  | 1 => [K.z.i.i, K.z.o.o.o, K.z.o.o.i, K.z.o.i.o, K.z.o.i.i, K.z.i.o.o]
  | 2 => [K.z.i.i, K.z.o.o.o, K.z.o.o.i, K.z.o.i.o, K.z.o.i.i, K.z.i.o.o]
  | 3 => [K.z.i.i, K.z.o.o.o, K.z.o.o.i, K.z.o.i.o, K.z.o.i.i, K.z.i.o.o]
  | 4 => [K.z.i.i, K.z.o.o.o, K.z.o.o.i, K.z.o.i.o, K.z.o.i.i, K.z.i.o.o]
  | 5 => [K.z.i.i, K.z.o.o.o, K.z.o.o.i, K.z.o.i.o, K.z.o.i.i, K.z.i.o.o, K.z.i.o.i, K.z.i.i.o]
  | 6 => [K.z.i.i, K.z.o.o.o, K.z.o.o.i, K.z.o.i.o, K.z.o.i.i, K.z.i.o.o, K.z.i.o.i, K.z.i.i.o]
  | 7 => [K.z.i.i, K.z.o.o.o, K.z.o.o.i, K.z.o.i.o, K.z.o.i.i, K.z.i.o.o, K.z.i.o.i, K.z.i.i.o]
  | 8 => [K.z.i.i, K.z.o.o.o, K.z.o.o.i, K.z.o.i.o, K.z.o.i.i, K.z.i.o.o, K.z.i.o.i, K.z.i.i.o]
  | _ => [K.z.i.i, K.z.o.o.o, K.z.o.o.i, K.z.o.i.o, K.z.o.i.i, K.z.i.o.o, K.z.i.o.i, K.z.i.i.o]
def yJ : Nat → List K
  | 0 => [K.z.i.i, K.z.o.o.o]
  | 1 => [K.z.i.i, K.z.o.o.o, K.z.o.o.i, K.z.o.i.o, K.z.o.i.i]
  | 2 => [K.z.i.i, K.z.o.o.o, K.z.o.o.i, K.z.o.i.o, K.z.o.i.i]
  | 3 => [K.z.i.i, K.z.o.o.o, K.z.o.o.i, K.z.o.i.o, K.z.o.i.i]
  | 4 => [K.z.i.i, K.z.o.o.o, K.z.o.o.i, K.z.o.i.o, K.z.o.i.i]
  | 5 => [K.z.i.i, K.z.o.o.o, K.z.o.o.i, K.z.o.i.o, K.z.o.i.i]
  | 6 => [K.z.i.i, K.z.o.o.o, K.z.o.o.i, K.z.o.i.o, K.z.o.i.i]
  | 7 => [K.z.i.i, K.z.o.o.o, K.z.o.o.i, K.z.o.i.o, K.z.o.i.i]
  | 8 => [K.z.i.i, K.z.o.o.o, K.z.o.o.i, K.z.o.i.o, K.z.o.i.i]
  | _ => [K.z.i.i, K.z.o.o.o, K.z.o.o.i, K.z.o.i.o, K.z.o.i.i]
def xP : Nat → List K
  | 0 => [K.z.o.i.i, K.z, K.z.o.o.o, K.z.i.o.i, K.z.o.o.i, K.z.o.i.o, K.z.i.i.o.o.o.o]
  | 1 => [K.z, K.z.o.o.i.o.o.o.i.i, K.z.i, K.z.o.o, K.z.o.i, K.z.i.o, K.z.o.o.o.i.i.o.i.o, K.z.o.o.o.o.i.i.o.o, K.z.o.o.o.o.i.i.i.o, K.z.o.o.o.i.o.i.i.o]
  | 2 => [K.z, K.z.o.i.i.o.i.i.i.i, K.z.i, K.z.o.o, K.z.o.i, K.z.i.o, K.z.o.i.i.o.o.i.i.o, K.z.o.i.o.i.i.o.o.o, K.z.o.i.o.i.i.o.i.o, K.z.o.i.i.o.o.o.i.o]
  | 3 => [K.z, K.z.i.o.o.o.o.o.i.i, K.z.i, K.z.o.o, K.z.o.i, K.z.i.o, K.z.o.i.i.i.i.o.i.o, K.z.o.i.i.o.i.i.o.o, K.z.o.i.i.o.i.i.i.o, K.z.o.i.i.i.o.i.i.o]
  | 4 => [K.z, K.z.i.o.o.i.i.o.i.o, K.z.i, K.z.o.o, K.z.o.i, K.z.i.o, K.z.i.o.o.i.o.o.o.i, K.z.i.o.o.o.o.o.i.i, K.z.i.o.o.o.o.i.o.i, K.z.i.o.o.o.i.i.o.i]
  | 5 => [K.z, K.z.i.o.i.i.o.i.o.o, K.z.i, K.z.o.o, K.z.o.i, K.z.i.o, K.z.i.o.i.o.i.o.i.i, K.z.i.o.o.i.i.i.o.i, K.z.i.o.o.i.i.i.i.i, K.z.i.o.i.o.o.i.i.i]
  | 6 => [K.z, K.z.i.i.o.i.o.o.o.i, K.z.i, K.z.o.o, K.z.o.i, K.z.i.o, K.z.i.i.o.o.i.o.o.o, K.z.i.o.i.i.i.o.i.o, K.z.i.o.i.i.i.i.o.o, K.z.i.i.o.o.o.i.o.o]
  | 7 => [K.z, K.z.i.i.i.i.o.o.o.i, K.z.i, K.z.o.o, K.z.o.i, K.z.i.o, K.z.i.i.i.o.i.o.o.o, K.z.i.i.o.i.i.o.i.o, K.z.i.i.o.i.i.i.o.o, K.z.i.i.i.o.o.i.o.o]
  | 8 => [K.z, K.z.o.o.o.o.i.o.i.o.o, K.z.i, K.z.o.o, K.z.o.i, K.z.i.o, K.z.o.o.o.o.o.i.o.i.i, K.z.i.i.i.i.i.i.o.i, K.z.i.i.i.i.i.i.i.i, K.z.o.o.o.o.o.o.i.i.i]
  | _ => [K.z, K.z.o.o.o.i.i.i.o.i.o, K.z.i, K.z.o.o, K.z.o.i, K.z.i.o, K.z.o.o.o.i.i.o.o.o.i, K.z.o.o.o.i.o.o.o.i.i, K.z.o.o.o.i.o.o.i.o.i, K.z.o.o.o.i.o.i.i.o.i]
/-- the answers to puts -/
def wsP (c : Nat) : List (List AV) := (List.range c).map fun i => saidP i 1
def wB : Nat → Blk
  | 0 => .dead
  | n + 1 => .row true 24 (wsP (n + 1))
abbrev blP (c : Nat) : List Blk := nB (wN c) :: wB c :: tP c
end Go.Proofs
/- NodeCuts: a split: reckoned. -/

set_option linter.all false
set_option maxRecDepth 100000
namespace Go.Proofs
open Go Go.Ev
theorem rS1 (n : Nat) : chkB (blN (n + 1) (tP 1)) (blN (n + 1) (tS 1)) (pre6 ++ xS 1) [.ptr .z 0, .agg sR] (.tup [.agg zA, errV none]) = true ∧ runL (evFn Tryz.prog XL 100000 28 [.ptr .z 0, .agg sR] (hp0.ext (blN (n + 1) (tP 1)))) (pre6 ++ xS 1) (blN (n + 1) (tS 1)) = some (.tup [.agg zA, errV none], true, wantL (pre6 ++ xS 1) (blN (n + 1) (tS 1))) := ⟨by kernel_rfl, by kernel_rfl⟩
theorem rS2 (n : Nat) : chkB (blN (n + 1) (tP 2)) (blN (n + 1) (tS 2)) (pre6 ++ xS 2) [.ptr .z 0, .agg sR] (.tup [.agg zA, errV none]) = true ∧ runL (evFn Tryz.prog XL 100000 28 [.ptr .z 0, .agg sR] (hp0.ext (blN (n + 1) (tP 2)))) (pre6 ++ xS 2) (blN (n + 1) (tS 2)) = some (.tup [.agg zA, errV none], true, wantL (pre6 ++ xS 2) (blN (n + 1) (tS 2))) := ⟨by kernel_rfl, by kernel_rfl⟩
theorem rS3 (n : Nat) : chkB (blN (n + 1) (tP 3)) (blN (n + 1) (tS 3)) (pre6 ++ xS 3) [.ptr .z 0, .agg sR] (.tup [.agg zA, errV none]) = true ∧ runL (evFn Tryz.prog XL 100000 28 [.ptr .z 0, .agg sR] (hp0.ext (blN (n + 1) (tP 3)))) (pre6 ++ xS 3) (blN (n + 1) (tS 3)) = some (.tup [.agg zA, errV none], true, wantL (pre6 ++ xS 3) (blN (n + 1) (tS 3))) := ⟨by kernel_rfl, by kernel_rfl⟩
theorem rS4 (n : Nat) : chkB (blN (n + 1) (tP 4)) (blN (n + 1) (tS 4)) (pre6 ++ xS 4) [.ptr .z 0, .agg sR] (.tup [.agg zA, errV none]) = true ∧ runL (evFn Tryz.prog XL 100000 28 [.ptr .z 0, .agg sR] (hp0.ext (blN (n + 1) (tP 4)))) (pre6 ++ xS 4) (blN (n + 1) (tS 4)) = some (.tup [.agg zA, errV none], true, wantL (pre6 ++ xS 4) (blN (n + 1) (tS 4))) := ⟨by kernel_rfl, by kernel_rfl⟩
theorem rS5 (n : Nat) : chkB (blN (n + 1) (tP 5)) (blN (n + 1) (tS 5)) (pre6 ++ xS 5) [.ptr .z 0, .agg sR] (.tup [.agg zA, errV none]) = true ∧ runL (evFn Tryz.prog XL 100000 28 [.ptr .z 0, .agg sR] (hp0.ext (blN (n + 1) (tP 5)))) (pre6 ++ xS 5) (blN (n + 1) (tS 5)) = some (.tup [.agg zA, errV none], true, wantL (pre6 ++ xS 5) (blN (n + 1) (tS 5))) := ⟨by kernel_rfl, by kernel_rfl⟩
theorem rS6 (n : Nat) : chkB (blN (n + 1) (tP 6)) (blN (n + 1) (tS 6)) (pre6 ++ xS 6) [.ptr .z 0, .agg sR] (.tup [.agg zA, errV none]) = true ∧ runL (evFn Tryz.prog XL 100000 28 [.ptr .z 0, .agg sR] (hp0.ext (blN (n + 1) (tP 6)))) (pre6 ++ xS 6) (blN (n + 1) (tS 6)) = some (.tup [.agg zA, errV none], true, wantL (pre6 ++ xS 6) (blN (n + 1) (tS 6))) := ⟨by kernel_rfl, by kernel_rfl⟩
theorem rS7 (n : Nat) : chkB (blN (n + 1) (tP 7)) (blN (n + 1) (tS 7)) (pre6 ++ xS 7) [.ptr .z 0, .agg sR] (.tup [.agg zA, errV none]) = true ∧ runL (evFn Tryz.prog XL 100000 28 [.ptr .z 0, .agg sR] (hp0.ext (blN (n + 1) (tP 7)))) (pre6 ++ xS 7) (blN (n + 1) (tS 7)) = some (.tup [.agg zA, errV none], true, wantL (pre6 ++ xS 7) (blN (n + 1) (tS 7))) := ⟨by kernel_rfl, by kernel_rfl⟩
theorem rS8 (n : Nat) : chkB (blN (n + 1) (tP 8)) (blN (n + 1) (tS 8)) (pre6 ++ xS 8) [.ptr .z 0, .agg sR] (.tup [.agg zA, errV none]) = true ∧ runL (evFn Tryz.prog XL 100000 28 [.ptr .z 0, .agg sR] (hp0.ext (blN (n + 1) (tP 8)))) (pre6 ++ xS 8) (blN (n + 1) (tS 8)) = some (.tup [.agg zA, errV none], true, wantL (pre6 ++ xS 8) (blN (n + 1) (tS 8))) := ⟨by kernel_rfl, by kernel_rfl⟩
theorem rS9 (n : Nat) : chkB (blN (n + 1) (tP 9)) (blN (n + 1) (tS 9)) (pre6 ++ xS 9) [.ptr .z 0, .agg sR] (.tup [.agg zA, errV none]) = true ∧ runL (evFn Tryz.prog XL 100000 28 [.ptr .z 0, .agg sR] (hp0.ext (blN (n + 1) (tP 9)))) (pre6 ++ xS 9) (blN (n + 1) (tS 9)) = some (.tup [.agg zA, errV none], true, wantL (pre6 ++ xS 9) (blN (n + 1) (tS 9))) := ⟨by kernel_rfl, by kernel_rfl⟩
theorem rSz : chkB (blN 0 (tP 0)) (blN 0 (tS 0)) (pre6 ++ xS 0) [.ptr .z 0, .agg sR] (.tup [.agg zA, errV none]) = true ∧ runL (evFn Tryz.prog XL 100000 28 [.ptr .z 0, .agg sR] (hp0.ext (blN 0 (tP 0)))) (pre6 ++ xS 0) (blN 0 (tS 0)) = some (.tup [.agg zA, errV none], true, wantL (pre6 ++ xS 0) (blN 0 (tS 0))) := ⟨by kernel_rfl, by kernel_rfl⟩
theorem rS : ∀ c, c < 10 → RunR (tP c) (tS c) sR none (pre6 ++ xS c) c
  | 0, _ => ⟨pre6_ok _, rSz⟩
  | 1, _ => ⟨pre6_ok _, rS1 0⟩
  | 2, _ => ⟨pre6_ok _, rS2 1⟩
  | 3, _ => ⟨pre6_ok _, rS3 2⟩
  | 4, _ => ⟨pre6_ok _, rS4 3⟩
  | 5, _ => ⟨pre6_ok _, rS5 4⟩
  | 6, _ => ⟨pre6_ok _, rS6 5⟩
  | 7, _ => ⟨pre6_ok _, rS7 6⟩
  | 8, _ => ⟨pre6_ok _, rS8 7⟩
  | 9, _ => ⟨pre6_ok _, rS9 8⟩
  | n + 10, h => absurd h (by omega)
end Go.Proofs
/- NodeCuts: a split again: reckoned. -/

set_option linter.all false
set_option maxRecDepth 100000
namespace Go.Proofs
open Go Go.Ev
theorem rT0 (n : Nat) : chkB (blN (n + 1) (tS 0)) (blN (n + 1) (tS 0)) (pre6 ++ yS 0) [.ptr .z 0, .agg sR] (.tup [.agg zA, errV (some 14)]) = true ∧ runL (evFn Tryz.prog XL 100000 28 [.ptr .z 0, .agg sR] (hp0.ext (blN (n + 1) (tS 0)))) (pre6 ++ yS 0) (blN (n + 1) (tS 0)) = some (.tup [.agg zA, errV (some 14)], true, wantL (pre6 ++ yS 0) (blN (n + 1) (tS 0))) := ⟨by kernel_rfl, by kernel_rfl⟩
theorem rT1 (n : Nat) : chkB (blN (n + 1) (tS 1)) (blN (n + 1) (tS 1)) (pre6 ++ yS 1) [.ptr .z 0, .agg sR] (.tup [.agg zA, errV (some 14)]) = true ∧ runL (evFn Tryz.prog XL 100000 28 [.ptr .z 0, .agg sR] (hp0.ext (blN (n + 1) (tS 1)))) (pre6 ++ yS 1) (blN (n + 1) (tS 1)) = some (.tup [.agg zA, errV (some 14)], true, wantL (pre6 ++ yS 1) (blN (n + 1) (tS 1))) := ⟨by kernel_rfl, by kernel_rfl⟩
theorem rT2 (n : Nat) : chkB (blN (n + 1) (tS 2)) (blN (n + 1) (tS 2)) (pre6 ++ yS 2) [.ptr .z 0, .agg sR] (.tup [.agg zA, errV (some 14)]) = true ∧ runL (evFn Tryz.prog XL 100000 28 [.ptr .z 0, .agg sR] (hp0.ext (blN (n + 1) (tS 2)))) (pre6 ++ yS 2) (blN (n + 1) (tS 2)) = some (.tup [.agg zA, errV (some 14)], true, wantL (pre6 ++ yS 2) (blN (n + 1) (tS 2))) := ⟨by kernel_rfl, by kernel_rfl⟩
theorem rT3 (n : Nat) : chkB (blN (n + 1) (tS 3)) (blN (n + 1) (tS 3)) (pre6 ++ yS 3) [.ptr .z 0, .agg sR] (.tup [.agg zA, errV (some 14)]) = true ∧ runL (evFn Tryz.prog XL 100000 28 [.ptr .z 0, .agg sR] (hp0.ext (blN (n + 1) (tS 3)))) (pre6 ++ yS 3) (blN (n + 1) (tS 3)) = some (.tup [.agg zA, errV (some 14)], true, wantL (pre6 ++ yS 3) (blN (n + 1) (tS 3))) := ⟨by kernel_rfl, by kernel_rfl⟩
theorem rT4 (n : Nat) : chkB (blN (n + 1) (tS 4)) (blN (n + 1) (tS 4)) (pre6 ++ yS 4) [.ptr .z 0, .agg sR] (.tup [.agg zA, errV (some 14)]) = true ∧ runL (evFn Tryz.prog XL 100000 28 [.ptr .z 0, .agg sR] (hp0.ext (blN (n + 1) (tS 4)))) (pre6 ++ yS 4) (blN (n + 1) (tS 4)) = some (.tup [.agg zA, errV (some 14)], true, wantL (pre6 ++ yS 4) (blN (n + 1) (tS 4))) := ⟨by kernel_rfl, by kernel_rfl⟩
theorem rT5 (n : Nat) : chkB (blN (n + 1) (tS 5)) (blN (n + 1) (tS 5)) (pre6 ++ yS 5) [.ptr .z 0, .agg sR] (.tup [.agg zA, errV (some 14)]) = true ∧ runL (evFn Tryz.prog XL 100000 28 [.ptr .z 0, .agg sR] (hp0.ext (blN (n + 1) (tS 5)))) (pre6 ++ yS 5) (blN (n + 1) (tS 5)) = some (.tup [.agg zA, errV (some 14)], true, wantL (pre6 ++ yS 5) (blN (n + 1) (tS 5))) := ⟨by kernel_rfl, by kernel_rfl⟩
theorem rT6 (n : Nat) : chkB (blN (n + 1) (tS 6)) (blN (n + 1) (tS 6)) (pre6 ++ yS 6) [.ptr .z 0, .agg sR] (.tup [.agg zA, errV (some 14)]) = true ∧ runL (evFn Tryz.prog XL 100000 28 [.ptr .z 0, .agg sR] (hp0.ext (blN (n + 1) (tS 6)))) (pre6 ++ yS 6) (blN (n + 1) (tS 6)) = some (.tup [.agg zA, errV (some 14)], true, wantL (pre6 ++ yS 6) (blN (n + 1) (tS 6))) := ⟨by kernel_rfl, by kernel_rfl⟩
theorem rT7 (n : Nat) : chkB (blN (n + 1) (tS 7)) (blN (n + 1) (tS 7)) (pre6 ++ yS 7) [.ptr .z 0, .agg sR] (.tup [.agg zA, errV (some 14)]) = true ∧ runL (evFn Tryz.prog XL 100000 28 [.ptr .z 0, .agg sR] (hp0.ext (blN (n + 1) (tS 7)))) (pre6 ++ yS 7) (blN (n + 1) (tS 7)) = some (.tup [.agg zA, errV (some 14)], true, wantL (pre6 ++ yS 7) (blN (n + 1) (tS 7))) := ⟨by kernel_rfl, by kernel_rfl⟩
theorem rT8 (n : Nat) : chkB (blN (n + 1) (tS 8)) (blN (n + 1) (tS 8)) (pre6 ++ yS 8) [.ptr .z 0, .agg sR] (.tup [.agg zA, errV (some 14)]) = true ∧ runL (evFn Tryz.prog XL 100000 28 [.ptr .z 0, .agg sR] (hp0.ext (blN (n + 1) (tS 8)))) (pre6 ++ yS 8) (blN (n + 1) (tS 8)) = some (.tup [.agg zA, errV (some 14)], true, wantL (pre6 ++ yS 8) (blN (n + 1) (tS 8))) := ⟨by kernel_rfl, by kernel_rfl⟩
theorem rT9 (n : Nat) : chkB (blN (n + 1) (tS 9)) (blN (n + 1) (tS 9)) (pre6 ++ yS 9) [.ptr .z 0, .agg sR] (.tup [.agg zA, errV (some 14)]) = true ∧ runL (evFn Tryz.prog XL 100000 28 [.ptr .z 0, .agg sR] (hp0.ext (blN (n + 1) (tS 9)))) (pre6 ++ yS 9) (blN (n + 1) (tS 9)) = some (.tup [.agg zA, errV (some 14)], true, wantL (pre6 ++ yS 9) (blN (n + 1) (tS 9))) := ⟨by kernel_rfl, by kernel_rfl⟩
theorem rT (n : Nat) : ∀ c, c < 10 → RunR (tS c) (tS c) sR (some 14) (pre6 ++ yS c) (n + 1)
  | 0, _ => ⟨pre6_ok _, rT0 n⟩
  | 1, _ => ⟨pre6_ok _, rT1 n⟩
  | 2, _ => ⟨pre6_ok _, rT2 n⟩
  | 3, _ => ⟨pre6_ok _, rT3 n⟩
  | 4, _ => ⟨pre6_ok _, rT4 n⟩
  | 5, _ => ⟨pre6_ok _, rT5 n⟩
  | 6, _ => ⟨pre6_ok _, rT6 n⟩
  | 7, _ => ⟨pre6_ok _, rT7 n⟩
  | 8, _ => ⟨pre6_ok _, rT8 n⟩
  | 9, _ => ⟨pre6_ok _, rT9 n⟩
  | n + 10, h => absurd h (by omega)
end Go.Proofs
/- NodeCuts: a join: reckoned. -/

set_option linter.all false
set_option maxRecDepth 100000
namespace Go.Proofs
open Go Go.Ev
theorem rJ0 (n : Nat) : chkB (blN (n + 1) (tS 0)) (blN (n + 1) (tJ 0)) (pre6 ++ xJ 0) [.ptr .z 0, .agg jR] (.tup [.agg zA, errV none]) = true ∧ runL (evFn Tryz.prog XL 100000 28 [.ptr .z 0, .agg jR] (hp0.ext (blN (n + 1) (tS 0)))) (pre6 ++ xJ 0) (blN (n + 1) (tJ 0)) = some (.tup [.agg zA, errV none], true, wantL (pre6 ++ xJ 0) (blN (n + 1) (tJ 0))) := ⟨by kernel_rfl, by kernel_rfl⟩
theorem rJ1 (n : Nat) : chkB (blN (n + 1) (tS 1)) (blN (n + 1) (tJ 1)) (pre6 ++ xJ 1) [.ptr .z 0, .agg jR] (.tup [.agg zA, errV none]) = true ∧ runL (evFn Tryz.prog XL 100000 28 [.ptr .z 0, .agg jR] (hp0.ext (blN (n + 1) (tS 1)))) (pre6 ++ xJ 1) (blN (n + 1) (tJ 1)) = some (.tup [.agg zA, errV none], true, wantL (pre6 ++ xJ 1) (blN (n + 1) (tJ 1))) := ⟨by kernel_rfl, by kernel_rfl⟩
theorem rJ2 (n : Nat) : chkB (blN (n + 1) (tS 2)) (blN (n + 1) (tJ 2)) (pre6 ++ xJ 2) [.ptr .z 0, .agg jR] (.tup [.agg zA, errV none]) = true ∧ runL (evFn Tryz.prog XL 100000 28 [.ptr .z 0, .agg jR] (hp0.ext (blN (n + 1) (tS 2)))) (pre6 ++ xJ 2) (blN (n + 1) (tJ 2)) = some (.tup [.agg zA, errV none], true, wantL (pre6 ++ xJ 2) (blN (n + 1) (tJ 2))) := ⟨by kernel_rfl, by kernel_rfl⟩
theorem rJ3 (n : Nat) : chkB (blN (n + 1) (tS 3)) (blN (n + 1) (tJ 3)) (pre6 ++ xJ 3) [.ptr .z 0, .agg jR] (.tup [.agg zA, errV none]) = true ∧ runL (evFn Tryz.prog XL 100000 28 [.ptr .z 0, .agg jR] (hp0.ext (blN (n + 1) (tS 3)))) (pre6 ++ xJ 3) (blN (n + 1) (tJ 3)) = some (.tup [.agg zA, errV none], true, wantL (pre6 ++ xJ 3) (blN (n + 1) (tJ 3))) := ⟨by kernel_rfl, by kernel_rfl⟩
theorem rJ4 (n : Nat) : chkB (blN (n + 1) (tS 4)) (blN (n + 1) (tJ 4)) (pre6 ++ xJ 4) [.ptr .z 0, .agg jR] (.tup [.agg zA, errV none]) = true ∧ runL (evFn Tryz.prog XL 100000 28 [.ptr .z 0, .agg jR] (hp0.ext (blN (n + 1) (tS 4)))) (pre6 ++ xJ 4) (blN (n + 1) (tJ 4)) = some (.tup [.agg zA, errV none], true, wantL (pre6 ++ xJ 4) (blN (n + 1) (tJ 4))) := ⟨by kernel_rfl, by kernel_rfl⟩
theorem rJ5 (n : Nat) : chkB (blN (n + 1) (tS 5)) (blN (n + 1) (tJ 5)) (pre6 ++ xJ 5) [.ptr .z 0, .agg jR] (.tup [.agg zA, errV none]) = true ∧ runL (evFn Tryz.prog XL 100000 28 [.ptr .z 0, .agg jR] (hp0.ext (blN (n + 1) (tS 5)))) (pre6 ++ xJ 5) (blN (n + 1) (tJ 5)) = some (.tup [.agg zA, errV none], true, wantL (pre6 ++ xJ 5) (blN (n + 1) (tJ 5))) := ⟨by kernel_rfl, by kernel_rfl⟩
theorem rJ6 (n : Nat) : chkB (blN (n + 1) (tS 6)) (blN (n + 1) (tJ 6)) (pre6 ++ xJ 6) [.ptr .z 0, .agg jR] (.tup [.agg zA, errV none]) = true ∧ runL (evFn Tryz.prog XL 100000 28 [.ptr .z 0, .agg jR] (hp0.ext (blN (n + 1) (tS 6)))) (pre6 ++ xJ 6) (blN (n + 1) (tJ 6)) = some (.tup [.agg zA, errV none], true, wantL (pre6 ++ xJ 6) (blN (n + 1) (tJ 6))) := ⟨by kernel_rfl, by kernel_rfl⟩
theorem rJ7 (n : Nat) : chkB (blN (n + 1) (tS 7)) (blN (n + 1) (tJ 7)) (pre6 ++ xJ 7) [.ptr .z 0, .agg jR] (.tup [.agg zA, errV none]) = true ∧ runL (evFn Tryz.prog XL 100000 28 [.ptr .z 0, .agg jR] (hp0.ext (blN (n + 1) (tS 7)))) (pre6 ++ xJ 7) (blN (n + 1) (tJ 7)) = some (.tup [.agg zA, errV none], true, wantL (pre6 ++ xJ 7) (blN (n + 1) (tJ 7))) := ⟨by kernel_rfl, by kernel_rfl⟩
theorem rJ8 (n : Nat) : chkB (blN (n + 1) (tS 8)) (blN (n + 1) (tJ 8)) (pre6 ++ xJ 8) [.ptr .z 0, .agg jR] (.tup [.agg zA, errV none]) = true ∧ runL (evFn Tryz.prog XL 100000 28 [.ptr .z 0, .agg jR] (hp0.ext (blN (n + 1) (tS 8)))) (pre6 ++ xJ 8) (blN (n + 1) (tJ 8)) = some (.tup [.agg zA, errV none], true, wantL (pre6 ++ xJ 8) (blN (n + 1) (tJ 8))) := ⟨by kernel_rfl, by kernel_rfl⟩
theorem rJ9 (n : Nat) : chkB (blN (n + 1) (tS 9)) (blN (n + 1) (tJ 9)) (pre6 ++ xJ 9) [.ptr .z 0, .agg jR] (.tup [.agg zA, errV none]) = true ∧ runL (evFn Tryz.prog XL 100000 28 [.ptr .z 0, .agg jR] (hp0.ext (blN (n + 1) (tS 9)))) (pre6 ++ xJ 9) (blN (n + 1) (tJ 9)) = some (.tup [.agg zA, errV none], true, wantL (pre6 ++ xJ 9) (blN (n + 1) (tJ 9))) := ⟨by kernel_rfl, by kernel_rfl⟩
theorem rJ (n : Nat) : ∀ c, c < 10 → RunR (tS c) (tJ c) jR none (pre6 ++ xJ c) (n + 1)
  | 0, _ => ⟨pre6_ok _, rJ0 n⟩
  | 1, _ => ⟨pre6_ok _, rJ1 n⟩
  | 2, _ => ⟨pre6_ok _, rJ2 n⟩
  | 3, _ => ⟨pre6_ok _, rJ3 n⟩
  | 4, _ => ⟨pre6_ok _, rJ4 n⟩
  | 5, _ => ⟨pre6_ok _, rJ5 n⟩
  | 6, _ => ⟨pre6_ok _, rJ6 n⟩
  | 7, _ => ⟨pre6_ok _, rJ7 n⟩
  | 8, _ => ⟨pre6_ok _, rJ8 n⟩
  | 9, _ => ⟨pre6_ok _, rJ9 n⟩
  | n + 10, h => absurd h (by omega)
end Go.Proofs
/- NodeCuts: a join again: reckoned. -/

set_option linter.all false
set_option maxRecDepth 100000
namespace Go.Proofs
open Go Go.Ev
theorem rK0 (n : Nat) : chkB (blN (n + 1) (tJ 0)) (blN (n + 1) (tJ 0)) (pre6 ++ yJ 0) [.ptr .z 0, .agg jR] (.tup [.agg zA, errV (some 14)]) = true ∧ runL (evFn Tryz.prog XL 100000 28 [.ptr .z 0, .agg jR] (hp0.ext (blN (n + 1) (tJ 0)))) (pre6 ++ yJ 0) (blN (n + 1) (tJ 0)) = some (.tup [.agg zA, errV (some 14)], true, wantL (pre6 ++ yJ 0) (blN (n + 1) (tJ 0))) := ⟨by kernel_rfl, by kernel_rfl⟩
theorem rK1 (n : Nat) : chkB (blN (n + 1) (tJ 1)) (blN (n + 1) (tJ 1)) (pre6 ++ yJ 1) [.ptr .z 0, .agg jR] (.tup [.agg zA, errV (some 14)]) = true ∧ runL (evFn Tryz.prog XL 100000 28 [.ptr .z 0, .agg jR] (hp0.ext (blN (n + 1) (tJ 1)))) (pre6 ++ yJ 1) (blN (n + 1) (tJ 1)) = some (.tup [.agg zA, errV (some 14)], true, wantL (pre6 ++ yJ 1) (blN (n + 1) (tJ 1))) := ⟨by kernel_rfl, by kernel_rfl⟩
theorem rK2 (n : Nat) : chkB (blN (n + 1) (tJ 2)) (blN (n + 1) (tJ 2)) (pre6 ++ yJ 2) [.ptr .z 0, .agg jR] (.tup [.agg zA, errV (some 14)]) = true ∧ runL (evFn Tryz.prog XL 100000 28 [.ptr .z 0, .agg jR] (hp0.ext (blN (n + 1) (tJ 2)))) (pre6 ++ yJ 2) (blN (n + 1) (tJ 2)) = some (.tup [.agg zA, errV (some 14)], true, wantL (pre6 ++ yJ 2) (blN (n + 1) (tJ 2))) := ⟨by kernel_rfl, by kernel_rfl⟩
theorem rK3 (n : Nat) : chkB (blN (n + 1) (tJ 3)) (blN (n + 1) (tJ 3)) (pre6 ++ yJ 3) [.ptr .z 0, .agg jR] (.tup [.agg zA, errV (some 14)]) = true ∧ runL (evFn Tryz.prog XL 100000 28 [.ptr .z 0, .agg jR] (hp0.ext (blN (n + 1) (tJ 3)))) (pre6 ++ yJ 3) (blN (n + 1) (tJ 3)) = some (.tup [.agg zA, errV (some 14)], true, wantL (pre6 ++ yJ 3) (blN (n + 1) (tJ 3))) := ⟨by kernel_rfl, by kernel_rfl⟩
theorem rK4 (n : Nat) : chkB (blN (n + 1) (tJ 4)) (blN (n + 1) (tJ 4)) (pre6 ++ yJ 4) [.ptr .z 0, .agg jR] (.tup [.agg zA, errV (some 14)]) = true ∧ runL (evFn Tryz.prog XL 100000 28 [.ptr .z 0, .agg jR] (hp0.ext (blN (n + 1) (tJ 4)))) (pre6 ++ yJ 4) (blN (n + 1) (tJ 4)) = some (.tup [.agg zA, errV (some 14)], true, wantL (pre6 ++ yJ 4) (blN (n + 1) (tJ 4))) := ⟨by kernel_rfl, by kernel_rfl⟩
theorem rK5 (n : Nat) : chkB (blN (n + 1) (tJ 5)) (blN (n + 1) (tJ 5)) (pre6 ++ yJ 5) [.ptr .z 0, .agg jR] (.tup [.agg zA, errV (some 14)]) = true ∧ runL (evFn Tryz.prog XL 100000 28 [.ptr .z 0, .agg jR] (hp0.ext (blN (n + 1) (tJ 5)))) (pre6 ++ yJ 5) (blN (n + 1) (tJ 5)) = some (.tup [.agg zA, errV (some 14)], true, wantL (pre6 ++ yJ 5) (blN (n + 1) (tJ 5))) := ⟨by kernel_rfl, by kernel_rfl⟩
theorem rK6 (n : Nat) : chkB (blN (n + 1) (tJ 6)) (blN (n + 1) (tJ 6)) (pre6 ++ yJ 6) [.ptr .z 0, .agg jR] (.tup [.agg zA, errV (some 14)]) = true ∧ runL (evFn Tryz.prog XL 100000 28 [.ptr .z 0, .agg jR] (hp0.ext (blN (n + 1) (tJ 6)))) (pre6 ++ yJ 6) (blN (n + 1) (tJ 6)) = some (.tup [.agg zA, errV (some 14)], true, wantL (pre6 ++ yJ 6) (blN (n + 1) (tJ 6))) := ⟨by kernel_rfl, by kernel_rfl⟩
theorem rK7 (n : Nat) : chkB (blN (n + 1) (tJ 7)) (blN (n + 1) (tJ 7)) (pre6 ++ yJ 7) [.ptr .z 0, .agg jR] (.tup [.agg zA, errV (some 14)]) = true ∧ runL (evFn Tryz.prog XL 100000 28 [.ptr .z 0, .agg jR] (hp0.ext (blN (n + 1) (tJ 7)))) (pre6 ++ yJ 7) (blN (n + 1) (tJ 7)) = some (.tup [.agg zA, errV (some 14)], true, wantL (pre6 ++ yJ 7) (blN (n + 1) (tJ 7))) := ⟨by kernel_rfl, by kernel_rfl⟩
theorem rK8 (n : Nat) : chkB (blN (n + 1) (tJ 8)) (blN (n + 1) (tJ 8)) (pre6 ++ yJ 8) [.ptr .z 0, .agg jR] (.tup [.agg zA, errV (some 14)]) = true ∧ runL (evFn Tryz.prog XL 100000 28 [.ptr .z 0, .agg jR] (hp0.ext (blN (n + 1) (tJ 8)))) (pre6 ++ yJ 8) (blN (n + 1) (tJ 8)) = some (.tup [.agg zA, errV (some 14)], true, wantL (pre6 ++ yJ 8) (blN (n + 1) (tJ 8))) := ⟨by kernel_rfl, by kernel_rfl⟩
theorem rK9 (n : Nat) : chkB (blN (n + 1) (tJ 9)) (blN (n + 1) (tJ 9)) (pre6 ++ yJ 9) [.ptr .z 0, .agg jR] (.tup [.agg zA, errV (some 14)]) = true ∧ runL (evFn Tryz.prog XL 100000 28 [.ptr .z 0, .agg jR] (hp0.ext (blN (n + 1) (tJ 9)))) (pre6 ++ yJ 9) (blN (n + 1) (tJ 9)) = some (.tup [.agg zA, errV (some 14)], true, wantL (pre6 ++ yJ 9) (blN (n + 1) (tJ 9))) := ⟨by kernel_rfl, by kernel_rfl⟩
theorem rK (n : Nat) : ∀ c, c < 10 → RunR (tJ c) (tJ c) jR (some 14) (pre6 ++ yJ c) (n + 1)
  | 0, _ => ⟨pre6_ok _, rK0 n⟩
  | 1, _ => ⟨pre6_ok _, rK1 n⟩
  | 2, _ => ⟨pre6_ok _, rK2 n⟩
  | 3, _ => ⟨pre6_ok _, rK3 n⟩
  | 4, _ => ⟨pre6_ok _, rK4 n⟩
  | 5, _ => ⟨pre6_ok _, rK5 n⟩
  | 6, _ => ⟨pre6_ok _, rK6 n⟩
  | 7, _ => ⟨pre6_ok _, rK7 n⟩
  | 8, _ => ⟨pre6_ok _, rK8 n⟩
  | 9, _ => ⟨pre6_ok _, rK9 n⟩
  | n + 10, h => absurd h (by omega)
end Go.Proofs
/- NodeCuts: a split behind a join: reckoned. -/

set_option linter.all false
set_option maxRecDepth 100000
namespace Go.Proofs
open Go Go.Ev
theorem rZ0 (n : Nat) : chkB (blN (n + 1) (tJ 0)) (blN (n + 1) (tJ 0)) (pre6 ++ yJ 0) [.ptr .z 0, .agg sR] (.tup [.agg zA, errV (some 14)]) = true ∧ runL (evFn Tryz.prog XL 100000 28 [.ptr .z 0, .agg sR] (hp0.ext (blN (n + 1) (tJ 0)))) (pre6 ++ yJ 0) (blN (n + 1) (tJ 0)) = some (.tup [.agg zA, errV (some 14)], true, wantL (pre6 ++ yJ 0) (blN (n + 1) (tJ 0))) := ⟨by kernel_rfl, by kernel_rfl⟩
theorem rZ1 (n : Nat) : chkB (blN (n + 1) (tJ 1)) (blN (n + 1) (tJ 1)) (pre6 ++ yJ 1) [.ptr .z 0, .agg sR] (.tup [.agg zA, errV (some 14)]) = true ∧ runL (evFn Tryz.prog XL 100000 28 [.ptr .z 0, .agg sR] (hp0.ext (blN (n + 1) (tJ 1)))) (pre6 ++ yJ 1) (blN (n + 1) (tJ 1)) = some (.tup [.agg zA, errV (some 14)], true, wantL (pre6 ++ yJ 1) (blN (n + 1) (tJ 1))) := ⟨by kernel_rfl, by kernel_rfl⟩
theorem rZ2 (n : Nat) : chkB (blN (n + 1) (tJ 2)) (blN (n + 1) (tJ 2)) (pre6 ++ yJ 2) [.ptr .z 0, .agg sR] (.tup [.agg zA, errV (some 14)]) = true ∧ runL (evFn Tryz.prog XL 100000 28 [.ptr .z 0, .agg sR] (hp0.ext (blN (n + 1) (tJ 2)))) (pre6 ++ yJ 2) (blN (n + 1) (tJ 2)) = some (.tup [.agg zA, errV (some 14)], true, wantL (pre6 ++ yJ 2) (blN (n + 1) (tJ 2))) := ⟨by kernel_rfl, by kernel_rfl⟩
theorem rZ3 (n : Nat) : chkB (blN (n + 1) (tJ 3)) (blN (n + 1) (tJ 3)) (pre6 ++ yJ 3) [.ptr .z 0, .agg sR] (.tup [.agg zA, errV (some 14)]) = true ∧ runL (evFn Tryz.prog XL 100000 28 [.ptr .z 0, .agg sR] (hp0.ext (blN (n + 1) (tJ 3)))) (pre6 ++ yJ 3) (blN (n + 1) (tJ 3)) = some (.tup [.agg zA, errV (some 14)], true, wantL (pre6 ++ yJ 3) (blN (n + 1) (tJ 3))) := ⟨by kernel_rfl, by kernel_rfl⟩
theorem rZ4 (n : Nat) : chkB (blN (n + 1) (tJ 4)) (blN (n + 1) (tJ 4)) (pre6 ++ yJ 4) [.ptr .z 0, .agg sR] (.tup [.agg zA, errV (some 14)]) = true ∧ runL (evFn Tryz.prog XL 100000 28 [.ptr .z 0, .agg sR] (hp0.ext (blN (n + 1) (tJ 4)))) (pre6 ++ yJ 4) (blN (n + 1) (tJ 4)) = some (.tup [.agg zA, errV (some 14)], true, wantL (pre6 ++ yJ 4) (blN (n + 1) (tJ 4))) := ⟨by kernel_rfl, by kernel_rfl⟩
theorem rZ5 (n : Nat) : chkB (blN (n + 1) (tJ 5)) (blN (n + 1) (tJ 5)) (pre6 ++ yJ 5) [.ptr .z 0, .agg sR] (.tup [.agg zA, errV (some 14)]) = true ∧ runL (evFn Tryz.prog XL 100000 28 [.ptr .z 0, .agg sR] (hp0.ext (blN (n + 1) (tJ 5)))) (pre6 ++ yJ 5) (blN (n + 1) (tJ 5)) = some (.tup [.agg zA, errV (some 14)], true, wantL (pre6 ++ yJ 5) (blN (n + 1) (tJ 5))) := ⟨by kernel_rfl, by kernel_rfl⟩
theorem rZ6 (n : Nat) : chkB (blN (n + 1) (tJ 6)) (blN (n + 1) (tJ 6)) (pre6 ++ yJ 6) [.ptr .z 0, .agg sR] (.tup [.agg zA, errV (some 14)]) = true ∧ runL (evFn Tryz.prog XL 100000 28 [.ptr .z 0, .agg sR] (hp0.ext (blN (n + 1) (tJ 6)))) (pre6 ++ yJ 6) (blN (n + 1) (tJ 6)) = some (.tup [.agg zA, errV (some 14)], true, wantL (pre6 ++ yJ 6) (blN (n + 1) (tJ 6))) := ⟨by kernel_rfl, by kernel_rfl⟩
theorem rZ7 (n : Nat) : chkB (blN (n + 1) (tJ 7)) (blN (n + 1) (tJ 7)) (pre6 ++ yJ 7) [.ptr .z 0, .agg sR] (.tup [.agg zA, errV (some 14)]) = true ∧ runL (evFn Tryz.prog XL 100000 28 [.ptr .z 0, .agg sR] (hp0.ext (blN (n + 1) (tJ 7)))) (pre6 ++ yJ 7) (blN (n + 1) (tJ 7)) = some (.tup [.agg zA, errV (some 14)], true, wantL (pre6 ++ yJ 7) (blN (n + 1) (tJ 7))) := ⟨by kernel_rfl, by kernel_rfl⟩
theorem rZ8 (n : Nat) : chkB (blN (n + 1) (tJ 8)) (blN (n + 1) (tJ 8)) (pre6 ++ yJ 8) [.ptr .z 0, .agg sR] (.tup [.agg zA, errV (some 14)]) = true ∧ runL (evFn Tryz.prog XL 100000 28 [.ptr .z 0, .agg sR] (hp0.ext (blN (n + 1) (tJ 8)))) (pre6 ++ yJ 8) (blN (n + 1) (tJ 8)) = some (.tup [.agg zA, errV (some 14)], true, wantL (pre6 ++ yJ 8) (blN (n + 1) (tJ 8))) := ⟨by kernel_rfl, by kernel_rfl⟩
theorem rZ9 (n : Nat) : chkB (blN (n + 1) (tJ 9)) (blN (n + 1) (tJ 9)) (pre6 ++ yJ 9) [.ptr .z 0, .agg sR] (.tup [.agg zA, errV (some 14)]) = true ∧ runL (evFn Tryz.prog XL 100000 28 [.ptr .z 0, .agg sR] (hp0.ext (blN (n + 1) (tJ 9)))) (pre6 ++ yJ 9) (blN (n + 1) (tJ 9)) = some (.tup [.agg zA, errV (some 14)], true, wantL (pre6 ++ yJ 9) (blN (n + 1) (tJ 9))) := ⟨by kernel_rfl, by kernel_rfl⟩
theorem rZ (n : Nat) : ∀ c, c < 10 → RunR (tJ c) (tJ c) sR (some 14) (pre6 ++ yJ c) (n + 1)
  | 0, _ => ⟨pre6_ok _, rZ0 n⟩
  | 1, _ => ⟨pre6_ok _, rZ1 n⟩
  | 2, _ => ⟨pre6_ok _, rZ2 n⟩
  | 3, _ => ⟨pre6_ok _, rZ3 n⟩
  | 4, _ => ⟨pre6_ok _, rZ4 n⟩
  | 5, _ => ⟨pre6_ok _, rZ5 n⟩
  | 6, _ => ⟨pre6_ok _, rZ6 n⟩
  | 7, _ => ⟨pre6_ok _, rZ7 n⟩
  | 8, _ => ⟨pre6_ok _, rZ8 n⟩
  | 9, _ => ⟨pre6_ok _, rZ9 n⟩
  | n + 10, h => absurd h (by omega)
end Go.Proofs
/- NodeCuts: what is looked at: reckoned. -/

set_option linter.all false
set_option maxRecDepth 100000
namespace Go.Proofs
open Go Go.Ev
abbrev LookR (f : FuncId) (tl : List Blk) (a : List AV) (ds : List Blk) (es : List K) (v1 : AV) : Prop :=
  chkB (hT tl) (hT tl ++ ds) ((List.range (hT tl).length).map hp0.key ++ es) (.ptr K.z.o.i 0 :: a) v1 = true ∧
  runL (evFn Tryz.prog XL 100000 f (.ptr K.z.o.i 0 :: a) (hp0.ext (hT tl))) ((List.range (hT tl).length).map hp0.key ++ es) (hT tl ++ ds) = some (v1.ren (rk ((List.range (hT tl).length).map hp0.key ++ es) .z), true, wantL ((List.range (hT tl).length).map hp0.key ++ es) (hT tl ++ ds))
/-- nothing loose -/
def tY : List Blk → List Blk
  | .row w e [[x, _]] :: r => .row w e [[x, .int .i64 0]] :: r
  | l => l
theorem lS0 : LookR 21 (tS 0) [] [.dead] [K.z.o.o.i.o] (.slice K.z.o.o.i 0 2 8 false 2) := ⟨by kernel_rfl, by kernel_rfl⟩
theorem lJ0 : LookR 21 (tY (tJ 0)) [] [.dead] [K.z.i.o.i] (.slice K.z.o.o.i 0 1 8 false 1) := ⟨by kernel_rfl, by kernel_rfl⟩
theorem lG0 : LookR 15 (tY (tJ 0)) [.int .i64 4] [] [] (.tup [.agg [.int .i64 4, .int .i64 1, .str [], .str [], .bool false, .nils, .nils, .nils], .bool true]) := ⟨by kernel_rfl, by kernel_rfl⟩
theorem lY0 (n : Nat) : chkB (blN (n + 1) (tJ 0)) (blN 0 (tY (tJ 0))) (pre6 ++ yJ 0) [.ptr .z 0] (.slice K.z.o 0 (n + 1) 24 false (n + 1)) = true ∧ runL (evFn Tryz.prog XL 100000 13 [.ptr .z 0] (hp0.ext (blN (n + 1) (tJ 0)))) (pre6 ++ yJ 0) (blN 0 (tY (tJ 0))) = some ((AV.slice K.z.o 0 (n + 1) 24 false (n + 1)).ren (rk (pre6 ++ yJ 0) .z), true, wantL (pre6 ++ yJ 0) (blN 0 (tY (tJ 0)))) := ⟨by kernel_rfl, by kernel_rfl⟩
theorem lS1 : LookR 21 (tS 1) [] [.dead] [K.z.i.i.i.o] (.slice K.z.i.o.i 0 2 8 false 2) := ⟨by kernel_rfl, by kernel_rfl⟩
theorem lJ1 : LookR 21 (tY (tJ 1)) [] [.dead] [K.z.o.i.i.o] (.slice K.z.i.o.o 0 1 8 false 1) := ⟨by kernel_rfl, by kernel_rfl⟩
theorem lG1 : LookR 15 (tY (tJ 1)) [.int .i64 4] [.dead, .dead, .dead] [K.z.o.o.i.i, K.z.o.i.o.i, K.z.o.i.i.i] (.tup [.agg [.int .i64 4, .int .i64 1, .str [], .str [], .bool false, .slice K.z.i.o.o 0 1 5 false 1, .slice K.z.i.o.i 0 1 4 false 1, .slice K.z.i.i.o 0 1 6 false 1], .bool true]) := ⟨by kernel_rfl, by kernel_rfl⟩
theorem lY1 (n : Nat) : chkB (blN (n + 1) (tJ 1)) (blN 0 (tY (tJ 1))) (pre6 ++ yJ 1) [.ptr .z 0] (.slice K.z.o 0 (n + 1) 24 false (n + 1)) = true ∧ runL (evFn Tryz.prog XL 100000 13 [.ptr .z 0] (hp0.ext (blN (n + 1) (tJ 1)))) (pre6 ++ yJ 1) (blN 0 (tY (tJ 1))) = some ((AV.slice K.z.o 0 (n + 1) 24 false (n + 1)).ren (rk (pre6 ++ yJ 1) .z), true, wantL (pre6 ++ yJ 1) (blN 0 (tY (tJ 1)))) := ⟨by kernel_rfl, by kernel_rfl⟩
theorem lS2 : LookR 21 (tS 2) [] [.dead] [K.z.i.i.i.o] (.slice K.z.i.o.i 0 2 8 false 2) := ⟨by kernel_rfl, by kernel_rfl⟩
theorem lJ2 : LookR 21 (tY (tJ 2)) [] [.dead] [K.z.o.i.i.o] (.slice K.z.i.o.o 0 1 8 false 1) := ⟨by kernel_rfl, by kernel_rfl⟩
theorem lG2 : LookR 15 (tY (tJ 2)) [.int .i64 4] [.dead, .dead, .dead] [K.z.o.o.i.i, K.z.o.i.o.i, K.z.o.i.i.i] (.tup [.agg [.int .i64 4, .int .i64 1, .str [], .str [], .bool false, .slice K.z.i.o.o 0 2 5 false 2, .slice K.z.i.o.i 0 2 4 false 2, .slice K.z.i.i.o 0 1 6 false 1], .bool true]) := ⟨by kernel_rfl, by kernel_rfl⟩
theorem lY2 (n : Nat) : chkB (blN (n + 1) (tJ 2)) (blN 0 (tY (tJ 2))) (pre6 ++ yJ 2) [.ptr .z 0] (.slice K.z.o 0 (n + 1) 24 false (n + 1)) = true ∧ runL (evFn Tryz.prog XL 100000 13 [.ptr .z 0] (hp0.ext (blN (n + 1) (tJ 2)))) (pre6 ++ yJ 2) (blN 0 (tY (tJ 2))) = some ((AV.slice K.z.o 0 (n + 1) 24 false (n + 1)).ren (rk (pre6 ++ yJ 2) .z), true, wantL (pre6 ++ yJ 2) (blN 0 (tY (tJ 2)))) := ⟨by kernel_rfl, by kernel_rfl⟩
theorem lS3 : LookR 21 (tS 3) [] [.dead] [K.z.i.i.i.o] (.slice K.z.i.o.i 0 2 8 false 2) := ⟨by kernel_rfl, by kernel_rfl⟩
theorem lJ3 : LookR 21 (tY (tJ 3)) [] [.dead] [K.z.o.i.i.o] (.slice K.z.i.o.o 0 1 8 false 1) := ⟨by kernel_rfl, by kernel_rfl⟩
theorem lG3 : LookR 15 (tY (tJ 3)) [.int .i64 4] [.dead, .dead, .dead] [K.z.o.o.i.i, K.z.o.i.o.i, K.z.o.i.i.i] (.tup [.agg [.int .i64 4, .int .i64 1, .str [], .str [], .bool false, .slice K.z.i.o.o 0 3 5 false 3, .slice K.z.i.o.i 0 3 4 false 3, .slice K.z.i.i.o 0 1 6 false 1], .bool true]) := ⟨by kernel_rfl, by kernel_rfl⟩
theorem lY3 (n : Nat) : chkB (blN (n + 1) (tJ 3)) (blN 0 (tY (tJ 3))) (pre6 ++ yJ 3) [.ptr .z 0] (.slice K.z.o 0 (n + 1) 24 false (n + 1)) = true ∧ runL (evFn Tryz.prog XL 100000 13 [.ptr .z 0] (hp0.ext (blN (n + 1) (tJ 3)))) (pre6 ++ yJ 3) (blN 0 (tY (tJ 3))) = some ((AV.slice K.z.o 0 (n + 1) 24 false (n + 1)).ren (rk (pre6 ++ yJ 3) .z), true, wantL (pre6 ++ yJ 3) (blN 0 (tY (tJ 3)))) := ⟨by kernel_rfl, by kernel_rfl⟩
theorem lS4 : LookR 21 (tS 4) [] [.dead] [K.z.i.i.i.o] (.slice K.z.i.o.i 0 2 8 false 2) := ⟨by kernel_rfl, by kernel_rfl⟩
theorem lJ4 : LookR 21 (tY (tJ 4)) [] [.dead] [K.z.o.i.i.o] (.slice K.z.i.o.o 0 1 8 false 1) := ⟨by kernel_rfl, by kernel_rfl⟩
theorem lG4 : LookR 15 (tY (tJ 4)) [.int .i64 4] [.dead, .dead, .dead] [K.z.o.o.i.i, K.z.o.i.o.i, K.z.o.i.i.i] (.tup [.agg [.int .i64 4, .int .i64 1, .str [], .str [], .bool false, .slice K.z.i.o.o 0 4 5 false 4, .slice K.z.i.o.i 0 4 4 false 4, .slice K.z.i.i.o 0 1 6 false 1], .bool true]) := ⟨by kernel_rfl, by kernel_rfl⟩
theorem lY4 (n : Nat) : chkB (blN (n + 1) (tJ 4)) (blN 0 (tY (tJ 4))) (pre6 ++ yJ 4) [.ptr .z 0] (.slice K.z.o 0 (n + 1) 24 false (n + 1)) = true ∧ runL (evFn Tryz.prog XL 100000 13 [.ptr .z 0] (hp0.ext (blN (n + 1) (tJ 4)))) (pre6 ++ yJ 4) (blN 0 (tY (tJ 4))) = some ((AV.slice K.z.o 0 (n + 1) 24 false (n + 1)).ren (rk (pre6 ++ yJ 4) .z), true, wantL (pre6 ++ yJ 4) (blN 0 (tY (tJ 4)))) := ⟨by kernel_rfl, by kernel_rfl⟩
theorem lS5 : LookR 21 (tS 5) [] [.dead] [K.z.o.o.i.o.o] (.slice K.z.i.i.i 0 2 8 false 2) := ⟨by kernel_rfl, by kernel_rfl⟩
theorem lJ5 : LookR 21 (tY (tJ 5)) [] [.dead] [K.z.o.i.i.o] (.slice K.z.i.o.o 0 1 8 false 1) := ⟨by kernel_rfl, by kernel_rfl⟩
theorem lG5 : LookR 15 (tY (tJ 5)) [.int .i64 4] [.dead, .dead, .dead] [K.z.o.o.i.i, K.z.o.i.o.i, K.z.o.i.i.i] (.tup [.agg [.int .i64 4, .int .i64 1, .str [], .str [], .bool false, .slice K.z.i.o.o 0 5 5 false 5, .slice K.z.i.o.i 0 5 4 false 5, .slice K.z.i.i.o 0 1 6 false 1], .bool true]) := ⟨by kernel_rfl, by kernel_rfl⟩
theorem lY5 (n : Nat) : chkB (blN (n + 1) (tJ 5)) (blN 0 (tY (tJ 5))) (pre6 ++ yJ 5) [.ptr .z 0] (.slice K.z.o 0 (n + 1) 24 false (n + 1)) = true ∧ runL (evFn Tryz.prog XL 100000 13 [.ptr .z 0] (hp0.ext (blN (n + 1) (tJ 5)))) (pre6 ++ yJ 5) (blN 0 (tY (tJ 5))) = some ((AV.slice K.z.o 0 (n + 1) 24 false (n + 1)).ren (rk (pre6 ++ yJ 5) .z), true, wantL (pre6 ++ yJ 5) (blN 0 (tY (tJ 5)))) := ⟨by kernel_rfl, by kernel_rfl⟩
theorem lS6 : LookR 21 (tS 6) [] [.dead] [K.z.o.o.i.o.o] (.slice K.z.i.i.i 0 2 8 false 2) := ⟨by kernel_rfl, by kernel_rfl⟩
theorem lJ6 : LookR 21 (tY (tJ 6)) [] [.dead] [K.z.o.i.i.o] (.slice K.z.i.o.o 0 1 8 false 1) := ⟨by kernel_rfl, by kernel_rfl⟩
theorem lG6 : LookR 15 (tY (tJ 6)) [.int .i64 4] [.dead, .dead, .dead] [K.z.o.o.i.i, K.z.o.i.o.i, K.z.o.i.i.i] (.tup [.agg [.int .i64 4, .int .i64 1, .str [], .str [], .bool false, .slice K.z.i.o.o 0 6 5 false 6, .slice K.z.i.o.i 0 6 4 false 6, .slice K.z.i.i.o 0 1 6 false 1], .bool true]) := ⟨by kernel_rfl, by kernel_rfl⟩
theorem lY6 (n : Nat) : chkB (blN (n + 1) (tJ 6)) (blN 0 (tY (tJ 6))) (pre6 ++ yJ 6) [.ptr .z 0] (.slice K.z.o 0 (n + 1) 24 false (n + 1)) = true ∧ runL (evFn Tryz.prog XL 100000 13 [.ptr .z 0] (hp0.ext (blN (n + 1) (tJ 6)))) (pre6 ++ yJ 6) (blN 0 (tY (tJ 6))) = some ((AV.slice K.z.o 0 (n + 1) 24 false (n + 1)).ren (rk (pre6 ++ yJ 6) .z), true, wantL (pre6 ++ yJ 6) (blN 0 (tY (tJ 6)))) := ⟨by kernel_rfl, by kernel_rfl⟩
theorem lS7 : LookR 21 (tS 7) [] [.dead] [K.z.o.o.i.o.o] (.slice K.z.i.i.i 0 2 8 false 2) := ⟨by kernel_rfl, by kernel_rfl⟩
theorem lJ7 : LookR 21 (tY (tJ 7)) [] [.dead] [K.z.o.i.i.o] (.slice K.z.i.o.o 0 1 8 false 1) := ⟨by kernel_rfl, by kernel_rfl⟩
theorem lG7 : LookR 15 (tY (tJ 7)) [.int .i64 4] [.dead, .dead, .dead] [K.z.o.o.i.i, K.z.o.i.o.i, K.z.o.i.i.i] (.tup [.agg [.int .i64 4, .int .i64 1, .str [], .str [], .bool false, .slice K.z.i.o.o 0 7 5 false 7, .slice K.z.i.o.i 0 7 4 false 7, .slice K.z.i.i.o 0 1 6 false 1], .bool true]) := ⟨by kernel_rfl, by kernel_rfl⟩
theorem lY7 (n : Nat) : chkB (blN (n + 1) (tJ 7)) (blN 0 (tY (tJ 7))) (pre6 ++ yJ 7) [.ptr .z 0] (.slice K.z.o 0 (n + 1) 24 false (n + 1)) = true ∧ runL (evFn Tryz.prog XL 100000 13 [.ptr .z 0] (hp0.ext (blN (n + 1) (tJ 7)))) (pre6 ++ yJ 7) (blN 0 (tY (tJ 7))) = some ((AV.slice K.z.o 0 (n + 1) 24 false (n + 1)).ren (rk (pre6 ++ yJ 7) .z), true, wantL (pre6 ++ yJ 7) (blN 0 (tY (tJ 7)))) := ⟨by kernel_rfl, by kernel_rfl⟩
theorem lS8 : LookR 21 (tS 8) [] [.dead] [K.z.o.o.i.o.o] (.slice K.z.i.i.i 0 2 8 false 2) := ⟨by kernel_rfl, by kernel_rfl⟩
theorem lJ8 : LookR 21 (tY (tJ 8)) [] [.dead] [K.z.o.i.i.o] (.slice K.z.i.o.o 0 1 8 false 1) := ⟨by kernel_rfl, by kernel_rfl⟩
theorem lG8 : LookR 15 (tY (tJ 8)) [.int .i64 4] [.dead, .dead, .dead] [K.z.o.o.i.i, K.z.o.i.o.i, K.z.o.i.i.i] (.tup [.agg [.int .i64 4, .int .i64 1, .str [], .str [], .bool false, .slice K.z.i.o.o 0 8 5 false 8, .slice K.z.i.o.i 0 8 4 false 8, .slice K.z.i.i.o 0 1 6 false 1], .bool true]) := ⟨by kernel_rfl, by kernel_rfl⟩
theorem lY8 (n : Nat) : chkB (blN (n + 1) (tJ 8)) (blN 0 (tY (tJ 8))) (pre6 ++ yJ 8) [.ptr .z 0] (.slice K.z.o 0 (n + 1) 24 false (n + 1)) = true ∧ runL (evFn Tryz.prog XL 100000 13 [.ptr .z 0] (hp0.ext (blN (n + 1) (tJ 8)))) (pre6 ++ yJ 8) (blN 0 (tY (tJ 8))) = some ((AV.slice K.z.o 0 (n + 1) 24 false (n + 1)).ren (rk (pre6 ++ yJ 8) .z), true, wantL (pre6 ++ yJ 8) (blN 0 (tY (tJ 8)))) := ⟨by kernel_rfl, by kernel_rfl⟩
theorem lS9 : LookR 21 (tS 9) [] [.dead] [K.z.o.o.i.o.o] (.slice K.z.i.i.i 0 2 8 false 2) := ⟨by kernel_rfl, by kernel_rfl⟩
theorem lJ9 : LookR 21 (tY (tJ 9)) [] [.dead] [K.z.o.i.i.o] (.slice K.z.i.o.o 0 1 8 false 1) := ⟨by kernel_rfl, by kernel_rfl⟩
theorem lG9 : LookR 15 (tY (tJ 9)) [.int .i64 4] [.dead, .dead, .dead] [K.z.o.o.i.i, K.z.o.i.o.i, K.z.o.i.i.i] (.tup [.agg [.int .i64 4, .int .i64 1, .str [], .str [], .bool false, .slice K.z.i.o.o 0 9 5 false 9, .slice K.z.i.o.i 0 9 4 false 9, .slice K.z.i.i.o 0 1 6 false 1], .bool true]) := ⟨by kernel_rfl, by kernel_rfl⟩
theorem lY9 (n : Nat) : chkB (blN (n + 1) (tJ 9)) (blN 0 (tY (tJ 9))) (pre6 ++ yJ 9) [.ptr .z 0] (.slice K.z.o 0 (n + 1) 24 false (n + 1)) = true ∧ runL (evFn Tryz.prog XL 100000 13 [.ptr .z 0] (hp0.ext (blN (n + 1) (tJ 9)))) (pre6 ++ yJ 9) (blN 0 (tY (tJ 9))) = some ((AV.slice K.z.o 0 (n + 1) 24 false (n + 1)).ren (rk (pre6 ++ yJ 9) .z), true, wantL (pre6 ++ yJ 9) (blN 0 (tY (tJ 9)))) := ⟨by kernel_rfl, by kernel_rfl⟩
theorem two_S : ∀ c, c < 10 → ∃ es k ex cap, LookR 21 (tS c) [] [.dead] es (.slice k 0 2 8 ex cap)
  | 0, _ => ⟨_, _, _, _, lS0⟩
  | 1, _ => ⟨_, _, _, _, lS1⟩
  | 2, _ => ⟨_, _, _, _, lS2⟩
  | 3, _ => ⟨_, _, _, _, lS3⟩
  | 4, _ => ⟨_, _, _, _, lS4⟩
  | 5, _ => ⟨_, _, _, _, lS5⟩
  | 6, _ => ⟨_, _, _, _, lS6⟩
  | 7, _ => ⟨_, _, _, _, lS7⟩
  | 8, _ => ⟨_, _, _, _, lS8⟩
  | 9, _ => ⟨_, _, _, _, lS9⟩
  | n + 10, h => absurd h (by omega)
theorem one_J : ∀ c, c < 10 → ∃ es k ex cap, LookR 21 (tY (tJ c)) [] [.dead] es (.slice k 0 1 8 ex cap)
  | 0, _ => ⟨_, _, _, _, lJ0⟩
  | 1, _ => ⟨_, _, _, _, lJ1⟩
  | 2, _ => ⟨_, _, _, _, lJ2⟩
  | 3, _ => ⟨_, _, _, _, lJ3⟩
  | 4, _ => ⟨_, _, _, _, lJ4⟩
  | 5, _ => ⟨_, _, _, _, lJ5⟩
  | 6, _ => ⟨_, _, _, _, lJ6⟩
  | 7, _ => ⟨_, _, _, _, lJ7⟩
  | 8, _ => ⟨_, _, _, _, lJ8⟩
  | 9, _ => ⟨_, _, _, _, lJ9⟩
  | n + 10, h => absurd h (by omega)
def lenIs (v : AV) (n : Nat) : Prop := (v = .nils ∧ n = 0) ∨ ∃ k ex cap, v = .slice k 0 n 5 ex cap
theorem get_J : ∀ c, c < 10 → ∃ ds es cv ev dv, (∀ b ∈ ds, b = .dead) ∧ LookR 15 (tY (tJ c)) [.int .i64 4] ds es (.tup [.agg [.int .i64 4, .int .i64 1, .str [], .str [], .bool false, cv, ev, dv], .bool true]) ∧ lenIs cv c
  | 0, _ => ⟨_, _, _, _, _, by simp, lG0, .inl ⟨rfl, rfl⟩⟩
  | 1, _ => ⟨_, _, _, _, _, by simp, lG1, .inr ⟨_, _, _, rfl⟩⟩
  | 2, _ => ⟨_, _, _, _, _, by simp, lG2, .inr ⟨_, _, _, rfl⟩⟩
  | 3, _ => ⟨_, _, _, _, _, by simp, lG3, .inr ⟨_, _, _, rfl⟩⟩
  | 4, _ => ⟨_, _, _, _, _, by simp, lG4, .inr ⟨_, _, _, rfl⟩⟩
  | 5, _ => ⟨_, _, _, _, _, by simp, lG5, .inr ⟨_, _, _, rfl⟩⟩
  | 6, _ => ⟨_, _, _, _, _, by simp, lG6, .inr ⟨_, _, _, rfl⟩⟩
  | 7, _ => ⟨_, _, _, _, _, by simp, lG7, .inr ⟨_, _, _, rfl⟩⟩
  | 8, _ => ⟨_, _, _, _, _, by simp, lG8, .inr ⟨_, _, _, rfl⟩⟩
  | 9, _ => ⟨_, _, _, _, _, by simp, lG9, .inr ⟨_, _, _, rfl⟩⟩
  | n + 10, h => absurd h (by omega)
theorem lay_Y : ∀ c, c < 10 → Lay (tY (tJ c))
  | 0, _ => lay_of (by kernel_rfl)
  | 1, _ => lay_of (by kernel_rfl)
  | 2, _ => lay_of (by kernel_rfl)
  | 3, _ => lay_of (by kernel_rfl)
  | 4, _ => lay_of (by kernel_rfl)
  | 5, _ => lay_of (by kernel_rfl)
  | 6, _ => lay_of (by kernel_rfl)
  | 7, _ => lay_of (by kernel_rfl)
  | 8, _ => lay_of (by kernel_rfl)
  | 9, _ => lay_of (by kernel_rfl)
  | n + 10, h => absurd h (by omega)
theorem rY (n : Nat) : ∀ c, c < 10 → chkB (blN (n + 1) (tJ c)) (blN 0 (tY (tJ c))) (pre6 ++ yJ c) [.ptr .z 0] (.slice K.z.o 0 (n + 1) 24 false (n + 1)) = true ∧ runL (evFn Tryz.prog XL 100000 13 [.ptr .z 0] (hp0.ext (blN (n + 1) (tJ c)))) (pre6 ++ yJ c) (blN 0 (tY (tJ c))) = some ((AV.slice K.z.o 0 (n + 1) 24 false (n + 1)).ren (rk (pre6 ++ yJ c) .z), true, wantL (pre6 ++ yJ c) (blN 0 (tY (tJ c))))
  | 0, _ => lY0 n
  | 1, _ => lY1 n
  | 2, _ => lY2 n
  | 3, _ => lY3 n
  | 4, _ => lY4 n
  | 5, _ => lY5 n
  | 6, _ => lY6 n
  | 7, _ => lY7 n
  | 8, _ => lY8 n
  | 9, _ => lY9 n
  | n + 10, h => absurd h (by omega)
end Go.Proofs
/- NodeCuts: puts: reckoned. -/

set_option linter.all false
set_option maxRecDepth 100000
namespace Go.Proofs
open Go Go.Ev
theorem rN : chkB [.row true 8 [[.int .i64 1, .int .i64 1, .str [], .str [], .bool false, .nils, .nils, .nils]]] (blP 0) (xP 0) [.int .i64 0, .slice K.z 0 1 8 true 1] (.ptr K.z 0) = true ∧ runL (evFn Tryz.prog XL 100000 9 [.int .i64 0, .slice K.z 0 1 8 true 1] (hp0.ext [.row true 8 [[.int .i64 1, .int .i64 1, .str [], .str [], .bool false, .nils, .nils, .nils]]])) (xP 0) (blP 0) = some ((AV.ptr K.z 0).ren (rk (xP 0) .z), true, wantL (xP 0) (blP 0)) := ⟨by kernel_rfl, by kernel_rfl⟩
theorem rP0 : chkB (blP 0) (blP 1) (xP 1) [.ptr K.z 0, .agg (askP 0 [97])] (.tup []) = true ∧ runL (evFn Tryz.prog XL 100000 10 [.ptr K.z 0, .agg (askP 0 [97])] (hp0.ext (blP 0))) (xP 1) (blP 1) = some ((AV.tup []).ren (rk (xP 1) .z), true, wantL (xP 1) (blP 1)) := ⟨by kernel_rfl, by kernel_rfl⟩
theorem rP1 : chkB (blP 1) (blP 2) (xP 2) [.ptr K.z 0, .agg (askP 1 [99])] (.tup []) = true ∧ runL (evFn Tryz.prog XL 100000 10 [.ptr K.z 0, .agg (askP 1 [99])] (hp0.ext (blP 1))) (xP 2) (blP 2) = some ((AV.tup []).ren (rk (xP 2) .z), true, wantL (xP 2) (blP 2)) := ⟨by kernel_rfl, by kernel_rfl⟩
theorem rP2 : chkB (blP 2) (blP 3) (xP 3) [.ptr K.z 0, .agg (askP 2 [101])] (.tup []) = true ∧ runL (evFn Tryz.prog XL 100000 10 [.ptr K.z 0, .agg (askP 2 [101])] (hp0.ext (blP 2))) (xP 3) (blP 3) = some ((AV.tup []).ren (rk (xP 3) .z), true, wantL (xP 3) (blP 3)) := ⟨by kernel_rfl, by kernel_rfl⟩
theorem rP3 : chkB (blP 3) (blP 4) (xP 4) [.ptr K.z 0, .agg (askP 3 [103])] (.tup []) = true ∧ runL (evFn Tryz.prog XL 100000 10 [.ptr K.z 0, .agg (askP 3 [103])] (hp0.ext (blP 3))) (xP 4) (blP 4) = some ((AV.tup []).ren (rk (xP 4) .z), true, wantL (xP 4) (blP 4)) := ⟨by kernel_rfl, by kernel_rfl⟩
theorem rP4 : chkB (blP 4) (blP 5) (xP 5) [.ptr K.z 0, .agg (askP 4 [105])] (.tup []) = true ∧ runL (evFn Tryz.prog XL 100000 10 [.ptr K.z 0, .agg (askP 4 [105])] (hp0.ext (blP 4))) (xP 5) (blP 5) = some ((AV.tup []).ren (rk (xP 5) .z), true, wantL (xP 5) (blP 5)) := ⟨by kernel_rfl, by kernel_rfl⟩
theorem rP5 : chkB (blP 5) (blP 6) (xP 6) [.ptr K.z 0, .agg (askP 5 [107])] (.tup []) = true ∧ runL (evFn Tryz.prog XL 100000 10 [.ptr K.z 0, .agg (askP 5 [107])] (hp0.ext (blP 5))) (xP 6) (blP 6) = some ((AV.tup []).ren (rk (xP 6) .z), true, wantL (xP 6) (blP 6)) := ⟨by kernel_rfl, by kernel_rfl⟩
theorem rP6 : chkB (blP 6) (blP 7) (xP 7) [.ptr K.z 0, .agg (askP 6 [109])] (.tup []) = true ∧ runL (evFn Tryz.prog XL 100000 10 [.ptr K.z 0, .agg (askP 6 [109])] (hp0.ext (blP 6))) (xP 7) (blP 7) = some ((AV.tup []).ren (rk (xP 7) .z), true, wantL (xP 7) (blP 7)) := ⟨by kernel_rfl, by kernel_rfl⟩
theorem rP7 : chkB (blP 7) (blP 8) (xP 8) [.ptr K.z 0, .agg (askP 7 [111])] (.tup []) = true ∧ runL (evFn Tryz.prog XL 100000 10 [.ptr K.z 0, .agg (askP 7 [111])] (hp0.ext (blP 7))) (xP 8) (blP 8) = some ((AV.tup []).ren (rk (xP 8) .z), true, wantL (xP 8) (blP 8)) := ⟨by kernel_rfl, by kernel_rfl⟩
theorem rP8 : chkB (blP 8) (blP 9) (xP 9) [.ptr K.z 0, .agg (askP 8 [113])] (.tup []) = true ∧ runL (evFn Tryz.prog XL 100000 10 [.ptr K.z 0, .agg (askP 8 [113])] (hp0.ext (blP 8))) (xP 9) (blP 9) = some ((AV.tup []).ren (rk (xP 9) .z), true, wantL (xP 9) (blP 9)) := ⟨by kernel_rfl, by kernel_rfl⟩
theorem rP : ∀ c, c < 9 → chkB (blP c) (blP (c + 1)) (xP (c + 1)) [.ptr K.z 0, .agg (askP c [97 + 2 * c])] (.tup []) = true ∧ runL (evFn Tryz.prog XL 100000 10 [.ptr K.z 0, .agg (askP c [97 + 2 * c])] (hp0.ext (blP c))) (xP (c + 1)) (blP (c + 1)) = some ((AV.tup []).ren (rk (xP (c + 1)) .z), true, wantL (xP (c + 1)) (blP (c + 1)))
  | 0, _ => rP0
  | 1, _ => rP1
  | 2, _ => rP2
  | 3, _ => rP3
  | 4, _ => rP4
  | 5, _ => rP5
  | 6, _ => rP6
  | 7, _ => rP7
  | 8, _ => rP8
  | n + 9, h => absurd h (by omega)
end Go.Proofs
