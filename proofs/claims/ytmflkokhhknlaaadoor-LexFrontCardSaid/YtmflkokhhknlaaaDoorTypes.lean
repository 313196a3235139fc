/-
  Closed facts of this program's struct types.
-/
import Derived.Test.YtmflkokhhknlaaaDoorEq
import Derived.Test.YtmflkokhhknlaaaDoorProg
namespace Go.Proofs.YtmflkokhhknlaaaDoor
open Go Go.Tw
set_option linter.unusedVariables false
set_option linter.unusedSimpArgs false
set_option linter.unnecessarySimpa false
theorem bld32 : StructTy Tryd.prog 32 [.int .i64 0, .int .i64 0] [(0, 1), (1, 1)] := ⟨⟨_, Tryd.underlying32, fun w => by kernel_rfl⟩, fun w => Tryd.zeroValue32 w⟩
theorem bld45 : StructTy Tryd.prog 45 [.int .i64 0, .string { data := #[] }, .int .i64 0, .int .i64 0] [(0, 1), (1, 1), (2, 2)] := ⟨⟨_, Tryd.underlying45, fun w => by kernel_rfl⟩, fun w => Tryd.zeroValue45 w⟩
theorem bld55 : StructTy Tryd.prog 55 [.string { data := #[] }, .int .i64 0] [(0, 1), (1, 1)] := ⟨⟨_, Tryd.underlying55, fun w => by kernel_rfl⟩, fun w => Tryd.zeroValue55 w⟩
theorem bld72 : StructTy Tryd.prog 72 [.int .u8 0, .int .u8 0] [(0, 1), (1, 1)] := ⟨⟨_, Tryd.underlying72, fun w => by kernel_rfl⟩, fun w => Tryd.zeroValue72 w⟩
end Go.Proofs.YtmflkokhhknlaaaDoor
