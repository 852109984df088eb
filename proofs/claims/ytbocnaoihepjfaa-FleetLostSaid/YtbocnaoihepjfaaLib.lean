/- The library's contracts over this program (the layings as the kit's lay-plain tool writes them). -/
import Derived.Shelf.Slices.Delete
import Derived.Test.YtbocnaoihepjfaaPrim4
import Derived.Test.YtbocnaoihepjfaaProg
set_option linter.unusedVariables false
namespace Go.Proofs.Ytbocnaoihepjfaa.Pv
open Go Go.Pev Go.Shelf
def lays24_ren : Go.Shelf.Ren := ⟨fun | 24 => 46 | n => n, fun | 24 => 37 | 9 => 9 | 3 => 3 | 4 => 4 | 0 => 0 | n => n, fun | n => n⟩
theorem lays24 : Go.Proofs.Lays2.n24 Try.prog lays24_ren := {
  mixed := by kernel_rfl
  f24 := Try.func46.trans (congrArg some (by kernel_rfl))
  t0 := Try.underlying0
  a0 := Try.isAgg0
  z0 := Try.sizeOf0
  v0 := Try.zeroValue0
  t3 := Try.underlying3
  a3 := Try.isAgg3
  z3 := Try.sizeOf3
  v3 := Try.zeroValue3
  t4 := Try.underlying4
  a4 := Try.isAgg4
  z4 := Try.sizeOf4
  v4 := Try.zeroValue4
  t9 := Try.underlying9
  a9 := Try.isAgg9
  z9 := Try.sizeOf9
  v9 := Try.zeroValue9
  t24 := Try.underlying37
  a24 := Try.isAgg37
  z24 := Try.sizeOf37
  v24 := Try.zeroValue37
  i9 := by kernel_rfl }

theorem delSaid : DelSaid Go.Proofs.Try.prog 46 := fun blk off cap i j zs w h1 h2 h3 h4 h5 => Go.Proofs.Any.slices_Delete_string lays24 blk off cap i j zs w h1 h2 h3 h4 h5
end Go.Proofs.Ytbocnaoihepjfaa.Pv
