/- The library's contracts over this program (the layings as the kit's lay-plain tool writes them). -/
import Derived.Shelf.Sort.Plain
import Derived.Test.YthkehbdljckbdaaPrim2
import Derived.Test.YthkehbdljckbdaaProg
set_option linter.unusedVariables false
namespace Go.Proofs.Ythkehbdljckbdaa.Pv
open Go Go.Pev Go.Shelf
def lays189_ren : Go.Shelf.Ren := ⟨fun | 189 => 44 | 125 => 58 | 257 => 57 | 128 => 74 | 129 => 75 | 294 => 65 | 295 => 66 | 296 => 67 | 297 => 68 | 298 => 69 | 299 => 70 | 216 => 71 | 300 => 72 | 301 => 73 | 328 => 79 | 329 => 80 | 330 => 81 | 331 => 82 | 332 => 83 | 215 => 84 | 343 => 87 | n => n, fun | 28 => 36 | 3 => 3 | 46 => 92 | 0 => 0 | 51 => 96 | 53 => 110 | 4 => 4 | 183 => 102 | 182 => 101 | 131 => 40 | 5 => 5 | 9 => 9 | 218 => 120 | 222 => 124 | 228 => 127 | 229 => 128 | n => n, fun | n => n⟩
theorem lays189 : Go.Proofs.Lays.n189 Try.prog lays189_ren := {
  mixed := by kernel_rfl
  f125 := Try.func58.trans (congrArg some (by kernel_rfl))
  f128 := Try.func74.trans (congrArg some (by kernel_rfl))
  f129 := Try.func75.trans (congrArg some (by kernel_rfl))
  f189 := Try.func44.trans (congrArg some (by kernel_rfl))
  f215 := Try.func84.trans (congrArg some (by kernel_rfl))
  f216 := Try.func71.trans (congrArg some (by kernel_rfl))
  f257 := Try.func57.trans (congrArg some (by kernel_rfl))
  f294 := Try.func65.trans (congrArg some (by kernel_rfl))
  f295 := Try.func66.trans (congrArg some (by kernel_rfl))
  f296 := Try.func67.trans (congrArg some (by kernel_rfl))
  f297 := Try.func68.trans (congrArg some (by kernel_rfl))
  f298 := Try.func69.trans (congrArg some (by kernel_rfl))
  f299 := Try.func70.trans (congrArg some (by kernel_rfl))
  f300 := Try.func72.trans (congrArg some (by kernel_rfl))
  f301 := Try.func73.trans (congrArg some (by kernel_rfl))
  f328 := Try.func79.trans (congrArg some (by kernel_rfl))
  f329 := Try.func80.trans (congrArg some (by kernel_rfl))
  f330 := Try.func81.trans (congrArg some (by kernel_rfl))
  f331 := Try.func82.trans (congrArg some (by kernel_rfl))
  f332 := Try.func83.trans (congrArg some (by kernel_rfl))
  f343 := Try.func87.trans (congrArg some (by kernel_rfl))
  t0 := Try.underlying0
  a0 := Try.isAgg0
  z0 := Try.sizeOf0
  v0 := Try.zeroValue0
  t3 := Try.underlying3
  a3 := Try.isAgg3
  z3 := Try.sizeOf3
  v3 := Try.zeroValue3
  t4 := Try.underlying4
  a4 := Try.isAgg4
  z4 := Try.sizeOf4
  v4 := Try.zeroValue4
  t5 := Try.underlying5
  a5 := Try.isAgg5
  z5 := Try.sizeOf5
  v5 := Try.zeroValue5
  t9 := Try.underlying9
  a9 := Try.isAgg9
  z9 := Try.sizeOf9
  v9 := Try.zeroValue9
  t28 := Try.underlying36
  a28 := Try.isAgg36
  z28 := Try.sizeOf36
  v28 := Try.zeroValue36
  t46 := Try.underlying92
  a46 := Try.isAgg92
  z46 := Try.sizeOf92
  v46 := Try.zeroValue92
  t51 := Try.underlying96
  a51 := Try.isAgg96
  z51 := Try.sizeOf96
  v51 := Try.zeroValue96
  t53 := Try.underlying110
  a53 := Try.isAgg110
  z53 := Try.sizeOf110
  v53 := Try.zeroValue110
  t131 := Try.underlying40
  a131 := Try.isAgg40
  z131 := Try.sizeOf40
  v131 := Try.zeroValue40
  t182 := Try.underlying101
  a182 := Try.isAgg101
  z182 := Try.sizeOf101
  v182 := Try.zeroValue101
  t183 := Try.underlying102
  a183 := Try.isAgg102
  z183 := Try.sizeOf102
  v183 := Try.zeroValue102
  t218 := Try.underlying120
  a218 := Try.isAgg120
  z218 := Try.sizeOf120
  v218 := Try.zeroValue120
  t222 := Try.underlying124
  a222 := Try.isAgg124
  z222 := Try.sizeOf124
  v222 := Try.zeroValue124
  t228 := Try.underlying127
  a228 := Try.isAgg127
  z228 := Try.sizeOf127
  v228 := Try.zeroValue127
  t229 := Try.underlying128
  a229 := Try.isAgg128
  z229 := Try.sizeOf128
  v229 := Try.zeroValue128 }

theorem sortSaid : SortSaid Go.Proofs.Try.prog 44 := fun blk off cap zs w h1 h2 h3 => Go.Proofs.Any.slices_Sort_int lays189 blk off cap zs w h1 h2 h3
end Go.Proofs.Ythkehbdljckbdaa.Pv
