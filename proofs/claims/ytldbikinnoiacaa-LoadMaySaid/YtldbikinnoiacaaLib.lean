/- The library's contracts over this program (the layings as the kit's lay-plain tool writes them). -/
import Derived.Shelf.Sort.Plain
import Derived.Test.YtldbikinnoiacaaPrim2
import Derived.Test.YtldbikinnoiacaaProg
set_option linter.unusedVariables false
namespace Go.Proofs.Ytldbikinnoiacaa.Pv
open Go Go.Pev Go.Shelf
def lays189_ren : Go.Shelf.Ren := ⟨fun | 189 => 18 | 125 => 25 | 257 => 24 | 128 => 38 | 129 => 39 | 294 => 29 | 295 => 30 | 296 => 31 | 297 => 32 | 298 => 33 | 299 => 34 | 216 => 35 | 300 => 36 | 301 => 37 | 328 => 40 | 329 => 41 | 330 => 42 | 331 => 43 | 332 => 44 | 215 => 45 | 343 => 46 | n => n, fun | 28 => 22 | 3 => 3 | 46 => 48 | 0 => 0 | 51 => 61 | 53 => 63 | 4 => 4 | 183 => 53 | 182 => 52 | 131 => 58 | 5 => 5 | 9 => 9 | 218 => 64 | 222 => 68 | 228 => 70 | 229 => 71 | n => n, fun | n => n⟩
theorem lays189 : Go.Proofs.Lays.n189 Try.prog lays189_ren := {
  mixed := by kernel_rfl
  f125 := Try.func25.trans (congrArg some (by kernel_rfl))
  f128 := Try.func38.trans (congrArg some (by kernel_rfl))
  f129 := Try.func39.trans (congrArg some (by kernel_rfl))
  f189 := Try.func18.trans (congrArg some (by kernel_rfl))
  f215 := Try.func45.trans (congrArg some (by kernel_rfl))
  f216 := Try.func35.trans (congrArg some (by kernel_rfl))
  f257 := Try.func24.trans (congrArg some (by kernel_rfl))
  f294 := Try.func29.trans (congrArg some (by kernel_rfl))
  f295 := Try.func30.trans (congrArg some (by kernel_rfl))
  f296 := Try.func31.trans (congrArg some (by kernel_rfl))
  f297 := Try.func32.trans (congrArg some (by kernel_rfl))
  f298 := Try.func33.trans (congrArg some (by kernel_rfl))
  f299 := Try.func34.trans (congrArg some (by kernel_rfl))
  f300 := Try.func36.trans (congrArg some (by kernel_rfl))
  f301 := Try.func37.trans (congrArg some (by kernel_rfl))
  f328 := Try.func40.trans (congrArg some (by kernel_rfl))
  f329 := Try.func41.trans (congrArg some (by kernel_rfl))
  f330 := Try.func42.trans (congrArg some (by kernel_rfl))
  f331 := Try.func43.trans (congrArg some (by kernel_rfl))
  f332 := Try.func44.trans (congrArg some (by kernel_rfl))
  f343 := Try.func46.trans (congrArg some (by kernel_rfl))
  t0 := Try.underlying0
  a0 := Try.isAgg0
  z0 := Try.sizeOf0
  v0 := Try.zeroValue0
  t3 := Try.underlying3
  a3 := Try.isAgg3
  z3 := Try.sizeOf3
  v3 := Try.zeroValue3
  t4 := Try.underlying4
  a4 := Try.isAgg4
  z4 := Try.sizeOf4
  v4 := Try.zeroValue4
  t5 := Try.underlying5
  a5 := Try.isAgg5
  z5 := Try.sizeOf5
  v5 := Try.zeroValue5
  t9 := Try.underlying9
  a9 := Try.isAgg9
  z9 := Try.sizeOf9
  v9 := Try.zeroValue9
  t28 := Try.underlying22
  a28 := Try.isAgg22
  z28 := Try.sizeOf22
  v28 := Try.zeroValue22
  t46 := Try.underlying48
  a46 := Try.isAgg48
  z46 := Try.sizeOf48
  v46 := Try.zeroValue48
  t51 := Try.underlying61
  a51 := Try.isAgg61
  z51 := Try.sizeOf61
  v51 := Try.zeroValue61
  t53 := Try.underlying63
  a53 := Try.isAgg63
  z53 := Try.sizeOf63
  v53 := Try.zeroValue63
  t131 := Try.underlying58
  a131 := Try.isAgg58
  z131 := Try.sizeOf58
  v131 := Try.zeroValue58
  t182 := Try.underlying52
  a182 := Try.isAgg52
  z182 := Try.sizeOf52
  v182 := Try.zeroValue52
  t183 := Try.underlying53
  a183 := Try.isAgg53
  z183 := Try.sizeOf53
  v183 := Try.zeroValue53
  t218 := Try.underlying64
  a218 := Try.isAgg64
  z218 := Try.sizeOf64
  v218 := Try.zeroValue64
  t222 := Try.underlying68
  a222 := Try.isAgg68
  z222 := Try.sizeOf68
  v222 := Try.zeroValue68
  t228 := Try.underlying70
  a228 := Try.isAgg70
  z228 := Try.sizeOf70
  v228 := Try.zeroValue70
  t229 := Try.underlying71
  a229 := Try.isAgg71
  z229 := Try.sizeOf71
  v229 := Try.zeroValue71 }

theorem sortSaid : SortSaid Go.Proofs.Try.prog 18 := fun blk off cap zs w h1 h2 h3 => Go.Proofs.Any.slices_Sort_int lays189 blk off cap zs w h1 h2 h3
end Go.Proofs.Ytldbikinnoiacaa.Pv
