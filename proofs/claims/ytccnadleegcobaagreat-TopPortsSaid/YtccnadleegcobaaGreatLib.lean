/- The library's contracts over this program (the layings as the kit's lay-plain tool writes them). -/
import Derived.Shelf.Sort.Plain
import Derived.Shelf.Strings.OnBuilder
import Derived.Test.YtccnadleegcobaaGreatPevC
import Derived.Test.YtccnadleegcobaaGreatPrim3
import Derived.Test.YtccnadleegcobaaGreatPrim6
import Derived.Test.YtccnadleegcobaaGreatProg
set_option linter.unusedVariables false
namespace Go.Proofs.YtccnadleegcobaaGreat.Pv
open Go Go.Pev Go.Shelf
def lays189_ren : Go.Shelf.Ren := ⟨fun | 189 => 46 | 125 => 69 | 257 => 68 | 128 => 94 | 129 => 95 | 294 => 85 | 295 => 86 | 296 => 87 | 297 => 88 | 298 => 89 | 299 => 90 | 216 => 91 | 300 => 92 | 301 => 93 | 328 => 100 | 329 => 101 | 330 => 102 | 331 => 103 | 332 => 104 | 215 => 105 | 343 => 106 | n => n, fun | 28 => 38 | 3 => 3 | 46 => 97 | 0 => 0 | 51 => 99 | 53 => 25 | 4 => 4 | 183 => 150 | 182 => 149 | 131 => 144 | 5 => 5 | 9 => 9 | 218 => 161 | 222 => 165 | 228 => 167 | 229 => 140 | n => n, fun | n => n⟩
theorem lays189 : Go.Proofs.Lays.n189 Tryz.prog lays189_ren := {
  mixed := by kernel_rfl
  f125 := Tryz.func69.trans (congrArg some (by kernel_rfl))
  f128 := Tryz.func94.trans (congrArg some (by kernel_rfl))
  f129 := Tryz.func95.trans (congrArg some (by kernel_rfl))
  f189 := Tryz.func46.trans (congrArg some (by kernel_rfl))
  f215 := Tryz.func105.trans (congrArg some (by kernel_rfl))
  f216 := Tryz.func91.trans (congrArg some (by kernel_rfl))
  f257 := Tryz.func68.trans (congrArg some (by kernel_rfl))
  f294 := Tryz.func85.trans (congrArg some (by kernel_rfl))
  f295 := Tryz.func86.trans (congrArg some (by kernel_rfl))
  f296 := Tryz.func87.trans (congrArg some (by kernel_rfl))
  f297 := Tryz.func88.trans (congrArg some (by kernel_rfl))
  f298 := Tryz.func89.trans (congrArg some (by kernel_rfl))
  f299 := Tryz.func90.trans (congrArg some (by kernel_rfl))
  f300 := Tryz.func92.trans (congrArg some (by kernel_rfl))
  f301 := Tryz.func93.trans (congrArg some (by kernel_rfl))
  f328 := Tryz.func100.trans (congrArg some (by kernel_rfl))
  f329 := Tryz.func101.trans (congrArg some (by kernel_rfl))
  f330 := Tryz.func102.trans (congrArg some (by kernel_rfl))
  f331 := Tryz.func103.trans (congrArg some (by kernel_rfl))
  f332 := Tryz.func104.trans (congrArg some (by kernel_rfl))
  f343 := Tryz.func106.trans (congrArg some (by kernel_rfl))
  t0 := Tryz.underlying0
  a0 := Tryz.isAgg0
  z0 := Tryz.sizeOf0
  v0 := Tryz.zeroValue0
  t3 := Tryz.underlying3
  a3 := Tryz.isAgg3
  z3 := Tryz.sizeOf3
  v3 := Tryz.zeroValue3
  t4 := Tryz.underlying4
  a4 := Tryz.isAgg4
  z4 := Tryz.sizeOf4
  v4 := Tryz.zeroValue4
  t5 := Tryz.underlying5
  a5 := Tryz.isAgg5
  z5 := Tryz.sizeOf5
  v5 := Tryz.zeroValue5
  t9 := Tryz.underlying9
  a9 := Tryz.isAgg9
  z9 := Tryz.sizeOf9
  v9 := Tryz.zeroValue9
  t28 := Tryz.underlying38
  a28 := Tryz.isAgg38
  z28 := Tryz.sizeOf38
  v28 := Tryz.zeroValue38
  t46 := Tryz.underlying97
  a46 := Tryz.isAgg97
  z46 := Tryz.sizeOf97
  v46 := Tryz.zeroValue97
  t51 := Tryz.underlying99
  a51 := Tryz.isAgg99
  z51 := Tryz.sizeOf99
  v51 := Tryz.zeroValue99
  t53 := Tryz.underlying25
  a53 := Tryz.isAgg25
  z53 := Tryz.sizeOf25
  v53 := Tryz.zeroValue25
  t131 := Tryz.underlying144
  a131 := Tryz.isAgg144
  z131 := Tryz.sizeOf144
  v131 := Tryz.zeroValue144
  t182 := Tryz.underlying149
  a182 := Tryz.isAgg149
  z182 := Tryz.sizeOf149
  v182 := Tryz.zeroValue149
  t183 := Tryz.underlying150
  a183 := Tryz.isAgg150
  z183 := Tryz.sizeOf150
  v183 := Tryz.zeroValue150
  t218 := Tryz.underlying161
  a218 := Tryz.isAgg161
  z218 := Tryz.sizeOf161
  v218 := Tryz.zeroValue161
  t222 := Tryz.underlying165
  a222 := Tryz.isAgg165
  z222 := Tryz.sizeOf165
  v222 := Tryz.zeroValue165
  t228 := Tryz.underlying167
  a228 := Tryz.isAgg167
  z228 := Tryz.sizeOf167
  v228 := Tryz.zeroValue167
  t229 := Tryz.underlying140
  a229 := Tryz.isAgg140
  z229 := Tryz.sizeOf140
  v229 := Tryz.zeroValue140 }
def lays156_ren : Go.Shelf.Ren := ⟨fun | 156 => 29 | 165 => 47 | 166 => 18 | 169 => 20 | 240 => 37 | 241 => 70 | 276 => 65 | 277 => 96 | n => n, fun | 31 => 32 | 9 => 9 | 3 => 3 | 4 => 4 | 0 => 0 | 20 => 20 | 72 => 65 | 76 => 68 | 70 => 63 | 37 => 45 | 75 => 67 | 127 => 98 | 164 => 129 | 5 => 5 | 80 => 72 | n => n, fun | n => n⟩
theorem lays156 : Go.Proofs.Lays.n156 Tryz.prog lays156_ren := {
  mixed := by kernel_rfl
  f156 := Tryz.func29.trans (congrArg some (by kernel_rfl))
  f165 := Tryz.func47.trans (congrArg some (by kernel_rfl))
  f166 := Tryz.func18.trans (congrArg some (by kernel_rfl))
  f169 := Tryz.func20.trans (congrArg some (by kernel_rfl))
  f240 := Tryz.func37.trans (congrArg some (by kernel_rfl))
  f241 := Tryz.func70.trans (congrArg some (by kernel_rfl))
  f276 := Tryz.func65.trans (congrArg some (by kernel_rfl))
  f277 := Tryz.func96.trans (congrArg some (by kernel_rfl))
  t0 := Tryz.underlying0
  a0 := Tryz.isAgg0
  z0 := Tryz.sizeOf0
  v0 := Tryz.zeroValue0
  t3 := Tryz.underlying3
  a3 := Tryz.isAgg3
  z3 := Tryz.sizeOf3
  v3 := Tryz.zeroValue3
  t4 := Tryz.underlying4
  a4 := Tryz.isAgg4
  z4 := Tryz.sizeOf4
  v4 := Tryz.zeroValue4
  t9 := Tryz.underlying9
  a9 := Tryz.isAgg9
  z9 := Tryz.sizeOf9
  v9 := Tryz.zeroValue9
  t20 := Tryz.underlying20
  a20 := Tryz.isAgg20
  z20 := Tryz.sizeOf20
  v20 := Tryz.zeroValue20
  t31 := Tryz.underlying32
  a31 := Tryz.isAgg32
  z31 := Tryz.sizeOf32
  v31 := Tryz.zeroValue32
  t37 := Tryz.underlying45
  a37 := Tryz.isAgg45
  z37 := Tryz.sizeOf45
  v37 := Tryz.zeroValue45
  t70 := Tryz.underlying63
  a70 := Tryz.isAgg63
  z70 := Tryz.sizeOf63
  v70 := Tryz.zeroValue63
  t72 := Tryz.underlying65
  a72 := Tryz.isAgg65
  z72 := Tryz.sizeOf65
  v72 := Tryz.zeroValue65
  t75 := Tryz.underlying67
  a75 := Tryz.isAgg67
  z75 := Tryz.sizeOf67
  v75 := Tryz.zeroValue67
  t76 := Tryz.underlying68
  a76 := Tryz.isAgg68
  z76 := Tryz.sizeOf68
  v76 := Tryz.zeroValue68
  t127 := Tryz.underlying98
  a127 := Tryz.isAgg98
  z127 := Tryz.sizeOf98
  v127 := Tryz.zeroValue98
  t164 := Tryz.underlying129
  a164 := Tryz.isAgg129
  z164 := Tryz.sizeOf129
  v164 := Tryz.zeroValue129 }

theorem sortSaid : SortSaid Go.Proofs.Tryz.prog 46 := fun blk off cap zs w h1 h2 h3 => Go.Proofs.Any.slices_Sort_int lays189 blk off cap zs w h1 h2 h3

theorem joinX : Go.Proofs.Builder.Extra Tryz.prog lays156_ren := {
  sizeBuilder := by kernel_rfl
  liesBuilder := by kernel_rfl
  t5 := Tryz.underlying5
  a5 := Tryz.isAgg5
  z5 := Tryz.sizeOf5
  v5 := Tryz.zeroValue5
  infoByte := by kernel_rfl
  cellsByte := by kernel_rfl
  sizeByte := by kernel_rfl
  neB5 := by decide }
theorem joinSaid : JoinSaid Go.Proofs.Tryz.prog 29 := ⟨fun a c sep w => Go.Proofs.Any.strings_Join_none lays156 joinX a c sep w, fun bk o c xs sep w h1 h2 h3 h4 h5 => Go.Proofs.Any.strings_Join lays156 joinX bk o c xs sep w h1 h2 h3 h4 h5⟩

theorem ckSaid : CkSaid Go.Proofs.Tryz.prog 37 65 := ckSaid_of (ρ := lays156_ren) { lays156 with } joinX.toX72
theorem strSaid : StrSaid Go.Proofs.Tryz.prog 20 65 5 := strSaid_of (ρ := lays156_ren) { lays156 with } joinX
end Go.Proofs.YtccnadleegcobaaGreat.Pv
