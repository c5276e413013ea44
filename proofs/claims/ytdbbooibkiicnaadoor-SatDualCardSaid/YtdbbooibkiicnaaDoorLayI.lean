/- The library's contracts on slices, laid at this program. -/
import Derived.Test.YtdbbooibkiicnaaDoorProg
import Derived.Shelf.Sort.Plain
set_option linter.unusedVariables false
set_option linter.unusedSimpArgs false
namespace Go.Proofs.YtdbbooibkiicnaaDoor
open Go.Shelf
def lays189_ren : Go.Shelf.Ren := ⟨fun | 189 => 78 | 125 => 82 | 257 => 81 | 128 => 92 | 129 => 93 | 294 => 83 | 295 => 84 | 296 => 85 | 297 => 86 | 298 => 87 | 299 => 88 | 216 => 89 | 300 => 90 | 301 => 91 | 328 => 94 | 329 => 95 | 330 => 96 | 331 => 97 | 332 => 98 | 215 => 99 | 343 => 100 | n => n, fun | 28 => 35 | 3 => 3 | 46 => 57 | 0 => 0 | 51 => 116 | 53 => 22 | 4 => 4 | 183 => 109 | 182 => 108 | 131 => 113 | 5 => 5 | 9 => 9 | 218 => 118 | 222 => 122 | 228 => 124 | 229 => 125 | n => n, fun | n => n⟩
theorem lays189 : Go.Proofs.Lays.n189 Tryd.prog lays189_ren := {
  mixed := by kernel_rfl
  f125 := Tryd.func82.trans (congrArg some (by kernel_rfl))
  f128 := Tryd.func92.trans (congrArg some (by kernel_rfl))
  f129 := Tryd.func93.trans (congrArg some (by kernel_rfl))
  f189 := Tryd.func78.trans (congrArg some (by kernel_rfl))
  f215 := Tryd.func99.trans (congrArg some (by kernel_rfl))
  f216 := Tryd.func89.trans (congrArg some (by kernel_rfl))
  f257 := Tryd.func81.trans (congrArg some (by kernel_rfl))
  f294 := Tryd.func83.trans (congrArg some (by kernel_rfl))
  f295 := Tryd.func84.trans (congrArg some (by kernel_rfl))
  f296 := Tryd.func85.trans (congrArg some (by kernel_rfl))
  f297 := Tryd.func86.trans (congrArg some (by kernel_rfl))
  f298 := Tryd.func87.trans (congrArg some (by kernel_rfl))
  f299 := Tryd.func88.trans (congrArg some (by kernel_rfl))
  f300 := Tryd.func90.trans (congrArg some (by kernel_rfl))
  f301 := Tryd.func91.trans (congrArg some (by kernel_rfl))
  f328 := Tryd.func94.trans (congrArg some (by kernel_rfl))
  f329 := Tryd.func95.trans (congrArg some (by kernel_rfl))
  f330 := Tryd.func96.trans (congrArg some (by kernel_rfl))
  f331 := Tryd.func97.trans (congrArg some (by kernel_rfl))
  f332 := Tryd.func98.trans (congrArg some (by kernel_rfl))
  f343 := Tryd.func100.trans (congrArg some (by kernel_rfl))
  t0 := Tryd.underlying0
  a0 := Tryd.isAgg0
  z0 := Tryd.sizeOf0
  v0 := Tryd.zeroValue0
  t3 := Tryd.underlying3
  a3 := Tryd.isAgg3
  z3 := Tryd.sizeOf3
  v3 := Tryd.zeroValue3
  t4 := Tryd.underlying4
  a4 := Tryd.isAgg4
  z4 := Tryd.sizeOf4
  v4 := Tryd.zeroValue4
  t5 := Tryd.underlying5
  a5 := Tryd.isAgg5
  z5 := Tryd.sizeOf5
  v5 := Tryd.zeroValue5
  t9 := Tryd.underlying9
  a9 := Tryd.isAgg9
  z9 := Tryd.sizeOf9
  v9 := Tryd.zeroValue9
  t28 := Tryd.underlying35
  a28 := Tryd.isAgg35
  z28 := Tryd.sizeOf35
  v28 := Tryd.zeroValue35
  t46 := Tryd.underlying57
  a46 := Tryd.isAgg57
  z46 := Tryd.sizeOf57
  v46 := Tryd.zeroValue57
  t51 := Tryd.underlying116
  a51 := Tryd.isAgg116
  z51 := Tryd.sizeOf116
  v51 := Tryd.zeroValue116
  t53 := Tryd.underlying22
  a53 := Tryd.isAgg22
  z53 := Tryd.sizeOf22
  v53 := Tryd.zeroValue22
  t131 := Tryd.underlying113
  a131 := Tryd.isAgg113
  z131 := Tryd.sizeOf113
  v131 := Tryd.zeroValue113
  t182 := Tryd.underlying108
  a182 := Tryd.isAgg108
  z182 := Tryd.sizeOf108
  v182 := Tryd.zeroValue108
  t183 := Tryd.underlying109
  a183 := Tryd.isAgg109
  z183 := Tryd.sizeOf109
  v183 := Tryd.zeroValue109
  t218 := Tryd.underlying118
  a218 := Tryd.isAgg118
  z218 := Tryd.sizeOf118
  v218 := Tryd.zeroValue118
  t222 := Tryd.underlying122
  a222 := Tryd.isAgg122
  z222 := Tryd.sizeOf122
  v222 := Tryd.zeroValue122
  t228 := Tryd.underlying124
  a228 := Tryd.isAgg124
  z228 := Tryd.sizeOf124
  v228 := Tryd.zeroValue124
  t229 := Tryd.underlying125
  a229 := Tryd.isAgg125
  z229 := Tryd.sizeOf125
  v229 := Tryd.zeroValue125 }
end Go.Proofs.YtdbbooibkiicnaaDoor
