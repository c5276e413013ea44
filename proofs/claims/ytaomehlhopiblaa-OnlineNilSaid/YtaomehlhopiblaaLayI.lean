/- The library's contracts on slices, laid at this program. -/
import Derived.Test.YtaomehlhopiblaaProg
import Derived.Shelf.Sort.Plain
set_option linter.unusedVariables false
set_option linter.unusedSimpArgs false
namespace Go.Proofs.Ytaomehlhopiblaa
open Go.Shelf
def lays189_ren : Go.Shelf.Ren := ⟨fun | 189 => 76 | 125 => 82 | 257 => 81 | 128 => 93 | 129 => 94 | 294 => 84 | 295 => 85 | 296 => 86 | 297 => 87 | 298 => 88 | 299 => 89 | 216 => 90 | 300 => 91 | 301 => 92 | 328 => 95 | 329 => 96 | 330 => 97 | 331 => 98 | 332 => 99 | 215 => 100 | 343 => 101 | n => n, fun | 28 => 30 | 3 => 3 | 46 => 94 | 0 => 0 | 51 => 133 | 53 => 22 | 4 => 4 | 183 => 125 | 182 => 124 | 131 => 130 | 5 => 5 | 9 => 9 | 218 => 135 | 222 => 139 | 228 => 141 | 229 => 97 | n => n, fun | n => n⟩
theorem lays189 : Go.Proofs.Lays.n189 Try.prog lays189_ren := {
  mixed := by kernel_rfl
  f125 := Try.func82.trans (congrArg some (by kernel_rfl))
  f128 := Try.func93.trans (congrArg some (by kernel_rfl))
  f129 := Try.func94.trans (congrArg some (by kernel_rfl))
  f189 := Try.func76.trans (congrArg some (by kernel_rfl))
  f215 := Try.func100.trans (congrArg some (by kernel_rfl))
  f216 := Try.func90.trans (congrArg some (by kernel_rfl))
  f257 := Try.func81.trans (congrArg some (by kernel_rfl))
  f294 := Try.func84.trans (congrArg some (by kernel_rfl))
  f295 := Try.func85.trans (congrArg some (by kernel_rfl))
  f296 := Try.func86.trans (congrArg some (by kernel_rfl))
  f297 := Try.func87.trans (congrArg some (by kernel_rfl))
  f298 := Try.func88.trans (congrArg some (by kernel_rfl))
  f299 := Try.func89.trans (congrArg some (by kernel_rfl))
  f300 := Try.func91.trans (congrArg some (by kernel_rfl))
  f301 := Try.func92.trans (congrArg some (by kernel_rfl))
  f328 := Try.func95.trans (congrArg some (by kernel_rfl))
  f329 := Try.func96.trans (congrArg some (by kernel_rfl))
  f330 := Try.func97.trans (congrArg some (by kernel_rfl))
  f331 := Try.func98.trans (congrArg some (by kernel_rfl))
  f332 := Try.func99.trans (congrArg some (by kernel_rfl))
  f343 := Try.func101.trans (congrArg some (by kernel_rfl))
  t0 := Try.underlying0
  a0 := Try.isAgg0
  z0 := Try.sizeOf0
  v0 := Try.zeroValue0
  t3 := Try.underlying3
  a3 := Try.isAgg3
  z3 := Try.sizeOf3
  v3 := Try.zeroValue3
  t4 := Try.underlying4
  a4 := Try.isAgg4
  z4 := Try.sizeOf4
  v4 := Try.zeroValue4
  t5 := Try.underlying5
  a5 := Try.isAgg5
  z5 := Try.sizeOf5
  v5 := Try.zeroValue5
  t9 := Try.underlying9
  a9 := Try.isAgg9
  z9 := Try.sizeOf9
  v9 := Try.zeroValue9
  t28 := Try.underlying30
  a28 := Try.isAgg30
  z28 := Try.sizeOf30
  v28 := Try.zeroValue30
  t46 := Try.underlying94
  a46 := Try.isAgg94
  z46 := Try.sizeOf94
  v46 := Try.zeroValue94
  t51 := Try.underlying133
  a51 := Try.isAgg133
  z51 := Try.sizeOf133
  v51 := Try.zeroValue133
  t53 := Try.underlying22
  a53 := Try.isAgg22
  z53 := Try.sizeOf22
  v53 := Try.zeroValue22
  t131 := Try.underlying130
  a131 := Try.isAgg130
  z131 := Try.sizeOf130
  v131 := Try.zeroValue130
  t182 := Try.underlying124
  a182 := Try.isAgg124
  z182 := Try.sizeOf124
  v182 := Try.zeroValue124
  t183 := Try.underlying125
  a183 := Try.isAgg125
  z183 := Try.sizeOf125
  v183 := Try.zeroValue125
  t218 := Try.underlying135
  a218 := Try.isAgg135
  z218 := Try.sizeOf135
  v218 := Try.zeroValue135
  t222 := Try.underlying139
  a222 := Try.isAgg139
  z222 := Try.sizeOf139
  v222 := Try.zeroValue139
  t228 := Try.underlying141
  a228 := Try.isAgg141
  z228 := Try.sizeOf141
  v228 := Try.zeroValue141
  t229 := Try.underlying97
  a229 := Try.isAgg97
  z229 := Try.sizeOf97
  v229 := Try.zeroValue97 }
end Go.Proofs.Ytaomehlhopiblaa
