/- The library's contracts on slices, laid at this program. -/
import Derived.Test.YtdohbbjinbofbaaProg
import Derived.Shelf.Sort.Plain
set_option linter.unusedVariables false
set_option linter.unusedSimpArgs false
namespace Go.Proofs.Ytdohbbjinbofbaa
open Go.Shelf
def lays189_ren : Go.Shelf.Ren := ⟨fun | 189 => 102 | 125 => 111 | 257 => 110 | 128 => 126 | 129 => 127 | 294 => 117 | 295 => 118 | 296 => 119 | 297 => 120 | 298 => 121 | 299 => 122 | 216 => 123 | 300 => 124 | 301 => 125 | 328 => 130 | 329 => 131 | 330 => 132 | 331 => 133 | 332 => 134 | 215 => 135 | 343 => 136 | n => n, fun | 28 => 28 | 3 => 3 | 46 => 37 | 0 => 0 | 51 => 142 | 53 => 25 | 4 => 4 | 183 => 134 | 182 => 133 | 131 => 139 | 5 => 5 | 9 => 9 | 218 => 145 | 222 => 148 | 228 => 150 | 229 => 79 | n => n, fun | n => n⟩
theorem lays189 : Go.Proofs.Lays.n189 Try.prog lays189_ren := {
  mixed := by kernel_rfl
  f125 := Try.func111.trans (congrArg some (by kernel_rfl))
  f128 := Try.func126.trans (congrArg some (by kernel_rfl))
  f129 := Try.func127.trans (congrArg some (by kernel_rfl))
  f189 := Try.func102.trans (congrArg some (by kernel_rfl))
  f215 := Try.func135.trans (congrArg some (by kernel_rfl))
  f216 := Try.func123.trans (congrArg some (by kernel_rfl))
  f257 := Try.func110.trans (congrArg some (by kernel_rfl))
  f294 := Try.func117.trans (congrArg some (by kernel_rfl))
  f295 := Try.func118.trans (congrArg some (by kernel_rfl))
  f296 := Try.func119.trans (congrArg some (by kernel_rfl))
  f297 := Try.func120.trans (congrArg some (by kernel_rfl))
  f298 := Try.func121.trans (congrArg some (by kernel_rfl))
  f299 := Try.func122.trans (congrArg some (by kernel_rfl))
  f300 := Try.func124.trans (congrArg some (by kernel_rfl))
  f301 := Try.func125.trans (congrArg some (by kernel_rfl))
  f328 := Try.func130.trans (congrArg some (by kernel_rfl))
  f329 := Try.func131.trans (congrArg some (by kernel_rfl))
  f330 := Try.func132.trans (congrArg some (by kernel_rfl))
  f331 := Try.func133.trans (congrArg some (by kernel_rfl))
  f332 := Try.func134.trans (congrArg some (by kernel_rfl))
  f343 := Try.func136.trans (congrArg some (by kernel_rfl))
  t0 := Try.underlying0
  a0 := Try.isAgg0
  z0 := Try.sizeOf0
  v0 := Try.zeroValue0
  t3 := Try.underlying3
  a3 := Try.isAgg3
  z3 := Try.sizeOf3
  v3 := Try.zeroValue3
  t4 := Try.underlying4
  a4 := Try.isAgg4
  z4 := Try.sizeOf4
  v4 := Try.zeroValue4
  t5 := Try.underlying5
  a5 := Try.isAgg5
  z5 := Try.sizeOf5
  v5 := Try.zeroValue5
  t9 := Try.underlying9
  a9 := Try.isAgg9
  z9 := Try.sizeOf9
  v9 := Try.zeroValue9
  t28 := Try.underlying28
  a28 := Try.isAgg28
  z28 := Try.sizeOf28
  v28 := Try.zeroValue28
  t46 := Try.underlying37
  a46 := Try.isAgg37
  z46 := Try.sizeOf37
  v46 := Try.zeroValue37
  t51 := Try.underlying142
  a51 := Try.isAgg142
  z51 := Try.sizeOf142
  v51 := Try.zeroValue142
  t53 := Try.underlying25
  a53 := Try.isAgg25
  z53 := Try.sizeOf25
  v53 := Try.zeroValue25
  t131 := Try.underlying139
  a131 := Try.isAgg139
  z131 := Try.sizeOf139
  v131 := Try.zeroValue139
  t182 := Try.underlying133
  a182 := Try.isAgg133
  z182 := Try.sizeOf133
  v182 := Try.zeroValue133
  t183 := Try.underlying134
  a183 := Try.isAgg134
  z183 := Try.sizeOf134
  v183 := Try.zeroValue134
  t218 := Try.underlying145
  a218 := Try.isAgg145
  z218 := Try.sizeOf145
  v218 := Try.zeroValue145
  t222 := Try.underlying148
  a222 := Try.isAgg148
  z222 := Try.sizeOf148
  v222 := Try.zeroValue148
  t228 := Try.underlying150
  a228 := Try.isAgg150
  z228 := Try.sizeOf150
  v228 := Try.zeroValue150
  t229 := Try.underlying79
  a229 := Try.isAgg79
  z229 := Try.sizeOf79
  v229 := Try.zeroValue79 }
end Go.Proofs.Ytdohbbjinbofbaa
