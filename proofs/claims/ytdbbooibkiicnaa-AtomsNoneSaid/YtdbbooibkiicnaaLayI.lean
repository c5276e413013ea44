/- The library's contracts on slices, laid at this program. -/
import Derived.Test.YtdbbooibkiicnaaProg
import Derived.Shelf.Sort.Plain
set_option linter.unusedVariables false
set_option linter.unusedSimpArgs false
namespace Go.Proofs.Ytdbbooibkiicnaa
open Go.Shelf
def lays189_ren : Go.Shelf.Ren := ⟨fun | 189 => 112 | 125 => 126 | 257 => 125 | 128 => 144 | 129 => 145 | 294 => 135 | 295 => 136 | 296 => 137 | 297 => 138 | 298 => 139 | 299 => 140 | 216 => 141 | 300 => 142 | 301 => 143 | 328 => 148 | 329 => 149 | 330 => 150 | 331 => 151 | 332 => 152 | 215 => 153 | 343 => 154 | n => n, fun | 28 => 27 | 3 => 3 | 46 => 69 | 0 => 0 | 51 => 168 | 53 => 37 | 4 => 4 | 183 => 161 | 182 => 160 | 131 => 165 | 5 => 5 | 9 => 9 | 218 => 171 | 222 => 175 | 228 => 177 | 229 => 79 | n => n, fun | n => n⟩
theorem lays189 : Go.Proofs.Lays.n189 Try.prog lays189_ren := {
  mixed := by kernel_rfl
  f125 := Try.func126.trans (congrArg some (by kernel_rfl))
  f128 := Try.func144.trans (congrArg some (by kernel_rfl))
  f129 := Try.func145.trans (congrArg some (by kernel_rfl))
  f189 := Try.func112.trans (congrArg some (by kernel_rfl))
  f215 := Try.func153.trans (congrArg some (by kernel_rfl))
  f216 := Try.func141.trans (congrArg some (by kernel_rfl))
  f257 := Try.func125.trans (congrArg some (by kernel_rfl))
  f294 := Try.func135.trans (congrArg some (by kernel_rfl))
  f295 := Try.func136.trans (congrArg some (by kernel_rfl))
  f296 := Try.func137.trans (congrArg some (by kernel_rfl))
  f297 := Try.func138.trans (congrArg some (by kernel_rfl))
  f298 := Try.func139.trans (congrArg some (by kernel_rfl))
  f299 := Try.func140.trans (congrArg some (by kernel_rfl))
  f300 := Try.func142.trans (congrArg some (by kernel_rfl))
  f301 := Try.func143.trans (congrArg some (by kernel_rfl))
  f328 := Try.func148.trans (congrArg some (by kernel_rfl))
  f329 := Try.func149.trans (congrArg some (by kernel_rfl))
  f330 := Try.func150.trans (congrArg some (by kernel_rfl))
  f331 := Try.func151.trans (congrArg some (by kernel_rfl))
  f332 := Try.func152.trans (congrArg some (by kernel_rfl))
  f343 := Try.func154.trans (congrArg some (by kernel_rfl))
  t0 := Try.underlying0
  a0 := Try.isAgg0
  z0 := Try.sizeOf0
  v0 := Try.zeroValue0
  t3 := Try.underlying3
  a3 := Try.isAgg3
  z3 := Try.sizeOf3
  v3 := Try.zeroValue3
  t4 := Try.underlying4
  a4 := Try.isAgg4
  z4 := Try.sizeOf4
  v4 := Try.zeroValue4
  t5 := Try.underlying5
  a5 := Try.isAgg5
  z5 := Try.sizeOf5
  v5 := Try.zeroValue5
  t9 := Try.underlying9
  a9 := Try.isAgg9
  z9 := Try.sizeOf9
  v9 := Try.zeroValue9
  t28 := Try.underlying27
  a28 := Try.isAgg27
  z28 := Try.sizeOf27
  v28 := Try.zeroValue27
  t46 := Try.underlying69
  a46 := Try.isAgg69
  z46 := Try.sizeOf69
  v46 := Try.zeroValue69
  t51 := Try.underlying168
  a51 := Try.isAgg168
  z51 := Try.sizeOf168
  v51 := Try.zeroValue168
  t53 := Try.underlying37
  a53 := Try.isAgg37
  z53 := Try.sizeOf37
  v53 := Try.zeroValue37
  t131 := Try.underlying165
  a131 := Try.isAgg165
  z131 := Try.sizeOf165
  v131 := Try.zeroValue165
  t182 := Try.underlying160
  a182 := Try.isAgg160
  z182 := Try.sizeOf160
  v182 := Try.zeroValue160
  t183 := Try.underlying161
  a183 := Try.isAgg161
  z183 := Try.sizeOf161
  v183 := Try.zeroValue161
  t218 := Try.underlying171
  a218 := Try.isAgg171
  z218 := Try.sizeOf171
  v218 := Try.zeroValue171
  t222 := Try.underlying175
  a222 := Try.isAgg175
  z222 := Try.sizeOf175
  v222 := Try.zeroValue175
  t228 := Try.underlying177
  a228 := Try.isAgg177
  z228 := Try.sizeOf177
  v228 := Try.zeroValue177
  t229 := Try.underlying79
  a229 := Try.isAgg79
  z229 := Try.sizeOf79
  v229 := Try.zeroValue79 }
end Go.Proofs.Ytdbbooibkiicnaa
