/- The library's contracts on slices, laid at this program. -/
import Derived.Test.YtgmbicjcfhmcdaaProg
import Derived.Shelf.Sort.Plain
set_option linter.unusedVariables false
set_option linter.unusedSimpArgs false
namespace Go.Proofs.Ytgmbicjcfhmcdaa
open Go.Shelf
def lays190_ren : Go.Shelf.Ren := ⟨fun | 190 => 32 | 125 => 43 | 258 => 42 | 128 => 59 | 129 => 60 | 302 => 50 | 303 => 51 | 304 => 52 | 305 => 53 | 306 => 54 | 307 => 55 | 308 => 56 | 309 => 57 | 310 => 58 | 333 => 74 | 329 => 75 | 330 => 76 | 334 => 77 | 335 => 78 | 336 => 79 | 344 => 85 | n => n, fun | 31 => 24 | 9 => 9 | 3 => 3 | 46 => 84 | 0 => 0 | 51 => 101 | 53 => 28 | 4 => 4 | 183 => 93 | 182 => 92 | 131 => 98 | 5 => 5 | 218 => 109 | 222 => 113 | 228 => 119 | 229 => 120 | n => n, fun | n => n⟩
theorem lays190 : Go.Proofs.Lays.n190 Try.prog lays190_ren := {
  mixed := by kernel_rfl
  f125 := Try.func43.trans (congrArg some (by kernel_rfl))
  f128 := Try.func59.trans (congrArg some (by kernel_rfl))
  f129 := Try.func60.trans (congrArg some (by kernel_rfl))
  f190 := Try.func32.trans (congrArg some (by kernel_rfl))
  f258 := Try.func42.trans (congrArg some (by kernel_rfl))
  f302 := Try.func50.trans (congrArg some (by kernel_rfl))
  f303 := Try.func51.trans (congrArg some (by kernel_rfl))
  f304 := Try.func52.trans (congrArg some (by kernel_rfl))
  f305 := Try.func53.trans (congrArg some (by kernel_rfl))
  f306 := Try.func54.trans (congrArg some (by kernel_rfl))
  f307 := Try.func55.trans (congrArg some (by kernel_rfl))
  f308 := Try.func56.trans (congrArg some (by kernel_rfl))
  f309 := Try.func57.trans (congrArg some (by kernel_rfl))
  f310 := Try.func58.trans (congrArg some (by kernel_rfl))
  f329 := Try.func75.trans (congrArg some (by kernel_rfl))
  f330 := Try.func76.trans (congrArg some (by kernel_rfl))
  f333 := Try.func74.trans (congrArg some (by kernel_rfl))
  f334 := Try.func77.trans (congrArg some (by kernel_rfl))
  f335 := Try.func78.trans (congrArg some (by kernel_rfl))
  f336 := Try.func79.trans (congrArg some (by kernel_rfl))
  f344 := Try.func85.trans (congrArg some (by kernel_rfl))
  t0 := Try.underlying0
  a0 := Try.isAgg0
  z0 := Try.sizeOf0
  v0 := Try.zeroValue0
  t3 := Try.underlying3
  a3 := Try.isAgg3
  z3 := Try.sizeOf3
  v3 := Try.zeroValue3
  t4 := Try.underlying4
  a4 := Try.isAgg4
  z4 := Try.sizeOf4
  v4 := Try.zeroValue4
  t5 := Try.underlying5
  a5 := Try.isAgg5
  z5 := Try.sizeOf5
  v5 := Try.zeroValue5
  t9 := Try.underlying9
  a9 := Try.isAgg9
  z9 := Try.sizeOf9
  v9 := Try.zeroValue9
  t31 := Try.underlying24
  a31 := Try.isAgg24
  z31 := Try.sizeOf24
  v31 := Try.zeroValue24
  t46 := Try.underlying84
  a46 := Try.isAgg84
  z46 := Try.sizeOf84
  v46 := Try.zeroValue84
  t51 := Try.underlying101
  a51 := Try.isAgg101
  z51 := Try.sizeOf101
  v51 := Try.zeroValue101
  t53 := Try.underlying28
  a53 := Try.isAgg28
  z53 := Try.sizeOf28
  v53 := Try.zeroValue28
  t131 := Try.underlying98
  a131 := Try.isAgg98
  z131 := Try.sizeOf98
  v131 := Try.zeroValue98
  t182 := Try.underlying92
  a182 := Try.isAgg92
  z182 := Try.sizeOf92
  v182 := Try.zeroValue92
  t183 := Try.underlying93
  a183 := Try.isAgg93
  z183 := Try.sizeOf93
  v183 := Try.zeroValue93
  t218 := Try.underlying109
  a218 := Try.isAgg109
  z218 := Try.sizeOf109
  v218 := Try.zeroValue109
  t222 := Try.underlying113
  a222 := Try.isAgg113
  z222 := Try.sizeOf113
  v222 := Try.zeroValue113
  t228 := Try.underlying119
  a228 := Try.isAgg119
  z228 := Try.sizeOf119
  v228 := Try.zeroValue119
  t229 := Try.underlying120
  a229 := Try.isAgg120
  z229 := Try.sizeOf120
  v229 := Try.zeroValue120 }
end Go.Proofs.Ytgmbicjcfhmcdaa
