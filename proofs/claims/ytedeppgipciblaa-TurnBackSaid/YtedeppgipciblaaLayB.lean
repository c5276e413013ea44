/- The library's contracts on slices, laid at this program. -/
import Derived.Test.YtedeppgipciblaaProg
import Derived.Shelf.Slices.SearchI
set_option linter.unusedVariables false
set_option linter.unusedSimpArgs false
namespace Go.Proofs.Ytedeppgipciblaa
open Go.Shelf
def lays25_ren : Go.Shelf.Ren := ⟨fun | 25 => 42 | 31 => 73 | 32 => 74 | 37 => 109 | n => n, fun | 22 => 26 | 3 => 3 | 4 => 4 | 40 => 80 | 0 => 0 | n => n, fun | n => n⟩
theorem lays25 : Go.Proofs.Lays2.n25 Try.prog lays25_ren := {
  mixed := by kernel_rfl
  f25 := Try.func42.trans (congrArg some (by kernel_rfl))
  f31 := Try.func73.trans (congrArg some (by kernel_rfl))
  f32 := Try.func74.trans (congrArg some (by kernel_rfl))
  f37 := Try.func109.trans (congrArg some (by kernel_rfl))
  t0 := Try.underlying0
  a0 := Try.isAgg0
  z0 := Try.sizeOf0
  v0 := Try.zeroValue0
  t3 := Try.underlying3
  a3 := Try.isAgg3
  z3 := Try.sizeOf3
  v3 := Try.zeroValue3
  t4 := Try.underlying4
  a4 := Try.isAgg4
  z4 := Try.sizeOf4
  v4 := Try.zeroValue4
  t22 := Try.underlying26
  a22 := Try.isAgg26
  z22 := Try.sizeOf26
  v22 := Try.zeroValue26
  t40 := Try.underlying80
  a40 := Try.isAgg80
  z40 := Try.sizeOf80
  v40 := Try.zeroValue80 }
end Go.Proofs.Ytedeppgipciblaa
