/- Tables of Booleans in memory. -/
import Derived.Test.YtgmbicjcfhmcdaaPathsP
import Derived.Test.YtgmbicjcfhmcdaaMem
import Derived.Deep.RegionWith
import Derived.BigQuiet
import Derived.Deep.QuietTactic
set_option linter.unusedVariables false
set_option linter.unusedSimpArgs false
/-! Tables of Booleans in memory. -/
namespace Go.Proofs.Ytgmbicjcfhmcdaa
open Go.RowKit
def rowV (n : Nat) (r : Nat → Bool) : Array Value := ((List.range n).map fun j => Value.bool (r j)).toArray
theorem get_rowV {n : Nat} {r : Nat → Bool} {j : Nat} (hj : j < n) : (rowV n r)[j]? = some (.bool (r j)) := by simp [rowV, hj]
theorem rowV_congr {n : Nat} {r r' : Nat → Bool} (h : ∀ j, j < n → r j = r' j) : rowV n r = rowV n r' := by
  unfold rowV
  congr 1
  exact List.map_congr_left fun j hj => by rw [h j (by simpa using hj)]
namespace SqF
variable {F F' : Fz} {g n : Nat} {m m' : Mx} {w w' : World}
end SqF
end Go.Proofs.Ytgmbicjcfhmcdaa
/-! The walks of the functions on tables of Booleans. -/
namespace Go.Proofs.Ytgmbicjcfhmcdaa
open Go.RowKit
end Go.Proofs.Ytgmbicjcfhmcdaa
/-! The walk of paths.closure. -/
namespace Go.Proofs.Ytgmbicjcfhmcdaa
open Go.RowKit
end Go.Proofs.Ytgmbicjcfhmcdaa
/-! The walk of the reference's product. -/
namespace Go.Proofs.Ytgmbicjcfhmcdaa
open Go.RowKit
end Go.Proofs.Ytgmbicjcfhmcdaa
