/- The names of a list, sorted, each once. Plain lemmas. -/
import Derived.Test.YtgmbicjcfhmcdaaSizes
import Derived.Sort.KeysCollected
import Derived.Lib.SlicesCompact
import Derived.Test.YtgmbicjcfhmcdaaPileM
import Derived.Test.YtgmbicjcfhmcdaaJoin
import Derived.Test.YtgmbicjcfhmcdaaPathsP
set_option linter.unusedVariables false
set_option linter.unusedSimpArgs false
/-! The names of a list, sorted, each once. Plain lemmas. -/
namespace Go.Proofs.Ytgmbicjcfhmcdaa
end Go.Proofs.Ytgmbicjcfhmcdaa
/-! A list that may be, its root's kids and their parts. Plain lemmas. -/
namespace Go.Proofs.Ytgmbicjcfhmcdaa
end Go.Proofs.Ytgmbicjcfhmcdaa
/-! The stack of paths.own: plain lemmas. -/
namespace Go.Proofs.Ytgmbicjcfhmcdaa
abbrev zs (xs : List Nat) : List Int := xs.map fun x : Nat => (x : Int)
end Go.Proofs.Ytgmbicjcfhmcdaa
