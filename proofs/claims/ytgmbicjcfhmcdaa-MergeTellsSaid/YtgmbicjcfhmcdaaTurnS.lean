/- The names of a list, sorted, each once. Plain lemmas. -/
import Derived.Test.YtgmbicjcfhmcdaaSizes
import Derived.Sort.KeysCollected
import Derived.Lib.SlicesCompact
import Derived.Test.YtgmbicjcfhmcdaaPileM
import Derived.Test.YtgmbicjcfhmcdaaJoin
import Derived.Test.YtgmbicjcfhmcdaaPathsP
set_option linter.unusedVariables false
set_option linter.unusedSimpArgs false
/-! The names of a list, sorted, each once. Plain lemmas. -/
namespace Go.Proofs.Ytgmbicjcfhmcdaa
end Go.Proofs.Ytgmbicjcfhmcdaa
/-! A list that may be, its root's kids and their parts. Plain lemmas. -/
namespace Go.Proofs.Ytgmbicjcfhmcdaa
end Go.Proofs.Ytgmbicjcfhmcdaa
/-! The stack of paths.own: plain lemmas. -/
namespace Go.Proofs.Ytgmbicjcfhmcdaa
abbrev zs (xs : List Nat) : List Int := xs.map fun x : Nat => (x : Int)
end Go.Proofs.Ytgmbicjcfhmcdaa
/-! Trees whose lists are one have one shape. -/
namespace Go.Proofs.Ytgmbicjcfhmcdaa
/-- Two trees of one shape, kind by kind. -/
def ShapeT : Tr → Tr → Prop
  | .leaf h, .leaf h' => h.kind = h'.kind
  | .un h a, .un h' a' => h.kind = h'.kind ∧ ShapeT a a'
  | .bin h a b, .bin h' a' b' => h.kind = h'.kind ∧ ShapeT a a' ∧ ShapeT b b'
  | _, _ => False
end Go.Proofs.Ytgmbicjcfhmcdaa
/-! Regular expressions turned round: plain definitions and lemmas, no program in sight. -/
/-! Regular expressions turned round: plain definitions and lemmas, no program in sight. -/
namespace Go.Proofs.Ytgmbicjcfhmcdaa
end Go.Proofs.Ytgmbicjcfhmcdaa
/-! Lists of regular expressions turned round: plain definitions and lemmas. -/
namespace Go.Proofs.Ytgmbicjcfhmcdaa
/-! ### The tests, as trees -/
/-! ### The steps -/
end Go.Proofs.Ytgmbicjcfhmcdaa
