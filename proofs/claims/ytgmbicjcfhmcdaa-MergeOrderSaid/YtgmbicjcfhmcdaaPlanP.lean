/- What can be passed, what is first, what is ahead, of a regular expression: plain definitions and lemmas, no program in sight. -/
import Derived.Test.YtgmbicjcfhmcdaaPathsP
import Derived.Test.YtgmbicjcfhmcdaaOwnP
set_option linter.unusedVariables false
set_option linter.unusedSimpArgs false
/-! What can be passed, what is first, what is ahead, of a regular expression: plain definitions and lemmas, no program in sight. -/
namespace Go.Proofs.Ytgmbicjcfhmcdaa
/-! Tests hold by functions z q x: test number q at assignment x. -/
abbrev Fst := List (Nat × (Nat → Bool))
/-! ### One assignment alone -/
/-! ### Places: does a node belong to the expression, and from which test and step on? -/
/-! ### The node above -/
end Go.Proofs.Ytgmbicjcfhmcdaa
/-! The tables of a plan in the making: plain lemmas. -/
namespace Go.Proofs.Ytgmbicjcfhmcdaa
end Go.Proofs.Ytgmbicjcfhmcdaa
