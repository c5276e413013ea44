/- The names of a list, sorted, each once. Plain lemmas. -/
import Derived.Test.YtgmbicjcfhmcdaaSizes
import Derived.Sort.KeysCollected
import Derived.Lib.SlicesCompact
import Derived.Test.YtgmbicjcfhmcdaaPileM
import Derived.Test.YtgmbicjcfhmcdaaJoin
import Derived.Test.YtgmbicjcfhmcdaaPathsP
set_option linter.unusedVariables false
set_option linter.unusedSimpArgs false
/-! The names of a list, sorted, each once. Plain lemmas. -/
namespace Go.Proofs.Ytgmbicjcfhmcdaa
def sortL (ss : List (List UInt8)) : List (List UInt8) := ss.mergeSort fun x y => decide (x ≤ y)
theorem le_tr (a b c : List UInt8) (h1 : decide (a ≤ b) = true) (h2 : decide (b ≤ c) = true) : decide (a ≤ c) = true := by
  simp only [decide_eq_true_eq] at *
  exact List.le_trans h1 h2
theorem le_to (a b : List UInt8) : (decide (a ≤ b) || decide (b ≤ a)) = true := by
  simp only [Bool.or_eq_true, decide_eq_true_eq]
  exact List.le_total a b
theorem sortL_perm (ss : List (List UInt8)) : (sortL ss).Perm ss := List.mergeSort_perm _ _
theorem sortL_sorted (ss : List (List UInt8)) : (sortL ss).Pairwise fun a b => decide (a ≤ b) = true := List.pairwise_mergeSort le_tr le_to ss
theorem length_sortL (ss : List (List UInt8)) : (sortL ss).length = ss.length := (sortL_perm ss).length_eq
end Go.Proofs.Ytgmbicjcfhmcdaa
/-! A list that may be, its root's kids and their parts. Plain lemmas. -/
namespace Go.Proofs.Ytgmbicjcfhmcdaa
end Go.Proofs.Ytgmbicjcfhmcdaa
/-! The stack of paths.own: plain lemmas. -/
namespace Go.Proofs.Ytgmbicjcfhmcdaa
abbrev zs (xs : List Nat) : List Int := xs.map fun x : Nat => (x : Int)
end Go.Proofs.Ytgmbicjcfhmcdaa
