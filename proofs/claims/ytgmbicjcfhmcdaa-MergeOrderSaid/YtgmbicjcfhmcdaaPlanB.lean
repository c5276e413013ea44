/- Small lemmas that both atoms' and sat's texts lean on. -/
import Derived.Test.YtgmbicjcfhmcdaaPlanM
import Derived.Test.YtgmbicjcfhmcdaaPlanP
import Derived.Test.YtgmbicjcfhmcdaaOwn
import Derived.Test.YtgmbicjcfhmcdaaBoundA
set_option linter.unusedVariables false
set_option linter.unusedSimpArgs false
namespace Go.Proofs.Ytgmbicjcfhmcdaa
open Go.RowKit
theorem rd_lt {w : World} {A : Option Addr} {n : Nat} {xs : List Value} (h : Rd (heapF w) 1 A n xs) (hn : 0 < n) : ∀ a, A = some a → a.block < w.heap.size := by
  intro a ha
  obtain ⟨ad, v, e, _, hc⟩ := h.at1 hn
  rw [ha] at e
  injection e with e
  subst e
  have := (sat_heapF w).clt hc
  rwa [block_of_add] at this
theorem rd_call {w w' : World} {n : Nat} {A : Option Addr} {xs : List Value} (h : Rd (heapF w) 1 A n xs) (hb : Below w.heap.size w w') : Rd (heapF w') 1 A n xs := h.heap ((sat_heapF w).below hb)
end Go.Proofs.Ytgmbicjcfhmcdaa
