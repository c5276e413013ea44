/- The walk of tree.Part. -/
import Derived.Test.YtgmbicjcfhmcdaaMoved
import Derived.Test.YtgmbicjcfhmcdaaTreeP
import Derived.Test.YtgmbicjcfhmcdaaSizes
import Derived.Test.YtgmbicjcfhmcdaaApp
import Derived.Deep.DeepCutAuto
import Derived.Deep.RegionWith
set_option linter.unusedVariables false
set_option linter.unusedSimpArgs false
/-! The walk of tree.Part. -/
namespace Go.Proofs.Ytgmbicjcfhmcdaa
open Go.RowKit
theorem RetN.from {F : Fz} {w w1 w' : World} {l : List Nd} {e : Ending} (h : RetN F w1 l e w') (hb : Below w.heap.size w w1) : RetN F w l e w' := by
  obtain ⟨A, c, F', h1, h2, h3, h4, h5, h6⟩ := h
  exact ⟨A, c, F', h1, h2, h3, bthen hb h4, h5, h6.old hb.size⟩
theorem KidsB.sub {l l' : List Nd} (h : KidsB l) (hs : ∀ n ∈ l', n ∈ l) : KidsB l' := fun n hn => h n (hs n hn)
end Go.Proofs.Ytgmbicjcfhmcdaa
/-! The walk of the reference's Start. -/
namespace Go.Proofs.Ytgmbicjcfhmcdaa
open Go.RowKit
end Go.Proofs.Ytgmbicjcfhmcdaa
namespace Go.Proofs.Ytgmbicjcfhmcdaa
open Go.RowKit
theorem Own.same {F : Fz} {w w' : World} {B : Nat} {e : TypeId} {size n : Nat} {v : Value} {xs : List Value} (h : Own F w B e size v n xs) (hs : ∀ g, v.ownBlock = some g → w'.heap[g]? = w.heap[g]?) : Own F w' B e size v n xs := by
  obtain ⟨⟨hl, h1⟩, h2⟩ := h
  refine ⟨⟨hl, ?_⟩, h2⟩
  rcases h1 with h1 | ⟨g, cap, cur, rfl, hg, hh, hc⟩
  · exact .inl h1
  · exact .inr ⟨g, cap, cur, rfl, hg, (hs g rfl).trans hh, hc⟩
theorem Own.shape {F : Fz} {w : World} {B : Nat} {e : TypeId} {size n : Nat} {v : Value} {xs : List Value} (h : Own F w B e size v n xs) : ∃ A c, v = .slice A n c ∧ n ≤ c := by
  obtain ⟨A, c, h1, h2, _⟩ := h.rdH
  exact ⟨A, c, h1, h2⟩
/-- Two rows of the call's own lie in two blocks. -/
def Apart (o t : Value) : Prop := ∀ g, o.ownBlock = some g → t.ownBlock ≠ some g
theorem Apart.symm {o t : Value} (h : Apart o t) : Apart t o := fun g h1 h2 => h g h2 h1
theorem Apart.or {o t : Value} (h : Apart o t) : t.ownBlock = none ∨ t.ownBlock ≠ o.ownBlock := by
  cases e : o.ownBlock with
  | none =>
    cases e2 : t.ownBlock with
    | none => exact .inl rfl
    | some g => exact .inr (by simp)
  | some g => exact .inr (h g e)
theorem Apart.push {o t o' : Value} {S : Nat} (h : Apart o t) (ht : ∀ g, t.ownBlock = some g → g < S) (hat : o'.ownBlock = o.ownBlock ∨ o'.ownBlock = some S) : Apart o' t := by
  intro g hg
  rcases hat with e | e
  · exact h g (by rw [← e]; exact hg)
  · rw [hg] at e
    injection e with e
    intro h2
    have := ht g h2
    omega
end Go.Proofs.Ytgmbicjcfhmcdaa
/-! The walk of the reference's May. -/
namespace Go.Proofs.Ytgmbicjcfhmcdaa
open Go.RowKit

theorem Rd.next {w w' : World} {size n : Nat} {A : Option Addr} {xs : List Value} (h : Rd (heapF w) size A n xs) (hb : Below w.heap.size w w') : Rd (heapF w') size A n xs := h.heap ((sat_heapF w).below hb)
end Go.Proofs.Ytgmbicjcfhmcdaa
/-! The walk of the reference's Part. -/
namespace Go.Proofs.Ytgmbicjcfhmcdaa
open Go.RowKit
end Go.Proofs.Ytgmbicjcfhmcdaa
/-! What a node over some lists is. Plain lemmas. -/
namespace Go.Proofs.Ytgmbicjcfhmcdaa
end Go.Proofs.Ytgmbicjcfhmcdaa
/-! The walk of tree.Join. -/
namespace Go.Proofs.Ytgmbicjcfhmcdaa
open Go.RowKit
/-- A list of lists of nodes, all frozen. -/
def RowsN (F : Fz) (A : Option Addr) (k : Nat) (ls : List (List Nd)) : Prop :=
  ls.length = k ∧ (0 < k → ∃ ad, A = some ad ∧ ∀ i (h : i < ls.length), ∃ Ai ci, F.cell (ad.add i) = some (.slice Ai ls[i].length ci) ∧ ls[i].length ≤ ci ∧ NodesF F Ai ls[i].length ls[i])
theorem RowsN.cle {F F' : Fz} {A : Option Addr} {k : Nat} {ls : List (List Nd)} (h : RowsN F A k ls) (hle : CLe F F') : RowsN F' A k ls :=
  ⟨h.1, fun hk => let ⟨ad, e, hc⟩ := h.2 hk; ⟨ad, e, fun i hi => let ⟨Ai, ci, h1, h2, h3⟩ := hc i hi; ⟨Ai, ci, hle _ _ h1, h2, h3.cle hle⟩⟩⟩
end Go.Proofs.Ytgmbicjcfhmcdaa
