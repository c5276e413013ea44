/- Tables of Booleans in memory. -/
import Derived.Test.YtgmbicjcfhmcdaaPathsP
import Derived.Test.YtgmbicjcfhmcdaaMem
import Derived.Deep.RegionWith
import Derived.BigQuiet
import Derived.Deep.QuietTactic
import Derived.Deep.RegionHeld3
import Derived.Test.YtgmbicjcfhmcdaaBoundA
import Derived.Test.YtgmbicjcfhmcdaaOwn
set_option linter.unusedVariables false
set_option linter.unusedSimpArgs false
/-! Tables of Booleans in memory. -/
namespace Go.Proofs.Ytgmbicjcfhmcdaa
open Go.RowKit
def rowV (n : Nat) (r : Nat → Bool) : Array Value := ((List.range n).map fun j => Value.bool (r j)).toArray
theorem get_rowV {n : Nat} {r : Nat → Bool} {j : Nat} (hj : j < n) : (rowV n r)[j]? = some (.bool (r j)) := by simp [rowV, hj]
theorem rowV_congr {n : Nat} {r r' : Nat → Bool} (h : ∀ j, j < n → r j = r' j) : rowV n r = rowV n r' := by
  unfold rowV
  congr 1
  exact List.map_congr_left fun j hj => by rw [h j (by simpa using hj)]
namespace SqF
variable {F F' : Fz} {g n : Nat} {m m' : Mx} {w w' : World}
end SqF
end Go.Proofs.Ytgmbicjcfhmcdaa
/-! The walks of the functions on tables of Booleans. -/
namespace Go.Proofs.Ytgmbicjcfhmcdaa
open Go.RowKit
end Go.Proofs.Ytgmbicjcfhmcdaa
/-! The walk of paths.closure. -/
namespace Go.Proofs.Ytgmbicjcfhmcdaa
open Go.RowKit
end Go.Proofs.Ytgmbicjcfhmcdaa
/-! The walk of the reference's product. -/
namespace Go.Proofs.Ytgmbicjcfhmcdaa
open Go.RowKit
end Go.Proofs.Ytgmbicjcfhmcdaa
/-! Truth over a whole trace: plain definitions and lemmas, no program in sight. -/
namespace Go.Proofs.Ytgmbicjcfhmcdaa
/-! ### Truth hangs on what is seen alone -/
end Go.Proofs.Ytgmbicjcfhmcdaa
/-! Traces in memory, and the walks of sat's small functions. -/
namespace Go.Proofs.Ytgmbicjcfhmcdaa
open Go.RowKit
/-- An event: its time, and the ids that hold. -/
structure Evt where
  time : Nat
  ids : List Int
/-- The slice at A of n events reads as es. -/
def EvsF (F : Fz) (A : Option Addr) (n : Nat) (es : List Evt) : Prop := es.length = n ∧ (0 < n → ∃ ad, A = some ad ∧ ∀ i (h : i < es.length), es[i].time < 18446744073709551616 ∧ ∃ Ai ci, es[i].ids.length ≤ ci ∧ Rd F 1 Ai es[i].ids.length (es[i].ids.map (Value.int .i64)) ∧ F.cell (ad.add (i * 2)) = some (.int .u64 (es[i].time : Nat)) ∧ F.cell ((ad.add (i * 2)).add 1) = some (.slice Ai es[i].ids.length ci))
theorem EvsF.cle {F F' : Fz} {A : Option Addr} {n : Nat} {es : List Evt} (h : EvsF F A n es) (hle : CLe F F') : EvsF F' A n es :=
  ⟨h.1, fun h0 => let ⟨ad, e, hh⟩ := h.2 h0; ⟨ad, e, fun i hi => let ⟨ht, Ai, ci, h1, h2, h3, h4⟩ := hh i hi; ⟨ht, Ai, ci, h1, h2.cle hle, hle _ _ h3, hle _ _ h4⟩⟩⟩
def timeE (es : List Evt) (i : Nat) : Nat := match es[i]? with | some e => e.time | none => 0
theorem EvsF.at_ {F : Fz} {A : Option Addr} {n : Nat} {es : List Evt} (h : EvsF F A n es) {i : Nat} (hi : i < n) : timeE es i < 18446744073709551616 ∧ ∃ ad, A = some ad ∧ F.cell (ad.add (i * 2)) = some (.int .u64 (timeE es i : Nat)) := by
  obtain ⟨ad, e, hh⟩ := h.2 (by omega)
  have hl : i < es.length := by have := h.1; omega
  obtain ⟨ht, Ai, ci, _, _, h3, _⟩ := hh i hl
  have e1 : timeE es i = es[i].time := by unfold timeE; rw [List.getElem?_eq_getElem hl]
  rw [e1]
  exact ⟨ht, ad, e, h3⟩
theorem wrap_u64 {n : Int} (h1 : 0 ≤ n) (h2 : n < 18446744073709551616) : IntKind.u64.wrap n = n := by
  simp [IntKind.wrap, IntKind.bits, IntKind.signed]
  omega
/-- A function value that tells b i of each point i. -/
def IsFn (F : Fz) (k : Nat) (cap : Array Value) (n : Nat) (b : Nat → Bool) : Prop := (∀ args w, (callFunc k args).run Try.prog w = .ok (.enter k args) w) ∧ ∀ X : World, Sat F X → ∀ i : Nat, i < n → Calls Try.prog k (#[.int .i64 (i : Nat)] ++ cap) X fun e X' => e = .returned (.bool (b i)) ∧ Below X.heap.size X X'
theorem IsFn.cle {F F' : Fz} {k : Nat} {cap : Array Value} {n : Nat} {b : Nat → Bool} (h : IsFn F k cap n b) (hs : ∀ X, Sat F' X → Sat F X) : IsFn F' k cap n b := ⟨h.1, fun X hX => h.2 X (hs X hX)⟩
/-- What stands in the block of a truth. -/
structure TruF (F : Fz) (gx : Nat) (An : Option Addr) (nn cn : Nat) (Ae : Option Addr) (ne ce : Nat) (es : List Evt) : Prop where
  t0 : F.cell ⟨gx, 0, none⟩ = some (.slice An nn cn)
  t1 : F.cell ⟨gx, 1, none⟩ = some (.slice Ae ne ce)
  evs : EvsF F Ae ne es
end Go.Proofs.Ytgmbicjcfhmcdaa
