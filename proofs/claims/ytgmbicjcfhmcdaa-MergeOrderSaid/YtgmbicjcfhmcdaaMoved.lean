/- The walk of slices.Clone on ints. -/
import Derived.Test.YtgmbicjcfhmcdaaNodes
import Derived.Test.YtgmbicjcfhmcdaaTreeP
set_option linter.unusedVariables false
set_option linter.unusedSimpArgs false
/-! The walk of slices.Clone on ints. -/
/-! The walk of slices.Clone on ints. -/
namespace Go.Proofs.Ytgmbicjcfhmcdaa
open Go.RowKit
end Go.Proofs.Ytgmbicjcfhmcdaa
/-! Rows of nodes that are made and then stored into; ints of the call's own that are turned in place. -/
namespace Go.Proofs.Ytgmbicjcfhmcdaa
open Go.RowKit

namespace NodesG
variable {F F' : Fz} {w w' : World} {g n : Nat} {l : List Nd}
end NodesG
/-- The ints of a slice that is the call's own, or empty. -/
def IntsB (F : Fz) (w : World) (B : Nat) (A : Option Addr) (ks : List Int) : Prop := 0 < ks.length → ∃ g, A = some ⟨g, 0, none⟩ ∧ B ≤ g ∧ F g = none ∧ BlkL w g 3 (ks.map (Value.int .i64))
namespace IntsB
variable {F F' : Fz} {w w' : World} {B : Nat} {A : Option Addr} {ks : List Int}
theorem call (h : IntsB F w B A ks) (hb : Below w.heap.size w w') : IntsB F w' B A ks := fun h0 => let ⟨g, h1, h2, h3, h4⟩ := h h0; ⟨g, h1, h2, h3, h4.call hb⟩
theorem alloc (h : IntsB F w B A ks) (o : Obj) : IntsB F (w.alloc o) B A ks := fun h0 => let ⟨g, h1, h2, h3, h4⟩ := h h0; ⟨g, h1, h2, h3, h4.alloc o⟩
theorem drewN (h : IntsB F w B A ks) (k : Nat) : IntsB F (w.drewN k) B A ks := h
theorem far (h : IntsB F w B A ks) {p : Addr} (hp : p.block < B) (u : Value) : IntsB F (w.setCell p u) B A ks := fun h0 => let ⟨g, h1, h2, h3, h4⟩ := h h0; ⟨g, h1, h2, h3, h4.far (by omega) u⟩
/-- They are frozen. -/
theorem freeze (h : IntsB F w B A ks) (hF : Sat F w) (w0 : World) (h0 : w0.heap.size ≤ B) : ∃ F', Sat F' w ∧ Fle w0 F F' ∧ Rd F' 1 A ks.length (ks.map (Value.int .i64)) ∧ ∀ b, b < B → F' b = F b := by
  rcases Nat.eq_zero_or_pos ks.length with hz | hz
  · obtain rfl := List.eq_nil_of_length_eq_zero hz
    exact ⟨F, hF, Fle.refl _ _, Rd.nil, fun _ _ => rfl⟩
  · obtain ⟨g, rfl, h2, h3, h4⟩ := h hz
    obtain ⟨o, h5, h6⟩ := h4.freeze hF (n := ks.length) (size := 1) (by simp)
    refine ⟨_, h5, Fle.put o h3 (by omega), h6, fun b hb => ?_⟩
    unfold Fz.put
    rw [if_neg (by omega)]
end IntsB
end Go.Proofs.Ytgmbicjcfhmcdaa
/-! The walk of tree.moved. -/
namespace Go.Proofs.Ytgmbicjcfhmcdaa
open Go.RowKit
/-- A list whose kids are small numbers. -/
def KidsB (l : List Nd) : Prop := ∀ n ∈ l, n.kids.length ≤ 2 ∧ ∀ k ∈ n.kids, -100000 ≤ k ∧ k ≤ 100000
end Go.Proofs.Ytgmbicjcfhmcdaa
