/- The walks of slices.Equal on ints, alike, EqualFunc, tree.Same, and of the reference's SameNodes. -/
import Derived.Test.YtdbbooibkiicnaaMay
set_option linter.unusedVariables false
set_option linter.unusedSimpArgs false
/-! The walks of slices.Equal on ints, alike, EqualFunc, tree.Same, and of the reference's SameNodes. -/
namespace Go.Proofs.Ytdbbooibkiicnaa
open Go.RowKit

theorem take_sameI {xs ys : List Int} {k : Nat} (h : xs.take k = ys.take k) (hx : k < xs.length) (hy : k < ys.length) (e : xs[k] = ys[k]) : xs.take (k + 1) = ys.take (k + 1) := by
  rw [List.take_succ_eq_append_getElem hx, List.take_succ_eq_append_getElem hy, h, e]
/-- Are two nodes alike? -/
def ndB (a b : Nd) : Bool := a.kind == b.kind && eqS a.name b.name && spEq a.lo a.hi b.lo b.hi && decide (a.kids = b.kids)
theorem ndB_iff (a b : Nd) : ndB a b = true ↔ a = b := by
  unfold ndB spEq
  obtain ⟨k, n, lo, hi, ks⟩ := a
  obtain ⟨k', n', lo', hi', ks'⟩ := b
  simp only [Bool.and_eq_true, beq_iff_eq, eqS_iff, decide_eq_true_eq, Nd.mk.injEq]
  constructor
  · rintro ⟨⟨⟨h1, h2⟩, h3, h4⟩, h5⟩; exact ⟨h1, h2, h3, h4, h5⟩
  · rintro ⟨h1, h2, h3, h4, h5⟩; exact ⟨⟨⟨h1, h2⟩, h3, h4⟩, h5⟩
attribute [local go_sem ↓] span_eq
end Go.Proofs.Ytdbbooibkiicnaa
/-! The walks of EqualFunc, tree.Same, and of the reference's SameNodes. -/
namespace Go.Proofs.Ytdbbooibkiicnaa
open Go.RowKit

theorem take_same_nd {xs ys : List Nd} {k : Nat} (h : xs.take k = ys.take k) (hx : k < xs.length) (hy : k < ys.length) (e : xs[k] = ys[k]) : xs.take (k + 1) = ys.take (k + 1) := by
  rw [List.take_succ_eq_append_getElem hx, List.take_succ_eq_append_getElem hy, h, e]
theorem kids_le_two {l : List Nd} (h : (treeS l).isSome = true) : ∀ x ∈ l, x.kids.length ≤ 2 := by
  obtain ⟨t, ht⟩ := Option.isSome_iff_exists.1 h
  rw [tree_flat ht]
  generalize 0 = o
  clear h ht
  induction t generalizing o with
  | leaf h => intro x hx; simp [Tr.flat] at hx; simp [hx]
  | un h a ih =>
    intro x hx
    simp only [Tr.flat, List.mem_append, List.mem_singleton] at hx
    rcases hx with hx | hx
    · exact ih _ x hx
    · simp [hx]
  | bin h a b ih ih2 =>
    intro x hx
    simp only [Tr.flat, List.mem_append, List.mem_singleton] at hx
    rcases hx with (hx | hx) | hx
    · exact ih _ x hx
    · exact ih2 _ x hx
    · simp [hx]
end Go.Proofs.Ytdbbooibkiicnaa
/-! The walk of the reference's SameNodes. -/
namespace Go.Proofs.Ytdbbooibkiicnaa
open Go.RowKit
attribute [local go_sem ↓] span_eq

theorem below_drew {B : Nat} {a w : World} (h : Below B a w) : Below B a w.drew := ⟨h.os, h.tape, h.output, h.size, h.block⟩
end Go.Proofs.Ytdbbooibkiicnaa
