/- The walks of sat's logic. -/
import Derived.Test.YtgmbicjcfhmcdaaSatT
import Derived.Laws.EntriesVeiled
set_option linter.unusedVariables false
set_option linter.unusedSimpArgs false
/-! The walks of sat's logic. -/
namespace Go.Proofs.Ytgmbicjcfhmcdaa
open Go.RowKit
end Go.Proofs.Ytgmbicjcfhmcdaa
/-! The walks of sat's match: what a point says by the ways. -/
namespace Go.Proofs.Ytgmbicjcfhmcdaa
open Go.RowKit
/-- The ways lie in memory: the variable in gw, the table in gs. -/
structure WayF (F : Fz) (gw gs ne : Nat) (m : Mx) : Prop where
  w0 : F.cell ⟨gw, 0, none⟩ = some (.slice (some ⟨gs, 0, none⟩) ne ne)
  rows : ∀ i, i < ne → F.cell ⟨gs, i, none⟩ = some (.slice (some ⟨gs + 1 + i, 0, none⟩) ne ne)
  vals : ∀ i j, i < ne → j < ne → F.cell ⟨gs + 1 + i, j, none⟩ = some (.bool (m i j))
theorem WayF.cle {F F' : Fz} {gw gs ne : Nat} {m : Mx} (h : WayF F gw gs ne m) (hle : CLe F F') : WayF F' gw gs ne m := ⟨hle _ _ h.w0, fun i hi => hle _ _ (h.rows i hi), fun i j hi hj => hle _ _ (h.vals i j hi hj)⟩
end Go.Proofs.Ytgmbicjcfhmcdaa
/-! The walks of sat's time and logic: closures are made, and fill goes over the points. -/
namespace Go.Proofs.Ytgmbicjcfhmcdaa
open Go.RowKit
/-- A row of Booleans of the call's own comes back. -/
def RetRow (w : World) (ne : Nat) (r : Nat → Bool) (e : Ending) (w' : World) : Prop := ∃ g, e = .returned (.slice (some ⟨g, 0, none⟩) ne ne) ∧ Below w.heap.size w w' ∧ w.heap.size ≤ g ∧ Blk w' g 4 (rowV ne r)
theorem blk3n (w : World) (o o' : Obj) (t : TypeId) (cs : Array Value) : Blk (((w.alloc o).alloc o').alloc (.cells cs t)) (w.heap.size + 1 + 1) t cs := by
  have h := Blk.new ((w.alloc o).alloc o') t cs
  have e : ((w.alloc o).alloc o').heap.size = w.heap.size + 1 + 1 := by simp
  rwa [e] at h
theorem blk4n (w : World) (o o' o'' : Obj) (t : TypeId) (cs : Array Value) : Blk ((((w.alloc o).alloc o').alloc o'').alloc (.cells cs t)) (w.heap.size + 1 + 1 + 1) t cs := by
  have h := Blk.new (((w.alloc o).alloc o').alloc o'') t cs
  have e : (((w.alloc o).alloc o').alloc o'').heap.size = w.heap.size + 1 + 1 + 1 := by simp
  rwa [e] at h
end Go.Proofs.Ytgmbicjcfhmcdaa
/-! The walk of sat's match, over what ways gives. -/
namespace Go.Proofs.Ytgmbicjcfhmcdaa
open Go.RowKit
end Go.Proofs.Ytgmbicjcfhmcdaa
