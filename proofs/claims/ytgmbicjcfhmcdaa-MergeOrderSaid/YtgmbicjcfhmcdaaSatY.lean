/- The walks of sat's closures: what a kid says, and what is not so. -/
import Derived.Test.YtgmbicjcfhmcdaaSatM
import Derived.Laws.EntriesVeiled
set_option linter.unusedVariables false
set_option linter.unusedSimpArgs false
/-! The walks of sat's closures: what a kid says, and what is not so. -/
namespace Go.Proofs.Ytgmbicjcfhmcdaa
open Go.RowKit
/-- A row of Booleans, frozen. -/
def RowF (F : Fz) (g n : Nat) (r : Nat → Bool) : Prop := F g = some (.cells (rowV n r) 4 (0, 0))
theorem RowF.cell {F : Fz} {g n : Nat} {r : Nat → Bool} (h : RowF F g n r) {j : Nat} (hj : j < n) : F.cell ⟨g, j, none⟩ = some (.bool (r j)) := by
  unfold RowF at h
  unfold Fz.cell
  rw [h]
  show (rowV n r)[j]? = _
  exact get_rowV hj
/-- What of memory a node's kid says: x's box in gb, the node's in gn, the table at in ga; kid number k is node q, and its row r stands in block g. -/
structure KidF (F : Fz) (gx gb gn ga N : Nat) (ak : Addr) (nk ck : Nat) (k q g n : Nat) (r : Nat → Bool) : Prop where
  b0 : F.cell ⟨gb, 0, none⟩ = some (.pointer (some ⟨gx, 0, none⟩))
  x3 : F.cell ⟨gx, 3, none⟩ = some (.slice (some ⟨ga, 0, none⟩) N N)
  n4 : F.cell ⟨gn, 4, none⟩ = some (.slice (some ak) nk ck)
  kk : k < nk
  kd : F.cell (ak.add k) = some (.int .i64 (q : Nat))
  qN : q < N
  at_ : F.cell ⟨ga, q, none⟩ = some (.slice (some ⟨g, 0, none⟩) n n)
  row : RowF F g n r
end Go.Proofs.Ytgmbicjcfhmcdaa
/-! The walk of sat's near. -/
namespace Go.Proofs.Ytgmbicjcfhmcdaa
open Go.RowKit
end Go.Proofs.Ytgmbicjcfhmcdaa
/-! The walks of sat's temporal logic. -/
namespace Go.Proofs.Ytgmbicjcfhmcdaa
open Go.RowKit
theorem TruF.cle {F F' : Fz} {gx : Nat} {An : Option Addr} {nn cn : Nat} {Ae : Option Addr} {ne ce : Nat} {es : List Evt} (h : TruF F gx An nn cn Ae ne ce es) (hle : CLe F F') : TruF F' gx An nn cn Ae ne ce es := ⟨hle _ _ h.t0, hle _ _ h.t1, h.evs.cle hle⟩
theorem KidF.mono {F F' : Fz} {gx gb gn ga N : Nat} {ak : Addr} {nk ck k q g n : Nat} {r : Nat → Bool} (h : KidF F gx gb gn ga N ak nk ck k q g n r) (hle : CLe F F') (hb : ∀ b o, F b = some o → F' b = some o) : KidF F' gx gb gn ga N ak nk ck k q g n r :=
  ⟨hle _ _ h.b0, hle _ _ h.x3, hle _ _ h.n4, h.kk, hle _ _ h.kd, h.qN, hle _ _ h.at_, hb _ _ h.row⟩
theorem KidF.heap {F : Fz} {w : World} {gx gb gn ga N : Nat} {ak : Addr} {nk ck k q g n : Nat} {r : Nat → Bool} (h : KidF F gx gb gn ga N ak nk ck k q g n r) (hF : Sat F w) : KidF (heapF w) gx gb gn ga N ak nk ck k q g n r := h.mono hF.cle (fun b o e => hF b o e)
end Go.Proofs.Ytgmbicjcfhmcdaa
/-! The walks of sat's logic. -/
namespace Go.Proofs.Ytgmbicjcfhmcdaa
open Go.RowKit
end Go.Proofs.Ytgmbicjcfhmcdaa
/-! The walks of sat's match: what a point says by the ways. -/
namespace Go.Proofs.Ytgmbicjcfhmcdaa
open Go.RowKit
/-- The ways lie in memory: the variable in gw, the table in gs. -/
structure WayF (F : Fz) (gw gs ne : Nat) (m : Mx) : Prop where
  w0 : F.cell ⟨gw, 0, none⟩ = some (.slice (some ⟨gs, 0, none⟩) ne ne)
  rows : ∀ i, i < ne → F.cell ⟨gs, i, none⟩ = some (.slice (some ⟨gs + 1 + i, 0, none⟩) ne ne)
  vals : ∀ i j, i < ne → j < ne → F.cell ⟨gs + 1 + i, j, none⟩ = some (.bool (m i j))
theorem WayF.cle {F F' : Fz} {gw gs ne : Nat} {m : Mx} (h : WayF F gw gs ne m) (hle : CLe F F') : WayF F' gw gs ne m := ⟨hle _ _ h.w0, fun i hi => hle _ _ (h.rows i hi), fun i j hi hj => hle _ _ (h.vals i j hi hj)⟩
end Go.Proofs.Ytgmbicjcfhmcdaa
/-! The walks of sat's time and logic: closures are made, and fill goes over the points. -/
namespace Go.Proofs.Ytgmbicjcfhmcdaa
open Go.RowKit
/-- A row of Booleans of the call's own comes back. -/
def RetRow (w : World) (ne : Nat) (r : Nat → Bool) (e : Ending) (w' : World) : Prop := ∃ g, e = .returned (.slice (some ⟨g, 0, none⟩) ne ne) ∧ Below w.heap.size w w' ∧ w.heap.size ≤ g ∧ Blk w' g 4 (rowV ne r)
theorem blk3n (w : World) (o o' : Obj) (t : TypeId) (cs : Array Value) : Blk (((w.alloc o).alloc o').alloc (.cells cs t)) (w.heap.size + 1 + 1) t cs := by
  have h := Blk.new ((w.alloc o).alloc o') t cs
  have e : ((w.alloc o).alloc o').heap.size = w.heap.size + 1 + 1 := by simp
  rwa [e] at h
theorem blk4n (w : World) (o o' o'' : Obj) (t : TypeId) (cs : Array Value) : Blk ((((w.alloc o).alloc o').alloc o'').alloc (.cells cs t)) (w.heap.size + 1 + 1 + 1) t cs := by
  have h := Blk.new (((w.alloc o).alloc o').alloc o'') t cs
  have e : (((w.alloc o).alloc o').alloc o'').heap.size = w.heap.size + 1 + 1 + 1 := by simp
  rwa [e] at h
end Go.Proofs.Ytgmbicjcfhmcdaa
/-! The walk of sat's match, over what ways gives. -/
namespace Go.Proofs.Ytgmbicjcfhmcdaa
open Go.RowKit
end Go.Proofs.Ytgmbicjcfhmcdaa
