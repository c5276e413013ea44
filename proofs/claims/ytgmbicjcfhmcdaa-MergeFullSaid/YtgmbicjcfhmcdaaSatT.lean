/- The walks of sat's closures: what a kid says, and what is not so. -/
import Derived.Test.YtgmbicjcfhmcdaaSatM
set_option linter.unusedVariables false
set_option linter.unusedSimpArgs false
/-! The walks of sat's closures: what a kid says, and what is not so. -/
namespace Go.Proofs.Ytgmbicjcfhmcdaa
open Go.RowKit
/-- A row of Booleans, frozen. -/
def RowF (F : Fz) (g n : Nat) (r : Nat → Bool) : Prop := F g = some (.cells (rowV n r) 4 (0, 0))
theorem RowF.cell {F : Fz} {g n : Nat} {r : Nat → Bool} (h : RowF F g n r) {j : Nat} (hj : j < n) : F.cell ⟨g, j, none⟩ = some (.bool (r j)) := by
  unfold RowF at h
  unfold Fz.cell
  rw [h]
  show (rowV n r)[j]? = _
  exact get_rowV hj
/-- What of memory a node's kid says: x's box in gb, the node's in gn, the table at in ga; kid number k is node q, and its row r stands in block g. -/
structure KidF (F : Fz) (gx gb gn ga N : Nat) (ak : Addr) (nk ck : Nat) (k q g n : Nat) (r : Nat → Bool) : Prop where
  b0 : F.cell ⟨gb, 0, none⟩ = some (.pointer (some ⟨gx, 0, none⟩))
  x3 : F.cell ⟨gx, 3, none⟩ = some (.slice (some ⟨ga, 0, none⟩) N N)
  n4 : F.cell ⟨gn, 4, none⟩ = some (.slice (some ak) nk ck)
  kk : k < nk
  kd : F.cell (ak.add k) = some (.int .i64 (q : Nat))
  qN : q < N
  at_ : F.cell ⟨ga, q, none⟩ = some (.slice (some ⟨g, 0, none⟩) n n)
  row : RowF F g n r
end Go.Proofs.Ytgmbicjcfhmcdaa
/-! The walk of sat's near. -/
namespace Go.Proofs.Ytgmbicjcfhmcdaa
open Go.RowKit
end Go.Proofs.Ytgmbicjcfhmcdaa
/-! The walks of sat's temporal logic. -/
namespace Go.Proofs.Ytgmbicjcfhmcdaa
open Go.RowKit
theorem TruF.cle {F F' : Fz} {gx : Nat} {An : Option Addr} {nn cn : Nat} {Ae : Option Addr} {ne ce : Nat} {es : List Evt} (h : TruF F gx An nn cn Ae ne ce es) (hle : CLe F F') : TruF F' gx An nn cn Ae ne ce es := ⟨hle _ _ h.t0, hle _ _ h.t1, h.evs.cle hle⟩
theorem KidF.mono {F F' : Fz} {gx gb gn ga N : Nat} {ak : Addr} {nk ck k q g n : Nat} {r : Nat → Bool} (h : KidF F gx gb gn ga N ak nk ck k q g n r) (hle : CLe F F') (hb : ∀ b o, F b = some o → F' b = some o) : KidF F' gx gb gn ga N ak nk ck k q g n r :=
  ⟨hle _ _ h.b0, hle _ _ h.x3, hle _ _ h.n4, h.kk, hle _ _ h.kd, h.qN, hle _ _ h.at_, hb _ _ h.row⟩
theorem KidF.heap {F : Fz} {w : World} {gx gb gn ga N : Nat} {ak : Addr} {nk ck k q g n : Nat} {r : Nat → Bool} (h : KidF F gx gb gn ga N ak nk ck k q g n r) (hF : Sat F w) : KidF (heapF w) gx gb gn ga N ak nk ck k q g n r := h.mono hF.cle (fun b o e => hF b o e)
end Go.Proofs.Ytgmbicjcfhmcdaa
