/- What is kept at most: plain definitions and lemmas, no program in sight. -/
import Derived.Test.YtdbbooibkiicnaaGreatTurnS
import Derived.Test.YtdbbooibkiicnaaGreatOwn
import Derived.Test.YtdbbooibkiicnaaGreatPart
import Derived.Test.YtdbbooibkiicnaaGreatPileM
import Derived.Deep.RegionLaw
import Derived.Deep.RegionHeld3
set_option linter.unusedVariables false
set_option linter.unusedSimpArgs false
/-! What is kept at most: plain definitions and lemmas, no program in sight. -/
namespace Go.Proofs.YtdbbooibkiicnaaGreat
theorem shape_testsL : ∀ {s t : Tr} (o : Nat), ShapeT s t → s.size = t.size → testsL s o = testsL t o
  | .leaf _, .leaf _, _, _, _ => rfl
  | .un h a, .un h' a', o, e, hs => by
    simp only [Tr.size] at hs
    have := shape_testsL o e.2 (by omega)
    simp [testsL, e.1, this, show a.size = a'.size by omega]
  | .bin h a b, .bin h' a' b', o, e, hs => by
    have h1 := shape_size e.2.1
    have h2 := shape_size e.2.2
    simp only [testsL]
    rw [shape_testsL o e.2.1 h1, h1, shape_testsL _ e.2.2 h2]
where shape_size : ∀ {s t : Tr}, ShapeT s t → s.size = t.size
  | .leaf _, .leaf _, _ => rfl
  | .un h a, .un h' a', e => by simp [Tr.size, shape_size e.2]
  | .bin h a b, .bin h' a' b', e => by simp [Tr.size, shape_size e.2.1, shape_size e.2.2]
end Go.Proofs.YtdbbooibkiicnaaGreat
/-! The walks of ival.Wide and of the bound's small functions. -/
namespace Go.Proofs.YtdbbooibkiicnaaGreat
open Go.RowKit
theorem blkA {w : World} {g : Nat} {t : TypeId} {a b : Value} (h : Blk w g t #[a, b]) : w.cell? ⟨g, 0, none⟩ = some a ∧ w.cell? ⟨g, 1, none⟩ = some b ∧ w.frozen? ⟨g, 0, none⟩ = false ∧ w.frozen? ⟨g, 1, none⟩ = false := by
  refine ⟨?_, ?_, h.frozen 0, h.frozen 1⟩ <;> rw [h.cell] <;> rfl
theorem wrap_i {n : Int} (h1 : -9223372036854775808 ≤ n) (h2 : n < 9223372036854775808) : IntKind.i64.wrap n = n := by
  simp [IntKind.wrap, IntKind.bits, IntKind.signed]
  omega
abbrev encU (k : Nat) : Value := .int .u64 (k : Int)
/-! ### The sums -/
end Go.Proofs.YtdbbooibkiicnaaGreat
/-! The walks of bound.of and bound.over. -/
/-! bound.of. -/
namespace Go.Proofs.YtdbbooibkiicnaaGreat
open Go.RowKit
end Go.Proofs.YtdbbooibkiicnaaGreat
/-! The walk of bound.over, whatever it is handed. -/
namespace Go.Proofs.YtdbbooibkiicnaaGreat
open Go.RowKit
theorem sub_bin_kids {t : Tr} {i : Nat} (hi : i < t.size) {h : Nd} {a b : Tr} (hx : t.sub i = .bin h a b) : a.size + b.size ≤ i ∧ t.sub (i - 1) = b ∧ t.sub (i - 1 - b.size) = a := by
  have h1 := Tr.sub_size_le t i hi
  rw [hx] at h1
  simp only [Tr.size] at h1
  have hp := a.size_pos
  have hq := b.size_pos
  have h2 : ∀ j, j < a.size + b.size → t.sub (i - (a.size + b.size) + j) = (Tr.bin h a b).sub j := fun j hj => by
    have := Tr.sub_sub t i j hi (by rw [hx]; simp only [Tr.size]; omega)
    rw [hx] at this
    rw [← this]
    congr 1
    simp only [Tr.size]
    omega
  refine ⟨by omega, ?_, ?_⟩
  · have := h2 (a.size + b.size - 1) (by omega)
    rw [show i - (a.size + b.size) + (a.size + b.size - 1) = i - 1 by omega, sub_bin, if_neg (by omega), if_pos (by omega), show a.size + b.size - 1 - a.size = b.size - 1 by omega, Tr.sub_root] at this
    exact this
  · have := h2 (a.size - 1) (by omega)
    rw [show i - (a.size + b.size) + (a.size - 1) = i - 1 - b.size by omega, sub_bin, if_pos (by omega), Tr.sub_root] at this
    exact this
theorem get_flat_root {l : List Nd} {t : Tr} (ht : treeS l = some t) (i : Nat) (hi : i < l.length) : l[i] = { (t.sub i).root with kids := (t.sub i).rootKids (i + 1 - (t.sub i).size) } := by
  have h1 := Tr.get_flat t i 0 (by rw [← tree_len ht]; exact hi)
  rw [← tree_flat ht, List.getElem?_eq_getElem hi, Nat.zero_add] at h1
  injection h1
end Go.Proofs.YtdbbooibkiicnaaGreat
/-! What stands below a node, summed up: plain lemmas. -/
/-! What stands below a node, summed up: plain lemmas. -/
namespace Go.Proofs.YtdbbooibkiicnaaGreat
end Go.Proofs.YtdbbooibkiicnaaGreat
/-! The walks of bound.Atoms and bound.Once. -/
namespace Go.Proofs.YtdbbooibkiicnaaGreat
open Go.RowKit
end Go.Proofs.YtdbbooibkiicnaaGreat
/-! The walk of Once's closure. -/
namespace Go.Proofs.YtdbbooibkiicnaaGreat
open Go.RowKit
end Go.Proofs.YtdbbooibkiicnaaGreat
/-! The walks of the closures that fill in what each node needs. -/
namespace Go.Proofs.YtdbbooibkiicnaaGreat
open Go.RowKit
theorem blkU_set {w : World} {g : Nat} {vs : List Nat} (h : Blk w g 44 (vs.map encU).toArray) (i x : Nat) : Blk (w.setCell ⟨g, i, none⟩ (encU x)) g 44 ((vs.set i x).map encU).toArray := by
  have := h.set_ i (encU x)
  rw [List.map_set, ← List.setIfInBounds_toArray]
  exact this
/-- What a closure finds: the values of each node up to here, and where they lie. -/
structure AtBn (w : World) (g gv n : Nat) (vs : List Nat) : Prop where
  len : vs.length = n
  at_ : Blk w g 44 (vs.map encU).toArray
  var : Blk w gv 33 #[.slice (some ⟨g, 0, none⟩) n n]
theorem AtBn.call {w w' : World} {g gv n : Nat} {vs : List Nat} (h : AtBn w g gv n vs) (hb : Below w.heap.size w w') : AtBn w' g gv n vs := ⟨h.len, h.at_.call hb, h.var.call hb⟩
theorem AtBn.drewN {w : World} {g gv n : Nat} {vs : List Nat} (h : AtBn w g gv n vs) (q : Nat) : AtBn (w.drewN q) g gv n vs := ⟨h.len, h.at_, h.var⟩
theorem AtBn.ne {w : World} {g gv n : Nat} {vs : List Nat} (h : AtBn w g gv n vs) : gv ≠ g := h.var.ne_ h.at_ (by decide)
theorem AtBn.set {w : World} {g gv n : Nat} {vs : List Nat} (h : AtBn w g gv n vs) (i x : Nat) : AtBn (w.setCell ⟨g, i, none⟩ (encU x)) g gv n (vs.set i x) := ⟨by rw [List.length_set]; exact h.len, blkU_set h.at_ i x, h.var.far (p := ⟨g, i, none⟩) h.ne (encU x)⟩
end Go.Proofs.YtdbbooibkiicnaaGreat
/-! The walk of Extra's closure. -/
namespace Go.Proofs.YtdbbooibkiicnaaGreat
open Go.RowKit
end Go.Proofs.YtdbbooibkiicnaaGreat
/-! The walks of the bound's functions. -/
/-! The walks of the bound's functions. -/
namespace Go.Proofs.YtdbbooibkiicnaaGreat
open Go.RowKit
end Go.Proofs.YtdbbooibkiicnaaGreat
/-! The walk of bound.Once. -/
namespace Go.Proofs.YtdbbooibkiicnaaGreat
open Go.RowKit
end Go.Proofs.YtdbbooibkiicnaaGreat
