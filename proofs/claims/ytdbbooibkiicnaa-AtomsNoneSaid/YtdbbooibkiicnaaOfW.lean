/- Tables of Booleans in memory. -/
import Derived.Test.YtdbbooibkiicnaaPathsP
import Derived.Test.YtdbbooibkiicnaaMem
import Derived.Deep.RegionWith
import Derived.BigQuiet
import Derived.Deep.QuietTactic
import Derived.Test.YtdbbooibkiicnaaRPart
import Derived.Test.YtdbbooibkiicnaaMay
import Derived.Test.YtdbbooibkiicnaaOwn
import Derived.Test.YtdbbooibkiicnaaTab1
import Derived.Deep.RegionHeld3
import Derived.Deep.DeepCutAuto
import Derived.Test.YtdbbooibkiicnaaPileM
import Derived.Test.YtdbbooibkiicnaaApp
set_option linter.unusedVariables false
set_option linter.unusedSimpArgs false
/-! Tables of Booleans in memory. -/
namespace Go.Proofs.Ytdbbooibkiicnaa
open Go.RowKit
def rowV (n : Nat) (r : Nat → Bool) : Array Value := ((List.range n).map fun j => Value.bool (r j)).toArray
def colV (g n : Nat) : Array Value := ((List.range n).map fun i => Value.slice (some ⟨g + 1 + i, 0, none⟩) n n).toArray
/-- A table of n rows: the rows' slices in block g, row i in block g + 1 + i. -/
def SqF (F : Fz) (g n : Nat) (m : Mx) : Prop := F g = some (.cells (colV g n) 46 (0, 0)) ∧ ∀ i, i < n → F (g + 1 + i) = some (.cells (rowV n (m i)) 4 (0, 0))
theorem size_rowV (n : Nat) (r : Nat → Bool) : (rowV n r).size = n := by simp [rowV]
theorem get_rowV {n : Nat} {r : Nat → Bool} {j : Nat} (hj : j < n) : (rowV n r)[j]? = some (.bool (r j)) := by simp [rowV, hj]
theorem rowV_congr {n : Nat} {r r' : Nat → Bool} (h : ∀ j, j < n → r j = r' j) : rowV n r = rowV n r' := by
  unfold rowV
  congr 1
  exact List.map_congr_left fun j hj => by rw [h j (by simpa using hj)]
theorem set_rowV {n : Nat} {r r' : Nat → Bool} {j : Nat} {b : Bool} (h : ∀ q, q < n → r' q = if q = j then b else r q) : (rowV n r).setIfInBounds j (.bool b) = rowV n r' := by
  apply Array.ext_getElem?
  intro q
  rw [Array.getElem?_setIfInBounds]
  by_cases hq : q < n
  · rw [get_rowV hq, get_rowV hq, h q hq, size_rowV]
    by_cases e : j = q
    · subst e; simp [hq]
    · rw [if_neg e, if_neg (fun x => e x.symm)]
  · have h1 : (rowV n r)[q]? = none := Array.getElem?_eq_none (by rw [size_rowV]; omega)
    have h2 : (rowV n r')[q]? = none := Array.getElem?_eq_none (by rw [size_rowV]; omega)
    rw [h1, h2, size_rowV]
    split
    · rename_i e; subst e; rw [if_neg hq]
    · rfl
namespace SqF
variable {F F' : Fz} {g n : Nat} {m m' : Mx} {w w' : World}
theorem cle (h : SqF F g n m) (hle : ∀ b o, F b = some o → F' b = some o) : SqF F' g n m := ⟨hle _ _ h.1, fun i hi => hle _ _ (h.2 i hi)⟩
theorem mono (h : SqF F g n m) (hle : Fle w F F') : SqF F' g n m := h.cle hle.1
theorem congr (h : SqF F g n m) (e : EqM n m m') : SqF F g n m' := ⟨h.1, fun i hi => by rw [h.2 i hi, rowV_congr fun j hj => e i j hi hj]⟩
theorem lt (h : SqF (heapF w) g n m) : g < w.heap.size := (Array.getElem?_eq_some_iff.1 h.1).1
theorem row (h : SqF (heapF w) g n m) {i : Nat} (hi : i < n) : Blk w (g + 1 + i) 4 (rowV n (m i)) := h.2 i hi
theorem lt' (h : SqF (heapF w) g n m) {i : Nat} (hi : i < n) : g + 1 + i < w.heap.size := (h.row hi).lt
theorem call (h : SqF (heapF w) g n m) (hb : Below w.heap.size w w') : SqF (heapF w') g n m := ⟨(hb.block g h.lt).trans h.1, fun i hi => (hb.block _ (h.lt' hi)).trans (h.2 i hi)⟩
theorem alloc (h : SqF (heapF w) g n m) (o : Obj) : SqF (heapF (w.alloc o)) g n m := h.call (balloc _ _)
theorem below {B : Nat} (h : SqF (heapF w) g n m) (hb : Below B w w') (hg : g + n < B) : SqF (heapF w') g n m := ⟨(hb.block g (by omega)).trans h.1, fun i hi => (hb.block _ (by omega)).trans (h.2 i hi)⟩
theorem grown {q : Nat} (h : SqF (heapF w) g n m) (hb : w.grownBy w' (some q)) (hq : q < g ∨ g + n < q) : SqF (heapF w') g n m :=
  ⟨(hb.block g h.lt (by intro e; injection e with e; omega)).trans h.1, fun i hi => (hb.block _ (h.lt' hi) (by intro e; injection e with e; omega)).trans (h.2 i hi)⟩
theorem soft (h : SqF (heapF w) g n m) {i : Nat} (hi : i < n) (j : Nat) : w.frozen? ⟨g + 1 + i, j, none⟩ = false := (h.row hi).frozen j
theorem store (h : SqF (heapF w) g n m) {i : Nat} (hi : i < n) (j : Nat) (b : Bool) (e : ∀ p q, p < n → q < n → m' p q = if p = i ∧ q = j then b else m p q) : SqF (heapF (w.setCell ⟨g + 1 + i, j, none⟩ (.bool b))) g n m' := by
  have hB : Blk w g 46 (colV g n) := h.1
  refine ⟨hB.far (p := ⟨g + 1 + i, j, none⟩) (by show g ≠ g + 1 + i; omega) _, fun p hp => ?_⟩
  by_cases hpi : p = i
  · subst hpi
    have := (h.row hp).set_ j (.bool b)
    rw [set_rowV (r' := m' p) fun q hq => by rw [e p q hp hq]; simp] at this
    exact this
  · have := (h.row hp).far (p := ⟨g + 1 + i, j, none⟩) (by show g + 1 + p ≠ g + 1 + i; omega) (.bool b)
    rw [rowV_congr (r' := m' p) fun q hq => by rw [e p q hp hq, if_neg (by omega)]] at this
    exact this
theorem rd (h : SqF F g n m) {i : Nat} (hi : i < n) : Rd F 1 (some ⟨g + 1 + i, 0, none⟩) n ((List.range n).map fun j => Value.bool (m i j)) := by
  refine ⟨by simp, fun _ => ⟨_, rfl, fun j u hu => ?_⟩⟩
  rw [add_lit0]
  unfold Fz.cell
  rw [show F (⟨g + 1 + i, j, none⟩ : Addr).block = _ from h.2 i hi]
  simpa [rowV] using hu
end SqF
end Go.Proofs.Ytdbbooibkiicnaa
/-! The walks of the functions on tables of Booleans. -/
namespace Go.Proofs.Ytdbbooibkiicnaa
open Go.RowKit
end Go.Proofs.Ytdbbooibkiicnaa
/-! The walk of paths.closure. -/
namespace Go.Proofs.Ytdbbooibkiicnaa
open Go.RowKit
end Go.Proofs.Ytdbbooibkiicnaa
/-! The walk of the reference's product. -/
namespace Go.Proofs.Ytdbbooibkiicnaa
open Go.RowKit
end Go.Proofs.Ytdbbooibkiicnaa
/-! The walks of the reference's Form, Reg, Plain, Same. -/
/-! The walks of the reference's Form, Reg, Plain, Same. -/
namespace Go.Proofs.Ytdbbooibkiicnaa
open Go.RowKit

end Go.Proofs.Ytdbbooibkiicnaa
/-! The walks of the reference's inside, places, Tests, Steps, number. -/
namespace Go.Proofs.Ytdbbooibkiicnaa
open Go.RowKit
end Go.Proofs.Ytdbbooibkiicnaa
/-! The walk of the reference's reach, kind by kind. -/
/-! The walk of the reference's reach, kind by kind. -/
namespace Go.Proofs.Ytdbbooibkiicnaa
open Go.RowKit
theorem SqF.far {w : World} {g n : Nat} {m : Mx} (h : SqF (heapF w) g n m) {p : Addr} {u : Value} (hp : p.block < g ∨ g + n < p.block) : SqF (heapF (w.setCell p u)) g n m :=
  ⟨(Below.heap_setCell w p u g (by omega)).trans h.1, fun i hi => (Below.heap_setCell w p u _ (by omega)).trans (h.2 i hi)⟩
end Go.Proofs.Ytdbbooibkiicnaa
/-! The walk of the reference's reach at a test. -/
namespace Go.Proofs.Ytdbbooibkiicnaa
open Go.RowKit
end Go.Proofs.Ytdbbooibkiicnaa
/-! The walk of the reference's reach at a union. -/
namespace Go.Proofs.Ytdbbooibkiicnaa
open Go.RowKit
end Go.Proofs.Ytdbbooibkiicnaa
/-! The walk of the reference's reach at a sequence. -/
namespace Go.Proofs.Ytdbbooibkiicnaa
open Go.RowKit
end Go.Proofs.Ytdbbooibkiicnaa
/-! The walk of the reference's reach at a closure. -/
namespace Go.Proofs.Ytdbbooibkiicnaa
open Go.RowKit
end Go.Proofs.Ytdbbooibkiicnaa
/-! The reference's reach over a whole tree, and its Reach. -/
namespace Go.Proofs.Ytdbbooibkiicnaa
open Go.RowKit
theorem RdR.cle {F F' : Fz} {A : Option Addr} {n : Nat} {gs : List (List (BitVec 64))} (h : RdR F A n gs) (hle : CLe F F') : RdR F' A n gs :=
  ⟨h.1, fun i hi => let ⟨ad, Ai, ni, ci, e, h1, h2⟩ := h.2 i hi; ⟨ad, Ai, ni, ci, e, hle _ _ h1, h2.1, fun h0 => let ⟨a, e2, h3⟩ := h2.2 h0; ⟨a, e2, fun j u hu => hle _ _ (h3 j u hu)⟩⟩⟩
end Go.Proofs.Ytdbbooibkiicnaa
/-! The walks of the reference's functions on sets by words: Trim, Of, List, Cut. -/
/-! The walks of the reference's functions on sets by words: Trim, Of, List, Cut. -/
namespace Go.Proofs.Ytdbbooibkiicnaa
open Go.RowKit
attribute [local go_sem ↓] bits_and bits_or not_bits arith_add arith_sub shift_l shift_r shift_lu shift_ru shift_int conv_uu shift_l1 shift_l1u bits_and1 arith_sub1
attribute [local go_sem] uz_toNat uz_nonneg
theorem bit_take {fs : List (BitVec 64)} {k : Nat} (h : ∀ j, k ≤ j → fs.getD j 0#64 = 0#64) (q : Nat) : bitAt (fs.take k) q = bitAt fs q := by
  unfold bitAt
  by_cases hq : q / 64 < k
  · rw [List.getD, List.getElem?_take_of_lt hq]; rfl
  · rw [h (q / 64) (by omega), List.getD, List.getElem?_eq_none (by simp; omega)]; simp
theorem bit_set {ws : List (BitVec 64)} {x : Nat} (hx : x / 64 < ws.length) (q : Nat) : bitAt (ws.set (x / 64) (ws.getD (x / 64) 0#64 ||| 1#64 <<< (x % 64))) q = (bitAt ws q || q == x) := by
  unfold bitAt
  by_cases h : q / 64 = x / 64
  · rw [h, List.getD, List.getElem?_set_self (by exact hx)]
    simp only [Option.getD_some, BitVec.getLsbD_or, BitVec.getLsbD_shiftLeft]
    rw [show (q == x) = decide (q % 64 = x % 64) from by rw [Bool.eq_iff_iff, beq_iff_eq, decide_eq_true_eq]; omega]
    congr 1
    rw [Bool.eq_iff_iff]
    simp only [Bool.and_eq_true, decide_eq_true_eq, Bool.not_eq_true', decide_eq_false_iff_not, BitVec.getLsbD_one]
    omega
  · have e : (ws.set (x / 64) (ws.getD (x / 64) 0#64 ||| 1#64 <<< (x % 64))).getD (q / 64) 0#64 = ws.getD (q / 64) 0#64 := by
      rw [List.getD, List.getElem?_set_ne (fun e => h e.symm)]; rfl
    rw [e, show (q == x) = false from by rw [beq_eq_false_iff_ne]; intro e; exact h (by rw [e]), Bool.or_false]
end Go.Proofs.Ytdbbooibkiicnaa
