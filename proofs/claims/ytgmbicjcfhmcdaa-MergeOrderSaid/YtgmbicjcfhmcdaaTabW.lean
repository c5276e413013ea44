/- The walks of table's functions that make memory. -/
import Derived.Test.YtgmbicjcfhmcdaaTab1
import Derived.Deep.RegionWith
set_option linter.unusedVariables false
set_option linter.unusedSimpArgs false
/-! The walks of table's functions that make memory. -/
namespace Go.Proofs.Ytgmbicjcfhmcdaa
open Go.RowKit
attribute [local go_sem ↓] bits_and bits_or not_bits arith_add arith_sub shift_l shift_r shift_lu shift_ru shift_int conv_uu shift_l1 shift_l1u bits_and1 arith_sub1
attribute [local go_sem] uz_toNat uz_nonneg

/-- Words are handed back, in a block of their own. -/
def RetO (w : World) (xs : List (BitVec 64)) (e : Ending) (w' : World) : Prop :=
  ∃ g c, e = .returned (.slice (some ⟨g, 0, none⟩) xs.length c) ∧ Below w.heap.size w w' ∧ w.heap.size ≤ g ∧ Blk w' g 28 (xs.map u).toArray

end Go.Proofs.Ytgmbicjcfhmcdaa
/-! The walks of And, Or, Yes, Atom, Same, Const. -/
namespace Go.Proofs.Ytgmbicjcfhmcdaa
open Go.RowKit
attribute [local go_sem ↓] bits_and bits_or not_bits arith_add arith_sub shift_l shift_r shift_lu shift_ru shift_int conv_uu shift_l1 shift_l1u bits_and1 arith_sub1 shift_rn and_one_n
attribute [local go_sem] uz_toNat uz_nonneg wrap_bit

end Go.Proofs.Ytgmbicjcfhmcdaa
/-! The walks of Put, Const; the references' Fun, Put, Const. -/
namespace Go.Proofs.Ytgmbicjcfhmcdaa
open Go.RowKit
attribute [local go_sem ↓] bits_and bits_or not_bits arith_add arith_sub shift_l shift_r shift_lu shift_ru shift_int conv_uu shift_l1 shift_l1u bits_and1 arith_sub1 shift_rn and_one_n
attribute [local go_sem] uz_toNat uz_nonneg wrap_bit

end Go.Proofs.Ytgmbicjcfhmcdaa
/-! The walks of Const, the reference's Const, and the law's small helpers. -/
namespace Go.Proofs.Ytgmbicjcfhmcdaa
open Go.RowKit
attribute [local go_sem ↓] bits_and bits_or not_bits arith_add arith_sub shift_l shift_r shift_lu shift_ru shift_int conv_uu shift_l1 shift_l1u bits_and1 arith_sub1 shift_rn and_one_n
attribute [local go_sem] uz_toNat uz_nonneg wrap_bit

end Go.Proofs.Ytgmbicjcfhmcdaa
/-! The law's wake-up call. -/
namespace Go.Proofs.Ytgmbicjcfhmcdaa
open Go.RowKit
attribute [local go_sem ↓] bits_and bits_or not_bits arith_add arith_sub shift_l shift_r shift_lu shift_ru shift_int conv_uu shift_l1 shift_l1u bits_and1 arith_sub1 shift_rn and_one_n
attribute [local go_sem] uz_toNat uz_nonneg wrap_bit

end Go.Proofs.Ytgmbicjcfhmcdaa
/-! The contracts once more, over values that read as functions of assignments. -/
namespace Go.Proofs.Ytgmbicjcfhmcdaa
open Go.RowKit

/-- The value v is words that tell p, of m atoms, frozen in F. -/
def WdF (m : Nat) (F : Fz) (v : Value) (p : Nat → Bool) : Prop :=
  ∃ (A : Option Addr) (n c : Nat) (fs : List (BitVec 64)), v = .slice A n c ∧ Rd F 1 A n (fs.map u) ∧ fs.length ≤ 1000 ∧ ∀ x, x < 2 ^ m → bitAt fs x = p x
/-- The value v is words that tell p, of m atoms. -/
abbrev Wd (m : Nat) (w : World) (v : Value) (p : Nat → Bool) : Prop := WdF m (heapF w) v p
theorem Rd.below {w w' : World} {size n : Nat} {A : Option Addr} {xs : List Value} (h : Rd (heapF w) size A n xs) (hb : Below w.heap.size w w') : Rd (heapF w') size A n xs := h.heap ((sat_heapF w).below hb)
theorem WdF.heap {m : Nat} {F : Fz} {w : World} {v : Value} {p : Nat → Bool} (h : WdF m F v p) (hF : Sat F w) : Wd m w v p :=
  let ⟨A, n, c, fs, e, hr, hl, hp⟩ := h
  ⟨A, n, c, fs, e, hr.heap hF, hl, hp⟩
theorem WdF.below {m : Nat} {w w' : World} {v : Value} {p : Nat → Bool} (h : Wd m w v p) (hb : Below w.heap.size w w') : Wd m w' v p := h.heap ((sat_heapF w).below hb)
theorem WdF.put {m : Nat} {F : Fz} {v : Value} {p : Nat → Bool} (h : WdF m F v p) {g : Nat} {o : Obj} (hg : F g = none) : WdF m (F.put g o) v p :=
  let ⟨A, n, c, fs, e, hr, hl, hp⟩ := h
  ⟨A, n, c, fs, e, hr.put hg, hl, hp⟩
theorem WdF.same {m : Nat} {F : Fz} {v : Value} {p q : Nat → Bool} (h : WdF m F v p) (e : ∀ x, x < 2 ^ m → p x = q x) : WdF m F v q :=
  let ⟨A, n, c, fs, e1, hr, hl, hp⟩ := h
  ⟨A, n, c, fs, e1, hr, hl, fun x hx => (hp x hx).trans (e x hx)⟩
/-- The same, with the block: it may be frozen beside whatever is. -/
def RetQ (m : Nat) (w : World) (p : Nat → Bool) (e : Ending) (w' : World) : Prop :=
  ∃ (A : Option Addr) (n c g : Nat) (o : Obj), e = .returned (.slice A n c) ∧ Below w.heap.size w w' ∧ w.heap.size ≤ g ∧ w'.heap[g]? = some o ∧ ∀ F : Fz, WdF m (F.put g o) (.slice A n c) p
/-! Functions in the places of atoms. -/
/-- The value v is a slice of words that tell ps, one by one. -/
def Rw (m : Nat) (w : World) (v : Value) (ps : List (Nat → Bool)) : Prop :=
  ∃ (A : Option Addr) (n c : Nat) (gs : List (List (BitVec 64))), v = .slice A n c ∧ RdR (heapF w) A n gs ∧ (∀ g ∈ gs, g.length ≤ 1000) ∧ gs.length = ps.length ∧ ∀ i x, x < 2 ^ m → bitAt (gs.getD i []) x = ps.getD i (fun _ => false) x
theorem RdR.below {w w' : World} {A : Option Addr} {n : Nat} {gs : List (List (BitVec 64))} (h : RdR (heapF w) A n gs) (hb : Below w.heap.size w w') : RdR (heapF w') A n gs :=
  ⟨h.1, fun i hi => let ⟨ad, Ai, ni, ci, e, h1, h2⟩ := h.2 i hi; ⟨ad, Ai, ni, ci, e, ((sat_heapF w).below hb).cell h1, h2.below hb⟩⟩
theorem Rw.below {m : Nat} {w w' : World} {v : Value} {ps : List (Nat → Bool)} (h : Rw m w v ps) (hb : Below w.heap.size w w') : Rw m w' v ps :=
  let ⟨A, n, c, gs, e, hr, hl, hn, hp⟩ := h
  ⟨A, n, c, gs, e, hr.below hb, hl, hn, hp⟩
theorem WdF.one {m : Nat} {F : Fz} {v : Value} {p : Nat → Bool} (h : WdF m F v p) : v.oneCell' = true := by
  obtain ⟨A, n, c, fs, rfl, _⟩ := h
  rfl
theorem Rw.row {m : Nat} {w : World} {C : Option Addr} {n c k : Nat} {ps : List (Nat → Bool)} (h : Rw m w (.slice C n c) ps) (hk : k < n) :
    ∃ (ad : Addr) (Ai : Option Addr) (ni ci : Nat), C = some ad ∧ w.cell? (ad.add k) = some (.slice Ai ni ci) ∧ Wd m w (.slice Ai ni ci) (ps.getD k fun _ => false) := by
  obtain ⟨A, n', c', gs, e, ⟨hn, hr⟩, hl, hlen, hp⟩ := h
  injection e with e1 e2 e3
  subst e1 e2 e3
  obtain ⟨ad, Ai, ni, ci, eA, hc, hrd⟩ := hr k (by omega)
  refine ⟨ad, Ai, ni, ci, eA, hc, Ai, ni, ci, gs.getD k [], rfl, hrd, ?_, fun x hx => hp k x hx⟩
  rw [List.getD, List.getElem?_eq_getElem (by omega)]
  exact hl _ (List.getElem_mem _)
section
variable {m : Nat} {F : Fz} {w w' : World} {g n : Nat} {q : Nat → Nat → Bool}
end
end Go.Proofs.Ytgmbicjcfhmcdaa
