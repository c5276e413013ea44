/- A trace that came in, opened. -/
import Derived.Test.YtgmbicjcfhmcdaaRowN
import Derived.Test.YtgmbicjcfhmcdaaSatM
set_option linter.unusedVariables false
set_option linter.unusedSimpArgs false
namespace Go.Proofs.Ytgmbicjcfhmcdaa
open Go.ChangeShapes Go.WideShapes Go.ChangeAt Go.RowKit
section
variable {H : Type} {enc : TypeId × Value → H}
theorem cells_u64 : Try.prog.cellsOf 28 = 1 := by kernel_rfl
theorem ofU64 {z : Int} (h : (Lit.int .u64 z).wf = true) : 0 ≤ z ∧ z < 18446744073709551616 := by
  simp [Lit.wf, IntKind.min, IntKind.max, IntKind.signed, IntKind.bits] at h
  omega
/-- A list picked one by one. -/
theorem pick_list {α : Type} {P : Nat → α → Prop} : ∀ {k : Nat}, (∀ i, i < k → ∃ x, P i x) → ∃ l : List α, l.length = k ∧ ∀ i (h : i < l.length), P i l[i]
  | 0, _ => ⟨[], rfl, fun i hi => absurd hi (by simp)⟩
  | k + 1, h => by
    obtain ⟨l, hl, hg⟩ := pick_list (k := k) (fun i hi => h i (by omega))
    obtain ⟨x, hx⟩ := h k (by omega)
    refine ⟨l ++ [x], by simp [hl], fun i hi => ?_⟩
    rcases Nat.lt_or_ge i k with hlt | hge
    · rw [List.getElem_append_left (by omega)]
      exact hg i (by omega)
    · obtain rfl : i = k := by simp at hi; omega
      have e : (l ++ [x])[i] = x := by rw [List.getElem_append_right (by omega)]; simp [hl]
      rw [e]
      exact hx
end
end Go.Proofs.Ytgmbicjcfhmcdaa
