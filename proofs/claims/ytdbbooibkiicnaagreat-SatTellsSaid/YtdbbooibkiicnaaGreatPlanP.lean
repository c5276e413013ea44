/- What can be passed, what is first, what is ahead, of a regular expression: plain definitions and lemmas, no program in sight. -/
import Derived.Test.YtdbbooibkiicnaaGreatTurnS
import Derived.Test.YtdbbooibkiicnaaGreatOwnP
set_option linter.unusedVariables false
set_option linter.unusedSimpArgs false
/-! What can be passed, what is first, what is ahead, of a regular expression: plain definitions and lemmas, no program in sight. -/
namespace Go.Proofs.YtdbbooibkiicnaaGreat
/-! Tests hold by functions z q x: test number q at assignment x. -/
abbrev Fst := List (Nat × (Nat → Bool))
/-! ### One assignment alone -/
/-! ### Places: does a node belong to the expression, and from which test and step on? -/
/-! ### The node above -/
theorem kid_un {t : Tr} {i : Nat} (hi : i < t.size) {h : Nd} {a : Tr} (hx : t.sub i = .un h a) : a.size ≤ i ∧ t.sub (i - 1) = a ∧ ∀ j, j < a.size → t.sub (i - a.size + j) = a.sub j := by
  have h1 := Tr.sub_size_le t i hi
  rw [hx] at h1
  simp only [Tr.size] at h1
  have hp := a.size_pos
  have h2 : ∀ j, j < a.size → t.sub (i - a.size + j) = a.sub j := fun j hj => by
    have := Tr.sub_sub t i j hi (by rw [hx]; simp only [Tr.size]; omega)
    rw [hx, sub_un, if_pos hj] at this
    rw [← this]
    congr 1
    simp only [Tr.size]
    omega
  refine ⟨by omega, ?_, h2⟩
  have := h2 (a.size - 1) (by omega)
  rw [show i - a.size + (a.size - 1) = i - 1 by omega, Tr.sub_root] at this
  exact this
theorem kid_bin {t : Tr} {i : Nat} (hi : i < t.size) {h : Nd} {a b : Tr} (hx : t.sub i = .bin h a b) : a.size + b.size ≤ i ∧ t.sub (i - 1) = b ∧ t.sub (i - 1 - b.size) = a := by
  have h1 := Tr.sub_size_le t i hi
  rw [hx] at h1
  simp only [Tr.size] at h1
  have hp := a.size_pos
  have hq := b.size_pos
  have h2 : ∀ j, j < a.size + b.size → t.sub (i - (a.size + b.size) + j) = (Tr.bin h a b).sub j := fun j hj => by
    have := Tr.sub_sub t i j hi (by rw [hx]; simp only [Tr.size]; omega)
    rw [hx] at this
    rw [← this]
    congr 1
    simp only [Tr.size]
    omega
  refine ⟨by omega, ?_, ?_⟩
  · have := h2 (a.size + b.size - 1) (by omega)
    rw [show i - (a.size + b.size) + (a.size + b.size - 1) = i - 1 by omega, sub_bin, if_neg (by omega), if_pos (by omega), show a.size + b.size - 1 - a.size = b.size - 1 by omega, Tr.sub_root] at this
    exact this
  · have := h2 (a.size - 1) (by omega)
    rw [show i - (a.size + b.size) + (a.size - 1) = i - 1 - b.size by omega, sub_bin, if_pos (by omega), Tr.sub_root] at this
    exact this
end Go.Proofs.YtdbbooibkiicnaaGreat
/-! The tables of a plan in the making: plain lemmas. -/
namespace Go.Proofs.YtdbbooibkiicnaaGreat
theorem testTr_un' : ∀ (t : Tr) (x : Tr), x ∈ testTr t → ∃ h f, x = .un h f ∧ h.kind = 19
  | .leaf _, x, h => by simp [testTr] at h
  | .un h a, x, hx => by
    by_cases h1 : h.kind = 19
    · simp [testTr, h1] at hx; exact ⟨h, a, hx, h1⟩
    · simp only [testTr, h1, if_false] at hx; exact testTr_un' a x hx
  | .bin h a b, x, hx => by
    simp only [testTr, List.mem_append] at hx
    rcases hx with hx | hx
    · exact testTr_un' a x hx
    · exact testTr_un' b x hx
end Go.Proofs.YtdbbooibkiicnaaGreat
