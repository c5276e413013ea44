/- Trees whose lists are one have one shape. -/
import Derived.Test.YtkhhjihbahdepaaPathsP
set_option linter.unusedVariables false
set_option linter.unusedSimpArgs false
namespace Go.Proofs.Ytkhhjihbahdepaa
/-- Two trees of one shape, kind by kind. -/
def ShapeT : Tr → Tr → Prop
  | .leaf h, .leaf h' => h.kind = h'.kind
  | .un h a, .un h' a' => h.kind = h'.kind ∧ ShapeT a a'
  | .bin h a b, .bin h' a' b' => h.kind = h'.kind ∧ ShapeT a a' ∧ ShapeT b b'
  | _, _ => False
theorem shape_of_flat : ∀ (s t : Tr) (o : Nat), s.flat o = t.flat o → ShapeT s t
  | .leaf h, .leaf h', o, e => by
    simp only [Tr.flat, List.cons.injEq, and_true] at e
    have h1 := congrArg Nd.kind e
    exact h1
  | .leaf h, .un h' a', o, e => by
    have h1 := congrArg List.length e
    have := a'.size_pos
    simp [Tr.flat, Tr.length_flat] at h1; omega
  | .leaf h, .bin h' a' b', o, e => by
    have h1 := congrArg List.length e
    have := a'.size_pos
    simp [Tr.flat, Tr.length_flat] at h1; omega
  | .un h a, .leaf h', o, e => by
    have h1 := congrArg List.length e
    have := a.size_pos
    simp [Tr.flat, Tr.length_flat] at h1; omega
  | .bin h a b, .leaf h', o, e => by
    have h1 := congrArg List.length e
    have := a.size_pos
    simp [Tr.flat, Tr.length_flat] at h1; omega
  | .un h a, .un h' a', o, e => by
    simp only [Tr.flat] at e
    obtain ⟨h1, h2⟩ := List.append_inj' e rfl
    simp only [List.cons.injEq, and_true] at h2
    have h9 := congrArg Nd.kind h2
    exact ⟨h9, shape_of_flat a a' o h1⟩
  | .un h a, .bin h' a' b', o, e => by
    simp only [Tr.flat] at e
    obtain ⟨h1, h2⟩ := List.append_inj' e rfl
    simp only [List.cons.injEq, and_true] at h2
    have h3 := congrArg Nd.kids h2
    simp at h3
  | .bin h a b, .un h' a', o, e => by
    simp only [Tr.flat] at e
    obtain ⟨h1, h2⟩ := List.append_inj' e rfl
    simp only [List.cons.injEq, and_true] at h2
    have h3 := congrArg Nd.kids h2
    simp at h3
  | .bin h a b, .bin h' a' b', o, e => by
    simp only [Tr.flat] at e
    obtain ⟨h1, h2⟩ := List.append_inj' e rfl
    simp only [List.cons.injEq, and_true] at h2
    have h3 := congrArg Nd.kids h2
    simp only [List.cons.injEq, and_true] at h3
    have hsz : a.size = a'.size := by omega
    obtain ⟨h4, h5⟩ := List.append_inj h1 (by rw [Tr.length_flat, Tr.length_flat, hsz])
    rw [hsz] at h5
    have h9 := congrArg Nd.kind h2
    exact ⟨h9, shape_of_flat a a' o h4, shape_of_flat b b' _ h5⟩
theorem shape_tests : ∀ {s t : Tr}, ShapeT s t → testsT s = testsT t
  | .leaf _, .leaf _, _ => rfl
  | .un h a, .un h' a', e => by simp [testsT, e.1, shape_tests e.2]
  | .bin h a b, .bin h' a' b', e => by simp [testsT, shape_tests e.2.1, shape_tests e.2.2]
theorem shape_reach (n : Nat) (v : Nat → Nat → Bool) : ∀ {s t : Tr} (k : Nat), ShapeT s t → reachT n v s k = reachT n v t k
  | .leaf _, .leaf _, _, _ => rfl
  | .un h a, .un h' a', k, e => by simp [reachT, e.1, shape_reach n v k e.2]
  | .bin h a b, .bin h' a' b', k, e => by simp [reachT, e.1, shape_reach n v k e.2.1, shape_reach n v (k + testsT a') e.2.2, shape_tests e.2.1]
/-- What is read out of a tree's list reaches what the tree reaches. -/
theorem reach_of_flat {l : List Nd} {s t : Tr} (h : treeS l = some s) (e : l = t.flat 0) (n : Nat) (v : Nat → Nat → Bool) (k : Nat) : reachT n v s k = reachT n v t k :=
  shape_reach n v k (shape_of_flat s t 0 (by rw [← tree_flat h, e]))
/-! ### Steps one behind the other -/
def nd18 : Nd := ⟨18, ⟨#[]⟩, 0, 0, []⟩
def nd21 : Nd := ⟨21, ⟨#[]⟩, 0, 0, []⟩
def nd22 : Nd := ⟨22, ⟨#[]⟩, 0, 0, []⟩
/-- So many steps and one. -/
def seqT : Nat → Tr
  | 0 => .leaf nd18
  | p + 1 => .bin nd21 (seqT p) (.leaf nd18)
def manyT : Tr := .un nd22 (.leaf nd18)
theorem size_seq : ∀ p, (seqT p).size = 2 * p + 1
  | 0 => rfl
  | p + 1 => by simp [seqT, Tr.size, size_seq p]; omega
theorem seq_reach (n : Nat) (v : Nat → Nat → Bool) : ∀ (p k : Nat), EqM n (reachT n v (seqT p) k) (fun i j => decide (i + (p + 1) = j))
  | 0, k => fun i j _ _ => by simp [seqT, reachT, stepM]
  | p + 1, k => fun i j hi hj => by
    have ih := seq_reach n v p k
    rw [Bool.eq_iff_iff]
    show reachT n v (.bin nd21 (seqT p) (.leaf nd18)) k i j = true ↔ _
    have e : reachT n v (.bin nd21 (seqT p) (.leaf nd18)) k = prodM n (reachT n v (seqT p) k) stepM := rfl
    rw [e, prodM_iff]
    constructor
    · rintro ⟨x, hx, h1, h2⟩
      rw [ih i x hi hx] at h1
      simp [stepM] at h1 h2 ⊢
      omega
    · intro h
      simp at h
      refine ⟨i + (p + 1), by omega, ?_, ?_⟩
      · rw [ih i _ hi (by omega)]; simp
      · simp [stepM]; omega
theorem star_step (n : Nat) : EqM n (starM n stepM) (fun i j => decide (i ≤ j)) := fun i j hi hj => by
  rw [Bool.eq_iff_iff, star_iff step_fw hi hj]
  simp only [decide_eq_true_eq]
  constructor
  · rintro ⟨k, h⟩
    exact (pw_short step_fw k hi h).1
  · intro h
    refine ⟨j - i, ?_⟩
    generalize hd : j - i = d
    induction d generalizing i with
    | zero => exact pw_zero.2 (by omega)
    | succ d ih => exact pw_succ.2 ⟨i + 1, by omega, refl_iff.2 (.inr (by simp [stepM])), ih (i + 1) (by omega) (by omega) (by omega)⟩
theorem any_reach (n : Nat) (v : Nat → Nat → Bool) (p : Nat) : EqM n (reachT n v (.bin nd21 (seqT p) manyT) 0) (fun i j => decide (i + (p + 1) ≤ j)) := fun i j hi hj => by
  have e : reachT n v (.bin nd21 (seqT p) manyT) 0 = prodM n (reachT n v (seqT p) 0) (starM n stepM) := rfl
  have h1 := seq_reach n v p 0
  have h2 := star_step n
  rw [Bool.eq_iff_iff, e, prodM_iff]
  constructor
  · rintro ⟨x, hx, h3, h4⟩
    rw [h1 i x hi hx] at h3
    rw [h2 x j hx hj] at h4
    simp at h3 h4 ⊢
    omega
  · intro h
    simp at h
    refine ⟨i + (p + 1), by omega, ?_, ?_⟩
    · rw [h1 i _ hi (by omega)]; simp
    · rw [h2 _ j (by omega) hj]; simp; exact h
end Go.Proofs.Ytkhhjihbahdepaa
