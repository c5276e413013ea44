/- Trees whose lists are one have one shape. -/
import Derived.Test.YtdohbbjinbofbaaGreatPathsP
set_option linter.unusedVariables false
set_option linter.unusedSimpArgs false
namespace Go.Proofs.YtdohbbjinbofbaaGreat
/-- Two trees of one shape, kind by kind. -/
def ShapeT : Tr → Tr → Prop
  | .leaf h, .leaf h' => h.kind = h'.kind
  | .un h a, .un h' a' => h.kind = h'.kind ∧ ShapeT a a'
  | .bin h a b, .bin h' a' b' => h.kind = h'.kind ∧ ShapeT a a' ∧ ShapeT b b'
  | _, _ => False
theorem shape_of_flat : ∀ (s t : Tr) (o : Nat), s.flat o = t.flat o → ShapeT s t
  | .leaf h, .leaf h', o, e => by
    simp only [Tr.flat, List.cons.injEq, and_true] at e
    have h1 := congrArg Nd.kind e
    exact h1
  | .leaf h, .un h' a', o, e => by
    have h1 := congrArg List.length e
    have := a'.size_pos
    simp [Tr.flat, Tr.length_flat] at h1; omega
  | .leaf h, .bin h' a' b', o, e => by
    have h1 := congrArg List.length e
    have := a'.size_pos
    simp [Tr.flat, Tr.length_flat] at h1; omega
  | .un h a, .leaf h', o, e => by
    have h1 := congrArg List.length e
    have := a.size_pos
    simp [Tr.flat, Tr.length_flat] at h1; omega
  | .bin h a b, .leaf h', o, e => by
    have h1 := congrArg List.length e
    have := a.size_pos
    simp [Tr.flat, Tr.length_flat] at h1; omega
  | .un h a, .un h' a', o, e => by
    simp only [Tr.flat] at e
    obtain ⟨h1, h2⟩ := List.append_inj' e rfl
    simp only [List.cons.injEq, and_true] at h2
    have h9 := congrArg Nd.kind h2
    exact ⟨h9, shape_of_flat a a' o h1⟩
  | .un h a, .bin h' a' b', o, e => by
    simp only [Tr.flat] at e
    obtain ⟨h1, h2⟩ := List.append_inj' e rfl
    simp only [List.cons.injEq, and_true] at h2
    have h3 := congrArg Nd.kids h2
    simp at h3
  | .bin h a b, .un h' a', o, e => by
    simp only [Tr.flat] at e
    obtain ⟨h1, h2⟩ := List.append_inj' e rfl
    simp only [List.cons.injEq, and_true] at h2
    have h3 := congrArg Nd.kids h2
    simp at h3
  | .bin h a b, .bin h' a' b', o, e => by
    simp only [Tr.flat] at e
    obtain ⟨h1, h2⟩ := List.append_inj' e rfl
    simp only [List.cons.injEq, and_true] at h2
    have h3 := congrArg Nd.kids h2
    simp only [List.cons.injEq, and_true] at h3
    have hsz : a.size = a'.size := by omega
    obtain ⟨h4, h5⟩ := List.append_inj h1 (by rw [Tr.length_flat, Tr.length_flat, hsz])
    rw [hsz] at h5
    have h9 := congrArg Nd.kind h2
    exact ⟨h9, shape_of_flat a a' o h4, shape_of_flat b b' _ h5⟩
theorem shape_tests : ∀ {s t : Tr}, ShapeT s t → testsT s = testsT t
  | .leaf _, .leaf _, _ => rfl
  | .un h a, .un h' a', e => by simp [testsT, e.1, shape_tests e.2]
  | .bin h a b, .bin h' a' b', e => by simp [testsT, shape_tests e.2.1, shape_tests e.2.2]
theorem shape_reach (n : Nat) (v : Nat → Nat → Bool) : ∀ {s t : Tr} (k : Nat), ShapeT s t → reachT n v s k = reachT n v t k
  | .leaf _, .leaf _, _, _ => rfl
  | .un h a, .un h' a', k, e => by simp [reachT, e.1, shape_reach n v k e.2]
  | .bin h a b, .bin h' a' b', k, e => by simp [reachT, e.1, shape_reach n v k e.2.1, shape_reach n v (k + testsT a') e.2.2, shape_tests e.2.1]
/-- What is read out of a tree's list reaches what the tree reaches. -/
theorem reach_of_flat {l : List Nd} {s t : Tr} (h : treeS l = some s) (e : l = t.flat 0) (n : Nat) (v : Nat → Nat → Bool) (k : Nat) : reachT n v s k = reachT n v t k :=
  shape_reach n v k (shape_of_flat s t 0 (by rw [← tree_flat h, e]))
end Go.Proofs.YtdohbbjinbofbaaGreat
