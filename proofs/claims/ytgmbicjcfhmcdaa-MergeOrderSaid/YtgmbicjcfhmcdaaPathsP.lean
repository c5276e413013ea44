/- What a regular expression reaches: plain definitions and lemmas, no program in sight. -/
import Derived.Test.YtgmbicjcfhmcdaaTreeP
set_option linter.unusedVariables false
set_option linter.unusedSimpArgs false
namespace Go.Proofs.Ytgmbicjcfhmcdaa
abbrev Mx := Nat → Nat → Bool
def prodM (n : Nat) (a b : Mx) : Mx := fun i j => (List.range n).any fun k => a i k && b k j
def orM (a b : Mx) : Mx := fun i j => a i j || b i j
def idM : Mx := fun i j => decide (i = j)
def pwM (n : Nat) (a : Mx) : Nat → Mx
  | 0 => idM
  | k + 1 => prodM n a (pwM n a k)
def reflM (a : Mx) : Mx := orM idM a
def starM (n : Nat) (a : Mx) : Mx := pwM n (reflM a) n
/-- Ways go forwards. -/
def FwM (a : Mx) : Prop := ∀ i j, a i j = true → i ≤ j
/-! ### What a tree reaches -/
def stepM : Mx := fun i j => decide (i + 1 = j)
def testM (v : Nat → Nat → Bool) (k : Nat) : Mx := fun i j => decide (i = j) && v i k
/-! ### The entries of a tree's own nodes -/
/-- An own node: its place, whether it is a test, its table. -/
structure Ent where
  at_ : Nat
  test : Bool
  m : Mx
/-- What an own node's table is made of, of the nodes l, behind the entries es. -/
def EntOk (n : Nat) (v : Nat → Nat → Bool) (l : List Nd) (k : Nat) (es : List Ent) (e : Ent) : Prop :=
  ∃ nd, l[e.at_]? = some nd ∧ e.test = decide (nd.kind = 19) ∧
    ((nd.kind = 18 ∧ e.m = stepM) ∨ (nd.kind = 19 ∧ e.m = testM v (k + es.countP Ent.test)) ∨
     (nd.kind = 20 ∧ ∃ a b, a ∈ es ∧ b ∈ es ∧ nd.kids = [(a.at_ : Int), (b.at_ : Int)] ∧ e.m = orM a.m b.m) ∨
     (nd.kind = 21 ∧ ∃ a b, a ∈ es ∧ b ∈ es ∧ nd.kids = [(a.at_ : Int), (b.at_ : Int)] ∧ e.m = prodM n a.m b.m) ∨
     (nd.kind = 22 ∧ ∃ a, a ∈ es ∧ nd.kids = [(a.at_ : Int)] ∧ e.m = starM n a.m ∧ FwM a.m))
theorem EntOk.more {n : Nat} {v : Nat → Nat → Bool} {l : List Nd} {k : Nat} {es : List Ent} {e : Ent} (pre : List Ent) (k' : Nat) (h : EntOk n v l k es e) (hk : k = k' + pre.countP Ent.test) : EntOk n v l k' (pre ++ es) e := by
  obtain ⟨nd, h1, h2, h3⟩ := h
  refine ⟨nd, h1, h2, ?_⟩
  rcases h3 with h3 | ⟨h3, h4⟩ | ⟨h3, a, b, ha, hb, h4⟩ | ⟨h3, a, b, ha, hb, h4⟩ | ⟨h3, a, ha, h4⟩
  · exact .inl h3
  · exact .inr (.inl ⟨h3, by rw [h4, List.countP_append, hk, Nat.add_assoc]⟩)
  · exact .inr (.inr (.inl ⟨h3, a, b, by simp [ha], by simp [hb], h4⟩))
  · exact .inr (.inr (.inr (.inl ⟨h3, a, b, by simp [ha], by simp [hb], h4⟩)))
  · exact .inr (.inr (.inr (.inr ⟨h3, a, by simp [ha], h4⟩)))
/-- Each entry is made of those before it. -/
def AllOk (n : Nat) (v : Nat → Nat → Bool) (l : List Nd) (k : Nat) (es : List Ent) : Prop := ∀ es1 e es2, es = es1 ++ e :: es2 → EntOk n v l k es1 e
theorem AllOk.append {n : Nat} {v : Nat → Nat → Bool} {l : List Nd} {k k2 : Nat} {es es' : List Ent} (h : AllOk n v l k es) (h' : AllOk n v l k2 es') (hk : k2 = k + es.countP Ent.test) : AllOk n v l k (es ++ es') := by
  intro es1 x es2 h2
  rcases List.append_eq_append_iff.1 h2 with ⟨c, h3, h4⟩ | ⟨c, h3, h4⟩
  · subst h3
    exact (h' c x es2 h4).more es k hk
  · cases c with
    | nil =>
      simp at h3 h4
      rw [← h3]
      have := (h' [] x es2 (by rw [← h4]; rfl)).more es k hk
      simpa using this
    | cons y c =>
      injection h4 with h4 h5
      subst h4
      exact h es1 _ c h3
/-! ### The own nodes as the document tells them: within no test -/
/-- The places of the tests. -/
def testsL : Tr → Nat → List Nat
  | .leaf _, _ => []
  | .un h a, o => if h.kind = 19 then [o + a.size] else testsL a o
  | .bin _ a b, o => testsL a o ++ testsL b (o + a.size)
/-! ### What tests say, and where the points lie -/
end Go.Proofs.Ytgmbicjcfhmcdaa
