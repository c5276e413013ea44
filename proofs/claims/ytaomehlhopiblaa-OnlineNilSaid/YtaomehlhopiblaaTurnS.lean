/- Trees whose lists are one have one shape. -/
import Derived.Test.YtaomehlhopiblaaPathsP
import Derived.Test.YtaomehlhopiblaaOwnP
set_option linter.unusedVariables false
set_option linter.unusedSimpArgs false
/-! Trees whose lists are one have one shape. -/
namespace Go.Proofs.Ytaomehlhopiblaa
/-- Two trees of one shape, kind by kind. -/
def ShapeT : Tr → Tr → Prop
  | .leaf h, .leaf h' => h.kind = h'.kind
  | .un h a, .un h' a' => h.kind = h'.kind ∧ ShapeT a a'
  | .bin h a b, .bin h' a' b' => h.kind = h'.kind ∧ ShapeT a a' ∧ ShapeT b b'
  | _, _ => False
theorem shape_tests : ∀ {s t : Tr}, ShapeT s t → testsT s = testsT t
  | .leaf _, .leaf _, _ => rfl
  | .un h a, .un h' a', e => by simp [testsT, e.1, shape_tests e.2]
  | .bin h a b, .bin h' a' b', e => by simp [testsT, shape_tests e.2.1, shape_tests e.2.2]
end Go.Proofs.Ytaomehlhopiblaa
/-! Regular expressions turned round: plain definitions and lemmas, no program in sight. -/
/-! Regular expressions turned round: plain definitions and lemmas, no program in sight. -/
namespace Go.Proofs.Ytaomehlhopiblaa
end Go.Proofs.Ytaomehlhopiblaa
/-! Lists of regular expressions turned round: plain definitions and lemmas. -/
namespace Go.Proofs.Ytaomehlhopiblaa
/-- Two trees that have one list. -/
def EqT : Tr → Tr → Prop
  | .leaf h, .leaf h' => ({ h with kids := [] } : Nd) = { h' with kids := [] }
  | .un h a, .un h' a' => ({ h with kids := [] } : Nd) = { h' with kids := [] } ∧ EqT a a'
  | .bin h a b, .bin h' a' b' => ({ h with kids := [] } : Nd) = { h' with kids := [] } ∧ EqT a a' ∧ EqT b b'
  | _, _ => False
theorem nd_kids {h h' : Nd} {k k' : List Int} (e : ({ h with kids := k } : Nd) = { h' with kids := k' }) (j : List Int) : ({ h with kids := j } : Nd) = { h' with kids := j } := by
  have h1 := congrArg Nd.kind e
  have h2 := congrArg Nd.name e
  have h3 := congrArg Nd.lo e
  have h4 := congrArg Nd.hi e
  simp only at h1 h2 h3 h4
  rw [h1, h2, h3, h4]
theorem eq_of_flat : ∀ (s t : Tr) (o : Nat), s.flat o = t.flat o → EqT s t
  | .leaf h, .leaf h', o, e => by
    simp only [Tr.flat, List.cons.injEq, and_true] at e
    exact nd_kids e []
  | .leaf h, .un h' a', o, e => by
    have h1 := congrArg List.length e
    have := a'.size_pos
    simp [Tr.flat, Tr.length_flat] at h1; omega
  | .leaf h, .bin h' a' b', o, e => by
    have h1 := congrArg List.length e
    have := a'.size_pos
    simp [Tr.flat, Tr.length_flat] at h1; omega
  | .un h a, .leaf h', o, e => by
    have h1 := congrArg List.length e
    have := a.size_pos
    simp [Tr.flat, Tr.length_flat] at h1; omega
  | .bin h a b, .leaf h', o, e => by
    have h1 := congrArg List.length e
    have := a.size_pos
    simp [Tr.flat, Tr.length_flat] at h1; omega
  | .un h a, .un h' a', o, e => by
    simp only [Tr.flat] at e
    obtain ⟨h1, h2⟩ := List.append_inj' e rfl
    simp only [List.cons.injEq, and_true] at h2
    exact ⟨nd_kids h2 [], eq_of_flat a a' o h1⟩
  | .un h a, .bin h' a' b', o, e => by
    simp only [Tr.flat] at e
    obtain ⟨h1, h2⟩ := List.append_inj' e rfl
    simp only [List.cons.injEq, and_true] at h2
    have h3 := congrArg Nd.kids h2
    simp at h3
  | .bin h a b, .un h' a', o, e => by
    simp only [Tr.flat] at e
    obtain ⟨h1, h2⟩ := List.append_inj' e rfl
    simp only [List.cons.injEq, and_true] at h2
    have h3 := congrArg Nd.kids h2
    simp at h3
  | .bin h a b, .bin h' a' b', o, e => by
    simp only [Tr.flat] at e
    obtain ⟨h1, h2⟩ := List.append_inj' e rfl
    simp only [List.cons.injEq, and_true] at h2
    have h3 := congrArg Nd.kids h2
    simp only [List.cons.injEq, and_true] at h3
    have hsz : a.size = a'.size := by omega
    obtain ⟨h4, h5⟩ := List.append_inj h1 (by rw [Tr.length_flat, Tr.length_flat, hsz])
    rw [hsz] at h5
    exact ⟨nd_kids h2 [], eq_of_flat a a' o h4, eq_of_flat b b' _ h5⟩
theorem kind_of_nd {h h' : Nd} (e : ({ h with kids := [] } : Nd) = { h' with kids := [] }) : h.kind = h'.kind := by have h1 := congrArg Nd.kind e; exact h1
theorem eq_shape : ∀ {s t : Tr}, EqT s t → ShapeT s t
  | .leaf h, .leaf h', e => kind_of_nd e
  | .un h a, .un h' a', e => ⟨kind_of_nd e.1, eq_shape e.2⟩
  | .bin h a b, .bin h' a' b', e => ⟨kind_of_nd e.1, eq_shape e.2.1, eq_shape e.2.2⟩
/-! ### The tests, as trees -/
def testTr : Tr → List Tr
  | .leaf _ => []
  | .un h a => if h.kind = 19 then [.un h a] else testTr a
  | .bin _ a b => testTr a ++ testTr b
theorem length_testTr : ∀ t : Tr, (testTr t).length = testsT t
  | .leaf _ => rfl
  | .un h a => by
    by_cases h1 : h.kind = 19
    · simp [testTr, testsT, h1]
    · simp [testTr, testsT, h1, length_testTr a]
  | .bin h a b => by simp [testTr, testsT, length_testTr a, length_testTr b]
theorem sub_un (h : Nd) (a : Tr) (i : Nat) : (Tr.un h a).sub i = if i < a.size then a.sub i else .un h a := rfl
theorem sub_bin (h : Nd) (a b : Tr) (i : Nat) : (Tr.bin h a b).sub i = if i < a.size then a.sub i else if i < a.size + b.size then b.sub (i - a.size) else .bin h a b := rfl
/-- A test's place is that of its tree. -/
theorem tests_sub : ∀ (t : Tr) (o i p : Nat), (testsL t o)[i]? = some p → o ≤ p ∧ p - o < t.size ∧ (testTr t)[i]? = some (t.sub (p - o))
  | .leaf _, o, i, p, h => by simp [testsL] at h
  | .un h a, o, i, p, hp => by
    by_cases h1 : h.kind = 19
    · simp only [testsL, h1, if_true] at hp
      obtain ⟨hi, e⟩ := List.getElem?_eq_some_iff.1 hp
      obtain rfl : i = 0 := by simp at hi; exact hi
      simp at e
      subst e
      refine ⟨by omega, by simp [Tr.size], ?_⟩
      simp [testTr, h1, sub_un]
    · simp only [testsL, h1, if_false] at hp
      obtain ⟨h2, h3, h4⟩ := tests_sub a o i p hp
      refine ⟨h2, by simp [Tr.size]; omega, ?_⟩
      simp only [testTr, h1, if_false, h4, sub_un]
      rw [if_pos h3]
  | .bin h a b, o, i, p, hp => by
    simp only [testsL] at hp
    by_cases hi : i < testsT a
    · rw [List.getElem?_append_left (by rw [length_tests]; exact hi)] at hp
      obtain ⟨h2, h3, h4⟩ := tests_sub a o i p hp
      refine ⟨h2, by simp [Tr.size]; omega, ?_⟩
      simp only [testTr]
      rw [List.getElem?_append_left (by rw [length_testTr]; exact hi), h4, sub_bin, if_pos h3]
    · rw [List.getElem?_append_right (by rw [length_tests]; omega), length_tests] at hp
      obtain ⟨h2, h3, h4⟩ := tests_sub b (o + a.size) _ p hp
      refine ⟨by omega, by simp [Tr.size]; omega, ?_⟩
      simp only [testTr]
      rw [List.getElem?_append_right (by rw [length_testTr]; omega), length_testTr, h4, sub_bin, if_neg (by omega), if_pos (by omega), show p - o - a.size = p - (o + a.size) by omega]
/-! ### The steps -/
def stepsN : Tr → Nat
  | .leaf _ => 1
  | .un h a => if h.kind = 19 then 0 else stepsN a
  | .bin _ a b => stepsN a + stepsN b
theorem shape_steps : ∀ {s t : Tr}, ShapeT s t → stepsN s = stepsN t
  | .leaf _, .leaf _, _ => rfl
  | .un h a, .un h' a', e => by simp [stepsN, e.1, shape_steps e.2]
  | .bin h a b, .bin h' a' b', e => by simp [stepsN, shape_steps e.2.1, shape_steps e.2.2]
theorem kind_placed {l pre post : List Nd} {t : Tr} {o : Nat} (hl : l = pre ++ t.flat o ++ post) (hp : pre.length = o) : kindAt l (o + t.size - 1) = t.root.kind := by
  have hs := t.size_pos
  have h2 : l[o + t.size - 1]? = some { t.root with kids := t.rootKids o } := by
    rw [hl, List.append_assoc, List.getElem?_append_right (by omega), List.getElem?_append_left (by rw [Tr.length_flat]; omega), show o + t.size - 1 - pre.length = t.size - 1 by omega, Tr.flat_last]
  unfold kindAt
  rw [h2]
theorem own_steps : ∀ (t : Tr) (o : Nat) (l pre post : List Nd), l = pre ++ t.flat o ++ post → pre.length = o → regV t → ((ownT t o).filter fun p => decide (kindAt l p = 18)).length = stepsN t
  | .leaf h, o, l, pre, post, hl, hp, hv => by
    have hk := kind_placed hl hp
    simp only [Tr.size, Nat.add_sub_cancel, Tr.root] at hk
    rw [show h.kind = 18 from hv] at hk
    simp [ownT, stepsN, hk]
  | .un h a, o, l, pre, post, hl, hp, hv => by
    have hk := kind_placed hl hp
    simp only [Tr.size, ← Nat.add_assoc, Nat.add_sub_cancel, Tr.root] at hk
    rcases hv with h19 | ⟨h22, hva⟩
    · simp [ownT, stepsN, h19, hk]
    · have ih := own_steps a o l pre ({ h with kids := [((o + a.size : Nat) : Int) - 1] } :: post) (by rw [hl, Tr.flat]; simp) hp hva
      have h19 : ¬ h.kind = 19 := by omega
      simp only [ownT, stepsN, h19, if_false, List.filter_append, List.length_append, ih]
      simp [hk, h22]
  | .bin h a b, o, l, pre, post, hl, hp, hv => by
    obtain ⟨hh, hva, hvb⟩ := hv
    have hk := kind_placed hl hp
    simp only [Tr.size, ← Nat.add_assoc, Nat.add_sub_cancel, Tr.root] at hk
    have iha := own_steps a o l pre (b.flat (o + a.size) ++ { h with kids := [((o + a.size : Nat) : Int) - 1, ((o + a.size + b.size : Nat) : Int) - 1] } :: post) (by rw [hl, Tr.flat]; simp) hp hva
    have ihb := own_steps b (o + a.size) l (pre ++ a.flat o) ({ h with kids := [((o + a.size : Nat) : Int) - 1, ((o + a.size + b.size : Nat) : Int) - 1] } :: post) (by rw [hl, Tr.flat]; simp) (by simp [hp, Tr.length_flat]) hvb
    have h18 : ¬ h.kind = 18 := by omega
    simp only [ownT, stepsN, List.filter_append, List.length_append, iha, ihb]
    simp [hk, h18]
end Go.Proofs.Ytaomehlhopiblaa
