/- What can be passed, what is first, what is ahead, of a regular expression: plain definitions and lemmas, no program in sight. -/
import Derived.Test.YtaomehlhopiblaaTurnS
import Derived.Test.YtaomehlhopiblaaOwnP
set_option linter.unusedVariables false
set_option linter.unusedSimpArgs false
/-! What can be passed, what is first, what is ahead, of a regular expression: plain definitions and lemmas, no program in sight. -/
namespace Go.Proofs.Ytaomehlhopiblaa
/-! Tests hold by functions z q x: test number q at assignment x. -/
abbrev Zf := Nat → Nat → Bool
abbrev Fst := List (Nat × (Nat → Bool))
/-- Where a node can be passed; own: does it belong to the expression itself? -/
def zeroO (z : Zf) (own : Bool) : Tr → Nat → Nat → Bool
  | .leaf _, _ => fun _ => false
  | .un h _, k => if h.kind = 19 then fun x => own && z k x else if h.kind = 22 then fun _ => true else fun _ => false
  | .bin h a b, k => if h.kind = 20 then fun x => zeroO z own a k x || zeroO z own b (k + testsT a) x else if h.kind = 21 then fun x => zeroO z own a k x && zeroO z own b (k + testsT a) x else fun _ => false
/-- Its first steps. -/
def firstO (z : Zf) (own : Bool) : Tr → Nat → Nat → Fst
  | .leaf h, _, s => if own = true ∧ h.kind = 18 then [(s, fun _ => true)] else []
  | .un h a, k, s => if h.kind = 22 then firstO z own a k s else []
  | .bin h a b, k, s =>
    if h.kind = 20 then firstO z own a k s ++ firstO z own b (k + testsT a) (s + stepsN a)
    else if h.kind = 21 then firstO z own a k s ++ (firstO z own b (k + testsT a) (s + stepsN a)).map (fun p => (p.1, fun x => p.2 x && zeroO z own a k x))
    else []
def inF (l : Fst) (q x : Nat) : Bool := l.any fun p => p.1 == q && p.2 x
theorem inF_nil (q x : Nat) : inF [] q x = false := rfl
theorem inF_cons (p : Nat × (Nat → Bool)) (l : Fst) (q x : Nat) : inF (p :: l) q x = (p.1 == q && p.2 x || inF l q x) := rfl
theorem inF_append (l m : Fst) (q x : Nat) : inF (l ++ m) q x = (inF l q x || inF m q x) := by simp [inF]
theorem inF_map (l : Fst) (f : Nat → Bool) (q x : Nat) : inF (l.map fun p => (p.1, fun x => p.2 x && f x)) q x = (inF l q x && f x) := by
  induction l with
  | nil => simp [inF]
  | cons p l ih =>
    rw [List.map_cons, inF_cons, inF_cons, ih]
    cases (p.1 == q) <;> cases hp : p.2 x <;> cases hf : f x <;> cases inF l q x <;> simp [hp, hf]
/-- What is ahead of a state, and where there is an end. -/
def aheadO (z : Zf) : Tr → Nat → Nat → Nat → (Nat → Nat → Bool) × (Nat → Bool)
  | .leaf _, _, _, _ => (fun _ _ => false, fun _ => true)
  | .un h a, k, s, st => if h.kind = 22 then (fun q x => (aheadO z a k s st).1 q x || ((aheadO z a k s st).2 x && inF (firstO z true a k s) q x), (aheadO z a k s st).2) else (fun _ _ => false, fun _ => false)
  | .bin h a b, k, s, st =>
    if st < s + stepsN a then
      if h.kind = 20 then aheadO z a k s st
      else (fun q x => (aheadO z a k s st).1 q x || ((aheadO z a k s st).2 x && inF (firstO z true b (k + testsT a) (s + stepsN a)) q x), fun x => (aheadO z a k s st).2 x && zeroO z true b (k + testsT a) x)
    else aheadO z b (k + testsT a) (s + stepsN a) st
/-- State 0 stands ahead of all, state k behind step k. -/
def stateO (z : Zf) (t : Tr) (k : Nat) : (Nat → Nat → Bool) × (Nat → Bool) :=
  if k = 0 then (inF (firstO z true t 0 0), zeroO z true t 0)
  else if k ≤ stepsN t then aheadO z t 0 0 (k - 1)
  else (fun _ _ => false, fun _ => false)
/-! ### One assignment alone -/
/-! ### Places: does a node belong to the expression, and from which test and step on? -/
def posT : Tr → Nat → Bool → Nat → Nat → Bool × Nat × Nat
  | .leaf _, _, o, k, s => (o, k, s)
  | .un h a, i, o, k, s => if i < a.size then posT a i (o && decide (h.kind ≠ 19)) k s else (o, k, s)
  | .bin _ a b, i, o, k, s => if i < a.size then posT a i o k s else if i < a.size + b.size then posT b (i - a.size) o (k + testsT a) (s + stepsN a) else (o, k, s)
theorem posT_un (h : Nd) (a : Tr) (i : Nat) (o : Bool) (k s : Nat) : posT (.un h a) i o k s = if i < a.size then posT a i (o && decide (h.kind ≠ 19)) k s else (o, k, s) := rfl
theorem posT_bin (h : Nd) (a b : Tr) (i : Nat) (o : Bool) (k s : Nat) : posT (.bin h a b) i o k s = if i < a.size then posT a i o k s else if i < a.size + b.size then posT b (i - a.size) o (k + testsT a) (s + stepsN a) else (o, k, s) := rfl
theorem pos_root : ∀ (t : Tr) (o : Bool) (k s : Nat), posT t (t.size - 1) o k s = (o, k, s)
  | .leaf _, _, _, _ => rfl
  | .un h a, o, k, s => by
    unfold posT
    rw [if_neg (by simp [Tr.size])]
  | .bin h a b, o, k, s => by
    unfold posT
    have := b.size_pos
    rw [if_neg (by simp only [Tr.size]; omega), if_neg (by simp only [Tr.size]; omega)]
theorem pos_sub : ∀ (t : Tr) (i j : Nat) (o : Bool) (k s : Nat), i < t.size → j < (t.sub i).size → posT t (i + 1 - (t.sub i).size + j) o k s = posT (t.sub i) j (posT t i o k s).1 (posT t i o k s).2.1 (posT t i o k s).2.2
  | .leaf h, i, j, o, k, s, hi, hj => by
    simp only [Tr.size] at hi
    obtain rfl : i = 0 := by omega
    simp only [Tr.sub, Tr.size] at hj ⊢
    obtain rfl : j = 0 := by omega
    rfl
  | .un h a, i, j, o, k, s, hi, hj => by
    rw [sub_un] at hj ⊢
    simp only [Tr.size] at hi
    by_cases h1 : i < a.size
    · rw [if_pos h1] at hj ⊢
      have hle := Tr.sub_size_le a i h1
      have ih := pos_sub a i j (o && decide (h.kind ≠ 19)) k s h1 hj
      rw [posT_un h a i, if_pos h1, posT_un, if_pos (by omega)]
      exact ih
    · rw [if_neg h1] at hj ⊢
      obtain rfl : i = a.size := by omega
      have e : posT (.un h a) a.size o k s = (o, k, s) := by unfold posT; rw [if_neg h1]
      rw [e]
      simp only [Tr.size]
      rw [show a.size + 1 - (a.size + 1) + j = j by omega]
  | .bin h a b, i, j, o, k, s, hi, hj => by
    rw [sub_bin] at hj ⊢
    simp only [Tr.size] at hi
    by_cases h1 : i < a.size
    · rw [if_pos h1] at hj ⊢
      have hle := Tr.sub_size_le a i h1
      have ih := pos_sub a i j o k s h1 hj
      rw [posT_bin h a b i, if_pos h1, posT_bin, if_pos (by omega)]
      exact ih
    · rw [if_neg h1] at hj ⊢
      by_cases h2 : i < a.size + b.size
      · rw [if_pos h2] at hj ⊢
        have hle := Tr.sub_size_le b (i - a.size) (by omega)
        have ih := pos_sub b (i - a.size) j o (k + testsT a) (s + stepsN a) (by omega) hj
        have e : posT (.bin h a b) i o k s = posT b (i - a.size) o (k + testsT a) (s + stepsN a) := by
          conv => lhs; unfold posT
          rw [if_neg h1, if_pos h2]
        have e2 : posT (.bin h a b) (i + 1 - (b.sub (i - a.size)).size + j) o k s = posT b (i + 1 - (b.sub (i - a.size)).size + j - a.size) o (k + testsT a) (s + stepsN a) := by
          conv => lhs; unfold posT
          rw [if_neg (by omega), if_pos (by omega)]
        rw [e, e2, ← ih]
        congr 1
        omega
      · rw [if_neg h2] at hj ⊢
        obtain rfl : i = a.size + b.size := by omega
        have e : posT (.bin h a b) (a.size + b.size) o k s = (o, k, s) := by unfold posT; rw [if_neg h1, if_neg h2]
        rw [e]
        simp only [Tr.size]
        rw [show a.size + b.size + 1 - (a.size + b.size + 1) + j = j by omega]
/-- Of a node's kids. -/
theorem pos_un {t : Tr} {i : Nat} (hi : i < t.size) {h : Nd} {a : Tr} (hx : t.sub i = .un h a) (o : Bool) (k s : Nat) : a.size ≤ i ∧ posT t (i - 1) o k s = ((posT t i o k s).1 && decide (h.kind ≠ 19), (posT t i o k s).2.1, (posT t i o k s).2.2) := by
  have hle := Tr.sub_size_le t i hi
  have hp := a.size_pos
  rw [hx] at hle
  simp only [Tr.size] at hle
  have := pos_sub t i (a.size - 1) o k s hi (by rw [hx]; simp only [Tr.size]; omega)
  rw [hx] at this
  simp only [Tr.size] at this
  rw [show i + 1 - (a.size + 1) + (a.size - 1) = i - 1 by omega] at this
  refine ⟨by omega, ?_⟩
  rw [this]
  conv => lhs; unfold posT
  rw [if_pos (by omega), pos_root]
theorem pos_bin {t : Tr} {i : Nat} (hi : i < t.size) {h : Nd} {a b : Tr} (hx : t.sub i = .bin h a b) (o : Bool) (k s : Nat) : a.size + b.size ≤ i ∧ posT t (i - 1 - b.size) o k s = posT t i o k s ∧ posT t (i - 1) o k s = ((posT t i o k s).1, (posT t i o k s).2.1 + testsT a, (posT t i o k s).2.2 + stepsN a) := by
  have hle := Tr.sub_size_le t i hi
  have hp := a.size_pos
  have hq := b.size_pos
  rw [hx] at hle
  simp only [Tr.size] at hle
  have h1 := pos_sub t i (a.size - 1) o k s hi (by rw [hx]; simp only [Tr.size]; omega)
  have h2 := pos_sub t i (a.size + b.size - 1) o k s hi (by rw [hx]; simp only [Tr.size]; omega)
  rw [hx] at h1 h2
  simp only [Tr.size] at h1 h2
  rw [show i + 1 - (a.size + b.size + 1) + (a.size - 1) = i - 1 - b.size by omega] at h1
  rw [show i + 1 - (a.size + b.size + 1) + (a.size + b.size - 1) = i - 1 by omega] at h2
  refine ⟨by omega, ?_, ?_⟩
  · rw [h1]
    conv => lhs; unfold posT
    rw [if_pos (by omega), pos_root]
  · rw [h2]
    conv => lhs; unfold posT
    rw [if_neg (by omega), if_pos (by omega), show a.size + b.size - 1 - a.size = b.size - 1 by omega, pos_root]
/-- The places of the steps. -/
def stepsL : Tr → Nat → List Nat
  | .leaf _, o => [o]
  | .un h a, o => if h.kind = 19 then [] else stepsL a o
  | .bin _ a b, o => stepsL a o ++ stepsL b (o + a.size)
theorem stepsL_kinds : ∀ (t : Tr) (o : Nat) (l pre post : List Nd), l = pre ++ t.flat o ++ post → pre.length = o → regV t → ((ownT t o).filter fun p => decide (kindAt l p = 18)) = stepsL t o
  | .leaf h, o, l, pre, post, hl, hp, hv => by
    have hk := kind_placed hl hp
    simp only [Tr.size, Nat.add_sub_cancel, Tr.root] at hk
    have hv' : h.kind = 18 := hv
    simp [ownT, stepsL, hk, hv']
  | .un h a, o, l, pre, post, hl, hp, hv => by
    have hk := kind_placed hl hp
    simp only [Tr.size, Tr.root] at hk
    rw [show o + (a.size + 1) - 1 = o + a.size by omega] at hk
    unfold ownT stepsL
    by_cases h19 : h.kind = 19
    · rw [if_pos h19, if_pos h19]
      simp [hk, h19]
    · rw [if_neg h19, if_neg h19]
      obtain ⟨h22, hva⟩ := hv.resolve_left h19
      rw [List.filter_append, stepsL_kinds a o l pre ({ h with kids := [((o + a.size : Nat) : Int) - 1] } :: post) (by rw [hl, Tr.flat]; simp) hp hva]
      simp [hk, h22]
  | .bin h a b, o, l, pre, post, hl, hp, hv => by
    have hk := kind_placed hl hp
    simp only [Tr.size, Tr.root] at hk
    rw [show o + (a.size + b.size + 1) - 1 = o + a.size + b.size by omega] at hk
    unfold ownT stepsL
    have hn : h.kind ≠ 18 := by rcases hv.1 with e | e <;> omega
    rw [List.filter_append, List.filter_append, stepsL_kinds a o l pre (b.flat (o + a.size) ++ { h with kids := [((o + a.size : Nat) : Int) - 1, ((o + a.size + b.size : Nat) : Int) - 1] } :: post) (by rw [hl, Tr.flat]; simp) hp hv.2.1, stepsL_kinds b (o + a.size) l (pre ++ a.flat o) ({ h with kids := [((o + a.size : Nat) : Int) - 1, ((o + a.size + b.size : Nat) : Int) - 1] } :: post) (by rw [hl, Tr.flat]; simp) (by simp [hp, Tr.length_flat]) hv.2.2]
    simp [hk, hn]
theorem length_stepsL : ∀ (t : Tr) (o : Nat), regV t → (stepsL t o).length = stepsN t
  | .leaf h, o, hv => by
    have hv' : h.kind = 18 := hv
    simp [stepsL, stepsN]
  | .un h a, o, hv => by
    unfold stepsL stepsN
    split
    · rfl
    · rename_i h19
      exact length_stepsL a o (hv.resolve_left h19).2
  | .bin h a b, o, hv => by
    unfold stepsL stepsN
    rw [List.length_append, length_stepsL a o hv.2.1, length_stepsL b _ hv.2.2]
/-- A step's place: a leaf of the expression's own, with its number. -/
theorem step_at : ∀ (t : Tr) (o q p k s : Nat), regV t → (stepsL t o)[q]? = some p → o ≤ p ∧ p - o < t.size ∧ (∃ h, t.sub (p - o) = .leaf h ∧ h.kind = 18) ∧ (posT t (p - o) true k s).1 = true ∧ (posT t (p - o) true k s).2.2 = s + q
  | .leaf h, o, q, p, k, s, hv, hq => by
    unfold stepsL at hq
    cases q with
    | zero =>
      simp at hq
      subst hq
      exact ⟨Nat.le_refl _, by simp [Tr.size], ⟨h, rfl, hv⟩, rfl, rfl⟩
    | succ q => simp at hq
  | .un h a, o, q, p, k, s, hv, hq => by
    unfold stepsL at hq
    by_cases h19 : h.kind = 19
    · rw [if_pos h19] at hq; simp at hq
    · rw [if_neg h19] at hq
      obtain ⟨h1, h2, h3, h4, h5⟩ := step_at a o q p k s (hv.resolve_left h19).2 hq
      refine ⟨h1, by simp only [Tr.size]; omega, ?_, ?_, ?_⟩
      · rw [sub_un, if_pos h2]; exact h3
      · unfold posT; rw [if_pos h2, decide_eq_true (by simpa using h19)]; exact h4
      · unfold posT; rw [if_pos h2, decide_eq_true (by simpa using h19)]; exact h5
  | .bin h a b, o, q, p, k, s, hv, hq => by
    unfold stepsL at hq
    have hla := length_stepsL a o hv.2.1
    by_cases h1 : q < stepsN a
    · rw [List.getElem?_append_left (by omega)] at hq
      obtain ⟨g1, g2, g3, g4, g5⟩ := step_at a o q p k s hv.2.1 hq
      refine ⟨g1, by simp only [Tr.size]; omega, ?_, ?_, ?_⟩
      · rw [sub_bin, if_pos g2]; exact g3
      · unfold posT; rw [if_pos g2]; exact g4
      · unfold posT; rw [if_pos g2]; exact g5
    · rw [List.getElem?_append_right (by omega), hla] at hq
      obtain ⟨g1, g2, g3, g4, g5⟩ := step_at b (o + a.size) (q - stepsN a) p (k + testsT a) (s + stepsN a) hv.2.2 hq
      rw [show p - (o + a.size) = p - o - a.size by omega] at g2 g3 g4 g5
      refine ⟨by omega, by simp only [Tr.size]; omega, ?_, ?_, ?_⟩
      · rw [sub_bin, if_neg (by omega), if_pos (by omega)]; exact g3
      · unfold posT; rw [if_neg (by omega), if_pos (by omega)]; exact g4
      · unfold posT; rw [if_neg (by omega), if_pos (by omega), g5]; omega
theorem pos_no : ∀ (t : Tr) (i k s : Nat), (posT t i false k s).1 = false
  | .leaf _, _, _, _ => rfl
  | .un h a, i, k, s => by
    unfold posT
    split
    · rw [Bool.false_and]; exact pos_no a i k s
    · rfl
  | .bin h a b, i, k, s => by
    unfold posT
    split
    · exact pos_no a i k s
    · split
      · exact pos_no b _ _ _
      · rfl
/-- A leaf of the expression's own is a step. -/
theorem leaf_step : ∀ (t : Tr) (o i k s : Nat), regV t → i < t.size → (posT t i true k s).1 = true → (∃ h, t.sub i = .leaf h) → (stepsL t o)[(posT t i true k s).2.2 - s]? = some (o + i) ∧ s ≤ (posT t i true k s).2.2
  | .leaf h, o, i, k, s, hv, hi, _, _ => by
    simp only [Tr.size] at hi
    obtain rfl : i = 0 := by omega
    simp [posT, stepsL]
  | .un h a, o, i, k, s, hv, hi, hp, hl => by
    simp only [Tr.size] at hi
    rw [sub_un] at hl
    unfold posT at hp ⊢
    by_cases h1 : i < a.size
    · rw [if_pos h1] at hl hp ⊢
      by_cases h19 : h.kind = 19
      · rw [decide_eq_false (by simpa using h19), Bool.and_false, pos_no] at hp; cases hp
      · rw [decide_eq_true (by simpa using h19), Bool.and_true] at hp ⊢
        unfold stepsL
        rw [if_neg h19]
        exact leaf_step a o i k s (hv.resolve_left h19).2 h1 hp hl
    · rw [if_neg h1] at hl; obtain ⟨h', e⟩ := hl; cases e
  | .bin h a b, o, i, k, s, hv, hi, hp, hl => by
    simp only [Tr.size] at hi
    rw [sub_bin] at hl
    have hla := length_stepsL a o hv.2.1
    unfold posT at hp ⊢
    unfold stepsL
    by_cases h1 : i < a.size
    · rw [if_pos h1] at hl hp ⊢
      obtain ⟨g1, g2⟩ := leaf_step a o i k s hv.2.1 h1 hp hl
      exact ⟨by rw [List.getElem?_append_left (List.getElem?_eq_some_iff.1 g1).1]; exact g1, g2⟩
    · rw [if_neg h1] at hl hp ⊢
      by_cases h2 : i < a.size + b.size
      · rw [if_pos h2] at hl hp ⊢
        obtain ⟨g1, g2⟩ := leaf_step b (o + a.size) (i - a.size) (k + testsT a) (s + stepsN a) hv.2.2 (by omega) hp hl
        refine ⟨?_, by omega⟩
        rw [List.getElem?_append_right (by omega), hla, show (posT b (i - a.size) true (k + testsT a) (s + stepsN a)).2.2 - s - stepsN a = (posT b (i - a.size) true (k + testsT a) (s + stepsN a)).2.2 - (s + stepsN a) by omega, g1]
        congr 1
        omega
      · rw [if_neg h2] at hl; obtain ⟨h', e⟩ := hl; cases e
/-- A test's place: of the expression's own, with its number. -/
theorem test_at : ∀ (t : Tr) (o q p k s : Nat), (testsL t o)[q]? = some p → (posT t (p - o) true k s).1 = true ∧ (posT t (p - o) true k s).2.1 = k + q
  | .leaf h, o, q, p, k, s, hq => by simp [testsL] at hq
  | .un h a, o, q, p, k, s, hq => by
    obtain ⟨t1, t2, _⟩ := tests_sub _ o q p hq
    unfold testsL at hq
    by_cases h19 : h.kind = 19
    · rw [if_pos h19] at hq
      cases q with
      | zero =>
        simp at hq
        subst hq
        unfold posT
        rw [if_neg (by omega)]
        exact ⟨rfl, rfl⟩
      | succ q => simp at hq
    · rw [if_neg h19] at hq
      obtain ⟨s1, s2, _⟩ := tests_sub a o q p hq
      have := test_at a o q p k s hq
      unfold posT
      rw [if_pos s2, decide_eq_true (by simpa using h19)]
      exact this
  | .bin h a b, o, q, p, k, s, hq => by
    unfold testsL at hq
    have hla := length_tests a o
    by_cases h1 : q < testsT a
    · rw [List.getElem?_append_left (by omega)] at hq
      obtain ⟨s1, s2, _⟩ := tests_sub a o q p hq
      have := test_at a o q p k s hq
      unfold posT
      rw [if_pos s2]
      exact this
    · rw [List.getElem?_append_right (by omega), hla] at hq
      obtain ⟨s1, s2, _⟩ := tests_sub b (o + a.size) (q - testsT a) p hq
      obtain ⟨g1, g2⟩ := test_at b (o + a.size) (q - testsT a) p (k + testsT a) (s + stepsN a) hq
      rw [show p - (o + a.size) = p - o - a.size by omega] at s2 g1 g2
      unfold posT
      rw [if_neg (by omega), if_pos (by omega)]
      exact ⟨g1, by rw [g2]; omega⟩
theorem test_own : ∀ (t : Tr) (o i k s : Nat), i < t.size → (posT t i true k s).1 = true → (∃ h a, t.sub i = .un h a ∧ h.kind = 19) → (testsL t o)[(posT t i true k s).2.1 - k]? = some (o + i) ∧ k ≤ (posT t i true k s).2.1
  | .leaf h, o, i, k, s, hi, _, hl => by
    obtain ⟨h', a', e, _⟩ := hl
    simp [Tr.sub] at e
  | .un h a, o, i, k, s, hi, hp, hl => by
    simp only [Tr.size] at hi
    rw [sub_un] at hl
    unfold posT at hp ⊢
    unfold testsL
    by_cases h1 : i < a.size
    · rw [if_pos h1] at hl hp ⊢
      by_cases h19 : h.kind = 19
      · rw [decide_eq_false (by simpa using h19), Bool.and_false, pos_no] at hp; cases hp
      · rw [decide_eq_true (by simpa using h19), Bool.and_true] at hp ⊢
        rw [if_neg h19]
        exact test_own a o i k s h1 hp hl
    · rw [if_neg h1] at hl ⊢
      obtain ⟨h', a', e, h19⟩ := hl
      injection e with e1 e2
      subst e1
      rw [if_pos h19]
      obtain rfl : i = a.size := by omega
      simp
  | .bin h a b, o, i, k, s, hi, hp, hl => by
    simp only [Tr.size] at hi
    rw [sub_bin] at hl
    have hla := length_tests a o
    unfold posT at hp ⊢
    unfold testsL
    by_cases h1 : i < a.size
    · rw [if_pos h1] at hl hp ⊢
      obtain ⟨g1, g2⟩ := test_own a o i k s h1 hp hl
      exact ⟨by rw [List.getElem?_append_left (List.getElem?_eq_some_iff.1 g1).1]; exact g1, g2⟩
    · rw [if_neg h1] at hl hp ⊢
      by_cases h2 : i < a.size + b.size
      · rw [if_pos h2] at hl hp ⊢
        obtain ⟨g1, g2⟩ := test_own b (o + a.size) (i - a.size) (k + testsT a) (s + stepsN a) (by omega) hp hl
        refine ⟨?_, by omega⟩
        rw [List.getElem?_append_right (by omega), hla, show (posT b (i - a.size) true (k + testsT a) (s + stepsN a)).2.1 - k - testsT a = (posT b (i - a.size) true (k + testsT a) (s + stepsN a)).2.1 - (k + testsT a) by omega, g1]
        congr 1
        omega
      · rw [if_neg h2] at hl; obtain ⟨h', a', e, _⟩ := hl; cases e
/-- The expression's own nodes are regular expressions. -/
theorem own_regV : ∀ (t : Tr) (i k s : Nat), regV t → i < t.size → (posT t i true k s).1 = true → regV (t.sub i)
  | .leaf h, i, k, s, hv, hi, _ => hv
  | .un h a, i, k, s, hv, hi, hp => by
    rw [sub_un]
    unfold posT at hp
    by_cases h1 : i < a.size
    · rw [if_pos h1] at hp ⊢
      by_cases h19 : h.kind = 19
      · rw [decide_eq_false (by simpa using h19), Bool.and_false, pos_no] at hp; cases hp
      · rw [decide_eq_true (by simpa using h19), Bool.and_true] at hp
        exact own_regV a i k s (hv.resolve_left h19).2 h1 hp
    · rw [if_neg h1]; exact hv
  | .bin h a b, i, k, s, hv, hi, hp => by
    simp only [Tr.size] at hi
    rw [sub_bin]
    unfold posT at hp
    by_cases h1 : i < a.size
    · rw [if_pos h1] at hp ⊢
      exact own_regV a i k s hv.2.1 h1 hp
    · rw [if_neg h1] at hp ⊢
      by_cases h2 : i < a.size + b.size
      · rw [if_pos h2] at hp ⊢
        exact own_regV b _ _ _ hv.2.2 (by omega) hp
      · rw [if_neg h2]; exact hv
/-! ### The node above -/
def parT : Tr → Nat → Nat
  | .leaf _, _ => 0
  | .un _ a, i => if i + 1 < a.size then parT a i else a.size
  | .bin _ a b, i => if i + 1 < a.size then parT a i else if i + 1 = a.size then a.size + b.size else if i + 1 < a.size + b.size then a.size + parT b (i - a.size) else a.size + b.size
theorem par_sub : ∀ (t : Tr) (i j : Nat), i < t.size → j + 1 < (t.sub i).size → parT t (i + 1 - (t.sub i).size + j) = i + 1 - (t.sub i).size + parT (t.sub i) j
  | .leaf h, i, j, hi, hj => by
    simp only [Tr.sub, Tr.size] at hj
    omega
  | .un h a, i, j, hi, hj => by
    rw [sub_un] at hj ⊢
    simp only [Tr.size] at hi
    by_cases h1 : i < a.size
    · rw [if_pos h1] at hj ⊢
      have hle := Tr.sub_size_le a i h1
      rw [← par_sub a i j h1 hj]
      conv => lhs; unfold parT
      rw [if_pos (by omega)]
    · rw [if_neg h1] at hj ⊢
      obtain rfl : i = a.size := by omega
      simp only [Tr.size]
      rw [show a.size + 1 - (a.size + 1) + j = j by omega]
      omega
  | .bin h a b, i, j, hi, hj => by
    rw [sub_bin] at hj ⊢
    simp only [Tr.size] at hi
    by_cases h1 : i < a.size
    · rw [if_pos h1] at hj ⊢
      have hle := Tr.sub_size_le a i h1
      rw [← par_sub a i j h1 hj]
      conv => lhs; unfold parT
      rw [if_pos (by omega)]
    · rw [if_neg h1] at hj ⊢
      by_cases h2 : i < a.size + b.size
      · rw [if_pos h2] at hj ⊢
        have hle := Tr.sub_size_le b (i - a.size) (by omega)
        have ih := par_sub b (i - a.size) j (by omega) hj
        conv => lhs; unfold parT
        rw [if_neg (by omega), if_neg (by omega), if_pos (by omega), show i + 1 - (b.sub (i - a.size)).size + j - a.size = i - a.size + 1 - (b.sub (i - a.size)).size + j by omega, ih]
        omega
      · rw [if_neg h2] at hj ⊢
        obtain rfl : i = a.size + b.size := by omega
        simp only [Tr.size]
        rw [show a.size + b.size + 1 - (a.size + b.size + 1) + j = j by omega]
        omega
theorem par_un {t : Tr} {i : Nat} (hi : i < t.size) {h : Nd} {a : Tr} (hx : t.sub i = .un h a) : parT t (i - 1) = i := by
  have hle := Tr.sub_size_le t i hi
  have hp := a.size_pos
  rw [hx] at hle
  simp only [Tr.size] at hle
  have := par_sub t i (a.size - 1) hi (by rw [hx]; simp only [Tr.size]; omega)
  rw [hx] at this
  simp only [Tr.size] at this
  rw [show i + 1 - (a.size + 1) + (a.size - 1) = i - 1 by omega] at this
  rw [this]
  unfold parT
  rw [if_neg (by omega)]
  omega
theorem par_bin {t : Tr} {i : Nat} (hi : i < t.size) {h : Nd} {a b : Tr} (hx : t.sub i = .bin h a b) : parT t (i - 1 - b.size) = i ∧ parT t (i - 1) = i := by
  have hle := Tr.sub_size_le t i hi
  have hp := a.size_pos
  have hq := b.size_pos
  rw [hx] at hle
  simp only [Tr.size] at hle
  have h1 := par_sub t i (a.size - 1) hi (by rw [hx]; simp only [Tr.size]; omega)
  have h2 := par_sub t i (a.size + b.size - 1) hi (by rw [hx]; simp only [Tr.size]; omega)
  rw [hx] at h1 h2
  simp only [Tr.size] at h1 h2
  rw [show i + 1 - (a.size + b.size + 1) + (a.size - 1) = i - 1 - b.size by omega] at h1
  rw [show i + 1 - (a.size + b.size + 1) + (a.size + b.size - 1) = i - 1 by omega] at h2
  refine ⟨?_, ?_⟩
  · rw [h1]
    unfold parT
    rw [if_neg (by omega), if_pos (by omega)]
    omega
  · rw [h2]
    unfold parT
    rw [if_neg (by omega), if_neg (by omega), if_neg (by omega)]
    omega
/-- Each node but the root stands below another one. -/
theorem par_at : ∀ (t : Tr) (i : Nat), i + 1 < t.size → i < parT t i ∧ parT t i < t.size ∧ ((∃ h a, t.sub (parT t i) = .un h a ∧ i + 1 = parT t i) ∨ ∃ h a b, t.sub (parT t i) = .bin h a b ∧ (i + 1 = parT t i ∨ i + 1 + b.size = parT t i))
  | .leaf h, i, hi => by simp only [Tr.size] at hi; omega
  | .un h a, i, hi => by
    simp only [Tr.size] at hi
    unfold parT
    by_cases h1 : i + 1 < a.size
    · rw [if_pos h1, sub_un]
      obtain ⟨g1, g2, g3⟩ := par_at a i h1
      rw [if_pos g2]
      exact ⟨g1, by simp only [Tr.size]; omega, g3⟩
    · rw [if_neg h1, sub_un, if_neg (by omega)]
      exact ⟨by omega, by simp only [Tr.size]; omega, .inl ⟨h, a, rfl, by omega⟩⟩
  | .bin h a b, i, hi => by
    simp only [Tr.size] at hi
    have hq := b.size_pos
    unfold parT
    by_cases h1 : i + 1 < a.size
    · rw [if_pos h1, sub_bin]
      obtain ⟨g1, g2, g3⟩ := par_at a i h1
      rw [if_pos g2]
      exact ⟨g1, by simp only [Tr.size]; omega, g3⟩
    · rw [if_neg h1]
      by_cases h2 : i + 1 = a.size
      · rw [if_pos h2, sub_bin, if_neg (by omega), if_neg (by omega)]
        exact ⟨by omega, by simp only [Tr.size]; omega, .inr ⟨h, a, b, rfl, .inr (by omega)⟩⟩
      · rw [if_neg h2]
        by_cases h3 : i + 1 < a.size + b.size
        · rw [if_pos h3, sub_bin]
          obtain ⟨g1, g2, g3⟩ := par_at b (i - a.size) (by omega)
          rw [if_neg (by omega), if_pos (by omega), show a.size + parT b (i - a.size) - a.size = parT b (i - a.size) by omega]
          refine ⟨by omega, by simp only [Tr.size]; omega, ?_⟩
          rcases g3 with ⟨h', a', e1, e2⟩ | ⟨h', a', b', e1, e2⟩
          · exact .inl ⟨h', a', e1, by omega⟩
          · exact .inr ⟨h', a', b', e1, by omega⟩
        · rw [if_neg h3, sub_bin, if_neg (by omega), if_neg (by omega)]
          exact ⟨by omega, by simp only [Tr.size]; omega, .inr ⟨h, a, b, rfl, .inl (by omega)⟩⟩
theorem kid_un {t : Tr} {i : Nat} (hi : i < t.size) {h : Nd} {a : Tr} (hx : t.sub i = .un h a) : a.size ≤ i ∧ t.sub (i - 1) = a ∧ ∀ j, j < a.size → t.sub (i - a.size + j) = a.sub j := by
  have h1 := Tr.sub_size_le t i hi
  rw [hx] at h1
  simp only [Tr.size] at h1
  have hp := a.size_pos
  have h2 : ∀ j, j < a.size → t.sub (i - a.size + j) = a.sub j := fun j hj => by
    have := Tr.sub_sub t i j hi (by rw [hx]; simp only [Tr.size]; omega)
    rw [hx, sub_un, if_pos hj] at this
    rw [← this]
    congr 1
    simp only [Tr.size]
    omega
  refine ⟨by omega, ?_, h2⟩
  have := h2 (a.size - 1) (by omega)
  rw [show i - a.size + (a.size - 1) = i - 1 by omega, Tr.sub_root] at this
  exact this
theorem kid_bin {t : Tr} {i : Nat} (hi : i < t.size) {h : Nd} {a b : Tr} (hx : t.sub i = .bin h a b) : a.size + b.size ≤ i ∧ t.sub (i - 1) = b ∧ t.sub (i - 1 - b.size) = a := by
  have h1 := Tr.sub_size_le t i hi
  rw [hx] at h1
  simp only [Tr.size] at h1
  have hp := a.size_pos
  have hq := b.size_pos
  have h2 : ∀ j, j < a.size + b.size → t.sub (i - (a.size + b.size) + j) = (Tr.bin h a b).sub j := fun j hj => by
    have := Tr.sub_sub t i j hi (by rw [hx]; simp only [Tr.size]; omega)
    rw [hx] at this
    rw [← this]
    congr 1
    simp only [Tr.size]
    omega
  refine ⟨by omega, ?_, ?_⟩
  · have := h2 (a.size + b.size - 1) (by omega)
    rw [show i - (a.size + b.size) + (a.size + b.size - 1) = i - 1 by omega, sub_bin, if_neg (by omega), if_pos (by omega), show a.size + b.size - 1 - a.size = b.size - 1 by omega, Tr.sub_root] at this
    exact this
  · have := h2 (a.size - 1) (by omega)
    rw [show i - (a.size + b.size) + (a.size - 1) = i - 1 - b.size by omega, sub_bin, if_pos (by omega), Tr.sub_root] at this
    exact this
/-- The steps below a node of the expression's own. -/
theorem pos_steps : ∀ (t : Tr) (i k s : Nat), regV t → i < t.size → (posT t i true k s).1 = true → s ≤ (posT t i true k s).2.2 ∧ (posT t i true k s).2.2 + stepsN (t.sub i) ≤ s + stepsN t
  | .leaf h, i, k, s, hv, hi, _ => ⟨Nat.le_refl _, Nat.le_refl _⟩
  | .un h a, i, k, s, hv, hi, hp => by
    rw [sub_un]
    rw [posT_un] at hp ⊢
    by_cases h1 : i < a.size
    · rw [if_pos h1] at hp ⊢
      rw [if_pos h1]
      by_cases h19 : h.kind = 19
      · rw [decide_eq_false (by simpa using h19), Bool.and_false, pos_no] at hp; cases hp
      · rw [decide_eq_true (by simpa using h19), Bool.and_true] at hp ⊢
        have := pos_steps a i k s (hv.resolve_left h19).2 h1 hp
        rw [show stepsN (.un h a) = stepsN a from if_neg h19]
        exact this
    · rw [if_neg h1, if_neg h1]; exact ⟨Nat.le_refl _, Nat.le_refl _⟩
  | .bin h a b, i, k, s, hv, hi, hp => by
    simp only [Tr.size] at hi
    rw [sub_bin]
    rw [posT_bin] at hp ⊢
    have hs : stepsN (.bin h a b) = stepsN a + stepsN b := rfl
    by_cases h1 : i < a.size
    · rw [if_pos h1] at hp ⊢
      rw [if_pos h1]
      have := pos_steps a i k s hv.2.1 h1 hp
      omega
    · rw [if_neg h1] at hp ⊢
      rw [if_neg h1]
      by_cases h2 : i < a.size + b.size
      · rw [if_pos h2] at hp ⊢
        rw [if_pos h2]
        have := pos_steps b (i - a.size) (k + testsT a) (s + stepsN a) hv.2.2 (by omega) hp
        omega
      · rw [if_neg h2, if_neg h2]; exact ⟨Nat.le_refl _, Nat.le_refl _⟩
end Go.Proofs.Ytaomehlhopiblaa
/-! The tables of a plan in the making: plain lemmas. -/
namespace Go.Proofs.Ytaomehlhopiblaa
/-- A test of the expression's own; a step of its own. -/
def isT (t : Tr) (i : Nat) : Bool := (posT t i true 0 0).1 && decide ((t.sub i).root.kind = 19)
def isS (t : Tr) (i : Nat) : Bool := (posT t i true 0 0).1 && decide ((t.sub i).size = 1)
/-- The table zero when j tests are laid; first when j steps are. -/
def zer1 (t : Tr) (z : Zf) (j i x : Nat) : Bool := isT t i && decide ((posT t i true 0 0).2.1 < j) && z (posT t i true 0 0).2.1 x
def fst1 (t : Tr) (j i : Nat) : Fst := if isS t i = true ∧ (posT t i true 0 0).2.2 < j then [((posT t i true 0 0).2.2, fun _ => true)] else []
theorem testTr_un' : ∀ (t : Tr) (x : Tr), x ∈ testTr t → ∃ h f, x = .un h f ∧ h.kind = 19
  | .leaf _, x, h => by simp [testTr] at h
  | .un h a, x, hx => by
    by_cases h1 : h.kind = 19
    · simp [testTr, h1] at hx; exact ⟨h, a, hx, h1⟩
    · simp only [testTr, h1, if_false] at hx; exact testTr_un' a x hx
  | .bin h a b, x, hx => by
    simp only [testTr, List.mem_append] at hx
    rcases hx with hx | hx
    · exact testTr_un' a x hx
    · exact testTr_un' b x hx
/-- Of own nodes a root's kind tells the shape. -/
theorem own_shape {t : Tr} (hv : regV t) {i : Nat} (hi : i < t.size) (ho : (posT t i true 0 0).1 = true) : (isT t i = true ↔ ∃ h a, t.sub i = .un h a ∧ h.kind = 19) ∧ (isS t i = true ↔ ∃ h, t.sub i = .leaf h) := by
  have hr := own_regV t i 0 0 hv hi ho
  unfold isT isS
  rw [ho]
  simp only [Bool.true_and, decide_eq_true_eq]
  cases hx : t.sub i with
  | leaf h =>
    rw [hx] at hr
    have hr' : h.kind = 18 := hr
    refine ⟨⟨fun e => ?_, fun ⟨_, _, e, _⟩ => by cases e⟩, ⟨fun _ => ⟨h, rfl⟩, fun _ => rfl⟩⟩
    have e' : h.kind = 19 := e
    omega
  | un h a =>
    refine ⟨⟨fun e => ⟨h, a, rfl, e⟩, fun ⟨_, _, e, k⟩ => by injection e with e1 e2; subst e1; exact k⟩, ⟨fun e => ?_, fun ⟨_, e⟩ => by cases e⟩⟩
    have := a.size_pos
    simp only [Tr.size] at e
    omega
  | bin h a b =>
    rw [hx] at hr
    have hr' : h.kind = 20 ∨ h.kind = 21 := hr.1
    refine ⟨⟨fun e => ?_, fun ⟨_, _, e, _⟩ => by cases e⟩, ⟨fun e => ?_, fun ⟨_, e⟩ => by cases e⟩⟩
    · have e' : h.kind = 19 := e
      omega
    · have := a.size_pos
      simp only [Tr.size] at e
      omega
theorem isT_own {t : Tr} {i : Nat} (h : isT t i = true) : (posT t i true 0 0).1 = true := by unfold isT at h; rw [Bool.and_eq_true] at h; exact h.1
theorem isS_own {t : Tr} {i : Nat} (h : isS t i = true) : (posT t i true 0 0).1 = true := by unfold isS at h; rw [Bool.and_eq_true] at h; exact h.1
theorem test_facts {t : Tr} (hv : regV t) {j p : Nat} (hp : (testsL t 0)[j]? = some p) : p < t.size ∧ isT t p = true ∧ (posT t p true 0 0).2.1 = j := by
  obtain ⟨_, h2, h3⟩ := tests_sub t 0 j p hp
  obtain ⟨h4, h5⟩ := test_at t 0 j p 0 0 hp
  rw [Nat.sub_zero] at h2 h3 h4 h5
  obtain ⟨h, f, e, hk⟩ := testTr_un' t _ (List.mem_of_getElem? h3)
  exact ⟨h2, ((own_shape hv h2 h4).1).2 ⟨h, f, e, hk⟩, by omega⟩
theorem test_back {t : Tr} (hv : regV t) {i : Nat} (hi : i < t.size) (h : isT t i = true) : (testsL t 0)[(posT t i true 0 0).2.1]? = some i := by
  have ho := isT_own h
  have := (test_own t 0 i 0 0 hi ho (((own_shape hv hi ho).1).1 h)).1
  rw [Nat.sub_zero, Nat.zero_add] at this
  exact this
theorem step_facts {t : Tr} (hv : regV t) {j p : Nat} (hp : (stepsL t 0)[j]? = some p) : p < t.size ∧ isS t p = true ∧ (posT t p true 0 0).2.2 = j := by
  obtain ⟨_, h2, ⟨h, h3, _⟩, h4, h5⟩ := step_at t 0 j p 0 0 hv hp
  rw [Nat.sub_zero] at h2 h3 h4 h5
  exact ⟨h2, ((own_shape hv h2 h4).2).2 ⟨h, h3⟩, by omega⟩
theorem step_back {t : Tr} (hv : regV t) {i : Nat} (hi : i < t.size) (h : isS t i = true) : (stepsL t 0)[(posT t i true 0 0).2.2]? = some i := by
  have ho := isS_own h
  have := (leaf_step t 0 i 0 0 hv hi ho (((own_shape hv hi ho).2).1 h)).1
  rw [Nat.sub_zero, Nat.zero_add] at this
  exact this
theorem zer1_zero (t : Tr) (z : Zf) (i x : Nat) : zer1 t z 0 i x = false := by unfold zer1; simp
theorem fst1_zero (t : Tr) (i : Nat) : fst1 t 0 i = [] := by unfold fst1; rw [if_neg (by omega)]
theorem zer1_step {t : Tr} (hv : regV t) (z : Zf) {j p : Nat} (hp : (testsL t 0)[j]? = some p) (i x : Nat) (hi : i < t.size) : zer1 t z (j + 1) i x = if i = p then z j x else zer1 t z j i x := by
  obtain ⟨h1, h2, h3⟩ := test_facts hv hp
  by_cases e : i = p
  · subst e
    rw [if_pos rfl]
    unfold zer1
    rw [h2, h3]
    simp
  · rw [if_neg e]
    unfold zer1
    cases hT : isT t i
    · rfl
    · have hb := test_back hv hi hT
      have hne : (posT t i true 0 0).2.1 ≠ j := fun e2 => by rw [e2, hp] at hb; injection hb with hb; exact e hb.symm
      have : decide ((posT t i true 0 0).2.1 < j + 1) = decide ((posT t i true 0 0).2.1 < j) := decide_eq_decide.2 (by omega)
      rw [this]
theorem zer1_skip {t : Tr} (z : Zf) {j : Nat} (hz : ∀ x, z j x = false) (i x : Nat) : zer1 t z (j + 1) i x = zer1 t z j i x := by
  unfold zer1
  by_cases e : (posT t i true 0 0).2.1 = j
  · rw [e, hz]; simp
  · have : decide ((posT t i true 0 0).2.1 < j + 1) = decide ((posT t i true 0 0).2.1 < j) := decide_eq_decide.2 (by omega)
    rw [this]
theorem fst1_step {t : Tr} (hv : regV t) {j p : Nat} (hp : (stepsL t 0)[j]? = some p) (i : Nat) (hi : i < t.size) : fst1 t (j + 1) i = if i = p then [(j, fun _ => true)] else fst1 t j i := by
  obtain ⟨h1, h2, h3⟩ := step_facts hv hp
  by_cases e : i = p
  · subst e
    rw [if_pos rfl]
    unfold fst1
    rw [h3, if_pos ⟨h2, by omega⟩]
  · rw [if_neg e]
    unfold fst1
    by_cases hS : isS t i = true
    · have hb := step_back hv hi hS
      have hne : (posT t i true 0 0).2.2 ≠ j := fun e2 => by rw [e2, hp] at hb; injection hb with hb; exact e hb.symm
      by_cases hl : (posT t i true 0 0).2.2 < j
      · rw [if_pos ⟨hS, by omega⟩, if_pos ⟨hS, hl⟩]
      · rw [if_neg (by omega), if_neg (by omega)]
    · rw [if_neg (fun h => hS h.1), if_neg (fun h => hS h.1)]
/-- What fill says of node i. -/
def zerO (t : Tr) (z : Zf) (i : Nat) : Nat → Bool := zeroO z (posT t i true 0 0).1 (t.sub i) (posT t i true 0 0).2.1
def fstO (t : Tr) (z : Zf) (i : Nat) : Fst := firstO z (posT t i true 0 0).1 (t.sub i) (posT t i true 0 0).2.1 (posT t i true 0 0).2.2
def zer2 (t : Tr) (z : Zf) (n i : Nat) : Nat → Bool := if i < n then zerO t z i else zer1 t z (testsT t) i
def fst2 (t : Tr) (z : Zf) (n i : Nat) : Fst := if i < n then fstO t z i else fst1 t (stepsN t) i
theorem zer1_test {t : Tr} (hv : regV t) (z : Zf) {i : Nat} (hi : i < t.size) (x : Nat) : zer1 t z (testsT t) i x = (isT t i && z (posT t i true 0 0).2.1 x) := by
  unfold zer1
  cases hT : isT t i
  · rfl
  · have hb := test_back hv hi hT
    have := (List.getElem?_eq_some_iff.1 hb).1
    rw [length_tests] at this
    rw [decide_eq_true this, Bool.and_true]
theorem fst1_all {t : Tr} (hv : regV t) {i : Nat} (hi : i < t.size) : fst1 t (stepsN t) i = if isS t i = true then [((posT t i true 0 0).2.2, fun _ => true)] else [] := by
  unfold fst1
  by_cases hS : isS t i = true
  · have hb := step_back hv hi hS
    have := (List.getElem?_eq_some_iff.1 hb).1
    rw [length_stepsL t 0 hv] at this
    rw [if_pos ⟨hS, this⟩, if_pos hS]
  · rw [if_neg (fun h => hS h.1), if_neg hS]
theorem leaf_kind {h : Nd} (hv : validT (.leaf h) = true) : h.kind = 1 ∨ h.kind = 2 ∨ h.kind = 3 ∨ h.kind = 18 := by
  have := fields_kids (show fieldsS { h with kids := [] } = true from hv)
  have ha : (0 : Int) = arityS h.kind := this
  unfold arityS at ha
  clear this
  repeat' split at ha
  all_goals omega
theorem bin_kind {h : Nd} {a b : Tr} (hv : validT (.bin h a b) = true) : h.kind ≠ 19 ∧ h.kind ≠ 22 ∧ h.kind ≠ 18 := by
  simp only [validT, Bool.and_eq_true, beq_iff_eq] at hv
  have := fields_kids hv.1.1.1.1
  have ha : (2 : Int) = arityS h.kind := this
  unfold arityS at ha
  clear this
  refine ⟨?_, ?_, ?_⟩ <;> intro e <;> rw [e] at ha <;> simp at ha
theorem un_kind {h : Nd} {a : Tr} (hv : validT (.un h a) = true) : h.kind ≠ 20 ∧ h.kind ≠ 21 ∧ h.kind ≠ 18 := by
  simp only [validT, Bool.and_eq_true, beq_iff_eq] at hv
  have := fields_kids hv.1.1
  have ha : (1 : Int) = arityS h.kind := this
  unfold arityS at ha
  clear this
  refine ⟨?_, ?_, ?_⟩ <;> intro e <;> rw [e] at ha <;> simp at ha
/-- A node that fill leaves alone is as it was laid. -/
theorem fill_same {t : Tr} (hv : regV t) (hva : validT t = true) (z : Zf) {n : Nat} (hn : n < t.size) (hk : (t.sub n).root.kind ≠ 20 ∧ (t.sub n).root.kind ≠ 21 ∧ (t.sub n).root.kind ≠ 22) : (∀ x, zerO t z n x = zer1 t z (testsT t) n x) ∧ fstO t z n = fst1 t (stepsN t) n := by
  have hvn := sub_valid t n hva
  rw [fst1_all hv hn]
  unfold zerO fstO
  cases hx : t.sub n with
  | leaf h =>
    rw [hx] at hvn
    have hk4 := leaf_kind hvn
    refine ⟨fun x => ?_, ?_⟩
    · rw [zer1_test hv z hn]
      unfold isT
      rw [hx]
      have : decide ((Tr.leaf h).root.kind = 19) = false := decide_eq_false (by show h.kind ≠ 19; omega)
      rw [this, Bool.and_false]
      rfl
    · unfold firstO isS
      rw [hx]
      cases ho : (posT t n true 0 0).1
      · simp
      · have hr := own_regV t n 0 0 hv hn ho
        rw [hx] at hr
        have hr' : h.kind = 18 := hr
        rw [if_pos ⟨rfl, hr'⟩, if_pos (by simp [Tr.size])]
  | un h a =>
    rw [hx] at hk hvn
    have hk' : h.kind ≠ 22 := hk.2.2
    have hap := a.size_pos
    refine ⟨fun x => ?_, ?_⟩
    · rw [zer1_test hv z hn]
      unfold isT zeroO
      rw [hx]
      by_cases h19 : h.kind = 19
      · rw [if_pos h19, show decide ((Tr.un h a).root.kind = 19) = true from decide_eq_true h19, Bool.and_true]
      · rw [if_neg h19, if_neg hk', show decide ((Tr.un h a).root.kind = 19) = false from decide_eq_false h19, Bool.and_false]
        rfl
    · unfold firstO isS
      rw [hx, if_neg hk', if_neg]
      intro e
      rw [Bool.and_eq_true] at e
      have := of_decide_eq_true e.2
      simp only [Tr.size] at this
      omega
  | bin h a b =>
    rw [hx] at hk hvn
    have hap := a.size_pos
    have hk' : h.kind ≠ 20 ∧ h.kind ≠ 21 := ⟨hk.1, hk.2.1⟩
    have h19 := (bin_kind hvn).1
    refine ⟨fun x => ?_, ?_⟩
    · rw [zer1_test hv z hn]
      unfold isT zeroO
      rw [hx, if_neg hk'.1, if_neg hk'.2, show decide ((Tr.bin h a b).root.kind = 19) = false from decide_eq_false h19, Bool.and_false]
      rfl
    · unfold firstO isS
      rw [hx, if_neg hk'.1, if_neg hk'.2, if_neg]
      intro e
      rw [Bool.and_eq_true] at e
      have := of_decide_eq_true e.2
      simp only [Tr.size] at this
      omega
theorem zer2_keep {t : Tr} (hv : regV t) (hva : validT t = true) (z : Zf) {n : Nat} (hn : n < t.size) (hk : (t.sub n).root.kind ≠ 20 ∧ (t.sub n).root.kind ≠ 21 ∧ (t.sub n).root.kind ≠ 22) (i x : Nat) : zer2 t z n i x = zer2 t z (n + 1) i x := by
  unfold zer2
  by_cases e : i = n
  · subst e
    rw [if_neg (by omega), if_pos (by omega), (fill_same hv hva z hn hk).1 x]
  · by_cases h : i < n
    · rw [if_pos h, if_pos (by omega)]
    · rw [if_neg h, if_neg (by omega)]
theorem fst2_keep {t : Tr} (hv : regV t) (hva : validT t = true) (z : Zf) {n : Nat} (hn : n < t.size) (hk : (t.sub n).root.kind ≠ 20 ∧ (t.sub n).root.kind ≠ 21 ∧ (t.sub n).root.kind ≠ 22) (i : Nat) : fst2 t z n i = fst2 t z (n + 1) i := by
  unfold fst2
  by_cases e : i = n
  · subst e
    rw [if_neg (by omega), if_pos (by omega), (fill_same hv hva z hn hk).2]
  · by_cases h : i < n
    · rw [if_pos h, if_pos (by omega)]
    · rw [if_neg h, if_neg (by omega)]
theorem zer2_next (t : Tr) (z : Zf) (n i x : Nat) : (if i = n then zerO t z n else zer2 t z n i) x = zer2 t z (n + 1) i x := by
  unfold zer2
  by_cases e : i = n
  · subst e
    rw [if_pos rfl, if_pos (by omega)]
  · rw [if_neg e]
    by_cases h : i < n
    · rw [if_pos h, if_pos (by omega)]
    · rw [if_neg h, if_neg (by omega)]
theorem fst2_next (t : Tr) (z : Zf) (n i : Nat) : (if i = n then fstO t z n else fst2 t z n i) = fst2 t z (n + 1) i := by
  unfold fst2
  by_cases e : i = n
  · subst e
    rw [if_pos rfl, if_pos (by omega)]
  · rw [if_neg e]
    by_cases h : i < n
    · rw [if_pos h, if_pos (by omega)]
    · rw [if_neg h, if_neg (by omega)]
theorem zer2_kid {t : Tr} {z : Zf} {n i : Nat} (h : i < n) : zer2 t z n i = zerO t z i := if_pos h
theorem fst2_kid {t : Tr} {z : Zf} {n i : Nat} (h : i < n) : fst2 t z n i = fstO t z i := if_pos h
/-- What is said of a node by its kids. -/
theorem zero_many (z : Zf) (own : Bool) {h : Nd} (a : Tr) (h22 : h.kind = 22) (k x : Nat) : zeroO z own (.un h a) k x = true := by
  unfold zeroO
  rw [if_neg (by omega), if_pos h22]
theorem zerO_many {t : Tr} (z : Zf) {n : Nat} {h : Nd} {a : Tr} (hx : t.sub n = .un h a) (h22 : h.kind = 22) (x : Nat) : zerO t z n x = true := by
  unfold zerO
  rw [hx]
  exact zero_many z _ a h22 _ x
theorem fstO_many {t : Tr} (z : Zf) {n : Nat} (hn : n < t.size) {h : Nd} {a : Tr} (hx : t.sub n = .un h a) (h22 : h.kind = 22) : fstO t z n = fstO t z (n - 1) := by
  obtain ⟨_, hp⟩ := pos_un hn hx true 0 0
  obtain ⟨_, hk, _⟩ := kid_un hn hx
  unfold fstO
  rw [hp, hk, decide_eq_true (show h.kind ≠ 19 by omega), Bool.and_true, hx]
  exact if_pos h22
theorem zerO_alt {t : Tr} (z : Zf) {n : Nat} (hn : n < t.size) {h : Nd} {a b : Tr} (hx : t.sub n = .bin h a b) (h20 : h.kind = 20) (x : Nat) : zerO t z n x = (zerO t z (n - 1 - b.size) x || zerO t z (n - 1) x) := by
  obtain ⟨_, hp, hq⟩ := pos_bin hn hx true 0 0
  obtain ⟨_, hk, hl⟩ := kid_bin hn hx
  unfold zerO
  rw [hp, hq, hk, hl, hx]
  conv => lhs; unfold zeroO
  rw [if_pos h20]
theorem zerO_seq {t : Tr} (z : Zf) {n : Nat} (hn : n < t.size) {h : Nd} {a b : Tr} (hx : t.sub n = .bin h a b) (h21 : h.kind = 21) (x : Nat) : zerO t z n x = (zerO t z (n - 1 - b.size) x && zerO t z (n - 1) x) := by
  obtain ⟨_, hp, hq⟩ := pos_bin hn hx true 0 0
  obtain ⟨_, hk, hl⟩ := kid_bin hn hx
  unfold zerO
  rw [hp, hq, hk, hl, hx]
  conv => lhs; unfold zeroO
  rw [if_neg (by omega), if_pos h21]
theorem fstO_alt {t : Tr} (z : Zf) {n : Nat} (hn : n < t.size) {h : Nd} {a b : Tr} (hx : t.sub n = .bin h a b) (h20 : h.kind = 20) : fstO t z n = fstO t z (n - 1 - b.size) ++ fstO t z (n - 1) := by
  obtain ⟨_, hp, hq⟩ := pos_bin hn hx true 0 0
  obtain ⟨_, hk, hl⟩ := kid_bin hn hx
  unfold fstO
  rw [hp, hq, hk, hl, hx]
  conv => lhs; unfold firstO
  rw [if_pos h20]
theorem fstO_seq {t : Tr} (z : Zf) {n : Nat} (hn : n < t.size) {h : Nd} {a b : Tr} (hx : t.sub n = .bin h a b) (h21 : h.kind = 21) : fstO t z n = fstO t z (n - 1 - b.size) ++ (fstO t z (n - 1)).map (fun p => (p.1, fun x => p.2 x && zerO t z (n - 1 - b.size) x)) := by
  obtain ⟨_, hp, hq⟩ := pos_bin hn hx true 0 0
  obtain ⟨_, hk, hl⟩ := kid_bin hn hx
  unfold fstO zerO
  rw [hp, hq, hk, hl, hx]
  conv => lhs; unfold firstO
  rw [if_neg (by omega), if_pos h21]
theorem fstO_len (t : Tr) (z : Zf) {n : Nat} (hn : n < t.size) : (fstO t z n).length ≤ t.size := by
  have h1 : ∀ (t : Tr) (o : Bool) (k s : Nat), (firstO z o t k s).length ≤ t.size := by
    intro t
    induction t with
    | leaf h => intro o k s; unfold firstO; split <;> simp [Tr.size]
    | un h a ih => intro o k s; have := ih o k s; unfold firstO; simp only [Tr.size]; split <;> simp <;> omega
    | bin h a b iha ihb =>
      intro o k s
      have := iha o k s
      have := ihb o (k + testsT a) (s + stepsN a)
      unfold firstO; simp only [Tr.size]
      split
      · simp; omega
      · split <;> simp <;> omega
  have := h1 (t.sub n) (posT t n true 0 0).1 (posT t n true 0 0).2.1 (posT t n true 0 0).2.2
  have := Tr.sub_size_le t n hn
  unfold fstO
  omega
theorem fst1_len (t : Tr) (j i : Nat) : (fst1 t j i).length ≤ 1 := by unfold fst1; split <;> simp
end Go.Proofs.Ytaomehlhopiblaa
