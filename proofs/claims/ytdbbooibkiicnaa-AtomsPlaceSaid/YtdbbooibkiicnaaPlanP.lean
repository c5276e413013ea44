/- What can be passed, what is first, what is ahead, of a regular expression: plain definitions and lemmas, no program in sight. -/
import Derived.Test.YtdbbooibkiicnaaTurnS
set_option linter.unusedVariables false
set_option linter.unusedSimpArgs false
namespace Go.Proofs.Ytdbbooibkiicnaa
/-! Tests hold by functions z q x: test number q at assignment x. -/
abbrev Zf := Nat → Nat → Bool
abbrev Fst := List (Nat × (Nat → Bool))
/-- Where a node can be passed; own: does it belong to the expression itself? -/
def zeroO (z : Zf) (own : Bool) : Tr → Nat → Nat → Bool
  | .leaf _, _ => fun _ => false
  | .un h _, k => if h.kind = 19 then fun x => own && z k x else if h.kind = 22 then fun _ => true else fun _ => false
  | .bin h a b, k => if h.kind = 20 then fun x => zeroO z own a k x || zeroO z own b (k + testsT a) x else if h.kind = 21 then fun x => zeroO z own a k x && zeroO z own b (k + testsT a) x else fun _ => false
/-- Its first steps. -/
def firstO (z : Zf) (own : Bool) : Tr → Nat → Nat → Fst
  | .leaf h, _, s => if own = true ∧ h.kind = 18 then [(s, fun _ => true)] else []
  | .un h a, k, s => if h.kind = 22 then firstO z own a k s else []
  | .bin h a b, k, s =>
    if h.kind = 20 then firstO z own a k s ++ firstO z own b (k + testsT a) (s + stepsN a)
    else if h.kind = 21 then firstO z own a k s ++ (firstO z own b (k + testsT a) (s + stepsN a)).map (fun p => (p.1, fun x => p.2 x && zeroO z own a k x))
    else []
def inF (l : Fst) (q x : Nat) : Bool := l.any fun p => p.1 == q && p.2 x
theorem inF_nil (q x : Nat) : inF [] q x = false := rfl
theorem inF_cons (p : Nat × (Nat → Bool)) (l : Fst) (q x : Nat) : inF (p :: l) q x = (p.1 == q && p.2 x || inF l q x) := rfl
theorem inF_append (l m : Fst) (q x : Nat) : inF (l ++ m) q x = (inF l q x || inF m q x) := by simp [inF]
theorem inF_map (l : Fst) (f : Nat → Bool) (q x : Nat) : inF (l.map fun p => (p.1, fun x => p.2 x && f x)) q x = (inF l q x && f x) := by
  induction l with
  | nil => simp [inF]
  | cons p l ih =>
    rw [List.map_cons, inF_cons, inF_cons, ih]
    cases (p.1 == q) <;> cases hp : p.2 x <;> cases hf : f x <;> cases inF l q x <;> simp [hp, hf]
/-- What is ahead of a state, and where there is an end. -/
def aheadO (z : Zf) : Tr → Nat → Nat → Nat → (Nat → Nat → Bool) × (Nat → Bool)
  | .leaf _, _, _, _ => (fun _ _ => false, fun _ => true)
  | .un h a, k, s, st => if h.kind = 22 then (fun q x => (aheadO z a k s st).1 q x || ((aheadO z a k s st).2 x && inF (firstO z true a k s) q x), (aheadO z a k s st).2) else (fun _ _ => false, fun _ => false)
  | .bin h a b, k, s, st =>
    if st < s + stepsN a then
      if h.kind = 20 then aheadO z a k s st
      else (fun q x => (aheadO z a k s st).1 q x || ((aheadO z a k s st).2 x && inF (firstO z true b (k + testsT a) (s + stepsN a)) q x), fun x => (aheadO z a k s st).2 x && zeroO z true b (k + testsT a) x)
    else aheadO z b (k + testsT a) (s + stepsN a) st
/-- State 0 stands ahead of all, state k behind step k. -/
def stateO (z : Zf) (t : Tr) (k : Nat) : (Nat → Nat → Bool) × (Nat → Bool) :=
  if k = 0 then (inF (firstO z true t 0 0), zeroO z true t 0)
  else if k ≤ stepsN t then aheadO z t 0 0 (k - 1)
  else (fun _ _ => false, fun _ => false)
/-! ### One assignment alone -/
theorem zero_at (z z' : Zf) (own : Bool) (x y : Nat) : ∀ (t : Tr) (k : Nat), (∀ q, q < testsT t → z (k + q) x = z' (k + q) y) → zeroO z own t k x = zeroO z' own t k y
  | .leaf _, _, _ => rfl
  | .un h a, k, e => by
    unfold zeroO
    split
    · rename_i h19
      have := e 0 (by unfold testsT; rw [if_pos h19]; omega)
      rw [Nat.add_zero] at this
      show (own && z k x) = (own && z' k y)
      rw [this]
    · split <;> rfl
  | .bin h a b, k, e => by
    have h1 := zero_at z z' own x y a k (fun q hq => e q (by unfold testsT; omega))
    have h2 := zero_at z z' own x y b (k + testsT a) (fun q hq => by have := e (testsT a + q) (by rw [testsT]; omega); rwa [← Nat.add_assoc] at this)
    unfold zeroO
    split
    · show (_ || _) = (_ || _); rw [h1, h2]
    · split
      · show (_ && _) = (_ && _); rw [h1, h2]
      · rfl
theorem first_at (z z' : Zf) (own : Bool) (x y q : Nat) : ∀ (t : Tr) (k s : Nat), (∀ q, q < testsT t → z (k + q) x = z' (k + q) y) → inF (firstO z own t k s) q x = inF (firstO z' own t k s) q y
  | .leaf h, _, s, _ => by
    unfold firstO
    split <;> rfl
  | .un h a, k, s, e => by
    unfold firstO
    split
    · rename_i h22
      exact first_at z z' own x y q a k s (fun q hq => e q (by unfold testsT; rw [if_neg (by omega)]; exact hq))
    · rfl
  | .bin h a b, k, s, e => by
    have ea : ∀ q, q < testsT a → z (k + q) x = z' (k + q) y := fun q hq => e q (by unfold testsT; omega)
    have h1 := first_at z z' own x y q a k s ea
    have h2 := first_at z z' own x y q b (k + testsT a) (s + stepsN a) (fun q hq => by have := e (testsT a + q) (by rw [testsT]; omega); rwa [← Nat.add_assoc] at this)
    have h3 := zero_at z z' own x y a k ea
    unfold firstO
    split
    · rw [inF_append, inF_append, h1, h2]
    · split
      · rw [inF_append, inF_append, inF_map, inF_map, h1, h2, h3]
      · rfl
theorem ahead_at (z z' : Zf) (x y q : Nat) : ∀ (t : Tr) (k s st : Nat), (∀ q, q < testsT t → z (k + q) x = z' (k + q) y) → regV t → (aheadO z t k s st).1 q x = (aheadO z' t k s st).1 q y ∧ (aheadO z t k s st).2 x = (aheadO z' t k s st).2 y
  | .leaf h, _, s, _, _, _ => ⟨rfl, rfl⟩
  | .un h a, k, s, st, e, hv => by
    by_cases h22 : h.kind = 22
    case neg =>
      unfold aheadO
      rw [if_neg h22, if_neg h22]
      exact ⟨rfl, rfl⟩
    case pos =>
      have h19 : h.kind ≠ 19 := by omega
      have ea : ∀ q, q < testsT a → z (k + q) x = z' (k + q) y := fun q hq => e q (by unfold testsT; rw [if_neg h19]; exact hq)
      obtain ⟨h1, h2⟩ := ahead_at z z' x y q a k s st ea (hv.resolve_left h19).2
      have h3 := first_at z z' true x y q a k s ea
      unfold aheadO
      rw [if_pos h22, if_pos h22]
      simp only
      rw [h1, h2, h3]
      exact ⟨rfl, rfl⟩
  | .bin h a b, k, s, st, e, hv => by
    have ea : ∀ q, q < testsT a → z (k + q) x = z' (k + q) y := fun q hq => e q (by unfold testsT; omega)
    have eb : ∀ q, q < testsT b → z (k + testsT a + q) x = z' (k + testsT a + q) y := fun q hq => by have := e (testsT a + q) (by rw [testsT]; omega); rwa [← Nat.add_assoc] at this
    obtain ⟨h1, h2⟩ := ahead_at z z' x y q a k s st ea hv.2.1
    obtain ⟨h3, h4⟩ := ahead_at z z' x y q b (k + testsT a) (s + stepsN a) st eb hv.2.2
    have h5 := first_at z z' true x y q b (k + testsT a) (s + stepsN a) eb
    have h6 := zero_at z z' true x y b (k + testsT a) eb
    unfold aheadO
    split
    · split
      · exact ⟨h1, h2⟩
      · simp only
        rw [h1, h2, h5, h6]
        exact ⟨rfl, rfl⟩
    · exact ⟨h3, h4⟩
/-! ### Places: does a node belong to the expression, and from which test and step on? -/
def posT : Tr → Nat → Bool → Nat → Nat → Bool × Nat × Nat
  | .leaf _, _, o, k, s => (o, k, s)
  | .un h a, i, o, k, s => if i < a.size then posT a i (o && decide (h.kind ≠ 19)) k s else (o, k, s)
  | .bin _ a b, i, o, k, s => if i < a.size then posT a i o k s else if i < a.size + b.size then posT b (i - a.size) o (k + testsT a) (s + stepsN a) else (o, k, s)
theorem posT_un (h : Nd) (a : Tr) (i : Nat) (o : Bool) (k s : Nat) : posT (.un h a) i o k s = if i < a.size then posT a i (o && decide (h.kind ≠ 19)) k s else (o, k, s) := rfl
theorem posT_bin (h : Nd) (a b : Tr) (i : Nat) (o : Bool) (k s : Nat) : posT (.bin h a b) i o k s = if i < a.size then posT a i o k s else if i < a.size + b.size then posT b (i - a.size) o (k + testsT a) (s + stepsN a) else (o, k, s) := rfl
theorem pos_root : ∀ (t : Tr) (o : Bool) (k s : Nat), posT t (t.size - 1) o k s = (o, k, s)
  | .leaf _, _, _, _ => rfl
  | .un h a, o, k, s => by
    unfold posT
    rw [if_neg (by simp [Tr.size])]
  | .bin h a b, o, k, s => by
    unfold posT
    have := b.size_pos
    rw [if_neg (by simp only [Tr.size]; omega), if_neg (by simp only [Tr.size]; omega)]
theorem pos_sub : ∀ (t : Tr) (i j : Nat) (o : Bool) (k s : Nat), i < t.size → j < (t.sub i).size → posT t (i + 1 - (t.sub i).size + j) o k s = posT (t.sub i) j (posT t i o k s).1 (posT t i o k s).2.1 (posT t i o k s).2.2
  | .leaf h, i, j, o, k, s, hi, hj => by
    simp only [Tr.size] at hi
    obtain rfl : i = 0 := by omega
    simp only [Tr.sub, Tr.size] at hj ⊢
    obtain rfl : j = 0 := by omega
    rfl
  | .un h a, i, j, o, k, s, hi, hj => by
    rw [sub_un] at hj ⊢
    simp only [Tr.size] at hi
    by_cases h1 : i < a.size
    · rw [if_pos h1] at hj ⊢
      have hle := Tr.sub_size_le a i h1
      have ih := pos_sub a i j (o && decide (h.kind ≠ 19)) k s h1 hj
      rw [posT_un h a i, if_pos h1, posT_un, if_pos (by omega)]
      exact ih
    · rw [if_neg h1] at hj ⊢
      obtain rfl : i = a.size := by omega
      have e : posT (.un h a) a.size o k s = (o, k, s) := by unfold posT; rw [if_neg h1]
      rw [e]
      simp only [Tr.size]
      rw [show a.size + 1 - (a.size + 1) + j = j by omega]
  | .bin h a b, i, j, o, k, s, hi, hj => by
    rw [sub_bin] at hj ⊢
    simp only [Tr.size] at hi
    by_cases h1 : i < a.size
    · rw [if_pos h1] at hj ⊢
      have hle := Tr.sub_size_le a i h1
      have ih := pos_sub a i j o k s h1 hj
      rw [posT_bin h a b i, if_pos h1, posT_bin, if_pos (by omega)]
      exact ih
    · rw [if_neg h1] at hj ⊢
      by_cases h2 : i < a.size + b.size
      · rw [if_pos h2] at hj ⊢
        have hle := Tr.sub_size_le b (i - a.size) (by omega)
        have ih := pos_sub b (i - a.size) j o (k + testsT a) (s + stepsN a) (by omega) hj
        have e : posT (.bin h a b) i o k s = posT b (i - a.size) o (k + testsT a) (s + stepsN a) := by
          conv => lhs; unfold posT
          rw [if_neg h1, if_pos h2]
        have e2 : posT (.bin h a b) (i + 1 - (b.sub (i - a.size)).size + j) o k s = posT b (i + 1 - (b.sub (i - a.size)).size + j - a.size) o (k + testsT a) (s + stepsN a) := by
          conv => lhs; unfold posT
          rw [if_neg (by omega), if_pos (by omega)]
        rw [e, e2, ← ih]
        congr 1
        omega
      · rw [if_neg h2] at hj ⊢
        obtain rfl : i = a.size + b.size := by omega
        have e : posT (.bin h a b) (a.size + b.size) o k s = (o, k, s) := by unfold posT; rw [if_neg h1, if_neg h2]
        rw [e]
        simp only [Tr.size]
        rw [show a.size + b.size + 1 - (a.size + b.size + 1) + j = j by omega]
/-- Of a node's kids. -/
theorem pos_un {t : Tr} {i : Nat} (hi : i < t.size) {h : Nd} {a : Tr} (hx : t.sub i = .un h a) (o : Bool) (k s : Nat) : a.size ≤ i ∧ posT t (i - 1) o k s = ((posT t i o k s).1 && decide (h.kind ≠ 19), (posT t i o k s).2.1, (posT t i o k s).2.2) := by
  have hle := Tr.sub_size_le t i hi
  have hp := a.size_pos
  rw [hx] at hle
  simp only [Tr.size] at hle
  have := pos_sub t i (a.size - 1) o k s hi (by rw [hx]; simp only [Tr.size]; omega)
  rw [hx] at this
  simp only [Tr.size] at this
  rw [show i + 1 - (a.size + 1) + (a.size - 1) = i - 1 by omega] at this
  refine ⟨by omega, ?_⟩
  rw [this]
  conv => lhs; unfold posT
  rw [if_pos (by omega), pos_root]
theorem pos_bin {t : Tr} {i : Nat} (hi : i < t.size) {h : Nd} {a b : Tr} (hx : t.sub i = .bin h a b) (o : Bool) (k s : Nat) : a.size + b.size ≤ i ∧ posT t (i - 1 - b.size) o k s = posT t i o k s ∧ posT t (i - 1) o k s = ((posT t i o k s).1, (posT t i o k s).2.1 + testsT a, (posT t i o k s).2.2 + stepsN a) := by
  have hle := Tr.sub_size_le t i hi
  have hp := a.size_pos
  have hq := b.size_pos
  rw [hx] at hle
  simp only [Tr.size] at hle
  have h1 := pos_sub t i (a.size - 1) o k s hi (by rw [hx]; simp only [Tr.size]; omega)
  have h2 := pos_sub t i (a.size + b.size - 1) o k s hi (by rw [hx]; simp only [Tr.size]; omega)
  rw [hx] at h1 h2
  simp only [Tr.size] at h1 h2
  rw [show i + 1 - (a.size + b.size + 1) + (a.size - 1) = i - 1 - b.size by omega] at h1
  rw [show i + 1 - (a.size + b.size + 1) + (a.size + b.size - 1) = i - 1 by omega] at h2
  refine ⟨by omega, ?_, ?_⟩
  · rw [h1]
    conv => lhs; unfold posT
    rw [if_pos (by omega), pos_root]
  · rw [h2]
    conv => lhs; unfold posT
    rw [if_neg (by omega), if_pos (by omega), show a.size + b.size - 1 - a.size = b.size - 1 by omega, pos_root]
/-- The places of the steps. -/
def stepsL : Tr → Nat → List Nat
  | .leaf _, o => [o]
  | .un h a, o => if h.kind = 19 then [] else stepsL a o
  | .bin _ a b, o => stepsL a o ++ stepsL b (o + a.size)
theorem stepsL_kinds : ∀ (t : Tr) (o : Nat) (l pre post : List Nd), l = pre ++ t.flat o ++ post → pre.length = o → regV t → ((ownT t o).filter fun p => decide (kindAt l p = 18)) = stepsL t o
  | .leaf h, o, l, pre, post, hl, hp, hv => by
    have hk := kind_placed hl hp
    simp only [Tr.size, Nat.add_sub_cancel, Tr.root] at hk
    have hv' : h.kind = 18 := hv
    simp [ownT, stepsL, hk, hv']
  | .un h a, o, l, pre, post, hl, hp, hv => by
    have hk := kind_placed hl hp
    simp only [Tr.size, Tr.root] at hk
    rw [show o + (a.size + 1) - 1 = o + a.size by omega] at hk
    unfold ownT stepsL
    by_cases h19 : h.kind = 19
    · rw [if_pos h19, if_pos h19]
      simp [hk, h19]
    · rw [if_neg h19, if_neg h19]
      obtain ⟨h22, hva⟩ := hv.resolve_left h19
      rw [List.filter_append, stepsL_kinds a o l pre ({ h with kids := [((o + a.size : Nat) : Int) - 1] } :: post) (by rw [hl, Tr.flat]; simp) hp hva]
      simp [hk, h22]
  | .bin h a b, o, l, pre, post, hl, hp, hv => by
    have hk := kind_placed hl hp
    simp only [Tr.size, Tr.root] at hk
    rw [show o + (a.size + b.size + 1) - 1 = o + a.size + b.size by omega] at hk
    unfold ownT stepsL
    have hn : h.kind ≠ 18 := by rcases hv.1 with e | e <;> omega
    rw [List.filter_append, List.filter_append, stepsL_kinds a o l pre (b.flat (o + a.size) ++ { h with kids := [((o + a.size : Nat) : Int) - 1, ((o + a.size + b.size : Nat) : Int) - 1] } :: post) (by rw [hl, Tr.flat]; simp) hp hv.2.1, stepsL_kinds b (o + a.size) l (pre ++ a.flat o) ({ h with kids := [((o + a.size : Nat) : Int) - 1, ((o + a.size + b.size : Nat) : Int) - 1] } :: post) (by rw [hl, Tr.flat]; simp) (by simp [hp, Tr.length_flat]) hv.2.2]
    simp [hk, hn]
theorem length_stepsL : ∀ (t : Tr) (o : Nat), regV t → (stepsL t o).length = stepsN t
  | .leaf h, o, hv => by
    have hv' : h.kind = 18 := hv
    simp [stepsL, stepsN]
  | .un h a, o, hv => by
    unfold stepsL stepsN
    split
    · rfl
    · rename_i h19
      exact length_stepsL a o (hv.resolve_left h19).2
  | .bin h a b, o, hv => by
    unfold stepsL stepsN
    rw [List.length_append, length_stepsL a o hv.2.1, length_stepsL b _ hv.2.2]
/-- A step's place: a leaf of the expression's own, with its number. -/
theorem step_at : ∀ (t : Tr) (o q p k s : Nat), regV t → (stepsL t o)[q]? = some p → o ≤ p ∧ p - o < t.size ∧ (∃ h, t.sub (p - o) = .leaf h ∧ h.kind = 18) ∧ (posT t (p - o) true k s).1 = true ∧ (posT t (p - o) true k s).2.2 = s + q
  | .leaf h, o, q, p, k, s, hv, hq => by
    unfold stepsL at hq
    cases q with
    | zero =>
      simp at hq
      subst hq
      exact ⟨Nat.le_refl _, by simp [Tr.size], ⟨h, rfl, hv⟩, rfl, rfl⟩
    | succ q => simp at hq
  | .un h a, o, q, p, k, s, hv, hq => by
    unfold stepsL at hq
    by_cases h19 : h.kind = 19
    · rw [if_pos h19] at hq; simp at hq
    · rw [if_neg h19] at hq
      obtain ⟨h1, h2, h3, h4, h5⟩ := step_at a o q p k s (hv.resolve_left h19).2 hq
      refine ⟨h1, by simp only [Tr.size]; omega, ?_, ?_, ?_⟩
      · rw [sub_un, if_pos h2]; exact h3
      · unfold posT; rw [if_pos h2, decide_eq_true (by simpa using h19)]; exact h4
      · unfold posT; rw [if_pos h2, decide_eq_true (by simpa using h19)]; exact h5
  | .bin h a b, o, q, p, k, s, hv, hq => by
    unfold stepsL at hq
    have hla := length_stepsL a o hv.2.1
    by_cases h1 : q < stepsN a
    · rw [List.getElem?_append_left (by omega)] at hq
      obtain ⟨g1, g2, g3, g4, g5⟩ := step_at a o q p k s hv.2.1 hq
      refine ⟨g1, by simp only [Tr.size]; omega, ?_, ?_, ?_⟩
      · rw [sub_bin, if_pos g2]; exact g3
      · unfold posT; rw [if_pos g2]; exact g4
      · unfold posT; rw [if_pos g2]; exact g5
    · rw [List.getElem?_append_right (by omega), hla] at hq
      obtain ⟨g1, g2, g3, g4, g5⟩ := step_at b (o + a.size) (q - stepsN a) p (k + testsT a) (s + stepsN a) hv.2.2 hq
      rw [show p - (o + a.size) = p - o - a.size by omega] at g2 g3 g4 g5
      refine ⟨by omega, by simp only [Tr.size]; omega, ?_, ?_, ?_⟩
      · rw [sub_bin, if_neg (by omega), if_pos (by omega)]; exact g3
      · unfold posT; rw [if_neg (by omega), if_pos (by omega)]; exact g4
      · unfold posT; rw [if_neg (by omega), if_pos (by omega), g5]; omega
theorem pos_no : ∀ (t : Tr) (i k s : Nat), (posT t i false k s).1 = false
  | .leaf _, _, _, _ => rfl
  | .un h a, i, k, s => by
    unfold posT
    split
    · rw [Bool.false_and]; exact pos_no a i k s
    · rfl
  | .bin h a b, i, k, s => by
    unfold posT
    split
    · exact pos_no a i k s
    · split
      · exact pos_no b _ _ _
      · rfl
/-- A leaf of the expression's own is a step. -/
theorem leaf_step : ∀ (t : Tr) (o i k s : Nat), regV t → i < t.size → (posT t i true k s).1 = true → (∃ h, t.sub i = .leaf h) → (stepsL t o)[(posT t i true k s).2.2 - s]? = some (o + i) ∧ s ≤ (posT t i true k s).2.2
  | .leaf h, o, i, k, s, hv, hi, _, _ => by
    simp only [Tr.size] at hi
    obtain rfl : i = 0 := by omega
    simp [posT, stepsL]
  | .un h a, o, i, k, s, hv, hi, hp, hl => by
    simp only [Tr.size] at hi
    rw [sub_un] at hl
    unfold posT at hp ⊢
    by_cases h1 : i < a.size
    · rw [if_pos h1] at hl hp ⊢
      by_cases h19 : h.kind = 19
      · rw [decide_eq_false (by simpa using h19), Bool.and_false, pos_no] at hp; cases hp
      · rw [decide_eq_true (by simpa using h19), Bool.and_true] at hp ⊢
        unfold stepsL
        rw [if_neg h19]
        exact leaf_step a o i k s (hv.resolve_left h19).2 h1 hp hl
    · rw [if_neg h1] at hl; obtain ⟨h', e⟩ := hl; cases e
  | .bin h a b, o, i, k, s, hv, hi, hp, hl => by
    simp only [Tr.size] at hi
    rw [sub_bin] at hl
    have hla := length_stepsL a o hv.2.1
    unfold posT at hp ⊢
    unfold stepsL
    by_cases h1 : i < a.size
    · rw [if_pos h1] at hl hp ⊢
      obtain ⟨g1, g2⟩ := leaf_step a o i k s hv.2.1 h1 hp hl
      exact ⟨by rw [List.getElem?_append_left (List.getElem?_eq_some_iff.1 g1).1]; exact g1, g2⟩
    · rw [if_neg h1] at hl hp ⊢
      by_cases h2 : i < a.size + b.size
      · rw [if_pos h2] at hl hp ⊢
        obtain ⟨g1, g2⟩ := leaf_step b (o + a.size) (i - a.size) (k + testsT a) (s + stepsN a) hv.2.2 (by omega) hp hl
        refine ⟨?_, by omega⟩
        rw [List.getElem?_append_right (by omega), hla, show (posT b (i - a.size) true (k + testsT a) (s + stepsN a)).2.2 - s - stepsN a = (posT b (i - a.size) true (k + testsT a) (s + stepsN a)).2.2 - (s + stepsN a) by omega, g1]
        congr 1
        omega
      · rw [if_neg h2] at hl; obtain ⟨h', e⟩ := hl; cases e
/-- A test's place: of the expression's own, with its number. -/
theorem test_at : ∀ (t : Tr) (o q p k s : Nat), (testsL t o)[q]? = some p → (posT t (p - o) true k s).1 = true ∧ (posT t (p - o) true k s).2.1 = k + q
  | .leaf h, o, q, p, k, s, hq => by simp [testsL] at hq
  | .un h a, o, q, p, k, s, hq => by
    obtain ⟨t1, t2, _⟩ := tests_sub _ o q p hq
    unfold testsL at hq
    by_cases h19 : h.kind = 19
    · rw [if_pos h19] at hq
      cases q with
      | zero =>
        simp at hq
        subst hq
        unfold posT
        rw [if_neg (by omega)]
        exact ⟨rfl, rfl⟩
      | succ q => simp at hq
    · rw [if_neg h19] at hq
      obtain ⟨s1, s2, _⟩ := tests_sub a o q p hq
      have := test_at a o q p k s hq
      unfold posT
      rw [if_pos s2, decide_eq_true (by simpa using h19)]
      exact this
  | .bin h a b, o, q, p, k, s, hq => by
    unfold testsL at hq
    have hla := length_tests a o
    by_cases h1 : q < testsT a
    · rw [List.getElem?_append_left (by omega)] at hq
      obtain ⟨s1, s2, _⟩ := tests_sub a o q p hq
      have := test_at a o q p k s hq
      unfold posT
      rw [if_pos s2]
      exact this
    · rw [List.getElem?_append_right (by omega), hla] at hq
      obtain ⟨s1, s2, _⟩ := tests_sub b (o + a.size) (q - testsT a) p hq
      obtain ⟨g1, g2⟩ := test_at b (o + a.size) (q - testsT a) p (k + testsT a) (s + stepsN a) hq
      rw [show p - (o + a.size) = p - o - a.size by omega] at s2 g1 g2
      unfold posT
      rw [if_neg (by omega), if_pos (by omega)]
      exact ⟨g1, by rw [g2]; omega⟩
theorem test_own : ∀ (t : Tr) (o i k s : Nat), i < t.size → (posT t i true k s).1 = true → (∃ h a, t.sub i = .un h a ∧ h.kind = 19) → (testsL t o)[(posT t i true k s).2.1 - k]? = some (o + i) ∧ k ≤ (posT t i true k s).2.1
  | .leaf h, o, i, k, s, hi, _, hl => by
    obtain ⟨h', a', e, _⟩ := hl
    simp [Tr.sub] at e
  | .un h a, o, i, k, s, hi, hp, hl => by
    simp only [Tr.size] at hi
    rw [sub_un] at hl
    unfold posT at hp ⊢
    unfold testsL
    by_cases h1 : i < a.size
    · rw [if_pos h1] at hl hp ⊢
      by_cases h19 : h.kind = 19
      · rw [decide_eq_false (by simpa using h19), Bool.and_false, pos_no] at hp; cases hp
      · rw [decide_eq_true (by simpa using h19), Bool.and_true] at hp ⊢
        rw [if_neg h19]
        exact test_own a o i k s h1 hp hl
    · rw [if_neg h1] at hl ⊢
      obtain ⟨h', a', e, h19⟩ := hl
      injection e with e1 e2
      subst e1
      rw [if_pos h19]
      obtain rfl : i = a.size := by omega
      simp
  | .bin h a b, o, i, k, s, hi, hp, hl => by
    simp only [Tr.size] at hi
    rw [sub_bin] at hl
    have hla := length_tests a o
    unfold posT at hp ⊢
    unfold testsL
    by_cases h1 : i < a.size
    · rw [if_pos h1] at hl hp ⊢
      obtain ⟨g1, g2⟩ := test_own a o i k s h1 hp hl
      exact ⟨by rw [List.getElem?_append_left (List.getElem?_eq_some_iff.1 g1).1]; exact g1, g2⟩
    · rw [if_neg h1] at hl hp ⊢
      by_cases h2 : i < a.size + b.size
      · rw [if_pos h2] at hl hp ⊢
        obtain ⟨g1, g2⟩ := test_own b (o + a.size) (i - a.size) (k + testsT a) (s + stepsN a) (by omega) hp hl
        refine ⟨?_, by omega⟩
        rw [List.getElem?_append_right (by omega), hla, show (posT b (i - a.size) true (k + testsT a) (s + stepsN a)).2.1 - k - testsT a = (posT b (i - a.size) true (k + testsT a) (s + stepsN a)).2.1 - (k + testsT a) by omega, g1]
        congr 1
        omega
      · rw [if_neg h2] at hl; obtain ⟨h', a', e, _⟩ := hl; cases e
/-- The expression's own nodes are regular expressions. -/
theorem own_regV : ∀ (t : Tr) (i k s : Nat), regV t → i < t.size → (posT t i true k s).1 = true → regV (t.sub i)
  | .leaf h, i, k, s, hv, hi, _ => hv
  | .un h a, i, k, s, hv, hi, hp => by
    rw [sub_un]
    unfold posT at hp
    by_cases h1 : i < a.size
    · rw [if_pos h1] at hp ⊢
      by_cases h19 : h.kind = 19
      · rw [decide_eq_false (by simpa using h19), Bool.and_false, pos_no] at hp; cases hp
      · rw [decide_eq_true (by simpa using h19), Bool.and_true] at hp
        exact own_regV a i k s (hv.resolve_left h19).2 h1 hp
    · rw [if_neg h1]; exact hv
  | .bin h a b, i, k, s, hv, hi, hp => by
    simp only [Tr.size] at hi
    rw [sub_bin]
    unfold posT at hp
    by_cases h1 : i < a.size
    · rw [if_pos h1] at hp ⊢
      exact own_regV a i k s hv.2.1 h1 hp
    · rw [if_neg h1] at hp ⊢
      by_cases h2 : i < a.size + b.size
      · rw [if_pos h2] at hp ⊢
        exact own_regV b _ _ _ hv.2.2 (by omega) hp
      · rw [if_neg h2]; exact hv
/-! ### The node above -/
def parT : Tr → Nat → Nat
  | .leaf _, _ => 0
  | .un _ a, i => if i + 1 < a.size then parT a i else a.size
  | .bin _ a b, i => if i + 1 < a.size then parT a i else if i + 1 = a.size then a.size + b.size else if i + 1 < a.size + b.size then a.size + parT b (i - a.size) else a.size + b.size
theorem par_sub : ∀ (t : Tr) (i j : Nat), i < t.size → j + 1 < (t.sub i).size → parT t (i + 1 - (t.sub i).size + j) = i + 1 - (t.sub i).size + parT (t.sub i) j
  | .leaf h, i, j, hi, hj => by
    simp only [Tr.sub, Tr.size] at hj
    omega
  | .un h a, i, j, hi, hj => by
    rw [sub_un] at hj ⊢
    simp only [Tr.size] at hi
    by_cases h1 : i < a.size
    · rw [if_pos h1] at hj ⊢
      have hle := Tr.sub_size_le a i h1
      rw [← par_sub a i j h1 hj]
      conv => lhs; unfold parT
      rw [if_pos (by omega)]
    · rw [if_neg h1] at hj ⊢
      obtain rfl : i = a.size := by omega
      simp only [Tr.size]
      rw [show a.size + 1 - (a.size + 1) + j = j by omega]
      omega
  | .bin h a b, i, j, hi, hj => by
    rw [sub_bin] at hj ⊢
    simp only [Tr.size] at hi
    by_cases h1 : i < a.size
    · rw [if_pos h1] at hj ⊢
      have hle := Tr.sub_size_le a i h1
      rw [← par_sub a i j h1 hj]
      conv => lhs; unfold parT
      rw [if_pos (by omega)]
    · rw [if_neg h1] at hj ⊢
      by_cases h2 : i < a.size + b.size
      · rw [if_pos h2] at hj ⊢
        have hle := Tr.sub_size_le b (i - a.size) (by omega)
        have ih := par_sub b (i - a.size) j (by omega) hj
        conv => lhs; unfold parT
        rw [if_neg (by omega), if_neg (by omega), if_pos (by omega), show i + 1 - (b.sub (i - a.size)).size + j - a.size = i - a.size + 1 - (b.sub (i - a.size)).size + j by omega, ih]
        omega
      · rw [if_neg h2] at hj ⊢
        obtain rfl : i = a.size + b.size := by omega
        simp only [Tr.size]
        rw [show a.size + b.size + 1 - (a.size + b.size + 1) + j = j by omega]
        omega
theorem par_un {t : Tr} {i : Nat} (hi : i < t.size) {h : Nd} {a : Tr} (hx : t.sub i = .un h a) : parT t (i - 1) = i := by
  have hle := Tr.sub_size_le t i hi
  have hp := a.size_pos
  rw [hx] at hle
  simp only [Tr.size] at hle
  have := par_sub t i (a.size - 1) hi (by rw [hx]; simp only [Tr.size]; omega)
  rw [hx] at this
  simp only [Tr.size] at this
  rw [show i + 1 - (a.size + 1) + (a.size - 1) = i - 1 by omega] at this
  rw [this]
  unfold parT
  rw [if_neg (by omega)]
  omega
theorem par_bin {t : Tr} {i : Nat} (hi : i < t.size) {h : Nd} {a b : Tr} (hx : t.sub i = .bin h a b) : parT t (i - 1 - b.size) = i ∧ parT t (i - 1) = i := by
  have hle := Tr.sub_size_le t i hi
  have hp := a.size_pos
  have hq := b.size_pos
  rw [hx] at hle
  simp only [Tr.size] at hle
  have h1 := par_sub t i (a.size - 1) hi (by rw [hx]; simp only [Tr.size]; omega)
  have h2 := par_sub t i (a.size + b.size - 1) hi (by rw [hx]; simp only [Tr.size]; omega)
  rw [hx] at h1 h2
  simp only [Tr.size] at h1 h2
  rw [show i + 1 - (a.size + b.size + 1) + (a.size - 1) = i - 1 - b.size by omega] at h1
  rw [show i + 1 - (a.size + b.size + 1) + (a.size + b.size - 1) = i - 1 by omega] at h2
  refine ⟨?_, ?_⟩
  · rw [h1]
    unfold parT
    rw [if_neg (by omega), if_pos (by omega)]
    omega
  · rw [h2]
    unfold parT
    rw [if_neg (by omega), if_neg (by omega), if_neg (by omega)]
    omega
/-- Each node but the root stands below another one. -/
theorem par_at : ∀ (t : Tr) (i : Nat), i + 1 < t.size → i < parT t i ∧ parT t i < t.size ∧ ((∃ h a, t.sub (parT t i) = .un h a ∧ i + 1 = parT t i) ∨ ∃ h a b, t.sub (parT t i) = .bin h a b ∧ (i + 1 = parT t i ∨ i + 1 + b.size = parT t i))
  | .leaf h, i, hi => by simp only [Tr.size] at hi; omega
  | .un h a, i, hi => by
    simp only [Tr.size] at hi
    unfold parT
    by_cases h1 : i + 1 < a.size
    · rw [if_pos h1, sub_un]
      obtain ⟨g1, g2, g3⟩ := par_at a i h1
      rw [if_pos g2]
      exact ⟨g1, by simp only [Tr.size]; omega, g3⟩
    · rw [if_neg h1, sub_un, if_neg (by omega)]
      exact ⟨by omega, by simp only [Tr.size]; omega, .inl ⟨h, a, rfl, by omega⟩⟩
  | .bin h a b, i, hi => by
    simp only [Tr.size] at hi
    have hq := b.size_pos
    unfold parT
    by_cases h1 : i + 1 < a.size
    · rw [if_pos h1, sub_bin]
      obtain ⟨g1, g2, g3⟩ := par_at a i h1
      rw [if_pos g2]
      exact ⟨g1, by simp only [Tr.size]; omega, g3⟩
    · rw [if_neg h1]
      by_cases h2 : i + 1 = a.size
      · rw [if_pos h2, sub_bin, if_neg (by omega), if_neg (by omega)]
        exact ⟨by omega, by simp only [Tr.size]; omega, .inr ⟨h, a, b, rfl, .inr (by omega)⟩⟩
      · rw [if_neg h2]
        by_cases h3 : i + 1 < a.size + b.size
        · rw [if_pos h3, sub_bin]
          obtain ⟨g1, g2, g3⟩ := par_at b (i - a.size) (by omega)
          rw [if_neg (by omega), if_pos (by omega), show a.size + parT b (i - a.size) - a.size = parT b (i - a.size) by omega]
          refine ⟨by omega, by simp only [Tr.size]; omega, ?_⟩
          rcases g3 with ⟨h', a', e1, e2⟩ | ⟨h', a', b', e1, e2⟩
          · exact .inl ⟨h', a', e1, by omega⟩
          · exact .inr ⟨h', a', b', e1, by omega⟩
        · rw [if_neg h3, sub_bin, if_neg (by omega), if_neg (by omega)]
          exact ⟨by omega, by simp only [Tr.size]; omega, .inr ⟨h, a, b, rfl, .inl (by omega)⟩⟩
theorem kid_un {t : Tr} {i : Nat} (hi : i < t.size) {h : Nd} {a : Tr} (hx : t.sub i = .un h a) : a.size ≤ i ∧ t.sub (i - 1) = a ∧ ∀ j, j < a.size → t.sub (i - a.size + j) = a.sub j := by
  have h1 := Tr.sub_size_le t i hi
  rw [hx] at h1
  simp only [Tr.size] at h1
  have hp := a.size_pos
  have h2 : ∀ j, j < a.size → t.sub (i - a.size + j) = a.sub j := fun j hj => by
    have := Tr.sub_sub t i j hi (by rw [hx]; simp only [Tr.size]; omega)
    rw [hx, sub_un, if_pos hj] at this
    rw [← this]
    congr 1
    simp only [Tr.size]
    omega
  refine ⟨by omega, ?_, h2⟩
  have := h2 (a.size - 1) (by omega)
  rw [show i - a.size + (a.size - 1) = i - 1 by omega, Tr.sub_root] at this
  exact this
theorem kid_bin {t : Tr} {i : Nat} (hi : i < t.size) {h : Nd} {a b : Tr} (hx : t.sub i = .bin h a b) : a.size + b.size ≤ i ∧ t.sub (i - 1) = b ∧ t.sub (i - 1 - b.size) = a := by
  have h1 := Tr.sub_size_le t i hi
  rw [hx] at h1
  simp only [Tr.size] at h1
  have hp := a.size_pos
  have hq := b.size_pos
  have h2 : ∀ j, j < a.size + b.size → t.sub (i - (a.size + b.size) + j) = (Tr.bin h a b).sub j := fun j hj => by
    have := Tr.sub_sub t i j hi (by rw [hx]; simp only [Tr.size]; omega)
    rw [hx] at this
    rw [← this]
    congr 1
    simp only [Tr.size]
    omega
  refine ⟨by omega, ?_, ?_⟩
  · have := h2 (a.size + b.size - 1) (by omega)
    rw [show i - (a.size + b.size) + (a.size + b.size - 1) = i - 1 by omega, sub_bin, if_neg (by omega), if_pos (by omega), show a.size + b.size - 1 - a.size = b.size - 1 by omega, Tr.sub_root] at this
    exact this
  · have := h2 (a.size - 1) (by omega)
    rw [show i - (a.size + b.size) + (a.size - 1) = i - 1 - b.size by omega, sub_bin, if_pos (by omega), Tr.sub_root] at this
    exact this
/-- The steps below a node of the expression's own. -/
theorem pos_steps : ∀ (t : Tr) (i k s : Nat), regV t → i < t.size → (posT t i true k s).1 = true → s ≤ (posT t i true k s).2.2 ∧ (posT t i true k s).2.2 + stepsN (t.sub i) ≤ s + stepsN t
  | .leaf h, i, k, s, hv, hi, _ => ⟨Nat.le_refl _, Nat.le_refl _⟩
  | .un h a, i, k, s, hv, hi, hp => by
    rw [sub_un]
    rw [posT_un] at hp ⊢
    by_cases h1 : i < a.size
    · rw [if_pos h1] at hp ⊢
      rw [if_pos h1]
      by_cases h19 : h.kind = 19
      · rw [decide_eq_false (by simpa using h19), Bool.and_false, pos_no] at hp; cases hp
      · rw [decide_eq_true (by simpa using h19), Bool.and_true] at hp ⊢
        have := pos_steps a i k s (hv.resolve_left h19).2 h1 hp
        rw [show stepsN (.un h a) = stepsN a from if_neg h19]
        exact this
    · rw [if_neg h1, if_neg h1]; exact ⟨Nat.le_refl _, Nat.le_refl _⟩
  | .bin h a b, i, k, s, hv, hi, hp => by
    simp only [Tr.size] at hi
    rw [sub_bin]
    rw [posT_bin] at hp ⊢
    have hs : stepsN (.bin h a b) = stepsN a + stepsN b := rfl
    by_cases h1 : i < a.size
    · rw [if_pos h1] at hp ⊢
      rw [if_pos h1]
      have := pos_steps a i k s hv.2.1 h1 hp
      omega
    · rw [if_neg h1] at hp ⊢
      rw [if_neg h1]
      by_cases h2 : i < a.size + b.size
      · rw [if_pos h2] at hp ⊢
        rw [if_pos h2]
        have := pos_steps b (i - a.size) (k + testsT a) (s + stepsN a) hv.2.2 (by omega) hp
        omega
      · rw [if_neg h2, if_neg h2]; exact ⟨Nat.le_refl _, Nat.le_refl _⟩
end Go.Proofs.Ytdbbooibkiicnaa
