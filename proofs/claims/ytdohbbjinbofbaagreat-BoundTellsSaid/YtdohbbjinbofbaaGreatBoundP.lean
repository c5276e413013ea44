/- What is kept at most: plain definitions and lemmas, no program in sight. -/
import Derived.Test.YtdohbbjinbofbaaGreatTurnS
set_option linter.unusedVariables false
set_option linter.unusedSimpArgs false
namespace Go.Proofs.YtdohbbjinbofbaaGreat
/-- How many classes an interval has. -/
def wideN (h : Nd) : Nat := if h.hi = -1 then h.lo.toNat + 1 else h.hi.toNat + 1
def stW (a : Tr) : Nat := stepsN a / 64 + 1
def memoN (room : Nat) (a : Tr) : Nat := room * (2 * stW a + (testsT a + 63) / 64 + 1)
def restT : Tr → Nat
  | .leaf h => if h.kind = 18 then 0 else 1
  | .un h a => restT a + if h.kind = 16 ∨ h.kind = 17 then 1 else 0
  | .bin _ a b => restT a + restT b
def extraT : Tr → Nat
  | .leaf _ => 0
  | .un h a => extraT a + if h.kind = 17 then restT a + 1 else 0
  | .bin _ a b => max (extraT a) (extraT b)
def stayT (room : Nat) : Tr → Nat
  | .leaf _ => 0
  | .un h a => stayT room a + (if h.kind = 16 ∨ h.kind = 17 then memoN room a else 0) + if h.kind = 16 then wideN h * (1 + stW a) else 0
  | .bin _ a b => stayT room a + stayT room b
def fleetT (room : Nat) : Tr → Nat
  | .leaf _ => 0
  | .un h a => fleetT room a + if h.kind = 17 then 1 + stW a + (stayT room a + memoN room a) else 0
  | .bin _ a b => max (fleetT room a) (fleetT room b)
def atomsN : Tr → Nat
  | .leaf _ => 0
  | .un h a => atomsN a + if h.kind = 17 then stepsN a * wideN h else 0
  | .bin _ a b => atomsN a + atomsN b
def backN : Tr → Nat
  | .leaf _ => 0
  | .un h a => backN a + if h.kind = 16 then wideN h * (stepsN a + 1) else 0
  | .bin _ a b => backN a + backN b
def sumL (l : List Nat) : Nat := l.foldl (· + ·) 0
def maxL (l : List Nat) : Nat := l.foldl max 0
theorem foldl_add (l : List Nat) : ∀ a, l.foldl (· + ·) a = a + sumL l := by
  unfold sumL
  induction l with
  | nil => intro a; rfl
  | cons x l ih => intro a; rw [List.foldl_cons, List.foldl_cons, ih, ih (0 + x)]; omega
theorem foldl_max (l : List Nat) : ∀ a, l.foldl max a = max a (maxL l) := by
  unfold maxL
  induction l with
  | nil => intro a; simp
  | cons x l ih => intro a; rw [List.foldl_cons, List.foldl_cons, ih, ih (max 0 x)]; omega
theorem sumL_append (a b : List Nat) : sumL (a ++ b) = sumL a + sumL b := by
  rw [show sumL (a ++ b) = (a ++ b).foldl (· + ·) 0 from rfl, List.foldl_append, foldl_add b]; rfl
theorem maxL_append (a b : List Nat) : maxL (a ++ b) = max (maxL a) (maxL b) := by
  rw [show maxL (a ++ b) = (a ++ b).foldl max 0 from rfl, List.foldl_append, foldl_max b]; rfl
theorem sumL_one (x : Nat) : sumL [x] = x := by simp [sumL]
theorem maxL_one (x : Nat) : maxL [x] = x := by simp [maxL]
/-- A measure that goes by sums over a regular expression is the sum over its tests. -/
theorem sum_tests (f : Tr → Nat) (h18 : ∀ h, h.kind = 18 → f (.leaf h) = 0) (h22 : ∀ h a, h.kind = 22 → f (.un h a) = f a) (hb : ∀ h a b, f (.bin h a b) = f a + f b) :
    ∀ t : Tr, regV t → f t = sumL ((testTr t).map f)
  | .leaf h, hv => by rw [h18 h hv]; rfl
  | .un h a, hv => by
    by_cases h19 : h.kind = 19
    · simp [testTr, h19, sumL_one]
    · obtain ⟨h1, h2⟩ := hv.elim (fun e => absurd e h19) id
      rw [h22 h a h1, sum_tests f h18 h22 hb a h2]
      simp [testTr, h19]
  | .bin h a b, hv => by
    rw [hb, sum_tests f h18 h22 hb a hv.2.1, sum_tests f h18 h22 hb b hv.2.2]
    simp only [testTr, List.map_append, sumL_append]
theorem max_tests (f : Tr → Nat) (h18 : ∀ h, h.kind = 18 → f (.leaf h) = 0) (h22 : ∀ h a, h.kind = 22 → f (.un h a) = f a) (hb : ∀ h a b, f (.bin h a b) = max (f a) (f b)) :
    ∀ t : Tr, regV t → f t = maxL ((testTr t).map f)
  | .leaf h, hv => by rw [h18 h hv]; rfl
  | .un h a, hv => by
    by_cases h19 : h.kind = 19
    · simp [testTr, h19, maxL_one]
    · obtain ⟨h1, h2⟩ := hv.elim (fun e => absurd e h19) id
      rw [h22 h a h1, max_tests f h18 h22 hb a h2]
      simp [testTr, h19]
  | .bin h a b, hv => by
    rw [hb, max_tests f h18 h22 hb a hv.2.1, max_tests f h18 h22 hb b hv.2.2]
    simp only [testTr, List.map_append, maxL_append]
/-- Places are told from another place on. -/
theorem tests_shift (d : Nat) : ∀ (t : Tr) (o : Nat), testsL t (d + o) = (testsL t o).map (d + ·)
  | .leaf _, _ => rfl
  | .un h a, o => by
    by_cases h19 : h.kind = 19
    · simp [testsL, h19, Nat.add_assoc]
    · simp [testsL, h19, tests_shift d a]
  | .bin h a b, o => by
    simp only [testsL, List.map_append]
    rw [tests_shift d a, Nat.add_assoc, tests_shift d b]
theorem shape_testsL : ∀ {s t : Tr} (o : Nat), ShapeT s t → s.size = t.size → testsL s o = testsL t o
  | .leaf _, .leaf _, _, _, _ => rfl
  | .un h a, .un h' a', o, e, hs => by
    simp only [Tr.size] at hs
    have := shape_testsL o e.2 (by omega)
    simp [testsL, e.1, this, show a.size = a'.size by omega]
  | .bin h a b, .bin h' a' b', o, e, hs => by
    have h1 := shape_size e.2.1
    have h2 := shape_size e.2.2
    simp only [testsL]
    rw [shape_testsL o e.2.1 h1, h1, shape_testsL _ e.2.2 h2]
where shape_size : ∀ {s t : Tr}, ShapeT s t → s.size = t.size
  | .leaf _, .leaf _, _ => rfl
  | .un h a, .un h' a', e => by simp [Tr.size, shape_size e.2]
  | .bin h a b, .bin h' a' b', e => by simp [Tr.size, shape_size e.2.1, shape_size e.2.2]
theorem stepsN_le : ∀ t : Tr, stepsN t ≤ t.size
  | .leaf _ => Nat.le_refl _
  | .un h a => by
    have := stepsN_le a
    simp only [stepsN, Tr.size]
    split <;> omega
  | .bin h a b => by
    have := stepsN_le a
    have := stepsN_le b
    simp only [stepsN, Tr.size]
    omega
end Go.Proofs.YtdohbbjinbofbaaGreat
