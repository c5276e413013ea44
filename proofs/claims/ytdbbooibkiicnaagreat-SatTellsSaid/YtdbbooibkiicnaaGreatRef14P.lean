/- Truth as the reference's loops tell it: plain. -/
import Derived.Test.YtdbbooibkiicnaaGreatSatM
set_option linter.unusedVariables false
set_option linter.unusedSimpArgs false
namespace Go.Proofs.YtdbbooibkiicnaaGreat
def anyB (p : Nat → Bool) : Nat → Bool
  | 0 => false
  | m + 1 => anyB p m || p m
def allB (p : Nat → Bool) : Nat → Bool
  | 0 => true
  | m + 1 => allB p m && p m
theorem anyB_iff {p : Nat → Bool} : ∀ {m : Nat}, anyB p m = true ↔ ∃ j, j < m ∧ p j = true
  | 0 => by simp [anyB]
  | m + 1 => by
    rw [anyB, Bool.or_eq_true, anyB_iff]
    constructor
    · rintro (⟨j, h1, h2⟩ | h)
      · exact ⟨j, by omega, h2⟩
      · exact ⟨m, by omega, h⟩
    · rintro ⟨j, h1, h2⟩
      by_cases e : j = m
      · subst e; exact .inr h2
      · exact .inl ⟨j, by omega, h2⟩
theorem allB_any (p : Nat → Bool) (m : Nat) : allB p m = !anyB (fun j => !p j) m := by
  induction m with
  | zero => rfl
  | succ m ih => rw [allB, anyB, ih]; cases anyB (fun j => !p j) m <;> cases p m <;> rfl
/-- All of m points from i on. -/
def fromB (p : Nat → Bool) : Nat → Nat → Bool
  | 0, _ => true
  | m + 1, i => p i && fromB p m (i + 1)
theorem fromB_iff {p : Nat → Bool} : ∀ {m i : Nat}, fromB p m i = true ↔ ∀ j, i ≤ j → j < i + m → p j = true
  | 0, i => by simp [fromB]; intro j h1 h2; omega
  | m + 1, i => by
    rw [fromB, Bool.and_eq_true, fromB_iff]
    constructor
    · rintro ⟨h1, h2⟩ j h3 h4
      by_cases e : j = i
      · subst e; exact h1
      · exact h2 j (by omega) (by omega)
    · intro h
      exact ⟨h i (Nat.le_refl _) (by omega), fun j h1 h2 => h j (by omega) (by omega)⟩
def pastB (k : Int) : Bool := decide (k = 10 ∨ k = 11 ∨ k = 14)
/-- Is a point on the side that a kind looks at? -/
def inB (k : Int) (i j : Nat) : Bool := if pastB k then decide (j ≤ i) else decide (i ≤ j)
def okB (k : Int) (v w : Nat → Bool) (i j : Nat) : Bool := if k = 14 then w j && fromB v (i - j) (j + 1) else if k = 15 then w j && fromB v (j - i) i else v j
def someB (X : TrcS) (k lo hi : Int) (v w : Nat → Bool) (i j : Nat) : Bool := inB k i j && (hasD lo hi (gapS X i j) && okB k v w i j)
def everB (X : TrcS) (k lo hi : Int) (v : Nat → Bool) (i j : Nat) : Bool := if k = 14 ∨ k = 15 then true else !(inB k i j && hasD lo hi (gapS X i j)) || v j
/-- Kinds 10 to 15 as the reference has them. -/
def loopB (X : TrcS) (k lo hi : Int) (v w : Nat → Bool) (i : Nat) : Bool := if k = 11 ∨ k = 13 then allB (everB X k lo hi v i) X.n else anyB (someB X k lo hi v w i) X.n
theorem bool_eq_iff {a b : Bool} (h : a = true ↔ b = true) : a = b := by cases a <;> cases b <;> simp_all
theorem loop_un (X : TrcS) (h : Nd) (hk : h.kind = 10 ∨ h.kind = 11 ∨ h.kind = 12 ∨ h.kind = 13) (v w : Nat → Bool) (ways : Mx) {i : Nat} (hi : i < X.n) : loopB X h.kind h.lo h.hi v w i = unS X h v ways i := by
  have past : ∀ (p : Nat → Bool), anyB (fun j => decide (j ≤ i) && (hasD h.lo h.hi (gapS X i j) && p j)) X.n = someP (fun j => hasD h.lo h.hi (gapS X i j) && p j) allw i := fun p => bool_eq_iff (by
    rw [anyB_iff, someP_iff]
    constructor
    · rintro ⟨j, h1, h2⟩
      rw [Bool.and_eq_true, decide_eq_true_eq] at h2
      exact ⟨j, h2.1, h2.2, fun _ _ _ => rfl⟩
    · rintro ⟨j, h1, h2, _⟩
      exact ⟨j, by omega, by rw [Bool.and_eq_true, decide_eq_true_eq]; exact ⟨h1, h2⟩⟩)
  have fut : ∀ (p : Nat → Bool), anyB (fun j => decide (i ≤ j) && (hasD h.lo h.hi (gapS X i j) && p j)) X.n = someU (fun j => hasD h.lo h.hi (gapS X i j) && p j) allw (X.n - i) i := fun p => bool_eq_iff (by
    rw [anyB_iff, someU_iff]
    constructor
    · rintro ⟨j, h1, h2⟩
      rw [Bool.and_eq_true, decide_eq_true_eq] at h2
      exact ⟨j, h2.1, by omega, h2.2, fun _ _ _ => rfl⟩
    · rintro ⟨j, h1, h2, h3, _⟩
      exact ⟨j, by omega, by rw [Bool.and_eq_true, decide_eq_true_eq]; exact ⟨h1, h3⟩⟩)
  have neg : ∀ (a b c : Bool), (!(!(a && b) || c)) = (a && (b && !c)) := by decide
  unfold loopB unS
  rcases hk with e | e | e | e
  · simp only [e]
    rw [if_neg (by decide), if_neg (by decide), if_neg (by decide), if_neg (by decide), if_pos True.intro, ← past v]
    rfl
  · simp only [e]
    rw [if_pos (by decide), if_neg (by decide), if_neg (by decide), if_neg (by decide), if_neg (by decide), if_pos True.intro, allB_any, ← past (fun j => !v j)]
    congr 2
    funext j
    exact neg _ _ _
  · simp only [e]
    rw [if_neg (by decide), if_neg (by decide), if_neg (by decide), if_neg (by decide), if_neg (by decide), if_neg (by decide), if_pos True.intro, ← fut v]
    rfl
  · simp only [e]
    rw [if_pos (by decide), if_neg (by decide), if_neg (by decide), if_neg (by decide), if_neg (by decide), if_neg (by decide), if_neg (by decide), if_pos True.intro, allB_any, ← fut (fun j => !v j)]
    congr 2
    funext j
    exact neg _ _ _
theorem loop_bin (X : TrcS) (h : Nd) (hk : h.kind = 14 ∨ h.kind = 15) (v w : Nat → Bool) {i : Nat} (hi : i < X.n) : loopB X h.kind h.lo h.hi v w i = binS X h v w i := by
  unfold loopB binS
  rcases hk with e | e
  · simp only [e]
    rw [if_neg (by decide), if_neg (by decide), if_neg (by decide), if_neg (by decide), if_pos True.intro]
    refine bool_eq_iff ?_
    rw [anyB_iff, someP_iff]
    constructor
    · rintro ⟨j, h1, h2⟩
      have h2' : (decide (j ≤ i) && (hasD h.lo h.hi (gapS X i j) && (w j && fromB v (i - j) (j + 1)))) = true := h2
      simp only [Bool.and_eq_true, decide_eq_true_eq, fromB_iff] at h2'
      obtain ⟨h3, h4, h5, h6⟩ := h2'
      exact ⟨j, h3, by simp only [Bool.and_eq_true]; exact ⟨h4, h5⟩, fun k h7 h8 => h6 k (by omega) (by omega)⟩
    · rintro ⟨j, h1, h2, h3⟩
      simp only [Bool.and_eq_true] at h2
      refine ⟨j, by omega, ?_⟩
      show (decide (j ≤ i) && (hasD h.lo h.hi (gapS X i j) && (w j && fromB v (i - j) (j + 1)))) = true
      simp only [Bool.and_eq_true, decide_eq_true_eq, fromB_iff]
      exact ⟨h1, h2.1, h2.2, fun k h7 h8 => h3 k (by omega) (by omega)⟩
  · simp only [e]
    rw [if_neg (by decide), if_neg (by decide), if_neg (by decide), if_neg (by decide), if_neg (by decide), if_pos True.intro]
    refine bool_eq_iff ?_
    rw [anyB_iff, someU_iff]
    constructor
    · rintro ⟨j, h1, h2⟩
      have h2' : (decide (i ≤ j) && (hasD h.lo h.hi (gapS X i j) && (w j && fromB v (j - i) i))) = true := h2
      simp only [Bool.and_eq_true, decide_eq_true_eq, fromB_iff] at h2'
      obtain ⟨h3, h4, h5, h6⟩ := h2'
      exact ⟨j, h3, by omega, by simp only [Bool.and_eq_true]; exact ⟨h4, h5⟩, fun k h7 h8 => h6 k h7 (by omega)⟩
    · rintro ⟨j, h1, h1', h2, h3⟩
      simp only [Bool.and_eq_true] at h2
      refine ⟨j, by omega, ?_⟩
      show (decide (i ≤ j) && (hasD h.lo h.hi (gapS X i j) && (w j && fromB v (j - i) i))) = true
      simp only [Bool.and_eq_true, decide_eq_true_eq, fromB_iff]
      exact ⟨h1, h2.1, h2.2, fun k h7 h8 => h3 k h7 (by omega)⟩
/-- A match as the reference has it. -/
def matchB (X : TrcS) (k lo hi : Int) (m : Mx) (i j : Nat) : Bool := ((decide (k = 16) && (decide (j ≤ i) && m j i)) || (decide (k = 17) && (decide (i ≤ j) && m i j))) && hasD lo hi (gapS X i j)
theorem matchB_un (X : TrcS) (h : Nd) (hk : h.kind = 16 ∨ h.kind = 17) (v : Nat → Bool) (m : Mx) {i : Nat} (hi : i < X.n) : anyB (matchB X h.kind h.lo h.hi m i) X.n = unS X h v m i := by
  unfold unS
  rcases hk with e | e
  · simp only [e]
    rw [if_neg (by decide), if_neg (by decide), if_neg (by decide), if_neg (by decide), if_neg (by decide), if_neg (by decide), if_neg (by decide), if_pos True.intro]
    refine bool_eq_iff ?_
    rw [anyB_iff, someP_iff]
    constructor
    · rintro ⟨j, h1, h2⟩
      simp [matchB] at h2
      exact ⟨j, h2.1.1, by simp only [Bool.and_eq_true]; exact ⟨h2.2, h2.1.2⟩, fun _ _ _ => rfl⟩
    · rintro ⟨j, h1, h2, _⟩
      simp only [Bool.and_eq_true] at h2
      exact ⟨j, by omega, by simp [matchB]; exact ⟨⟨h1, h2.2⟩, h2.1⟩⟩
  · simp only [e]
    rw [if_neg (by decide), if_neg (by decide), if_neg (by decide), if_neg (by decide), if_neg (by decide), if_neg (by decide), if_neg (by decide), if_neg (by decide), if_pos True.intro]
    refine bool_eq_iff ?_
    rw [anyB_iff, someU_iff]
    constructor
    · rintro ⟨j, h1, h2⟩
      simp [matchB] at h2
      exact ⟨j, h2.1.1, by omega, by simp only [Bool.and_eq_true]; exact ⟨h2.2, h2.1.2⟩, fun _ _ _ => rfl⟩
    · rintro ⟨j, h1, h1', h2, _⟩
      simp only [Bool.and_eq_true] at h2
      exact ⟨j, by omega, by simp [matchB]; exact ⟨⟨h1, h2.2⟩, h2.1⟩⟩
end Go.Proofs.YtdbbooibkiicnaaGreat
