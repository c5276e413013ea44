/- One pass: a window goes on, step by step: plain. -/
import Derived.Test.YtaomehlhopiblaaOnlE
set_option linter.unusedVariables false
set_option linter.unusedSimpArgs false
/-! One pass: a window goes on, step by step: plain. -/
namespace Go.Proofs.Ytaomehlhopiblaa
open Go.RowKit
theorem wdf_same {m : Nat} {F : Fz} {v : Value} {p q : Fn} (h : WdF m F v p) (e : ∀ x, x < 2 ^ m → p x = q x) : WdF m F v q :=
  let ⟨A, n, c, fs, h1, h2, h3, h4⟩ := h
  ⟨A, n, c, fs, h1, h2, h3, fun x hx => (h4 x hx).trans (e x hx)⟩
theorem RowA.same {m n : Nat} {Gs : List Nat} {T : TypeId} {w : World} {g : Nat} {f f' : Nat → Fn} (h : RowA m n Gs T w g f) (e : ∀ q, q < n → ∀ x, x < 2 ^ m → f q x = f' q x) : RowA m n Gs T w g f' :=
  let ⟨cs, h1, h2, h3⟩ := h
  ⟨cs, h1, h2, fun q hq => let ⟨v, hv, hw⟩ := h3 q hq; ⟨v, hv, wdf_same hw (e q hq)⟩⟩
section
variable (a : Tr) (zs : List Fn) (f : Nat → Fn)
/-- Where the first k states go. -/
def movK (k : Nat) : Nat → Fn
  | 0 => noFn
  | q + 1 => fun x => (List.range k).any fun j => f j x && (stateO (zOf zs) a j).1 q x
theorem movK_none : movK a zs f 0 = fun _ => noFn := by funext s; cases s <;> rfl
theorem movK_done : movK a zs f (stepsN a + 1) = movedF a zs f := by funext s; cases s <;> rfl
theorem movK_succ (k q x : Nat) : movK a zs f (k + 1) (q + 1) x = (movK a zs f k (q + 1) x || (f k x && (stateO (zOf zs) a k).1 q x)) := by
  show (List.range (k + 1)).any _ = ((List.range k).any _ || _)
  rw [List.range_succ, List.any_append]
  simp
/-- And the next one's first q steps. -/
def movQ (k q : Nat) : Nat → Fn := fun s => if s ≤ q then movK a zs f (k + 1) s else movK a zs f k s
theorem movQ_zero (k : Nat) : movQ a zs f k 0 = movK a zs f k := by
  funext s
  unfold movQ
  split
  · obtain rfl : s = 0 := by omega
    rfl
  · rfl
theorem movQ_at (k q : Nat) : movQ a zs f k q (q + 1) = movK a zs f k (q + 1) := by
  unfold movQ
  rw [if_neg (by omega)]
theorem movQ_step (k q : Nat) : (fun s => if s = q + 1 then (fun x => movK a zs f k (q + 1) x || (f k x && (stateO (zOf zs) a k).1 q x)) else movQ a zs f k q s) = movQ a zs f k (q + 1) := by
  funext s
  by_cases e : s = q + 1
  · rw [if_pos e]
    subst e
    unfold movQ
    rw [if_pos (Nat.le_refl _)]
    funext x
    exact (movK_succ a zs f k q x).symm
  · rw [if_neg e]
    unfold movQ
    by_cases e2 : s ≤ q
    · rw [if_pos e2, if_pos (by omega)]
    · rw [if_neg e2, if_neg (by omega)]
theorem movQ_done (k : Nat) {M s : Nat} (h : s < M + 1) : movQ a zs f k M s = movK a zs f (k + 1) s := by
  unfold movQ
  rw [if_pos (by omega)]
theorem movK_skip {m k : Nat} (h : ∀ x, x < 2 ^ m → f k x = false) (s x : Nat) (hx : x < 2 ^ m) : movK a zs f k s x = movK a zs f (k + 1) s x := by
  cases s with
  | zero => rfl
  | succ q => rw [movK_succ, h x hx, Bool.false_and, Bool.or_false]
/-- Ends of the first k states. -/
def isK (k : Nat) : Fn := fun x => (List.range k).any fun j => f j x && (stateO (zOf zs) a j).2 x
theorem isK_succ (k x : Nat) : isK a zs f (k + 1) x = (isK a zs f k x || (f k x && (stateO (zOf zs) a k).2 x)) := by
  show (List.range (k + 1)).any _ = ((List.range k).any _ || _)
  rw [List.range_succ, List.any_append]
  simp
end
/-- What has been found of the windows W, and of the first k states of a class. -/
def isB (h : Nd) (a : Tr) (zs : List Fn) (W : Win) (c : Nat) (f : Nat → Fn) (k : Nat) : Fn := fun x => backF h a zs W x || (inC h c && isK a zs f k x)
theorem isB_zero (h : Nd) (a : Tr) (zs : List Fn) (W : Win) (c : Nat) (f : Nat → Fn) (x : Nat) : backF h a zs W x = isB h a zs W c f 0 x := by
  unfold isB
  show _ = (_ || (_ && false))
  rw [Bool.and_false, Bool.or_false]
theorem isB_in {h : Nd} {a : Tr} {zs : List Fn} {W : Win} {c : Nat} {f : Nat → Fn} {k : Nat} (e : inC h c = true) (x : Nat) : (isB h a zs W c f k x || (f k x && (stateO (zOf zs) a k).2 x)) = isB h a zs W c f (k + 1) x := by
  unfold isB
  rw [isK_succ, e, Bool.true_and, Bool.true_and, Bool.or_assoc]
theorem isB_out {h : Nd} {a : Tr} {zs : List Fn} {W : Win} {c : Nat} {f : Nat → Fn} {k : Nat} (e : inC h c = false) (x : Nat) : isB h a zs W c f k x = isB h a zs W c f (k + 1) x := by
  unfold isB
  rw [e, Bool.false_and, Bool.false_and]
theorem isB_skip {h : Nd} {a : Tr} {zs : List Fn} {W : Win} {c : Nat} {f : Nat → Fn} {k m : Nat} (e : ∀ x, x < 2 ^ m → f k x = false) (x : Nat) (hx : x < 2 ^ m) : isB h a zs W c f k x = isB h a zs W c f (k + 1) x := by
  unfold isB
  rw [isK_succ, e x hx, Bool.false_and, Bool.or_false]
theorem isB_done (h : Nd) (a : Tr) (zs : List Fn) (W : Win) (b : Nat × (Nat → Fn)) (x : Nat) : isB h a zs W b.1 b.2 (stepsN a + 1) x = backF h a zs (W ++ [b]) x := by
  unfold isB backF isK
  rw [List.any_append]
  simp
theorem backV_append (m : Nat) (a : Tr) (zs : List Fn) (W : Win) (b : Nat × (Nat → Fn)) : backV m a zs (W ++ [b]) = backV m a zs W ++ (if someZ m a (movedF a zs b.2) = true then [(b.1, movedF a zs b.2)] else []) := by
  unfold backV
  rw [List.map_append, List.filter_append]
  congr 1
  show List.filter _ [(b.1, movedF a zs b.2)] = _
  by_cases e : someZ m a (movedF a zs b.2) = true
  · rw [if_pos e, List.filter_cons_of_pos (by exact e)]; rfl
  · rw [if_neg e, List.filter_cons_of_neg (by exact e)]; rfl
/-- Is a state of some M + 1 there? -/
def anyZ (m M : Nat) (f : Nat → Fn) : Prop := ∃ s, s < M + 1 ∧ ∃ x, x < 2 ^ m ∧ f s x = true
theorem someZ_iff (m : Nat) (a : Tr) (f : Nat → Fn) : someZ m a f = true ↔ anyZ m (stepsN a) f := by
  unfold someZ anyZ
  simp only [List.any_eq_true, List.mem_range]
theorem anyZ_none (m M : Nat) : ¬ anyZ m M fun _ => noFn := by
  rintro ⟨s, _, x, _, e⟩
  cases e
theorem anyZ_set {m M : Nat} {f : Nat → Fn} {q : Nat} {p : Fn} (hq : q < M + 1) (hp : ∀ x, f q x = true → p x = true) : anyZ m M (fun s => if s = q then p else f s) ↔ anyZ m M f ∨ ∃ x, x < 2 ^ m ∧ p x = true := by
  have e1 : ∀ s, s = q → (fun s => if s = q then p else f s) s = p := fun s e => if_pos e
  have e2 : ∀ s, s ≠ q → (fun s => if s = q then p else f s) s = f s := fun s e => if_neg e
  constructor
  · rintro ⟨s, h1, x, h2, h3⟩
    by_cases e : s = q
    · rw [e1 s e] at h3; exact .inr ⟨x, h2, h3⟩
    · rw [e2 s e] at h3; exact .inl ⟨s, h1, x, h2, h3⟩
  · rintro (⟨s, h1, x, h2, h3⟩ | ⟨x, h2, h3⟩)
    · by_cases e : s = q
      · exact ⟨s, h1, x, h2, by rw [e1 s e]; exact hp x (e ▸ h3)⟩
      · exact ⟨s, h1, x, h2, by rw [e2 s e]; exact h3⟩
    · exact ⟨q, hq, x, h2, by rw [e1 q rfl]; exact h3⟩
theorem anyZ_congr {m M : Nat} {f g : Nat → Fn} (h : ∀ s, s < M + 1 → ∀ x, x < 2 ^ m → f s x = g s x) : anyZ m M f ↔ anyZ m M g := by
  constructor
  · rintro ⟨s, h1, x, h2, h3⟩; exact ⟨s, h1, x, h2, by rw [← h s h1 x h2]; exact h3⟩
  · rintro ⟨s, h1, x, h2, h3⟩; exact ⟨s, h1, x, h2, by rw [h s h1 x h2]; exact h3⟩
end Go.Proofs.Ytaomehlhopiblaa
