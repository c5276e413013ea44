/- Several rows as one, by their heads' times: plain laws; the queue that a heap holds. -/
import Derived.Test.YtgmbicjcfhmcdaaHeapP
set_option linter.unusedVariables false
set_option linter.unusedSimpArgs false
/-! Several rows as one, by their heads' times: plain laws; the queue that a heap holds. -/
namespace Go.Proofs.Ytgmbicjcfhmcdaa
section
variable {β : Type} (tm : β → Nat)
def headT : List β → Nat
  | [] => 0
  | e :: _ => tm e
def ltL (a b : List β × Nat) : Bool := if headT tm a.1 = headT tm b.1 then decide (a.2 < b.2) else decide (headT tm a.1 < headT tm b.1)
theorem ltS_ltL : LtS (ltL tm) where
  asym a b h := by
    unfold ltL at *
    split at h <;> simp at h
    · rename_i e; rw [if_pos e.symm]; simp; omega
    · rename_i e; rw [if_neg (fun e' => e e'.symm)]; simp; omega
  neg a b c h1 h2 := by
    unfold ltL at *
    split at h1 <;> split at h2 <;> simp at h1 h2
    · rw [if_pos (by omega)]; simp; omega
    · rw [if_neg (by omega)]; simp; omega
    · rw [if_neg (by omega)]; simp; omega
    · rw [if_neg (by omega)]; simp; omega
/-- The rows that are not at their end, each with its place. -/
def qOf : List (List β) → Nat → List (List β × Nat)
  | [], _ => []
  | [] :: R, o => qOf R (o + 1)
  | (e :: l) :: R, o => (e :: l, o) :: qOf R (o + 1)
theorem qOf_mem : ∀ (R : List (List β)) (o : Nat) (l : List β) (i : Nat), (l, i) ∈ qOf R o ↔ o ≤ i ∧ i - o < R.length ∧ R.getD (i - o) [] = l ∧ l ≠ []
  | [], o, l, i => by simp [qOf]
  | [] :: R, o, l, i => by
    unfold qOf
    rw [qOf_mem R (o + 1) l i]
    by_cases e : i = o
    · subst e
      constructor
      · rintro ⟨h, _⟩; omega
      · rintro ⟨_, _, h, h2⟩
        simp at h
        exact absurd h.symm (by simpa using h2)
    · constructor
      · rintro ⟨h1, h2, h3, h4⟩
        refine ⟨by omega, by simp; omega, ?_, h4⟩
        rw [show i - o = (i - (o + 1)) + 1 by omega]; exact h3
      · rintro ⟨h1, h2, h3, h4⟩
        simp at h2
        refine ⟨by omega, by omega, ?_, h4⟩
        rw [show i - o = (i - (o + 1)) + 1 by omega] at h3; exact h3
  | (e :: r) :: R, o, l, i => by
    unfold qOf
    rw [List.mem_cons, qOf_mem R (o + 1) l i]
    by_cases c : i = o
    · subst c
      constructor
      · rintro (h | ⟨h, _⟩)
        · injection h with h1 h2
          subst h1
          simp
        · omega
      · rintro ⟨_, _, h, h2⟩
        simp at h
        exact .inl (by rw [h])
    · constructor
      · rintro (h | ⟨h1, h2, h3, h4⟩)
        · injection h with h1 h2
          exact absurd h2 c
        · refine ⟨by omega, by simp; omega, ?_, h4⟩
          rw [show i - o = (i - (o + 1)) + 1 by omega]; exact h3
      · rintro ⟨h1, h2, h3, h4⟩
        simp at h2
        refine .inr ⟨by omega, by omega, ?_, h4⟩
        rw [show i - o = (i - (o + 1)) + 1 by omega] at h3; exact h3
theorem qOf_set : ∀ (R : List (List β)) (o b : Nat) (l : List β), b < R.length → l ≠ [] → (qOf (R.set b l) o).Perm ((l, o + b) :: qOf (R.set b []) o)
  | [], o, b, l, hb, hl => by simp at hb
  | x :: R, o, 0, l, hb, hl => by
    cases l with
    | nil => exact absurd rfl hl
    | cons e l => simp [qOf]
  | x :: R, o, b + 1, l, hb, hl => by
    have ih := qOf_set R (o + 1) b l (by simpa using hb) hl
    rw [show o + 1 + b = o + (b + 1) by omega] at ih
    cases x with
    | nil => simpa [qOf] using ih
    | cons y x =>
      simp only [List.set_cons_succ, qOf]
      exact (ih.cons _).trans (List.Perm.swap _ _ _)
theorem qOf_at {R : List (List β)} {b : Nat} (hb : b < R.length) (hl : R.getD b [] ≠ []) : (qOf R 0).Perm ((R.getD b [], b) :: qOf (R.set b []) 0) := by
  have h := qOf_set R 0 b (R.getD b []) hb hl
  rw [Nat.zero_add] at h
  have e : R.set b (R.getD b []) = R := by rw [List.getD, List.getElem?_eq_getElem hb]; simp
  rw [e] at h
  exact h
/-- The best of the first k: the least time, the first of these. -/
def bestTo (R : List (List β)) : Nat → Option Nat
  | 0 => none
  | k + 1 => if R.getD k [] = [] then bestTo R k else match bestTo R k with
    | none => some k
    | some b => if headT tm (R.getD k []) < headT tm (R.getD b []) then some k else some b
theorem bestTo_none {R : List (List β)} : ∀ {k : Nat}, bestTo tm R k = none → ∀ i, i < k → R.getD i [] = []
  | 0, _, i, hi => by omega
  | k + 1, h, i, hi => by
    unfold bestTo at h
    split at h
    · rename_i e
      by_cases c : i = k
      · rw [c, e]
      · exact bestTo_none h i (by omega)
    · split at h
      · cases h
      · split at h <;> cases h
theorem bestTo_some {R : List (List β)} : ∀ {k b : Nat}, bestTo tm R k = some b → b < k ∧ R.getD b [] ≠ [] ∧ ∀ i, i < k → R.getD i [] ≠ [] → headT tm (R.getD b []) < headT tm (R.getD i []) ∨ headT tm (R.getD b []) = headT tm (R.getD i []) ∧ b ≤ i
  | 0, b, h => by simp [bestTo] at h
  | k + 1, b, h => by
    unfold bestTo at h
    split at h
    · rename_i e
      obtain ⟨h1, h2, h3⟩ := bestTo_some h
      refine ⟨by omega, h2, fun i hi hne => ?_⟩
      by_cases c : i = k
      · rw [c] at hne; exact absurd e hne
      · exact h3 i (by omega) hne
    · rename_i e
      split at h
      · rename_i hn
        injection h with h
        subst h
        refine ⟨by omega, e, fun i hi hne => ?_⟩
        by_cases c : i = k
        · subst c; exact .inr ⟨rfl, Nat.le_refl _⟩
        · exact absurd (bestTo_none tm hn i (by omega)) hne
      · rename_i b' hb'
        obtain ⟨h1, h2, h3⟩ := bestTo_some hb'
        split at h
        · rename_i hlt
          injection h with h
          subst h
          refine ⟨by omega, e, fun i hi hne => ?_⟩
          by_cases c : i = k
          · subst c; exact .inr ⟨rfl, Nat.le_refl _⟩
          · rcases h3 i (by omega) hne with h | ⟨h, _⟩
            · exact .inl (by omega)
            · exact .inl (by omega)
        · rename_i hlt
          injection h with h
          subst h
          refine ⟨by omega, h2, fun i hi hne => ?_⟩
          by_cases c : i = k
          · subst c
            by_cases c2 : headT tm (R.getD b' []) < headT tm (R.getD i [])
            · exact .inl c2
            · exact .inr ⟨by omega, by omega⟩
          · exact h3 i (by omega) hne
def bestR (R : List (List β)) : Option Nat := bestTo tm R R.length
/-- What a heap over the rows has at its root is the best one. -/
theorem root_best {R : List (List β)} {xs : List (List β × Nat)} (hp : xs.Perm (qOf R 0)) (hH : HeapS (ltL tm) xs 0 xs.length) (hx : 0 < xs.length) :
    (xs.getD 0 default).2 < R.length ∧ R.getD (xs.getD 0 default).2 [] = (xs.getD 0 default).1 ∧ (xs.getD 0 default).1 ≠ [] ∧ bestR tm R = some (xs.getD 0 default).2 := by
  obtain ⟨x, hxx⟩ : ∃ x, xs.getD 0 default = x := ⟨_, rfl⟩
  have hmem : x ∈ xs := by rw [← hxx, List.getD, List.getElem?_eq_getElem hx]; exact List.getElem_mem hx
  have hq : (x.1, x.2) ∈ qOf R 0 := hp.mem_iff.1 hmem
  rw [qOf_mem] at hq
  obtain ⟨_, q1, q2, q3⟩ := hq
  rw [Nat.sub_zero] at q1 q2
  have hroot := heap_root (ltS_ltL tm) hH
  rw [hxx] at hroot ⊢
  refine ⟨q1, q2, q3, ?_⟩
  unfold bestR
  cases hb : bestTo tm R R.length with
  | none => exact absurd ((bestTo_none tm hb _ q1).symm.trans q2).symm (by simpa using q3)
  | some b =>
    obtain ⟨h1, h2, h3⟩ := bestTo_some tm hb
    have hbm : (R.getD b [], b) ∈ xs := hp.mem_iff.2 ((qOf_mem R 0 _ _).2 ⟨Nat.zero_le _, by omega, by simp, h2⟩)
    obtain ⟨k, hk, hke⟩ := List.getElem_of_mem hbm
    have hr := hroot k hk
    rw [List.getD, List.getElem?_eq_getElem hk, hke] at hr
    simp only [Option.getD_some] at hr
    unfold ltL at hr
    have h3' := h3 x.2 q1 (by rw [q2]; exact q3)
    rw [q2] at h3'
    dsimp only at hr
    congr 1
    split at hr <;> rw [decide_eq_false_iff_not] at hr <;> omega
theorem root_none {R : List (List β)} {xs : List (List β × Nat)} (hp : xs.Perm (qOf R 0)) (hx : xs = []) : bestR tm R = none := by
  subst hx
  have hq : qOf R 0 = [] := hp.symm.eq_nil
  unfold bestR
  cases hb : bestTo tm R R.length with
  | none => rfl
  | some b =>
    obtain ⟨h1, h2, _⟩ := bestTo_some tm hb
    have : (R.getD b [], b) ∈ qOf R 0 := (qOf_mem R 0 _ _).2 ⟨Nat.zero_le _, by omega, by simp, h2⟩
    rw [hq] at this
    cases this
/-- The root's row goes on. -/
theorem fix_perm {R : List (List β)} {xs : List (List β × Nat)} {b : Nat} {e : β} {r : List β} (hp : xs.Perm (qOf R 0)) (hx : 0 < xs.length) (h0 : xs.getD 0 default = (e :: r, b)) (hr : r ≠ []) (hb : b < R.length) (hR : R.getD b [] = e :: r) :
    (downS (ltL tm) xs.length (xs.set 0 (r, b)) xs.length 0).1.Perm (qOf (R.set b r) 0) := by
  refine (down_perm _ _ _ _ _ (by simp)).trans ?_
  cases xs with
  | nil => simp at hx
  | cons x tl =>
    simp at h0
    subst h0
    have h1 := qOf_at hb (by rw [hR]; simp)
    rw [hR] at h1
    have h2 : tl.Perm (qOf (R.set b []) 0) := (hp.trans h1).cons_inv
    have h3 := qOf_set R 0 b r hb hr
    rw [Nat.zero_add] at h3
    exact (h2.cons _).trans h3.symm
/-- The root's row is at its end. -/
theorem pop_permR {R : List (List β)} {xs : List (List β × Nat)} {b : Nat} {e : β} (hp : xs.Perm (qOf R 0)) (hx : 0 < xs.length) (h0 : xs.getD 0 default = ([e], b)) (hb : b < R.length) (hR : R.getD b [] = [e]) :
    ((popS (ltL tm) xs).take (xs.length - 1)).Perm (qOf (R.set b []) 0) := by
  have h1 := qOf_at hb (by rw [hR]; simp)
  rw [hR] at h1
  have h2 := (pop_rest (lt := ltL tm) xs hx).trans (hp.trans h1)
  rw [h0] at h2
  exact h2.cons_inv
/-- All events, each with its row, by time; of one time by place. -/
def mergeS : Nat → List (List β) → List (Nat × β)
  | 0, _ => []
  | f + 1, R => match bestR tm R with
    | none => []
    | some b => match R.getD b [] with
      | [] => []
      | e :: r => (b, e) :: mergeS f (R.set b r)
theorem merge_step {f : Nat} {R : List (List β)} {b : Nat} {e : β} {r : List β} (h : bestR tm R = some b) (hR : R.getD b [] = e :: r) : mergeS tm (f + 1) R = (b, e) :: mergeS tm f (R.set b r) := by
  show (match bestR tm R with
    | none => []
    | some b => match R.getD b [] with
      | [] => []
      | e :: r => (b, e) :: mergeS tm f (R.set b r)) = _
  rw [h]
  simp only [hR]
theorem merge_end {f : Nat} {R : List (List β)} (h : bestR tm R = none) : mergeS tm f R = [] := by
  cases f with
  | zero => rfl
  | succ f => unfold mergeS; rw [h]
def sumLn (R : List (List β)) : Nat := (R.map List.length).sum
theorem sum_set {R : List (List β)} {b : Nat} {e : β} {r : List β} (hb : b < R.length) (hR : R.getD b [] = e :: r) : sumLn (R.set b r) + 1 = sumLn R := by
  induction R generalizing b with
  | nil => simp at hb
  | cons x R ih =>
    cases b with
    | zero => simp at hR; subst hR; simp [sumLn]; omega
    | succ b =>
      have := ih (b := b) (by simpa using hb) (by simpa using hR)
      simp [sumLn] at this ⊢; omega
end
end Go.Proofs.Ytgmbicjcfhmcdaa
