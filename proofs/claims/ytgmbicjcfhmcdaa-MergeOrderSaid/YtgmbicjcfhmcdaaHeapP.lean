/- A binary heap in a list: what down does, plain laws. -/
import Derived.Test.YtgmbicjcfhmcdaaTreeP
set_option linter.unusedVariables false
set_option linter.unusedSimpArgs false
/-! A binary heap in a list: what down does, plain laws. -/
namespace Go.Proofs.Ytgmbicjcfhmcdaa
section
variable {α : Type} [Inhabited α]
def swapL (xs : List α) (i j : Nat) : List α := (xs.set i (xs.getD j default)).set j (xs.getD i default)
theorem length_swapL (xs : List α) (i j : Nat) : (swapL xs i j).length = xs.length := by simp [swapL]
theorem get_swapL (xs : List α) {i j : Nat} (hi : i < xs.length) (hj : j < xs.length) (k : Nat) : (swapL xs i j).getD k default = if k = j then xs.getD i default else if k = i then xs.getD j default else xs.getD k default := by
  unfold swapL
  rw [List.getD]
  by_cases e1 : k = j
  · subst e1
    rw [if_pos rfl, List.getElem?_set_self (by simpa using hj)]; rfl
  · rw [if_neg e1, List.getElem?_set_ne (fun e => e1 e.symm)]
    by_cases e2 : k = i
    · subst e2
      rw [if_pos rfl, List.getElem?_set_self hi]; rfl
    · rw [if_neg e2, List.getElem?_set_ne (fun e => e2 e.symm)]; rfl
theorem swapL_perm (xs : List α) {i j : Nat} (hi : i < xs.length) (hj : j < xs.length) : (swapL xs i j).Perm xs := by
  unfold swapL
  rw [List.getD, List.getElem?_eq_getElem hj, List.getD, List.getElem?_eq_getElem hi]
  exact List.set_set_perm hi hj
variable (lt : α → α → Bool)
/-- The lesser kid of i among the first n. -/
def kidH (xs : List α) (n i : Nat) : Nat := if 2 * i + 2 < n ∧ lt (xs.getD (2 * i + 2) default) (xs.getD (2 * i + 1) default) = true then 2 * i + 2 else 2 * i + 1
/-- What down makes of xs, and where it ends. -/
def downS : Nat → List α → Nat → Nat → List α × Nat
  | 0, xs, _, i => (xs, i)
  | f + 1, xs, n, i => if n ≤ 2 * i + 1 then (xs, i) else
    if lt (xs.getD (kidH lt xs n i) default) (xs.getD i default) = true then downS f (swapL xs i (kidH lt xs n i)) n (kidH lt xs n i) else (xs, i)
theorem kid_bounds (xs : List α) (n i : Nat) (h : 2 * i + 1 < n) : i < kidH lt xs n i ∧ kidH lt xs n i < n ∧ (kidH lt xs n i - 1) / 2 = i ∧ kidH lt xs n i ≤ 2 * i + 2 := by
  unfold kidH
  split <;> omega
/-- More rounds change nothing. -/
theorem down_fuel : ∀ (f g : Nat) (xs : List α) (n i : Nat), n - i ≤ f → n - i ≤ g → downS lt f xs n i = downS lt g xs n i
  | 0, g, xs, n, i, hf, hg => by
    cases g with
    | zero => rfl
    | succ g => unfold downS; rw [if_pos (by omega)]
  | f + 1, 0, xs, n, i, hf, hg => by unfold downS; rw [if_pos (by omega)]
  | f + 1, g + 1, xs, n, i, hf, hg => by
    unfold downS
    split
    · rfl
    · rename_i h
      obtain ⟨h1, h2, _⟩ := kid_bounds lt xs n i (by omega)
      split
      · exact down_fuel f g _ _ _ (by omega) (by omega)
      · rfl
theorem down_length : ∀ (f : Nat) (xs : List α) (n i : Nat), (downS lt f xs n i).1.length = xs.length
  | 0, xs, n, i => rfl
  | f + 1, xs, n, i => by
    unfold downS
    split
    · rfl
    · split
      · rw [down_length, length_swapL]
      · rfl
theorem down_perm : ∀ (f : Nat) (xs : List α) (n i : Nat), n ≤ xs.length → (downS lt f xs n i).1.Perm xs
  | 0, xs, n, i, _ => List.Perm.refl _
  | f + 1, xs, n, i, hn => by
    unfold downS
    split
    · exact List.Perm.refl _
    · rename_i h
      obtain ⟨h1, h2, _⟩ := kid_bounds lt xs n i (by omega)
      split
      · exact (down_perm f _ _ _ (by rw [length_swapL]; exact hn)).trans (swapL_perm xs (by omega) (by omega))
      · exact List.Perm.refl _
/-- What lies behind the first n stays. -/
theorem down_behind : ∀ (f : Nat) (xs : List α) (n i k : Nat), n ≤ xs.length → n ≤ k → (downS lt f xs n i).1.getD k default = xs.getD k default
  | 0, xs, n, i, k, _, _ => rfl
  | f + 1, xs, n, i, k, hn, hk => by
    unfold downS
    split
    · rfl
    · rename_i h
      obtain ⟨h1, h2, _⟩ := kid_bounds lt xs n i (by omega)
      split
      · rw [down_behind f _ _ _ _ (by rw [length_swapL]; exact hn) hk, get_swapL xs (by omega) (by omega), if_neg (by omega), if_neg (by omega)]
      · rfl
/-- The first n are heaps from s on. -/
def HeapS (xs : List α) (s n : Nat) : Prop := ∀ k, 0 < k → k < n → s ≤ (k - 1) / 2 → lt (xs.getD k default) (xs.getD ((k - 1) / 2) default) = false
/-- Likewise, but for what is below i. -/
structure HeapB (xs : List α) (s n i : Nat) : Prop where
  one : ∀ k, 0 < k → k < n → s ≤ (k - 1) / 2 → (k - 1) / 2 ≠ i → lt (xs.getD k default) (xs.getD ((k - 1) / 2) default) = false
  two : ∀ k, 0 < k → k < n → (k - 1) / 2 = i → 0 < i → s ≤ (i - 1) / 2 → lt (xs.getD k default) (xs.getD ((i - 1) / 2) default) = false
structure LtS (lt : α → α → Bool) : Prop where
  asym : ∀ a b, lt a b = true → lt b a = false
  neg : ∀ a b c, lt a b = false → lt b c = false → lt a c = false
variable {lt}
theorem kid_least (h : LtS lt) (xs : List α) (n i k : Nat) (hk : 0 < k) (hkn : k < n) (hp : (k - 1) / 2 = i) : lt (xs.getD k default) (xs.getD (kidH lt xs n i) default) = false := by
  have irr : ∀ a, lt a a = false := fun a => by
    cases e : lt a a
    · rfl
    · have := h.asym a a e; rw [e] at this; exact this
  unfold kidH
  split
  · rename_i c
    by_cases e : k = 2 * i + 2
    · rw [e]; exact irr _
    · rw [show k = 2 * i + 1 by omega]; exact h.asym _ _ c.2
  · rename_i c
    by_cases e : k = 2 * i + 2
    · subst e
      cases e2 : lt (xs.getD (2 * i + 2) default) (xs.getD (2 * i + 1) default)
      · rfl
      · exact absurd ⟨hkn, e2⟩ c
    · rw [show k = 2 * i + 1 by omega]; exact irr _
theorem down_heap (h : LtS lt) : ∀ (f : Nat) (xs : List α) (s n i : Nat), n - i ≤ f → n ≤ xs.length → s ≤ i → HeapB lt xs s n i → HeapS lt (downS lt f xs n i).1 s n
  | 0, xs, s, n, i, hf, hn, hs, hB => fun k h1 h2 h3 => hB.one k h1 h2 h3 (by omega)
  | f + 1, xs, s, n, i, hf, hn, hs, hB => by
    unfold downS
    split
    · exact fun k h1 h2 h3 => hB.one k h1 h2 h3 (by omega)
    · rename_i hc
      obtain ⟨b1, b2, b3, b4⟩ := kid_bounds lt xs n i (by omega)
      have hl := kid_least h xs n i
      obtain ⟨j, hj⟩ : ∃ j, kidH lt xs n i = j := ⟨_, rfl⟩
      rw [hj] at b1 b2 b3 b4 hl ⊢
      split
      · rename_i hlt
        refine down_heap h f _ s n j (by omega) (by rw [length_swapL]; exact hn) (by omega) ⟨fun k k1 k2 k3 k4 => ?_, fun k k1 k2 k3 k4 k5 => ?_⟩
        · rw [get_swapL xs (by omega) (by omega), get_swapL xs (by omega) (by omega)]
          rw [if_neg (c := (k - 1) / 2 = j) k4]
          by_cases e1 : k = j
          · subst e1
            rw [if_pos rfl, if_pos b3]
            exact h.asym _ _ hlt
          · rw [if_neg e1]
            by_cases e2 : k = i
            · subst e2
              rw [if_pos rfl, if_neg (by omega)]
              exact hB.two j (by omega) b2 b3 k1 k3
            · rw [if_neg e2]
              by_cases e3 : (k - 1) / 2 = i
              · rw [if_pos e3]
                exact hl k k1 k2 e3
              · rw [if_neg e3]
                exact hB.one k k1 k2 k3 e3
        · rw [get_swapL xs (by omega) (by omega), get_swapL xs (by omega) (by omega), if_neg (by omega), if_neg (by omega), if_neg (by omega), if_pos b3]
          have := hB.one k k1 k2 (by omega) (by omega)
          rw [k3] at this
          exact this
      · rename_i hlt
        have hlt : lt (xs.getD j default) (xs.getD i default) = false := by cases e : lt (xs.getD j default) (xs.getD i default); rfl; exact absurd e hlt
        intro k k1 k2 k3
        by_cases e : (k - 1) / 2 = i
        · rw [e]
          exact h.neg _ _ _ (hl k k1 k2 e) hlt
        · exact hB.one k k1 k2 k3 e
theorem heap_root (h : LtS lt) {xs : List α} {n : Nat} (hH : HeapS lt xs 0 n) : ∀ k, k < n → lt (xs.getD k default) (xs.getD 0 default) = false := by
  have irr : ∀ a, lt a a = false := fun a => by
    cases e : lt a a
    · rfl
    · have := h.asym a a e; rw [e] at this; exact this
  intro k
  induction k using Nat.strongRecOn with
  | _ k ih =>
    intro hk
    by_cases h0 : k = 0
    · subst h0; exact irr _
    · exact h.neg _ _ _ (hH k (by omega) hk (by omega)) (ih ((k - 1) / 2) (by omega) (by omega))
/-- All of what Init does, from i down to 0. -/
def initS (lt : α → α → Bool) : Nat → List α → List α
  | 0, xs => xs
  | i + 1, xs => initS lt i (downS lt xs.length xs xs.length i).1
theorem init_perm : ∀ (i : Nat) (xs : List α), (initS lt i xs).Perm xs
  | 0, _ => List.Perm.refl _
  | i + 1, xs => by unfold initS; exact (init_perm i _).trans (down_perm lt _ xs _ i (Nat.le_refl _))
theorem init_heap (h : LtS lt) : ∀ (i : Nat) (xs : List α), HeapS lt xs i xs.length → HeapS lt (initS lt i xs) 0 xs.length
  | 0, _, hH => hH
  | i + 1, xs, hH => by
    unfold initS
    have hd := down_heap h xs.length xs i xs.length i (by omega) (Nat.le_refl _) (Nat.le_refl _) ⟨fun k k1 k2 k3 k4 => hH k k1 k2 (by omega), fun k k1 k2 k3 k4 k5 => by omega⟩
    have := init_heap h i (downS lt xs.length xs xs.length i).1 (by rw [down_length]; exact hd)
    rw [down_length] at this
    exact this
theorem init_all (h : LtS lt) (xs : List α) : HeapS lt (initS lt (xs.length / 2) xs) 0 xs.length := init_heap h _ xs (fun k k1 k2 k3 => by omega)
/-- The root is another one, and goes down. -/
theorem root_heap (h : LtS lt) {xs ys : List α} {n m : Nat} (hn : n ≤ ys.length) (hnm : n ≤ m) (hH : HeapS lt xs 0 m) (he : ∀ k, 0 < k → k < n → ys.getD k default = xs.getD k default) : HeapS lt (downS lt n ys n 0).1 0 n := by
  refine down_heap h n ys 0 n 0 (by omega) hn (Nat.le_refl _) ⟨fun k k1 k2 k3 k4 => ?_, fun k k1 k2 k3 k4 _ => by omega⟩
  rw [he k k1 k2, he _ (by omega) (by omega)]
  exact hH k k1 (by omega) k3
theorem fix_heap (h : LtS lt) {xs : List α} (hH : HeapS lt xs 0 xs.length) (x : α) : HeapS lt (downS lt xs.length (xs.set 0 x) xs.length 0).1 0 xs.length :=
  root_heap h (by simp) (Nat.le_refl _) hH (fun k hk _ => by rw [List.getD, List.getElem?_set_ne (by omega)]; rfl)
/-- What Pop leaves: the last one takes the root's place, and goes down. -/
def popS (lt : α → α → Bool) (xs : List α) : List α := (downS lt (xs.length - 1) (swapL xs 0 (xs.length - 1)) (xs.length - 1) 0).1
theorem pop_length (xs : List α) : (popS lt xs).length = xs.length := by unfold popS; rw [down_length, length_swapL]
theorem pop_last (xs : List α) (hx : 0 < xs.length) : (popS lt xs).getD (xs.length - 1) default = xs.getD 0 default := by
  unfold popS
  rw [down_behind lt _ _ _ _ _ (by rw [length_swapL]; omega) (Nat.le_refl _), get_swapL xs hx (by omega), if_pos rfl]
theorem pop_perm (xs : List α) (hx : 0 < xs.length) : (popS lt xs).Perm xs := by
  unfold popS
  exact (down_perm lt _ _ _ _ (by rw [length_swapL]; omega)).trans (swapL_perm xs hx (by omega))
theorem pop_heap (h : LtS lt) {xs : List α} (hx : 0 < xs.length) (hH : HeapS lt xs 0 xs.length) : HeapS lt ((popS lt xs).take (xs.length - 1)) 0 (xs.length - 1) := by
  have hd : HeapS lt (popS lt xs) 0 (xs.length - 1) := root_heap h (by rw [length_swapL]; omega) (by omega) hH (fun k k1 k2 => by rw [get_swapL xs hx (by omega), if_neg (by omega), if_neg (by omega)])
  intro k k1 k2 k3
  have hg : ∀ k, k < xs.length - 1 → ((popS lt xs).take (xs.length - 1)).getD k default = (popS lt xs).getD k default := fun k hk => by rw [List.getD, List.getElem?_take_of_lt hk]; rfl
  rw [hg k k2, hg _ (by omega)]
  exact hd k k1 k2 k3
theorem pop_rest (xs : List α) (hx : 0 < xs.length) : (xs.getD 0 default :: (popS lt xs).take (xs.length - 1)).Perm xs := by
  have h1 := pop_perm (lt := lt) xs hx
  have h2 := pop_last (lt := lt) xs hx
  have hl := pop_length (lt := lt) xs
  have e : popS lt xs = (popS lt xs).take (xs.length - 1) ++ [xs.getD 0 default] := by
    have hk : xs.length - 1 < (popS lt xs).length := by omega
    have := List.take_succ_eq_append_getElem hk
    rw [show xs.length - 1 + 1 = (popS lt xs).length by omega, List.take_length] at this
    rw [List.getD, List.getElem?_eq_getElem hk] at h2
    simp only [Option.getD_some] at h2
    rw [h2] at this
    exact this
  refine List.Perm.trans ?_ h1
  conv => rhs; rw [e]
  exact (List.perm_append_comm (l₁ := [_]))
end
end Go.Proofs.Ytgmbicjcfhmcdaa
