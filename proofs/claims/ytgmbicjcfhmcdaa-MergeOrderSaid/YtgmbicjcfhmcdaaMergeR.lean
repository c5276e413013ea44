/- What is merged is sorted by time, and of one time it stands as in the rows one behind the other; there is just one such row. -/
import Derived.Test.YtgmbicjcfhmcdaaMergeP
set_option linter.unusedVariables false
set_option linter.unusedSimpArgs false
/-! What is merged is sorted by time, and of one time it stands as in the rows one behind the other; there is just one such row. -/
namespace Go.Proofs.Ytgmbicjcfhmcdaa
section
variable {β : Type} (tm : β → Nat)
/-- By time. -/
def ByT (l : List β) : Prop := l.Pairwise fun a b => tm a ≤ tm b
/-- The rows one behind the other, each element with its row. -/
def tagL : List (List β) → Nat → List (Nat × β)
  | [], _ => []
  | l :: R, o => l.map (fun e => (o, e)) ++ tagL R (o + 1)
def atT (t : Nat) (p : Nat × β) : Bool := decide (tm p.2 = t)
theorem tag_set : ∀ (R : List (List β)) (o b : Nat) (e : β) (r : List β), b < R.length → R.getD b [] = e :: r → ∀ t,
    (∀ i, i < b → ∀ x ∈ R.getD i [], tm x ≠ tm e) →
    (tagL R o).filter (atT tm t) = if tm e = t then (o + b, e) :: (tagL (R.set b r) o).filter (atT tm t) else (tagL (R.set b r) o).filter (atT tm t)
  | [], o, b, e, r, hb, _, t, _ => by simp at hb
  | x :: R, o, 0, e, r, hb, hR, t, hlt => by
    have hx : x = e :: r := by simpa using hR
    subst hx
    simp only [tagL, List.set_cons_zero, List.map_cons, List.cons_append, List.filter_cons, Nat.add_zero]
    unfold atT
    by_cases c : tm e = t
    · rw [if_pos c, if_pos (by simpa using c)]
    · rw [if_neg c, if_neg (by simpa using c)]
  | x :: R, o, b + 1, e, r, hb, hR, t, hlt => by
    have ih := tag_set R (o + 1) b e r (by simpa using hb) (by simpa using hR) t (fun i hi y hy => hlt (i + 1) (by omega) y (by simpa using hy))
    simp only [tagL, List.set_cons_succ, List.filter_append]
    rw [ih, show o + 1 + b = o + (b + 1) by omega]
    by_cases c : tm e = t
    · rw [if_pos c, if_pos c]
      have h0 : (x.map fun y => (o, y)).filter (atT tm t) = [] := by
        rw [List.filter_eq_nil_iff]
        intro p hp
        obtain ⟨y, hy, rfl⟩ := List.mem_map.1 hp
        have := hlt 0 (by omega) y (by simpa using hy)
        unfold atT
        simp only [decide_eq_true_eq]
        omega
      rw [h0, List.nil_append, List.nil_append]
    · rw [if_neg c, if_neg c]
theorem getD_set_row {R : List (List β)} {b i : Nat} {r : List β} (hb : b < R.length) : (R.set b r).getD i [] = if i = b then r else R.getD i [] := by
  rw [List.getD]
  by_cases e : i = b
  · subst e; rw [if_pos rfl, List.getElem?_set_self hb]; rfl
  · rw [if_neg e, List.getElem?_set_ne (fun h => e h.symm)]; rfl
/-- All rows are by time. -/
def RowsT (R : List (List β)) : Prop := ∀ i, ByT tm (R.getD i [])
theorem rowsT_set {R : List (List β)} (h : RowsT tm R) {b : Nat} {e : β} {r : List β} (hb : b < R.length) (hR : R.getD b [] = e :: r) : RowsT tm (R.set b r) := fun i => by
  rw [getD_set_row hb]
  split
  · have := h b; rw [hR] at this; exact (List.pairwise_cons.1 this).2
  · exact h i
theorem best_le {R : List (List β)} (h : RowsT tm R) {b : Nat} {e : β} {r : List β} (hb : bestR tm R = some b) (hR : R.getD b [] = e :: r) : ∀ i x, x ∈ R.getD i [] → tm e ≤ tm x ∧ (i < b → tm e < tm x) := by
  obtain ⟨h1, h2, h3⟩ := bestTo_some tm hb
  intro i x hx
  have hi : i < R.length := by
    rcases Nat.lt_or_ge i R.length with c | c
    · exact c
    · rw [List.getD, List.getElem?_eq_none c] at hx; cases hx
  cases hl : R.getD i [] with
  | nil => rw [hl] at hx; cases hx
  | cons y l =>
    have h4 := h3 i hi (by rw [hl]; simp)
    rw [hR, hl] at h4
    simp only [headT] at h4
    have hy : tm y ≤ tm x := by
      rw [hl] at hx
      have := h i
      rw [hl] at this
      rcases List.mem_cons.1 hx with rfl | hx
      · exact Nat.le_refl _
      · exact (List.pairwise_cons.1 this).1 x hx
    exact ⟨by omega, fun hib => by omega⟩
theorem merge_mem : ∀ (f : Nat) (R : List (List β)) (p : Nat × β), p ∈ mergeS tm f R → p.2 ∈ R.getD p.1 []
  | 0, R, p, h => by simp [mergeS] at h
  | f + 1, R, p, h => by
    cases hb : bestR tm R with
    | none => rw [merge_end tm hb] at h; cases h
    | some b =>
      obtain ⟨h1, h2, _⟩ := bestTo_some tm hb
      cases hR : R.getD b [] with
      | nil => exact absurd hR h2
      | cons e r =>
        rw [merge_step tm hb hR] at h
        rcases List.mem_cons.1 h with rfl | h
        · rw [hR]; simp
        · have := merge_mem f _ p h
          rw [getD_set_row h1] at this
          split at this
          · rename_i c; rw [c, hR]; exact List.mem_cons_of_mem _ this
          · exact this
theorem best_sum {R : List (List β)} (h : bestR tm R = none) : tagL R 0 = [] := by
  have := bestTo_none tm h
  have key : ∀ (R : List (List β)) (o : Nat), (∀ i, i < R.length → R.getD i [] = []) → tagL R o = [] := by
    intro R
    induction R with
    | nil => intro o _; rfl
    | cons x R ih =>
      intro o h
      have h0 : x = [] := by simpa using h 0 (by simp)
      rw [h0]
      simp only [tagL, List.map_nil, List.nil_append]
      exact ih (o + 1) fun i hi => by simpa using h (i + 1) (by simpa using hi)
  exact key R 0 this
theorem merge_facts : ∀ (f : Nat) (R : List (List β)), RowsT tm R → sumLn R ≤ f →
    ((mergeS tm f R).Pairwise fun p q => tm p.2 ≤ tm q.2) ∧ ∀ t, (mergeS tm f R).filter (atT tm t) = (tagL R 0).filter (atT tm t)
  | 0, R, h, hs => by
    have hn : bestR tm R = none := by
      cases hb : bestR tm R with
      | none => rfl
      | some b =>
        obtain ⟨h1, h2, _⟩ := bestTo_some tm hb
        cases hR : R.getD b [] with
        | nil => exact absurd hR h2
        | cons e r => have := sum_set h1 hR; omega
    rw [merge_end tm hn, best_sum tm hn]
    exact ⟨List.Pairwise.nil, fun t => rfl⟩
  | f + 1, R, h, hs => by
    cases hb : bestR tm R with
    | none => rw [merge_end tm hb, best_sum tm hb]; exact ⟨List.Pairwise.nil, fun t => rfl⟩
    | some b =>
      obtain ⟨h1, h2, _⟩ := bestTo_some tm hb
      cases hR : R.getD b [] with
      | nil => exact absurd hR h2
      | cons e r =>
        rw [merge_step tm hb hR]
        have hsum := sum_set h1 hR
        have hle := best_le tm h hb hR
        obtain ⟨i1, i2⟩ := merge_facts f (R.set b r) (rowsT_set tm h h1 hR) (by omega)
        refine ⟨List.pairwise_cons.2 ⟨fun p hp => ?_, i1⟩, fun t => ?_⟩
        · have := merge_mem tm f _ p hp
          rw [getD_set_row h1] at this
          split at this
          · rename_i c
            exact (hle b p.2 (by rw [hR]; exact List.mem_cons_of_mem _ this)).1
          · exact (hle p.1 p.2 this).1
        · have hts := tag_set tm R 0 b e r h1 hR t (fun i hi x hx => by have := (hle i x hx).2 hi; omega)
          rw [Nat.zero_add] at hts
          rw [hts, List.filter_cons, i2 t]
          unfold atT
          simp
/-- The rows as one row by time. -/
def sortR (R : List (List β)) : List β := (mergeS tm (sumLn R) R).map fun p => p.2
theorem sortR_byT {R : List (List β)} (h : RowsT tm R) : ByT tm (sortR tm R) := by
  unfold sortR ByT
  rw [List.pairwise_map]
  exact (merge_facts tm _ R h (Nat.le_refl _)).1
/-- Elements may be told otherwise, if their times stay. -/
theorem best_map {γ : Type} (tm' : γ → Nat) {R : List (List β)} {R' : List (List γ)} (hl : R'.length = R.length) (hh : ∀ i, (R'.getD i [] = [] ↔ R.getD i [] = []) ∧ headT tm' (R'.getD i []) = headT tm (R.getD i [])) : bestR tm' R' = bestR tm R := by
  unfold bestR
  rw [hl]
  have key : ∀ k, bestTo tm' R' k = bestTo tm R k := fun k => by
    induction k with
    | zero => rfl
    | succ k ih =>
      unfold bestTo
      rw [ih]
      by_cases c : R.getD k [] = []
      · rw [if_pos c, if_pos ((hh k).1.2 c)]
      · rw [if_neg c, if_neg fun e => c ((hh k).1.1 e)]
        split
        · rfl
        · rw [(hh k).2, (hh _).2]
  exact key _
theorem merge_map {γ : Type} (tm' : γ → Nat) (g : Nat → β → γ) (hg : ∀ b e, tm' (g b e) = tm e) : ∀ (f : Nat) (R : List (List β)), mergeS tm' f (R.mapIdx fun i l => l.map (g i)) = (mergeS tm f R).map fun p => (p.1, g p.1 p.2)
  | 0, R => rfl
  | f + 1, R => by
    have hget : ∀ i, (R.mapIdx fun i l => l.map (g i)).getD i [] = (R.getD i []).map (g i) := fun i => by
      rw [List.getD, List.getElem?_mapIdx, List.getD]
      cases R[i]? <;> rfl
    have hb : bestR tm' (R.mapIdx fun i l => l.map (g i)) = bestR tm R := best_map tm tm' (by simp) fun i => by
      rw [hget]
      refine ⟨by simp, ?_⟩
      cases R.getD i [] with
      | nil => rfl
      | cons e r => exact hg i e
    cases hbr : bestR tm R with
    | none =>
      rw [merge_end tm hbr, merge_end tm' (hb.trans hbr)]; rfl
    | some b =>
      obtain ⟨h1, h2, _⟩ := bestTo_some tm hbr
      cases hR : R.getD b [] with
      | nil => exact absurd hR h2
      | cons e r =>
        rw [merge_step tm hbr hR, merge_step tm' (hb.trans hbr) (e := g b e) (r := r.map (g b)) (by rw [hget, hR]; rfl)]
        rw [List.map_cons, ← merge_map tm' g hg f (R.set b r)]
        congr 2
        refine List.ext_getElem? fun i => ?_
        by_cases c : i = b
        · subst c
          rw [List.getElem?_set_self (by simpa using h1), List.getElem?_mapIdx, List.getElem?_set_self h1]; rfl
        · rw [List.getElem?_set_ne (fun e => c e.symm), List.getElem?_mapIdx, List.getElem?_mapIdx, List.getElem?_set_ne (fun e => c e.symm)]
/-- What the first one merged tells. -/
theorem merge_inv {f : Nat} {R : List (List β)} {b : Nat} {e : β} {rest : List (Nat × β)} (h : mergeS tm f R = (b, e) :: rest) : ∃ g r, f = g + 1 ∧ bestR tm R = some b ∧ b < R.length ∧ R.getD b [] = e :: r ∧ rest = mergeS tm g (R.set b r) ∧ ∀ k, k < b → R.getD k [] ≠ [] → headT tm (R.getD k []) ≠ tm e := by
  cases f with
  | zero => simp [mergeS] at h
  | succ g =>
    cases hb : bestR tm R with
    | none => rw [merge_end tm hb] at h; cases h
    | some b' =>
      obtain ⟨h1, h2, h3⟩ := bestTo_some tm hb
      cases hR : R.getD b' [] with
      | nil => exact absurd hR h2
      | cons e' r =>
        rw [merge_step tm hb hR] at h
        injection h with h4 h5
        injection h4 with h6 h7
        subst h6 h7
        refine ⟨g, r, rfl, rfl, h1, hR, h5.symm, fun k hk hne => ?_⟩
        have := h3 k (by omega) hne
        rw [hR] at this
        simp only [headT] at this ⊢
        omega
theorem merge_nil {f : Nat} {R : List (List β)} (hs : sumLn R ≤ f) (h : mergeS tm f R = []) : ∀ k, R.getD k [] = [] := by
  intro k
  rcases Nat.lt_or_ge k R.length with c | c
  · cases hb : bestR tm R with
    | none => exact bestTo_none tm hb k c
    | some b =>
      obtain ⟨h1, h2, _⟩ := bestTo_some tm hb
      cases hR : R.getD b [] with
      | nil => exact absurd hR h2
      | cons e r =>
        have hsum := sum_set h1 hR
        obtain ⟨g, rfl⟩ : ∃ g, f = g + 1 := ⟨f - 1, by omega⟩
        rw [merge_step tm hb hR] at h
        cases h
  · rw [List.getD, List.getElem?_eq_none c]; rfl
theorem merge_length : ∀ (f : Nat) (R : List (List β)), sumLn R ≤ f → (mergeS tm f R).length = sumLn R
  | 0, R, h => by simp [mergeS]; omega
  | f + 1, R, h => by
    cases hm : mergeS tm (f + 1) R with
    | nil =>
      have h0 := merge_nil tm h hm
      have : ∀ (R : List (List β)), (∀ k, R.getD k [] = []) → sumLn R = 0 := by
        intro R
        induction R with
        | nil => intro _; rfl
        | cons x R ih =>
          intro h
          have hx : x = [] := by simpa using h 0
          have := ih fun k => by simpa using h (k + 1)
          unfold sumLn at this ⊢
          rw [hx]; simpa using this
      rw [this R h0]; rfl
    | cons p rest =>
      obtain ⟨b, e⟩ := p
      obtain ⟨g, r, e1, _, hb, hR, e2, _⟩ := merge_inv tm hm
      obtain rfl : f = g := by omega
      have hsum := sum_set hb hR
      rw [List.length_cons, e2, merge_length f _ (by omega)]
      exact hsum
end
end Go.Proofs.Ytgmbicjcfhmcdaa
