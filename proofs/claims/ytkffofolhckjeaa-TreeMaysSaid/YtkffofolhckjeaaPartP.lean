/- Parts of a list: where they begin, what they are. Plain lemmas. -/
import Derived.Test.YtkffofolhckjeaaDepthP
namespace Go.Proofs.Ytkffofolhckjeaa
def partL (l : List Nd) (i : Int) : List Nd := match treeS l with | some t => if 0 ≤ i ∧ i < (l.length : Int) then (t.sub i.toNat).flat 0 else [] | none => []
namespace Tr
theorem sub_sub : ∀ (t : Tr) (i j : Nat), i < t.size → j < (t.sub i).size → t.sub (i + 1 - (t.sub i).size + j) = (t.sub i).sub j
  | leaf h, i, j, hi, hj => rfl
  | un h a, i, j, hi, hj => by
    have hs : (un h a).sub i = if i < a.size then a.sub i else un h a := rfl
    rw [hs] at hj ⊢
    split at hj
    · rename_i h1
      rw [if_pos h1]
      have hle := sub_size_le a i h1
      have h2 : i + 1 - (a.sub i).size + j < a.size := by omega
      rw [show (un h a).sub (i + 1 - (a.sub i).size + j) = if i + 1 - (a.sub i).size + j < a.size then a.sub (i + 1 - (a.sub i).size + j) else un h a from rfl, if_pos h2]
      exact sub_sub a i j h1 hj
    · rename_i h1
      rw [if_neg h1]
      simp [size] at hi
      obtain rfl : i = a.size := by omega
      rw [show a.size + 1 - (un h a).size + j = j by simp [size]]
  | bin h a b, i, j, hi, hj => by
    have hs : (bin h a b).sub i = if i < a.size then a.sub i else if i < a.size + b.size then b.sub (i - a.size) else bin h a b := rfl
    rw [hs] at hj ⊢
    split at hj
    · rename_i h1
      rw [if_pos h1]
      have hle := sub_size_le a i h1
      have h2 : i + 1 - (a.sub i).size + j < a.size := by omega
      rw [show (bin h a b).sub (i + 1 - (a.sub i).size + j) = if i + 1 - (a.sub i).size + j < a.size then a.sub (i + 1 - (a.sub i).size + j) else if i + 1 - (a.sub i).size + j < a.size + b.size then b.sub (i + 1 - (a.sub i).size + j - a.size) else bin h a b from rfl, if_pos h2]
      exact sub_sub a i j h1 hj
    · rename_i h1
      split at hj
      · rename_i h2
        rw [if_neg h1, if_pos h2]
        have hle := sub_size_le b (i - a.size) (by omega)
        have h3 : ¬ i + 1 - (b.sub (i - a.size)).size + j < a.size := by omega
        have h4 : i + 1 - (b.sub (i - a.size)).size + j < a.size + b.size := by omega
        generalize hx : i + 1 - (b.sub (i - a.size)).size + j = x at *
        rw [show (bin h a b).sub x = if x < a.size then a.sub x else if x < a.size + b.size then b.sub (x - a.size) else bin h a b from rfl, if_neg h3, if_pos h4]
        rw [← sub_sub b (i - a.size) j (by omega) hj]
        congr 1
        omega
      · rename_i h2
        rw [if_neg h1, if_neg h2]
        simp [size] at hi
        obtain rfl : i = a.size + b.size := by omega
        rw [show a.size + b.size + 1 - (bin h a b).size + j = j by simp [size]]
/-- The root's kids, where the part begins at o. -/
def rootKids : Tr → Nat → List Int
  | leaf _, _ => []
  | un _ a, o => [((o + a.size : Nat) : Int) - 1]
  | bin _ a b, o => [((o + a.size : Nat) : Int) - 1, ((o + a.size + b.size : Nat) : Int) - 1]
theorem flat_last (t : Tr) (o : Nat) : (t.flat o)[t.size - 1]? = some { t.root with kids := t.rootKids o } := by
  cases t with
  | leaf h => rfl
  | un h a => simp [flat, size, root, length_flat, rootKids]
  | bin h a b =>
    rw [flat, List.getElem?_append_right (by simp [length_flat, size])]
    simp [length_flat, size, root, rootKids]
theorem get_flat (t : Tr) (i o : Nat) (hi : i < t.size) : (t.flat o)[i]? = some { (t.sub i).root with kids := (t.sub i).rootKids (o + (i + 1 - (t.sub i).size)) } := by
  have h1 := sub_flat t i o hi
  have h2 := flat_last (t.sub i) (o + (i + 1 - (t.sub i).size))
  have hp := (t.sub i).size_pos
  have hle := sub_size_le t i hi
  rw [← h1, List.getElem?_take, if_pos (by omega), List.getElem?_drop, show i + 1 - (t.sub i).size + ((t.sub i).size - 1) = i by omega] at h2
  exact h2
/-- What is below begins where the first kid's begins. -/
theorem first_kid (t : Tr) (i : Nat) (hi : i < t.size) : ((t.sub i).rootKids (i + 1 - (t.sub i).size) = [] ∧ (t.sub i).size = 1) ∨
    ∃ (k : Nat) (r : List Int), (t.sub i).rootKids (i + 1 - (t.sub i).size) = (k : Int) :: r ∧ k < i ∧ k + 1 - (t.sub k).size = i + 1 - (t.sub i).size := by
  have hle := sub_size_le t i hi
  cases hs : t.sub i with
  | leaf h => exact .inl ⟨rfl, rfl⟩
  | un h a =>
    have hp := a.size_pos
    have hss := sub_sub t i (a.size - 1) hi (by rw [hs]; simp [size]; omega)
    rw [hs] at hss hle
    have e : (un h a).sub (a.size - 1) = a := by rw [show (un h a).sub (a.size - 1) = if a.size - 1 < a.size then a.sub (a.size - 1) else un h a from rfl, if_pos (by omega)]; exact sub_root a
    rw [e] at hss
    simp [size] at hle
    refine .inr ⟨i + 1 - (un h a).size + (a.size - 1), [], ?_, by simp [size]; omega, by rw [hss]; simp [size]; omega⟩
    simp [rootKids, size]
    omega
  | bin h a b =>
    have hp := a.size_pos
    have hq := b.size_pos
    have hss := sub_sub t i (a.size - 1) hi (by rw [hs]; simp [size]; omega)
    rw [hs] at hss hle
    have e : (bin h a b).sub (a.size - 1) = a := by
      rw [show (bin h a b).sub (a.size - 1) = if a.size - 1 < a.size then a.sub (a.size - 1) else if a.size - 1 < a.size + b.size then b.sub (a.size - 1 - a.size) else bin h a b from rfl, if_pos (by omega)]; exact sub_root a
    rw [e] at hss
    simp [size] at hle
    refine .inr ⟨i + 1 - (bin h a b).size + (a.size - 1), [((i + 1 - (bin h a b).size + a.size + b.size : Nat) : Int) - 1], ?_, by simp [size]; omega, by rw [hss]; simp [size]; omega⟩
    simp [rootKids, size]
    omega
end Tr
/-- The part as it is cut out of the list and moved. -/
theorem part_cut {l : List Nd} {t : Tr} (h : treeS l = some t) {i : Nat} (hi : i < l.length) :
    (t.sub i).size ≤ i + 1 ∧ ((l.drop (i + 1 - (t.sub i).size)).take (t.sub i).size).map (shiftN (-((i + 1 - (t.sub i).size : Nat) : Int))) = (t.sub i).flat 0 ∧ partL l (i : Int) = (t.sub i).flat 0 := by
  have hf := tree_flat h
  have hl : l.length = t.size := by rw [hf, Tr.length_flat]
  have hle := Tr.sub_size_le t i (by omega)
  have h1 := Tr.sub_flat t i 0 (by omega)
  rw [← hf] at h1
  refine ⟨hle, ?_, ?_⟩
  · rw [h1]
    have := shift_flat (i + 1 - (t.sub i).size) (t.sub i) 0
    exact this
  · unfold partL
    rw [h]
    simp only
    rw [if_pos (by omega), Int.toNat_natCast]
theorem part_none {l : List Nd} (h : treeS l = none) (i : Int) : partL l i = [] := by unfold partL; rw [h]
theorem part_out {l : List Nd} {i : Int} (h : i < 0 ∨ (l.length : Int) ≤ i) : partL l i = [] := by
  unfold partL
  split
  · rw [if_neg (by omega)]
  · rfl
/-- The kids of a list that may be stand ahead. -/
theorem kids_lt {l : List Nd} {t : Tr} (h : treeS l = some t) : ∀ n ∈ l, n.kids.length ≤ 2 ∧ ∀ k ∈ n.kids, 0 ≤ k ∧ k < (l.length : Int) := by
  intro n hn
  obtain ⟨i, hi, rfl⟩ := List.getElem_of_mem hn
  obtain ⟨st, hst⟩ := parse_prefix (tree_parse h) i
  obtain ⟨st', hp, _⟩ := push_of_tree h hi hst
  obtain ⟨_, _, _, _, hk⟩ := push_depth hp
  have h1 := fields_kids (pushS_some hp).1
  have h2 := arity_le l[i].kind
  refine ⟨by omega, fun k hkk => ?_⟩
  have h3 := hk k hkk
  have h4 := parse_total hst
  rw [List.length_take] at h4
  omega
end Go.Proofs.Ytkffofolhckjeaa
