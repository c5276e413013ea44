/- A list that may be, its root's kids and their parts. Plain lemmas. -/
import Derived.Test.YtkhhjihbahdepaaPileP
import Derived.Test.YtkhhjihbahdepaaNamesP
import Derived.Test.YtkhhjihbahdepaaJoin
set_option linter.unusedVariables false
set_option linter.unusedSimpArgs false
namespace Go.Proofs.Ytkhhjihbahdepaa
theorem push_valid {st st' : List Tr} {n : Nd} (h : pushS st n = some st') (hv : ∀ t ∈ st, validT t = true) : ∀ t ∈ st', validT t = true := by
  obtain ⟨hf, ⟨hk, rfl⟩ | ⟨a, s0, rfl, hk, hr, rfl⟩ | ⟨b, a, s0, rfl, hk, hr, hr2, rfl⟩⟩ := pushS_some h
  · intro t ht
    rcases List.mem_cons.1 ht with rfl | ht
    · exact (fields_len n [] n.kids (by rw [hk])).trans hf
    · exact hv t ht
  · intro t ht
    rcases List.mem_cons.1 ht with rfl | ht
    · have h1 : fieldsS { n with kids := [0] } = true := (fields_len n [0] n.kids (by rw [hk]; rfl)).trans hf
      simp [validT, h1, hr, hv a (by simp)]
    · exact hv t (by simp [ht])
  · intro t ht
    rcases List.mem_cons.1 ht with rfl | ht
    · have h1 : fieldsS { n with kids := [0, 0] } = true := (fields_len n [0, 0] n.kids (by rw [hk]; rfl)).trans hf
      simp [validT, h1, hr, hr2, hv a (by simp), hv b (by simp)]
    · exact hv t (by simp [ht])
theorem parse_valid : ∀ (l : List Nd) (st st' : List Tr), l.foldlM pushS st = some st' → (∀ t ∈ st, validT t = true) → ∀ t ∈ st', validT t = true
  | [], st, st', h, hv => by
    simp only [List.foldlM_nil] at h
    injection h with h
    subst h
    exact hv
  | n :: l, st, st', h, hv => by
    rw [List.foldlM_cons] at h
    cases h1 : pushS st n with
    | none => rw [h1] at h; cases h
    | some s1 => rw [h1] at h; exact parse_valid l s1 st' h (push_valid h1 hv)
theorem tree_valid {l : List Nd} {t : Tr} (h : treeS l = some t) : validT t = true := parse_valid l [] [t] (tree_parse h) (by simp) t (by simp)
theorem sub_valid : ∀ (t : Tr) (i : Nat), validT t = true → validT (t.sub i) = true
  | .leaf _, _, h => h
  | .un h a, i, hv => by
    unfold Tr.sub
    split
    · simp only [validT, Bool.and_eq_true] at hv
      exact sub_valid a i hv.2
    · exact hv
  | .bin h a b, i, hv => by
    unfold Tr.sub
    split
    · simp only [validT, Bool.and_eq_true] at hv
      exact sub_valid a i hv.1.2
    · split
      · simp only [validT, Bool.and_eq_true] at hv
        exact sub_valid b _ hv.2
      · exact hv
theorem part_tree {l : List Nd} {t : Tr} (h : treeS l = some t) {i : Nat} (hi : i < l.length) : ∃ s, treeS (partL l (i : Int)) = some s := by
  obtain ⟨_, _, e⟩ := part_cut h hi
  rw [e]
  obtain ⟨t', e', _⟩ := tree_of_valid (sub_valid t i (tree_valid h))
  exact ⟨t', e'⟩
/-- The trees below the root. -/
def kidsT : Tr → List Tr
  | .leaf _ => []
  | .un _ a => [a]
  | .bin _ a b => [a, b]
/-- The root as it stands in its list. -/
def rootN (s : Tr) : Nd := { s.root with kids := s.rootKids 0 }
theorem root_last {l : List Nd} {s : Tr} (h : treeS l = some s) : 0 < l.length ∧ l[l.length - 1]? = some (rootN s) := by
  have hf := tree_flat h
  have hl : l.length = s.size := by rw [hf, Tr.length_flat]
  have hp := s.size_pos
  refine ⟨by omega, ?_⟩
  rw [hl]
  have h2 := Tr.flat_last s 0
  rw [← hf] at h2
  exact h2
theorem rootKids_len (s : Tr) : (rootN s).kids.length = (kidsT s).length := by cases s <;> rfl
theorem kidsT_len (s : Tr) : (kidsT s).length ≤ 2 := by cases s <;> simp [kidsT]
theorem kidsT_valid {s : Tr} (h : validT s = true) : ∀ t ∈ kidsT s, validT t = true := by
  cases s with
  | leaf n => intro t ht; cases ht
  | un n a =>
    simp only [validT, Bool.and_eq_true] at h
    intro t ht
    simp [kidsT] at ht
    subst ht
    exact h.2
  | bin n a b =>
    simp only [validT, Bool.and_eq_true] at h
    intro t ht
    simp [kidsT] at ht
    rcases ht with rfl | rfl
    · exact h.1.2
    · exact h.2
/-- The part at a kid's place is the kid. -/
theorem kid_part {l : List Nd} {s : Tr} (h : treeS l = some s) (j : Nat) (hj : j < (kidsT s).length) : ∃ k : Nat, (rootN s).kids[j]? = some (k : Int) ∧ k < l.length ∧ partL l (k : Int) = (kidsT s)[j].flat 0 := by
  have hf := tree_flat h
  have hl : l.length = s.size := by rw [hf, Tr.length_flat]
  cases s with
  | leaf n => simp [kidsT] at hj
  | un n a =>
    have hp := a.size_pos
    simp only [Tr.size] at hl
    obtain rfl : j = 0 := by simp [kidsT] at hj; exact hj
    refine ⟨a.size - 1, ?_, by omega, ?_⟩
    · show some (((0 + a.size : Nat) : Int) - 1) = _
      congr 1
      omega
    · have h1 := (part_cut h (i := a.size - 1) (by omega)).2.2
      rw [h1]
      have e : (Tr.un n a).sub (a.size - 1) = a := by rw [show (Tr.un n a).sub (a.size - 1) = if a.size - 1 < a.size then a.sub (a.size - 1) else Tr.un n a from rfl, if_pos (by omega)]; exact Tr.sub_root a
      rw [e]
      rfl
  | bin n a b =>
    have hp := a.size_pos
    have hq := b.size_pos
    simp only [Tr.size] at hl
    have hj2 : j = 0 ∨ j = 1 := by simp [kidsT] at hj; omega
    rcases hj2 with rfl | rfl
    · refine ⟨a.size - 1, ?_, by omega, ?_⟩
      · show some (((0 + a.size : Nat) : Int) - 1) = _
        congr 1
        omega
      · have h1 := (part_cut h (i := a.size - 1) (by omega)).2.2
        rw [h1]
        have e : (Tr.bin n a b).sub (a.size - 1) = a := by rw [show (Tr.bin n a b).sub (a.size - 1) = if a.size - 1 < a.size then a.sub (a.size - 1) else if a.size - 1 < a.size + b.size then b.sub (a.size - 1 - a.size) else Tr.bin n a b from rfl, if_pos (by omega)]; exact Tr.sub_root a
        rw [e]
        rfl
    · refine ⟨a.size + b.size - 1, ?_, by omega, ?_⟩
      · show some (((0 + a.size + b.size : Nat) : Int) - 1) = _
        congr 1
        omega
      · have h1 := (part_cut h (i := a.size + b.size - 1) (by omega)).2.2
        rw [h1]
        have e : (Tr.bin n a b).sub (a.size + b.size - 1) = b := by
          rw [show (Tr.bin n a b).sub (a.size + b.size - 1) = if a.size + b.size - 1 < a.size then a.sub (a.size + b.size - 1) else if a.size + b.size - 1 < a.size + b.size then b.sub (a.size + b.size - 1 - a.size) else Tr.bin n a b from rfl, if_neg (by omega), if_pos (by omega), show a.size + b.size - 1 - a.size = b.size - 1 by omega]
          exact Tr.sub_root b
        rw [e]
        rfl
theorem depth_valid {t : Tr} (h : validT t = true) : depthL (t.flat 0) = t.depth := by
  obtain ⟨t', h1, _, _, _, h5⟩ := fold_flat t [] h
  have e : treeS (t.flat 0) = some t' := by
    unfold treeS parseS
    rw [show (Tr.flat t 0) = Tr.flat t (total []) from rfl, h1]
  unfold depthL
  rw [e]
  exact h5
theorem may_valid {t : Tr} (h : validT t = true) : mayS (t.flat 0) = true := by
  obtain ⟨t', e, _⟩ := tree_of_valid h
  unfold mayS
  rw [e]
  rfl
def maxT (ts : List Tr) : Nat := ts.foldl (fun m t => max m t.depth) 0
theorem maxT_snoc (ts : List Tr) (t : Tr) : maxT (ts ++ [t]) = max (maxT ts) t.depth := by simp [maxT, List.foldl_append]
theorem totT_snoc (ts : List Tr) (t : Tr) : totT (ts ++ [t]) = totT ts + t.size := by simp [totT]
theorem depth_kids {l : List Nd} {s : Tr} (h : treeS l = some s) : depthL l = maxT (kidsT s) + 1 := by
  unfold depthL
  rw [h]
  cases s <;> simp [Tr.depth, kidsT, maxT]
theorem size_kids {l : List Nd} {s : Tr} (h : treeS l = some s) : l.length = 1 + totT (kidsT s) := by
  have hf := tree_flat h
  have hl : l.length = s.size := by rw [hf, Tr.length_flat]
  rw [hl]
  cases s <;> simp [Tr.size, kidsT, totT] <;> omega
theorem join_kids {l : List Nd} {s : Tr} (h : treeS l = some s) : joinL (rootN s) ((kidsT s).map fun t => t.flat 0) = l := by
  have hf := tree_flat h
  have hv := tree_valid h
  have hne : ∀ t : Tr, (t.flat 0).length ≠ 0 := fun t => by rw [Tr.length_flat]; have := t.size_pos; omega
  have hraw : rawJ (rootN s) ((kidsT s).map fun t => t.flat 0) = l := by
    rw [hf]
    cases s with
    | leaf n => rfl
    | un n a => exact (raw1 _ _ (hne a)).trans (over_un _ a)
    | bin n a b => exact (raw2 _ _ _ (hne a) (hne b)).trans (over_bin _ a b)
  unfold joinL
  rw [hraw, if_pos]
  refine ⟨?_, by unfold mayS; rw [h]; rfl⟩
  rw [List.all_eq_true]
  intro x hx
  obtain ⟨t, ht, rfl⟩ := List.mem_map.1 hx
  exact may_valid (kidsT_valid hv t ht)
theorem mem_names {l : List Nd} (h : mayS l = true) (x : List UInt8) : x ∈ namesL l ↔ x ∈ propsL l := by
  unfold namesL
  rw [if_pos h, (sortL_perm _).mem_iff, mem_dedup]
theorem props_append (a b : List Nd) : propsL (a ++ b) = propsL a ++ propsL b := by simp [propsL]
theorem props_shift (d : Int) (l : List Nd) : propsL (l.map (shiftN d)) = propsL l := by
  induction l with
  | nil => rfl
  | cons n l ih =>
    unfold propsL at *
    rw [List.map_cons, List.filter_cons, List.filter_cons, show (shiftN d n).kind = n.kind from rfl]
    by_cases h : (n.kind == 3) = true
    · rw [if_pos h, if_pos h, List.map_cons, List.map_cons, ih]
      rfl
    · rw [if_neg h, if_neg h]
      exact ih
theorem names_kids {l : List Nd} {s : Tr} (h : treeS l = some s) (t : Tr) (ht : t ∈ kidsT s) (x : List UInt8) (hx : x ∈ namesL (t.flat 0)) : x ∈ namesL l := by
  have hf := tree_flat h
  have hv := tree_valid h
  rw [mem_names (may_valid (kidsT_valid hv t ht))] at hx
  rw [mem_names (by unfold mayS; rw [h]; rfl), hf]
  cases s with
  | leaf n => cases ht
  | un n a =>
    simp [kidsT] at ht
    subst ht
    rw [Tr.flat, props_append]
    exact List.mem_append_left _ hx
  | bin n a b =>
    simp [kidsT] at ht
    rw [Tr.flat, props_append, props_append]
    rcases ht with rfl | rfl
    · exact List.mem_append_left _ (List.mem_append_left _ hx)
    · refine List.mem_append_left _ (List.mem_append_right _ ?_)
      rw [Nat.zero_add, ← shift_up, props_shift]
      exact hx
end Go.Proofs.Ytkhhjihbahdepaa
