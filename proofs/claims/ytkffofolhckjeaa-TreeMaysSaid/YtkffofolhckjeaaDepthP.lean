/- Depths by the stack of trees. Plain lemmas. -/
import Derived.Test.YtkffofolhckjeaaTreeP2
namespace Go.Proofs.Ytkffofolhckjeaa
def depthL (l : List Nd) : Nat := match treeS l with | some t => t.depth | none => 0
/-- The greatest of some depths. -/
def maxD (ds : List Nat) (ks : List Int) : Nat := ks.foldl (fun m k => max m (ds.getD k.toNat 0)) 0
theorem maxD_snoc (ds : List Nat) (ks : List Int) (k : Int) : maxD ds (ks ++ [k]) = max (maxD ds ks) (ds.getD k.toNat 0) := by simp [maxD, List.foldl_append]
theorem get_depthsOf (pre : List Tr) (a : Tr) (st : List Tr) : (depthsOf (pre ++ a :: st))[total (a :: st) - 1]? = some a.depth := by
  induction pre with
  | nil =>
    have := a.size_pos
    rw [List.nil_append, depthsOf, List.getElem?_append_right (by rw [length_depthsOf, total_cons]; omega), length_depthsOf, total_cons, show a.size + total st - 1 - total st = a.size - 1 by omega, Tr.get_depths _ _ (by omega), Tr.sub_root]
  | cons b pre ih =>
    have := a.size_pos
    have hl : total (a :: st) ≤ total (pre ++ a :: st) := by simp [total]
    rw [List.cons_append, depthsOf, List.getElem?_append_left (by rw [length_depthsOf]; rw [total_cons] at *; omega)]
    exact ih
theorem getD_of {ds : List Nat} {i d : Nat} (h : ds[i]? = some d) : ds.getD i 0 = d := by simp [List.getD, h]
theorem push_depth {st st' : List Tr} {n : Nd} (h : pushS st n = some st') : ∃ t st0, st' = t :: st0 ∧ t.depth = maxD (depthsOf st) n.kids + 1 ∧ ∀ k ∈ n.kids, 0 ≤ k ∧ k < (total st : Int) := by
  obtain ⟨_, ⟨hk, rfl⟩ | ⟨a, s0, rfl, hk, _, rfl⟩ | ⟨b, a, s0, rfl, hk, _, _, rfl⟩⟩ := pushS_some h
  · refine ⟨_, _, rfl, by rw [hk]; rfl, by rw [hk]; simp⟩
  · have h1 := get_depthsOf [] a s0
    have hp := a.size_pos
    rw [List.nil_append] at h1
    refine ⟨_, _, rfl, ?_, ?_⟩
    · rw [hk]
      simp only [maxD, List.foldl_cons, List.foldl_nil, Tr.depth]
      rw [show ((total (a :: s0) : Int) - 1).toNat = total (a :: s0) - 1 by omega, getD_of h1]
      simp
    · rw [hk]
      simp only [List.mem_singleton, forall_eq, total_cons]
      omega
  · have h1 := get_depthsOf [] b (a :: s0)
    have h2 := get_depthsOf [b] a s0
    have hp := a.size_pos
    have hq := b.size_pos
    rw [List.nil_append] at h1
    rw [List.cons_append, List.nil_append] at h2
    refine ⟨_, _, rfl, ?_, ?_⟩
    · rw [hk]
      simp only [maxD, List.foldl_cons, List.foldl_nil, Tr.depth]
      rw [show ((total (a :: s0) : Int) - 1).toNat = total (a :: s0) - 1 by omega, show ((total (b :: a :: s0) : Int) - 1).toNat = total (b :: a :: s0) - 1 by omega, getD_of h1, getD_of h2]
      simp
    · rw [hk]
      intro k hk
      simp only [List.mem_cons, List.not_mem_nil, or_false] at hk
      have h3 := total_cons a s0
      have h4 := total_cons b (a :: s0)
      rcases hk with rfl | rfl <;> omega
theorem tree_parse {l : List Nd} {t : Tr} (h : treeS l = some t) : parseS l = some [t] := by
  unfold treeS at h
  split at h
  · rename_i t' hp
    injection h with h
    rw [hp, h]
  · cases h
theorem parse_prefix {l : List Nd} {st : List Tr} (h : parseS l = some st) (k : Nat) : ∃ st', parseS (l.take k) = some st' := by
  cases h1 : parseS (l.take k) with
  | none => rw [parse_none h1] at h; cases h
  | some st' => exact ⟨st', rfl⟩
/-- In a list that may be, each node is pushed. -/
theorem push_of_tree {l : List Nd} {t : Tr} (h : treeS l = some t) {k : Nat} (hk : k < l.length) {st : List Tr} (hst : parseS (l.take k) = some st) : ∃ st', pushS st l[k] = some st' ∧ parseS (l.take (k + 1)) = some st' := by
  obtain ⟨st', h1⟩ := parse_prefix (tree_parse h) (k + 1)
  have h2 := parse_take hk
  rw [hst, h1] at h2
  exact ⟨st', h2.symm, h1⟩
theorem depth_le_size : ∀ t : Tr, t.depth ≤ t.size
  | .leaf _ => Nat.le_refl _
  | .un _ a => by have := depth_le_size a; simp [Tr.depth, Tr.size]; omega
  | .bin _ a b => by have := depth_le_size a; have := depth_le_size b; simp [Tr.depth, Tr.size]; omega
theorem depthsOf_le : ∀ (st : List Tr) (i d : Nat), (depthsOf st)[i]? = some d → d ≤ total st
  | [], i, d, h => by simp [depthsOf] at h
  | t :: st, i, d, h => by
    rw [depthsOf, total_cons] at *
    by_cases hi : i < (depthsOf st).length
    · rw [List.getElem?_append_left hi] at h
      have := depthsOf_le st i d h
      omega
    · rw [List.getElem?_append_right (by omega)] at h
      have hj : i - (depthsOf st).length < t.size := by
        have := (List.getElem?_eq_some_iff.1 h).1
        rwa [Tr.length_depths] at this
      rw [Tr.get_depths t _ hj] at h
      injection h with h
      have h1 := depth_le_size (t.sub (i - (depthsOf st).length))
      have h2 := Tr.sub_size_le t _ hj
      omega
theorem maxD_le {ds : List Nat} {B : Nat} (h : ∀ (i d : Nat), ds[i]? = some d → d ≤ B) (ks : List Int) : maxD ds ks ≤ B := by
  unfold maxD
  suffices ∀ (ks : List Int) (m : Nat), m ≤ B → ks.foldl (fun m k => max m (ds.getD k.toNat 0)) m ≤ B from this ks 0 (Nat.zero_le _)
  intro ks
  induction ks with
  | nil => intro m hm; exact hm
  | cons k ks ih =>
    intro m hm
    rw [List.foldl_cons]
    refine ih _ (Nat.max_le.2 ⟨hm, ?_⟩)
    cases e : ds[k.toNat]? with
    | none => simp [List.getD, e]
    | some d => rw [getD_of e]; exact h _ _ e
end Go.Proofs.Ytkffofolhckjeaa
