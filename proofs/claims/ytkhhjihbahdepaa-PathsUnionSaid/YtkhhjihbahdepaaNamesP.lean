/- The names of a list, sorted, each once. Plain lemmas. -/
import Derived.Test.YtkhhjihbahdepaaMay
import Derived.Sort.KeysCollected
import Derived.Lib.SlicesCompact
set_option linter.unusedVariables false
set_option linter.unusedSimpArgs false
namespace Go.Proofs.Ytkhhjihbahdepaa
/-- A node's name, as its bytes. -/
def nameB (n : Nd) : List UInt8 := n.name.data.toList
def propsL (l : List Nd) : List (List UInt8) := (l.filter fun n => n.kind == 3).map nameB
def dedupL (ss : List (List UInt8)) : List (List UInt8) := ss.foldl (fun out s => if out.contains s then out else out ++ [s]) []
def sortL (ss : List (List UInt8)) : List (List UInt8) := ss.mergeSort fun x y => decide (x ≤ y)
def namesL (l : List Nd) : List (List UInt8) := if mayS l then sortL (dedupL (propsL l)) else []
theorem dedup_snoc (ss : List (List UInt8)) (s : List UInt8) : dedupL (ss ++ [s]) = if (dedupL ss).contains s then dedupL ss else dedupL ss ++ [s] := by simp [dedupL, List.foldl_append]
theorem mem_dedup (ss : List (List UInt8)) : ∀ x, x ∈ dedupL ss ↔ x ∈ ss := by
  suffices ∀ (ss out : List (List UInt8)) x, x ∈ ss.foldl (fun out s => if out.contains s then out else out ++ [s]) out ↔ x ∈ out ∨ x ∈ ss by
    intro x
    have := this ss [] x
    simpa [dedupL] using this
  intro ss
  induction ss with
  | nil => intro out x; simp
  | cons s ss ih =>
    intro out x
    rw [List.foldl_cons, ih]
    split
    · rename_i h
      have h' : s ∈ out := by simpa using h
      constructor
      · rintro (h1 | h1)
        · exact .inl h1
        · exact .inr (List.mem_cons_of_mem _ h1)
      · rintro (h1 | h1)
        · exact .inl h1
        · rcases List.mem_cons.1 h1 with rfl | h1
          · exact .inl h'
          · exact .inr h1
    · simp only [List.mem_append, List.mem_cons, List.not_mem_nil, or_false]
      constructor
      · rintro ((h1 | h1) | h1)
        · exact .inl h1
        · exact .inr (.inl h1)
        · exact .inr (.inr h1)
      · rintro (h1 | h1 | h1)
        · exact .inl (.inl h1)
        · exact .inl (.inr h1)
        · exact .inr h1
theorem nodup_dedup (ss : List (List UInt8)) : (dedupL ss).Nodup := by
  suffices ∀ (ss out : List (List UInt8)), out.Nodup → (ss.foldl (fun out s => if out.contains s then out else out ++ [s]) out).Nodup from this ss [] List.nodup_nil
  intro ss
  induction ss with
  | nil => intro out h; exact h
  | cons s ss ih =>
    intro out h
    rw [List.foldl_cons]
    refine ih _ ?_
    split
    · exact h
    · rename_i hs
      have hs' : s ∉ out := by simpa using hs
      rw [List.nodup_append]
      refine ⟨h, by simp, fun a ha b hb e => ?_⟩
      simp at hb
      subst hb
      subst e
      exact hs' ha
theorem le_tr (a b c : List UInt8) (h1 : decide (a ≤ b) = true) (h2 : decide (b ≤ c) = true) : decide (a ≤ c) = true := by
  simp only [decide_eq_true_eq] at *
  exact List.le_trans h1 h2
theorem le_to (a b : List UInt8) : (decide (a ≤ b) || decide (b ≤ a)) = true := by
  simp only [Bool.or_eq_true, decide_eq_true_eq]
  exact List.le_total a b
theorem sortL_perm (ss : List (List UInt8)) : (sortL ss).Perm ss := List.mergeSort_perm _ _
theorem sortL_sorted (ss : List (List UInt8)) : (sortL ss).Pairwise fun a b => decide (a ≤ b) = true := List.pairwise_mergeSort le_tr le_to ss
theorem length_sortL (ss : List (List UInt8)) : (sortL ss).length = ss.length := (sortL_perm ss).length_eq
/-- What stays of the first m places of a sorted row. -/
theorem compact_upto (d : Array (List UInt8)) (hs : ∀ i j, i ≤ j → j < d.size → d[i]! ≤ d[j]!) : ∀ m, m ≤ d.size → (∀ x, x ∈ Lib.compactUpTo d m ↔ ∃ j, j < m ∧ d[j]! = x) ∧ (Lib.compactUpTo d m).Nodup ∧ (Lib.compactUpTo d m).Pairwise fun a b => decide (a ≤ b) = true
  | 0, _ => by simp [Lib.compactUpTo]
  | m + 1, hm => by
    obtain ⟨h1, h2, h3⟩ := compact_upto d hs m (by omega)
    rw [Lib.compactUpTo_succ]
    split
    · rename_i hk
      have hnew : d[m]! ∉ Lib.compactUpTo d m := by
        intro hx
        obtain ⟨j, hj, e⟩ := (h1 _).1 hx
        simp [Lib.keeps] at hk
        rcases hk with hk | hk
        · omega
        · apply hk
          have a1 := hs j (m - 1) (by omega) (by omega)
          have a2 := hs (m - 1) m (by omega) (by omega)
          rw [e] at a1
          exact List.le_antisymm a1 a2
      refine ⟨fun x => ?_, ?_, ?_⟩
      · rw [List.mem_append, h1]
        constructor
        · rintro (⟨j, hj, e⟩ | h)
          · exact ⟨j, by omega, e⟩
          · simp at h; exact ⟨m, by omega, h.symm⟩
        · rintro ⟨j, hj, e⟩
          by_cases hjm : j = m
          · subst hjm; exact .inr (by simp [e])
          · exact .inl ⟨j, by omega, e⟩
      · rw [List.nodup_append]
        refine ⟨h2, by simp, fun a ha b hb e => ?_⟩
        simp at hb
        subst hb
        subst e
        exact hnew ha
      · rw [List.pairwise_append]
        refine ⟨h3, by simp, fun a ha b hb => ?_⟩
        simp at hb
        subst hb
        obtain ⟨j, hj, e⟩ := (h1 _).1 ha
        rw [← e]
        simpa using hs j m (by omega) (by omega)
    · rename_i hk
      rw [List.append_nil]
      refine ⟨fun x => ?_, h2, h3⟩
      rw [h1]
      have hm0 : m ≠ 0 ∧ d[m]! = d[m - 1]! := by
        simp [Lib.keeps] at hk
        exact ⟨hk.1, hk.2⟩
      constructor
      · rintro ⟨j, hj, e⟩; exact ⟨j, by omega, e⟩
      · rintro ⟨j, hj, e⟩
        by_cases hjm : j = m
        · subst hjm; exact ⟨j - 1, by omega, by rw [← hm0.2]; exact e⟩
        · exact ⟨j, by omega, e⟩
theorem compact_names (ss : List (List UInt8)) : Lib.compact (sortL ss) = sortL (dedupL ss) := by
  have hso := sortL_sorted ss
  have hget : ∀ i, i < (sortL ss).length → (sortL ss).toArray[i]! = (sortL ss).getD i [] := fun i hi => by simp [List.getD, hi]
  obtain ⟨h1, h2, h3⟩ := compact_upto (sortL ss).toArray (fun i j hij hj => by
    have hj' : j < (sortL ss).length := by simpa using hj
    rw [hget i (by omega), hget j hj']
    by_cases e : i = j
    · subst e; exact List.le_refl _
    · have := List.pairwise_iff_getElem.1 hso i j (by omega) hj' (by omega)
      simpa [List.getD, hj', show i < (sortL ss).length by omega] using this) (sortL ss).length (by simp)
  refine List.Perm.eq_of_pairwise (le := fun a b => decide (a ≤ b) = true) (fun a b _ _ h1 h2 => ?_) h3 (sortL_sorted _) ?_
  · simp only [decide_eq_true_eq] at h1 h2
    exact List.le_antisymm h1 h2
  · refine List.Perm.trans ?_ (sortL_perm _).symm
    refine (List.perm_ext_iff_of_nodup h2 (nodup_dedup _)).2 fun x => ?_
    rw [h1, mem_dedup, ← (sortL_perm ss).mem_iff]
    constructor
    · rintro ⟨j, hj, e⟩
      rw [hget j hj] at e
      rw [← e, List.getD, List.getElem?_eq_getElem hj]
      exact List.getElem_mem hj
    · intro hx
      obtain ⟨j, hj, e⟩ := List.getElem_of_mem hx
      exact ⟨j, hj, by rw [hget j hj, List.getD, List.getElem?_eq_getElem hj]; exact e⟩
end Go.Proofs.Ytkhhjihbahdepaa
