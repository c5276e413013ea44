/- The names of a list, sorted, each once. Plain lemmas. -/
import Derived.Test.YtdbbooibkiicnaaMay
import Derived.Sort.KeysCollected
import Derived.Lib.SlicesCompact
import Derived.Test.YtdbbooibkiicnaaPileP
import Derived.Test.YtdbbooibkiicnaaJoin
import Derived.Test.YtdbbooibkiicnaaPathsP
set_option linter.unusedVariables false
set_option linter.unusedSimpArgs false
/-! The names of a list, sorted, each once. Plain lemmas. -/
namespace Go.Proofs.Ytdbbooibkiicnaa
/-- A node's name, as its bytes. -/
def nameB (n : Nd) : List UInt8 := n.name.data.toList
def propsL (l : List Nd) : List (List UInt8) := (l.filter fun n => n.kind == 3).map nameB
def dedupL (ss : List (List UInt8)) : List (List UInt8) := ss.foldl (fun out s => if out.contains s then out else out ++ [s]) []
def sortL (ss : List (List UInt8)) : List (List UInt8) := ss.mergeSort fun x y => decide (x ≤ y)
def namesL (l : List Nd) : List (List UInt8) := if mayS l then sortL (dedupL (propsL l)) else []
theorem dedup_snoc (ss : List (List UInt8)) (s : List UInt8) : dedupL (ss ++ [s]) = if (dedupL ss).contains s then dedupL ss else dedupL ss ++ [s] := by simp [dedupL, List.foldl_append]
theorem mem_dedup (ss : List (List UInt8)) : ∀ x, x ∈ dedupL ss ↔ x ∈ ss := by
  suffices ∀ (ss out : List (List UInt8)) x, x ∈ ss.foldl (fun out s => if out.contains s then out else out ++ [s]) out ↔ x ∈ out ∨ x ∈ ss by
    intro x
    have := this ss [] x
    simpa [dedupL] using this
  intro ss
  induction ss with
  | nil => intro out x; simp
  | cons s ss ih =>
    intro out x
    rw [List.foldl_cons, ih]
    split
    · rename_i h
      have h' : s ∈ out := by simpa using h
      constructor
      · rintro (h1 | h1)
        · exact .inl h1
        · exact .inr (List.mem_cons_of_mem _ h1)
      · rintro (h1 | h1)
        · exact .inl h1
        · rcases List.mem_cons.1 h1 with rfl | h1
          · exact .inl h'
          · exact .inr h1
    · simp only [List.mem_append, List.mem_cons, List.not_mem_nil, or_false]
      constructor
      · rintro ((h1 | h1) | h1)
        · exact .inl h1
        · exact .inr (.inl h1)
        · exact .inr (.inr h1)
      · rintro (h1 | h1 | h1)
        · exact .inl (.inl h1)
        · exact .inl (.inr h1)
        · exact .inr h1
theorem nodup_dedup (ss : List (List UInt8)) : (dedupL ss).Nodup := by
  suffices ∀ (ss out : List (List UInt8)), out.Nodup → (ss.foldl (fun out s => if out.contains s then out else out ++ [s]) out).Nodup from this ss [] List.nodup_nil
  intro ss
  induction ss with
  | nil => intro out h; exact h
  | cons s ss ih =>
    intro out h
    rw [List.foldl_cons]
    refine ih _ ?_
    split
    · exact h
    · rename_i hs
      have hs' : s ∉ out := by simpa using hs
      rw [List.nodup_append]
      refine ⟨h, by simp, fun a ha b hb e => ?_⟩
      simp at hb
      subst hb
      subst e
      exact hs' ha
theorem le_tr (a b c : List UInt8) (h1 : decide (a ≤ b) = true) (h2 : decide (b ≤ c) = true) : decide (a ≤ c) = true := by
  simp only [decide_eq_true_eq] at *
  exact List.le_trans h1 h2
theorem le_to (a b : List UInt8) : (decide (a ≤ b) || decide (b ≤ a)) = true := by
  simp only [Bool.or_eq_true, decide_eq_true_eq]
  exact List.le_total a b
theorem sortL_perm (ss : List (List UInt8)) : (sortL ss).Perm ss := List.mergeSort_perm _ _
theorem sortL_sorted (ss : List (List UInt8)) : (sortL ss).Pairwise fun a b => decide (a ≤ b) = true := List.pairwise_mergeSort le_tr le_to ss
theorem length_sortL (ss : List (List UInt8)) : (sortL ss).length = ss.length := (sortL_perm ss).length_eq
/-- What stays of the first m places of a sorted row. -/
theorem compact_upto (d : Array (List UInt8)) (hs : ∀ i j, i ≤ j → j < d.size → d[i]! ≤ d[j]!) : ∀ m, m ≤ d.size → (∀ x, x ∈ Lib.compactUpTo d m ↔ ∃ j, j < m ∧ d[j]! = x) ∧ (Lib.compactUpTo d m).Nodup ∧ (Lib.compactUpTo d m).Pairwise fun a b => decide (a ≤ b) = true
  | 0, _ => by simp [Lib.compactUpTo]
  | m + 1, hm => by
    obtain ⟨h1, h2, h3⟩ := compact_upto d hs m (by omega)
    rw [Lib.compactUpTo_succ]
    split
    · rename_i hk
      have hnew : d[m]! ∉ Lib.compactUpTo d m := by
        intro hx
        obtain ⟨j, hj, e⟩ := (h1 _).1 hx
        simp [Lib.keeps] at hk
        rcases hk with hk | hk
        · omega
        · apply hk
          have a1 := hs j (m - 1) (by omega) (by omega)
          have a2 := hs (m - 1) m (by omega) (by omega)
          rw [e] at a1
          exact List.le_antisymm a1 a2
      refine ⟨fun x => ?_, ?_, ?_⟩
      · rw [List.mem_append, h1]
        constructor
        · rintro (⟨j, hj, e⟩ | h)
          · exact ⟨j, by omega, e⟩
          · simp at h; exact ⟨m, by omega, h.symm⟩
        · rintro ⟨j, hj, e⟩
          by_cases hjm : j = m
          · subst hjm; exact .inr (by simp [e])
          · exact .inl ⟨j, by omega, e⟩
      · rw [List.nodup_append]
        refine ⟨h2, by simp, fun a ha b hb e => ?_⟩
        simp at hb
        subst hb
        subst e
        exact hnew ha
      · rw [List.pairwise_append]
        refine ⟨h3, by simp, fun a ha b hb => ?_⟩
        simp at hb
        subst hb
        obtain ⟨j, hj, e⟩ := (h1 _).1 ha
        rw [← e]
        simpa using hs j m (by omega) (by omega)
    · rename_i hk
      rw [List.append_nil]
      refine ⟨fun x => ?_, h2, h3⟩
      rw [h1]
      have hm0 : m ≠ 0 ∧ d[m]! = d[m - 1]! := by
        simp [Lib.keeps] at hk
        exact ⟨hk.1, hk.2⟩
      constructor
      · rintro ⟨j, hj, e⟩; exact ⟨j, by omega, e⟩
      · rintro ⟨j, hj, e⟩
        by_cases hjm : j = m
        · subst hjm; exact ⟨j - 1, by omega, by rw [← hm0.2]; exact e⟩
        · exact ⟨j, by omega, e⟩
theorem compact_names (ss : List (List UInt8)) : Lib.compact (sortL ss) = sortL (dedupL ss) := by
  have hso := sortL_sorted ss
  have hget : ∀ i, i < (sortL ss).length → (sortL ss).toArray[i]! = (sortL ss).getD i [] := fun i hi => by simp [List.getD, hi]
  obtain ⟨h1, h2, h3⟩ := compact_upto (sortL ss).toArray (fun i j hij hj => by
    have hj' : j < (sortL ss).length := by simpa using hj
    rw [hget i (by omega), hget j hj']
    by_cases e : i = j
    · subst e; exact List.le_refl _
    · have := List.pairwise_iff_getElem.1 hso i j (by omega) hj' (by omega)
      simpa [List.getD, hj', show i < (sortL ss).length by omega] using this) (sortL ss).length (by simp)
  refine List.Perm.eq_of_pairwise (le := fun a b => decide (a ≤ b) = true) (fun a b _ _ h1 h2 => ?_) h3 (sortL_sorted _) ?_
  · simp only [decide_eq_true_eq] at h1 h2
    exact List.le_antisymm h1 h2
  · refine List.Perm.trans ?_ (sortL_perm _).symm
    refine (List.perm_ext_iff_of_nodup h2 (nodup_dedup _)).2 fun x => ?_
    rw [h1, mem_dedup, ← (sortL_perm ss).mem_iff]
    constructor
    · rintro ⟨j, hj, e⟩
      rw [hget j hj] at e
      rw [← e, List.getD, List.getElem?_eq_getElem hj]
      exact List.getElem_mem hj
    · intro hx
      obtain ⟨j, hj, e⟩ := List.getElem_of_mem hx
      exact ⟨j, hj, by rw [hget j hj, List.getD, List.getElem?_eq_getElem hj]; exact e⟩
end Go.Proofs.Ytdbbooibkiicnaa
/-! A list that may be, its root's kids and their parts. Plain lemmas. -/
namespace Go.Proofs.Ytdbbooibkiicnaa
theorem push_valid {st st' : List Tr} {n : Nd} (h : pushS st n = some st') (hv : ∀ t ∈ st, validT t = true) : ∀ t ∈ st', validT t = true := by
  obtain ⟨hf, ⟨hk, rfl⟩ | ⟨a, s0, rfl, hk, hr, rfl⟩ | ⟨b, a, s0, rfl, hk, hr, hr2, rfl⟩⟩ := pushS_some h
  · intro t ht
    rcases List.mem_cons.1 ht with rfl | ht
    · exact (fields_len n [] n.kids (by rw [hk])).trans hf
    · exact hv t ht
  · intro t ht
    rcases List.mem_cons.1 ht with rfl | ht
    · have h1 : fieldsS { n with kids := [0] } = true := (fields_len n [0] n.kids (by rw [hk]; rfl)).trans hf
      simp [validT, h1, hr, hv a (by simp)]
    · exact hv t (by simp [ht])
  · intro t ht
    rcases List.mem_cons.1 ht with rfl | ht
    · have h1 : fieldsS { n with kids := [0, 0] } = true := (fields_len n [0, 0] n.kids (by rw [hk]; rfl)).trans hf
      simp [validT, h1, hr, hr2, hv a (by simp), hv b (by simp)]
    · exact hv t (by simp [ht])
theorem parse_valid : ∀ (l : List Nd) (st st' : List Tr), l.foldlM pushS st = some st' → (∀ t ∈ st, validT t = true) → ∀ t ∈ st', validT t = true
  | [], st, st', h, hv => by
    simp only [List.foldlM_nil] at h
    injection h with h
    subst h
    exact hv
  | n :: l, st, st', h, hv => by
    rw [List.foldlM_cons] at h
    cases h1 : pushS st n with
    | none => rw [h1] at h; cases h
    | some s1 => rw [h1] at h; exact parse_valid l s1 st' h (push_valid h1 hv)
theorem tree_valid {l : List Nd} {t : Tr} (h : treeS l = some t) : validT t = true := parse_valid l [] [t] (tree_parse h) (by simp) t (by simp)
theorem sub_valid : ∀ (t : Tr) (i : Nat), validT t = true → validT (t.sub i) = true
  | .leaf _, _, h => h
  | .un h a, i, hv => by
    unfold Tr.sub
    split
    · simp only [validT, Bool.and_eq_true] at hv
      exact sub_valid a i hv.2
    · exact hv
  | .bin h a b, i, hv => by
    unfold Tr.sub
    split
    · simp only [validT, Bool.and_eq_true] at hv
      exact sub_valid a i hv.1.2
    · split
      · simp only [validT, Bool.and_eq_true] at hv
        exact sub_valid b _ hv.2
      · exact hv
theorem part_tree {l : List Nd} {t : Tr} (h : treeS l = some t) {i : Nat} (hi : i < l.length) : ∃ s, treeS (partL l (i : Int)) = some s := by
  obtain ⟨_, _, e⟩ := part_cut h hi
  rw [e]
  obtain ⟨t', e', _⟩ := tree_of_valid (sub_valid t i (tree_valid h))
  exact ⟨t', e'⟩
/-- The trees below the root. -/
def kidsT : Tr → List Tr
  | .leaf _ => []
  | .un _ a => [a]
  | .bin _ a b => [a, b]
/-- The root as it stands in its list. -/
def rootN (s : Tr) : Nd := { s.root with kids := s.rootKids 0 }
theorem root_last {l : List Nd} {s : Tr} (h : treeS l = some s) : 0 < l.length ∧ l[l.length - 1]? = some (rootN s) := by
  have hf := tree_flat h
  have hl : l.length = s.size := by rw [hf, Tr.length_flat]
  have hp := s.size_pos
  refine ⟨by omega, ?_⟩
  rw [hl]
  have h2 := Tr.flat_last s 0
  rw [← hf] at h2
  exact h2
theorem rootKids_len (s : Tr) : (rootN s).kids.length = (kidsT s).length := by cases s <;> rfl
theorem kidsT_len (s : Tr) : (kidsT s).length ≤ 2 := by cases s <;> simp [kidsT]
theorem kidsT_valid {s : Tr} (h : validT s = true) : ∀ t ∈ kidsT s, validT t = true := by
  cases s with
  | leaf n => intro t ht; cases ht
  | un n a =>
    simp only [validT, Bool.and_eq_true] at h
    intro t ht
    simp [kidsT] at ht
    subst ht
    exact h.2
  | bin n a b =>
    simp only [validT, Bool.and_eq_true] at h
    intro t ht
    simp [kidsT] at ht
    rcases ht with rfl | rfl
    · exact h.1.2
    · exact h.2
/-- The part at a kid's place is the kid. -/
theorem kid_part {l : List Nd} {s : Tr} (h : treeS l = some s) (j : Nat) (hj : j < (kidsT s).length) : ∃ k : Nat, (rootN s).kids[j]? = some (k : Int) ∧ k < l.length ∧ partL l (k : Int) = (kidsT s)[j].flat 0 := by
  have hf := tree_flat h
  have hl : l.length = s.size := by rw [hf, Tr.length_flat]
  cases s with
  | leaf n => simp [kidsT] at hj
  | un n a =>
    have hp := a.size_pos
    simp only [Tr.size] at hl
    obtain rfl : j = 0 := by simp [kidsT] at hj; exact hj
    refine ⟨a.size - 1, ?_, by omega, ?_⟩
    · show some (((0 + a.size : Nat) : Int) - 1) = _
      congr 1
      omega
    · have h1 := (part_cut h (i := a.size - 1) (by omega)).2.2
      rw [h1]
      have e : (Tr.un n a).sub (a.size - 1) = a := by rw [show (Tr.un n a).sub (a.size - 1) = if a.size - 1 < a.size then a.sub (a.size - 1) else Tr.un n a from rfl, if_pos (by omega)]; exact Tr.sub_root a
      rw [e]
      rfl
  | bin n a b =>
    have hp := a.size_pos
    have hq := b.size_pos
    simp only [Tr.size] at hl
    have hj2 : j = 0 ∨ j = 1 := by simp [kidsT] at hj; omega
    rcases hj2 with rfl | rfl
    · refine ⟨a.size - 1, ?_, by omega, ?_⟩
      · show some (((0 + a.size : Nat) : Int) - 1) = _
        congr 1
        omega
      · have h1 := (part_cut h (i := a.size - 1) (by omega)).2.2
        rw [h1]
        have e : (Tr.bin n a b).sub (a.size - 1) = a := by rw [show (Tr.bin n a b).sub (a.size - 1) = if a.size - 1 < a.size then a.sub (a.size - 1) else if a.size - 1 < a.size + b.size then b.sub (a.size - 1 - a.size) else Tr.bin n a b from rfl, if_pos (by omega)]; exact Tr.sub_root a
        rw [e]
        rfl
    · refine ⟨a.size + b.size - 1, ?_, by omega, ?_⟩
      · show some (((0 + a.size + b.size : Nat) : Int) - 1) = _
        congr 1
        omega
      · have h1 := (part_cut h (i := a.size + b.size - 1) (by omega)).2.2
        rw [h1]
        have e : (Tr.bin n a b).sub (a.size + b.size - 1) = b := by
          rw [show (Tr.bin n a b).sub (a.size + b.size - 1) = if a.size + b.size - 1 < a.size then a.sub (a.size + b.size - 1) else if a.size + b.size - 1 < a.size + b.size then b.sub (a.size + b.size - 1 - a.size) else Tr.bin n a b from rfl, if_neg (by omega), if_pos (by omega), show a.size + b.size - 1 - a.size = b.size - 1 by omega]
          exact Tr.sub_root b
        rw [e]
        rfl
theorem depth_valid {t : Tr} (h : validT t = true) : depthL (t.flat 0) = t.depth := by
  obtain ⟨t', h1, _, _, _, h5⟩ := fold_flat t [] h
  have e : treeS (t.flat 0) = some t' := by
    unfold treeS parseS
    rw [show (Tr.flat t 0) = Tr.flat t (total []) from rfl, h1]
  unfold depthL
  rw [e]
  exact h5
theorem may_valid {t : Tr} (h : validT t = true) : mayS (t.flat 0) = true := by
  obtain ⟨t', e, _⟩ := tree_of_valid h
  unfold mayS
  rw [e]
  rfl
def maxT (ts : List Tr) : Nat := ts.foldl (fun m t => max m t.depth) 0
theorem maxT_snoc (ts : List Tr) (t : Tr) : maxT (ts ++ [t]) = max (maxT ts) t.depth := by simp [maxT, List.foldl_append]
theorem totT_snoc (ts : List Tr) (t : Tr) : totT (ts ++ [t]) = totT ts + t.size := by simp [totT]
theorem depth_kids {l : List Nd} {s : Tr} (h : treeS l = some s) : depthL l = maxT (kidsT s) + 1 := by
  unfold depthL
  rw [h]
  cases s <;> simp [Tr.depth, kidsT, maxT]
theorem size_kids {l : List Nd} {s : Tr} (h : treeS l = some s) : l.length = 1 + totT (kidsT s) := by
  have hf := tree_flat h
  have hl : l.length = s.size := by rw [hf, Tr.length_flat]
  rw [hl]
  cases s <;> simp [Tr.size, kidsT, totT] <;> omega
theorem join_kids {l : List Nd} {s : Tr} (h : treeS l = some s) : joinL (rootN s) ((kidsT s).map fun t => t.flat 0) = l := by
  have hf := tree_flat h
  have hv := tree_valid h
  have hne : ∀ t : Tr, (t.flat 0).length ≠ 0 := fun t => by rw [Tr.length_flat]; have := t.size_pos; omega
  have hraw : rawJ (rootN s) ((kidsT s).map fun t => t.flat 0) = l := by
    rw [hf]
    cases s with
    | leaf n => rfl
    | un n a => exact (raw1 _ _ (hne a)).trans (over_un _ a)
    | bin n a b => exact (raw2 _ _ _ (hne a) (hne b)).trans (over_bin _ a b)
  unfold joinL
  rw [hraw, if_pos]
  refine ⟨?_, by unfold mayS; rw [h]; rfl⟩
  rw [List.all_eq_true]
  intro x hx
  obtain ⟨t, ht, rfl⟩ := List.mem_map.1 hx
  exact may_valid (kidsT_valid hv t ht)
theorem mem_names {l : List Nd} (h : mayS l = true) (x : List UInt8) : x ∈ namesL l ↔ x ∈ propsL l := by
  unfold namesL
  rw [if_pos h, (sortL_perm _).mem_iff, mem_dedup]
theorem props_append (a b : List Nd) : propsL (a ++ b) = propsL a ++ propsL b := by simp [propsL]
theorem props_shift (d : Int) (l : List Nd) : propsL (l.map (shiftN d)) = propsL l := by
  induction l with
  | nil => rfl
  | cons n l ih =>
    unfold propsL at *
    rw [List.map_cons, List.filter_cons, List.filter_cons, show (shiftN d n).kind = n.kind from rfl]
    by_cases h : (n.kind == 3) = true
    · rw [if_pos h, if_pos h, List.map_cons, List.map_cons, ih]
      rfl
    · rw [if_neg h, if_neg h]
      exact ih
theorem names_kids {l : List Nd} {s : Tr} (h : treeS l = some s) (t : Tr) (ht : t ∈ kidsT s) (x : List UInt8) (hx : x ∈ namesL (t.flat 0)) : x ∈ namesL l := by
  have hf := tree_flat h
  have hv := tree_valid h
  rw [mem_names (may_valid (kidsT_valid hv t ht))] at hx
  rw [mem_names (by unfold mayS; rw [h]; rfl), hf]
  cases s with
  | leaf n => cases ht
  | un n a =>
    simp [kidsT] at ht
    subst ht
    rw [Tr.flat, props_append]
    exact List.mem_append_left _ hx
  | bin n a b =>
    simp [kidsT] at ht
    rw [Tr.flat, props_append, props_append]
    rcases ht with rfl | rfl
    · exact List.mem_append_left _ (List.mem_append_left _ hx)
    · refine List.mem_append_left _ (List.mem_append_right _ ?_)
      rw [Nat.zero_add, ← shift_up, props_shift]
      exact hx
end Go.Proofs.Ytdbbooibkiicnaa
/-! The stack of paths.own: plain lemmas. -/
namespace Go.Proofs.Ytdbbooibkiicnaa
abbrev TO := Tr × Nat
abbrev zs (xs : List Nat) : List Int := xs.map fun x : Nat => (x : Int)
def placeT (p : TO) : Nat := p.2 + p.1.size - 1
def backT (p : TO) : List Nat := (ownT p.1 p.2).reverse
def PlacedT (l : List Nd) (p : TO) : Prop := regV p.1 ∧ ∃ pre post, l = pre ++ p.1.flat p.2 ++ post ∧ pre.length = p.2
def sumT (st : List TO) : Nat := (st.map fun p => p.1.size).sum
theorem own_step {l : List Nd} {p : TO} (h : PlacedT l p) : ∃ nd subs, l[placeT p]? = some nd ∧ (nd.kind = 19 → subs = []) ∧ (nd.kind ≠ 19 → nd.kids = zs (subs.map placeT)) ∧ (∀ q ∈ subs, PlacedT l q) ∧ backT p = placeT p :: (subs.reverse.map backT).flatten ∧ sumT subs < p.1.size := by
  obtain ⟨t, o⟩ := p
  obtain ⟨hv, pre, post, hl, hp⟩ := h
  dsimp only at hv hl hp
  cases t with
  | leaf h =>
    refine ⟨{ h with kids := [] }, [], ?_, fun _ => rfl, fun _ => rfl, by simp, by simp [backT, ownT, placeT, Tr.size], by simp [sumT, Tr.size]⟩
    rw [hl, Tr.flat, List.append_assoc, List.getElem?_append_right (by simp [placeT, Tr.size]; omega)]
    simp [hp, placeT, Tr.size]
  | un h a =>
    have hroot : l[placeT (.un h a, o)]? = some { h with kids := [((o + a.size : Nat) : Int) - 1] } := by
      rw [hl, Tr.flat, List.append_assoc, List.append_assoc, ← List.append_assoc pre, List.getElem?_append_right (by simp [Tr.length_flat, placeT, Tr.size]; omega)]
      simp [hp, Tr.length_flat, placeT, Tr.size]
    by_cases h19 : h.kind = 19
    · refine ⟨_, [], hroot, fun _ => rfl, fun x => absurd h19 x, by simp, by simp [backT, ownT, placeT, Tr.size, h19], by simp [sumT, Tr.size]⟩
    · refine ⟨_, [(a, o)], hroot, fun x => absurd x h19, fun _ => ?_, ?_, by simp [backT, ownT, placeT, Tr.size, h19], by simp [sumT, Tr.size]⟩
      · have := a.size_pos
        simp only [zs, placeT, List.map_cons, List.map_nil, List.cons.injEq, and_true]
        omega
      · intro q hq
        simp at hq
        subst hq
        rcases hv with hv | ⟨_, hv⟩
        · exact absurd hv h19
        · exact ⟨hv, pre, { h with kids := [((o + a.size : Nat) : Int) - 1] } :: post, by rw [hl, Tr.flat]; simp, hp⟩
  | bin h a b =>
    obtain ⟨hk, hva, hvb⟩ := hv
    have hroot : l[placeT (.bin h a b, o)]? = some { h with kids := [((o + a.size : Nat) : Int) - 1, ((o + a.size + b.size : Nat) : Int) - 1] } := by
      rw [hl, Tr.flat, List.append_assoc, List.append_assoc, List.append_assoc, ← List.append_assoc (a.flat o), ← List.append_assoc pre, List.getElem?_append_right (by simp [Tr.length_flat, placeT, Tr.size]; omega)]
      simp [hp, Tr.length_flat, placeT, Tr.size]
    have h19 : h.kind ≠ 19 := by rcases hk with hk | hk <;> omega
    refine ⟨_, [(a, o), (b, o + a.size)], hroot, fun x => absurd x h19, fun _ => ?_, ?_, by simp [backT, ownT, placeT, Tr.size, Nat.add_assoc]; omega, by simp [sumT, Tr.size]⟩
    · have := a.size_pos
      have := b.size_pos
      simp only [zs, placeT, List.map_cons, List.map_nil, List.cons.injEq, and_true]
      omega
    · intro q hq
      simp at hq
      rcases hq with rfl | rfl
      · exact ⟨hva, pre, b.flat (o + a.size) ++ { h with kids := [((o + a.size : Nat) : Int) - 1, ((o + a.size + b.size : Nat) : Int) - 1] } :: post, by rw [hl, Tr.flat]; simp, hp⟩
      · exact ⟨hvb, pre ++ a.flat o, { h with kids := [((o + a.size : Nat) : Int) - 1, ((o + a.size + b.size : Nat) : Int) - 1] } :: post, by rw [hl, Tr.flat]; simp, by simp [hp, Tr.length_flat]⟩
/-- The stack: what was taken off, and what is left to take off. -/
def StackT (l : List Nd) (T : Tr) (out : List Nat) (st : List TO) : Prop := out ++ (st.map backT).flatten = (ownT T 0).reverse ∧ (∀ p ∈ st, PlacedT l p) ∧ out.length + sumT st ≤ T.size
theorem stack_start {l : List Nd} {T : Tr} (hl : l = T.flat 0) (hv : regV T) : StackT l T [] [(T, 0)] := by
  refine ⟨by simp [backT], fun p hp => ?_, by simp [sumT]⟩
  simp at hp
  subst hp
  exact ⟨hv, [], [], by simpa using hl, rfl⟩
theorem stack_step {l : List Nd} {T : Tr} {out : List Nat} {p : TO} {st : List TO} (h : StackT l T out (p :: st)) :
    ∃ nd subs, l[placeT p]? = some nd ∧ (nd.kind = 19 → subs = []) ∧ (nd.kind ≠ 19 → nd.kids = zs (subs.map placeT)) ∧ StackT l T (out ++ [placeT p]) (subs.reverse ++ st) ∧ sumT (subs.reverse ++ st) < sumT (p :: st) := by
  obtain ⟨h1, h2, h3⟩ := h
  obtain ⟨nd, subs, e1, e2, e3, e4, e5, e6⟩ := own_step (h2 p (by simp))
  have hs : sumT (subs.reverse ++ st) = sumT subs + sumT st := by simp [sumT]
  have hs2 : sumT (p :: st) = p.1.size + sumT st := by simp [sumT]
  refine ⟨nd, subs, e1, e2, e3, ⟨?_, ?_, ?_⟩, by omega⟩
  · rw [← h1, List.map_cons, List.flatten_cons, e5]
    simp
  · intro q hq
    simp at hq
    rcases hq with hq | hq
    · exact e4 q hq
    · exact h2 q (by simp [hq])
  · simp only [List.length_append, List.length_singleton]; omega
theorem stack_len {st : List TO} : st.length ≤ sumT st := by
  induction st with
  | nil => simp [sumT]
  | cons p st ih => have := p.1.size_pos; simp [sumT] at ih ⊢; omega
theorem stack_end {l : List Nd} {T : Tr} {out : List Nat} (h : StackT l T out []) : out = (ownT T 0).reverse := by simpa using h.1
/-- Sorted, what was taken off is the own nodes' list. -/
theorem sort_own (T : Tr) : ((zs (ownT T 0).reverse).mergeSort fun x y => decide (x ≤ y)) = zs (ownT T 0) := by
  have tr : ∀ a b c : Int, decide (a ≤ b) = true → decide (b ≤ c) = true → decide (a ≤ c) = true := fun a b c h1 h2 => by simp only [decide_eq_true_eq] at *; omega
  have tt : ∀ a b : Int, (decide (a ≤ b) || decide (b ≤ a)) = true := fun a b => by simp only [Bool.or_eq_true, decide_eq_true_eq]; omega
  refine List.Perm.eq_of_pairwise (le := fun a b => decide (a ≤ b) = true) (fun a b _ _ h1 h2 => by simp only [decide_eq_true_eq] at h1 h2; omega) (List.pairwise_mergeSort tr tt _) ?_ ?_
  · unfold zs
    rw [List.pairwise_map]
    exact (own_sorted T 0).imp fun {a b} h => by simp only [decide_eq_true_eq]; omega
  · refine (List.mergeSort_perm _ _).trans ?_
    unfold zs
    rw [List.map_reverse]
    exact List.reverse_perm _
theorem arity_of {h : Nd} {ks : List Int} (hf : fieldsS { h with kids := ks } = true) (hr : 18 ≤ h.kind) : (ks.length = 0 → h.kind = 18) ∧ (ks.length = 1 → h.kind = 19 ∨ h.kind = 22) ∧ (ks.length = 2 → h.kind = 20 ∨ h.kind = 21) := by
  simp only [fieldsS, Bool.and_eq_true, decide_eq_true_eq] at hf
  have ha := hf.2
  unfold arityS at ha
  split at ha
  · refine ⟨fun _ => by omega, fun e => by omega, fun e => by omega⟩
  · split at ha
    · refine ⟨fun _ => by omega, fun e => by omega, fun e => by omega⟩
    · split at ha
      · refine ⟨fun _ => by omega, fun e => by omega, fun e => by omega⟩
      · refine ⟨fun _ => by omega, fun e => by omega, fun e => by omega⟩
/-- A regular expression that may be has its shape. -/
theorem regV_of : ∀ {t : Tr}, validT t = true → regS t.root.kind = true → regV t
  | .leaf h, hv, hr => by
    simp only [regS, Tr.root] at hr
    exact (arity_of hv (of_decide_eq_true hr)).1 rfl
  | .un h a, hv, hr => by
    simp only [regS, Tr.root] at hr
    simp only [validT, Bool.and_eq_true, beq_iff_eq] at hv
    obtain ⟨⟨hf, hw⟩, ha⟩ := hv
    rcases (arity_of hf (of_decide_eq_true hr)).2.1 rfl with h1 | h1
    · exact .inl h1
    · refine .inr ⟨h1, regV_of ha ?_⟩
      rw [hw]; simp [wantsS, h1]
  | .bin h a b, hv, hr => by
    simp only [regS, Tr.root] at hr
    simp only [validT, Bool.and_eq_true, beq_iff_eq] at hv
    obtain ⟨⟨⟨⟨hf, hwa⟩, hwb⟩, ha⟩, hb⟩ := hv
    have h1 := (arity_of hf (of_decide_eq_true hr)).2.2 rfl
    refine ⟨h1, regV_of ha ?_, regV_of hb ?_⟩
    · rw [hwa]; rcases h1 with h1 | h1 <;> simp [wantsS, h1]
    · rw [hwb]; rcases h1 with h1 | h1 <;> simp [wantsS, h1]
theorem no19_of : ∀ {t : Tr}, validT t = true → no19 t
  | .leaf h, hv => trivial
  | .un h a, hv => by
    simp only [validT, Bool.and_eq_true] at hv
    exact no19_of (t := a) hv.2
  | .bin h a b, hv => by
    simp only [validT, Bool.and_eq_true] at hv
    obtain ⟨⟨⟨⟨hf, hwa⟩, hwb⟩, ha⟩, hb⟩ := hv
    refine ⟨fun e => ?_, no19_of ha, no19_of hb⟩
    rcases (arity_of hf (by omega)).2.2 rfl with h1 | h1 <;> omega
/-- The own nodes of a list that is a regular expression. -/
def ownS (l : List Nd) : List Nat := match treeS l with | some t => if regS t.root.kind then ownT t 0 else [] | none => []
theorem ownS_no {l : List Nd} (h : regL l = false) : ownS l = [] := by
  unfold regL at h
  unfold ownS
  cases ht : treeS l with
  | none => rfl
  | some t => rw [ht] at h; simp only at h ⊢; rw [h]; rfl
theorem ownS_yes {l : List Nd} (h : regL l = true) : ∃ t, treeS l = some t ∧ regS t.root.kind = true ∧ ownS l = ownT t 0 := by
  unfold regL at h
  unfold ownS
  cases ht : treeS l with
  | none => rw [ht] at h; cases h
  | some t => rw [ht] at h; exact ⟨t, rfl, h, by simp only; rw [if_pos h]⟩
end Go.Proofs.Ytdbbooibkiicnaa
