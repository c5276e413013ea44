/- Trees whose lists are one have one shape. -/
import Derived.Test.YtdbbooibkiicnaaPathsP
import Derived.Test.YtdbbooibkiicnaaOwnP
set_option linter.unusedVariables false
set_option linter.unusedSimpArgs false
/-! Trees whose lists are one have one shape. -/
namespace Go.Proofs.Ytdbbooibkiicnaa
/-- Two trees of one shape, kind by kind. -/
def ShapeT : Tr → Tr → Prop
  | .leaf h, .leaf h' => h.kind = h'.kind
  | .un h a, .un h' a' => h.kind = h'.kind ∧ ShapeT a a'
  | .bin h a b, .bin h' a' b' => h.kind = h'.kind ∧ ShapeT a a' ∧ ShapeT b b'
  | _, _ => False
theorem shape_of_flat : ∀ (s t : Tr) (o : Nat), s.flat o = t.flat o → ShapeT s t
  | .leaf h, .leaf h', o, e => by
    simp only [Tr.flat, List.cons.injEq, and_true] at e
    have h1 := congrArg Nd.kind e
    exact h1
  | .leaf h, .un h' a', o, e => by
    have h1 := congrArg List.length e
    have := a'.size_pos
    simp [Tr.flat, Tr.length_flat] at h1; omega
  | .leaf h, .bin h' a' b', o, e => by
    have h1 := congrArg List.length e
    have := a'.size_pos
    simp [Tr.flat, Tr.length_flat] at h1; omega
  | .un h a, .leaf h', o, e => by
    have h1 := congrArg List.length e
    have := a.size_pos
    simp [Tr.flat, Tr.length_flat] at h1; omega
  | .bin h a b, .leaf h', o, e => by
    have h1 := congrArg List.length e
    have := a.size_pos
    simp [Tr.flat, Tr.length_flat] at h1; omega
  | .un h a, .un h' a', o, e => by
    simp only [Tr.flat] at e
    obtain ⟨h1, h2⟩ := List.append_inj' e rfl
    simp only [List.cons.injEq, and_true] at h2
    have h9 := congrArg Nd.kind h2
    exact ⟨h9, shape_of_flat a a' o h1⟩
  | .un h a, .bin h' a' b', o, e => by
    simp only [Tr.flat] at e
    obtain ⟨h1, h2⟩ := List.append_inj' e rfl
    simp only [List.cons.injEq, and_true] at h2
    have h3 := congrArg Nd.kids h2
    simp at h3
  | .bin h a b, .un h' a', o, e => by
    simp only [Tr.flat] at e
    obtain ⟨h1, h2⟩ := List.append_inj' e rfl
    simp only [List.cons.injEq, and_true] at h2
    have h3 := congrArg Nd.kids h2
    simp at h3
  | .bin h a b, .bin h' a' b', o, e => by
    simp only [Tr.flat] at e
    obtain ⟨h1, h2⟩ := List.append_inj' e rfl
    simp only [List.cons.injEq, and_true] at h2
    have h3 := congrArg Nd.kids h2
    simp only [List.cons.injEq, and_true] at h3
    have hsz : a.size = a'.size := by omega
    obtain ⟨h4, h5⟩ := List.append_inj h1 (by rw [Tr.length_flat, Tr.length_flat, hsz])
    rw [hsz] at h5
    have h9 := congrArg Nd.kind h2
    exact ⟨h9, shape_of_flat a a' o h4, shape_of_flat b b' _ h5⟩
theorem shape_tests : ∀ {s t : Tr}, ShapeT s t → testsT s = testsT t
  | .leaf _, .leaf _, _ => rfl
  | .un h a, .un h' a', e => by simp [testsT, e.1, shape_tests e.2]
  | .bin h a b, .bin h' a' b', e => by simp [testsT, shape_tests e.2.1, shape_tests e.2.2]
theorem shape_reach (n : Nat) (v : Nat → Nat → Bool) : ∀ {s t : Tr} (k : Nat), ShapeT s t → reachT n v s k = reachT n v t k
  | .leaf _, .leaf _, _, _ => rfl
  | .un h a, .un h' a', k, e => by simp [reachT, e.1, shape_reach n v k e.2]
  | .bin h a b, .bin h' a' b', k, e => by simp [reachT, e.1, shape_reach n v k e.2.1, shape_reach n v (k + testsT a') e.2.2, shape_tests e.2.1]
/-- What is read out of a tree's list reaches what the tree reaches. -/
theorem reach_of_flat {l : List Nd} {s t : Tr} (h : treeS l = some s) (e : l = t.flat 0) (n : Nat) (v : Nat → Nat → Bool) (k : Nat) : reachT n v s k = reachT n v t k :=
  shape_reach n v k (shape_of_flat s t 0 (by rw [← tree_flat h, e]))
end Go.Proofs.Ytdbbooibkiicnaa
/-! Regular expressions turned round: plain definitions and lemmas, no program in sight. -/
/-! Regular expressions turned round: plain definitions and lemmas, no program in sight. -/
namespace Go.Proofs.Ytdbbooibkiicnaa
def turnT : Tr → Tr
  | .leaf h => .leaf h
  | .un h a => if h.kind = 19 then .un h a else .un h (turnT a)
  | .bin h a b => if h.kind = 21 then .bin h (turnT b) (turnT a) else .bin h (turnT a) (turnT b)
theorem turn_turn : ∀ t : Tr, turnT (turnT t) = t
  | .leaf _ => rfl
  | .un h a => by
    by_cases h1 : h.kind = 19
    · simp [turnT, h1]
    · simp [turnT, h1, turn_turn a]
  | .bin h a b => by
    by_cases h1 : h.kind = 21
    · simp [turnT, h1, turn_turn a, turn_turn b]
    · simp [turnT, h1, turn_turn a, turn_turn b]
theorem tests_turn : ∀ t : Tr, testsT (turnT t) = testsT t
  | .leaf _ => rfl
  | .un h a => by
    by_cases h1 : h.kind = 19
    · simp [turnT, testsT, h1]
    · simp [turnT, testsT, h1, tests_turn a]
  | .bin h a b => by
    by_cases h1 : h.kind = 21
    · simp [turnT, testsT, h1, tests_turn a, tests_turn b, Nat.add_comm]
    · simp [turnT, testsT, h1, tests_turn a, tests_turn b]
theorem size_turn : ∀ t : Tr, (turnT t).size = t.size
  | .leaf _ => rfl
  | .un h a => by
    by_cases h1 : h.kind = 19
    · simp [turnT, h1]
    · simp [turnT, Tr.size, h1, size_turn a]
  | .bin h a b => by
    by_cases h1 : h.kind = 21
    · simp [turnT, Tr.size, h1, size_turn a, size_turn b, Nat.add_comm]
    · simp [turnT, Tr.size, h1, size_turn a, size_turn b]
/-- Of each test of what is turned round its number in what was not, these told from k on. -/
def ordT : Tr → Nat → List Nat
  | .leaf _, _ => []
  | .un h a, k => if h.kind = 19 then [k] else ordT a k
  | .bin h a b, k => if h.kind = 21 then ordT b (k + testsT a) ++ ordT a k else ordT a k ++ ordT b (k + testsT a)
theorem length_ord : ∀ (t : Tr) (k : Nat), (ordT t k).length = testsT t
  | .leaf _, _ => rfl
  | .un h a, k => by
    by_cases h1 : h.kind = 19
    · simp [ordT, testsT, h1]
    · simp [ordT, testsT, h1, length_ord a]
  | .bin h a b, k => by
    by_cases h1 : h.kind = 21
    · simp [ordT, testsT, h1, length_ord a, length_ord b, Nat.add_comm]
    · simp [ordT, testsT, h1, length_ord a, length_ord b]
/-- Tables told from the end on. -/
def TurnedM (n : Nat) (m' m : Mx) : Prop := ∀ i j, i < n → j < n → m' i j = m (n - 1 - j) (n - 1 - i)
theorem turned_prod {n : Nat} {a a' b b' : Mx} (ha : TurnedM n a' a) (hb : TurnedM n b' b) : TurnedM n (prodM n b' a') (prodM n a b) := fun i j hi hj => by
  rw [Bool.eq_iff_iff, prodM_iff, prodM_iff]
  constructor
  · rintro ⟨k, hk, h1, h2⟩
    rw [hb i k hi hk] at h1
    rw [ha k j hk hj] at h2
    exact ⟨n - 1 - k, by omega, h2, h1⟩
  · rintro ⟨k, hk, h1, h2⟩
    refine ⟨n - 1 - k, by omega, ?_, ?_⟩
    · rw [hb i _ hi (by omega), show n - 1 - (n - 1 - k) = k by omega]; exact h2
    · rw [ha _ j (by omega) hj, show n - 1 - (n - 1 - k) = k by omega]; exact h1
theorem turned_pw {n : Nat} {a a' : Mx} (ha : TurnedM n a' a) : ∀ k, TurnedM n (pwM n a' k) (pwM n a k)
  | 0 => fun i j hi hj => by
    rw [Bool.eq_iff_iff, pw_zero, pw_zero]
    omega
  | k + 1 => fun i j hi hj => by
    have ih := turned_pw ha k
    have e : pwM n a (k + 1) (n - 1 - j) (n - 1 - i) = prodM n (pwM n a k) a (n - 1 - j) (n - 1 - i) := by
      rw [Bool.eq_iff_iff, prodM_iff, pw_add 1 k (by omega)]
      constructor
      · rintro ⟨x, hx, h1, h2⟩
        exact ⟨x, hx, h1, by rw [pw_one x _ hx (by omega)] at h2; exact h2⟩
      · rintro ⟨x, hx, h1, h2⟩
        exact ⟨x, hx, h1, by rw [pw_one x _ hx (by omega)]; exact h2⟩
    rw [e]
    exact turned_prod ih ha i j hi hj
theorem turned_star {n : Nat} {a a' : Mx} (ha : TurnedM n a' a) : TurnedM n (starM n a') (starM n a) :=
  turned_pw (fun i j hi hj => by
    rw [Bool.eq_iff_iff, refl_iff, refl_iff, ha i j hi hj]
    constructor
    · rintro (h | h)
      · exact .inl (by omega)
      · exact .inr h
    · rintro (h | h)
      · exact .inl (by omega)
      · exact .inr h) n
/-- A way of what is turned goes over points told from the end on just where one goes back. -/
theorem reach_turn (n : Nat) (v v' : Nat → Nat → Bool) : ∀ (t : Tr) (k k' : Nat), regV t → (∀ i, i < n → ∀ q (hq : q < testsT t), v' (n - 1 - i) (k' + q) = v i ((ordT t k)[q]'(by rw [length_ord]; exact hq))) → TurnedM n (reachT n v' (turnT t) k') (reachT n v t k)
  | .leaf _, k, k', _, _ => fun i j hi hj => by simp [turnT, reachT, stepM]; omega
  | .un h a, k, k', hr, hv => by
    by_cases h1 : h.kind = 19
    · intro i j hi hj
      have h2 := hv (n - 1 - i) (by omega) 0 (by simp [testsT, h1])
      rw [show n - 1 - (n - 1 - i) = i by omega] at h2
      simp [ordT, h1] at h2
      simp only [turnT, h1, if_true, reachT, testM, h2]
      by_cases e : i = j
      · subst e; simp
      · rw [show decide (i = j) = false from decide_eq_false e, show decide (n - 1 - j = n - 1 - i) = false from decide_eq_false (by omega)]; simp
    · have ih := reach_turn n v v' a k k' (hr.elim (fun e => absurd e h1) (·.2)) (fun i hi q hq => by
        have := hv i hi q (by simp [testsT, h1]; exact hq)
        simpa [ordT, h1] using this)
      simp only [turnT, h1, if_false, reachT]
      exact turned_star ih
  | .bin h a b, k, k', hr, hv => by
    by_cases h1 : h.kind = 21
    · have iha := reach_turn n v v' a k (k' + testsT b) hr.2.1 (fun i hi q hq => by
        have := hv i hi (testsT b + q) (by simp [testsT]; omega)
        rw [Nat.add_assoc, this]
        congr 1
        simp only [ordT, h1, if_true]
        rw [List.getElem_append_right (by rw [length_ord]; omega)]
        congr 1
        rw [length_ord]; omega)
      have ihb := reach_turn n v v' b (k + testsT a) k' hr.2.2 (fun i hi q hq => by
        have := hv i hi q (by simp [testsT]; omega)
        rw [this]
        congr 1
        simp only [ordT, h1, if_true]
        rw [List.getElem_append_left (by rw [length_ord]; exact hq)])
      have h20 : ¬ h.kind = 20 := by omega
      simp only [turnT, h1, if_true, reachT, tests_turn]
      rw [if_neg (by omega), if_neg (by omega)]
      exact turned_prod iha ihb
    · have iha := reach_turn n v v' a k k' hr.2.1 (fun i hi q hq => by
        have := hv i hi q (by simp [testsT]; omega)
        rw [this]
        congr 1
        simp only [ordT, h1, if_false]
        rw [List.getElem_append_left (by rw [length_ord]; exact hq)])
      have ihb := reach_turn n v v' b (k + testsT a) (k' + testsT a) hr.2.2 (fun i hi q hq => by
        have := hv i hi (testsT a + q) (by simp [testsT]; omega)
        rw [Nat.add_assoc, this]
        congr 1
        simp only [ordT, h1, if_false]
        rw [List.getElem_append_right (by rw [length_ord]; omega)]
        congr 1
        rw [length_ord]; omega)
      have h20 : h.kind = 20 := by rcases hr.1 with e | e; exact e; exact absurd e h1
      simp only [turnT, h1, if_false, reachT, h20, if_true, tests_turn]
      simp only [show ¬ (20 : Int) = 21 by decide, if_false, reachT, h20, if_true, tests_turn]
      intro i j hi hj
      simp [orM, iha i j hi hj, ihb i j hi hj]
end Go.Proofs.Ytdbbooibkiicnaa
/-! Lists of regular expressions turned round: plain definitions and lemmas. -/
namespace Go.Proofs.Ytdbbooibkiicnaa
/-- Two trees that have one list. -/
def EqT : Tr → Tr → Prop
  | .leaf h, .leaf h' => ({ h with kids := [] } : Nd) = { h' with kids := [] }
  | .un h a, .un h' a' => ({ h with kids := [] } : Nd) = { h' with kids := [] } ∧ EqT a a'
  | .bin h a b, .bin h' a' b' => ({ h with kids := [] } : Nd) = { h' with kids := [] } ∧ EqT a a' ∧ EqT b b'
  | _, _ => False
theorem nd_kids {h h' : Nd} {k k' : List Int} (e : ({ h with kids := k } : Nd) = { h' with kids := k' }) (j : List Int) : ({ h with kids := j } : Nd) = { h' with kids := j } := by
  have h1 := congrArg Nd.kind e
  have h2 := congrArg Nd.name e
  have h3 := congrArg Nd.lo e
  have h4 := congrArg Nd.hi e
  simp only at h1 h2 h3 h4
  rw [h1, h2, h3, h4]
theorem eq_of_flat : ∀ (s t : Tr) (o : Nat), s.flat o = t.flat o → EqT s t
  | .leaf h, .leaf h', o, e => by
    simp only [Tr.flat, List.cons.injEq, and_true] at e
    exact nd_kids e []
  | .leaf h, .un h' a', o, e => by
    have h1 := congrArg List.length e
    have := a'.size_pos
    simp [Tr.flat, Tr.length_flat] at h1; omega
  | .leaf h, .bin h' a' b', o, e => by
    have h1 := congrArg List.length e
    have := a'.size_pos
    simp [Tr.flat, Tr.length_flat] at h1; omega
  | .un h a, .leaf h', o, e => by
    have h1 := congrArg List.length e
    have := a.size_pos
    simp [Tr.flat, Tr.length_flat] at h1; omega
  | .bin h a b, .leaf h', o, e => by
    have h1 := congrArg List.length e
    have := a.size_pos
    simp [Tr.flat, Tr.length_flat] at h1; omega
  | .un h a, .un h' a', o, e => by
    simp only [Tr.flat] at e
    obtain ⟨h1, h2⟩ := List.append_inj' e rfl
    simp only [List.cons.injEq, and_true] at h2
    exact ⟨nd_kids h2 [], eq_of_flat a a' o h1⟩
  | .un h a, .bin h' a' b', o, e => by
    simp only [Tr.flat] at e
    obtain ⟨h1, h2⟩ := List.append_inj' e rfl
    simp only [List.cons.injEq, and_true] at h2
    have h3 := congrArg Nd.kids h2
    simp at h3
  | .bin h a b, .un h' a', o, e => by
    simp only [Tr.flat] at e
    obtain ⟨h1, h2⟩ := List.append_inj' e rfl
    simp only [List.cons.injEq, and_true] at h2
    have h3 := congrArg Nd.kids h2
    simp at h3
  | .bin h a b, .bin h' a' b', o, e => by
    simp only [Tr.flat] at e
    obtain ⟨h1, h2⟩ := List.append_inj' e rfl
    simp only [List.cons.injEq, and_true] at h2
    have h3 := congrArg Nd.kids h2
    simp only [List.cons.injEq, and_true] at h3
    have hsz : a.size = a'.size := by omega
    obtain ⟨h4, h5⟩ := List.append_inj h1 (by rw [Tr.length_flat, Tr.length_flat, hsz])
    rw [hsz] at h5
    exact ⟨nd_kids h2 [], eq_of_flat a a' o h4, eq_of_flat b b' _ h5⟩
theorem eq_size : ∀ {s t : Tr}, EqT s t → s.size = t.size
  | .leaf _, .leaf _, _ => rfl
  | .un h a, .un h' a', e => by simp [Tr.size, eq_size e.2]
  | .bin h a b, .bin h' a' b', e => by simp [Tr.size, eq_size e.2.1, eq_size e.2.2]
theorem flat_of_eq : ∀ {s t : Tr}, EqT s t → ∀ o, s.flat o = t.flat o
  | .leaf h, .leaf h', e, o => by simp only [Tr.flat]; rw [nd_kids e []]
  | .un h a, .un h' a', e, o => by simp only [Tr.flat]; rw [flat_of_eq e.2, eq_size e.2, nd_kids e.1]
  | .bin h a b, .bin h' a' b', e, o => by simp only [Tr.flat]; rw [flat_of_eq e.2.1, eq_size e.2.1, flat_of_eq e.2.2, eq_size e.2.2, nd_kids e.1]
theorem kind_of_nd {h h' : Nd} (e : ({ h with kids := [] } : Nd) = { h' with kids := [] }) : h.kind = h'.kind := by have h1 := congrArg Nd.kind e; exact h1
theorem eq_shape : ∀ {s t : Tr}, EqT s t → ShapeT s t
  | .leaf h, .leaf h', e => kind_of_nd e
  | .un h a, .un h' a', e => ⟨kind_of_nd e.1, eq_shape e.2⟩
  | .bin h a b, .bin h' a' b', e => ⟨kind_of_nd e.1, eq_shape e.2.1, eq_shape e.2.2⟩
theorem eq_turn : ∀ {s t : Tr}, EqT s t → EqT (turnT s) (turnT t)
  | .leaf h, .leaf h', e => e
  | .un h a, .un h' a', e => by
    have hk := kind_of_nd e.1
    by_cases h1 : h'.kind = 19
    · simp only [turnT, hk, h1, if_true]; exact e
    · simp only [turnT, hk, h1, if_false]; exact ⟨e.1, eq_turn e.2⟩
  | .bin h a b, .bin h' a' b', e => by
    have hk := kind_of_nd e.1
    by_cases h1 : h'.kind = 21
    · simp only [turnT, hk, h1, if_true]; exact ⟨e.1, eq_turn e.2.2, eq_turn e.2.1⟩
    · simp only [turnT, hk, h1, if_false]; exact ⟨e.1, eq_turn e.2.1, eq_turn e.2.2⟩
theorem shape_ord : ∀ {s t : Tr} (k : Nat), ShapeT s t → ordT s k = ordT t k
  | .leaf _, .leaf _, _, _ => rfl
  | .un h a, .un h' a', k, e => by simp [ordT, e.1, shape_ord k e.2]
  | .bin h a b, .bin h' a' b', k, e => by simp [ordT, e.1, shape_ord k e.2.1, shape_ord (k + testsT a') e.2.2, shape_tests e.2.1]
theorem root_turn (t : Tr) : (turnT t).root = t.root := by
  cases t with
  | leaf h => rfl
  | un h a => simp only [turnT]; split <;> rfl
  | bin h a b => simp only [turnT]; split <;> rfl
theorem valid_turn : ∀ {t : Tr}, validT t = true → validT (turnT t) = true
  | .leaf h, hv => hv
  | .un h a, hv => by
    by_cases h1 : h.kind = 19
    · simp only [turnT, h1, if_true]; exact hv
    · simp only [turnT, h1, if_false]
      simp only [validT, Bool.and_eq_true, root_turn] at hv ⊢
      exact ⟨hv.1, valid_turn hv.2⟩
  | .bin h a b, hv => by
    by_cases h1 : h.kind = 21
    · simp only [turnT, h1, if_true]
      simp only [validT, Bool.and_eq_true, root_turn] at hv ⊢
      exact ⟨⟨⟨⟨hv.1.1.1.1, hv.1.1.2⟩, hv.1.1.1.2⟩, valid_turn hv.2⟩, valid_turn hv.1.2⟩
    · simp only [turnT, h1, if_false]
      simp only [validT, Bool.and_eq_true, root_turn] at hv ⊢
      exact ⟨⟨hv.1.1, valid_turn hv.1.2⟩, valid_turn hv.2⟩
/-- A list turned round, and where its tests went. -/
def turnL (l : List Nd) : List Nd := match treeS l with | some t => if regS t.root.kind = true then (turnT t).flat 0 else [] | none => []
def ordL (l : List Nd) : List Nat := match treeS l with | some t => if regS t.root.kind = true then ordT t 0 else [] | none => []
theorem turn_no {l : List Nd} (h : regL l = false) : turnL l = [] ∧ ordL l = [] := by
  unfold regL at h
  unfold turnL ordL
  cases ht : treeS l with
  | none => exact ⟨rfl, rfl⟩
  | some t => rw [ht] at h; simp only at h ⊢; rw [h]; exact ⟨rfl, rfl⟩
theorem turn_yes {l : List Nd} {t : Tr} (ht : treeS l = some t) (hr : regS t.root.kind = true) : turnL l = (turnT t).flat 0 ∧ ordL l = ordT t 0 := by
  unfold turnL ordL
  rw [ht]
  simp only
  rw [if_pos hr, if_pos hr]
  exact ⟨rfl, rfl⟩
/-- What is turned round is one tree again, and it may be. -/
theorem turn_tree {l : List Nd} {t : Tr} (ht : treeS l = some t) (hr : regS t.root.kind = true) : ∃ t', treeS (turnL l) = some t' ∧ EqT t' (turnT t) ∧ regS t'.root.kind = true := by
  have hv := valid_turn (tree_valid ht)
  obtain ⟨t', h1, h2, h3, h4, _⟩ := fold_flat (turnT t) [] hv
  rw [(turn_yes ht hr).1]
  refine ⟨t', ?_, eq_of_flat _ _ 0 (h4 0), ?_⟩
  · unfold treeS parseS
    rw [show (Tr.flat (turnT t) 0) = Tr.flat (turnT t) (total []) from rfl, h1]
  · rw [h3, root_turn]; exact hr
theorem turnL_reg {l : List Nd} (h : regL l = true) : regL (turnL l) = true := by
  obtain ⟨t, ht, hr, _⟩ := ownS_yes h
  obtain ⟨t', h1, _, h3⟩ := turn_tree ht hr
  unfold regL
  rw [h1]
  exact h3
theorem turnL_len (l : List Nd) : (turnL l).length ≤ l.length := by
  cases hreg : regL l with
  | false => rw [(turn_no hreg).1]; simp
  | true =>
    obtain ⟨t, ht, hr, _⟩ := ownS_yes hreg
    rw [(turn_yes ht hr).1, Tr.length_flat, size_turn, ← tree_len ht]
    exact Nat.le_refl _
theorem turnL_turn {l : List Nd} (h : regL l = true) : turnL (turnL l) = l := by
  obtain ⟨t, ht, hr, _⟩ := ownS_yes h
  obtain ⟨t', h1, h2, h3⟩ := turn_tree ht hr
  rw [(turn_yes h1 h3).1, flat_of_eq (eq_turn h2) 0, turn_turn, ← tree_flat ht]
theorem ordL_turn {l : List Nd} {t : Tr} (ht : treeS l = some t) (hr : regS t.root.kind = true) : ordL (turnL l) = ordT (turnT t) 0 := by
  obtain ⟨t', h1, h2, h3⟩ := turn_tree ht hr
  rw [(turn_yes h1 h3).2, shape_ord 0 (eq_shape h2)]
/-! ### The tests, as trees -/
def testTr : Tr → List Tr
  | .leaf _ => []
  | .un h a => if h.kind = 19 then [.un h a] else testTr a
  | .bin _ a b => testTr a ++ testTr b
theorem length_testTr : ∀ t : Tr, (testTr t).length = testsT t
  | .leaf _ => rfl
  | .un h a => by
    by_cases h1 : h.kind = 19
    · simp [testTr, testsT, h1]
    · simp [testTr, testsT, h1, length_testTr a]
  | .bin h a b => by simp [testTr, testsT, length_testTr a, length_testTr b]
theorem sub_un (h : Nd) (a : Tr) (i : Nat) : (Tr.un h a).sub i = if i < a.size then a.sub i else .un h a := rfl
theorem sub_bin (h : Nd) (a b : Tr) (i : Nat) : (Tr.bin h a b).sub i = if i < a.size then a.sub i else if i < a.size + b.size then b.sub (i - a.size) else .bin h a b := rfl
/-- A test's place is that of its tree. -/
theorem tests_sub : ∀ (t : Tr) (o i p : Nat), (testsL t o)[i]? = some p → o ≤ p ∧ p - o < t.size ∧ (testTr t)[i]? = some (t.sub (p - o))
  | .leaf _, o, i, p, h => by simp [testsL] at h
  | .un h a, o, i, p, hp => by
    by_cases h1 : h.kind = 19
    · simp only [testsL, h1, if_true] at hp
      obtain ⟨hi, e⟩ := List.getElem?_eq_some_iff.1 hp
      obtain rfl : i = 0 := by simp at hi; exact hi
      simp at e
      subst e
      refine ⟨by omega, by simp [Tr.size], ?_⟩
      simp [testTr, h1, sub_un]
    · simp only [testsL, h1, if_false] at hp
      obtain ⟨h2, h3, h4⟩ := tests_sub a o i p hp
      refine ⟨h2, by simp [Tr.size]; omega, ?_⟩
      simp only [testTr, h1, if_false, h4, sub_un]
      rw [if_pos h3]
  | .bin h a b, o, i, p, hp => by
    simp only [testsL] at hp
    by_cases hi : i < testsT a
    · rw [List.getElem?_append_left (by rw [length_tests]; exact hi)] at hp
      obtain ⟨h2, h3, h4⟩ := tests_sub a o i p hp
      refine ⟨h2, by simp [Tr.size]; omega, ?_⟩
      simp only [testTr]
      rw [List.getElem?_append_left (by rw [length_testTr]; exact hi), h4, sub_bin, if_pos h3]
    · rw [List.getElem?_append_right (by rw [length_tests]; omega), length_tests] at hp
      obtain ⟨h2, h3, h4⟩ := tests_sub b (o + a.size) _ p hp
      refine ⟨by omega, by simp [Tr.size]; omega, ?_⟩
      simp only [testTr]
      rw [List.getElem?_append_right (by rw [length_testTr]; omega), length_testTr, h4, sub_bin, if_neg (by omega), if_pos (by omega), show p - o - a.size = p - (o + a.size) by omega]
/-- Each test of what is turned round is the one that its number tells. -/
theorem ord_test : ∀ (t : Tr) (k i : Nat), i < testsT t → ∃ q, (ordT t k)[i]? = some (k + q) ∧ q < testsT t ∧ (testTr (turnT t))[i]? = (testTr t)[q]?
  | .leaf _, k, i, h => by simp [testsT] at h
  | .un h a, k, i, hi => by
    by_cases h1 : h.kind = 19
    · obtain rfl : i = 0 := by simp [testsT, h1] at hi; exact hi
      exact ⟨0, by simp [ordT, h1], by simp [testsT, h1], by simp [turnT, h1]⟩
    · simp only [testsT, h1, if_false] at hi
      obtain ⟨q, h2, h3, h4⟩ := ord_test a k i hi
      exact ⟨q, by simp [ordT, h1, h2], by simp [testsT, h1, h3], by simp [turnT, testTr, h1, h4]⟩
  | .bin h a b, k, i, hi => by
    simp only [testsT] at hi
    by_cases h1 : h.kind = 21
    · by_cases h5 : i < testsT b
      · obtain ⟨q, h2, h3, h4⟩ := ord_test b (k + testsT a) i h5
        refine ⟨testsT a + q, ?_, by simp [testsT]; omega, ?_⟩
        · simp only [ordT, h1, if_true]
          rw [List.getElem?_append_left (by rw [length_ord]; exact h5), h2, Nat.add_assoc]
        · simp only [turnT, h1, if_true, testTr]
          rw [List.getElem?_append_left (by rw [length_testTr, tests_turn]; exact h5), h4, List.getElem?_append_right (by rw [length_testTr]; omega), length_testTr]
          congr 1; omega
      · obtain ⟨q, h2, h3, h4⟩ := ord_test a k (i - testsT b) (by omega)
        refine ⟨q, ?_, by simp [testsT]; omega, ?_⟩
        · simp only [ordT, h1, if_true]
          rw [List.getElem?_append_right (by rw [length_ord]; omega), length_ord, h2]
        · simp only [turnT, h1, if_true, testTr]
          rw [List.getElem?_append_right (by rw [length_testTr, tests_turn]; omega), length_testTr, tests_turn, h4, List.getElem?_append_left (by rw [length_testTr]; exact h3)]
    · by_cases h5 : i < testsT a
      · obtain ⟨q, h2, h3, h4⟩ := ord_test a k i h5
        refine ⟨q, ?_, by simp [testsT]; omega, ?_⟩
        · simp only [ordT, h1, if_false]
          rw [List.getElem?_append_left (by rw [length_ord]; exact h5), h2]
        · simp only [turnT, h1, if_false, testTr]
          rw [List.getElem?_append_left (by rw [length_testTr, tests_turn]; exact h5), h4, List.getElem?_append_left (by rw [length_testTr]; exact h3)]
      · obtain ⟨q, h2, h3, h4⟩ := ord_test b (k + testsT a) (i - testsT a) (by omega)
        refine ⟨testsT a + q, ?_, by simp [testsT]; omega, ?_⟩
        · simp only [ordT, h1, if_false]
          rw [List.getElem?_append_right (by rw [length_ord]; omega), length_ord, h2, Nat.add_assoc]
        · simp only [turnT, h1, if_false, testTr]
          rw [List.getElem?_append_right (by rw [length_testTr, tests_turn]; omega), length_testTr, tests_turn, h4, List.getElem?_append_right (by rw [length_testTr]; omega), length_testTr]
          congr 1; omega
/-- Turned twice, each number is its own again. -/
theorem ord_ord : ∀ (t : Tr) (k k' i : Nat), i < testsT t → ∃ q, (ordT (turnT t) k')[i]? = some (k' + q) ∧ (ordT t k)[q]? = some (k + i)
  | .leaf _, _, _, i, h => by simp [testsT] at h
  | .un h a, k, k', i, hi => by
    by_cases h1 : h.kind = 19
    · obtain rfl : i = 0 := by simp [testsT, h1] at hi; exact hi
      exact ⟨0, by simp [turnT, ordT, h1], by simp [ordT, h1]⟩
    · simp only [testsT, h1, if_false] at hi
      obtain ⟨q, h2, h3⟩ := ord_ord a k k' i hi
      exact ⟨q, by simp [turnT, ordT, h1, h2], by simp [ordT, h1, h3]⟩
  | .bin h a b, k, k', i, hi => by
    simp only [testsT] at hi
    by_cases h1 : h.kind = 21
    · by_cases h5 : i < testsT a
      · obtain ⟨q, h2, h3⟩ := ord_ord a k (k' + testsT b) i h5
        refine ⟨testsT b + q, ?_, ?_⟩
        · simp only [turnT, ordT, h1, if_true, tests_turn]
          rw [List.getElem?_append_left (by rw [length_ord, tests_turn]; exact h5), h2, Nat.add_assoc]
        · simp only [ordT, h1, if_true]
          rw [List.getElem?_append_right (by rw [length_ord]; omega), length_ord, show testsT b + q - testsT b = q by omega, h3]
      · obtain ⟨q, h2, h3⟩ := ord_ord b (k + testsT a) k' (i - testsT a) (by omega)
        have hq : q < testsT b := by have := (List.getElem?_eq_some_iff.1 h3).1; rw [length_ord] at this; exact this
        refine ⟨q, ?_, ?_⟩
        · simp only [turnT, ordT, h1, if_true, tests_turn]
          rw [List.getElem?_append_right (by rw [length_ord, tests_turn]; omega), length_ord, tests_turn, h2]
        · simp only [ordT, h1, if_true]
          rw [List.getElem?_append_left (by rw [length_ord]; exact hq), h3]
          congr 1; omega
    · by_cases h5 : i < testsT a
      · obtain ⟨q, h2, h3⟩ := ord_ord a k k' i h5
        have hq : q < testsT a := by have := (List.getElem?_eq_some_iff.1 h3).1; rw [length_ord] at this; exact this
        refine ⟨q, ?_, ?_⟩
        · simp only [turnT, ordT, h1, if_false, tests_turn]
          rw [List.getElem?_append_left (by rw [length_ord, tests_turn]; exact h5), h2]
        · simp only [ordT, h1, if_false]
          rw [List.getElem?_append_left (by rw [length_ord]; exact hq), h3]
      · obtain ⟨q, h2, h3⟩ := ord_ord b (k + testsT a) (k' + testsT a) (i - testsT a) (by omega)
        refine ⟨testsT a + q, ?_, ?_⟩
        · simp only [turnT, ordT, h1, if_false, tests_turn]
          rw [List.getElem?_append_right (by rw [length_ord, tests_turn]; omega), length_ord, tests_turn, h2, Nat.add_assoc]
        · simp only [ordT, h1, if_false]
          rw [List.getElem?_append_right (by rw [length_ord]; omega), length_ord, show testsT a + q - testsT a = q by omega, h3]
          congr 1; omega
/-! ### The steps -/
def stepsN : Tr → Nat
  | .leaf _ => 1
  | .un h a => if h.kind = 19 then 0 else stepsN a
  | .bin _ a b => stepsN a + stepsN b
theorem shape_steps : ∀ {s t : Tr}, ShapeT s t → stepsN s = stepsN t
  | .leaf _, .leaf _, _ => rfl
  | .un h a, .un h' a', e => by simp [stepsN, e.1, shape_steps e.2]
  | .bin h a b, .bin h' a' b', e => by simp [stepsN, shape_steps e.2.1, shape_steps e.2.2]
theorem steps_turn : ∀ t : Tr, stepsN (turnT t) = stepsN t
  | .leaf _ => rfl
  | .un h a => by
    by_cases h1 : h.kind = 19
    · simp [turnT, h1]
    · simp [turnT, stepsN, h1, steps_turn a]
  | .bin h a b => by
    by_cases h1 : h.kind = 21
    · simp [turnT, stepsN, h1, steps_turn a, steps_turn b, Nat.add_comm]
    · simp [turnT, stepsN, h1, steps_turn a, steps_turn b]
theorem kind_placed {l pre post : List Nd} {t : Tr} {o : Nat} (hl : l = pre ++ t.flat o ++ post) (hp : pre.length = o) : kindAt l (o + t.size - 1) = t.root.kind := by
  have hs := t.size_pos
  have h2 : l[o + t.size - 1]? = some { t.root with kids := t.rootKids o } := by
    rw [hl, List.append_assoc, List.getElem?_append_right (by omega), List.getElem?_append_left (by rw [Tr.length_flat]; omega), show o + t.size - 1 - pre.length = t.size - 1 by omega, Tr.flat_last]
  unfold kindAt
  rw [h2]
theorem own_steps : ∀ (t : Tr) (o : Nat) (l pre post : List Nd), l = pre ++ t.flat o ++ post → pre.length = o → regV t → ((ownT t o).filter fun p => decide (kindAt l p = 18)).length = stepsN t
  | .leaf h, o, l, pre, post, hl, hp, hv => by
    have hk := kind_placed hl hp
    simp only [Tr.size, Nat.add_sub_cancel, Tr.root] at hk
    rw [show h.kind = 18 from hv] at hk
    simp [ownT, stepsN, hk]
  | .un h a, o, l, pre, post, hl, hp, hv => by
    have hk := kind_placed hl hp
    simp only [Tr.size, ← Nat.add_assoc, Nat.add_sub_cancel, Tr.root] at hk
    rcases hv with h19 | ⟨h22, hva⟩
    · simp [ownT, stepsN, h19, hk]
    · have ih := own_steps a o l pre ({ h with kids := [((o + a.size : Nat) : Int) - 1] } :: post) (by rw [hl, Tr.flat]; simp) hp hva
      have h19 : ¬ h.kind = 19 := by omega
      simp only [ownT, stepsN, h19, if_false, List.filter_append, List.length_append, ih]
      simp [hk, h22]
  | .bin h a b, o, l, pre, post, hl, hp, hv => by
    obtain ⟨hh, hva, hvb⟩ := hv
    have hk := kind_placed hl hp
    simp only [Tr.size, ← Nat.add_assoc, Nat.add_sub_cancel, Tr.root] at hk
    have iha := own_steps a o l pre (b.flat (o + a.size) ++ { h with kids := [((o + a.size : Nat) : Int) - 1, ((o + a.size + b.size : Nat) : Int) - 1] } :: post) (by rw [hl, Tr.flat]; simp) hp hva
    have ihb := own_steps b (o + a.size) l (pre ++ a.flat o) ({ h with kids := [((o + a.size : Nat) : Int) - 1, ((o + a.size + b.size : Nat) : Int) - 1] } :: post) (by rw [hl, Tr.flat]; simp) (by simp [hp, Tr.length_flat]) hvb
    have h18 : ¬ h.kind = 18 := by omega
    simp only [ownT, stepsN, List.filter_append, List.length_append, iha, ihb]
    simp [hk, h18]
theorem turn_regV {t : Tr} (hv : regV t) (hval : validT t = true) (hr : regS t.root.kind = true) : regV (turnT t) := regV_of (valid_turn hval) (by rw [root_turn]; exact hr)
end Go.Proofs.Ytdbbooibkiicnaa
