
set_option linter.unusedVariables false
set_option linter.unusedSimpArgs false
/- Formulas and regular expressions as trees: plain definitions and lemmas, no program in sight. -/
/-! Formulas and regular expressions as trees: plain definitions and lemmas, no program in sight. -/
namespace Go.Proofs.Ytaomehlhopiblaa

/-- A node of a formula's list. -/
structure Nd where
  kind : Int
  name : ByteArray
  lo : Int
  hi : Int
  kids : List Int

/-- A tree: a root without kids, with one, with two. -/
inductive Tr where
  | leaf (h : Nd)
  | un (h : Nd) (a : Tr)
  | bin (h : Nd) (a b : Tr)
namespace Tr
def root : Tr → Nd
  | leaf h | un h _ | bin h _ _ => h
def size : Tr → Nat
  | leaf _ => 1
  | un _ a => a.size + 1
  | bin _ a b => a.size + b.size + 1
def depth : Tr → Nat
  | leaf _ => 1
  | un _ a => a.depth + 1
  | bin _ a b => max a.depth b.depth + 1
/-- How many nodes stand at and below each node. -/
def sizes : Tr → List Nat
  | leaf _ => [1]
  | un h a => a.sizes ++ [(un h a).size]
  | bin h a b => a.sizes ++ b.sizes ++ [(bin h a b).size]
def depths : Tr → List Nat
  | leaf _ => [1]
  | un h a => a.depths ++ [(un h a).depth]
  | bin h a b => a.depths ++ b.depths ++ [(bin h a b).depth]
/-- The tree's list, its places from o on. -/
def flat : Tr → Nat → List Nd
  | leaf h, _ => [{ h with kids := [] }]
  | un h a, o => a.flat o ++ [{ h with kids := [((o + a.size : Nat) : Int) - 1] }]
  | bin h a b, o => a.flat o ++ b.flat (o + a.size) ++ [{ h with kids := [((o + a.size : Nat) : Int) - 1, ((o + a.size + b.size : Nat) : Int) - 1] }]
/-- The part whose root stands at place i. -/
def sub : Tr → Nat → Tr
  | leaf h, _ => leaf h
  | un h a, i => if i < a.size then a.sub i else un h a
  | bin h a b, i => if i < a.size then a.sub i else if i < a.size + b.size then b.sub (i - a.size) else bin h a b
theorem size_pos (t : Tr) : 0 < t.size := by cases t <;> simp [size]
theorem length_sizes : ∀ t : Tr, t.sizes.length = t.size
  | leaf _ => rfl
  | un h a => by simp [sizes, size, length_sizes a]
  | bin h a b => by simp [sizes, size, length_sizes a, length_sizes b, Nat.add_assoc]
theorem length_depths : ∀ t : Tr, t.depths.length = t.size
  | leaf _ => rfl
  | un h a => by simp [depths, size, length_depths a]
  | bin h a b => by simp [depths, size, length_depths a, length_depths b, Nat.add_assoc]
theorem length_flat : ∀ (t : Tr) (o : Nat), (t.flat o).length = t.size
  | leaf _, _ => rfl
  | un h a, o => by simp [flat, size, length_flat a]
  | bin h a b, o => by simp [flat, size, length_flat a, length_flat b, Nat.add_assoc]
end Tr

/-! ### What a node must be -/
def arityS (k : Int) : Int :=
  if k = 1 ∨ k = 2 ∨ k = 3 ∨ k = 18 then 0
  else if k = 5 ∨ k = 6 ∨ k = 7 ∨ k = 14 ∨ k = 15 ∨ k = 20 ∨ k = 21 then 2
  else if k < 1 ∨ 22 < k then -1 else 1
def regS (k : Int) : Bool := decide (18 ≤ k)
def wantsS (k : Int) : Bool := decide (k = 16 ∨ k = 17 ∨ k = 20 ∨ k = 21 ∨ k = 22)
def timedS (k : Int) : Bool := decide (8 ≤ k ∧ k ≤ 17)
def smallS (c : UInt8) : Bool := decide (97 ≤ c.toNat ∧ c.toNat ≤ 122)
def moreS (c : UInt8) : Bool := smallS c || decide (48 ≤ c.toNat ∧ c.toNat ≤ 57) || decide (c.toNat = 95)
/-- The words that are no names. -/
def wordsS : List (List UInt8) :=
  [[116, 114, 117, 101], [102, 97, 108, 115, 101], [112, 114, 101, 118], [110, 101, 120, 116], [111, 110, 99, 101], [104, 105, 115, 116], [115, 111, 109, 101], [97, 108, 108], [115, 105, 110, 99, 101], [117, 110, 116, 105, 108], [98, 97, 99, 107], [102, 111, 114, 101]]
def nameS (s : List UInt8) : Bool :=
  match s with
  | [] => false
  | c :: _ => decide (s.length ≤ 16) && smallS c && s.all moreS && !wordsS.contains s
def spanS (lo hi : Int) : Bool := decide (0 ≤ lo ∧ lo ≤ 9999 ∧ (hi = -1 ∨ (lo ≤ hi ∧ hi ≤ 9999)))
/-- Has a node just the fields that its kind has? -/
def fieldsS (n : Nd) : Bool :=
  (if n.kind = 3 then nameS n.name.data.toList else n.name.data.toList.isEmpty) &&
  (if timedS n.kind then spanS n.lo n.hi else decide (n.lo = 0 ∧ n.hi = 0)) &&
  decide ((n.kids.length : Int) = arityS n.kind)

/-! ### The stack of trees, the last one first -/
def total (st : List Tr) : Nat := (st.map Tr.size).sum
def pushS (st : List Tr) (n : Nd) : Option (List Tr) :=
  if fieldsS n then
    match n.kids, st with
    | [], st => some (.leaf n :: st)
    | [k], a :: st => if k = (total (a :: st) : Int) - 1 ∧ regS a.root.kind = wantsS n.kind then some (.un n a :: st) else none
    | [k, k'], b :: a :: st =>
      if k' = (total (b :: a :: st) : Int) - 1 ∧ regS b.root.kind = wantsS n.kind ∧ k = (total (a :: st) : Int) - 1 ∧ regS a.root.kind = wantsS n.kind then some (.bin n a b :: st) else none
    | _, _ => none
  else none
def parseS : List Nd → Option (List Tr) := fun l => l.foldlM pushS []
def treeS (l : List Nd) : Option Tr :=
  match parseS l with
  | some [t] => some t
  | _ => none
theorem parse_snoc (l : List Nd) (n : Nd) : parseS (l ++ [n]) = (parseS l).bind fun st => pushS st n := by
  simp [parseS, List.foldlM_append]
theorem pushS_total {st st' : List Tr} {n : Nd} (h : pushS st n = some st') : total st' = total st + 1 := by
  unfold pushS at h
  split at h
  · split at h
    · injection h with h; subst h; simp [total, Tr.size]; omega
    · split at h
      · injection h with h; subst h; simp [total, Tr.size]; omega
      · cases h
    · split at h
      · injection h with h; subst h; simp [total, Tr.size]; omega
      · cases h
    · cases h
  · cases h
theorem fold_total : ∀ {l : List Nd} {st st' : List Tr}, l.foldlM pushS st = some st' → total st' = total st + l.length
  | [], st, st', h => by
    simp at h; subst h; simp
  | n :: l, st, st', h => by
    rw [List.foldlM_cons] at h
    cases hp : pushS st n with
    | none => rw [hp] at h; cases h
    | some st0 =>
      rw [hp] at h
      have h1 := pushS_total hp
      have h2 := fold_total (l := l) h
      simp; omega
theorem parse_total {l : List Nd} {st : List Tr} (h : parseS l = some st) : total st = l.length := by
  have := fold_total h
  simpa [total] using this
/-- The whole list of a stack, its bottom first. -/
def listOf : List Tr → List Nd
  | [] => []
  | t :: st => listOf st ++ t.flat (total st)
def sizesOf : List Tr → List Nat
  | [] => []
  | t :: st => sizesOf st ++ t.sizes
def depthsOf : List Tr → List Nat
  | [] => []
  | t :: st => depthsOf st ++ t.depths
theorem total_cons (t : Tr) (st : List Tr) : total (t :: st) = t.size + total st := by simp [total]
theorem length_sizesOf : ∀ st, (sizesOf st).length = total st
  | [] => rfl
  | t :: st => by simp [sizesOf, length_sizesOf st, Tr.length_sizes, total_cons, Nat.add_comm]
theorem length_depthsOf : ∀ st, (depthsOf st).length = total st
  | [] => rfl
  | t :: st => by simp [depthsOf, length_depthsOf st, Tr.length_depths, total_cons, Nat.add_comm]
theorem length_listOf : ∀ st, (listOf st).length = total st
  | [] => rfl
  | t :: st => by simp [listOf, length_listOf st, Tr.length_flat, total_cons, Nat.add_comm]
theorem pushS_some {st st' : List Tr} {n : Nd} (h : pushS st n = some st') : fieldsS n = true ∧
    ((n.kids = [] ∧ st' = .leaf n :: st) ∨
     (∃ a s0, st = a :: s0 ∧ n.kids = [(total st : Int) - 1] ∧ regS a.root.kind = wantsS n.kind ∧ st' = .un n a :: s0) ∨
     (∃ b a s0, st = b :: a :: s0 ∧ n.kids = [(total (a :: s0) : Int) - 1, (total st : Int) - 1] ∧ regS b.root.kind = wantsS n.kind ∧ regS a.root.kind = wantsS n.kind ∧ st' = .bin n a b :: s0)) := by
  unfold pushS at h
  split at h
  · rename_i hf
    refine ⟨hf, ?_⟩
    split at h
    · rename_i hk
      injection h with h
      exact .inl ⟨hk, h.symm⟩
    · rename_i k a s0 hk
      split at h
      · rename_i hc
        injection h with h
        exact .inr (.inl ⟨a, s0, rfl, by rw [hk, hc.1], hc.2, h.symm⟩)
      · cases h
    · rename_i k k' b a s0 hk
      split at h
      · rename_i hc
        injection h with h
        exact .inr (.inr ⟨b, a, s0, rfl, by rw [hk, hc.1, hc.2.2.1], hc.2.1, hc.2.2.2, h.symm⟩)
      · cases h
    · cases h
  · cases h
theorem nd_eta (n : Nd) (k : List Int) (h : n.kids = k) : n = { n with kids := k } := by cases n; simp at h; simp [h]
theorem push_list {st st' : List Tr} {n : Nd} (h : pushS st n = some st') : listOf st' = listOf st ++ [n] := by
  obtain ⟨_, ⟨hk, rfl⟩ | ⟨a, s0, rfl, hk, _, rfl⟩ | ⟨b, a, s0, rfl, hk, _, _, rfl⟩⟩ := pushS_some h
  · simp only [listOf, Tr.flat]
    rw [← nd_eta n [] hk]
  · simp only [listOf, Tr.flat]
    rw [← List.append_assoc, ← nd_eta n _ (by rw [hk, total_cons, Nat.add_comm])]
  · simp only [listOf, Tr.flat]
    rw [← List.append_assoc, ← List.append_assoc]
    rw [← nd_eta n _ (by rw [hk, total_cons, total_cons, total_cons]; congr 3 <;> omega)]
    rw [total_cons, Nat.add_comm]
theorem push_sizes {st st' : List Tr} {n : Nd} (h : pushS st n = some st') : ∃ t st0, st' = t :: st0 ∧ sizesOf st' = sizesOf st ++ [t.size] ∧ depthsOf st' = depthsOf st ++ [t.depth] := by
  obtain ⟨_, ⟨hk, rfl⟩ | ⟨a, s0, rfl, hk, _, rfl⟩ | ⟨b, a, s0, rfl, hk, _, _, rfl⟩⟩ := pushS_some h
  · exact ⟨_, _, rfl, rfl, rfl⟩
  · exact ⟨_, _, rfl, by simp [sizesOf, Tr.sizes], by simp [depthsOf, Tr.depths]⟩
  · exact ⟨_, _, rfl, by simp [sizesOf, Tr.sizes], by simp [depthsOf, Tr.depths]⟩
theorem fold_list : ∀ {l : List Nd} {st st' : List Tr}, l.foldlM pushS st = some st' → listOf st' = listOf st ++ l
  | [], st, st', h => by
    simp at h; subst h; simp
  | n :: l, st, st', h => by
    rw [List.foldlM_cons] at h
    cases hp : pushS st n with
    | none => rw [hp] at h; cases h
    | some st0 =>
      rw [hp] at h
      have h2 := fold_list (l := l) h
      rw [h2, push_list hp, List.append_assoc]
      rfl
theorem parse_list {l : List Nd} {st : List Tr} (h : parseS l = some st) : listOf st = l := by
  have := fold_list h
  simpa [listOf] using this
/-- A list that may be is its tree's list. -/
theorem tree_flat {l : List Nd} {t : Tr} (h : treeS l = some t) : l = t.flat 0 := by
  unfold treeS at h
  split at h
  · rename_i t' hp
    injection h with h
    subst h
    have := parse_list hp
    simpa [listOf, total] using this.symm
  · cases h
/-! ### Parts -/
/-- A node whose kids' places are moved. -/
def shiftN (d : Int) (n : Nd) : Nd := { n with kids := n.kids.map (· + d) }
theorem shift_flat (d : Nat) : ∀ (t : Tr) (o : Nat), (t.flat (o + d)).map (shiftN (-(d : Int))) = t.flat o
  | .leaf h, o => by simp [Tr.flat, shiftN]
  | .un h a, o => by
    have ih := shift_flat d a o
    simp only [Tr.flat, List.map_append, ih, List.map_cons, List.map_nil, shiftN]
    congr 3
    simp only [List.cons.injEq, and_true]
    omega
  | .bin h a b, o => by
    have ih := shift_flat d a o
    have ih2 := shift_flat d b (o + a.size)
    rw [show o + a.size + d = o + d + a.size by omega] at ih2
    simp only [Tr.flat, List.map_append, ih, ih2, List.map_cons, List.map_nil, shiftN]
    congr 3
    simp only [List.cons.injEq, and_true]
    constructor <;> omega
namespace Tr
theorem sub_size_le : ∀ (t : Tr) (i : Nat), i < t.size → (t.sub i).size ≤ i + 1
  | leaf _, i, _ => by simp [sub, size]
  | un h a, i, hi => by
    unfold sub
    split
    · rename_i h1; exact sub_size_le a i h1
    · simp [size] at hi ⊢; omega
  | bin h a b, i, hi => by
    unfold sub
    split
    · rename_i h1; exact sub_size_le a i h1
    · split
      · have := sub_size_le b (i - a.size) (by omega)
        omega
      · simp [size] at hi ⊢; omega
theorem get_sizes : ∀ (t : Tr) (i : Nat), i < t.size → t.sizes[i]? = some (t.sub i).size
  | leaf _, i, hi => by
    obtain rfl : i = 0 := by simp [size] at hi; exact hi
    rfl
  | un h a, i, hi => by
    unfold sub sizes
    split
    · rename_i h1
      rw [List.getElem?_append_left (by rw [length_sizes]; exact h1)]
      exact get_sizes a i h1
    · rename_i h1
      simp [size] at hi
      obtain rfl : i = a.size := by omega
      rw [List.getElem?_append_right (by rw [length_sizes]; exact Nat.le_refl _), length_sizes]
      simp
  | bin h a b, i, hi => by
    unfold sub sizes
    split
    · rename_i h1
      rw [List.append_assoc, List.getElem?_append_left (by rw [length_sizes]; exact h1)]
      exact get_sizes a i h1
    · rename_i h1
      split
      · rename_i h2
        rw [List.getElem?_append_left (by simp [length_sizes]; exact h2), List.getElem?_append_right (by rw [length_sizes]; omega), length_sizes]
        exact get_sizes b (i - a.size) (by omega)
      · rename_i h2
        simp [size] at hi
        rw [List.getElem?_append_right (by simp [length_sizes]; omega)]
        simp [length_sizes, show i - (a.size + b.size) = 0 by omega]
theorem get_depths : ∀ (t : Tr) (i : Nat), i < t.size → t.depths[i]? = some (t.sub i).depth
  | leaf _, i, hi => by
    obtain rfl : i = 0 := by simp [size] at hi; exact hi
    rfl
  | un h a, i, hi => by
    unfold sub depths
    split
    · rename_i h1
      rw [List.getElem?_append_left (by rw [length_depths]; exact h1)]
      exact get_depths a i h1
    · rename_i h1
      simp [size] at hi
      obtain rfl : i = a.size := by omega
      rw [List.getElem?_append_right (by rw [length_depths]; exact Nat.le_refl _), length_depths]
      simp
  | bin h a b, i, hi => by
    unfold sub depths
    split
    · rename_i h1
      rw [List.append_assoc, List.getElem?_append_left (by rw [length_depths]; exact h1)]
      exact get_depths a i h1
    · rename_i h1
      split
      · rename_i h2
        rw [List.getElem?_append_left (by simp [length_depths]; exact h2), List.getElem?_append_right (by rw [length_depths]; omega), length_depths]
        exact get_depths b (i - a.size) (by omega)
      · rename_i h2
        simp [size] at hi
        rw [List.getElem?_append_right (by simp [length_depths]; omega)]
        simp [length_depths, show i - (a.size + b.size) = 0 by omega]
/-- The part's list stands in the whole list. -/
theorem sub_flat : ∀ (t : Tr) (i o : Nat), i < t.size → ((t.flat o).drop (i + 1 - (t.sub i).size)).take (t.sub i).size = (t.sub i).flat (o + (i + 1 - (t.sub i).size))
  | leaf h, i, o, hi => by
    obtain rfl : i = 0 := by simp [size] at hi; exact hi
    simp [sub, size, flat]
  | un h a, i, o, hi => by
    have hs : (un h a).sub i = if i < a.size then a.sub i else un h a := rfl
    rw [hs]
    split
    · rename_i h1
      have hle := sub_size_le a i h1
      rw [flat, List.drop_append_of_le_length (by rw [length_flat]; omega), List.take_append_of_le_length (by rw [List.length_drop, length_flat]; omega)]
      exact sub_flat a i o h1
    · rename_i h1
      simp [size] at hi ⊢
      obtain rfl : i = a.size := by omega
      simp
      rw [List.take_of_length_le (by rw [length_flat]; simp [size])]
  | bin h a b, i, o, hi => by
    have hs : (bin h a b).sub i = if i < a.size then a.sub i else if i < a.size + b.size then b.sub (i - a.size) else bin h a b := rfl
    rw [hs]
    split
    · rename_i h1
      have hle := sub_size_le a i h1
      rw [flat, List.append_assoc, List.drop_append_of_le_length (by rw [length_flat]; omega), List.take_append_of_le_length (by rw [List.length_drop, length_flat]; omega)]
      exact sub_flat a i o h1
    · rename_i h1
      split
      · rename_i h2
        have hle := sub_size_le b (i - a.size) (by omega)
        have ih := sub_flat b (i - a.size) (o + a.size) (by omega)
        rw [flat, List.append_assoc, List.drop_append, List.drop_of_length_le (by rw [length_flat]; omega), List.nil_append, length_flat]
        rw [List.drop_append_of_le_length (by rw [length_flat]; omega), List.take_append_of_le_length (by rw [List.length_drop, length_flat]; omega)]
        rw [show i + 1 - (b.sub (i - a.size)).size - a.size = i - a.size + 1 - (b.sub (i - a.size)).size by omega]
        rw [ih]
        congr 1
        omega
      · rename_i h2
        simp [size] at hi
        obtain rfl : i = a.size + b.size := by omega
        rw [show a.size + b.size + 1 - (bin h a b).size = 0 by simp [size]]
        simp
        rw [List.take_of_length_le (by rw [length_flat]; exact Nat.le_refl _)]
theorem sub_root (t : Tr) : t.sub (t.size - 1) = t := by
  cases t with
  | leaf h => rfl
  | un h a => simp [sub, size]
  | bin h a b => simp [sub, size, show ¬ a.size + b.size < a.size by omega]
/-- The root stands last. -/
theorem last_flat (t : Tr) (o : Nat) : ∃ k, (t.flat o)[t.size - 1]? = some { t.root with kids := k } := by
  cases t with
  | leaf h => exact ⟨_, rfl⟩
  | un h a => exact ⟨[((o + a.size : Nat) : Int) - 1], by simp [flat, size, root, length_flat]⟩
  | bin h a b =>
    refine ⟨[((o + a.size : Nat) : Int) - 1, ((o + a.size + b.size : Nat) : Int) - 1], ?_⟩
    rw [flat, List.getElem?_append_right (by simp [length_flat, size])]
    simp [length_flat, size, root]
end Tr
/-! ### The kids are popped, the last one first -/
def popK (w : Bool) : List Int → List Tr → Option (List Tr)
  | [], st => some st
  | _ :: _, [] => none
  | k :: ks, a :: st => if k = (total (a :: st) : Int) - 1 ∧ regS a.root.kind = w then popK w ks st else none
theorem popK_snoc (w : Bool) (k : Int) : ∀ (ks : List Int) (st : List Tr), popK w (ks ++ [k]) st = (popK w ks st).bind (popK w [k])
  | [], st => by cases st <;> simp [popK]
  | k' :: ks, [] => rfl
  | k' :: ks, a :: st => by
    simp only [List.cons_append, popK]
    split
    · exact popK_snoc w k ks st
    · rfl
/-- What is left is the stack's lower part. -/
theorem popK_part {w : Bool} : ∀ {ks : List Int} {st st' : List Tr}, popK w ks st = some st' → ∃ pre, st = pre ++ st'
  | [], st, st', h => by simp [popK] at h; subst h; exact ⟨[], rfl⟩
  | k :: ks, [], st', h => by cases h
  | k :: ks, a :: st, st', h => by
    simp only [popK] at h
    split at h
    · obtain ⟨pre, e⟩ := popK_part h
      exact ⟨a :: pre, by rw [e]; rfl⟩
    · cases h
theorem fields_kids {n : Nd} (h : fieldsS n = true) : (n.kids.length : Int) = arityS n.kind := by
  unfold fieldsS at h
  simp only [Bool.and_eq_true, decide_eq_true_eq] at h
  exact h.2
theorem arity_le (k : Int) : arityS k ≤ 2 := by
  unfold arityS
  split
  · omega
  · split
    · omega
    · split <;> omega
theorem push_pop {st : List Tr} {n : Nd} (h : fieldsS n = true) :
    (popK (wantsS n.kind) n.kids.reverse st = none → pushS st n = none) ∧
    (∀ st0, popK (wantsS n.kind) n.kids.reverse st = some st0 → ∃ t, pushS st n = some (t :: st0) ∧ t.size + total st0 = total st + 1) := by
  have hk := fields_kids h
  have ha := arity_le n.kind
  match hkids : n.kids, hk with
  | [], _ =>
    simp only [List.reverse_nil, popK]
    refine ⟨fun e => (by cases e), fun st0 e => ?_⟩
    injection e with e
    subst e
    exact ⟨.leaf n, by unfold pushS; rw [if_pos h, hkids], by simp [Tr.size]; omega⟩
  | [k], _ =>
    simp only [List.reverse_cons, List.reverse_nil, List.nil_append]
    cases st with
    | nil =>
      simp only [popK]
      refine ⟨fun _ => ?_, fun st0 e => by cases e⟩
      unfold pushS
      rw [if_pos h, hkids]
    | cons a st =>
      simp only [popK]
      by_cases hc : k = (total (a :: st) : Int) - 1 ∧ regS a.root.kind = wantsS n.kind
      · rw [if_pos hc]
        refine ⟨fun e => (by cases e), fun st0 e => ?_⟩
        injection e with e
        subst e
        exact ⟨.un n a, by unfold pushS; rw [if_pos h, hkids]; simp only; rw [if_pos hc], by simp [Tr.size, total_cons]; omega⟩
      · rw [if_neg hc]
        refine ⟨fun _ => ?_, fun st0 e => by cases e⟩
        unfold pushS
        rw [if_pos h, hkids]
        simp only
        rw [if_neg hc]
  | [k, k'], _ =>
    simp only [List.reverse_cons, List.reverse_nil, List.nil_append, List.cons_append]
    match st with
    | [] =>
      simp only [popK]
      refine ⟨fun _ => ?_, fun st0 e => by cases e⟩
      unfold pushS
      rw [if_pos h, hkids]
    | [b] =>
      simp only [popK]
      refine ⟨fun _ => ?_, fun st0 e => by split at e <;> cases e⟩
      unfold pushS
      rw [if_pos h, hkids]
    | b :: a :: st =>
      simp only [popK]
      by_cases hc : k' = (total (b :: a :: st) : Int) - 1 ∧ regS b.root.kind = wantsS n.kind
      · rw [if_pos hc]
        by_cases hd : k = (total (a :: st) : Int) - 1 ∧ regS a.root.kind = wantsS n.kind
        · rw [if_pos hd]
          refine ⟨fun e => (by cases e), fun st0 e => ?_⟩
          injection e with e
          subst e
          exact ⟨.bin n a b, by unfold pushS; rw [if_pos h, hkids]; simp only; rw [if_pos ⟨hc.1, hc.2, hd.1, hd.2⟩], by simp [Tr.size, total_cons]; omega⟩
        · rw [if_neg hd]
          refine ⟨fun _ => ?_, fun st0 e => by cases e⟩
          unfold pushS
          rw [if_pos h, hkids]
          simp only
          rw [if_neg (fun e => hd e.2.2)]
      · rw [if_neg hc]
        refine ⟨fun _ => ?_, fun st0 e => by cases e⟩
        unfold pushS
        rw [if_pos h, hkids]
        simp only
        rw [if_neg (fun e => hc ⟨e.1, e.2.1⟩)]
  | _ :: _ :: _ :: _, hk => simp at hk; omega
/-- What stands where a stack's lower part ends. -/
theorem get_listOf (pre : List Tr) (a : Tr) (st : List Tr) : ∃ k, (listOf (pre ++ a :: st))[total (a :: st) - 1]? = some { a.root with kids := k } := by
  induction pre with
  | nil =>
    obtain ⟨k, h⟩ := Tr.last_flat a (total st)
    refine ⟨k, ?_⟩
    have := a.size_pos
    rw [List.nil_append, listOf, List.getElem?_append_right (by rw [length_listOf, total_cons]; omega), length_listOf, total_cons, show a.size + total st - 1 - total st = a.size - 1 by omega]
    exact h
  | cons b pre ih =>
    obtain ⟨k, h⟩ := ih
    refine ⟨k, ?_⟩
    have := a.size_pos
    have hl : total (a :: st) ≤ total (pre ++ a :: st) := by simp [total]
    rw [List.cons_append, listOf, List.getElem?_append_left (by rw [length_listOf]; rw [total_cons] at *; omega)]
    exact h
theorem get_sizesOf (pre : List Tr) (a : Tr) (st : List Tr) : (sizesOf (pre ++ a :: st))[total (a :: st) - 1]? = some a.size := by
  induction pre with
  | nil =>
    have := a.size_pos
    rw [List.nil_append, sizesOf, List.getElem?_append_right (by rw [length_sizesOf, total_cons]; omega), length_sizesOf, total_cons, show a.size + total st - 1 - total st = a.size - 1 by omega, Tr.get_sizes _ _ (by omega), Tr.sub_root]
  | cons b pre ih =>
    have := a.size_pos
    have hl : total (a :: st) ≤ total (pre ++ a :: st) := by simp [total]
    rw [List.cons_append, sizesOf, List.getElem?_append_left (by rw [length_sizesOf]; rw [total_cons] at *; omega)]
    exact ih
theorem total_pos {st : List Tr} : 0 < total st ↔ st ≠ [] := by
  cases st with
  | nil => simp [total]
  | cons a st => have := a.size_pos; simp [total_cons]; omega
theorem parse_take {l : List Nd} {i : Nat} (h : i < l.length) : parseS (l.take (i + 1)) = (parseS (l.take i)).bind fun st => pushS st l[i] := by
  rw [List.take_succ_eq_append_getElem h, parse_snoc]
theorem parse_none {l : List Nd} {i : Nat} (h : parseS (l.take i) = none) : parseS l = none := by
  have : l = l.take i ++ l.drop i := (List.take_append_drop i l).symm
  rw [this]
  unfold parseS at h ⊢
  rw [List.foldlM_append, h]
  rfl
theorem tree_none_of {l : List Nd} (h : parseS l = none) : treeS l = none := by unfold treeS; rw [h]
theorem tree_single {l : List Nd} {t : Tr} {st : List Tr} (h : parseS l = some (t :: st)) : (treeS l = some t ∧ t.size = l.length ∧ st = []) ∨ (treeS l = none ∧ t.size < l.length) := by
  have hl := parse_total h
  rw [total_cons] at hl
  cases st with
  | nil => exact .inl ⟨by unfold treeS; rw [h], by simpa [total] using hl, rfl⟩
  | cons a st =>
    have := a.size_pos
    rw [total_cons] at hl
    exact .inr ⟨by unfold treeS; rw [h], by omega⟩
end Go.Proofs.Ytaomehlhopiblaa
/-! The reference's way to tell whether a list may be: the stack of open nodes. Plain lemmas. -/
namespace Go.Proofs.Ytaomehlhopiblaa
end Go.Proofs.Ytaomehlhopiblaa
/-! Depths by the stack of trees. Plain lemmas. -/
namespace Go.Proofs.Ytaomehlhopiblaa
/-- The greatest of some depths. -/
def maxD (ds : List Nat) (ks : List Int) : Nat := ks.foldl (fun m k => max m (ds.getD k.toNat 0)) 0
theorem get_depthsOf (pre : List Tr) (a : Tr) (st : List Tr) : (depthsOf (pre ++ a :: st))[total (a :: st) - 1]? = some a.depth := by
  induction pre with
  | nil =>
    have := a.size_pos
    rw [List.nil_append, depthsOf, List.getElem?_append_right (by rw [length_depthsOf, total_cons]; omega), length_depthsOf, total_cons, show a.size + total st - 1 - total st = a.size - 1 by omega, Tr.get_depths _ _ (by omega), Tr.sub_root]
  | cons b pre ih =>
    have := a.size_pos
    have hl : total (a :: st) ≤ total (pre ++ a :: st) := by simp [total]
    rw [List.cons_append, depthsOf, List.getElem?_append_left (by rw [length_depthsOf]; rw [total_cons] at *; omega)]
    exact ih
theorem getD_of {ds : List Nat} {i d : Nat} (h : ds[i]? = some d) : ds.getD i 0 = d := by simp [List.getD, h]
theorem push_depth {st st' : List Tr} {n : Nd} (h : pushS st n = some st') : ∃ t st0, st' = t :: st0 ∧ t.depth = maxD (depthsOf st) n.kids + 1 ∧ ∀ k ∈ n.kids, 0 ≤ k ∧ k < (total st : Int) := by
  obtain ⟨_, ⟨hk, rfl⟩ | ⟨a, s0, rfl, hk, _, rfl⟩ | ⟨b, a, s0, rfl, hk, _, _, rfl⟩⟩ := pushS_some h
  · refine ⟨_, _, rfl, by rw [hk]; rfl, by rw [hk]; simp⟩
  · have h1 := get_depthsOf [] a s0
    have hp := a.size_pos
    rw [List.nil_append] at h1
    refine ⟨_, _, rfl, ?_, ?_⟩
    · rw [hk]
      simp only [maxD, List.foldl_cons, List.foldl_nil, Tr.depth]
      rw [show ((total (a :: s0) : Int) - 1).toNat = total (a :: s0) - 1 by omega, getD_of h1]
      simp
    · rw [hk]
      simp only [List.mem_singleton, forall_eq, total_cons]
      omega
  · have h1 := get_depthsOf [] b (a :: s0)
    have h2 := get_depthsOf [b] a s0
    have hp := a.size_pos
    have hq := b.size_pos
    rw [List.nil_append] at h1
    rw [List.cons_append, List.nil_append] at h2
    refine ⟨_, _, rfl, ?_, ?_⟩
    · rw [hk]
      simp only [maxD, List.foldl_cons, List.foldl_nil, Tr.depth]
      rw [show ((total (a :: s0) : Int) - 1).toNat = total (a :: s0) - 1 by omega, show ((total (b :: a :: s0) : Int) - 1).toNat = total (b :: a :: s0) - 1 by omega, getD_of h1, getD_of h2]
      simp
    · rw [hk]
      intro k hk
      simp only [List.mem_cons, List.not_mem_nil, or_false] at hk
      have h3 := total_cons a s0
      have h4 := total_cons b (a :: s0)
      rcases hk with rfl | rfl <;> omega
theorem tree_parse {l : List Nd} {t : Tr} (h : treeS l = some t) : parseS l = some [t] := by
  unfold treeS at h
  split at h
  · rename_i t' hp
    injection h with h
    rw [hp, h]
  · cases h
theorem parse_prefix {l : List Nd} {st : List Tr} (h : parseS l = some st) (k : Nat) : ∃ st', parseS (l.take k) = some st' := by
  cases h1 : parseS (l.take k) with
  | none => rw [parse_none h1] at h; cases h
  | some st' => exact ⟨st', rfl⟩
/-- In a list that may be, each node is pushed. -/
theorem push_of_tree {l : List Nd} {t : Tr} (h : treeS l = some t) {k : Nat} (hk : k < l.length) {st : List Tr} (hst : parseS (l.take k) = some st) : ∃ st', pushS st l[k] = some st' ∧ parseS (l.take (k + 1)) = some st' := by
  obtain ⟨st', h1⟩ := parse_prefix (tree_parse h) (k + 1)
  have h2 := parse_take hk
  rw [hst, h1] at h2
  exact ⟨st', h2.symm, h1⟩
end Go.Proofs.Ytaomehlhopiblaa
/-! Parts of a list: where they begin, what they are. Plain lemmas. -/
namespace Go.Proofs.Ytaomehlhopiblaa
def partL (l : List Nd) (i : Int) : List Nd := match treeS l with | some t => if 0 ≤ i ∧ i < (l.length : Int) then (t.sub i.toNat).flat 0 else [] | none => []
namespace Tr
theorem sub_sub : ∀ (t : Tr) (i j : Nat), i < t.size → j < (t.sub i).size → t.sub (i + 1 - (t.sub i).size + j) = (t.sub i).sub j
  | leaf h, i, j, hi, hj => rfl
  | un h a, i, j, hi, hj => by
    have hs : (un h a).sub i = if i < a.size then a.sub i else un h a := rfl
    rw [hs] at hj ⊢
    split at hj
    · rename_i h1
      rw [if_pos h1]
      have hle := sub_size_le a i h1
      have h2 : i + 1 - (a.sub i).size + j < a.size := by omega
      rw [show (un h a).sub (i + 1 - (a.sub i).size + j) = if i + 1 - (a.sub i).size + j < a.size then a.sub (i + 1 - (a.sub i).size + j) else un h a from rfl, if_pos h2]
      exact sub_sub a i j h1 hj
    · rename_i h1
      rw [if_neg h1]
      simp [size] at hi
      obtain rfl : i = a.size := by omega
      rw [show a.size + 1 - (un h a).size + j = j by simp [size]]
  | bin h a b, i, j, hi, hj => by
    have hs : (bin h a b).sub i = if i < a.size then a.sub i else if i < a.size + b.size then b.sub (i - a.size) else bin h a b := rfl
    rw [hs] at hj ⊢
    split at hj
    · rename_i h1
      rw [if_pos h1]
      have hle := sub_size_le a i h1
      have h2 : i + 1 - (a.sub i).size + j < a.size := by omega
      rw [show (bin h a b).sub (i + 1 - (a.sub i).size + j) = if i + 1 - (a.sub i).size + j < a.size then a.sub (i + 1 - (a.sub i).size + j) else if i + 1 - (a.sub i).size + j < a.size + b.size then b.sub (i + 1 - (a.sub i).size + j - a.size) else bin h a b from rfl, if_pos h2]
      exact sub_sub a i j h1 hj
    · rename_i h1
      split at hj
      · rename_i h2
        rw [if_neg h1, if_pos h2]
        have hle := sub_size_le b (i - a.size) (by omega)
        have h3 : ¬ i + 1 - (b.sub (i - a.size)).size + j < a.size := by omega
        have h4 : i + 1 - (b.sub (i - a.size)).size + j < a.size + b.size := by omega
        generalize hx : i + 1 - (b.sub (i - a.size)).size + j = x at *
        rw [show (bin h a b).sub x = if x < a.size then a.sub x else if x < a.size + b.size then b.sub (x - a.size) else bin h a b from rfl, if_neg h3, if_pos h4]
        rw [← sub_sub b (i - a.size) j (by omega) hj]
        congr 1
        omega
      · rename_i h2
        rw [if_neg h1, if_neg h2]
        simp [size] at hi
        obtain rfl : i = a.size + b.size := by omega
        rw [show a.size + b.size + 1 - (bin h a b).size + j = j by simp [size]]
/-- The root's kids, where the part begins at o. -/
def rootKids : Tr → Nat → List Int
  | leaf _, _ => []
  | un _ a, o => [((o + a.size : Nat) : Int) - 1]
  | bin _ a b, o => [((o + a.size : Nat) : Int) - 1, ((o + a.size + b.size : Nat) : Int) - 1]
theorem flat_last (t : Tr) (o : Nat) : (t.flat o)[t.size - 1]? = some { t.root with kids := t.rootKids o } := by
  cases t with
  | leaf h => rfl
  | un h a => simp [flat, size, root, length_flat, rootKids]
  | bin h a b =>
    rw [flat, List.getElem?_append_right (by simp [length_flat, size])]
    simp [length_flat, size, root, rootKids]
theorem get_flat (t : Tr) (i o : Nat) (hi : i < t.size) : (t.flat o)[i]? = some { (t.sub i).root with kids := (t.sub i).rootKids (o + (i + 1 - (t.sub i).size)) } := by
  have h1 := sub_flat t i o hi
  have h2 := flat_last (t.sub i) (o + (i + 1 - (t.sub i).size))
  have hp := (t.sub i).size_pos
  have hle := sub_size_le t i hi
  rw [← h1, List.getElem?_take, if_pos (by omega), List.getElem?_drop, show i + 1 - (t.sub i).size + ((t.sub i).size - 1) = i by omega] at h2
  exact h2
end Tr
/-- The part as it is cut out of the list and moved. -/
theorem part_cut {l : List Nd} {t : Tr} (h : treeS l = some t) {i : Nat} (hi : i < l.length) :
    (t.sub i).size ≤ i + 1 ∧ ((l.drop (i + 1 - (t.sub i).size)).take (t.sub i).size).map (shiftN (-((i + 1 - (t.sub i).size : Nat) : Int))) = (t.sub i).flat 0 ∧ partL l (i : Int) = (t.sub i).flat 0 := by
  have hf := tree_flat h
  have hl : l.length = t.size := by rw [hf, Tr.length_flat]
  have hle := Tr.sub_size_le t i (by omega)
  have h1 := Tr.sub_flat t i 0 (by omega)
  rw [← hf] at h1
  refine ⟨hle, ?_, ?_⟩
  · rw [h1]
    have := shift_flat (i + 1 - (t.sub i).size) (t.sub i) 0
    exact this
  · unfold partL
    rw [h]
    simp only
    rw [if_pos (by omega), Int.toNat_natCast]
theorem part_none {l : List Nd} (h : treeS l = none) (i : Int) : partL l i = [] := by unfold partL; rw [h]
theorem part_out {l : List Nd} {i : Int} (h : i < 0 ∨ (l.length : Int) ≤ i) : partL l i = [] := by
  unfold partL
  split
  · rw [if_neg (by omega)]
  · rfl
/-- The kids of a list that may be stand ahead. -/
theorem kids_lt {l : List Nd} {t : Tr} (h : treeS l = some t) : ∀ n ∈ l, n.kids.length ≤ 2 ∧ ∀ k ∈ n.kids, 0 ≤ k ∧ k < (l.length : Int) := by
  intro n hn
  obtain ⟨i, hi, rfl⟩ := List.getElem_of_mem hn
  obtain ⟨st, hst⟩ := parse_prefix (tree_parse h) i
  obtain ⟨st', hp, _⟩ := push_of_tree h hi hst
  obtain ⟨_, _, _, _, hk⟩ := push_depth hp
  have h1 := fields_kids (pushS_some hp).1
  have h2 := arity_le l[i].kind
  refine ⟨by omega, fun k hkk => ?_⟩
  have h3 := hk k hkk
  have h4 := parse_total hst
  rw [List.length_take] at h4
  omega
end Go.Proofs.Ytaomehlhopiblaa
