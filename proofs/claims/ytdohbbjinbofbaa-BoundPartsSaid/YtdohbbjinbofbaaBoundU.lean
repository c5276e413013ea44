/- What is below is no more than what is above: plain lemmas. -/
import Derived.Test.YtdohbbjinbofbaaBoundS
set_option linter.unusedVariables false
set_option linter.unusedSimpArgs false
namespace Go.Proofs.Ytdohbbjinbofbaa
theorem eq_head {h h' : Nd} (e : ({ h with kids := [] } : Nd) = { h' with kids := [] }) : h.kind = h'.kind ∧ h.lo = h'.lo ∧ h.hi = h'.hi := by
  simp only [Nd.mk.injEq] at e
  exact ⟨e.1, e.2.2.1, e.2.2.2.1⟩
theorem wideN_eq {h h' : Nd} (e : ({ h with kids := [] } : Nd) = { h' with kids := [] }) : wideN h = wideN h' := by
  obtain ⟨_, h1, h2⟩ := eq_head e
  unfold wideN
  rw [h1, h2]
theorem stepsN_eq : ∀ {s t : Tr}, EqT s t → stepsN s = stepsN t
  | .leaf _, .leaf _, _ => rfl
  | .un h a, .un h' a', e => by
    obtain ⟨k, _, _⟩ := eq_head e.1
    simp only [stepsN, k, stepsN_eq e.2]
  | .bin h a b, .bin h' a' b', e => by simp only [stepsN, stepsN_eq e.2.1, stepsN_eq e.2.2]
theorem testsT_eq : ∀ {s t : Tr}, EqT s t → testsT s = testsT t
  | .leaf _, .leaf _, _ => rfl
  | .un h a, .un h' a', e => by
    obtain ⟨k, _, _⟩ := eq_head e.1
    simp only [testsT, k, testsT_eq e.2]
  | .bin h a b, .bin h' a' b', e => by simp only [testsT, testsT_eq e.2.1, testsT_eq e.2.2]
theorem stW_eq {s t : Tr} (e : EqT s t) : stW s = stW t := by unfold stW; rw [stepsN_eq e]
theorem memoN_eq {C : Nat} {s t : Tr} (e : EqT s t) : memoN C s = memoN C t := by unfold memoN; rw [stW_eq e, testsT_eq e]
theorem restT_eq : ∀ {s t : Tr}, EqT s t → restT s = restT t
  | .leaf _, .leaf _, e => by obtain ⟨k, _, _⟩ := eq_head e; simp only [restT, k]
  | .un h a, .un h' a', e => by
    obtain ⟨k, _, _⟩ := eq_head e.1
    simp only [restT, k, restT_eq e.2]
  | .bin h a b, .bin h' a' b', e => by simp only [restT, restT_eq e.2.1, restT_eq e.2.2]
theorem extraT_eq : ∀ {s t : Tr}, EqT s t → extraT s = extraT t
  | .leaf _, .leaf _, _ => rfl
  | .un h a, .un h' a', e => by
    obtain ⟨k, _, _⟩ := eq_head e.1
    simp only [extraT, k, extraT_eq e.2, restT_eq e.2]
  | .bin h a b, .bin h' a' b', e => by simp only [extraT, extraT_eq e.2.1, extraT_eq e.2.2]
theorem stayT_eq (C : Nat) : ∀ {s t : Tr}, EqT s t → stayT C s = stayT C t
  | .leaf _, .leaf _, _ => rfl
  | .un h a, .un h' a', e => by
    obtain ⟨k, _, _⟩ := eq_head e.1
    simp only [stayT, k, stayT_eq C e.2, memoN_eq e.2, stW_eq e.2, wideN_eq e.1]
  | .bin h a b, .bin h' a' b', e => by simp only [stayT, stayT_eq C e.2.1, stayT_eq C e.2.2]
theorem fleetT_eq (C : Nat) : ∀ {s t : Tr}, EqT s t → fleetT C s = fleetT C t
  | .leaf _, .leaf _, _ => rfl
  | .un h a, .un h' a', e => by
    obtain ⟨k, _, _⟩ := eq_head e.1
    simp only [fleetT, k, fleetT_eq C e.2, memoN_eq e.2, stW_eq e.2, stayT_eq C e.2]
  | .bin h a b, .bin h' a' b', e => by simp only [fleetT, fleetT_eq C e.2.1, fleetT_eq C e.2.2]
theorem atomsN_eq : ∀ {s t : Tr}, EqT s t → atomsN s = atomsN t
  | .leaf _, .leaf _, _ => rfl
  | .un h a, .un h' a', e => by
    obtain ⟨k, _, _⟩ := eq_head e.1
    simp only [atomsN, k, atomsN_eq e.2, stepsN_eq e.2, wideN_eq e.1]
  | .bin h a b, .bin h' a' b', e => by simp only [atomsN, atomsN_eq e.2.1, atomsN_eq e.2.2]
theorem backN_eq : ∀ {s t : Tr}, EqT s t → backN s = backN t
  | .leaf _, .leaf _, _ => rfl
  | .un h a, .un h' a', e => by
    obtain ⟨k, _, _⟩ := eq_head e.1
    simp only [backN, k, backN_eq e.2, stepsN_eq e.2, wideN_eq e.1]
  | .bin h a b, .bin h' a' b', e => by simp only [backN, backN_eq e.2.1, backN_eq e.2.2]
theorem cellsT_eq {P C : Nat} {s t : Tr} (e : EqT s t) : cellsT P C s = cellsT P C t := by unfold cellsT; rw [restT_eq e, extraT_eq e, stayT_eq C e, fleetT_eq C e]
theorem onceT_eq {s t : Tr} (e : EqT s t) : onceT s = onceT t := by unfold onceT; rw [atomsN_eq e, backN_eq e]
/-- What goes down from a node to its kids holds at every place. -/
theorem sub_ind (P : Tr → Prop) (hu : ∀ h a, P (.un h a) → P a) (hb : ∀ h a b, P (.bin h a b) → P a ∧ P b) : ∀ (t : Tr) (i : Nat), P t → P (t.sub i)
  | .leaf _, _, h => h
  | .un h a, i, hp => by
    unfold Tr.sub
    split
    · exact sub_ind P hu hb a _ (hu h a hp)
    · exact hp
  | .bin h a b, i, hp => by
    unfold Tr.sub
    split
    · exact sub_ind P hu hb a _ (hb h a b hp).1
    · split
      · exact sub_ind P hu hb b _ (hb h a b hp).2
      · exact hp
theorem sub_le (f : Tr → Nat) (hu : ∀ h a, f a ≤ f (.un h a)) (hb : ∀ h a b, f a ≤ f (.bin h a b) ∧ f b ≤ f (.bin h a b)) (t : Tr) (i : Nat) : f (t.sub i) ≤ f t :=
  sub_ind (fun x => f x ≤ f t) (fun h a e => Nat.le_trans (hu h a) e) (fun h a b e => ⟨Nat.le_trans (hb h a b).1 e, Nat.le_trans (hb h a b).2 e⟩) t i (Nat.le_refl _)
theorem restT_sub (t : Tr) (i : Nat) : restT (t.sub i) ≤ restT t := sub_le restT (fun h a => by simp only [restT]; omega) (fun h a b => by simp only [restT]; omega) t i
theorem extraT_sub (t : Tr) (i : Nat) : extraT (t.sub i) ≤ extraT t := sub_le extraT (fun h a => by simp only [extraT]; omega) (fun h a b => by simp only [extraT]; omega) t i
theorem stayT_sub (C : Nat) (t : Tr) (i : Nat) : stayT C (t.sub i) ≤ stayT C t := sub_le (stayT C) (fun h a => by simp only [stayT]; omega) (fun h a b => by simp only [stayT]; omega) t i
theorem fleetT_sub (C : Nat) (t : Tr) (i : Nat) : fleetT C (t.sub i) ≤ fleetT C t := sub_le (fleetT C) (fun h a => by simp only [fleetT]; omega) (fun h a b => by simp only [fleetT]; omega) t i
theorem atomsN_sub (t : Tr) (i : Nat) : atomsN (t.sub i) ≤ atomsN t := sub_le atomsN (fun h a => by simp only [atomsN]; omega) (fun h a b => by simp only [atomsN]; omega) t i
theorem backN_sub (t : Tr) (i : Nat) : backN (t.sub i) ≤ backN t := sub_le backN (fun h a => by simp only [backN]; omega) (fun h a b => by simp only [backN]; omega) t i
theorem cellsT_sub (P C : Nat) (t : Tr) (i : Nat) : cellsT P C (t.sub i) ≤ cellsT P C t := by
  unfold cellsT
  have h1 := restT_sub t i
  have h2 := extraT_sub t i
  have h3 := stayT_sub C t i
  have h4 := fleetT_sub C t i
  have h5 : (restT (t.sub i) + extraT (t.sub i)) * (3 + P) ≤ (restT t + extraT t) * (3 + P) := Nat.mul_le_mul (by omega) (Nat.le_refl _)
  omega
theorem funcsN_mono {a b : Nat} (h : a ≤ b) : funcsN a ≤ funcsN b := by
  unfold funcsN
  by_cases ha : a = 0
  · rw [if_pos ha]; exact Nat.zero_le _
  · rw [if_neg ha, if_neg (by omega)]
    have h1 : 2 ^ a ≤ 2 ^ b := Nat.pow_le_pow_right (by omega) h
    have h2 : 2 ^ 2 ^ a ≤ 2 ^ 2 ^ b := Nat.pow_le_pow_right (by omega) h1
    omega
theorem onceV_mono {n n' b b' : Nat} (h1 : n' ≤ n) (h2 : b' ≤ b) (h10 : n ≤ 10) (hb : b ≤ 2000000000000) : onceV n' b' ≤ onceV n b := by
  unfold onceV
  rw [if_neg (show ¬ 10 < n' by omega), if_neg (show ¬ 10 < n by omega)]
  by_cases h5 : 5 < n
  · rw [if_pos h5]
    by_cases h5' : 5 < n'
    · rw [if_pos h5']; exact Nat.le_refl _
    · rw [if_neg h5']
      have := funcsN_le (n := n') (by omega)
      omega
  · rw [if_neg h5, if_neg (show ¬ 5 < n' by omega)]
    have := funcsN_mono h1
    omega
/-- A formula has a head at least. -/
theorem restT_pos : ∀ t : Tr, validT t = true → t.root.kind < 18 → 1 ≤ restT t
  | .leaf h, _, hk => by
    have hk' : h.kind < 18 := hk
    simp only [restT]
    rw [if_neg (by omega)]
    exact Nat.le_refl _
  | .un h a, hv, hk => by
    have hk' : h.kind < 18 := hk
    simp only [validT, Bool.and_eq_true, beq_iff_eq] at hv
    simp only [restT]
    by_cases hm : h.kind = 16 ∨ h.kind = 17
    · rw [if_pos hm]; omega
    · have := restT_pos a hv.2 (form_kid hv.1.2 hk' hm)
      omega
  | .bin h a b, hv, hk => by
    have hk' : h.kind < 18 := hk
    have hm : ¬ (h.kind = 16 ∨ h.kind = 17) := fun e => by
      obtain ⟨_, _, e2, _⟩ := valid_match hv e
      cases e2
    simp only [validT, Bool.and_eq_true, beq_iff_eq] at hv
    have := restT_pos a hv.1.2 (form_kid hv.1.1.1.2 hk' hm)
    simp only [restT]
    omega
/-- The kinds of a tree's nodes. -/
def kindsT : Tr → List Int
  | .leaf h => [h.kind]
  | .un h a => kindsT a ++ [h.kind]
  | .bin h a b => kindsT a ++ kindsT b ++ [h.kind]
theorem kinds_flat : ∀ (t : Tr) (o : Nat), (t.flat o).map (·.kind) = kindsT t
  | .leaf _, _ => rfl
  | .un h a, o => by simp only [Tr.flat, List.map_append, kinds_flat a, kindsT, List.map_cons, List.map_nil]
  | .bin h a b, o => by simp only [Tr.flat, List.map_append, kinds_flat a, kinds_flat b, kindsT, List.map_cons, List.map_nil]
theorem any_kinds (l : List Nd) : l.any (fun n => sugarS n.kind) = (l.map (·.kind)).any sugarS := by rw [List.any_map]; rfl
theorem plain_kinds {l : List Nd} {t : Tr} (ht : treeS l = some t) : plainS l = !(kindsT t).any sugarS := by
  unfold plainS mayS
  rw [ht, any_kinds, tree_flat ht, kinds_flat]
  rfl
theorem kinds_eq : ∀ {s t : Tr}, EqT s t → kindsT s = kindsT t
  | .leaf _, .leaf _, e => by obtain ⟨k, _, _⟩ := eq_head e; simp only [kindsT, k]
  | .un h a, .un h' a', e => by
    obtain ⟨k, _, _⟩ := eq_head e.1
    simp only [kindsT, k, kinds_eq e.2]
  | .bin h a b, .bin h' a' b', e => by
    obtain ⟨k, _, _⟩ := eq_head e.1
    simp only [kindsT, k, kinds_eq e.2.1, kinds_eq e.2.2]
theorem kinds_sub (t : Tr) (i : Nat) (h : (kindsT t).any sugarS = false) : (kindsT (t.sub i)).any sugarS = false :=
  sub_ind (fun x => (kindsT x).any sugarS = false) (fun h a e => by simp only [kindsT, List.any_append, Bool.or_eq_false_iff] at e; exact e.1) (fun h a b e => by simp only [kindsT, List.any_append, Bool.or_eq_false_iff] at e; exact e.1) t i h
/-- A list that is written down out of a valid tree is a tree's again. -/
theorem flat_tree {t : Tr} (hv : validT t = true) : ∃ x, treeS (t.flat 0) = some x ∧ EqT x t := by
  obtain ⟨a', e1, e2, e3, e4, _⟩ := fold_flat t [] hv
  refine ⟨a', ?_, eq_of_flat a' t 0 (e4 0)⟩
  unfold treeS parseS
  rw [show (Tr.flat t 0) = Tr.flat t (total []) from rfl, e1]
theorem eq_kind : ∀ {s t : Tr}, EqT s t → s.root.kind = t.root.kind
  | .leaf _, .leaf _, e => (eq_head e).1
  | .un _ _, .un _ _, e => (eq_head e.1).1
  | .bin _ _ _, .bin _ _ _, e => (eq_head e.1).1
/-- A measure that two trees of one list share, on a list that is written down. -/
theorem on_flat (f : Tr → Nat) (hf : ∀ {s t : Tr}, EqT s t → f s = f t) {t : Tr} (hv : validT t = true) (hk : t.root.kind < 18) (hp : (kindsT t).any sugarS = false) : onT f (t.flat 0) = f t ∧ formL (t.flat 0) = true ∧ plainS (t.flat 0) = true := by
  obtain ⟨x, hx, he⟩ := flat_tree hv
  have h1 : formL (t.flat 0) = true := by
    unfold formL
    rw [hx]
    simp only
    rw [eq_kind he]
    simp [regS]
    omega
  have h2 : plainS (t.flat 0) = true := by rw [plain_kinds hx, kinds_eq he, hp]; rfl
  exact ⟨by rw [onT_yes (by rw [h1, h2]; rfl) hx, hf he], h1, h2⟩
theorem on_none (f : Tr → Nat) {l : List Nd} (h : formL l = false) : onT f l = 0 := onT_no (by rw [h]; rfl)
/-- The part of a plain list at a place. -/
theorem part_at {l : List Nd} {t : Tr} (ht : treeS l = some t) (hp : plainS l = true) (i : Nat) (hi : i < l.length) :
    partL l (i : Int) = (t.sub i).flat 0 ∧ ((t.sub i).flat 0).length ≤ l.length ∧ validT (t.sub i) = true ∧ (kindsT (t.sub i)).any sugarS = false ∧ formL ((t.sub i).flat 0) = decide ((t.sub i).root.kind < 18) := by
  have hlen := tree_len ht
  have hval := sub_valid t i (tree_valid ht)
  have hpk : (kindsT t).any sugarS = false := by
    have := plain_kinds ht
    rw [hp] at this
    simpa using this
  have h1 := Tr.sub_size_le t i (by omega)
  refine ⟨?_, by rw [Tr.length_flat]; omega, hval, kinds_sub t i hpk, ?_⟩
  · unfold partL
    rw [ht]
    simp only
    rw [if_pos ⟨by omega, by omega⟩, show ((i : Int)).toNat = i by omega]
  · obtain ⟨x, hx, he⟩ := flat_tree hval
    unfold formL
    rw [hx]
    simp only
    rw [eq_kind he]
    unfold regS
    by_cases h : (t.sub i).root.kind < 18
    · rw [decide_eq_true h, decide_eq_false (by omega)]; rfl
    · rw [decide_eq_false h, decide_eq_true (by omega)]; rfl
/-- More room is no less. -/
theorem memoN_mono {C C' : Nat} (h : C ≤ C') (a : Tr) : memoN C a ≤ memoN C' a := Nat.mul_le_mul h (Nat.le_refl _)
theorem stayT_mono {C C' : Nat} (h : C ≤ C') : ∀ t : Tr, stayT C t ≤ stayT C' t
  | .leaf _ => Nat.le_refl _
  | .un nd a => by
    have h1 := stayT_mono h a
    have h2 := memoN_mono h a
    simp only [stayT]
    split <;> omega
  | .bin _ a b => by
    have h1 := stayT_mono h a
    have h2 := stayT_mono h b
    simp only [stayT]
    omega
theorem fleetT_mono {C C' : Nat} (h : C ≤ C') : ∀ t : Tr, fleetT C t ≤ fleetT C' t
  | .leaf _ => Nat.le_refl _
  | .un nd a => by
    have h1 := fleetT_mono h a
    have h2 := memoN_mono h a
    have h3 := stayT_mono h a
    simp only [fleetT]
    split <;> omega
  | .bin _ a b => by
    have h1 := fleetT_mono h a
    have h2 := fleetT_mono h b
    simp only [fleetT]
    omega
theorem cellsT_mono {P P' C C' : Nat} (hP : P ≤ P') (hC : C ≤ C') (t : Tr) : cellsT P C t ≤ cellsT P' C' t := by
  have h1 := stayT_mono hC t
  have h2 := fleetT_mono hC t
  have h3 : (restT t + extraT t) * (3 + P) ≤ (restT t + extraT t) * (3 + P') := Nat.mul_le_mul (Nat.le_refl _) (by omega)
  unfold cellsT
  omega
theorem cellsT_more {P P' C : Nat} (hP : P ≤ P') (t : Tr) : cellsT P' C t = cellsT P C t + (restT t + extraT t) * (P' - P) := by
  have h3 : (restT t + extraT t) * (3 + P') = (restT t + extraT t) * (3 + P) + (restT t + extraT t) * (P' - P) := by rw [← Nat.mul_add]; congr 1; omega
  unfold cellsT
  omega
theorem cellsT_heads (P C : Nat) (t : Tr) : 3 * (restT t + extraT t) ≤ cellsT P C t := by
  have h3 : (restT t + extraT t) * 3 ≤ (restT t + extraT t) * (3 + P) := Nat.mul_le_mul (Nat.le_refl _) (by omega)
  unfold cellsT
  omega
end Go.Proofs.Ytdohbbjinbofbaa
