/- What is below is no more than what is above: plain lemmas. -/
import Derived.Test.YtdohbbjinbofbaaBoundS
import Derived.Test.YtdohbbjinbofbaaBoundZ
set_option linter.unusedVariables false
set_option linter.unusedSimpArgs false
/-! What is below is no more than what is above: plain lemmas. -/
namespace Go.Proofs.Ytdohbbjinbofbaa
theorem eq_head {h h' : Nd} (e : ({ h with kids := [] } : Nd) = { h' with kids := [] }) : h.kind = h'.kind ∧ h.lo = h'.lo ∧ h.hi = h'.hi := by
  simp only [Nd.mk.injEq] at e
  exact ⟨e.1, e.2.2.1, e.2.2.2.1⟩
theorem wideN_eq {h h' : Nd} (e : ({ h with kids := [] } : Nd) = { h' with kids := [] }) : wideN h = wideN h' := by
  obtain ⟨_, h1, h2⟩ := eq_head e
  unfold wideN
  rw [h1, h2]
theorem stepsN_eq : ∀ {s t : Tr}, EqT s t → stepsN s = stepsN t
  | .leaf _, .leaf _, _ => rfl
  | .un h a, .un h' a', e => by
    obtain ⟨k, _, _⟩ := eq_head e.1
    simp only [stepsN, k, stepsN_eq e.2]
  | .bin h a b, .bin h' a' b', e => by simp only [stepsN, stepsN_eq e.2.1, stepsN_eq e.2.2]
theorem testsT_eq : ∀ {s t : Tr}, EqT s t → testsT s = testsT t
  | .leaf _, .leaf _, _ => rfl
  | .un h a, .un h' a', e => by
    obtain ⟨k, _, _⟩ := eq_head e.1
    simp only [testsT, k, testsT_eq e.2]
  | .bin h a b, .bin h' a' b', e => by simp only [testsT, testsT_eq e.2.1, testsT_eq e.2.2]
theorem stW_eq {s t : Tr} (e : EqT s t) : stW s = stW t := by unfold stW; rw [stepsN_eq e]
theorem memoN_eq {C : Nat} {s t : Tr} (e : EqT s t) : memoN C s = memoN C t := by unfold memoN; rw [stW_eq e, testsT_eq e]
theorem restT_eq : ∀ {s t : Tr}, EqT s t → restT s = restT t
  | .leaf _, .leaf _, e => by obtain ⟨k, _, _⟩ := eq_head e; simp only [restT, k]
  | .un h a, .un h' a', e => by
    obtain ⟨k, _, _⟩ := eq_head e.1
    simp only [restT, k, restT_eq e.2]
  | .bin h a b, .bin h' a' b', e => by simp only [restT, restT_eq e.2.1, restT_eq e.2.2]
theorem extraT_eq : ∀ {s t : Tr}, EqT s t → extraT s = extraT t
  | .leaf _, .leaf _, _ => rfl
  | .un h a, .un h' a', e => by
    obtain ⟨k, _, _⟩ := eq_head e.1
    simp only [extraT, k, extraT_eq e.2, restT_eq e.2]
  | .bin h a b, .bin h' a' b', e => by simp only [extraT, extraT_eq e.2.1, extraT_eq e.2.2]
theorem stayT_eq (C : Nat) : ∀ {s t : Tr}, EqT s t → stayT C s = stayT C t
  | .leaf _, .leaf _, _ => rfl
  | .un h a, .un h' a', e => by
    obtain ⟨k, _, _⟩ := eq_head e.1
    simp only [stayT, k, stayT_eq C e.2, memoN_eq e.2, stW_eq e.2, wideN_eq e.1]
  | .bin h a b, .bin h' a' b', e => by simp only [stayT, stayT_eq C e.2.1, stayT_eq C e.2.2]
theorem fleetT_eq (C : Nat) : ∀ {s t : Tr}, EqT s t → fleetT C s = fleetT C t
  | .leaf _, .leaf _, _ => rfl
  | .un h a, .un h' a', e => by
    obtain ⟨k, _, _⟩ := eq_head e.1
    simp only [fleetT, k, fleetT_eq C e.2, memoN_eq e.2, stW_eq e.2, stayT_eq C e.2]
  | .bin h a b, .bin h' a' b', e => by simp only [fleetT, fleetT_eq C e.2.1, fleetT_eq C e.2.2]
theorem atomsN_eq : ∀ {s t : Tr}, EqT s t → atomsN s = atomsN t
  | .leaf _, .leaf _, _ => rfl
  | .un h a, .un h' a', e => by
    obtain ⟨k, _, _⟩ := eq_head e.1
    simp only [atomsN, k, atomsN_eq e.2, stepsN_eq e.2, wideN_eq e.1]
  | .bin h a b, .bin h' a' b', e => by simp only [atomsN, atomsN_eq e.2.1, atomsN_eq e.2.2]
theorem backN_eq : ∀ {s t : Tr}, EqT s t → backN s = backN t
  | .leaf _, .leaf _, _ => rfl
  | .un h a, .un h' a', e => by
    obtain ⟨k, _, _⟩ := eq_head e.1
    simp only [backN, k, backN_eq e.2, stepsN_eq e.2, wideN_eq e.1]
  | .bin h a b, .bin h' a' b', e => by simp only [backN, backN_eq e.2.1, backN_eq e.2.2]
theorem cellsT_eq {P C : Nat} {s t : Tr} (e : EqT s t) : cellsT P C s = cellsT P C t := by unfold cellsT; rw [restT_eq e, extraT_eq e, stayT_eq C e, fleetT_eq C e]
theorem onceT_eq {s t : Tr} (e : EqT s t) : onceT s = onceT t := by unfold onceT; rw [atomsN_eq e, backN_eq e]
/-- What goes down from a node to its kids holds at every place. -/
theorem sub_ind (P : Tr → Prop) (hu : ∀ h a, P (.un h a) → P a) (hb : ∀ h a b, P (.bin h a b) → P a ∧ P b) : ∀ (t : Tr) (i : Nat), P t → P (t.sub i)
  | .leaf _, _, h => h
  | .un h a, i, hp => by
    unfold Tr.sub
    split
    · exact sub_ind P hu hb a _ (hu h a hp)
    · exact hp
  | .bin h a b, i, hp => by
    unfold Tr.sub
    split
    · exact sub_ind P hu hb a _ (hb h a b hp).1
    · split
      · exact sub_ind P hu hb b _ (hb h a b hp).2
      · exact hp
theorem sub_le (f : Tr → Nat) (hu : ∀ h a, f a ≤ f (.un h a)) (hb : ∀ h a b, f a ≤ f (.bin h a b) ∧ f b ≤ f (.bin h a b)) (t : Tr) (i : Nat) : f (t.sub i) ≤ f t :=
  sub_ind (fun x => f x ≤ f t) (fun h a e => Nat.le_trans (hu h a) e) (fun h a b e => ⟨Nat.le_trans (hb h a b).1 e, Nat.le_trans (hb h a b).2 e⟩) t i (Nat.le_refl _)
theorem restT_sub (t : Tr) (i : Nat) : restT (t.sub i) ≤ restT t := sub_le restT (fun h a => by simp only [restT]; omega) (fun h a b => by simp only [restT]; omega) t i
theorem extraT_sub (t : Tr) (i : Nat) : extraT (t.sub i) ≤ extraT t := sub_le extraT (fun h a => by simp only [extraT]; omega) (fun h a b => by simp only [extraT]; omega) t i
theorem stayT_sub (C : Nat) (t : Tr) (i : Nat) : stayT C (t.sub i) ≤ stayT C t := sub_le (stayT C) (fun h a => by simp only [stayT]; omega) (fun h a b => by simp only [stayT]; omega) t i
theorem fleetT_sub (C : Nat) (t : Tr) (i : Nat) : fleetT C (t.sub i) ≤ fleetT C t := sub_le (fleetT C) (fun h a => by simp only [fleetT]; omega) (fun h a b => by simp only [fleetT]; omega) t i
theorem atomsN_sub (t : Tr) (i : Nat) : atomsN (t.sub i) ≤ atomsN t := sub_le atomsN (fun h a => by simp only [atomsN]; omega) (fun h a b => by simp only [atomsN]; omega) t i
theorem backN_sub (t : Tr) (i : Nat) : backN (t.sub i) ≤ backN t := sub_le backN (fun h a => by simp only [backN]; omega) (fun h a b => by simp only [backN]; omega) t i
theorem cellsT_sub (P C : Nat) (t : Tr) (i : Nat) : cellsT P C (t.sub i) ≤ cellsT P C t := by
  unfold cellsT
  have h1 := restT_sub t i
  have h2 := extraT_sub t i
  have h3 := stayT_sub C t i
  have h4 := fleetT_sub C t i
  have h5 : (restT (t.sub i) + extraT (t.sub i)) * (3 + P) ≤ (restT t + extraT t) * (3 + P) := Nat.mul_le_mul (by omega) (Nat.le_refl _)
  omega
theorem funcsN_mono {a b : Nat} (h : a ≤ b) : funcsN a ≤ funcsN b := by
  unfold funcsN
  by_cases ha : a = 0
  · rw [if_pos ha]; exact Nat.zero_le _
  · rw [if_neg ha, if_neg (by omega)]
    have h1 : 2 ^ a ≤ 2 ^ b := Nat.pow_le_pow_right (by omega) h
    have h2 : 2 ^ 2 ^ a ≤ 2 ^ 2 ^ b := Nat.pow_le_pow_right (by omega) h1
    omega
theorem onceV_mono {n n' b b' : Nat} (h1 : n' ≤ n) (h2 : b' ≤ b) (h10 : n ≤ 10) (hb : b ≤ 2000000000000) : onceV n' b' ≤ onceV n b := by
  unfold onceV
  rw [if_neg (show ¬ 10 < n' by omega), if_neg (show ¬ 10 < n by omega)]
  by_cases h5 : 5 < n
  · rw [if_pos h5]
    by_cases h5' : 5 < n'
    · rw [if_pos h5']; exact Nat.le_refl _
    · rw [if_neg h5']
      have := funcsN_le (n := n') (by omega)
      omega
  · rw [if_neg h5, if_neg (show ¬ 5 < n' by omega)]
    have := funcsN_mono h1
    omega
/-- A formula has a head at least. -/
theorem restT_pos : ∀ t : Tr, validT t = true → t.root.kind < 18 → 1 ≤ restT t
  | .leaf h, _, hk => by
    have hk' : h.kind < 18 := hk
    simp only [restT]
    rw [if_neg (by omega)]
    exact Nat.le_refl _
  | .un h a, hv, hk => by
    have hk' : h.kind < 18 := hk
    simp only [validT, Bool.and_eq_true, beq_iff_eq] at hv
    simp only [restT]
    by_cases hm : h.kind = 16 ∨ h.kind = 17
    · rw [if_pos hm]; omega
    · have := restT_pos a hv.2 (form_kid hv.1.2 hk' hm)
      omega
  | .bin h a b, hv, hk => by
    have hk' : h.kind < 18 := hk
    have hm : ¬ (h.kind = 16 ∨ h.kind = 17) := fun e => by
      obtain ⟨_, _, e2, _⟩ := valid_match hv e
      cases e2
    simp only [validT, Bool.and_eq_true, beq_iff_eq] at hv
    have := restT_pos a hv.1.2 (form_kid hv.1.1.1.2 hk' hm)
    simp only [restT]
    omega
/-- The kinds of a tree's nodes. -/
def kindsT : Tr → List Int
  | .leaf h => [h.kind]
  | .un h a => kindsT a ++ [h.kind]
  | .bin h a b => kindsT a ++ kindsT b ++ [h.kind]
theorem kinds_flat : ∀ (t : Tr) (o : Nat), (t.flat o).map (·.kind) = kindsT t
  | .leaf _, _ => rfl
  | .un h a, o => by simp only [Tr.flat, List.map_append, kinds_flat a, kindsT, List.map_cons, List.map_nil]
  | .bin h a b, o => by simp only [Tr.flat, List.map_append, kinds_flat a, kinds_flat b, kindsT, List.map_cons, List.map_nil]
theorem any_kinds (l : List Nd) : l.any (fun n => sugarS n.kind) = (l.map (·.kind)).any sugarS := by rw [List.any_map]; rfl
theorem plain_kinds {l : List Nd} {t : Tr} (ht : treeS l = some t) : plainS l = !(kindsT t).any sugarS := by
  unfold plainS mayS
  rw [ht, any_kinds, tree_flat ht, kinds_flat]
  rfl
theorem kinds_eq : ∀ {s t : Tr}, EqT s t → kindsT s = kindsT t
  | .leaf _, .leaf _, e => by obtain ⟨k, _, _⟩ := eq_head e; simp only [kindsT, k]
  | .un h a, .un h' a', e => by
    obtain ⟨k, _, _⟩ := eq_head e.1
    simp only [kindsT, k, kinds_eq e.2]
  | .bin h a b, .bin h' a' b', e => by
    obtain ⟨k, _, _⟩ := eq_head e.1
    simp only [kindsT, k, kinds_eq e.2.1, kinds_eq e.2.2]
theorem kinds_sub (t : Tr) (i : Nat) (h : (kindsT t).any sugarS = false) : (kindsT (t.sub i)).any sugarS = false :=
  sub_ind (fun x => (kindsT x).any sugarS = false) (fun h a e => by simp only [kindsT, List.any_append, Bool.or_eq_false_iff] at e; exact e.1) (fun h a b e => by simp only [kindsT, List.any_append, Bool.or_eq_false_iff] at e; exact e.1) t i h
/-- A list that is written down out of a valid tree is a tree's again. -/
theorem flat_tree {t : Tr} (hv : validT t = true) : ∃ x, treeS (t.flat 0) = some x ∧ EqT x t := by
  obtain ⟨a', e1, e2, e3, e4, _⟩ := fold_flat t [] hv
  refine ⟨a', ?_, eq_of_flat a' t 0 (e4 0)⟩
  unfold treeS parseS
  rw [show (Tr.flat t 0) = Tr.flat t (total []) from rfl, e1]
theorem eq_kind : ∀ {s t : Tr}, EqT s t → s.root.kind = t.root.kind
  | .leaf _, .leaf _, e => (eq_head e).1
  | .un _ _, .un _ _, e => (eq_head e.1).1
  | .bin _ _ _, .bin _ _ _, e => (eq_head e.1).1
/-- A measure that two trees of one list share, on a list that is written down. -/
theorem on_flat (f : Tr → Nat) (hf : ∀ {s t : Tr}, EqT s t → f s = f t) {t : Tr} (hv : validT t = true) (hk : t.root.kind < 18) (hp : (kindsT t).any sugarS = false) : onT f (t.flat 0) = f t ∧ formL (t.flat 0) = true ∧ plainS (t.flat 0) = true := by
  obtain ⟨x, hx, he⟩ := flat_tree hv
  have h1 : formL (t.flat 0) = true := by
    unfold formL
    rw [hx]
    simp only
    rw [eq_kind he]
    simp [regS]
    omega
  have h2 : plainS (t.flat 0) = true := by rw [plain_kinds hx, kinds_eq he, hp]; rfl
  exact ⟨by rw [onT_yes (by rw [h1, h2]; rfl) hx, hf he], h1, h2⟩
theorem on_none (f : Tr → Nat) {l : List Nd} (h : formL l = false) : onT f l = 0 := onT_no (by rw [h]; rfl)
/-- The part of a plain list at a place. -/
theorem part_at {l : List Nd} {t : Tr} (ht : treeS l = some t) (hp : plainS l = true) (i : Nat) (hi : i < l.length) :
    partL l (i : Int) = (t.sub i).flat 0 ∧ ((t.sub i).flat 0).length ≤ l.length ∧ validT (t.sub i) = true ∧ (kindsT (t.sub i)).any sugarS = false ∧ formL ((t.sub i).flat 0) = decide ((t.sub i).root.kind < 18) := by
  have hlen := tree_len ht
  have hval := sub_valid t i (tree_valid ht)
  have hpk : (kindsT t).any sugarS = false := by
    have := plain_kinds ht
    rw [hp] at this
    simpa using this
  have h1 := Tr.sub_size_le t i (by omega)
  refine ⟨?_, by rw [Tr.length_flat]; omega, hval, kinds_sub t i hpk, ?_⟩
  · unfold partL
    rw [ht]
    simp only
    rw [if_pos ⟨by omega, by omega⟩, show ((i : Int)).toNat = i by omega]
  · obtain ⟨x, hx, he⟩ := flat_tree hval
    unfold formL
    rw [hx]
    simp only
    rw [eq_kind he]
    unfold regS
    by_cases h : (t.sub i).root.kind < 18
    · rw [decide_eq_true h, decide_eq_false (by omega)]; rfl
    · rw [decide_eq_false h, decide_eq_true (by omega)]; rfl
/-- More room is no less. -/
theorem memoN_mono {C C' : Nat} (h : C ≤ C') (a : Tr) : memoN C a ≤ memoN C' a := Nat.mul_le_mul h (Nat.le_refl _)
theorem stayT_mono {C C' : Nat} (h : C ≤ C') : ∀ t : Tr, stayT C t ≤ stayT C' t
  | .leaf _ => Nat.le_refl _
  | .un nd a => by
    have h1 := stayT_mono h a
    have h2 := memoN_mono h a
    simp only [stayT]
    split <;> omega
  | .bin _ a b => by
    have h1 := stayT_mono h a
    have h2 := stayT_mono h b
    simp only [stayT]
    omega
theorem fleetT_mono {C C' : Nat} (h : C ≤ C') : ∀ t : Tr, fleetT C t ≤ fleetT C' t
  | .leaf _ => Nat.le_refl _
  | .un nd a => by
    have h1 := fleetT_mono h a
    have h2 := memoN_mono h a
    have h3 := stayT_mono h a
    simp only [fleetT]
    split <;> omega
  | .bin _ a b => by
    have h1 := fleetT_mono h a
    have h2 := fleetT_mono h b
    simp only [fleetT]
    omega
theorem cellsT_mono {P P' C C' : Nat} (hP : P ≤ P') (hC : C ≤ C') (t : Tr) : cellsT P C t ≤ cellsT P' C' t := by
  have h1 := stayT_mono hC t
  have h2 := fleetT_mono hC t
  have h3 : (restT t + extraT t) * (3 + P) ≤ (restT t + extraT t) * (3 + P') := Nat.mul_le_mul (Nat.le_refl _) (by omega)
  unfold cellsT
  omega
theorem cellsT_more {P P' C : Nat} (hP : P ≤ P') (t : Tr) : cellsT P' C t = cellsT P C t + (restT t + extraT t) * (P' - P) := by
  have h3 : (restT t + extraT t) * (3 + P') = (restT t + extraT t) * (3 + P) + (restT t + extraT t) * (P' - P) := by rw [← Nat.mul_add]; congr 1; omega
  unfold cellsT
  omega
theorem cellsT_heads (P C : Nat) (t : Tr) : 3 * (restT t + extraT t) ≤ cellsT P C t := by
  have h3 : (restT t + extraT t) * 3 ≤ (restT t + extraT t) * (3 + P) := Nat.mul_le_mul (Nat.le_refl _) (by omega)
  unfold cellsT
  omega
end Go.Proofs.Ytdohbbjinbofbaa
/-! The walk of the law BoundGrows. -/
namespace Go.Proofs.Ytdohbbjinbofbaa
open Go.RowKit
set_option maxRecDepth 100000 in
theorem clip_w (x : Int) (P : Nat) (hP : min (max x 0) 64 = (P : Int)) (w : World) : Calls Try.prog 23 #[.int .i64 x] w fun e w' => e = .returned (.int .i64 (P : Nat)) ∧ Below w.heap.size w w' := by
  go_enter Try.func23, Try.ntmps23
  go_wp2_with fail
  go_ret
  exact ⟨rfl, Below.refl _ _⟩
set_option maxRecDepth 100000 in
set_option maxHeartbeats 4000000 in
theorem boundGrows_c {F : Fz} {w : World} (hF : Sat F w) (ns : List Nat) (hns : ∀ k ∈ ns, k < 65536) (B : Option Addr) (m d : Nat) (hr : Rd F 1 B m (ns.map encW)) (props room more wide : Int) :
    Calls Try.prog 6 #[.slice B m d, .int .i64 props, .int .i64 room, .int .i64 more, .int .i64 wide] w fun e w' => e = .returned (.bool true) ∧ Below w.heap.size w w' := by
  have HMk := Lib.hid (make_w hF ns hns B m d hr true (makeT true ns) rfl)
  have hsz := (make_size true ns).1
  rw [← Tr.length_flat (makeT true ns) 0] at hsz
  obtain ⟨hf, _, hp⟩ := ok_form (make_ok true ns hns).1
  have hp := hp rfl
  obtain ⟨l, hl⟩ : ∃ l, (makeT true ns).flat 0 = l := ⟨_, rfl⟩
  rw [hl] at HMk hsz hf hp
  have hb : (formL l && plainS l) = true := by rw [hf, hp]; rfl
  obtain ⟨_, _, t, ht⟩ := plain_tree hb
  clear hl hr hns
  have hn : l.length ≤ 1000 := by omega
  obtain ⟨P0, hP0⟩ : ∃ P0 : Nat, min (max props 0) 64 = (P0 : Int) := ⟨(min (max props 0) 64).toNat, by omega⟩
  obtain ⟨C0, hC0⟩ : ∃ C0 : Nat, min (max room 1) 4096 = (C0 : Int) := ⟨(min (max room 1) 4096).toNat, by omega⟩
  obtain ⟨p', hp'⟩ : ∃ p', max props more = p' := ⟨_, rfl⟩
  obtain ⟨r', hr'⟩ : ∃ r', max room wide = r' := ⟨_, rfl⟩
  obtain ⟨P1, hP1⟩ : ∃ P1 : Nat, min (max p' 0) 64 = (P1 : Int) := ⟨(min (max p' 0) 64).toNat, by omega⟩
  obtain ⟨C1, hC1⟩ : ∃ C1 : Nat, min (max r' 1) 4096 = (C1 : Int) := ⟨(min (max r' 1) 4096).toNat, by omega⟩
  have hPP : P0 ≤ P1 := by omega
  have hCC : C0 ≤ C1 := by omega
  have h1 := cellsT_mono hPP hCC t
  have h2 := cellsT_more (C := C0) hPP t
  have hb0 := cellsT_le (P := P0) (C := C0) (by omega) (by omega) (tree_valid ht) (by rw [← tree_len ht]; omega)
  have hb1 := cellsT_le (P := P1) (C := C1) (by omega) (by omega) (tree_valid ht) (by rw [← tree_len ht]; omega)
  have hb2 := cellsT_le (P := P1) (C := C0) (by omega) (by omega) (tree_valid ht) (by rw [← tree_len ht]; omega)
  have e0 := onT_yes (f := cellsT P0 C0) hb ht
  have e1 := onT_yes (f := cellsT P1 C1) hb ht
  have e2 := onT_yes (f := cellsT P1 C0) hb ht
  have e3 := onT_yes (f := restT) hb ht
  have e4 := onT_yes (f := extraT) hb ht
  have hC := fun (X : World) (F1 : Fz) (h : Sat F1 X) (A : Option Addr) (c : Nat) (hc : l.length ≤ c) (hN : NodesF F1 A l.length l) => bcells_w h l hn A l.length c hc hN
  have hHd := fun (X : World) (F1 : Fz) (h : Sat F1 X) (A : Option Addr) (c : Nat) (hc : l.length ≤ c) (hN : NodesF F1 A l.length l) => bheads_w h l hn A l.length c hc hN (restT t) (extraT t) e3 e4
  have hC0' := fun X F1 h A c hc hN => hC X F1 h A c hc hN props room P0 C0 hP0 hC0 _ e0
  have hC1' := fun X F1 h A c hc hN => hC X F1 h A c hc hN p' r' P1 C1 hP1 hC1 _ e1
  have hC2' := fun X F1 h A c hc hN => hC X F1 h A c hc hN p' room P1 C0 hP1 hC0 _ e2
  have hC3' := fun X F1 h A c hc hN => hC X F1 h A c hc hN (P0 : Int) (C0 : Int) P0 C0 (by omega) (by omega) _ e0
  have hK0 := Lib.hid (fun X => clip_w props P0 hP0 X)
  have hK1 := Lib.hid (fun X => clip_w p' P1 hP1 X)
  generalize cellsT P0 C0 t = V0 at *
  generalize cellsT P1 C1 t = V1 at *
  generalize cellsT P1 C0 t = V2 at *
  obtain ⟨H, hH⟩ : ∃ H, restT t + extraT t = H := ⟨_, rfl⟩
  rw [hH] at h2 hHd
  obtain ⟨Pd, hPd⟩ : ∃ Pd, P1 - P0 = Pd := ⟨_, rfl⟩
  rw [hPd] at h2
  obtain ⟨D, hD⟩ : ∃ D, H * Pd = D := ⟨_, rfl⟩
  rw [hD] at h2
  have hDz : (H : Int) * (Pd : Int) = (D : Int) := by rw [← hD, Int.natCast_mul]
  have wA : IntKind.u64.wrap ((V2 : Int) - (V0 : Int)) = (D : Int) := by rw [show (V2 : Int) - (V0 : Int) = (D : Int) by omega]; exact wrap_u (by omega) (by omega)
  have wB : IntKind.i64.wrap ((P1 : Int) - (P0 : Int)) = (Pd : Int) := by rw [show (P1 : Int) - (P0 : Int) = (Pd : Int) by omega]; exact wrap_i (by omega) (by omega)
  have wC : IntKind.i64.wrap ((H : Int) * (Pd : Int)) = (D : Int) := by rw [hDz]; exact wrap_i (by omega) (by omega)
  have wD : IntKind.u64.wrap (D : Int) = (D : Int) := wrap_u (by omega) (by omega)
  have hge : (V0 : Int) ≤ (V1 : Int) := by omega
  have HC0 := Lib.hid hC0'
  have HC1 := Lib.hid hC1'
  have HC2 := Lib.hid hC2'
  have HC3 := Lib.hid hC3'
  have HHd := Lib.hid hHd
  have hn5 : l.length ≤ 1000 := hn
  clear hC hC0' hC1' hC2' hC3' hHd e0 e1 e2 e3 e4 hb0 hb1 hb2 hPP hCC h1 h2 hP0 hP1 hC1 hf hp hb ht hH hPd hD hDz hsz
  go_enter Try.func6, Try.ntmps6
  go_wp2_with fail
  go_at_call 11
  refine HMk.out.mono ?_
  rintro e W ⟨A, c, F1, rfl, hc, hN, hbW, hF1, _⟩
  have HN := Lib.hid hN
  have HC := Lib.hid hc
  clear hN
  go_wp2_with fail
  go_at_call 21
  refine (HC0.out _ F1 hF1 A c HC.out HN.out).mono ?_
  rintro e w1 ⟨rfl, hw1, _⟩
  have hF2 := hF1.below hw1
  go_wp2_with fail
  go_at_call 21
  refine (HC1.out _ F1 hF2 A c HC.out HN.out).mono ?_
  rintro e w2 ⟨rfl, hw2, _⟩
  have hF3 := hF2.below hw2
  go_wp2_with fail
  go_at_call 21
  refine (HC2.out _ F1 hF3 A c HC.out HN.out).mono ?_
  rintro e w3 ⟨rfl, hw3, _⟩
  have hF4 := hF3.below hw3
  go_wp2_with fail
  go_at_call 20
  refine (HHd.out _ F1 hF4 A c HC.out HN.out).mono ?_
  rintro e w4 ⟨rfl, hw4, _⟩
  have hF5 := hF4.below hw4
  go_wp2_with fail
  go_at_call 23
  refine (hK1.out _).mono ?_
  rintro e w5 ⟨rfl, hw5⟩
  have hF6 := hF5.below hw5
  go_wp2_with fail
  go_at_call 23
  refine (hK0.out _).mono ?_
  rintro e w6 ⟨rfl, hw6⟩
  have hF7 := hF6.below hw6
  go_wp2_with fail
  go_at_call 23
  refine (hK0.out _).mono ?_
  rintro e w7 ⟨rfl, hw7⟩
  have hF8 := hF7.below hw7
  go_wp2_with fail
  go_at_call 21
  refine (HC3.out _ F1 hF8 A c HC.out HN.out).mono ?_
  rintro e w8 ⟨rfl, hw8, _⟩
  go_wp2_with fail
  go_at_call 17
  refine (awake26_w _).mono ?_
  rintro e w9 ⟨rfl, hw9⟩
  go_wp2_with fail
  go_ret
  exact ⟨by simp, bthen (bthen (bthen (bthen (bthen (bthen (bthen (bthen (bthen hbW hw1) hw2) hw3) hw4) hw5) hw6) hw7) hw8) hw9⟩
end Go.Proofs.Ytdohbbjinbofbaa
