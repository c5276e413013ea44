/- The past is the future told backwards: plain. -/
import Derived.Test.YtdbbooibkiicnaaSatM
import Derived.Test.YtdbbooibkiicnaaTurnS
import Derived.Test.YtdbbooibkiicnaaSatCut
set_option linter.unusedVariables false
set_option linter.unusedSimpArgs false
/-! The past is the future told backwards: plain. -/
namespace Go.Proofs.Ytdbbooibkiicnaa
def trnK (k : Int) : Int := if k = 8 ∨ k = 14 ∨ k = 16 then k + 1 else if k = 9 ∨ k = 15 ∨ k = 17 then k - 1 else if k = 10 ∨ k = 11 then k + 2 else if k = 12 ∨ k = 13 then k - 2 else k
def trnN (n : Nd) : Nd := { n with kind := trnK n.kind }
/-- A formula of time told backwards. -/
def trnT : Tr → Tr
  | .leaf h => .leaf (trnN h)
  | .un h a => .un (trnN h) (trnT a)
  | .bin h a b => if h.kind = 21 then .bin (trnN h) (trnT b) (trnT a) else .bin (trnN h) (trnT a) (trnT b)
theorem trn_iff (k m : Int) (hm : m < 8 ∨ 17 < m) : trnK k = m ↔ k = m := by
  unfold trnK
  (repeat' split) <;> omega
theorem trn_facts (k : Int) : timedS (trnK k) = timedS k ∧ arityS (trnK k) = arityS k ∧ wantsS (trnK k) = wantsS k ∧ regS (trnK k) = regS k ∧ (trnK k = 3 ↔ k = 3) := by
  by_cases h : 8 ≤ k ∧ k ≤ 17
  · rcases (show k = 8 ∨ k = 9 ∨ k = 10 ∨ k = 11 ∨ k = 12 ∨ k = 13 ∨ k = 14 ∨ k = 15 ∨ k = 16 ∨ k = 17 by omega) with rfl | rfl | rfl | rfl | rfl | rfl | rfl | rfl | rfl | rfl <;> decide
  · have : trnK k = k := by unfold trnK; (repeat' split) <;> omega
    rw [this]
    exact ⟨rfl, rfl, rfl, rfl, Iff.rfl⟩
theorem trn_fields (n : Nd) : fieldsS (trnN n) = fieldsS n := by
  obtain ⟨h1, h2, _, _, h5⟩ := trn_facts n.kind
  unfold fieldsS trnN
  simp only [h1, h2, h5]
theorem trn_root (t : Tr) : (trnT t).root = trnN t.root := by
  cases t with
  | leaf h => rfl
  | un h a => rfl
  | bin h a b => unfold trnT; split <;> rfl
theorem trn_valid : ∀ t : Tr, validT t = true → validT (trnT t) = true
  | .leaf h, hv => by
    unfold validT at hv
    unfold trnT validT
    exact (trn_fields { h with kids := [] }).trans hv
  | .un h a, hv => by
    simp only [validT, Bool.and_eq_true, beq_iff_eq] at hv
    obtain ⟨⟨h1, h2⟩, h3⟩ := hv
    simp only [trnT, validT, Bool.and_eq_true, beq_iff_eq]
    refine ⟨⟨(trn_fields { h with kids := [0] }).trans h1, ?_⟩, trn_valid a h3⟩
    rw [trn_root]
    exact ((trn_facts a.root.kind).2.2.2.1).trans (h2.trans (trn_facts h.kind).2.2.1.symm)
  | .bin h a b, hv => by
    simp only [validT, Bool.and_eq_true, beq_iff_eq] at hv
    obtain ⟨⟨⟨⟨h1, h2⟩, h3⟩, h4⟩, h5⟩ := hv
    have ka : regS (trnT a).root.kind = wantsS (trnN h).kind := by
      rw [trn_root]
      exact ((trn_facts a.root.kind).2.2.2.1).trans (h2.trans (trn_facts h.kind).2.2.1.symm)
    have kb : regS (trnT b).root.kind = wantsS (trnN h).kind := by
      rw [trn_root]
      exact ((trn_facts b.root.kind).2.2.2.1).trans (h3.trans (trn_facts h.kind).2.2.1.symm)
    have kf : fieldsS { trnN h with kids := [0, 0] } = true := (trn_fields { h with kids := [0, 0] }).trans h1
    unfold trnT
    split
    · simp only [validT, Bool.and_eq_true, beq_iff_eq]
      exact ⟨⟨⟨⟨kf, kb⟩, ka⟩, trn_valid b h5⟩, trn_valid a h4⟩
    · simp only [validT, Bool.and_eq_true, beq_iff_eq]
      exact ⟨⟨⟨⟨kf, ka⟩, kb⟩, trn_valid a h4⟩, trn_valid b h5⟩
theorem trn_size : ∀ t : Tr, (trnT t).size = t.size
  | .leaf _ => rfl
  | .un h a => by simp [trnT, Tr.size, trn_size a]
  | .bin h a b => by
    unfold trnT
    split <;> simp [Tr.size, trn_size a, trn_size b] <;> omega
theorem trn_tests : ∀ t : Tr, testsT (trnT t) = testsT t
  | .leaf _ => rfl
  | .un h a => by
    unfold trnT testsT
    simp only [trnN, trn_iff h.kind 19 (by omega), trn_tests a]
  | .bin h a b => by
    unfold trnT
    split
    · simp only [testsT, trn_tests a, trn_tests b]; omega
    · simp only [testsT, trn_tests a, trn_tests b]
theorem trn_reach (n : Nat) (v : Nat → Nat → Bool) : ∀ (t : Tr) (k : Nat), reachT n v (trnT t) k = reachT n v (turnT t) k
  | .leaf _, _ => rfl
  | .un h a, k => by
    by_cases h19 : h.kind = 19
    · simp only [trnT, turnT, h19, if_true, reachT, trnN, trn_iff h.kind 19 (by omega)]
      rfl
    · simp only [trnT, turnT, h19, if_false, reachT, trnN, trn_iff h.kind 19 (by omega), trn_reach n v a]
  | .bin h a b, k => by
    have hb : testsT (turnT b) = testsT b := tests_turn b
    have ha : testsT (turnT a) = testsT a := tests_turn a
    by_cases h21 : h.kind = 21
    · simp only [trnT, turnT, h21, if_true, reachT, trnN, trn_iff h.kind 20 (by omega), trn_reach n v a, trn_reach n v b, trn_tests, ha, hb]
      rfl
    · simp only [trnT, turnT, h21, if_false, reachT, trnN, trn_iff h.kind 20 (by omega), trn_reach n v a, trn_reach n v b, trn_tests, ha, hb]
theorem someU_back (is on : Nat → Bool) {n i : Nat} (hi : i < n) : someU is on (n - (n - 1 - i)) (n - 1 - i) = someP (fun j => is (n - 1 - j)) (fun j => on (n - 1 - j)) i := by
  rw [Bool.eq_iff_iff, someU_iff, someP_iff]
  constructor
  · rintro ⟨j, h1, h2, h3, h4⟩
    refine ⟨n - 1 - j, by omega, by rw [show n - 1 - (n - 1 - j) = j by omega]; exact h3, fun k h5 h6 => h4 _ (by omega) (by omega)⟩
  · rintro ⟨j, h1, h2, h3⟩
    refine ⟨n - 1 - j, by omega, by omega, h2, fun k h5 h6 => ?_⟩
    have := h3 (n - 1 - k) (by omega) (by omega)
    rwa [show n - 1 - (n - 1 - k) = k by omega] at this
theorem someP_back (is on : Nat → Bool) {n i : Nat} (hi : i < n) : someP is on (n - 1 - i) = someU (fun j => is (n - 1 - j)) (fun j => on (n - 1 - j)) (n - i) i := by
  rw [Bool.eq_iff_iff, someU_iff, someP_iff]
  constructor
  · rintro ⟨j, h1, h2, h3⟩
    refine ⟨n - 1 - j, by omega, by omega, by rw [show n - 1 - (n - 1 - j) = j by omega]; exact h2, fun k h5 h6 => h3 _ (by omega) (by omega)⟩
  · rintro ⟨j, h1, h2, h3, h4⟩
    refine ⟨n - 1 - j, by omega, h3, fun k h5 h6 => ?_⟩
    have := h4 (n - 1 - k) (by omega) (by omega)
    rwa [show n - 1 - (n - 1 - k) = k by omega] at this
/-- A trace told from the last point to the first. -/
structure Backw (X' X : TrcS) : Prop where
  n : X'.n = X.n
  gap : ∀ i j, i < X.n → j < X.n → gapS X' (X.n - 1 - i) (X.n - 1 - j) = gapS X i j
  holds : ∀ i s, i < X.n → X'.holds (X.n - 1 - i) s = X.holds i s
theorem ord_shift : ∀ (t : Tr) (k q : Nat), (ordT t k)[q]? = ((ordT t 0)[q]?).map (k + ·)
  | .leaf _, _, _ => by simp [ordT]
  | .un h a, k, q => by
    unfold ordT
    split
    · cases q <;> simp
    · exact ord_shift a k q
  | .bin h a b, k, q => by
    have hb := ord_shift b (k + testsT a)
    have hb0 := ord_shift b (0 + testsT a)
    have ha := ord_shift a k
    have lb : ∀ k, (ordT b k).length = testsT b := length_ord b
    have la : ∀ k, (ordT a k).length = testsT a := length_ord a
    unfold ordT
    split
    · rw [List.getElem?_append, List.getElem?_append, lb, lb]
      split
      · rw [hb, hb0]
        cases (ordT b 0)[q]? <;> simp [Nat.add_assoc]
      · exact ha _
    · rw [List.getElem?_append, List.getElem?_append, la, la]
      split
      · exact ha _
      · rw [hb, hb0]
        cases (ordT b 0)[q - testsT a]? <;> simp [Nat.add_assoc]
theorem sat_trn {X' X : TrcS} (h : Backw X' X) : ∀ t : Tr, validT t = true → (∀ i, i < X.n → satT X' (trnT t) (X.n - 1 - i) = satT X t i) ∧ (∀ q p i, i < X.n → (ordT t 0)[q]? = some p → valL (valsT X' (trnT t)) (X.n - 1 - i) q = valL (valsT X t) i p)
  | .leaf hd, _ => ⟨fun i hi => by
      show satT X' (.leaf (trnN hd)) _ = _
      rw [sat_leaf, sat_leaf]
      unfold leafS
      simp only [trnN, trn_iff hd.kind 1 (by omega), trn_iff hd.kind 3 (by omega)]
      rw [h.holds i hd.name hi], fun q p i _ hp => by simp [ordT] at hp⟩
  | .un hd a, hv => by
    simp only [validT, Bool.and_eq_true, beq_iff_eq] at hv
    obtain ⟨⟨_, hw⟩, hva⟩ := hv
    obtain ⟨h1, h2⟩ := sat_trn h a hva
    refine ⟨fun i hi => ?_, fun q p i hi hp => ?_⟩
    · show satT X' (.un (trnN hd) (trnT a)) _ = _
      rw [sat_un, sat_un]
      have hbk : ∀ j, j < X.n → X.n - 1 - (X.n - 1 - j) = j := fun j hj => by omega
      by_cases k4 : hd.kind = 4
      · unfold unS; simp only [trnN, k4, trnK]; simp [h1 i hi]
      by_cases k8 : hd.kind = 8
      · unfold unS; simp only [trnN, k8, trnK, h.n]
        simp only [show (8 : Int) + 1 = 9 from rfl]
        by_cases h0 : 0 < i
        · have e : X.n - 1 - i + 1 = X.n - 1 - (i - 1) := by omega
          simp only [e]
          simp [h0, show X.n - 1 - (i - 1) < X.n by omega, h.gap i (i - 1) hi (by omega), h1 (i - 1) (by omega)]
        · simp [h0, show ¬ (X.n - 1 - i + 1 < X.n) by omega]
      by_cases k9 : hd.kind = 9
      · unfold unS; simp only [trnN, k9, trnK, h.n]
        simp only [show (9 : Int) - 1 = 8 from rfl]
        by_cases h0 : i + 1 < X.n
        · have e : X.n - 1 - i - 1 = X.n - 1 - (i + 1) := by omega
          simp only [e]
          simp [h0, show 0 < X.n - 1 - i by omega, h.gap i (i + 1) hi h0, h1 (i + 1) h0]
        · simp [h0, show X.n - 1 - i = 0 by omega]
      have pb : ∀ (f' f : Nat → Bool), (∀ j, j < X.n → f' (X.n - 1 - j) = f j) → someU (fun j => hasD hd.lo hd.hi (gapS X' (X.n - 1 - i) j) && f' j) allw (X.n - (X.n - 1 - i)) (X.n - 1 - i) = someP (fun j => hasD hd.lo hd.hi (gapS X i j) && f j) allw i := fun f' f hf => by
        rw [someU_back _ _ hi]
        exact someP_congr (fun j hj => by rw [h.gap i j hi (by omega), hf j (by omega)]) (fun _ _ => rfl)
      have ub : ∀ (f' f : Nat → Bool), (∀ j, j < X.n → f' (X.n - 1 - j) = f j) → someP (fun j => hasD hd.lo hd.hi (gapS X' (X.n - 1 - i) j) && f' j) allw (X.n - 1 - i) = someU (fun j => hasD hd.lo hd.hi (gapS X i j) && f j) allw (X.n - i) i := fun f' f hf => by
        rw [someP_back _ _ hi]
        exact someU_congr (fun j _ hj => by rw [h.gap i j hi (by omega), hf j (by omega)]) (fun _ _ _ => rfl)
      by_cases k10 : hd.kind = 10
      · unfold unS; simp only [trnN, k10, trnK, h.n]; simp; exact pb _ _ h1
      by_cases k11 : hd.kind = 11
      · unfold unS; simp only [trnN, k11, trnK, h.n]; simp; exact pb _ _ (fun j hj => by rw [h1 j hj])
      by_cases k12 : hd.kind = 12
      · unfold unS; simp only [trnN, k12, trnK, h.n]; simp; exact ub _ _ h1
      by_cases k13 : hd.kind = 13
      · unfold unS; simp only [trnN, k13, trnK, h.n]; simp; exact ub _ _ (fun j hj => by rw [h1 j hj])
      by_cases km : hd.kind = 16 ∨ hd.kind = 17
      · have hra : regV a := regV_of hva (by rw [hw]; rcases km with e | e <;> rw [e] <;> rfl)
        have ht := reach_turn X.n (valL (valsT X a)) (valL (valsT X' (trnT a))) a 0 0 hra (fun i hi q hq => by
          rw [Nat.zero_add]
          exact h2 q _ i hi (List.getElem?_eq_getElem _))
        have hr : ∀ x y, x < X.n → y < X.n → reachT X.n (valL (valsT X' (trnT a))) (trnT a) 0 (X.n - 1 - x) (X.n - 1 - y) = reachT X.n (valL (valsT X a)) a 0 y x := fun x y hx hy => by
          rw [trn_reach, ht (X.n - 1 - x) (X.n - 1 - y) (by omega) (by omega), hbk x hx, hbk y hy]
        rcases km with k16 | k17
        · unfold unS; simp only [trnN, k16, trnK, h.n]; simp
          exact pb (fun j => reachT X.n (valL (valsT X' (trnT a))) (trnT a) 0 (X.n - 1 - i) j) (fun j => reachT X.n (valL (valsT X a)) a 0 j i) (fun j hj => hr i j hi hj)
        · unfold unS; simp only [trnN, k17, trnK, h.n]; simp
          exact ub (fun j => reachT X.n (valL (valsT X' (trnT a))) (trnT a) 0 j (X.n - 1 - i)) (fun j => reachT X.n (valL (valsT X a)) a 0 i j) (fun j hj => hr j i hj hi)
      have k16 : hd.kind ≠ 16 := fun x => km (.inl x)
      have k17 : hd.kind ≠ 17 := fun x => km (.inr x)
      have e : trnK hd.kind ≠ 4 ∧ trnK hd.kind ≠ 8 ∧ trnK hd.kind ≠ 9 ∧ trnK hd.kind ≠ 10 ∧ trnK hd.kind ≠ 11 ∧ trnK hd.kind ≠ 12 ∧ trnK hd.kind ≠ 13 ∧ trnK hd.kind ≠ 16 ∧ trnK hd.kind ≠ 17 := by unfold trnK; (repeat' split) <;> omega
      obtain ⟨e1, e2, e3, e4, e5, e6, e7, e8, e9⟩ := e
      unfold unS
      simp only [trnN, e1, e2, e3, e4, e5, e6, e7, e8, e9, k4, k8, k9, k10, k11, k12, k13, k16, k17, if_false]
    · show valL (valsT X' (.un (trnN hd) (trnT a))) _ _ = _
      rw [vals_un, vals_un]
      unfold ordT at hp
      by_cases h19 : hd.kind = 19
      · rw [if_pos h19] at hp
        rw [if_pos (show (trnN hd).kind = 19 from (trn_iff hd.kind 19 (by omega)).2 h19), if_pos h19]
        cases q with
        | zero =>
          simp at hp
          subst hp
          exact h1 i hi
        | succ q => simp at hp
      · rw [if_neg h19] at hp
        rw [if_neg (show ¬ (trnN hd).kind = 19 from fun e => h19 ((trn_iff hd.kind 19 (by omega)).1 e)), if_neg h19]
        exact h2 q p i hi hp
  | .bin hd a b, hv => by
    simp only [validT, Bool.and_eq_true, beq_iff_eq] at hv
    obtain ⟨⟨⟨⟨hf, _⟩, _⟩, hva⟩, hvb⟩ := hv
    obtain ⟨h1, h2⟩ := sat_trn h a hva
    obtain ⟨h3, h4⟩ := sat_trn h b hvb
    refine ⟨fun i hi => ?_, fun q p i hi hp => ?_⟩
    · by_cases h21 : hd.kind = 21
      · unfold trnT
        rw [if_pos h21, sat_bin, sat_bin]
        unfold binS
        simp [trnN, trnK, h21]
      · unfold trnT
        rw [if_neg h21, sat_bin, sat_bin]
        have b14 : someU (fun j => hasD hd.lo hd.hi (gapS X' (X.n - 1 - i) j) && satT X' (trnT b) j) (satT X' (trnT a)) (X.n - (X.n - 1 - i)) (X.n - 1 - i) = someP (fun j => hasD hd.lo hd.hi (gapS X i j) && satT X b j) (satT X a) i := by
          rw [someU_back _ _ hi]
          exact someP_congr (fun j hj => by rw [h.gap i j hi (by omega), h3 j (by omega)]) (fun j hj => h1 j (by omega))
        have b15 : someP (fun j => hasD hd.lo hd.hi (gapS X' (X.n - 1 - i) j) && satT X' (trnT b) j) (satT X' (trnT a)) (X.n - 1 - i) = someU (fun j => hasD hd.lo hd.hi (gapS X i j) && satT X b j) (satT X a) (X.n - i) i := by
          rw [someP_back _ _ hi]
          exact someU_congr (fun j _ hj => by rw [h.gap i j hi (by omega), h3 j (by omega)]) (fun j _ hj => h1 j (by omega))
        by_cases k14 : hd.kind = 14
        · unfold binS; simp only [trnN, k14, trnK, h.n]; simp; exact b14
        by_cases k15 : hd.kind = 15
        · unfold binS; simp only [trnN, k15, trnK, h.n]; simp; exact b15
        by_cases k5 : hd.kind = 5
        · unfold binS; simp [trnN, k5, trnK, h1 i hi, h3 i hi]
        by_cases k6 : hd.kind = 6
        · unfold binS; simp [trnN, k6, trnK, h1 i hi, h3 i hi]
        by_cases k7 : hd.kind = 7
        · unfold binS; simp [trnN, k7, trnK, h1 i hi, h3 i hi]
        have ht : trnK hd.kind ≠ 14 ∧ trnK hd.kind ≠ 15 ∧ trnK hd.kind ≠ 5 ∧ trnK hd.kind ≠ 6 ∧ trnK hd.kind ≠ 7 := by
          unfold trnK
          (repeat' split) <;> omega
        obtain ⟨t1, t2, t3, t4, t5⟩ := ht
        unfold binS
        simp [trnN, k14, k15, k5, k6, k7, t1, t2, t3, t4, t5]
    · unfold ordT at hp
      have la : (valsT X a).length = testsT a := length_vals X a
      have lb : (valsT X b).length = testsT b := length_vals X b
      have la' : (valsT X' (trnT a)).length = testsT a := by rw [length_vals, trn_tests]
      have lb' : (valsT X' (trnT b)).length = testsT b := by rw [length_vals, trn_tests]
      have oa : ∀ k, (ordT a k).length = testsT a := length_ord a
      have ob : ∀ k, (ordT b k).length = testsT b := length_ord b
      have oaL : ∀ q p, (ordT a 0)[q]? = some p → valL (valsT X a ++ valsT X b) i p = valL (valsT X a) i p := fun q p hq => by
        have : p < testsT a := by
          have hql : q < testsT a := by rw [← oa 0]; exact (List.getElem?_eq_some_iff.1 hq).1
          obtain ⟨p', e1, e2, _⟩ := ord_test a 0 q hql
          rw [hq] at e1
          injection e1 with e1
          omega
        unfold valL
        simp only [List.getD_eq_getElem?_getD]
        rw [List.getElem?_append_left (by omega)]
      have obL : ∀ p, valL (valsT X a ++ valsT X b) i (testsT a + p) = valL (valsT X b) i p := fun p => by
        unfold valL
        simp only [List.getD_eq_getElem?_getD]
        rw [List.getElem?_append_right (by omega), la, Nat.add_sub_cancel_left]
      by_cases h21 : hd.kind = 21
      · rw [if_pos h21] at hp
        unfold trnT
        rw [if_pos h21, vals_bin, vals_bin]
        by_cases hq : q < testsT b
        · rw [List.getElem?_append_left (by rw [ob]; exact hq), ord_shift] at hp
          obtain ⟨p', hp', e⟩ := Option.map_eq_some_iff.1 hp
          subst e
          rw [Nat.zero_add, obL, ← h4 q p' i hi hp']
          unfold valL
          simp only [List.getD_eq_getElem?_getD]
          rw [List.getElem?_append_left (by omega)]
        · rw [List.getElem?_append_right (by rw [ob]; omega), ob] at hp
          rw [oaL _ _ hp, ← h2 _ p i hi hp]
          unfold valL
          simp only [List.getD_eq_getElem?_getD]
          rw [List.getElem?_append_right (by omega), lb']
      · rw [if_neg h21] at hp
        unfold trnT
        rw [if_neg h21, vals_bin, vals_bin]
        by_cases hq : q < testsT a
        · rw [List.getElem?_append_left (by rw [oa]; exact hq)] at hp
          rw [oaL _ _ hp, ← h2 _ p i hi hp]
          unfold valL
          simp only [List.getD_eq_getElem?_getD]
          rw [List.getElem?_append_left (by omega)]
        · rw [List.getElem?_append_right (by rw [oa]; omega), oa, ord_shift] at hp
          obtain ⟨p', hp', e⟩ := Option.map_eq_some_iff.1 hp
          subst e
          rw [Nat.zero_add, obL, ← h4 _ p' i hi hp']
          unfold valL
          simp only [List.getD_eq_getElem?_getD]
          rw [List.getElem?_append_right (by omega), la']
end Go.Proofs.Ytdbbooibkiicnaa
/-! A trace told backwards: plain. -/
namespace Go.Proofs.Ytdbbooibkiicnaa
def backE (es : List Evt) : List Evt := es.reverse.map fun e => ⟨timeE es (es.length - 1) - e.time, e.ids⟩
theorem length_backE (es : List Evt) : (backE es).length = es.length := by simp [backE]
theorem get_backE {es : List Evt} {i : Nat} (hi : i < es.length) : (backE es)[es.length - 1 - i]? = some ⟨timeE es (es.length - 1) - es[i].time, es[i].ids⟩ := by
  unfold backE
  rw [List.getElem?_map, List.getElem?_reverse (by omega), show es.length - 1 - (es.length - 1 - i) = i by omega, List.getElem?_eq_getElem hi]
  rfl
theorem timeE_get {es : List Evt} {i : Nat} (hi : i < es.length) : timeE es i = es[i].time := by unfold timeE; rw [List.getElem?_eq_getElem hi]
theorem timeE_backE {es : List Evt} {i : Nat} (hi : i < es.length) : timeE (backE es) (es.length - 1 - i) = timeE es (es.length - 1) - timeE es i := by
  rw [timeE_get hi]
  show (match (backE es)[es.length - 1 - i]? with | some e => e.time | none => 0) = _
  rw [get_backE hi]
theorem time_mono {ss : List ByteArray} {es : List Evt} (h : mayT ss es = true) : ∀ (d i : Nat), i + d < es.length → timeE es i ≤ timeE es (i + d)
  | 0, i, _ => Nat.le_refl _
  | d + 1, i, hi => by
    obtain ⟨_, h2⟩ := mayT_iff.1 h
    obtain ⟨_, h3⟩ := h2 (i + (d + 1)) hi
    have h4 := time_mono h d i (by omega)
    rw [timeE_get hi]
    rcases h3 with h5 | h5
    · omega
    · rw [show i + (d + 1) - 1 = i + d by omega] at h5
      omega
theorem time_last {ss : List ByteArray} {es : List Evt} (h : mayT ss es = true) {i : Nat} (hi : i < es.length) : timeE es i ≤ timeE es (es.length - 1) := by
  have := time_mono h (es.length - 1 - i) i (by omega)
  rwa [show i + (es.length - 1 - i) = es.length - 1 by omega] at this
theorem backw_E {ss : List ByteArray} {es : List Evt} (h : mayT ss es = true) : Backw (trcE ss (backE es)) (trcE ss es) := by
  refine ⟨length_backE es, fun i j hi hj => ?_, fun i s hi => ?_⟩
  · have hi : i < es.length := hi
    have hj : j < es.length := hj
    have e1 := time_last h hi
    have e2 := time_last h hj
    show max (timeE (backE es) (es.length - 1 - i)) (timeE (backE es) (es.length - 1 - j)) - min (timeE (backE es) (es.length - 1 - i)) (timeE (backE es) (es.length - 1 - j)) = max (timeE es i) (timeE es j) - min (timeE es i) (timeE es j)
    rw [timeE_backE hi, timeE_backE hj]
    omega
  · have hi : i < es.length := hi
    show holdsT ss (backE es) (es.length - 1 - i) s = holdsT ss es i s
    unfold holdsT
    rw [get_backE hi, List.getElem?_eq_getElem hi]
theorem mayT_backE {ss : List ByteArray} {es : List Evt} (h : mayT ss es = true) : mayT ss (backE es) = true := by
  obtain ⟨h1, h2⟩ := mayT_iff.1 h
  refine mayT_iff.2 ⟨h1, fun q hq => ?_⟩
  have hq' : q < es.length := by rwa [length_backE] at hq
  obtain ⟨i, hi, hqi⟩ : ∃ i, i < es.length ∧ q = es.length - 1 - i := ⟨es.length - 1 - q, by omega, by omega⟩
  have e : (backE es)[q] = ⟨timeE es (es.length - 1) - es[i].time, es[i].ids⟩ := by
    have := get_backE hi
    rw [← hqi, List.getElem?_eq_getElem hq] at this
    injection this
  rw [e]
  refine ⟨(h2 i hi).1, ?_⟩
  rcases Nat.eq_zero_or_pos q with h0 | h0
  · exact .inl h0
  · right
    have hi1 : i + 1 < es.length := by omega
    rw [show q - 1 = es.length - 1 - (i + 1) by omega, timeE_backE hi1, ← timeE_get hi]
    have := time_mono h 1 i hi1
    show timeE es (es.length - 1) - timeE es (i + 1) ≤ timeE es (es.length - 1) - timeE es i
    omega
/-- Over the points from the last one to the first the truth is the same, backwards. -/
theorem sat_back {ss : List ByteArray} {es : List Evt} (h : mayT ss es = true) {t : Tr} (hv : validT t = true) {i : Nat} (hi : i < es.length) : satT (trcE ss (backE es)) (trnT t) (es.length - 1 - i) = satT (trcE ss es) t i :=
  (sat_trn (backw_E h) t hv).1 i hi
end Go.Proofs.Ytdbbooibkiicnaa
