/- The tables of a plan in the making: plain lemmas. -/
import Derived.Test.YtdbbooibkiicnaaPlanP
import Derived.Test.YtdbbooibkiicnaaOwnP
set_option linter.unusedVariables false
set_option linter.unusedSimpArgs false
namespace Go.Proofs.Ytdbbooibkiicnaa
/-- A test of the expression's own; a step of its own. -/
def isT (t : Tr) (i : Nat) : Bool := (posT t i true 0 0).1 && decide ((t.sub i).root.kind = 19)
def isS (t : Tr) (i : Nat) : Bool := (posT t i true 0 0).1 && decide ((t.sub i).size = 1)
/-- The table zero when j tests are laid; first when j steps are. -/
def zer1 (t : Tr) (z : Zf) (j i x : Nat) : Bool := isT t i && decide ((posT t i true 0 0).2.1 < j) && z (posT t i true 0 0).2.1 x
def fst1 (t : Tr) (j i : Nat) : Fst := if isS t i = true ∧ (posT t i true 0 0).2.2 < j then [((posT t i true 0 0).2.2, fun _ => true)] else []
theorem testTr_un' : ∀ (t : Tr) (x : Tr), x ∈ testTr t → ∃ h f, x = .un h f ∧ h.kind = 19
  | .leaf _, x, h => by simp [testTr] at h
  | .un h a, x, hx => by
    by_cases h1 : h.kind = 19
    · simp [testTr, h1] at hx; exact ⟨h, a, hx, h1⟩
    · simp only [testTr, h1, if_false] at hx; exact testTr_un' a x hx
  | .bin h a b, x, hx => by
    simp only [testTr, List.mem_append] at hx
    rcases hx with hx | hx
    · exact testTr_un' a x hx
    · exact testTr_un' b x hx
/-- Of own nodes a root's kind tells the shape. -/
theorem own_shape {t : Tr} (hv : regV t) {i : Nat} (hi : i < t.size) (ho : (posT t i true 0 0).1 = true) : (isT t i = true ↔ ∃ h a, t.sub i = .un h a ∧ h.kind = 19) ∧ (isS t i = true ↔ ∃ h, t.sub i = .leaf h) := by
  have hr := own_regV t i 0 0 hv hi ho
  unfold isT isS
  rw [ho]
  simp only [Bool.true_and, decide_eq_true_eq]
  cases hx : t.sub i with
  | leaf h =>
    rw [hx] at hr
    have hr' : h.kind = 18 := hr
    refine ⟨⟨fun e => ?_, fun ⟨_, _, e, _⟩ => by cases e⟩, ⟨fun _ => ⟨h, rfl⟩, fun _ => rfl⟩⟩
    have e' : h.kind = 19 := e
    omega
  | un h a =>
    refine ⟨⟨fun e => ⟨h, a, rfl, e⟩, fun ⟨_, _, e, k⟩ => by injection e with e1 e2; subst e1; exact k⟩, ⟨fun e => ?_, fun ⟨_, e⟩ => by cases e⟩⟩
    have := a.size_pos
    simp only [Tr.size] at e
    omega
  | bin h a b =>
    rw [hx] at hr
    have hr' : h.kind = 20 ∨ h.kind = 21 := hr.1
    refine ⟨⟨fun e => ?_, fun ⟨_, _, e, _⟩ => by cases e⟩, ⟨fun e => ?_, fun ⟨_, e⟩ => by cases e⟩⟩
    · have e' : h.kind = 19 := e
      omega
    · have := a.size_pos
      simp only [Tr.size] at e
      omega
theorem isT_own {t : Tr} {i : Nat} (h : isT t i = true) : (posT t i true 0 0).1 = true := by unfold isT at h; rw [Bool.and_eq_true] at h; exact h.1
theorem isS_own {t : Tr} {i : Nat} (h : isS t i = true) : (posT t i true 0 0).1 = true := by unfold isS at h; rw [Bool.and_eq_true] at h; exact h.1
theorem test_facts {t : Tr} (hv : regV t) {j p : Nat} (hp : (testsL t 0)[j]? = some p) : p < t.size ∧ isT t p = true ∧ (posT t p true 0 0).2.1 = j := by
  obtain ⟨_, h2, h3⟩ := tests_sub t 0 j p hp
  obtain ⟨h4, h5⟩ := test_at t 0 j p 0 0 hp
  rw [Nat.sub_zero] at h2 h3 h4 h5
  obtain ⟨h, f, e, hk⟩ := testTr_un' t _ (List.mem_of_getElem? h3)
  exact ⟨h2, ((own_shape hv h2 h4).1).2 ⟨h, f, e, hk⟩, by omega⟩
theorem test_back {t : Tr} (hv : regV t) {i : Nat} (hi : i < t.size) (h : isT t i = true) : (testsL t 0)[(posT t i true 0 0).2.1]? = some i := by
  have ho := isT_own h
  have := (test_own t 0 i 0 0 hi ho (((own_shape hv hi ho).1).1 h)).1
  rw [Nat.sub_zero, Nat.zero_add] at this
  exact this
theorem step_facts {t : Tr} (hv : regV t) {j p : Nat} (hp : (stepsL t 0)[j]? = some p) : p < t.size ∧ isS t p = true ∧ (posT t p true 0 0).2.2 = j := by
  obtain ⟨_, h2, ⟨h, h3, _⟩, h4, h5⟩ := step_at t 0 j p 0 0 hv hp
  rw [Nat.sub_zero] at h2 h3 h4 h5
  exact ⟨h2, ((own_shape hv h2 h4).2).2 ⟨h, h3⟩, by omega⟩
theorem step_back {t : Tr} (hv : regV t) {i : Nat} (hi : i < t.size) (h : isS t i = true) : (stepsL t 0)[(posT t i true 0 0).2.2]? = some i := by
  have ho := isS_own h
  have := (leaf_step t 0 i 0 0 hv hi ho (((own_shape hv hi ho).2).1 h)).1
  rw [Nat.sub_zero, Nat.zero_add] at this
  exact this
theorem zer1_zero (t : Tr) (z : Zf) (i x : Nat) : zer1 t z 0 i x = false := by unfold zer1; simp
theorem fst1_zero (t : Tr) (i : Nat) : fst1 t 0 i = [] := by unfold fst1; rw [if_neg (by omega)]
theorem zer1_step {t : Tr} (hv : regV t) (z : Zf) {j p : Nat} (hp : (testsL t 0)[j]? = some p) (i x : Nat) (hi : i < t.size) : zer1 t z (j + 1) i x = if i = p then z j x else zer1 t z j i x := by
  obtain ⟨h1, h2, h3⟩ := test_facts hv hp
  by_cases e : i = p
  · subst e
    rw [if_pos rfl]
    unfold zer1
    rw [h2, h3]
    simp
  · rw [if_neg e]
    unfold zer1
    cases hT : isT t i
    · rfl
    · have hb := test_back hv hi hT
      have hne : (posT t i true 0 0).2.1 ≠ j := fun e2 => by rw [e2, hp] at hb; injection hb with hb; exact e hb.symm
      have : decide ((posT t i true 0 0).2.1 < j + 1) = decide ((posT t i true 0 0).2.1 < j) := decide_eq_decide.2 (by omega)
      rw [this]
theorem zer1_skip {t : Tr} (z : Zf) {j : Nat} (hz : ∀ x, z j x = false) (i x : Nat) : zer1 t z (j + 1) i x = zer1 t z j i x := by
  unfold zer1
  by_cases e : (posT t i true 0 0).2.1 = j
  · rw [e, hz]; simp
  · have : decide ((posT t i true 0 0).2.1 < j + 1) = decide ((posT t i true 0 0).2.1 < j) := decide_eq_decide.2 (by omega)
    rw [this]
theorem fst1_step {t : Tr} (hv : regV t) {j p : Nat} (hp : (stepsL t 0)[j]? = some p) (i : Nat) (hi : i < t.size) : fst1 t (j + 1) i = if i = p then [(j, fun _ => true)] else fst1 t j i := by
  obtain ⟨h1, h2, h3⟩ := step_facts hv hp
  by_cases e : i = p
  · subst e
    rw [if_pos rfl]
    unfold fst1
    rw [h3, if_pos ⟨h2, by omega⟩]
  · rw [if_neg e]
    unfold fst1
    by_cases hS : isS t i = true
    · have hb := step_back hv hi hS
      have hne : (posT t i true 0 0).2.2 ≠ j := fun e2 => by rw [e2, hp] at hb; injection hb with hb; exact e hb.symm
      by_cases hl : (posT t i true 0 0).2.2 < j
      · rw [if_pos ⟨hS, by omega⟩, if_pos ⟨hS, hl⟩]
      · rw [if_neg (by omega), if_neg (by omega)]
    · rw [if_neg (fun h => hS h.1), if_neg (fun h => hS h.1)]
/-- What fill says of node i. -/
def zerO (t : Tr) (z : Zf) (i : Nat) : Nat → Bool := zeroO z (posT t i true 0 0).1 (t.sub i) (posT t i true 0 0).2.1
def fstO (t : Tr) (z : Zf) (i : Nat) : Fst := firstO z (posT t i true 0 0).1 (t.sub i) (posT t i true 0 0).2.1 (posT t i true 0 0).2.2
def zer2 (t : Tr) (z : Zf) (n i : Nat) : Nat → Bool := if i < n then zerO t z i else zer1 t z (testsT t) i
def fst2 (t : Tr) (z : Zf) (n i : Nat) : Fst := if i < n then fstO t z i else fst1 t (stepsN t) i
theorem zer1_test {t : Tr} (hv : regV t) (z : Zf) {i : Nat} (hi : i < t.size) (x : Nat) : zer1 t z (testsT t) i x = (isT t i && z (posT t i true 0 0).2.1 x) := by
  unfold zer1
  cases hT : isT t i
  · rfl
  · have hb := test_back hv hi hT
    have := (List.getElem?_eq_some_iff.1 hb).1
    rw [length_tests] at this
    rw [decide_eq_true this, Bool.and_true]
theorem fst1_all {t : Tr} (hv : regV t) {i : Nat} (hi : i < t.size) : fst1 t (stepsN t) i = if isS t i = true then [((posT t i true 0 0).2.2, fun _ => true)] else [] := by
  unfold fst1
  by_cases hS : isS t i = true
  · have hb := step_back hv hi hS
    have := (List.getElem?_eq_some_iff.1 hb).1
    rw [length_stepsL t 0 hv] at this
    rw [if_pos ⟨hS, this⟩, if_pos hS]
  · rw [if_neg (fun h => hS h.1), if_neg hS]
theorem leaf_kind {h : Nd} (hv : validT (.leaf h) = true) : h.kind = 1 ∨ h.kind = 2 ∨ h.kind = 3 ∨ h.kind = 18 := by
  have := fields_kids (show fieldsS { h with kids := [] } = true from hv)
  have ha : (0 : Int) = arityS h.kind := this
  unfold arityS at ha
  clear this
  repeat' split at ha
  all_goals omega
theorem bin_kind {h : Nd} {a b : Tr} (hv : validT (.bin h a b) = true) : h.kind ≠ 19 ∧ h.kind ≠ 22 ∧ h.kind ≠ 18 := by
  simp only [validT, Bool.and_eq_true, beq_iff_eq] at hv
  have := fields_kids hv.1.1.1.1
  have ha : (2 : Int) = arityS h.kind := this
  unfold arityS at ha
  clear this
  refine ⟨?_, ?_, ?_⟩ <;> intro e <;> rw [e] at ha <;> simp at ha
theorem un_kind {h : Nd} {a : Tr} (hv : validT (.un h a) = true) : h.kind ≠ 20 ∧ h.kind ≠ 21 ∧ h.kind ≠ 18 := by
  simp only [validT, Bool.and_eq_true, beq_iff_eq] at hv
  have := fields_kids hv.1.1
  have ha : (1 : Int) = arityS h.kind := this
  unfold arityS at ha
  clear this
  refine ⟨?_, ?_, ?_⟩ <;> intro e <;> rw [e] at ha <;> simp at ha
/-- A node that fill leaves alone is as it was laid. -/
theorem fill_same {t : Tr} (hv : regV t) (hva : validT t = true) (z : Zf) {n : Nat} (hn : n < t.size) (hk : (t.sub n).root.kind ≠ 20 ∧ (t.sub n).root.kind ≠ 21 ∧ (t.sub n).root.kind ≠ 22) : (∀ x, zerO t z n x = zer1 t z (testsT t) n x) ∧ fstO t z n = fst1 t (stepsN t) n := by
  have hvn := sub_valid t n hva
  rw [fst1_all hv hn]
  unfold zerO fstO
  cases hx : t.sub n with
  | leaf h =>
    rw [hx] at hvn
    have hk4 := leaf_kind hvn
    refine ⟨fun x => ?_, ?_⟩
    · rw [zer1_test hv z hn]
      unfold isT
      rw [hx]
      have : decide ((Tr.leaf h).root.kind = 19) = false := decide_eq_false (by show h.kind ≠ 19; omega)
      rw [this, Bool.and_false]
      rfl
    · unfold firstO isS
      rw [hx]
      cases ho : (posT t n true 0 0).1
      · simp
      · have hr := own_regV t n 0 0 hv hn ho
        rw [hx] at hr
        have hr' : h.kind = 18 := hr
        rw [if_pos ⟨rfl, hr'⟩, if_pos (by simp [Tr.size])]
  | un h a =>
    rw [hx] at hk hvn
    have hk' : h.kind ≠ 22 := hk.2.2
    have hap := a.size_pos
    refine ⟨fun x => ?_, ?_⟩
    · rw [zer1_test hv z hn]
      unfold isT zeroO
      rw [hx]
      by_cases h19 : h.kind = 19
      · rw [if_pos h19, show decide ((Tr.un h a).root.kind = 19) = true from decide_eq_true h19, Bool.and_true]
      · rw [if_neg h19, if_neg hk', show decide ((Tr.un h a).root.kind = 19) = false from decide_eq_false h19, Bool.and_false]
        rfl
    · unfold firstO isS
      rw [hx, if_neg hk', if_neg]
      intro e
      rw [Bool.and_eq_true] at e
      have := of_decide_eq_true e.2
      simp only [Tr.size] at this
      omega
  | bin h a b =>
    rw [hx] at hk hvn
    have hap := a.size_pos
    have hk' : h.kind ≠ 20 ∧ h.kind ≠ 21 := ⟨hk.1, hk.2.1⟩
    have h19 := (bin_kind hvn).1
    refine ⟨fun x => ?_, ?_⟩
    · rw [zer1_test hv z hn]
      unfold isT zeroO
      rw [hx, if_neg hk'.1, if_neg hk'.2, show decide ((Tr.bin h a b).root.kind = 19) = false from decide_eq_false h19, Bool.and_false]
      rfl
    · unfold firstO isS
      rw [hx, if_neg hk'.1, if_neg hk'.2, if_neg]
      intro e
      rw [Bool.and_eq_true] at e
      have := of_decide_eq_true e.2
      simp only [Tr.size] at this
      omega
theorem zer2_keep {t : Tr} (hv : regV t) (hva : validT t = true) (z : Zf) {n : Nat} (hn : n < t.size) (hk : (t.sub n).root.kind ≠ 20 ∧ (t.sub n).root.kind ≠ 21 ∧ (t.sub n).root.kind ≠ 22) (i x : Nat) : zer2 t z n i x = zer2 t z (n + 1) i x := by
  unfold zer2
  by_cases e : i = n
  · subst e
    rw [if_neg (by omega), if_pos (by omega), (fill_same hv hva z hn hk).1 x]
  · by_cases h : i < n
    · rw [if_pos h, if_pos (by omega)]
    · rw [if_neg h, if_neg (by omega)]
theorem fst2_keep {t : Tr} (hv : regV t) (hva : validT t = true) (z : Zf) {n : Nat} (hn : n < t.size) (hk : (t.sub n).root.kind ≠ 20 ∧ (t.sub n).root.kind ≠ 21 ∧ (t.sub n).root.kind ≠ 22) (i : Nat) : fst2 t z n i = fst2 t z (n + 1) i := by
  unfold fst2
  by_cases e : i = n
  · subst e
    rw [if_neg (by omega), if_pos (by omega), (fill_same hv hva z hn hk).2]
  · by_cases h : i < n
    · rw [if_pos h, if_pos (by omega)]
    · rw [if_neg h, if_neg (by omega)]
theorem zer2_next (t : Tr) (z : Zf) (n i x : Nat) : (if i = n then zerO t z n else zer2 t z n i) x = zer2 t z (n + 1) i x := by
  unfold zer2
  by_cases e : i = n
  · subst e
    rw [if_pos rfl, if_pos (by omega)]
  · rw [if_neg e]
    by_cases h : i < n
    · rw [if_pos h, if_pos (by omega)]
    · rw [if_neg h, if_neg (by omega)]
theorem fst2_next (t : Tr) (z : Zf) (n i : Nat) : (if i = n then fstO t z n else fst2 t z n i) = fst2 t z (n + 1) i := by
  unfold fst2
  by_cases e : i = n
  · subst e
    rw [if_pos rfl, if_pos (by omega)]
  · rw [if_neg e]
    by_cases h : i < n
    · rw [if_pos h, if_pos (by omega)]
    · rw [if_neg h, if_neg (by omega)]
theorem zer2_kid {t : Tr} {z : Zf} {n i : Nat} (h : i < n) : zer2 t z n i = zerO t z i := if_pos h
theorem fst2_kid {t : Tr} {z : Zf} {n i : Nat} (h : i < n) : fst2 t z n i = fstO t z i := if_pos h
/-- What is said of a node by its kids. -/
theorem zero_many (z : Zf) (own : Bool) {h : Nd} (a : Tr) (h22 : h.kind = 22) (k x : Nat) : zeroO z own (.un h a) k x = true := by
  unfold zeroO
  rw [if_neg (by omega), if_pos h22]
theorem zerO_many {t : Tr} (z : Zf) {n : Nat} {h : Nd} {a : Tr} (hx : t.sub n = .un h a) (h22 : h.kind = 22) (x : Nat) : zerO t z n x = true := by
  unfold zerO
  rw [hx]
  exact zero_many z _ a h22 _ x
theorem fstO_many {t : Tr} (z : Zf) {n : Nat} (hn : n < t.size) {h : Nd} {a : Tr} (hx : t.sub n = .un h a) (h22 : h.kind = 22) : fstO t z n = fstO t z (n - 1) := by
  obtain ⟨_, hp⟩ := pos_un hn hx true 0 0
  obtain ⟨_, hk, _⟩ := kid_un hn hx
  unfold fstO
  rw [hp, hk, decide_eq_true (show h.kind ≠ 19 by omega), Bool.and_true, hx]
  exact if_pos h22
theorem zerO_alt {t : Tr} (z : Zf) {n : Nat} (hn : n < t.size) {h : Nd} {a b : Tr} (hx : t.sub n = .bin h a b) (h20 : h.kind = 20) (x : Nat) : zerO t z n x = (zerO t z (n - 1 - b.size) x || zerO t z (n - 1) x) := by
  obtain ⟨_, hp, hq⟩ := pos_bin hn hx true 0 0
  obtain ⟨_, hk, hl⟩ := kid_bin hn hx
  unfold zerO
  rw [hp, hq, hk, hl, hx]
  conv => lhs; unfold zeroO
  rw [if_pos h20]
theorem zerO_seq {t : Tr} (z : Zf) {n : Nat} (hn : n < t.size) {h : Nd} {a b : Tr} (hx : t.sub n = .bin h a b) (h21 : h.kind = 21) (x : Nat) : zerO t z n x = (zerO t z (n - 1 - b.size) x && zerO t z (n - 1) x) := by
  obtain ⟨_, hp, hq⟩ := pos_bin hn hx true 0 0
  obtain ⟨_, hk, hl⟩ := kid_bin hn hx
  unfold zerO
  rw [hp, hq, hk, hl, hx]
  conv => lhs; unfold zeroO
  rw [if_neg (by omega), if_pos h21]
theorem fstO_alt {t : Tr} (z : Zf) {n : Nat} (hn : n < t.size) {h : Nd} {a b : Tr} (hx : t.sub n = .bin h a b) (h20 : h.kind = 20) : fstO t z n = fstO t z (n - 1 - b.size) ++ fstO t z (n - 1) := by
  obtain ⟨_, hp, hq⟩ := pos_bin hn hx true 0 0
  obtain ⟨_, hk, hl⟩ := kid_bin hn hx
  unfold fstO
  rw [hp, hq, hk, hl, hx]
  conv => lhs; unfold firstO
  rw [if_pos h20]
theorem fstO_seq {t : Tr} (z : Zf) {n : Nat} (hn : n < t.size) {h : Nd} {a b : Tr} (hx : t.sub n = .bin h a b) (h21 : h.kind = 21) : fstO t z n = fstO t z (n - 1 - b.size) ++ (fstO t z (n - 1)).map (fun p => (p.1, fun x => p.2 x && zerO t z (n - 1 - b.size) x)) := by
  obtain ⟨_, hp, hq⟩ := pos_bin hn hx true 0 0
  obtain ⟨_, hk, hl⟩ := kid_bin hn hx
  unfold fstO zerO
  rw [hp, hq, hk, hl, hx]
  conv => lhs; unfold firstO
  rw [if_neg (by omega), if_pos h21]
theorem fstO_len (t : Tr) (z : Zf) {n : Nat} (hn : n < t.size) : (fstO t z n).length ≤ t.size := by
  have h1 : ∀ (t : Tr) (o : Bool) (k s : Nat), (firstO z o t k s).length ≤ t.size := by
    intro t
    induction t with
    | leaf h => intro o k s; unfold firstO; split <;> simp [Tr.size]
    | un h a ih => intro o k s; have := ih o k s; unfold firstO; simp only [Tr.size]; split <;> simp <;> omega
    | bin h a b iha ihb =>
      intro o k s
      have := iha o k s
      have := ihb o (k + testsT a) (s + stepsN a)
      unfold firstO; simp only [Tr.size]
      split
      · simp; omega
      · split <;> simp <;> omega
  have := h1 (t.sub n) (posT t n true 0 0).1 (posT t n true 0 0).2.1 (posT t n true 0 0).2.2
  have := Tr.sub_size_le t n hn
  unfold fstO
  omega
theorem fst1_len (t : Tr) (j i : Nat) : (fst1 t j i).length ≤ 1 := by unfold fst1; split <;> simp
end Go.Proofs.Ytdbbooibkiicnaa
