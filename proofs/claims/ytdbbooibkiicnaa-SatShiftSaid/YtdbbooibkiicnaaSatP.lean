/- Truth over a whole trace: plain definitions and lemmas, no program in sight. -/
import Derived.Test.YtdbbooibkiicnaaBoundA
set_option linter.unusedVariables false
set_option linter.unusedSimpArgs false
namespace Go.Proofs.Ytdbbooibkiicnaa
/-- A trace: how many points, their times, what holds there. -/
structure TrcS where
  n : Nat
  time : Nat → Nat
  holds : Nat → ByteArray → Bool
def hasD (lo hi : Int) (d : Nat) : Bool := decide (lo ≤ (d : Int) ∧ (hi = -1 ∨ (d : Int) ≤ hi))
def gapS (X : TrcS) (i j : Nat) : Nat := max (X.time i) (X.time j) - min (X.time i) (X.time j)
/-- Some point up to i is so, and all behind it go on. -/
def someP (is on : Nat → Bool) : Nat → Bool
  | 0 => is 0
  | i + 1 => is (i + 1) || (on (i + 1) && someP is on i)
/-- Some of m points from i on is so, and all ahead of it go on. -/
def someU (is on : Nat → Bool) : Nat → Nat → Bool
  | 0, _ => false
  | m + 1, i => is i || (on i && someU is on m (i + 1))
def allw : Nat → Bool := fun _ => true
def unS (X : TrcS) (h : Nd) (v : Nat → Bool) (ways : Mx) (i : Nat) : Bool :=
  if h.kind = 4 then !v i
  else if h.kind = 8 then decide (0 < i) && (hasD h.lo h.hi (gapS X i (i - 1)) && v (i - 1))
  else if h.kind = 9 then decide (i + 1 < X.n) && (hasD h.lo h.hi (gapS X i (i + 1)) && v (i + 1))
  else if h.kind = 10 then someP (fun j => hasD h.lo h.hi (gapS X i j) && v j) allw i
  else if h.kind = 11 then !someP (fun j => hasD h.lo h.hi (gapS X i j) && !v j) allw i
  else if h.kind = 12 then someU (fun j => hasD h.lo h.hi (gapS X i j) && v j) allw (X.n - i) i
  else if h.kind = 13 then !someU (fun j => hasD h.lo h.hi (gapS X i j) && !v j) allw (X.n - i) i
  else if h.kind = 16 then someP (fun j => hasD h.lo h.hi (gapS X i j) && ways j i) allw i
  else if h.kind = 17 then someU (fun j => hasD h.lo h.hi (gapS X i j) && ways i j) allw (X.n - i) i
  else false
def binS (X : TrcS) (h : Nd) (v w : Nat → Bool) (i : Nat) : Bool :=
  if h.kind = 5 then v i && w i
  else if h.kind = 6 then v i || w i
  else if h.kind = 7 then !v i || w i
  else if h.kind = 14 then someP (fun j => hasD h.lo h.hi (gapS X i j) && w j) v i
  else if h.kind = 15 then someU (fun j => hasD h.lo h.hi (gapS X i j) && w j) v (X.n - i) i
  else false
def leafS (X : TrcS) (h : Nd) (i : Nat) : Bool := if h.kind = 1 then true else if h.kind = 3 then X.holds i h.name else false
/-- What tests, told one by one, hold at a point. -/
def valL (vs : List (Nat → Bool)) (i q : Nat) : Bool := (vs.getD q fun _ => false) i
/-- Of a formula where it holds; of a regular expression where its tests hold. -/
def satB (X : TrcS) : Tr → (Nat → Bool) × List (Nat → Bool)
  | .leaf h => (leafS X h, [])
  | .un h a => (unS X h (satB X a).1 (reachT X.n (valL (satB X a).2) a 0), if h.kind = 19 then [(satB X a).1] else (satB X a).2)
  | .bin h a b => (binS X h (satB X a).1 (satB X b).1, (satB X a).2 ++ (satB X b).2)
def satT (X : TrcS) (t : Tr) : Nat → Bool := (satB X t).1
def valsT (X : TrcS) (t : Tr) : List (Nat → Bool) := (satB X t).2
theorem sat_leaf (X : TrcS) (h : Nd) (i : Nat) : satT X (.leaf h) i = leafS X h i := rfl
theorem sat_un (X : TrcS) (h : Nd) (a : Tr) (i : Nat) : satT X (.un h a) i = unS X h (satT X a) (reachT X.n (valL (valsT X a)) a 0) i := rfl
theorem sat_bin (X : TrcS) (h : Nd) (a b : Tr) (i : Nat) : satT X (.bin h a b) i = binS X h (satT X a) (satT X b) i := rfl
theorem vals_un (X : TrcS) (h : Nd) (a : Tr) : valsT X (.un h a) = if h.kind = 19 then [satT X a] else valsT X a := rfl
theorem vals_bin (X : TrcS) (h : Nd) (a b : Tr) : valsT X (.bin h a b) = valsT X a ++ valsT X b := rfl
theorem length_vals (X : TrcS) : ∀ t : Tr, (valsT X t).length = testsT t
  | .leaf _ => rfl
  | .un h a => by
    rw [vals_un]
    unfold testsT
    split
    · rfl
    · exact length_vals X a
  | .bin h a b => by
    rw [vals_bin, List.length_append, length_vals X a, length_vals X b]
    rfl
/-- The tests' truth is that of the formulas below the tests. -/
theorem vals_get (X : TrcS) : ∀ (t : Tr) (q : Nat), (valsT X t)[q]? = ((testTr t)[q]?).map fun x => match x with | .un _ f => satT X f | _ => fun _ => false
  | .leaf _, q => by simp [valsT, satB, testTr]
  | .un h a, q => by
    rw [vals_un]
    unfold testTr
    split
    · rename_i h19
      cases q <;> simp
    · exact vals_get X a q
  | .bin h a b, q => by
    rw [vals_bin]
    unfold testTr
    have hl : (valsT X a).length = (testTr a).length := by rw [length_vals, length_testTr]
    by_cases hq : q < (valsT X a).length
    · rw [List.getElem?_append_left hq, List.getElem?_append_left (by rw [← hl]; exact hq)]
      exact vals_get X a q
    · rw [List.getElem?_append_right (by omega), List.getElem?_append_right (by omega), hl]
      exact vals_get X b _
theorem someP_iff {is on : Nat → Bool} : ∀ {i : Nat}, someP is on i = true ↔ ∃ j, j ≤ i ∧ is j = true ∧ ∀ k, j < k → k ≤ i → on k = true
  | 0 => by
    unfold someP
    constructor
    · intro h; exact ⟨0, Nat.le_refl _, h, fun k h1 h2 => by omega⟩
    · rintro ⟨j, h1, h2, _⟩
      obtain rfl : j = 0 := by omega
      exact h2
  | i + 1 => by
    unfold someP
    rw [Bool.or_eq_true, Bool.and_eq_true, someP_iff]
    constructor
    · rintro (h | ⟨h1, j, h2, h3, h4⟩)
      · exact ⟨i + 1, Nat.le_refl _, h, fun k h1 h2 => by omega⟩
      · refine ⟨j, by omega, h3, fun k h5 h6 => ?_⟩
        by_cases e : k = i + 1
        · rw [e]; exact h1
        · exact h4 k h5 (by omega)
    · rintro ⟨j, h1, h2, h3⟩
      by_cases e : j = i + 1
      · left; rw [← e]; exact h2
      · right
        exact ⟨h3 _ (by omega) (Nat.le_refl _), j, by omega, h2, fun k h5 h6 => h3 k h5 (by omega)⟩
theorem someU_iff {is on : Nat → Bool} : ∀ {m i : Nat}, someU is on m i = true ↔ ∃ j, i ≤ j ∧ j < i + m ∧ is j = true ∧ ∀ k, i ≤ k → k < j → on k = true
  | 0, i => by
    unfold someU
    constructor
    · intro h; cases h
    · rintro ⟨j, h1, h2, _⟩; omega
  | m + 1, i => by
    unfold someU
    rw [Bool.or_eq_true, Bool.and_eq_true, someU_iff]
    constructor
    · rintro (h | ⟨h1, j, h2, h3, h4, h5⟩)
      · exact ⟨i, Nat.le_refl _, by omega, h, fun k h1 h2 => by omega⟩
      · refine ⟨j, by omega, by omega, h4, fun k h6 h7 => ?_⟩
        by_cases e : k = i
        · rw [e]; exact h1
        · exact h5 k (by omega) h7
    · rintro ⟨j, h1, h2, h3, h4⟩
      by_cases e : j = i
      · left; rw [← e]; exact h3
      · right
        exact ⟨h4 _ (Nat.le_refl _) (by omega), j, by omega, by omega, h3, fun k h5 h6 => h4 k (by omega) h6⟩
theorem someP_congr {is is' on on' : Nat → Bool} {i : Nat} (h1 : ∀ j, j ≤ i → is j = is' j) (h2 : ∀ j, j ≤ i → on j = on' j) : someP is on i = someP is' on' i := by
  induction i with
  | zero => exact h1 0 (Nat.le_refl _)
  | succ i ih =>
    unfold someP
    rw [h1 _ (Nat.le_refl _), h2 _ (Nat.le_refl _), ih (fun j h => h1 j (by omega)) (fun j h => h2 j (by omega))]
theorem someU_congr {is is' on on' : Nat → Bool} : ∀ {m i : Nat}, (∀ j, i ≤ j → j < i + m → is j = is' j) → (∀ j, i ≤ j → j < i + m → on j = on' j) → someU is on m i = someU is' on' m i
  | 0, _, _, _ => rfl
  | m + 1, i, h1, h2 => by
    unfold someU
    rw [h1 i (Nat.le_refl _) (by omega), h2 i (Nat.le_refl _) (by omega), someU_congr (fun j h h' => h1 j (by omega) (by omega)) (fun j h h' => h2 j (by omega) (by omega))]
theorem gap_comm (X : TrcS) (i j : Nat) : gapS X i j = gapS X j i := by unfold gapS; rw [Nat.max_comm, Nat.min_comm]
/-! ### Truth hangs on what is seen alone -/
/-- Two traces, the second one from point d on: as many points at least, times by their differences, and names, are one; both are told alike of as many points as n'. -/
structure Alike (d n' : Nat) (X' X : TrcS) : Prop where
  gap : ∀ i j, i < n' → j < n' → gapS X' i j = gapS X (d + i) (d + j)
  holds : ∀ i s, i < n' → X'.holds i s = X.holds (d + i) s
/-- All of a trace with other times. -/
theorem sat_shift {X' X : TrcS} (hn : X'.n = X.n) (h : Alike 0 X.n X' X) : ∀ t : Tr, (∀ i, i < X.n → satT X' t i = satT X t i) ∧ (∀ q i, i < X.n → valL (valsT X' t) i q = valL (valsT X t) i q)
  | .leaf hd => ⟨fun i hi => by
      rw [sat_leaf, sat_leaf]
      unfold leafS
      have := h.holds i hd.name hi
      rw [Nat.zero_add] at this
      rw [this], fun q i _ => rfl⟩
  | .un hd a => by
    obtain ⟨h1, h2⟩ := sat_shift hn h a
    have hg : ∀ i j, i < X.n → j < X.n → gapS X' i j = gapS X i j := fun i j hi hj => by
      have := h.gap i j hi hj
      rwa [Nat.zero_add, Nat.zero_add] at this
    have hr := reach_congr X.n (valL (valsT X' a)) (valL (valsT X a)) a 0 0 (fun i hi q _ => by rw [Nat.zero_add]; exact h2 q i hi)
    refine ⟨fun i hi => ?_, fun q i hi => ?_⟩
    · rw [sat_un, sat_un]
      unfold unS
      rw [hn]
      have p : ∀ (f f' : Nat → Bool), (∀ j, j < X.n → f j = f' j) → someP (fun j => hasD hd.lo hd.hi (gapS X' i j) && f j) allw i = someP (fun j => hasD hd.lo hd.hi (gapS X i j) && f' j) allw i := fun f f' hf => someP_congr (fun j hj => by rw [hg i j hi (by omega), hf j (by omega)]) (fun _ _ => rfl)
      have u : ∀ (f f' : Nat → Bool), (∀ j, j < X.n → f j = f' j) → someU (fun j => hasD hd.lo hd.hi (gapS X' i j) && f j) allw (X.n - i) i = someU (fun j => hasD hd.lo hd.hi (gapS X i j) && f' j) allw (X.n - i) i := fun f f' hf => someU_congr (fun j h0 hj => by rw [hg i j hi (by omega), hf j (by omega)]) (fun _ _ _ => rfl)
      rw [h1 i hi, p _ _ h1, u _ _ h1, p _ _ (fun j hj => by rw [h1 j hj]), u _ _ (fun j hj => by rw [h1 j hj]), p (fun j => reachT X.n (valL (valsT X' a)) a 0 j i) _ (fun j hj => hr j i hj hi), u (fun j => reachT X.n (valL (valsT X' a)) a 0 i j) _ (fun j hj => hr i j hi hj), hg i (i - 1) hi (by omega), h1 (i - 1) (by omega)]
      by_cases hl : i + 1 < X.n
      · rw [hg i (i + 1) hi hl, h1 (i + 1) hl]
      · simp [hl]
    · rw [vals_un, vals_un]
      split
      · cases q with
        | zero => exact h1 i hi
        | succ q => rfl
      · exact h2 q i hi
  | .bin hd a b => by
    obtain ⟨h1, h2⟩ := sat_shift hn h a
    obtain ⟨h3, h4⟩ := sat_shift hn h b
    have hg : ∀ i j, i < X.n → j < X.n → gapS X' i j = gapS X i j := fun i j hi hj => by
      have := h.gap i j hi hj
      rwa [Nat.zero_add, Nat.zero_add] at this
    refine ⟨fun i hi => ?_, fun q i hi => ?_⟩
    · rw [sat_bin, sat_bin]
      unfold binS
      rw [hn, h1 i hi, h3 i hi, someP_congr (is' := fun j => hasD hd.lo hd.hi (gapS X i j) && satT X b j) (on' := satT X a) (fun j hj => by rw [hg i j hi (by omega), h3 j (by omega)]) (fun j hj => h1 j (by omega)), someU_congr (is' := fun j => hasD hd.lo hd.hi (gapS X i j) && satT X b j) (on' := satT X a) (fun j _ hj => by rw [hg i j hi (by omega), h3 j (by omega)]) (fun j _ hj => h1 j (by omega))]
    · rw [vals_bin, vals_bin]
      have hl : (valsT X' a).length = (valsT X a).length := by rw [length_vals, length_vals]
      unfold valL at *
      simp only [List.getD_eq_getElem?_getD] at *
      by_cases hq : q < (valsT X a).length
      · rw [List.getElem?_append_left (by omega), List.getElem?_append_left hq]
        exact h2 q i hi
      · rw [List.getElem?_append_right (by omega), List.getElem?_append_right (by omega), hl]
        exact h4 _ i hi
end Go.Proofs.Ytdbbooibkiicnaa
