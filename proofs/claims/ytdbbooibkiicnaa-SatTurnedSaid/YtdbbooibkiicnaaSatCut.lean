/- What has none of the future's signs hangs on the points so far alone, what has none of the past's on those from here on: plain. -/
import Derived.Test.YtdbbooibkiicnaaSatM
import Derived.Test.YtdbbooibkiicnaaSatB
import Derived.Test.YtdbbooibkiicnaaMk8E
set_option linter.unusedVariables false
set_option linter.unusedSimpArgs false
/-! What has none of the future's signs hangs on the points so far alone, what has none of the past's on those from here on: plain. -/
namespace Go.Proofs.Ytdbbooibkiicnaa
theorem someU_shift (is on : Nat → Bool) (d : Nat) : ∀ m i, someU is on m (d + i) = someU (fun j => is (d + j)) (fun j => on (d + j)) m i
  | 0, _ => rfl
  | m + 1, i => by
    unfold someU
    rw [Nat.add_assoc, someU_shift is on d m (i + 1)]
/-- Has it none of the other side's signs? -/
def sideK (p : Bool) (k : Int) : Prop := if p then k ≠ 9 ∧ k ≠ 12 ∧ k ≠ 13 ∧ k ≠ 15 ∧ k ≠ 17 else k ≠ 8 ∧ k ≠ 10 ∧ k ≠ 11 ∧ k ≠ 14 ∧ k ≠ 16
def sideT (p : Bool) : Tr → Prop
  | .leaf h => sideK p h.kind
  | .un h a => sideK p h.kind ∧ sideT p a
  | .bin h a b => sideK p h.kind ∧ sideT p a ∧ sideT p b
theorem sat_cut {d n' : Nat} {X' X : TrcS} (hn' : X'.n = n') (hn : d + n' ≤ X.n) (h : Alike d n' X' X) (p : Bool) (hp : if p then d = 0 else d + n' = X.n) :
    ∀ t : Tr, sideT p t → (∀ i, i < n' → satT X' t i = satT X t (d + i)) ∧ (∀ q i, i < n' → valL (valsT X' t) i q = valL (valsT X t) (d + i) q)
  | .leaf hd, _ => ⟨fun i hi => by
      rw [sat_leaf, sat_leaf]
      unfold leafS
      rw [h.holds i hd.name hi], fun q i _ => rfl⟩
  | .un hd a, ho => by
    obtain ⟨hk, ha⟩ := ho
    obtain ⟨h1, h2⟩ := sat_cut hn' hn h p hp a ha
    have hr : ∀ i j, i < n' → j < n' → reachT n' (valL (valsT X' a)) a 0 i j = reachT X.n (valL (valsT X a)) a 0 (d + i) (d + j) := fun i j hi hj => by
      rw [reach_congr n' (valL (valsT X' a)) (fun i q => valL (valsT X a) (d + i) q) a 0 0 (fun i hi q _ => by rw [Nat.zero_add]; exact h2 q i hi) i j hi hj]
      exact reach_cut hn (valL (valsT X a)) a 0 i j hi hj
    refine ⟨fun i hi => ?_, fun q i hi => ?_⟩
    · rw [sat_un, sat_un]
      unfold unS
      rw [hn']
      cases p with
      | true =>
        simp only [if_true] at hp
        subst hp
        obtain ⟨k1, k2, k3, k4, k5⟩ := hk
        simp only [Nat.zero_add] at h1 h2 hr ⊢
        have hg : ∀ i j, i < n' → j < n' → gapS X' i j = gapS X i j := fun i j hi hj => by
          have := h.gap i j hi hj
          rwa [Nat.zero_add, Nat.zero_add] at this
        have q : ∀ (f f' : Nat → Bool), (∀ j, j < n' → f j = f' j) → someP (fun j => hasD hd.lo hd.hi (gapS X' i j) && f j) allw i = someP (fun j => hasD hd.lo hd.hi (gapS X i j) && f' j) allw i := fun f f' hf => someP_congr (fun j hj => by rw [hg i j hi (by omega), hf j (by omega)]) (fun _ _ => rfl)
        rw [if_neg k1, if_neg k1, if_neg k2, if_neg k2, if_neg k3, if_neg k3, if_neg k5, if_neg k5, h1 i hi, hg i (i - 1) hi (by omega), h1 (i - 1) (by omega), q _ _ h1, q _ _ (fun j hj => by rw [h1 j hj]), q (fun j => reachT n' (valL (valsT X' a)) a 0 j i) _ (fun j hj => hr j i hj hi)]
      | false =>
        simp only [Bool.false_eq_true, if_false] at hp
        obtain ⟨k1, k2, k3, k4, k5⟩ := hk
        have u : ∀ (f f' : Nat → Bool), (∀ j, j < n' → f j = f' (d + j)) → someU (fun j => hasD hd.lo hd.hi (gapS X' i j) && f j) allw (n' - i) i = someU (fun j => hasD hd.lo hd.hi (gapS X (d + i) j) && f' j) allw (X.n - (d + i)) (d + i) := fun f f' hf => by
          rw [someU_shift, show X.n - (d + i) = n' - i by omega]
          exact someU_congr (fun j h0 hj => by rw [h.gap i j hi (by omega), hf j (by omega)]) (fun _ _ _ => rfl)
        rw [if_neg k1, if_neg k1, if_neg k2, if_neg k2, if_neg k3, if_neg k3, if_neg k5, if_neg k5, h1 i hi, u _ _ h1, u _ (fun j => !satT X a j) (fun j hj => by rw [h1 j hj]), u (fun j => reachT n' (valL (valsT X' a)) a 0 i j) (fun j => reachT X.n (valL (valsT X a)) a 0 (d + i) j) (fun j hj => hr i j hi hj)]
        by_cases hl : i + 1 < n'
        · rw [h.gap i (i + 1) hi hl, h1 (i + 1) hl, show d + (i + 1) = d + i + 1 by omega, show decide (i + 1 < n') = decide (d + i + 1 < X.n) by rw [decide_eq_decide]; omega]
        · rw [decide_eq_false hl, decide_eq_false (show ¬ d + i + 1 < X.n by omega)]
          simp only [Bool.false_and]
    · rw [vals_un, vals_un]
      split
      · cases q with
        | zero => exact h1 i hi
        | succ q => rfl
      · exact h2 q i hi
  | .bin hd a b, ho => by
    obtain ⟨hk, ha, hb⟩ := ho
    obtain ⟨h1, h2⟩ := sat_cut hn' hn h p hp a ha
    obtain ⟨h3, h4⟩ := sat_cut hn' hn h p hp b hb
    refine ⟨fun i hi => ?_, fun q i hi => ?_⟩
    · rw [sat_bin, sat_bin]
      unfold binS
      rw [hn', h1 i hi, h3 i hi]
      cases p with
      | true =>
        simp only [if_true] at hp
        subst hp
        obtain ⟨k1, k2, k3, k4, k5⟩ := hk
        simp only [Nat.zero_add] at h1 h3 ⊢
        have hg : ∀ i j, i < n' → j < n' → gapS X' i j = gapS X i j := fun i j hi hj => by
          have := h.gap i j hi hj
          rwa [Nat.zero_add, Nat.zero_add] at this
        rw [if_neg k4, if_neg k4, someP_congr (is' := fun j => hasD hd.lo hd.hi (gapS X i j) && satT X b j) (on' := satT X a) (fun j hj => by rw [hg i j hi (by omega), h3 j (by omega)]) (fun j hj => h1 j (by omega))]
      | false =>
        simp only [Bool.false_eq_true, if_false] at hp
        obtain ⟨k1, k2, k3, k4, k5⟩ := hk
        rw [if_neg k4, if_neg k4, someU_shift (fun j => hasD hd.lo hd.hi (gapS X (d + i) j) && satT X b j), show X.n - (d + i) = n' - i by omega,
          someU_congr (is' := fun j => hasD hd.lo hd.hi (gapS X (d + i) (d + j)) && satT X b (d + j)) (on' := fun j => satT X a (d + j)) (fun j _ hj => by rw [h.gap i j hi (by omega), h3 j (by omega)]) (fun j _ hj => h1 j (by omega))]
    · rw [vals_bin, vals_bin]
      have hl : (valsT X' a).length = (valsT X a).length := by rw [length_vals, length_vals]
      unfold valL at *
      simp only [List.getD_eq_getElem?_getD] at *
      by_cases hq : q < (valsT X a).length
      · rw [List.getElem?_append_left (by omega), List.getElem?_append_left hq]
        exact h2 q i hi
      · rw [List.getElem?_append_right (by omega), List.getElem?_append_right (by omega), hl]
        exact h4 _ i hi
/-- The other side's signs are turned to this one's. -/
def pastK (p : Bool) (k : Int) : Int := if p then (if k = 9 ∨ k = 15 ∨ k = 17 then k - 1 else if k = 12 ∨ k = 13 then k - 2 else k) else (if k = 8 ∨ k = 14 ∨ k = 16 then k + 1 else if k = 10 ∨ k = 11 then k + 2 else k)
def pastN (p : Bool) (n : Nd) : Nd := { n with kind := pastK p n.kind }
def pastT (p : Bool) : Tr → Tr
  | .leaf h => .leaf (pastN p h)
  | .un h a => .un (pastN p h) (pastT p a)
  | .bin h a b => .bin (pastN p h) (pastT p a) (pastT p b)
theorem side_past (p : Bool) : ∀ t : Tr, sideT p (pastT p t)
  | .leaf h => by unfold pastT sideT sideK pastN pastK; cases p <;> simp <;> (repeat' split) <;> omega
  | .un h a => ⟨by unfold sideK pastN pastK; cases p <;> simp <;> (repeat' split) <;> omega, side_past p a⟩
  | .bin h a b => ⟨by unfold sideK pastN pastK; cases p <;> simp <;> (repeat' split) <;> omega, side_past p a, side_past p b⟩
theorem past_size (p : Bool) : ∀ t : Tr, (pastT p t).size = t.size
  | .leaf _ => rfl
  | .un h a => by simp [pastT, Tr.size, past_size p a]
  | .bin h a b => by simp [pastT, Tr.size, past_size p a, past_size p b]
theorem past_flat (p : Bool) : ∀ (t : Tr) (o : Nat), (pastT p t).flat o = (t.flat o).map (pastN p)
  | .leaf h, o => rfl
  | .un h a, o => by simp [pastT, Tr.flat, past_flat p a, past_size p a, pastN]
  | .bin h a b, o => by simp [pastT, Tr.flat, past_flat p a, past_flat p b, past_size p a, past_size p b, pastN]
theorem past_kind (p : Bool) (k : Int) : timedS (pastK p k) = timedS k ∧ arityS (pastK p k) = arityS k ∧ wantsS (pastK p k) = wantsS k ∧ regS (pastK p k) = regS k ∧ (pastK p k = 3 ↔ k = 3) := by
  by_cases h : 8 ≤ k ∧ k ≤ 17
  · cases p <;> rcases (show k = 8 ∨ k = 9 ∨ k = 10 ∨ k = 11 ∨ k = 12 ∨ k = 13 ∨ k = 14 ∨ k = 15 ∨ k = 16 ∨ k = 17 by omega) with rfl | rfl | rfl | rfl | rfl | rfl | rfl | rfl | rfl | rfl <;> decide
  · have : pastK p k = k := by unfold pastK; cases p <;> simp <;> (repeat' split) <;> omega
    rw [this]
    exact ⟨rfl, rfl, rfl, rfl, Iff.rfl⟩
theorem past_fields (p : Bool) (n : Nd) : fieldsS (pastN p n) = fieldsS n := by
  obtain ⟨h1, h2, _, _, h5⟩ := past_kind p n.kind
  unfold fieldsS pastN
  simp only [h1, h2, h5]
theorem past_root (p : Bool) (t : Tr) : (pastT p t).root = pastN p t.root := by cases t <;> rfl
theorem past_valid (p : Bool) : ∀ t : Tr, validT t = true → validT (pastT p t) = true
  | .leaf h, hv => by
    unfold validT at hv
    unfold pastT validT
    exact (past_fields p { h with kids := [] }).trans hv
  | .un h a, hv => by
    simp only [validT, Bool.and_eq_true, beq_iff_eq] at hv
    obtain ⟨⟨h1, h2⟩, h3⟩ := hv
    simp only [pastT, validT, Bool.and_eq_true, beq_iff_eq]
    refine ⟨⟨(past_fields p { h with kids := [0] }).trans h1, ?_⟩, past_valid p a h3⟩
    rw [past_root]
    exact ((past_kind p a.root.kind).2.2.2.1).trans (h2.trans (past_kind p h.kind).2.2.1.symm)
  | .bin h a b, hv => by
    simp only [validT, Bool.and_eq_true, beq_iff_eq] at hv
    obtain ⟨⟨⟨⟨h1, h2⟩, h3⟩, h4⟩, h5⟩ := hv
    simp only [pastT, validT, Bool.and_eq_true, beq_iff_eq]
    refine ⟨⟨⟨⟨(past_fields p { h with kids := [0, 0] }).trans h1, ?_⟩, ?_⟩, past_valid p a h4⟩, past_valid p b h5⟩
    · rw [past_root]
      exact ((past_kind p a.root.kind).2.2.2.1).trans (h2.trans (past_kind p h.kind).2.2.1.symm)
    · rw [past_root]
      exact ((past_kind p b.root.kind).2.2.2.1).trans (h3.trans (past_kind p h.kind).2.2.1.symm)
end Go.Proofs.Ytdbbooibkiicnaa
/-! A trace's first events, its last ones: plain, and in memory. -/
namespace Go.Proofs.Ytdbbooibkiicnaa
theorem timeE_take {es : List Evt} {k i : Nat} (h : i < k) : timeE (es.take k) i = timeE es i := by
  unfold timeE
  rw [List.getElem?_take_of_lt h]
theorem timeE_drop (es : List Evt) (k i : Nat) : timeE (es.drop k) i = timeE es (k + i) := by
  unfold timeE
  rw [List.getElem?_drop]
theorem alike_take (ss : List ByteArray) (es : List Evt) {k : Nat} (hk : k ≤ es.length) : Alike 0 k (trcE ss (es.take k)) (trcE ss es) := by
  refine ⟨fun i j hi hj => ?_, fun i s hi => ?_⟩
  · simp only [Nat.zero_add]
    unfold gapS trcE
    simp only
    rw [timeE_take hi, timeE_take hj]
  · simp only [Nat.zero_add]
    unfold trcE holdsT
    simp only
    rw [List.getElem?_take_of_lt hi]
theorem alike_drop (ss : List ByteArray) (es : List Evt) (k n' : Nat) : Alike k n' (trcE ss (es.drop k)) (trcE ss es) := by
  refine ⟨fun i j hi hj => ?_, fun i s hi => ?_⟩
  · unfold gapS trcE
    simp only
    rw [timeE_drop, timeE_drop]
  · unfold trcE holdsT
    simp only
    rw [List.getElem?_drop]
theorem sat_take (ss : List ByteArray) (es : List Evt) {k : Nat} (hk : k ≤ es.length) {t : Tr} (ht : sideT true t) {i : Nat} (hi : i < k) : satT (trcE ss (es.take k)) t i = satT (trcE ss es) t i := by
  have h := (sat_cut (d := 0) (n' := k) (X' := trcE ss (es.take k)) (X := trcE ss es) (by simp [trcE]; omega) (by simpa [trcE] using hk) (alike_take ss es hk) true rfl t ht).1 i hi
  rwa [Nat.zero_add] at h
theorem sat_drop (ss : List ByteArray) (es : List Evt) {k : Nat} (hk : k ≤ es.length) {t : Tr} (ht : sideT false t) {i : Nat} (hi : i < es.length - k) : satT (trcE ss (es.drop k)) t i = satT (trcE ss es) t (k + i) :=
  (sat_cut (d := k) (n' := es.length - k) (X' := trcE ss (es.drop k)) (X := trcE ss es) (by simp [trcE]) (by simp [trcE]; omega) (alike_drop ss es k _) false (by simp [trcE]; omega) t ht).1 i hi
theorem mayT_iff {ss : List ByteArray} {es : List Evt} : mayT ss es = true ↔ namesOk ss = true ∧ ∀ i (h : i < es.length), idsOk es[i].ids ss.length = true ∧ (i = 0 ∨ timeE es (i - 1) ≤ es[i].time) := by
  unfold mayT
  rw [Bool.and_eq_true, allI_iff]
  constructor
  · rintro ⟨h1, h2⟩
    refine ⟨h1, fun i hi => ?_⟩
    have := h2 i (Nat.zero_le _) (by omega)
    unfold evtAt at this
    rw [List.getElem?_eq_getElem hi] at this
    simpa using this
  · rintro ⟨h1, h2⟩
    refine ⟨h1, fun i _ hi => ?_⟩
    have hi : i < es.length := by omega
    unfold evtAt
    rw [List.getElem?_eq_getElem hi]
    simpa using h2 i hi
theorem mayT_take {ss : List ByteArray} {es : List Evt} (h : mayT ss es = true) (k : Nat) : mayT ss (es.take k) = true := by
  obtain ⟨h1, h2⟩ := mayT_iff.1 h
  refine mayT_iff.2 ⟨h1, fun i hi => ?_⟩
  have hi' : i < k ∧ i < es.length := by simpa [Nat.lt_min] using hi
  obtain ⟨h3, h4⟩ := h2 i hi'.2
  have e : (es.take k)[i] = es[i]'hi'.2 := by simp
  rw [e, timeE_take (by omega)]
  exact ⟨h3, h4⟩
theorem mayT_drop {ss : List ByteArray} {es : List Evt} (h : mayT ss es = true) (k : Nat) : mayT ss (es.drop k) = true := by
  obtain ⟨h1, h2⟩ := mayT_iff.1 h
  refine mayT_iff.2 ⟨h1, fun i hi => ?_⟩
  have hi' : k + i < es.length := by simp at hi; omega
  obtain ⟨h3, h4⟩ := h2 (k + i) hi'
  have e : (es.drop k)[i] = es[k + i]'hi' := by simp
  rw [e]
  refine ⟨h3, ?_⟩
  rcases Nat.eq_zero_or_pos i with h0 | h0
  · exact .inl h0
  · right
    rw [timeE_drop, show k + (i - 1) = k + i - 1 by omega]
    rcases h4 with h5 | h5
    · omega
    · exact h5
/-- The slice from event k on. -/
theorem EvsF.drop {F : Fz} {ad : Addr} {n : Nat} {es : List Evt} (h : EvsF F (some ad) n es) {k : Nat} (hk : k ≤ n) : EvsF F (some (ad.add (k * 2))) (n - k) (es.drop k) := by
  have hl := h.1
  refine ⟨by simp; omega, fun h0 => ⟨_, rfl, fun i hi => ?_⟩⟩
  have hi' : k + i < es.length := by simp at hi; omega
  obtain ⟨ad', e, hh⟩ := h.2 (by omega)
  injection e with e
  subst e
  obtain ⟨h1, Ai, ci, h2, h3, h4, h5⟩ := hh (k + i) hi'
  have e : (es.drop k)[i] = es[k + i]'hi' := by simp
  rw [e]
  refine ⟨h1, Ai, ci, h2, h3, ?_, ?_⟩
  · rw [add_of_add ad (k * 2) (i * 2), show k * 2 + i * 2 = (k + i) * 2 by omega]; exact h4
  · rw [add_of_add ad (k * 2) (i * 2), show k * 2 + i * 2 = (k + i) * 2 by omega]; exact h5
end Go.Proofs.Ytdbbooibkiicnaa
