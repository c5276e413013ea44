/- What is ahead of a state, from node to node: the plain laws. -/
import Derived.Test.YtdbbooibkiicnaaPlanA
import Derived.Test.YtdbbooibkiicnaaPlanR
import Derived.Test.YtdbbooibkiicnaaSteps1
set_option linter.unusedVariables false
set_option linter.unusedSimpArgs false
/-! What is ahead of a state, from node to node: the plain laws. -/
namespace Go.Proofs.Ytdbbooibkiicnaa
open Go.RowKit
def fstS (L : Fst) (b : Nat) : Bool := decide (b ≠ 0) && inF L (b - 1) 0
theorem fstS_nil (b : Nat) : fstS [] b = false := by unfold fstS; simp [inF_nil]
theorem fstS_one (s b : Nat) : fstS [(s, fun _ => true)] b = (b == s + 1) := by
  unfold fstS
  rw [inF_cons, inF_nil, Bool.eq_iff_iff]
  simp
  omega
theorem fstS_append (l m : Fst) (b : Nat) : fstS (l ++ m) b = (fstS l b || fstS m b) := by unfold fstS; rw [inF_append, Bool.and_or_distrib_left]
theorem fstS_map (l : Fst) (f : Nat → Bool) (b : Nat) : fstS (l.map fun p => (p.1, fun x => p.2 x && f x)) b = (fstS l b && f 0) := by unfold fstS; rw [inF_map, Bool.and_assoc]
def aheadI (t : Tr) (z : Zf) (st i : Nat) : (Nat → Nat → Bool) × (Nat → Bool) := aheadO z (t.sub i) (posT t i true 0 0).2.1 (posT t i true 0 0).2.2 st
def UpI (t : Tr) (st i : Nat) : Prop := i < t.size ∧ (posT t i true 0 0).1 = true ∧ (posT t i true 0 0).2.2 ≤ st ∧ st < (posT t i true 0 0).2.2 + stepsN (t.sub i)
theorem up_one {t : Tr} (hv : regV t) (z : Zf) {st i : Nat} (h : UpI t st i) (hi : i + 1 < t.size) : i < parT t i ∧ UpI t st (parT t i) ∧
    ((t.sub (parT t i)).root.kind = 22 ∧ kidsN t (parT t i) = [i] ∧ (∀ q x, (aheadI t z st (parT t i)).1 q x = ((aheadI t z st i).1 q x || ((aheadI t z st i).2 x && inF (fstO t z i) q x))) ∧ (aheadI t z st (parT t i)).2 = (aheadI t z st i).2
    ∨ (t.sub (parT t i)).root.kind = 20 ∧ (∃ ia ib, kidsN t (parT t i) = [ia, ib]) ∧ aheadI t z st (parT t i) = aheadI t z st i
    ∨ (t.sub (parT t i)).root.kind = 21 ∧ (∃ ia, ia ≠ i ∧ kidsN t (parT t i) = [ia, i]) ∧ aheadI t z st (parT t i) = aheadI t z st i
    ∨ (t.sub (parT t i)).root.kind = 21 ∧ ∃ ib, ib < t.size ∧ kidsN t (parT t i) = [i, ib] ∧ (∀ q x, (aheadI t z st (parT t i)).1 q x = ((aheadI t z st i).1 q x || ((aheadI t z st i).2 x && inF (fstO t z ib) q x))) ∧ ∀ x, (aheadI t z st (parT t i)).2 x = ((aheadI t z st i).2 x && zerO t z ib x)) := by
  obtain ⟨h1, h2, h3, h4⟩ := h
  obtain ⟨hij, hjN, hpar⟩ := par_at t i hi
  obtain ⟨pj, hpj⟩ : ∃ pj, parT t i = pj := ⟨_, rfl⟩
  rw [hpj] at hij hjN hpar ⊢
  refine ⟨hij, ?_⟩
  rcases hpar with ⟨h, a, hxj, hij2⟩ | ⟨h, a, b, hxj, hij2⟩
  · obtain ⟨_, hpu⟩ := pos_un hjN hxj true 0 0
    obtain ⟨_, hak, _⟩ := kid_un hjN hxj
    obtain rfl : i = pj - 1 := by omega
    rw [hpu] at h2 h3 h4
    rw [hak] at h4
    simp only [Bool.and_eq_true, decide_eq_true_eq] at h2
    have hregj := own_regV t pj 0 0 hv hjN h2.1
    rw [hxj] at hregj
    have h22 : h.kind = 22 := (hregj.resolve_left h2.2).1
    have hsj : stepsN (Tr.un h a) = stepsN a := if_neg (by omega)
    refine ⟨⟨hjN, h2.1, h3, by rw [hxj, hsj]; exact h4⟩, .inl ⟨by rw [hxj]; exact h22, by unfold kidsN; rw [hxj], fun q x => ?_, ?_⟩⟩
    · unfold aheadI fstO
      rw [hxj, hpu, hak, ahead_un z h22]
      simp [h2.1, h2.2]
    · unfold aheadI
      rw [hxj, hpu, hak, ahead_un z h22]
  · obtain ⟨_, hpa, hpb⟩ := pos_bin hjN hxj true 0 0
    obtain ⟨_, hkb, hka⟩ := kid_bin hjN hxj
    have hap := a.size_pos
    have hbp := b.size_pos
    have hkk : kidsN t pj = [pj - 1 - b.size, pj - 1] := by unfold kidsN; rw [hxj]
    have hroot : (t.sub pj).root.kind = h.kind := by rw [hxj]; rfl
    rcases hij2 with hij2 | hij2
    · obtain rfl : i = pj - 1 := by omega
      rw [hpb] at h2 h3 h4
      rw [hkb] at h4
      dsimp only at h2 h3 h4
      have hregj := own_regV t pj 0 0 hv hjN h2
      rw [hxj] at hregj
      have hup : UpI t st pj := ⟨hjN, h2, by omega, by rw [hxj]; show st < _ + (stepsN a + stepsN b); omega⟩
      have heq : aheadI t z st pj = aheadI t z st (pj - 1) := by
        unfold aheadI
        rw [hxj, hpb, hkb, ahead_bin z h a b _ _ st (by omega)]
      rcases hregj.1 with hk | hk
      · exact ⟨hup, .inr (.inl ⟨by rw [hroot, hk], ⟨_, _, hkk⟩, heq⟩)⟩
      · exact ⟨hup, .inr (.inr (.inl ⟨by rw [hroot, hk], ⟨_, by omega, hkk⟩, heq⟩))⟩
    · obtain rfl : i = pj - 1 - b.size := by omega
      rw [hpa] at h2 h3 h4
      rw [hka] at h4
      have hregj := own_regV t pj 0 0 hv hjN h2
      rw [hxj] at hregj
      have hup : UpI t st pj := ⟨hjN, h2, by omega, by rw [hxj]; show st < _ + (stepsN a + stepsN b); omega⟩
      rcases hregj.1 with hk | hk
      · refine ⟨hup, .inr (.inl ⟨by rw [hroot, hk], ⟨_, _, hkk⟩, ?_⟩)⟩
        unfold aheadI
        rw [hxj, hpa, hka, ahead_alt z hk a b _ _ st h4]
      · refine ⟨hup, .inr (.inr (.inr ⟨by rw [hroot, hk], _, by omega, hkk, fun q x => ?_, fun x => ?_⟩))⟩
        · unfold aheadI fstO
          rw [hxj, hpa, hka, hpb, hkb, ahead_seq z hk a b _ _ st h4, h2]
        · unfold aheadI zerO
          rw [hxj, hpa, hka, hpb, hkb, ahead_seq z hk a b _ _ st h4, h2]
theorem up_stop {t : Tr} (hv : regV t) (z : Zf) {st x : Nat} : ∀ (d i : Nat), t.size - i ≤ d → UpI t st i → (aheadI t z st i).2 x = false → (aheadO z t 0 0 st).2 x = false ∧ ∀ q, (aheadO z t 0 0 st).1 q x = (aheadI t z st i).1 q x
  | 0, i, hd, h, _ => by have := h.1; omega
  | d + 1, i, hd, h, hz => by
    by_cases hi : i + 1 < t.size
    · obtain ⟨h1, h2, h3⟩ := up_one hv z h hi
      have key : (aheadI t z st (parT t i)).2 x = false ∧ ∀ q, (aheadI t z st (parT t i)).1 q x = (aheadI t z st i).1 q x := by
        rcases h3 with ⟨_, _, e1, e2⟩ | ⟨_, _, e⟩ | ⟨_, _, e⟩ | ⟨_, ib, _, _, e1, e2⟩
        · exact ⟨by rw [e2, hz], fun q => by rw [e1, hz]; simp⟩
        · exact ⟨by rw [e, hz], fun q => by rw [e]⟩
        · exact ⟨by rw [e, hz], fun q => by rw [e]⟩
        · exact ⟨by rw [e2, hz]; rfl, fun q => by rw [e1, hz]; simp⟩
      obtain ⟨k1, k2⟩ := up_stop hv z d (parT t i) (by omega) h2 key.1
      exact ⟨k1, fun q => by rw [k2, key.2]⟩
    · obtain rfl : i = t.size - 1 := by have := h.1; omega
      have e : aheadI t z st (t.size - 1) = aheadO z t 0 0 st := by
        unfold aheadI
        rw [pos_root, Tr.sub_root]
      rw [e] at hz ⊢
      exact ⟨hz, fun _ => rfl⟩
theorem up_start {t : Tr} (hv : regV t) (z : Zf) {st p : Nat} (hp : (stepsL t 0)[st]? = some p) : UpI t st p ∧ (∀ q x, (aheadI t z st p).1 q x = false) ∧ ∀ x, (aheadI t z st p).2 x = true := by
  obtain ⟨_, hqN, ⟨hl0, hqs, _⟩, hqo, hqst⟩ := step_at t 0 st p 0 0 hv hp
  rw [Nat.sub_zero] at hqN hqs hqo hqst
  refine ⟨⟨hqN, hqo, by omega, by rw [hqs, hqst]; show st < 0 + st + 1; omega⟩, ?_, ?_⟩
  · intro q x; unfold aheadI; rw [hqs]; rfl
  · intro x; unfold aheadI; rw [hqs]; rfl
end Go.Proofs.Ytdbbooibkiicnaa
