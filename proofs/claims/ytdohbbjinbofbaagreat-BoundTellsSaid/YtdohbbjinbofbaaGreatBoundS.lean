/- The walks of regex.wide and regex.memo. -/
import Derived.Test.YtdohbbjinbofbaaGreatBoundH
import Derived.Deep.RegionHeld3
set_option linter.unusedVariables false
set_option linter.unusedSimpArgs false
/-! The walks of regex.wide and regex.memo. -/
namespace Go.Proofs.YtdohbbjinbofbaaGreat
open Go.RowKit
set_option maxRecDepth 100000 in
theorem rwide_w (M N : Nat) (hM : M ≤ 1000) (P : Option Addr) (pn pc : Nat) (w : World) : Calls Tryz.prog 57 #[.agg #[.int .i64 (M : Nat), .int .i64 (N : Nat), .slice P pn pc]] w fun e w' => e = .returned (encU (M / 64 + 1)) ∧ Below w.heap.size w w' := by
  obtain ⟨p0, p1, p2, _, _, _⟩ := blk3 (Blk.new w 75 #[.int .i64 (M : Nat), .int .i64 (N : Nat), .slice P pn pc])
  go_enter Tryz.func57, Tryz.ntmps57
  go_wp2_with fail
  go_ret
  exact ⟨by simp, balloc _ _⟩
set_option maxRecDepth 100000 in
set_option maxHeartbeats 4000000 in
theorem rmemo_w (M N : Nat) (hM : M ≤ 1000) (hN : N ≤ 1000) (P : Option Addr) (pn pc : Nat) (room : Int) (C : Nat) (hC : min (max room 1) 4096 = (C : Int)) (w : World) :
    Calls Tryz.prog 89 #[.agg #[.int .i64 (M : Nat), .int .i64 (N : Nat), .slice P pn pc], .int .i64 room] w fun e w' => e = .returned (encU (C * (2 * (M / 64 + 1) + (N + 63) / 64 + 1))) ∧ Below w.heap.size w w' := by
  have hW := fun X => rwide_w M N hM P pn pc X
  obtain ⟨Wn, hWn⟩ : ∃ Wn, M / 64 + 1 = Wn := ⟨_, rfl⟩
  obtain ⟨V, hV⟩ : ∃ V, (N + 63) / 64 = V := ⟨_, rfl⟩
  rw [hWn] at hW ⊢
  rw [hV]
  have hWb : Wn ≤ 16 := by omega
  have hVb : V ≤ 16 := by omega
  have hCb : C ≤ 4096 := by omega
  obtain ⟨W2, hW2⟩ : ∃ W2, 2 * Wn = W2 := ⟨_, rfl⟩
  rw [hW2]
  obtain ⟨S1, hS1⟩ : ∃ S1, W2 + V = S1 := ⟨_, rfl⟩
  rw [hS1]
  obtain ⟨S2, hS2⟩ : ∃ S2, S1 + 1 = S2 := ⟨_, rfl⟩
  rw [hS2]
  have hmul : C * S2 ≤ 1000000 := Nat.le_trans (Nat.mul_le_mul hCb (show S2 ≤ 100 by omega)) (by omega)
  have hmz : (C : Int) * (S2 : Int) = ((C * S2 : Nat) : Int) := by rw [Int.natCast_mul]
  obtain ⟨R, hR⟩ : ∃ R, C * S2 = R := ⟨_, rfl⟩
  rw [hR] at hmz hmul ⊢
  obtain ⟨N64, hN64⟩ : ∃ N64 : Nat, N + 64 = N64 := ⟨_, rfl⟩
  obtain ⟨N63, hN63⟩ : ∃ N63 : Nat, N + 63 = N63 := ⟨_, rfl⟩
  have wA : IntKind.i64.wrap ((N : Int) + 64) = (N64 : Int) := by rw [show (N : Int) + 64 = (N64 : Int) by omega]; exact wrap_i (by omega) (by omega)
  have wB : IntKind.i64.wrap ((N64 : Int) - 1) = (N63 : Int) := by rw [show (N64 : Int) - 1 = (N63 : Int) by omega]; exact wrap_i (by omega) (by omega)
  have wC : IntKind.i64.wrap ((N63 : Int).tdiv 64) = (V : Int) := by
    have : (N63 : Int).tdiv 64 = ((N63 / 64 : Nat) : Int) := by rw [Int.tdiv_eq_ediv_of_nonneg (by omega)]; rfl
    rw [this, ← hN63, hV]; exact wrap_i (by omega) (by omega)
  have wC' : IntKind.i64.wrap ((N63 : Int) / 64) = (V : Int) := by rw [show (N63 : Int) / 64 = ((N63 / 64 : Nat) : Int) from rfl, ← hN63, hV]; exact wrap_i (by omega) (by omega)
  have wD : IntKind.u64.wrap (V : Int) = (V : Int) := wrap_u (by omega) (by omega)
  have wE : IntKind.u64.wrap (2 * (Wn : Int)) = (W2 : Int) := by rw [show 2 * (Wn : Int) = (W2 : Int) by omega]; exact wrap_u (by omega) (by omega)
  have wF : IntKind.u64.wrap ((W2 : Int) + (V : Int)) = (S1 : Int) := by rw [show (W2 : Int) + (V : Int) = (S1 : Int) by omega]; exact wrap_u (by omega) (by omega)
  have wG : IntKind.u64.wrap ((S1 : Int) + 1) = (S2 : Int) := by rw [show (S1 : Int) + 1 = (S2 : Int) by omega]; exact wrap_u (by omega) (by omega)
  have wH : IntKind.u64.wrap (C : Int) = (C : Int) := wrap_u (by omega) (by omega)
  have wI : IntKind.u64.wrap ((C : Int) * (S2 : Int)) = (R : Int) := by rw [hmz]; exact wrap_u (by omega) (by omega)
  have HW := Lib.hid hW
  have hB := Blk.new w 75 #[.int .i64 (M : Nat), .int .i64 (N : Nat), .slice P pn pc]
  obtain ⟨p0, p1, p2, _, _, _⟩ := blk3 hB
  have hb := balloc w (.cells #[.int .i64 (M : Nat), .int .i64 (N : Nat), .slice P pn pc] 75)
  clear hW hWn hV hW2 hS1 hS2 hmz hR hN64 hN63 hM hN hmul hWb hVb hCb
  go_enter Tryz.func89, Tryz.ntmps89
  go_wp2_with fail
  obtain ⟨W, hW⟩ : ∃ W, W = (w.alloc (.cells #[.int .i64 (M : Nat), .int .i64 (N : Nat), .slice P pn pc] 75)) := ⟨_, rfl⟩
  have hlW : w.heap.size < W.heap.size := by rw [hW]; simp
  rw [← hW] at hb p0 p1 p2 ⊢
  clear hB hW
  go_region_held3 (fun w' => w'.cell? ⟨w.heap.size, 0, none⟩ = some (.int .i64 (M : Nat)) ∧ w'.cell? ⟨w.heap.size, 1, none⟩ = some (.int .i64 (N : Nat)) ∧ w'.cell? ⟨w.heap.size, 2, none⟩ = some (.slice P pn pc)) (go_keep)
    (first
      | (go_at_call 57; refine (HW.out _).mono ?_; rintro e w3 ⟨rfl, hw3⟩; have hz : Below W.heap.size W w3 := (by first | exact hw3 | exact ⟨hw3.os, hw3.tape, hw3.output, hw3.size, hw3.block⟩); have s0 := (hz.cell (p := ⟨w.heap.size, 0, none⟩) hlW).trans p0; have s1 := (hz.cell (p := ⟨w.heap.size, 1, none⟩) hlW).trans p1; have s2 := (hz.cell (p := ⟨w.heap.size, 2, none⟩) hlW).trans p2))
  all_goals
    go_wp2_with fail
    go_ret
    exact ⟨by simp [wC', wD, wF, wG, wI], bthen hb hz⟩
end Go.Proofs.YtdohbbjinbofbaaGreat
/-! What is kept at rest and ahead: plain lemmas. -/
namespace Go.Proofs.YtdohbbjinbofbaaGreat
/-- What a node itself adds to what stays. -/
def stayO (C : Nat) (x : Tr) : Nat := (if matchS x.root.kind = true then C * (2 * (stepsM x / 64 + 1) + (testsM x + 63) / 64 + 1) else 0) + if x.root.kind = 16 then wideN x.root * (1 + (stepsM x / 64 + 1)) else 0
def fleetO (C : Nat) (x : Tr) : Nat := if x.root.kind = 17 then 1 + (stepsM x / 64 + 1) + stayT C x else 0
theorem matchS_iff {k : Int} : matchS k = true ↔ k = 16 ∨ k = 17 := by unfold matchS; rw [decide_eq_true_iff]
/-- Only a node with one kid is a match. -/
theorem valid_match {x : Tr} (hv : validT x = true) (hm : x.root.kind = 16 ∨ x.root.kind = 17) : ∃ h a, x = .un h a ∧ spanS h.lo h.hi = true := by
  cases x with
  | leaf h =>
    have hm' : h.kind = 16 ∨ h.kind = 17 := hm
    have := fields_kids (show fieldsS { h with kids := [] } = true from hv)
    rcases hm' with e | e <;> rw [show ({ h with kids := [] } : Nd).kind = h.kind from rfl, e] at this <;> simp [arityS] at this
  | un h a =>
    have hm' : h.kind = 16 ∨ h.kind = 17 := hm
    simp only [validT, Bool.and_eq_true, beq_iff_eq] at hv
    obtain ⟨⟨h2, h3⟩, _⟩ := hv
    refine ⟨h, a, rfl, ?_⟩
    unfold fieldsS at h2
    simp only [Bool.and_eq_true] at h2
    have h4 := h2.1.2
    have ht : timedS h.kind = true := by rcases hm' with e | e <;> rw [e] <;> rfl
    rw [show ({ h with kids := [0] } : Nd).kind = h.kind from rfl, ht, if_pos rfl] at h4
    exact h4
  | bin h a b =>
    have hm' : h.kind = 16 ∨ h.kind = 17 := hm
    simp only [validT, Bool.and_eq_true] at hv
    have := fields_kids hv.1.1.1.1
    rcases hm' with e | e <;> rw [show ({ h with kids := [0, 0] } : Nd).kind = h.kind from rfl, e] at this <;> simp [arityS] at this
theorem stayO_no {C : Nat} {x : Tr} (hm : ¬ (x.root.kind = 16 ∨ x.root.kind = 17)) : stayO C x = 0 := by
  unfold stayO
  rw [if_neg (fun e => hm (matchS_iff.1 e)), if_neg (fun e => hm (.inl e))]
theorem stayO_un {C : Nat} {h : Nd} {a : Tr} (hm : h.kind = 16 ∨ h.kind = 17) : stayO C (.un h a) = memoN C a + if h.kind = 16 then wideN h * (1 + stW a) else 0 := by
  unfold stayO
  have h1 : stepsM (.un h a) = stepsN a := by simp only [stepsM]; rw [if_pos hm]
  have h2 : testsM (.un h a) = testsT a := by simp only [testsM]; rw [if_pos hm]
  have h0 : matchS (Tr.un h a).root.kind = true := matchS_iff.2 hm
  rw [if_pos h0, h1, h2]
  rfl
theorem stayT_step (C : Nat) {t : Tr} (hv : validT t = true) (i : Nat) (hi : i < t.size) : sumL ((belM (t.sub i) i).map fun j => stayT C (t.sub j)) + stayO C (t.sub i) = stayT C (t.sub i) := by
  have hvi := sub_valid t i hv
  rw [bel_sum (stayT C) (fun h e => rfl) (fun h a e => by simp [stayT, e]) (fun h a e => by simp [stayT, e]) (fun _ _ _ => rfl) hv i hi]
  generalize t.sub i = x at *
  by_cases hm : x.root.kind = 16 ∨ x.root.kind = 17
  · obtain ⟨h, a, rfl, _⟩ := valid_match hvi hm
    have hm' : h.kind = 16 ∨ h.kind = 17 := hm
    rw [stayO_un hm']
    simp only [belowS, stayT]
    rw [if_pos hm', Nat.add_assoc]
  · rw [stayO_no hm]
    cases x with
    | leaf h => rfl
    | un h a =>
      have hm' : ¬ (h.kind = 16 ∨ h.kind = 17) := hm
      simp only [belowS, stayT]
      rw [if_neg hm', if_neg (fun e => hm' (.inl e))]
    | bin h a b => rfl
theorem fleetT_step (C : Nat) {t : Tr} (hv : validT t = true) (i : Nat) (hi : i < t.size) : maxL ((belM (t.sub i) i).map fun j => fleetT C (t.sub j)) + fleetO C (t.sub i) = fleetT C (t.sub i) := by
  have hvi := sub_valid t i hv
  rw [bel_max (fleetT C) (fun h e => rfl) (fun h a e => by simp [fleetT, e]) (fun h a e => by simp [fleetT, e]) (fun _ _ _ => rfl) hv i hi]
  generalize t.sub i = x at *
  by_cases hm : x.root.kind = 17
  · obtain ⟨h, a, rfl, _⟩ := valid_match hvi (.inr hm)
    have hm' : h.kind = 17 := hm
    have h1 : stepsM (.un h a) = stepsN a := by simp only [stepsM]; rw [if_pos (.inr hm')]
    unfold fleetO
    rw [if_pos hm, h1]
    simp only [belowX, fleetT, stayT]
    rw [if_pos hm', if_pos (.inr hm'), if_neg (by omega)]
    rfl
  · unfold fleetO
    rw [if_neg hm]
    cases x with
    | leaf h => rfl
    | un h a =>
      have hm' : ¬ h.kind = 17 := hm
      simp only [belowX, fleetT]
      rw [if_neg hm']
    | bin h a b => rfl
theorem stW_le {a : Tr} (h : a.size ≤ 1000) : 1 ≤ stW a ∧ stW a ≤ 16 := by
  have := stepsN_le a
  unfold stW
  omega
theorem memoN_le {C : Nat} {a : Tr} (hC : C ≤ 4096) (h : a.size ≤ 1000) : memoN C a ≤ 200704 := by
  have h1 := (stW_le h).2
  have h2 := testsT_le a
  unfold memoN
  exact Nat.le_trans (Nat.mul_le_mul hC (show 2 * stW a + (testsT a + 63) / 64 + 1 ≤ 49 by omega)) (by omega)
theorem stayT_le {C : Nat} (hC : C ≤ 4096) : ∀ t : Tr, validT t = true → t.size ≤ 1000 → stayT C t ≤ t.size * 1000000
  | .leaf _, _, _ => Nat.zero_le _
  | .un h a, hv, hs => by
    simp only [Tr.size] at hs
    have hv' := hv
    simp only [validT, Bool.and_eq_true] at hv'
    have h1 := stayT_le hC a hv'.2 (by omega)
    have h2 := memoN_le (a := a) hC (by omega)
    have h3 := (stW_le (a := a) (by omega)).2
    simp only [stayT, Tr.size]
    have h4 : (if h.kind = 16 then wideN h * (1 + stW a) else 0) ≤ 170000 := by
      split
      · rename_i e
        obtain ⟨h', a', e2, hsp⟩ := valid_match hv (.inl e)
        injection e2 with e3 e4
        subst e3 e4
        exact Nat.le_trans (Nat.mul_le_mul (wideN_of hsp).2.1 (show 1 + stW a ≤ 17 by omega)) (by omega)
      · omega
    have h5 : (if h.kind = 16 ∨ h.kind = 17 then memoN C a else 0) ≤ 200704 := by split <;> omega
    omega
  | .bin h a b, hv, hs => by
    simp only [Tr.size] at hs
    simp only [validT, Bool.and_eq_true] at hv
    have h1 := stayT_le hC a hv.1.2 (by omega)
    have h2 := stayT_le hC b hv.2 (by omega)
    simp only [stayT, Tr.size]
    omega
set_option maxRecDepth 100000 in
theorem fleetT_le {C : Nat} (hC : C ≤ 4096) : ∀ t : Tr, validT t = true → t.size ≤ 1000 → fleetT C t ≤ t.size * 1000000000
  | .leaf _, _, _ => Nat.zero_le _
  | .un h a, hv, hs => by
    simp only [Tr.size] at hs
    simp only [validT, Bool.and_eq_true] at hv
    have h1 := fleetT_le hC a hv.2 (by omega)
    have h0 := stayT_le hC a hv.2 (by omega)
    have h2 := memoN_le (a := a) hC (by omega)
    have h3 := (stW_le (a := a) (by omega)).2
    simp only [fleetT, Tr.size]
    generalize fleetT C a = q1 at *
    generalize stayT C a = q2 at *
    generalize memoN C a = q3 at *
    generalize stW a = q4 at *
    generalize a.size = q5 at *
    have h6 : q5 * 1000000 ≤ 999 * 1000000 := Nat.mul_le_mul (by omega) (Nat.le_refl _)
    have h5 : 1 + q4 + (q2 + q3) ≤ 1000000000 := by omega
    rw [Nat.add_mul, Nat.one_mul]
    split
    · exact Nat.add_le_add h1 h5
    · exact Nat.le_trans h1 (Nat.le_add_right _ _)
  | .bin h a b, hv, hs => by
    simp only [Tr.size] at hs
    simp only [validT, Bool.and_eq_true] at hv
    have h1 := fleetT_le hC a hv.1.2 (by omega)
    have h2 := fleetT_le hC b hv.2 (by omega)
    simp only [fleetT, Tr.size]
    omega
/-- How many cells a formula keeps. -/
def cellsT (P C : Nat) (t : Tr) : Nat := (restT t + extraT t) * (3 + P) + stayT C t + fleetT C t
end Go.Proofs.YtdohbbjinbofbaaGreat
