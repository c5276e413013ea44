/- The law TableBoth: its walk. -/
import Derived.Test.YtkffofolhckjeaaTab6
namespace Go.Proofs.Ytkffofolhckjeaa
open Go.RowKit
attribute [local go_sem ↓] bits_and bits_or not_bits arith_add arith_sub shift_l shift_r shift_lu shift_ru shift_int conv_uu shift_l1 shift_l1u bits_and1 arith_sub1 shift_rn and_one_n
attribute [local go_sem] uz_toNat uz_nonneg wrap_bit

theorem both_big (k : Nat) (A B : Option Addr) (n n' c c' : Nat) (h : 100 < n ∨ 100 < n') (w : World) :
    Calls Try.prog 3 #[.int .u8 k, .slice A n c, .slice B n' c'] w fun e w' => e = .returned (.bool true) ∧ Below w.heap.size w w' := by
  by_cases h1 : 100 < n
  · have h1I : (100 : Int) < (n : Int) := by omega
    go_enter Try.func3, Try.ntmps3
    go_wp2_with (go_at_call 15; refine (awake28 _).mono ?_; rintro e w1 ⟨rfl, hb1⟩)
    go_ret
    exact ⟨rfl, hb1⟩
  · have h1I : ¬ (100 : Int) < (n : Int) := by omega
    have h2I : (100 : Int) < (n' : Int) := by omega
    go_enter Try.func3, Try.ntmps3
    go_wp2_with (go_at_call 15; refine (awake28 _).mono ?_; rintro e w1 ⟨rfl, hb1⟩)
    go_ret
    exact ⟨rfl, hb1⟩

def sameTo (fs gs : List (BitVec 64)) (k : Nat) : Bool := decide (∀ x, x < k → bitAt fs x = bitAt gs x)
theorem sameTo_step (fs gs : List (BitVec 64)) (k : Nat) : sameTo fs gs (k + 1) = (sameTo fs gs k && (bitAt fs k == bitAt gs k)) := by
  unfold sameTo
  rw [Bool.eq_iff_iff]
  simp only [decide_eq_true_eq, Bool.and_eq_true, beq_iff_eq]
  refine ⟨fun h => ⟨fun x hx => h x (by omega), h k (by omega)⟩, fun h x hx => ?_⟩
  rcases Nat.lt_or_ge x k with hlt | hge
  · exact h.1 x hlt
  · rw [show x = k by omega]; exact h.2

set_option maxRecDepth 20000 in
set_option maxHeartbeats 2000000 in
theorem both_small (k : Nat) (hk : k < 256) (fs gs : List (BitVec 64)) (A B : Option Addr) (n n' c c' : Nat) (hn : n ≤ 100) (hn' : n' ≤ 100) (w : World) (hf : Rd (heapF w) 1 A n (fs.map u)) (hg : Rd (heapF w) 1 B n' (gs.map u)) :
    Calls Try.prog 3 #[.int .u8 k, .slice A n c, .slice B n' c'] w fun e w' => e = .returned (.bool true) ∧ Below w.heap.size w w' := by
  have h1I : ¬ (100 : Int) < (n : Int) := by omega
  have h2I : ¬ (100 : Int) < (n' : Int) := by omega
  have hfl : fs.length ≤ 1000 := by rw [← rd_len hf]; omega
  have hgl : gs.length ≤ 1000 := by rw [← rd_len hg]; omega
  have HF := Lib.hid (few_any (w := w) k hk)
  have hm := fewN_le k
  generalize fewN k = m at *
  have hm64 : (m : Int) < 64 := by omega
  have hp := pow_le_1024 m hm
  obtain ⟨M, hM⟩ : ∃ M, M = 2 ^ m := ⟨_, rfl⟩
  have HPW := Lib.hid (show uz (1#64 <<< m) = ((2 ^ m : Nat) : Int) by unfold uz; rw [shl_one_toNat m (by omega)])
  rw [← hM] at HPW hp
  have HM := Lib.hid hM
  clear hM
  have hF0 := sat_heapF w
  go_enter Try.func3, Try.ntmps3
  go_wp2_with (go_at_call 16; refine HF.out.mono ?_; rintro e w' ⟨rfl, rfl⟩)
  refine (notf_yes hF0 m hm fs A n c hf).mono ?_
  rintro e w1 ⟨g1, c1, rfl, hb1, hg1, hr1⟩
  go_wp2_with fail
  refine (andf_yes (hF0.below hb1) m hm fs gs A B n n' c c' hf hg).mono ?_
  rintro e w2 ⟨g2, c2, rfl, hb2, hg2, hr2⟩
  have hr1 := hr1.call hb2
  have hb2 := bthen hb1 hb2
  go_wp2_with fail
  refine (orf_yes (hF0.below hb2) m hm fs gs A B n n' c c' hf hg).mono ?_
  rintro e w3 ⟨g3, c3, rfl, hb3, hg3, hr3⟩
  have hr1 := hr1.call hb3
  have hr2 := hr2.call hb3
  have hb3 := bthen hb2 hb3
  have hF3 := hF0.below hb3
  have R1 := hr1.rdH
  have R2 := hr2.rdH
  have R3 := hr3.rdH
  have hF := hf.heap hF3
  have hG := hg.heap hF3
  have hS3 := sat_heapF w3
  clear hb1 hb2 hg1 hg2 hg3
  simp only [length_tab] at R1 R2 R3 ⊢
  go_wp2_with fail
  go_loop [11, 40] (fun s j => ∃ k : Nat, k ≤ M ∧ j = .int .u64 k ∧ s = .bool (sameTo fs gs k)) (fun _ j => M - (intOf j).toNat)
  case atStart => exact ⟨0, Nat.zero_le _, rfl, by unfold sameTo; simp⟩
  case round =>
    obtain ⟨k, hkM, rfl, rfl⟩ := hrel
    by_cases hlt : k < M
    · have hkp : (k : Int) < uz (1#64 <<< m) := by rw [HPW.out]; omega
      have hkI6 : (k : Int) ≤ 1024 := by omega
      have hd : decide (k < 2 ^ m) = true := decide_eq_true (by rw [← HM.out]; exact hlt)
      have a1 := rat_any hS3 m hm fs A n c hF (k : Int) (Int.natCast_nonneg _)
      have a2 := rat_any hS3 m hm gs B n' c' hG (k : Int) (Int.natCast_nonneg _)
      have a3 := at_any hS3 m hm _ (tab_len m hm _) _ _ c1 R1 (k : Int) (Int.natCast_nonneg _)
      have a4 := at_any hS3 m hm _ (tab_len m hm _) _ _ c2 R2 (k : Int) (Int.natCast_nonneg _)
      have a5 := at_any hS3 m hm _ (tab_len m hm _) _ _ c3 R3 (k : Int) (Int.natCast_nonneg _)
      rw [bit_tab] at a3 a4 a5
      rw [Int.toNat_natCast, hd] at a1 a2 a3 a4 a5
      simp only [Bool.true_and] at a1 a2 a3 a4 a5
      have HS := Lib.hid (sameTo_step fs gs k)
      have H1 := Lib.hid a1
      have H2 := Lib.hid a2
      have H3 := Lib.hid a3
      have H4 := Lib.hid a4
      have H5 := Lib.hid a5
      clear a1 a2 a3 a4 a5 hd hb3 hr1 hr2 hr3 R1 R2 R3 hF hG hf hg HF
      generalize hs1v : sameTo fs gs (k + 1) = s1 at *
      have HV := Lib.hid hs1v
      clear hs1v
      generalize sameTo fs gs k = s at *
      generalize bitAt fs k = a at *
      generalize bitAt gs k = b at *
      cases a <;> cases b <;> cases s
      all_goals
        have hs1 := HS.out
        simp at hs1
        subst hs1
        go_wp2_with fail
        refine H1.out.mono ?_
        rintro e w' ⟨rfl, rfl⟩
        go_wp2_with fail
        refine H2.out.mono ?_
        rintro e w' ⟨rfl, rfl⟩
        go_wp2_with fail
        refine H3.out.mono ?_
        rintro e w' ⟨rfl, rfl⟩
        go_wp2_with fail
        refine H4.out.mono ?_
        rintro e w' ⟨rfl, rfl⟩
        go_wp2_with fail
        refine H5.out.mono ?_
        rintro e w' ⟨rfl, rfl⟩
        go_wp2_with fail
        go_round
        case rel => exact ⟨k + 1, by omega, by go_num, by rw [HV.out]⟩
        case measure => simp [intOf]; omega
    · have hkp : ¬ (k : Int) < uz (1#64 <<< m) := by rw [HPW.out]; omega
      have hst : sameTo fs gs k = decide (tab m (bitAt fs) = tab m (bitAt gs)) := by
        unfold sameTo
        apply decide_eq_decide.2
        rw [tab_inj, ← HM.out, show k = M by omega]
      have t1 := fun w1 (h1 : Below w3.heap.size w3 w1) => told_yes (sat_heapF w1) m hm _ _ _ _ _ _ c1 c1 (R1.heap (hS3.below h1)) (by have := tab_len m hm fun x => !bitAt fs x; omega) (R1.heap (hS3.below h1))
      have t2 := fun w1 (h1 : Below w3.heap.size w3 w1) => told_yes (sat_heapF w1) m hm _ _ _ _ _ _ c2 c2 (R2.heap (hS3.below h1)) (by have := tab_len m hm fun x => and (bitAt fs x) (bitAt gs x); omega) (R2.heap (hS3.below h1))
      have t3 := fun w1 (h1 : Below w3.heap.size w3 w1) => told_yes (sat_heapF w1) m hm _ _ _ _ _ _ c3 c3 (R3.heap (hS3.below h1)) (by have := tab_len m hm fun x => or (bitAt fs x) (bitAt gs x); omega) (R3.heap (hS3.below h1))
      have t4 := fun w1 (h1 : Below w3.heap.size w3 w1) => same_yes (sat_heapF w1) m hm fs gs A B n n' c c' (hF.heap (hS3.below h1)) (hG.heap (hS3.below h1))
      simp only [tab_tab, decide_true] at t1 t2 t3
      rw [← hst] at t4
      have T1 := Lib.hid t1
      have T2 := Lib.hid t2
      have T3 := Lib.hid t3
      have T4 := Lib.hid t4
      clear t1 t2 t3 t4 hst hr1 hr2 hr3 R1 R2 R3 hF hG hf hg HF
      generalize sameTo fs gs k = s at *
      have HB := Lib.hid hb3
      clear hb3
      cases s
      all_goals
        go_wp2_with fail
        refine (T1.out _ (Below.refl _ _)).mono ?_
        rintro e w4 ⟨rfl, hb4⟩
        go_wp2_with fail
        refine (T2.out _ hb4).mono ?_
        rintro e w5 ⟨rfl, hb5⟩
        have hb5 := bthen hb4 hb5
        go_wp2_with fail
        refine (T3.out _ hb5).mono ?_
        rintro e w6 ⟨rfl, hb6⟩
        have hb6 := bthen hb5 hb6
        go_wp2_with fail
        refine (T4.out _ hb6).mono ?_
        rintro e w7 ⟨rfl, hb7⟩
        have hb7 := bthen hb6 hb7
        go_wp2_with fail
        refine (awake28 _).mono ?_
        rintro e w8 ⟨rfl, hb8⟩
        have hb8 := bthen hb7 hb8
        go_wp2
        go_ret
        exact ⟨rfl, bthen HB.out hb8⟩
end Go.Proofs.Ytkffofolhckjeaa
