/- The walks of Const, the reference's Const, and the law's small helpers. -/
import Derived.Test.YtkffofolhckjeaaTab4
namespace Go.Proofs.Ytkffofolhckjeaa
open Go.RowKit
attribute [local go_sem ↓] bits_and bits_or not_bits arith_add arith_sub shift_l shift_r shift_lu shift_ru shift_int conv_uu shift_l1 shift_l1u bits_and1 arith_sub1 shift_rn and_one_n
attribute [local go_sem] uz_toNat uz_nonneg wrap_bit

/-- Which one value a function has, and whether. -/
def cV (m : Nat) (fs : List (BitVec 64)) : Bool × Bool :=
  if tab m (bitAt fs) = tab m (fun _ => false) then (false, true) else if tab m (bitAt fs) = tab m (fun _ => true) then (true, true) else (false, false)
theorem const_no {w : World} (n : Int) (hm : n < 0 ∨ 10 < n) (v : Value) :
    Calls Try.prog 24 #[.int .i64 n, v] w fun e w' => e = .returned (.tuple #[.bool false, .bool false]) ∧ w = w' := by
  go_enter Try.func24, Try.ntmps24
  go_wp2_with (go_at_call 55; refine (may_no n hm _).mono ?_; rintro e w' ⟨rfl, rfl⟩)
  go_ret2
  exact ⟨rfl, rfl⟩
theorem const_yes {F : Fz} {w : World} (hF : Sat F w) (m : Nat) (hm : m ≤ 10) (fs : List (BitVec 64)) (A : Option Addr) (n c : Nat) (hf : Rd F 1 A n (fs.map u)) :
    Calls Try.prog 24 #[.int .i64 m, .slice A n c] w fun e w' => e = .returned (.tuple #[.bool (cV m fs).1, .bool (cV m fs).2]) ∧ Below w.heap.size w w' := by
  have hS := same_yes hF m hm fs [] A none n 0 c 0 hf Rd.nil
  rw [show tab m (bitAt []) = tab m fun _ => false from tab_congr fun x _ => bit_nil x] at hS
  by_cases h1 : tab m (bitAt fs) = tab m (fun _ => false)
  · rw [decide_eq_true h1] at hS
    have HS := Lib.hid hS
    have HC := Lib.hid (show cV m fs = (false, true) by unfold cV; rw [if_pos h1])
    clear hS h1
    go_enter Try.func24, Try.ntmps24
    go_wp2_with (first | (go_at_call 55; refine (may_yes m hm _).mono ?_; rintro e w' ⟨rfl, rfl⟩) | (go_at_call 23; refine HS.out.mono ?_; rintro e w1 ⟨rfl, hb1⟩))
    go_ret2
    exact ⟨by rw [HC.out]; rfl, hb1⟩
  · rw [decide_eq_false h1] at hS
    have HS := Lib.hid hS
    have HY := Lib.hid (fun w1 : World => yes_yes (w := w1) m hm)
    have HT := Lib.hid (fun w2 (h2 : Sat F w2) g (hr : Rd (heapF w2) 1 (some ⟨g, 0, none⟩) (tab m fun _ => true).length ((tab m fun _ => true).map u)) c2 => same_yes (sat_heapF w2) m hm fs (tab m fun _ => true) A (some ⟨g, 0, none⟩) n _ c c2 (hf.heap h2) hr)
    have HE := Lib.hid (show tab m (bitAt (tab m fun _ => true)) = tab m fun _ => true from tab_congr fun x hx => by rw [bit_tab]; simp [hx])
    by_cases h2 : tab m (bitAt fs) = tab m (fun _ => true)
    all_goals
      first
      | have HC := Lib.hid (show cV m fs = (true, true) by unfold cV; rw [if_neg h1, if_pos h2])
        have HD := Lib.hid (decide_eq_true h2)
      | have HC := Lib.hid (show cV m fs = (false, false) by unfold cV; rw [if_neg h1, if_neg h2])
        have HD := Lib.hid (decide_eq_false h2)
      clear hS h1 h2
      go_enter Try.func24, Try.ntmps24
      go_wp2_with (first | (go_at_call 55; refine (may_yes m hm _).mono ?_; rintro e w' ⟨rfl, rfl⟩) | (go_at_call 25; refine (HY.out _).mono ?_; rintro e w2 ⟨g, c2, rfl, hb2, hg2, hr2⟩))
      refine HS.out.mono ?_
      rintro e w1 ⟨rfl, hb1⟩
      go_wp2_with (go_at_call 25; refine (HY.out _).mono ?_; rintro e w2 ⟨g, c2, rfl, hb2, hg2, hr2⟩)
      have hb12 := hb1.trans (hb2.mono hb1.size)
      have h3 := HT.out _ (hF.below hb12) g hr2.rdH c2
      rw [HE.out, HD.out] at h3
      have H3 := Lib.hid h3
      clear h3
      refine H3.out.mono ?_
      rintro e w3 ⟨rfl, hb3⟩
      go_wp2
      go_ret2
      exact ⟨by rw [HC.out]; rfl, hb12.trans (hb3.mono hb12.size)⟩

def rV (m : Nat) (fs : List (BitVec 64)) : Bool × Bool := if ∀ x, x < 2 ^ m → bitAt fs x = bitAt fs 0 then (bitAt fs 0, true) else (false, false)
theorem rconst_no {w : World} (n : Int) (hm : n < 0 ∨ 10 < n) (v : Value) :
    Calls Try.prog 30 #[.int .i64 n, v] w fun e w' => e = .returned (.tuple #[.bool false, .bool false]) ∧ w = w' := by
  go_enter Try.func30, Try.ntmps30
  go_wp2_with (go_at_call 33; refine (right_no n hm _).mono ?_; rintro e w' ⟨rfl, rfl⟩)
  go_ret2
  exact ⟨rfl, rfl⟩
theorem rconst_yes {F : Fz} {w : World} (hF : Sat F w) (m : Nat) (hm : m ≤ 10) (fs : List (BitVec 64)) (A : Option Addr) (n c : Nat) (hf : Rd F 1 A n (fs.map u)) :
    Calls Try.prog 30 #[.int .i64 m, .slice A n c] w fun e w' => e = .returned (.tuple #[.bool (rV m fs).1, .bool (rV m fs).2]) ∧ w = w' := by
  have hm62 : m ≤ 62 := by omega
  have hm64 : (m : Int) < 64 := by omega
  have hp := pow_le_1024 m hm
  have hp1 : 0 < 2 ^ m := Nat.pow_pos (by omega)
  have h00 := rat_any hF m hm fs A n c hf 0 (by omega)
  rw [show (0 : Int).toNat = 0 from rfl, decide_eq_true hp1, Bool.true_and] at h00
  have H0 := Lib.hid h00
  clear h00
  have HPW := Lib.hid (show pw m = ((2 ^ m : Nat) : Int) from rfl)
  obtain ⟨M, hM⟩ : ∃ M, M = 2 ^ m := ⟨_, rfl⟩
  rw [← hM] at HPW hp hp1
  have HM := Lib.hid hM
  clear hM
  go_enter Try.func30, Try.ntmps30
  go_wp2_with (first | (go_at_call 33; refine (right_yes m hm _).mono ?_; rintro e w' ⟨rfl, rfl⟩) | (go_at_call 20; refine H0.out.mono ?_; rintro e w' ⟨rfl, rfl⟩))
  go_loop [17] (fun j => ∃ k : Nat, k ≤ M ∧ j = .int .i64 k ∧ ∀ x, x < k → bitAt fs x = bitAt fs 0) (fun j => M - (intOf j).toNat)
  case atStart => exact ⟨0, Nat.zero_le _, rfl, fun x hx => absurd hx (by omega)⟩
  case round =>
    obtain ⟨k, hk, rfl, hall⟩ := hrel
    have HA := Lib.hid hall
    clear hall
    by_cases hlt : k < M
    · have hkp : (k : Int) < pw m := by rw [HPW.out]; omega
      have hkI6 : (k : Int) ≤ 1024 := by omega
      have hA := rat_any hF m hm fs A n c hf (k : Int) (Int.natCast_nonneg _)
      rw [Int.toNat_natCast, show decide (k < 2 ^ m) = true from decide_eq_true (by rw [← HM.out]; exact hlt), Bool.true_and] at hA
      by_cases hb : bitAt fs k = bitAt fs 0
      · rw [hb] at hA
        have HB := Lib.hid hA
        have HE := Lib.hid hb
        clear hA hb
        generalize bitAt fs 0 = b0 at *
        have hne : (b0 != b0) = false := by simp
        go_wp2_with (go_at_call 20; refine HB.out.mono ?_; rintro e w' ⟨rfl, rfl⟩)
        go_round
        case rel => exact ⟨k + 1, by omega, by go_num, fun x hx => by
          rcases Nat.lt_or_ge x k with h | h
          · exact HA.out x h
          · rw [show x = k by omega]; exact HE.out⟩
        case measure => simp [intOf]; omega
      · have hne : (bitAt fs k != bitAt fs 0) = true := by rw [bne_iff_ne]; exact hb
        have hfin : rV m fs = (false, false) := by
          unfold rV
          rw [if_neg]
          intro h
          exact hb (h k (by rw [← HM.out]; exact hlt))
        have HFin := Lib.hid hfin
        have HB := Lib.hid hA
        clear hA hb hfin
        generalize bitAt fs 0 = b0 at *
        generalize bitAt fs k = b1 at *
        clear HA
        cases b0 <;> cases b1
        · exact absurd hne (by decide)
        · go_wp2_with (go_at_call 20; refine HB.out.mono ?_; rintro e w' ⟨rfl, rfl⟩)
          go_ret2
          exact ⟨by rw [HFin.out]; rfl, rfl⟩
        · go_wp2_with (go_at_call 20; refine HB.out.mono ?_; rintro e w' ⟨rfl, rfl⟩)
          go_ret2
          exact ⟨by rw [HFin.out]; rfl, rfl⟩
        · exact absurd hne (by decide)
    · have hkp : ¬ (k : Int) < pw m := by rw [HPW.out]; omega
      have hfin : rV m fs = (bitAt fs 0, true) := by
        unfold rV
        rw [if_pos]
        intro x hx
        exact HA.out x (by rw [← HM.out] at hx; omega)
      have HFin := Lib.hid hfin
      clear hfin
      go_wp2
      go_ret2
      exact ⟨by rw [HFin.out]; rfl, rfl⟩
/-- The two tell the same. -/
theorem cV_rV (m : Nat) (fs : List (BitVec 64)) : cV m fs = rV m fs := by
  have hp1 : 0 < 2 ^ m := Nat.pow_pos (by omega)
  unfold cV rV
  by_cases h1 : tab m (bitAt fs) = tab m (fun _ => false)
  · rw [if_pos h1]
    rw [tab_inj] at h1
    rw [if_pos (fun x hx => by rw [h1 x hx, h1 0 hp1]), h1 0 hp1]
  · rw [if_neg h1]
    by_cases h2 : tab m (bitAt fs) = tab m (fun _ => true)
    · rw [if_pos h2]
      rw [tab_inj] at h2
      rw [if_pos (fun x hx => by rw [h2 x hx, h2 0 hp1]), h2 0 hp1]
    · rw [if_neg h2, if_neg]
      intro h
      cases hb : bitAt fs 0 with
      | false => exact h1 (tab_congr fun x hx => by rw [h x hx, hb])
      | true => exact h2 (tab_congr fun x hx => by rw [h x hx, hb])

def fewN (k : Nat) : Nat := if 250 ≤ k then k % 5 + 6 else k % 7
theorem fewN_le (k : Nat) : fewN k ≤ 10 := by unfold fewN; split <;> omega
theorem few_any {w : World} (k : Nat) (hk : k < 256) :
    Calls Try.prog 16 #[.int .u8 k] w fun e w' => e = .returned (.int .i64 (fewN k : Nat)) ∧ w = w' := by
  have hkI : (k : Int) < 256 := by omega
  by_cases h : 250 ≤ k
  · have hI : (250 : Int) ≤ (k : Int) := by omega
    go_enter Try.func16, Try.ntmps16
    go_wp2
    go_ret
    refine ⟨?_, rfl⟩
    unfold fewN
    rw [if_pos h]
    rfl
  · have hI : ¬ (250 : Int) ≤ (k : Int) := by omega
    go_enter Try.func16, Try.ntmps16
    go_wp2
    go_ret
    refine ⟨?_, rfl⟩
    unfold fewN
    rw [if_neg h]
    rfl
theorem told_yes {F : Fz} {w : World} (hF : Sat F w) (m : Nat) (hm : m ≤ 10) (fs gs : List (BitVec 64)) (A B : Option Addr) (n n' c c' : Nat) (hf : Rd F 1 A n (fs.map u)) (hfl : fs.length ≤ 100000) (hg : Rd F 1 B n' (gs.map u)) :
    Calls Try.prog 22 #[.int .i64 m, .slice A n c, .slice B n' c'] w fun e w' => e = .returned (.bool (decide (fs = tab m (bitAt gs)))) ∧ Below w.heap.size w w' := by
  have HU := Lib.hid (fun_yes hF m hm gs B n' c' hg)
  have HS := Lib.hid (fun w1 (h1 : Sat F w1) g (hr : Rd (heapF w1) 1 (some ⟨g, 0, none⟩) (tab m (bitAt gs)).length ((tab m (bitAt gs)).map u)) c2 => sameWords_any (sat_heapF w1) fs (tab m (bitAt gs)) A (some ⟨g, 0, none⟩) n _ c c2 hfl (hf.heap h1) hr)
  go_enter Try.func22, Try.ntmps22
  go_wp2_with (go_at_call 56; refine HU.out.mono ?_; rintro e w1 ⟨g, c1, rfl, hb1, hg1, hr1⟩)
  have H3 := Lib.hid (HS.out _ (hF.below hb1) g hr1.rdH c1)
  refine H3.out.mono ?_
  rintro e w2 ⟨rfl, q, rfl⟩
  go_wp2
  go_ret
  exact ⟨rfl, below_drewN hb1 q⟩
end Go.Proofs.Ytkffofolhckjeaa
