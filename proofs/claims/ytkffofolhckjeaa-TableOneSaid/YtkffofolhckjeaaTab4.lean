/- The walks of Put, Const; the references' Fun, Put, Const. -/
import Derived.Test.YtkffofolhckjeaaTab3
namespace Go.Proofs.Ytkffofolhckjeaa
open Go.RowKit
attribute [local go_sem ↓] bits_and bits_or not_bits arith_add arith_sub shift_l shift_r shift_lu shift_ru shift_int conv_uu shift_l1 shift_l1u bits_and1 arith_sub1 shift_rn and_one_n
attribute [local go_sem] uz_toNat uz_nonneg wrap_bit

theorem put_no {w : World} (n : Int) (hm : n < 0 ∨ 10 < n) (v v' : Value) :
    Calls Try.prog 28 #[.int .i64 n, v, v'] w fun e w' => e = .returned (.slice none 0 0) ∧ w = w' := by
  go_enter Try.func28, Try.ntmps28
  go_wp2_with (first | (go_at_call 26; refine (no_no n hm).mono ?_; rintro e w1 ⟨rfl, rfl⟩) | (go_at_call 55; refine (may_no n hm _).mono ?_; rintro e w' ⟨rfl, rfl⟩))
  go_ret
  exact ⟨rfl, rfl⟩

set_option maxRecDepth 20000 in
set_option maxHeartbeats 1000000 in
theorem put_yes {F : Fz} {w : World} (hF : Sat F w) (m : Nat) (hm : m ≤ 10) (fs : List (BitVec 64)) (hfl : fs.length ≤ 1000) (A : Option Addr) (n c : Nat) (hf : Rd F 1 A n (fs.map u))
    (gs : List (List (BitVec 64))) (hgl : ∀ g ∈ gs, g.length ≤ 1000) (B : Option Addr) (n' c' : Nat) (hg : RdR F B n' gs) :
    Calls Try.prog 28 #[.int .i64 m, .slice A n c, .slice B n' c'] w (RetO w (tab m fun x => bitAt fs (putY m gs x))) := by
  obtain ⟨hgn, hrow⟩ := hg
  have HN := Lib.hid hgn
  clear hgn
  have HP := Lib.hid (no_yes (w := w) m hm)
  have HE := Lib.hid (tabTo_all m (fun x => bitAt fs (putY m gs x)) (2 ^ m) (Nat.le_refl _))
  rw [← tabTo_zero m (fun x => bitAt fs (putY m gs x))] at HP
  have hW := words_le m hm
  have hm64 : m < 64 := by omega
  have hp := pow_le_1024 m hm
  obtain ⟨M, hM⟩ : ∃ M, M = 2 ^ m := ⟨_, rfl⟩
  have HC := Lib.hid (words_cover m)
  have HPW := Lib.hid (show uz (1#64 <<< m) = ((2 ^ m : Nat) : Int) by unfold uz; rw [shl_one_toNat m (by omega)])
  have HY := Lib.hid (fun x => putY_lt m hm gs x)
  rw [← hM] at HC HPW HE hp
  have HM := Lib.hid hM
  clear hM
  have HR := Lib.hid hrow
  have HG := Lib.hid hgl
  clear hrow hgl
  go_enter Try.func28, Try.ntmps28
  go_wp2_with (first | (go_at_call 26; refine HP.out.mono ?_; rintro e w1 ⟨g, c1, rfl, hb, hg, hr⟩) | (go_at_call 55; refine (may_yes m hm _).mono ?_; rintro e w' ⟨rfl, rfl⟩))
  simp only [length_tabTo]
  go_loopw [19] (fun j wr => ∃ k : Nat, k ≤ M ∧ j = .int .u64 k ∧ Below w.heap.size w wr ∧ Blk wr g 27 ((tabTo m (fun x => bitAt fs (putY m gs x)) k).map u).toArray) (fun j _ => M - (intOf j).toNat)
  case atStart => exact ⟨0, Nat.zero_le _, rfl, hb, hr⟩
  case round =>
    obtain ⟨k, hk, rfl, hbr, hB⟩ := hrel
    have hFr := hF.below hbr
    by_cases hlt : k < M
    · have hkp : (k : Int) < uz (1#64 <<< m) := by rw [HPW.out]; omega
      have hkI6 : (k : Int) ≤ 1024 := by omega
      go_wp2
      go_loop [9, 10] (fun y i => ∃ t : Nat, t ≤ m ∧ t ≤ n' ∧ i = .int .i64 t ∧ y = u (wordTo (putP gs k) t)) (fun _ i => m - (intOf i).toNat)
      case atStart => exact ⟨0, Nat.zero_le _, Nat.zero_le _, rfl, rfl⟩
      case round =>
        obtain ⟨t, ht, ht', rfl, rfl⟩ := hrel
        have hkM : decide (k < 2 ^ m) = true := decide_eq_true (by rw [← HM.out]; exact hlt)
        by_cases hin : t < m ∧ t < n'
        · obtain ⟨h1, h2⟩ := hin
          have h1I : (t : Int) < (m : Int) := by omega
          have h2I : (t : Int) < (n' : Int) := by omega
          obtain ⟨ad, Ai, ni, ci, rfl, hcell, hrd⟩ := HR.out t (by rw [← HN.out]; exact h2)
          have hc := hFr.cell hcell
          have hgm : (gs.getD t []).length ≤ 1000 := HG.out _ (by rw [List.getD, List.getElem?_eq_getElem (by rw [← HN.out]; exact h2)]; exact List.getElem_mem _)
          have hA := at_any hFr m hm _ hgm Ai ni ci hrd (k : Int) (Int.natCast_nonneg _)
          rw [Int.toNat_natCast, hkM, Bool.true_and] at hA
          have hw : wordTo (putP gs k) (t + 1) = wordTo (putP gs k) t ||| (if putP gs k t then 1#64 <<< t else 0#64) := rfl
          clear hkM
          by_cases hb1 : bitAt (gs.getD t []) k = true
          · rw [hb1] at hA
            rw [if_pos (show putP gs k t = true from hb1)] at hw
            have HA := Lib.hid hA
            have HW := Lib.hid hw
            clear hA hw hb1 hcell
            go_wp2_with (go_at_call 21; refine HA.out.mono ?_; rintro e w' ⟨rfl, rfl⟩)
            go_round
            case rel => exact ⟨t + 1, by omega, by omega, by go_num, by rw [HW.out]⟩
            case measure => simp [intOf]; omega
          · have hb2 : bitAt (gs.getD t []) k = false := by simpa using hb1
            rw [hb2] at hA
            rw [if_neg (show ¬ putP gs k t = true from hb1)] at hw
            have HA := Lib.hid hA
            have HW := Lib.hid hw
            clear hA hw hb1 hb2 hcell
            go_wp2_with (go_at_call 21; refine HA.out.mono ?_; rintro e w' ⟨rfl, rfl⟩)
            go_round
            case rel => exact ⟨t + 1, by omega, by omega, by go_num, by rw [HW.out]; simp⟩
            case measure => simp [intOf]; omega
        · have hst : wordTo (putP gs k) m = wordTo (putP gs k) t := by
            rcases Nat.lt_or_ge t m with h | h
            · exact wordTo_stop _ t (fun i hi => putP_out gs k i (by rw [← HN.out]; omega)) m ht
            · rw [show t = m by omega]
          have hA := at_any hFr m hm fs hfl A n c hf (uz (wordTo (putP gs k) t)) (uz_nonneg _)
          have hy : (uz (wordTo (putP gs k) t)).toNat = putY m gs k := by rw [uz_toNat, ← hst]; rfl
          rw [hy, show decide (putY m gs k < 2 ^ m) = true from decide_eq_true (HY.out k), Bool.true_and] at hA
          clear hy hst hkM
          have hkW : k / 64 < wordsN m := by have := HC.out; omega
          have hkI : (k : Int) / 64 < (wordsN m : Int) := by omega
          have h0 : 0 ≤ (k : Int) % 64 := by omega
          have hx : (tabTo m (fun x => bitAt fs (putY m gs x)) k)[k / 64]? = some ((tabTo m (fun x => bitAt fs (putY m gs x)) k).getD (k / 64) 0#64) := by
            rw [List.getD, List.getElem?_eq_getElem (by rw [length_tabTo]; exact hkW)]; rfl
          have hc := hB.cellL hx
          have hfz := hB.frozen (k / 64)
          have hd : (¬ t < m) ∨ (t < m ∧ ¬ t < n') := by omega
          by_cases hb1 : bitAt fs (putY m gs k) = true
          · rw [hb1] at hA
            have HA := Lib.hid hA
            have HS := Lib.hid (tabTo_step m (fun x => bitAt fs (putY m gs x)) k (by rw [← HM.out]; exact hlt) (1#64 <<< (k % 64)) (fun b hb => step_one k (fun x => bitAt fs (putY m gs x)) hb1 b hb))
            clear hA hb1 hx hin
            generalize (tabTo m (fun x => bitAt fs (putY m gs x)) k).getD (k / 64) 0#64 = v0 at *
            rcases hd with hd | ⟨hd, hd2⟩
            all_goals
              go_wp2_with (go_at_call 21; refine HA.out.mono ?_; rintro e w' ⟨rfl, rfl⟩)
              go_roundw
              case rel => exact ⟨k + 1, by omega, by go_num, hbr.setCell hg _, hB.setL (k / 64) _ HS.out⟩
              case measure => simp [intOf]; omega
          · have hb2 : bitAt fs (putY m gs k) = false := by simpa using hb1
            rw [hb2] at hA
            have HA := Lib.hid hA
            have HS := Lib.hid (tabTo_keep m (fun x => bitAt fs (putY m gs x)) k hb2)
            clear hA hb1 hb2 hx hin
            rcases hd with hd | ⟨hd, hd2⟩
            all_goals
              go_wp2_with (go_at_call 21; refine HA.out.mono ?_; rintro e w' ⟨rfl, rfl⟩)
              go_roundw
              case rel => exact ⟨k + 1, by omega, by go_num, hbr, by rw [← HS.out]; exact hB⟩
              case measure => simp [intOf]; omega
    · have hkp : ¬ (k : Int) < uz (1#64 <<< m) := by rw [HPW.out]; omega
      obtain rfl : k = M := by omega
      rw [HE.out] at hB
      go_wp2
      go_ret
      exact retO_mk hbr hg hB (by rw [length_tab])

theorem makeWx (m : Nat) (hm : m ≤ 10) (w : World) : (Instr.makeSlice 22 (.int .i64 (wordsN m : Nat)) (.int .i64 (wordsN m : Nat))).run Try.prog w = .ok (.slice (some ⟨w.heap.size, 0, none⟩) (wordsN m) (wordsN m)) (w.alloc (.cells (zeros (u 0#64) (wordsN m)) 27)) :=
  makeW _ (by have := words_le m hm; omega) w
theorem zeros_tab (m : Nat) (p : Nat → Bool) : zeros (u 0#64) (wordsN m) = ((tabTo m p 0).map u).toArray := by
  rw [tabTo_zero]
  unfold zeros
  congr 1
  have : (tab m fun _ => false) = List.replicate (wordsN m) 0#64 := by
    apply words_ext (by simp [length_tab])
    intro x _
    rw [bit_tab]
    unfold bitAt
    rw [List.getD, List.getElem?_replicate]
    split <;> simp
  rw [this, List.map_replicate]

theorem rput_no {w : World} (n : Int) (hm : n < 0 ∨ 10 < n) (v v' : Value) :
    Calls Try.prog 29 #[.int .i64 n, v, v'] w fun e w' => e = .returned (.slice none 0 0) ∧ w = w' := by
  go_enter Try.func29, Try.ntmps29
  go_wp2_with (go_at_call 33; refine (right_no n hm _).mono ?_; rintro e w' ⟨rfl, rfl⟩)
  go_ret
  exact ⟨rfl, rfl⟩
theorem fun_yes {F : Fz} {w : World} (hF : Sat F w) (m : Nat) (hm : m ≤ 10) (fs : List (BitVec 64)) (A : Option Addr) (n c : Nat) (hf : Rd F 1 A n (fs.map u)) :
    Calls Try.prog 56 #[.int .i64 m, .slice A n c] w (RetO w (tab m (bitAt fs))) := by
  have HE := Lib.hid (tabTo_all m (bitAt fs) (2 ^ m) (Nat.le_refl _))
  have HZ := Lib.hid (zeros_tab m (bitAt fs))
  have hmk := makeWx m hm
  have hW := words_le m hm
  have hm62 : m ≤ 62 := by omega
  have hm64 : (m : Int) < 64 := by omega
  have hp := pow_le_1024 m hm
  obtain ⟨M, hM⟩ : ∃ M, M = 2 ^ m := ⟨_, rfl⟩
  have HC := Lib.hid (words_cover m)
  have HPW := Lib.hid (show pw m = ((2 ^ m : Nat) : Int) from rfl)
  rw [← hM] at HC HPW HE hp
  have HM := Lib.hid hM
  clear hM
  go_enter Try.func56, Try.ntmps56
  go_wp2_with (go_at_call 32; refine (rwords_yes m hm _).mono ?_; rintro e w' ⟨rfl, rfl⟩)
  go_loopw [13] (fun j wr => ∃ k : Nat, k ≤ M ∧ j = .int .i64 k ∧ Below w.heap.size w wr ∧ Blk wr w.heap.size 27 ((tabTo m (bitAt fs) k).map u).toArray) (fun j _ => M - (intOf j).toNat)
  case atStart => exact ⟨0, Nat.zero_le _, rfl, (Below.refl _ _).alloc (Nat.le_refl _) _, by rw [HZ.out]; exact Blk.new _ _ _⟩
  case round =>
    obtain ⟨k, hk, rfl, hbr, hB⟩ := hrel
    have hFr := hF.below hbr
    by_cases hlt : k < M
    · have hkM : decide (k < 2 ^ m) = true := decide_eq_true (by rw [← HM.out]; exact hlt)
      have hkp : (k : Int) < pw m := by rw [HPW.out]; omega
      have hkI6 : (k : Int) ≤ 1024 := by omega
      have hkW : k / 64 < wordsN m := by have := HC.out; omega
      have hkI : (k : Int) / 64 < (wordsN m : Int) := by omega
      have h0 : 0 ≤ (k : Int) % 64 := by omega
      have h064 : (k : Int) % 64 < 64 := by omega
      have hx : (tabTo m (bitAt fs) k)[k / 64]? = some ((tabTo m (bitAt fs) k).getD (k / 64) 0#64) := by
        rw [List.getD, List.getElem?_eq_getElem (by rw [length_tabTo]; exact hkW)]; rfl
      have hc := hB.cellL hx
      have hfz := hB.frozen (k / 64)
      have hA := rat_any hFr m hm fs A n c hf (k : Int) (Int.natCast_nonneg _)
      rw [Int.toNat_natCast, hkM, Bool.true_and] at hA
      clear hkM hx
      by_cases hb1 : bitAt fs k = true
      · rw [hb1] at hA
        have HA := Lib.hid hA
        have HS := Lib.hid (tabTo_step m (bitAt fs) k (by rw [← HM.out]; exact hlt) (1#64 <<< (k % 64)) (fun b hb => step_one k (bitAt fs) hb1 b hb))
        clear hA hb1
        generalize (tabTo m (bitAt fs) k).getD (k / 64) 0#64 = v0 at *
        go_wp2_with (go_at_call 20; refine HA.out.mono ?_; rintro e w' ⟨rfl, rfl⟩)
        go_roundw
        case rel => exact ⟨k + 1, by omega, by go_num, hbr.setCell (Nat.le_refl _) _, hB.setL (k / 64) _ HS.out⟩
        case measure => simp [intOf]; omega
      · have hb2 : bitAt fs k = false := by simpa using hb1
        rw [hb2] at hA
        have HA := Lib.hid hA
        have HS := Lib.hid (tabTo_keep m (bitAt fs) k hb2)
        clear hA hb1 hb2
        go_wp2_with (go_at_call 20; refine HA.out.mono ?_; rintro e w' ⟨rfl, rfl⟩)
        go_roundw
        case rel => exact ⟨k + 1, by omega, by go_num, hbr, by rw [← HS.out]; exact hB⟩
        case measure => simp [intOf]; omega
    · have hkp : ¬ (k : Int) < pw m := by rw [HPW.out]; omega
      obtain rfl : k = M := by omega
      rw [HE.out] at hB
      go_wp2
      go_ret
      exact retO_mk hbr (Nat.le_refl _) hB (by rw [length_tab])
set_option maxRecDepth 20000 in
set_option maxHeartbeats 1000000 in
theorem rput_yes {F : Fz} {w : World} (hF : Sat F w) (m : Nat) (hm : m ≤ 10) (fs : List (BitVec 64)) (A : Option Addr) (n c : Nat) (hf : Rd F 1 A n (fs.map u))
    (gs : List (List (BitVec 64))) (B : Option Addr) (n' c' : Nat) (hg : RdR F B n' gs) :
    Calls Try.prog 29 #[.int .i64 m, .slice A n c, .slice B n' c'] w (RetO w (tab m fun x => bitAt fs (putY m gs x))) := by
  obtain ⟨hgn, hrow⟩ := hg
  have HN := Lib.hid hgn
  clear hgn
  have HZ := Lib.hid (zeros_tab m (fun x => bitAt fs (putY m gs x)))
  have hmk := makeWx m hm
  have hm62 : m ≤ 62 := by omega
  have hm64I : (m : Int) < 64 := by omega
  have HE := Lib.hid (tabTo_all m (fun x => bitAt fs (putY m gs x)) (2 ^ m) (Nat.le_refl _))
  have hW := words_le m hm
  have hm64 : m < 64 := by omega
  have hp := pow_le_1024 m hm
  obtain ⟨M, hM⟩ : ∃ M, M = 2 ^ m := ⟨_, rfl⟩
  have HC := Lib.hid (words_cover m)
  have HPW := Lib.hid (show pw m = ((2 ^ m : Nat) : Int) from rfl)
  have HY := Lib.hid (fun x => putY_lt m hm gs x)
  rw [← hM] at HC HPW HE hp
  have HM := Lib.hid hM
  clear hM
  have HR := Lib.hid hrow
  clear hrow
  go_enter Try.func29, Try.ntmps29
  go_wp2_with (first | (go_at_call 32; refine (rwords_yes m hm _).mono ?_; rintro e w' ⟨rfl, rfl⟩) | (go_at_call 33; refine (right_yes m hm _).mono ?_; rintro e w' ⟨rfl, rfl⟩))
  go_loopw [20] (fun j wr => ∃ k : Nat, k ≤ M ∧ j = .int .i64 k ∧ Below w.heap.size w wr ∧ Blk wr w.heap.size 27 ((tabTo m (fun x => bitAt fs (putY m gs x)) k).map u).toArray) (fun j _ => M - (intOf j).toNat)
  case atStart => exact ⟨0, Nat.zero_le _, rfl, (Below.refl _ _).alloc (Nat.le_refl _) _, by rw [HZ.out]; exact Blk.new _ _ _⟩
  case round =>
    obtain ⟨k, hk, rfl, hbr, hB⟩ := hrel
    have hFr := hF.below hbr
    by_cases hlt : k < M
    · have hkp : (k : Int) < pw m := by rw [HPW.out]; omega
      have hkI6 : (k : Int) ≤ 1024 := by omega
      go_wp2
      go_loop [9, 24] (fun y i => ∃ t : Nat, t ≤ m ∧ i = .int .i64 t ∧ y = u (wordTo (putP gs k) t)) (fun _ i => m - (intOf i).toNat)
      case atStart => exact ⟨0, Nat.zero_le _, rfl, rfl⟩
      case round =>
        obtain ⟨t, ht, rfl, rfl⟩ := hrel
        have hkM : decide (k < 2 ^ m) = true := decide_eq_true (by rw [← HM.out]; exact hlt)
        by_cases h1 : t < m
        · have h1I : (t : Int) < 64 := by omega
          have hw : wordTo (putP gs k) (t + 1) = wordTo (putP gs k) t ||| (if putP gs k t then 1#64 <<< t else 0#64) := rfl
          by_cases h2 : t < n'
          · have h2I : (t : Int) < (n' : Int) := by omega
            obtain ⟨ad, Ai, ni, ci, rfl, hcell, hrd⟩ := HR.out t (by rw [← HN.out]; exact h2)
            have hc := hFr.cell hcell
            have hA := rat_any hFr m hm _ Ai ni ci hrd (k : Int) (Int.natCast_nonneg _)
            rw [Int.toNat_natCast, hkM, Bool.true_and] at hA
            clear hkM
            by_cases hb1 : bitAt (gs.getD t []) k = true
            · rw [hb1] at hA
              rw [if_pos (show putP gs k t = true from hb1)] at hw
              have HA := Lib.hid hA
              have HW := Lib.hid hw
              clear hA hw hb1 hcell
              go_wp2_with (go_at_call 20; refine HA.out.mono ?_; rintro e w' ⟨rfl, rfl⟩)
              go_round
              case rel => exact ⟨t + 1, by omega, by go_num, by rw [HW.out]⟩
              case measure => simp [intOf]; omega
            · have hb2 : bitAt (gs.getD t []) k = false := by simpa using hb1
              rw [hb2] at hA
              rw [if_neg (show ¬ putP gs k t = true from hb1)] at hw
              have HA := Lib.hid hA
              have HW := Lib.hid hw
              clear hA hw hb1 hb2 hcell
              go_wp2_with (go_at_call 20; refine HA.out.mono ?_; rintro e w' ⟨rfl, rfl⟩)
              go_round
              case rel => exact ⟨t + 1, by omega, by go_num, by rw [HW.out]; simp⟩
              case measure => simp [intOf]; omega
          · rw [if_neg (by rw [putP_out gs k t (by rw [← HN.out]; omega)]; simp)] at hw
            have HW := Lib.hid hw
            clear hw hkM
            go_wp2
            go_round
            case rel => exact ⟨t + 1, by omega, by go_num, by rw [HW.out]; simp⟩
            case measure => simp [intOf]; omega
        · have hA := rat_any hFr m hm fs A n c hf (uz (wordTo (putP gs k) t)) (uz_nonneg _)
          have hst : t = m := by omega
          have hy : (uz (wordTo (putP gs k) t)).toNat = putY m gs k := by rw [uz_toNat, hst]; rfl
          rw [hy, show decide (putY m gs k < 2 ^ m) = true from decide_eq_true (HY.out k), Bool.true_and] at hA
          clear hy hst hkM
          have h064 : (k : Int) % 64 < 64 := by omega
          have hkW : k / 64 < wordsN m := by have := HC.out; omega
          have hkI : (k : Int) / 64 < (wordsN m : Int) := by omega
          have h0 : 0 ≤ (k : Int) % 64 := by omega
          have hx : (tabTo m (fun x => bitAt fs (putY m gs x)) k)[k / 64]? = some ((tabTo m (fun x => bitAt fs (putY m gs x)) k).getD (k / 64) 0#64) := by
            rw [List.getD, List.getElem?_eq_getElem (by rw [length_tabTo]; exact hkW)]; rfl
          have hc := hB.cellL hx
          have hfz := hB.frozen (k / 64)
          by_cases hb1 : bitAt fs (putY m gs k) = true
          · rw [hb1] at hA
            have HA := Lib.hid hA
            have HS := Lib.hid (tabTo_step m (fun x => bitAt fs (putY m gs x)) k (by rw [← HM.out]; exact hlt) (1#64 <<< (k % 64)) (fun b hb => step_one k (fun x => bitAt fs (putY m gs x)) hb1 b hb))
            clear hA hb1 hx
            generalize (tabTo m (fun x => bitAt fs (putY m gs x)) k).getD (k / 64) 0#64 = v0 at *
            go_wp2_with (go_at_call 20; refine HA.out.mono ?_; rintro e w' ⟨rfl, rfl⟩)
            go_roundw
            case rel => exact ⟨k + 1, by omega, by go_num, hbr.setCell (Nat.le_refl _) _, hB.setL (k / 64) _ HS.out⟩
            case measure => simp [intOf]; omega
          · have hb2 : bitAt fs (putY m gs k) = false := by simpa using hb1
            rw [hb2] at hA
            have HA := Lib.hid hA
            have HS := Lib.hid (tabTo_keep m (fun x => bitAt fs (putY m gs x)) k hb2)
            clear hA hb1 hb2 hx
            go_wp2_with (go_at_call 20; refine HA.out.mono ?_; rintro e w' ⟨rfl, rfl⟩)
            go_roundw
            case rel => exact ⟨k + 1, by omega, by go_num, hbr, by rw [← HS.out]; exact hB⟩
            case measure => simp [intOf]; omega
    · have hkp : ¬ (k : Int) < pw m := by rw [HPW.out]; omega
      obtain rfl : k = M := by omega
      rw [HE.out] at hB
      go_wp2
      go_ret
      exact retO_mk hbr (Nat.le_refl _) hB (by rw [length_tab])

end Go.Proofs.Ytkffofolhckjeaa
