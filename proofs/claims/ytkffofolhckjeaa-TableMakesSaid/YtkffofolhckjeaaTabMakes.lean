/- The law TableMakes: its walk. -/
import Derived.Test.YtkffofolhckjeaaTab6
import Derived.Deep.DeepCutAuto
import Derived.Deep.RegionWith
namespace Go.Proofs.Ytkffofolhckjeaa
open Go.RowKit
attribute [local go_sem ↓] bits_and bits_or not_bits arith_add arith_sub shift_l shift_r shift_lu shift_ru shift_int conv_uu shift_l1 shift_l1u bits_and1 arith_sub1 shift_rn and_one_n
attribute [local go_sem] uz_toNat uz_nonneg wrap_bit

set_option maxRecDepth 100000 in
theorem makes_big (x i : Int) (X : Int) (A : Option Addr) (n c : Nat) (h : 100 < n) (w : World) :
    Calls Try.prog 6 #[.int .i64 x, .int .i64 i, .slice A n c, .int .u64 X] w fun e w' => e = .returned (.bool true) ∧ Below w.heap.size w w' := by
  have h1I : (100 : Int) < (n : Int) := by omega
  go_enter Try.func6, Try.ntmps6
  go_wp2_with (go_at_call 15; refine (awake28 _).mono ?_; rintro e w1 ⟨rfl, hb1⟩)
  go_ret
  exact ⟨rfl, hb1⟩

set_option maxRecDepth 100000 in
set_option maxHeartbeats 2000000 in
theorem makes_out (x i : Int) (hx : x < 0 ∨ 10 < x) (X : Int) (A : Option Addr) (n c : Nat) (hn : n ≤ 100) (w : World) :
    Calls Try.prog 6 #[.int .i64 x, .int .i64 i, .slice A n c, .int .u64 X] w fun e w' => e = .returned (.bool true) ∧ Below w.heap.size w w' := by
  have h1I : ¬ (100 : Int) < (n : Int) := by omega
  have HX := Lib.hid hx
  clear hx
  go_enter Try.func6, Try.ntmps6
  go_wp2_with fail
  refine (const_no x HX.out _).mono ?_
  rintro e w' ⟨rfl, rfl⟩
  go_wp2_with fail
  refine (rconst_no x HX.out _).mono ?_
  rintro e w' ⟨rfl, rfl⟩
  go_wp2_with fail
  refine (words_no x HX.out _).mono ?_
  rintro e w' ⟨rfl, rfl⟩
  go_wp2_with fail
  refine (rwords_no x HX.out _).mono ?_
  rintro e w' ⟨rfl, rfl⟩
  go_wp2_with fail
  refine (at_no x HX.out _ _).mono ?_
  rintro e w' ⟨rfl, rfl⟩
  go_wp2_with fail
  refine (rat_no x HX.out _ _).mono ?_
  rintro e w' ⟨rfl, rfl⟩
  go_wp2_with fail
  refine (right_no x HX.out _).mono ?_
  rintro e w' ⟨rfl, rfl⟩
  go_wp2_with fail
  refine (no_no x HX.out).mono ?_
  rintro e w' ⟨rfl, rfl⟩
  go_wp2_with fail
  refine (yes_no x HX.out).mono ?_
  rintro e w' ⟨rfl, rfl⟩
  go_wp2_with fail
  refine (atom_no x HX.out _).mono ?_
  rintro e w' ⟨rfl, rfl⟩
  go_wp2_with fail
  refine (notf_no x HX.out _).mono ?_
  rintro e w' ⟨rfl, rfl⟩
  go_wp2_with fail
  refine (andf_no x HX.out _ _).mono ?_
  rintro e w' ⟨rfl, rfl⟩
  go_wp2_with fail
  refine (orf_no x HX.out _ _).mono ?_
  rintro e w' ⟨rfl, rfl⟩
  go_wp2_with fail
  refine (put_no x HX.out _ _).mono ?_
  rintro e w1 ⟨rfl, rfl⟩
  go_wp2_with fail
  refine (same_no x HX.out _ _).mono ?_
  rintro e w1 ⟨rfl, rfl⟩
  go_wp2_with fail
  refine (awake28 _).mono ?_
  rintro e w4 ⟨rfl, hb4⟩
  go_wp2
  go_ret
  exact ⟨rfl, bthen (balloc _ _) hb4⟩

/-- The atom's function, whatever its number. -/
def atomP (m : Nat) (i : Int) (x : Nat) : Bool := decide (0 ≤ i ∧ i < (m : Int)) && x.testBit i.toNat
theorem atom_any {w : World} (m : Nat) (hm : m ≤ 10) (i : Int) :
    Calls Try.prog 34 #[.int .i64 m, .int .i64 i] w (RetO w (tab m (atomP m i))) := by
  by_cases h : 0 ≤ i ∧ i < (m : Int)
  · obtain ⟨j, rfl⟩ := Int.eq_ofNat_of_zero_le h.1
    have e : tab m (atomP m (j : Int)) = tab m fun x => x.testBit j := tab_congr fun x _ => by unfold atomP; simp [h]
    rw [e]
    exact atom_in m hm j (by omega)
  · have e : tab m (atomP m i) = tab m fun _ => false := tab_congr fun x _ => by unfold atomP; simp [h]
    rw [e]
    exact atom_out m hm i (by omega)

theorem two_blocks (w w1 : World) (t : TypeId) (z : Array Value) (hb : Below w.heap.size w w1) : Below w.heap.size w ((w1.alloc (.cells z t)).alloc (.cells z t)) ∧ Blk ((w1.alloc (.cells z t)).alloc (.cells z t)) w1.heap.size t z ∧ Blk ((w1.alloc (.cells z t)).alloc (.cells z t)) (w1.heap.size + 1) t z := by
  refine ⟨bthen hb (bthen (balloc _ _) (balloc _ _)), (Blk.new _ _ _).alloc _, ?_⟩
  have := Blk.new (w1.alloc (.cells z t)) t z
  rwa [World.size_alloc] at this
theorem zeros_no (m : Nat) : zeros (u 0#64) (wordsN m) = ((tab m fun _ => false).map u).toArray := by
  rw [zeros_tab m fun _ => false, tabTo_zero]
theorem get_tabTo (m : Nat) (p : Nat → Bool) (k : Nat) (h : k / 64 < wordsN m) : (tabTo m p k)[k / 64]? = some ((tabTo m p k).getD (k / 64) 0#64) := by
  rw [List.getD, List.getElem?_eq_getElem (by rw [length_tabTo]; exact h)]; rfl

set_option maxRecDepth 100000 in
set_option maxHeartbeats 4000000 in
theorem makes_in (m : Nat) (hm : m ≤ 10) (i : Int) (X : Int) (hX : 0 ≤ X) (fs : List (BitVec 64)) (A : Option Addr) (n c : Nat) (hn : n ≤ 100) (w : World) (hf : Rd (heapF w) 1 A n (fs.map u)) :
    Calls Try.prog 6 #[.int .i64 m, .int .i64 i, .slice A n c, .int .u64 X] w fun e w' => e = .returned (.bool true) ∧ Below w.heap.size w w' := by
  have h1I : ¬ (100 : Int) < (n : Int) := by omega
  have hfl : fs.length ≤ 1000 := by rw [← rd_len hf]; omega
  have hS := sat_heapF w
  have HC := Lib.hid (const_yes hS m hm fs A n c hf)
  have HR := Lib.hid (fun w1 (h1 : Below w.heap.size w w1) => rconst_yes (hS.below h1) m hm fs A n c hf)
  have HA := Lib.hid (fun w1 (h1 : Below w.heap.size w w1) => at_any (hS.below h1) m hm fs hfl A n c hf X hX)
  have HRA := Lib.hid (fun w1 (h1 : Below w.heap.size w w1) => rat_any (hS.below h1) m hm fs A n c hf X hX)
  rw [cV_rV] at HC
  generalize (rV m fs).1 = v at *
  generalize (rV m fs).2 = is at *
  generalize (decide (X.toNat < 2 ^ m) && bitAt fs X.toNat) = at1 at *
  have hmk := makeWx m hm
  have hW := words_le m hm
  have hm62 : m ≤ 62 := by omega
  have hm64 : (m : Int) < 64 := by omega
  have hp := pow_le_1024 m hm
  obtain ⟨M, hM⟩ : ∃ M, M = 2 ^ m := ⟨_, rfl⟩
  have HCV := Lib.hid (words_cover m)
  have HPW := Lib.hid (show pw m = ((2 ^ m : Nat) : Int) from rfl)
  rw [← hM] at HCV HPW hp
  have HM := Lib.hid hM
  clear hM hf
  have e1 : (at1 != at1) = false := by simp
  have e2 : (v != v) = false := by simp
  have e3 : (is != is) = false := by simp
  go_enter Try.func6, Try.ntmps6
  go_wp2_with fail
  refine HC.out.mono ?_
  rintro e w1 ⟨rfl, hb1⟩
  go_wp2_with fail
  refine (HR.out _ hb1).mono ?_
  rintro e w' ⟨rfl, rfl⟩
  go_wp2_with fail
  refine (words_yes m hm _).mono ?_
  rintro e w' ⟨rfl, rfl⟩
  go_wp2_with fail
  refine (rwords_yes m hm _).mono ?_
  rintro e w' ⟨rfl, rfl⟩
  go_wp2_with fail
  refine (HA.out _ hb1).mono ?_
  rintro e w' ⟨rfl, rfl⟩
  go_wp2_with fail
  refine (HRA.out _ hb1).mono ?_
  rintro e w' ⟨rfl, rfl⟩
  go_wp2_with fail
  refine (right_yes m hm _).mono ?_
  rintro e w' ⟨rfl, rfl⟩
  go_upto_region 9 with fail
  go_cut [13, 14] (fun sy sa wx => ∃ gy ga : Nat, sy = .slice (some ⟨gy, 0, none⟩) (wordsN m) (wordsN m) ∧ sa = .slice (some ⟨ga, 0, none⟩) (wordsN m) (wordsN m) ∧ gy ≠ ga ∧ w.heap.size ≤ gy ∧ w.heap.size ≤ ga ∧ Below w.heap.size w wx ∧ Blk wx gy 27 (zeros (u 0#64) (wordsN m)) ∧ Blk wx ga 27 (zeros (u 0#64) (wordsN m)))
  case first =>
    go_region_with (go_at_call 32; refine (rwords_yes m hm _).mono ?_; rintro e w' ⟨rfl, rfl⟩)
    all_goals
      go_wp2_with fail
      go_meet
      obtain ⟨t1, t2, t3⟩ := two_blocks w w1 27 (zeros (u 0#64) (wordsN m)) hb1
      have t0 := hb1.size
      first
      | exact ⟨w1.heap.size, w1.heap.size + 1, rfl, rfl, by omega, t0, by omega, t1.drew, t2, t3⟩
      | exact ⟨w1.heap.size + 1, w1.heap.size, rfl, rfl, by omega, by omega, t0, t1.drew, t3, t2⟩
  case rest =>
    obtain ⟨gy, ga, rfl, rfl, hne, hgy, hga, hb2, hy, ha⟩ := hcut
    have HB := Lib.hid hb2
    rw [zeros_tab m fun _ => true] at hy
    rw [zeros_tab m (atomP m i)] at ha
    clear HC HR HA HRA e1 e2 e3 hb1 hb2
    go_wp2_with fail
    go_loopw [129] (fun j wr => ∃ k : Nat, k ≤ M ∧ j = .int .i64 k ∧ Below w.heap.size w wr ∧ Blk wr gy 27 ((tabTo m (fun _ => true) k).map u).toArray ∧ Blk wr ga 27 ((tabTo m (atomP m i) k).map u).toArray) (fun j _ => M - (intOf j).toNat)
    case atStart => exact ⟨0, Nat.zero_le _, rfl, HB.out, hy, ha⟩
    case round =>
      obtain ⟨k, hk, rfl, hbr, hY, hA⟩ := hrel
      by_cases hlt : k < M
      · have hkp : (k : Int) < pw m := by rw [HPW.out]; omega
        have hk6 : k ≤ 1000000 := by omega
        have hkW : k / 64 < wordsN m := by have := HCV.out; omega
        have hkI : (k : Int) / 64 < (wordsN m : Int) := by omega
        have h0 : 0 ≤ (k : Int) % 64 := by omega
        have h064 : (k : Int) % 64 < 64 := by omega
        have hkI6 : (k : Int) ≤ 1024 := by omega
        have hkM : k < 2 ^ m := by rw [← HM.out]; exact hlt
        have hc1 := hY.cellL (get_tabTo m _ k hkW)
        have hf1 := hY.frozen (k / 64)
        have hc2 := hA.cellL (get_tabTo m _ k hkW)
        have hf2 := hA.frozen (k / 64)
        have S1 := Lib.hid (tabTo_step m (fun _ => true) k hkM (1#64 <<< (k % 64)) (fun b hb => step_one k (fun _ => true) rfl b hb))
        generalize (tabTo m (fun _ => true) k).getD (k / 64) 0#64 = v1 at *
        obtain ⟨v2, hv2⟩ : ∃ v2, (tabTo m (atomP m i) k).getD (k / 64) 0#64 = v2 := ⟨_, rfl⟩
        rw [hv2] at hc2
        have hv2 := Lib.hid hv2
        have hc2' : ∀ v : Value, (wr.setCell ⟨gy, k / 64, none⟩ v).cell? ⟨ga, k / 64, none⟩ = some (u v2) := fun v => by
          rw [World.cell?_setCell_other _ _ _ _ (fun e => hne (by injection e))]; exact hc2
        have hf2' : ∀ v : Value, (wr.setCell ⟨gy, k / 64, none⟩ v).frozen? ⟨ga, k / 64, none⟩ = false := fun v => by
          rw [World.frozen?_setCell]; exact hf2
        by_cases hi : 0 ≤ i ∧ i < (m : Int)
        · obtain ⟨j, rfl⟩ := Int.eq_ofNat_of_zero_le hi.1
          have hj : j < m := by omega
          have hj64 : j < 64 := by omega
          have hj64I : (j : Int) < 64 := by omega
          have hP : atomP m (j : Int) k = k.testBit j := by unfold atomP; simp [hj]
          have hT : k.testBit j = decide (bitN k j = 1) := Nat.testBit_eq_decide_div_mod_eq
          clear hi
          by_cases hb : bitN k j = 1
          · have hbI : (((bitN k j : Nat) : Int) == 1) = true := by rw [hb]; rfl
            have hPk : atomP m (j : Int) k = true := by rw [hP, hT, decide_eq_true hb]
            have S2 := Lib.hid (tabTo_step m (atomP m (j : Int)) k hkM (1#64 <<< (k % 64)) (fun b hb => step_one k (atomP m (j : Int)) hPk b hb))
            rw [show (tabTo m (atomP m (j : Int)) k).getD (k / 64) 0#64 = v2 from hv2.out] at S2
            clear hP hT hb hPk
            go_wp2
            go_roundw
            case rel => exact ⟨k + 1, by omega, by go_num, (hbr.setCell hgy _).setCell hga _, (hY.setL (k / 64) _ S1.out).far hne _, (hA.far (Ne.symm hne) _).setL (k / 64) _ S2.out⟩
            case measure => simp [intOf]; omega
          · have hbI : (((bitN k j : Nat) : Int) == 1) = false := by rw [beq_eq_false_iff_ne]; omega
            have hPk : atomP m (j : Int) k = false := by rw [hP, hT, decide_eq_false hb]
            have S2 := Lib.hid (tabTo_keep m (atomP m (j : Int)) k hPk)
            clear hP hT hb hPk
            go_wp2
            go_roundw
            case rel => exact ⟨k + 1, by omega, by go_num, hbr.setCell hgy _, hY.setL (k / 64) _ S1.out, by rw [← S2.out]; exact hA.far (Ne.symm hne) _⟩
            case measure => simp [intOf]; omega
        · have hPk : atomP m i k = false := by unfold atomP; simp only [hi, decide_false, Bool.false_and]
          have S2 := Lib.hid (tabTo_keep m (atomP m i) k hPk)
          have hd : (¬ 0 ≤ i) ∨ (0 ≤ i ∧ ¬ i < (m : Int)) := by omega
          clear hi hPk
          rcases hd with hd | ⟨hd, hd2⟩
          all_goals
            go_wp2
            go_roundw
            case rel => exact ⟨k + 1, by omega, by go_num, hbr.setCell hgy _, hY.setL (k / 64) _ S1.out, by rw [← S2.out]; exact hA.far (Ne.symm hne) _⟩
            case measure => simp [intOf]; omega
      · have hkp : ¬ (k : Int) < pw m := by rw [HPW.out]; omega
        rw [tabTo_all m _ k (by rw [← HM.out]; omega)] at hY hA
        have hz0 : zeros (u 0#64) (wordsN m) = _ := zeros_no m
        have HZ := Lib.hid hz0
        have L1 : (tab m fun _ => false).length ≤ 100000 := by have := tab_len m hm fun _ => false; omega
        have L2 : (tab m fun _ => true).length ≤ 100000 := by have := tab_len m hm fun _ => true; omega
        have L3 : (tab m (atomP m i)).length ≤ 100000 := by have := tab_len m hm (atomP m i); omega
        clear hz0
        go_wp2_with fail
        refine (no_yes m hm).mono ?_
        rintro e w3 ⟨g3, c3, rfl, hb3, hg3, hr3⟩
        have hY := hY.call hb3
        have hA := hA.call hb3
        have hb3 := bthen hbr hb3
        go_wp2_with fail
        refine (rwords_yes m hm _).mono ?_
        rintro e w' ⟨rfl, rfl⟩
        go_wp2_with fail
        have hb4 := bthen hb3 (balloc w3 (.cells (zeros (u 0#64) (wordsN m)) 27))
        have hY := hY.alloc (.cells (zeros (u 0#64) (wordsN m)) 27)
        have hA := hA.alloc (.cells (zeros (u 0#64) (wordsN m)) 27)
        have hn4 := Blk.new w3 27 (zeros (u 0#64) (wordsN m))
        have hr4 := hr3.alloc (.cells (zeros (u 0#64) (wordsN m)) 27)
        have hE := sameWords_any (sat_heapF (w3.alloc (.cells (zeros (u 0#64) (wordsN m)) 27))) (tab m fun _ => false) (tab m fun _ => false) _ _ _ _ c3 (wordsN m) L1 hr4.rdH (by rw [HZ.out] at hn4 ⊢; exact hn4.rdH)
        rw [decide_eq_true rfl, length_tab] at hE
        have HE := Lib.hid hE
        clear hE hn4 hr4 hr3
        simp only [length_tab]
        go_wp2_with fail
        refine HE.out.mono ?_
        rintro e w5 ⟨rfl, q, rfl⟩
        have hY := hY.drewN q
        have hA := hA.drewN q
        have hb5 := below_drewN hb4 q
        clear HE hb4 hb3
        generalize (w3.alloc (.cells (zeros (u 0#64) (wordsN m)) 27)).drewN q = w5 at *
        go_wp2_with fail
        refine (yes_yes m hm).mono ?_
        rintro e w6 ⟨g6, c6, rfl, hb6, hg6, hr6⟩
        have hY := hY.call hb6
        have hA := hA.call hb6
        have hb6 := bthen hb5 hb6
        have hE := sameWords_any (sat_heapF w6) (tab m fun _ => true) (tab m fun _ => true) _ _ _ _ c6 (wordsN m) L2 hr6.rdH hY.rdH
        rw [decide_eq_true rfl, length_tab] at hE
        have HE := Lib.hid hE
        clear hE
        simp only [length_tab]
        go_wp2_with fail
        refine HE.out.mono ?_
        rintro e w7 ⟨rfl, q2, rfl⟩
        have hA := hA.drewN q2
        have hb7 := below_drewN hb6 q2
        clear HE hb6 hb5 hY hr6
        generalize w6.drewN q2 = w7 at *
        go_wp2_with fail
        refine (atom_any m hm i).mono ?_
        rintro e w8 ⟨g8, c8, rfl, hb8, hg8, hr8⟩
        have hA := hA.call hb8
        have hb8 := bthen hb7 hb8
        have hE := sameWords_any (sat_heapF w8) (tab m (atomP m i)) (tab m (atomP m i)) _ _ _ _ c8 (wordsN m) L3 hr8.rdH hA.rdH
        rw [decide_eq_true rfl, length_tab] at hE
        have HE := Lib.hid hE
        clear hE
        simp only [length_tab]
        go_wp2_with fail
        refine HE.out.mono ?_
        rintro e w9 ⟨rfl, q3, rfl⟩
        have hb9 := below_drewN hb8 q3
        go_wp2_with fail
        refine (awake28 _).mono ?_
        rintro e wa ⟨rfl, hba⟩
        go_wp2
        go_ret
        exact ⟨rfl, bthen hb9 hba⟩
end Go.Proofs.Ytkffofolhckjeaa
