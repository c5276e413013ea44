/- The law's wake-up call. -/
import Derived.Test.YtkffofolhckjeaaTab5
namespace Go.Proofs.Ytkffofolhckjeaa
open Go.RowKit
attribute [local go_sem ↓] bits_and bits_or not_bits arith_add arith_sub shift_l shift_r shift_lu shift_ru shift_int conv_uu shift_l1 shift_l1u bits_and1 arith_sub1 shift_rn and_one_n
attribute [local go_sem] uz_toNat uz_nonneg wrap_bit

theorem rd_one (w : World) (x : BitVec 64) (t : TypeId) : Rd (heapF (w.alloc (.cells #[.int .u64 (uz x)] t))) 1 (some ⟨w.heap.size, 0, none⟩) 1 ([x].map u) :=
  Blk.rdH (xs := [x]) (enc := u) (Blk.new w t #[.int .u64 (uz x)])
theorem cV_15 : cV 2 [15#64] = (true, true) := by decide +kernel
theorem atom_2_1 : tab 2 (fun x => x.testBit 1) = [12#64] := by decide +kernel
theorem bit_2_1 : (decide (1 < 2 ^ 1) && bitAt [2#64] 1) = true := by decide +kernel

theorem awake_const (w : World) : Calls Try.prog 24 #[.int .i64 2, .slice (some ⟨w.heap.size, 0, none⟩) 1 1] (w.alloc (.cells #[.int .u64 15] 27)) fun e w' => e = .returned (.tuple #[.bool true, .bool true]) ∧ Below (w.alloc (.cells #[.int .u64 15] 27)).heap.size (w.alloc (.cells #[.int .u64 15] 27)) w' := by
  have hC := const_yes (sat_heapF _) 2 (by omega) [15#64] (some ⟨w.heap.size, 0, none⟩) 1 1 (rd_one w 15#64 27)
  rw [cV_15] at hC
  exact hC
theorem awake_atom (w : World) : Calls Try.prog 34 #[.int .i64 2, .int .i64 1] w (RetO w [12#64]) := by
  have h := atom_in (w := w) 2 (by omega) 1 (by omega)
  rw [atom_2_1] at h
  exact h
theorem awake_words (w : World) : Calls Try.prog 31 #[.int .i64 7] w fun e w' => e = .returned (.int .i64 2) ∧ w = w' := words_yes 7 (by omega) w
theorem awake_at (w : World) : Calls Try.prog 21 #[.int .i64 1, .slice (some ⟨w.heap.size, 0, none⟩) 1 1, .int .u64 1] (w.alloc (.cells #[.int .u64 2] 27)) fun e w' => e = .returned (.bool true) ∧ (w.alloc (.cells #[.int .u64 2] 27)) = w' := by
  have h := at_any (sat_heapF _) 1 (by omega) [2#64] (by decide) (some ⟨w.heap.size, 0, none⟩) 1 1 (rd_one w 2#64 27) 1 (by omega)
  rw [show (1 : Int).toNat = 1 from rfl, bit_2_1] at h
  exact h
theorem awake_same (w w1 : World) (g c : Nat) (hw : w1 = w.alloc (.cells #[.int .u64 12] 27)) (hg : Blk w1 g 27 ([12#64].map u).toArray) :
    Calls Try.prog 27 #[.slice (some ⟨g, 0, none⟩) 1 c, .slice (some ⟨w.heap.size, 0, none⟩) 1 1] w1 fun e w' => e = .returned (.bool true) ∧ ∃ q, w' = w1.drewN q := by
  subst hw
  exact sameWords_any (sat_heapF _) [12#64] [12#64] _ _ 1 1 c 1 (by decide) hg.rdH (rd_one w 12#64 27)

theorem awake28 (w : World) : Calls Try.prog 15 #[] w fun e w' => e = .returned (.bool true) ∧ Below w.heap.size w w' := by
  go_enter Try.func15, Try.ntmps15
  go_wp2_with fail
  refine (awake_const w).mono ?_
  rintro e w1 ⟨rfl, hb1⟩
  have hb1 := bthen (balloc w _) hb1
  go_wp2_with fail
  refine (awake_atom w1).mono ?_
  rintro e w2 ⟨g, c, rfl, hb2, hg2, hr2⟩
  have hb2 := bthen hb1 hb2
  go_wp2_with fail
  refine (awake_same w2 _ g c rfl (hr2.alloc _)).mono ?_
  rintro e w3 ⟨rfl, q, rfl⟩
  have hb3 := below_drewN (bthen hb2 (balloc w2 (.cells #[.int .u64 12] 27))) q
  generalize (w2.alloc (.cells #[.int .u64 12] 27)).drewN q = w3 at *
  go_wp2_with fail
  refine (awake_words w3).mono ?_
  rintro e w4 ⟨rfl, rfl⟩
  go_wp2_with fail
  refine (awake_at w3).mono ?_
  rintro e w4 ⟨rfl, rfl⟩
  go_wp2
  go_ret
  exact ⟨rfl, bthen hb3 (balloc _ _)⟩
end Go.Proofs.Ytkffofolhckjeaa
