/- The walks of table's functions that make memory. -/
import Derived.Test.YtkffofolhckjeaaTab1
import Derived.Deep.RegionWith
namespace Go.Proofs.Ytkffofolhckjeaa
open Go.RowKit
attribute [local go_sem ↓] bits_and bits_or not_bits arith_add arith_sub shift_l shift_r shift_lu shift_ru shift_int conv_uu shift_l1 shift_l1u bits_and1 arith_sub1
attribute [local go_sem] uz_toNat uz_nonneg

/-- Words are handed back, in a block of their own. -/
def RetO (w : World) (xs : List (BitVec 64)) (e : Ending) (w' : World) : Prop :=
  ∃ g c, e = .returned (.slice (some ⟨g, 0, none⟩) xs.length c) ∧ Below w.heap.size w w' ∧ w.heap.size ≤ g ∧ Blk w' g 27 (xs.map u).toArray

theorem Try.infoW : (Try.prog.info? 27).map (fun i => (i.zero, i.size, i.bytes)) = some (some (.int .u64 0), 1, 8) := by kernel_rfl
theorem Try.sizeW : (Try.prog.info? 27).map (·.size) = some 1 := by kernel_rfl
theorem makeW (n : Nat) (hn : n ≤ 1000000) (w : World) : (Instr.makeSlice 22 (.int .i64 (n : Int)) (.int .i64 (n : Int))).run Try.prog w = .ok (.slice (some ⟨w.heap.size, 0, none⟩) n n) (w.alloc (.cells (zeros (u 0#64) n) 27)) :=
  run_make1 _ _ _ 8 Try.underlying22 Try.infoW rfl n (by omega) (by omega) w

theorem retO_mk {w w' : World} {xs : List (BitVec 64)} {n c g : Nat} (hb : Below w.heap.size w w') (hg : w.heap.size ≤ g) (h : Blk w' g 27 (xs.map u).toArray) (hn : n = xs.length) :
    RetO w xs (.returned (.slice (some ⟨g, 0, none⟩) n c)) w' := by
  subst hn
  exact ⟨_, _, rfl, hb, hg, h⟩

theorem plain_no {w : World} (n : Int) (hm : n < 0 ∨ 10 < n) (v : Value) :
    Calls Try.prog 53 #[.int .i64 n, v] w fun e w' => e = .returned (.slice none 0 0) ∧ w = w' := by
  go_enter Try.func53, Try.ntmps53
  go_wp2_with (go_at_call 55; refine (may_no n hm _).mono ?_; rintro e w' ⟨rfl, rfl⟩)
  go_ret
  exact ⟨rfl, rfl⟩

set_option maxRecDepth 20000 in
set_option maxHeartbeats 400000 in
theorem plain_yes {F : Fz} {w : World} (hF : Sat F w) (m : Nat) (hm : m ≤ 10) (fs : List (BitVec 64)) (A : Option Addr) (n c : Nat) (hf : Rd F 1 A n (fs.map u)) :
    Calls Try.prog 53 #[.int .i64 m, .slice A n c] w (RetO w (tab m (bitAt fs))) := by
  obtain rfl := rd_len hf
  have hW := words_le m hm
  have hmk := fun W => makeW (wordsN m) (by omega) W
  have hFa := hF.alloc (.cells (zeros (u 0#64) (wordsN m)) 27)
  by_cases h6 : m < 6
  · have h6I : (m : Int) < 6 := by omega
    go_enter Try.func53, Try.ntmps53
    go_wp2_with (first | (go_at_call 55; refine (may_yes m hm _).mono ?_; rintro e w' ⟨rfl, rfl⟩) | (go_at_call 31; refine (words_yes m hm _).mono ?_; rintro e w' ⟨rfl, rfl⟩) | (refine wpList_copy_new rfl (.tmp 12) (.tmp 13) _ _ rfl _ Try.underlying22 Try.sizeW w.heap.size (wordsN m) (by rfl) _ _ _ (by rfl) hFa _ hf (ones_u _) (u 0#64) (Blk.new _ _ _) w.heap.size w ((Below.refl _ _).alloc (Nat.le_refl _) _) (Nat.le_refl _) ?_; intro w1 hw1 hb1 k1))
    have hone : wordsN m = 1 := by unfold wordsN; rw [if_neg (by omega)]
    have hw2 : Blk w1 w.heap.size 27 #[u (fs.getD 0 0#64)] := by
      rw [padV_u, pad_one _ hone] at hw1
      exact hw1
    have hc := hw2.cell 0
    have hfz := hw2.frozen 0
    have HO := Lib.hid hone
    have HT := Lib.hid (mask_tab m h6 fs)
    have hpos : (0 : Int) < (wordsN m : Int) := by have := words_pos m; omega
    clear hone hw1 h6
    simp only [List.getElem?_toArray, List.getElem?_cons_zero] at hc
    generalize fs.getD 0 0#64 = f0 at *
    go_wp2
    go_region
    go_wp2
    go_ret
    exact retO_mk (by first | exact (hb1.setCell (Nat.le_refl _) _).drew | exact hb1.drew.setCell (Nat.le_refl _) _) (Nat.le_refl _) (by rw [← HT.out]; exact hw2.set_ 0 _) (by rw [length_tab])
  · have h6I : ¬ (m : Int) < 6 := by omega
    have HT := Lib.hid (pad_tab m (by omega) fs)
    go_enter Try.func53, Try.ntmps53
    go_wp2_with (first | (go_at_call 55; refine (may_yes m hm _).mono ?_; rintro e w' ⟨rfl, rfl⟩) | (go_at_call 31; refine (words_yes m hm _).mono ?_; rintro e w' ⟨rfl, rfl⟩) | (refine wpList_copy_new rfl (.tmp 12) (.tmp 13) _ _ rfl _ Try.underlying22 Try.sizeW w.heap.size (wordsN m) (by rfl) _ _ _ (by rfl) hFa _ hf (ones_u _) (u 0#64) (Blk.new _ _ _) w.heap.size w ((Below.refl _ _).alloc (Nat.le_refl _) _) (Nat.le_refl _) ?_; intro w1 hw1 hb1 k1))
    go_wp2
    go_ret
    rw [padV_u, HT.out] at hw1
    exact retO_mk hb1 (Nat.le_refl _) hw1 (by rw [length_tab])

theorem no_yes {w : World} (m : Nat) (hm : m ≤ 10) :
    Calls Try.prog 26 #[.int .i64 m] w (RetO w (tab m fun _ => false)) := by
  have h := @plain_yes _ w (sat_heapF w) m hm [] none 0 0 Rd.nil
  have e : tab m (bitAt []) = tab m fun _ => false := tab_congr fun x _ => bit_nil x
  rw [e] at h
  have H := Lib.hid h
  clear h e
  go_enter Try.func26, Try.ntmps26
  go_wp2_with (go_at_call 53; refine H.out.mono ?_; rintro e w' ⟨g, c, rfl, hb, hg, hr⟩)
  go_ret
  exact ⟨g, c, rfl, hb, hg, hr⟩
theorem no_no {w : World} (n : Int) (hm : n < 0 ∨ 10 < n) :
    Calls Try.prog 26 #[.int .i64 n] w fun e w' => e = .returned (.slice none 0 0) ∧ w = w' := by
  go_enter Try.func26, Try.ntmps26
  go_wp2_with (go_at_call 53; refine (plain_no n hm _).mono ?_; rintro e w' ⟨rfl, rfl⟩)
  go_ret
  exact ⟨rfl, rfl⟩

theorem not_tab (m : Nat) (p : Nat → Bool) : tab m (bitAt ((tab m p).map fun x => ~~~x)) = tab m fun x => !p x := by
  apply tab_congr
  intro x hx
  have hc := words_cover m
  have hl : x / 64 < (tab m p).length := by rw [length_tab]; omega
  have hb := bit_tab m p x
  unfold bitAt at hb ⊢
  rw [List.getD, List.getElem?_map, List.getElem?_eq_getElem hl]
  rw [List.getD, List.getElem?_eq_getElem hl] at hb
  simp only [Option.map_some, Option.getD_some, BitVec.getLsbD_not] at hb ⊢
  rw [hb]
  have : x % 64 < 64 := by omega
  simp [hx, this]
theorem notf_yes {F : Fz} {w : World} (hF : Sat F w) (m : Nat) (hm : m ≤ 10) (fs : List (BitVec 64)) (A : Option Addr) (n c : Nat) (hf : Rd F 1 A n (fs.map u)) :
    Calls Try.prog 17 #[.int .i64 m, .slice A n c] w (RetO w (tab m fun x => !bitAt fs x)) := by
  obtain rfl := rd_len hf
  have HN := Lib.hid (not_tab m (bitAt fs))
  have hW : (tab m (bitAt fs)).length ≤ 16 := by rw [length_tab]; exact words_le m hm
  have hp := plain_yes hF m hm fs A _ c hf
  generalize tab m (bitAt fs) = xs at *
  have HP := Lib.hid hp
  clear hp
  go_enter Try.func17, Try.ntmps17
  go_wp2_with (go_at_call 53; refine HP.out.mono ?_; rintro e w1 ⟨g, c1, rfl, hb, hg, hr⟩)
  go_loopw [12] (fun i wr => ∃ k : Nat, k ≤ xs.length ∧ i = .int .i64 k ∧ Below w.heap.size w wr ∧ Blk wr g 27 ((upto (fun x => ~~~x) k xs).map u).toArray) (fun i _ => xs.length - (intOf i).toNat)
  case atStart => exact ⟨0, Nat.zero_le _, rfl, hb, by rw [upto_zero]; exact hr⟩
  case round =>
    obtain ⟨k, hk, rfl, hbr, hB⟩ := hrel
    by_cases hlt : k < xs.length
    · have hc := hB.cellL (upto_get _ hlt)
      have hfz := hB.frozen k
      go_wp2
      go_roundw
      case rel => exact ⟨k + 1, by omega, by go_num, hbr.setCell hg _, hB.setL k _ (upto_set _ hlt)⟩
      case measure => simp [intOf]; omega
    · rw [upto_all _ (by omega)] at hB
      obtain ⟨hs2, hr2⟩ := Blk.rd (hF.below hbr) hB
      rw [List.length_map] at hr2
      have h2 := plain_yes hs2 m hm _ _ _ c1 hr2
      rw [HN.out] at h2
      have HP2 := Lib.hid h2
      clear hs2 hr2 hB h2
      go_wp2_with (go_at_call 53; refine HP2.out.mono ?_; rintro e w2 ⟨g2, c2, rfl, hb2, hg2, hr2⟩)
      go_ret
      exact retO_mk (hbr.trans (hb2.mono hbr.size)) (Nat.le_trans hbr.size hg2) hr2 rfl

end Go.Proofs.Ytkffofolhckjeaa
