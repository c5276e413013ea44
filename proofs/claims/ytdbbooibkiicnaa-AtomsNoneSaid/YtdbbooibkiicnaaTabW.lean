/- The walks of table's functions that make memory. -/
import Derived.Test.YtdbbooibkiicnaaTab1
import Derived.Deep.RegionWith
set_option linter.unusedVariables false
set_option linter.unusedSimpArgs false
/-! The walks of table's functions that make memory. -/
namespace Go.Proofs.Ytdbbooibkiicnaa
open Go.RowKit
attribute [local go_sem ↓] bits_and bits_or not_bits arith_add arith_sub shift_l shift_r shift_lu shift_ru shift_int conv_uu shift_l1 shift_l1u bits_and1 arith_sub1
attribute [local go_sem] uz_toNat uz_nonneg

/-- Words are handed back, in a block of their own. -/
def RetO (w : World) (xs : List (BitVec 64)) (e : Ending) (w' : World) : Prop :=
  ∃ g c, e = .returned (.slice (some ⟨g, 0, none⟩) xs.length c) ∧ Below w.heap.size w w' ∧ w.heap.size ≤ g ∧ Blk w' g 37 (xs.map u).toArray

theorem Try.infoW : (Try.prog.info? 37).map (fun i => (i.zero, i.size, i.bytes)) = some (some (.int .u64 0), 1, 8) := by kernel_rfl
theorem Try.sizeW : (Try.prog.info? 37).map (·.size) = some 1 := by kernel_rfl
theorem makeW (n : Nat) (hn : n ≤ 1000000) (w : World) : (Instr.makeSlice 58 (.int .i64 (n : Int)) (.int .i64 (n : Int))).run Try.prog w = .ok (.slice (some ⟨w.heap.size, 0, none⟩) n n) (w.alloc (.cells (zeros (u 0#64) n) 37)) :=
  run_make1 _ _ _ 8 Try.underlying58 Try.infoW rfl n (by omega) (by omega) w

theorem retO_mk {w w' : World} {xs : List (BitVec 64)} {n c g : Nat} (hb : Below w.heap.size w w') (hg : w.heap.size ≤ g) (h : Blk w' g 37 (xs.map u).toArray) (hn : n = xs.length) :
    RetO w xs (.returned (.slice (some ⟨g, 0, none⟩) n c)) w' := by
  subst hn
  exact ⟨_, _, rfl, hb, hg, h⟩

set_option maxRecDepth 20000 in
set_option maxHeartbeats 400000 in
theorem plain_yes {F : Fz} {w : World} (hF : Sat F w) (m : Nat) (hm : m ≤ 10) (fs : List (BitVec 64)) (A : Option Addr) (n c : Nat) (hf : Rd F 1 A n (fs.map u)) :
    Calls Try.prog 102 #[.int .i64 m, .slice A n c] w (RetO w (tab m (bitAt fs))) := by
  obtain rfl := rd_len hf
  have hW := words_le m hm
  have hmk := fun W => makeW (wordsN m) (by omega) W
  have hFa := hF.alloc (.cells (zeros (u 0#64) (wordsN m)) 37)
  by_cases h6 : m < 6
  · have h6I : (m : Int) < 6 := by omega
    go_enter Try.func102, Try.ntmps102
    go_wp2_with (first | (go_at_call 62; refine (may_yes m hm _).mono ?_; rintro e w' ⟨rfl, rfl⟩) | (go_at_call 35; refine (words_yes m hm _).mono ?_; rintro e w' ⟨rfl, rfl⟩) | (refine wpList_copy_new rfl (.tmp 12) (.tmp 13) _ _ rfl _ Try.underlying58 Try.sizeW w.heap.size (wordsN m) (by rfl) _ _ _ (by rfl) hFa _ hf (ones_u _) (u 0#64) (Blk.new _ _ _) w.heap.size w ((Below.refl _ _).alloc (Nat.le_refl _) _) (Nat.le_refl _) ?_; intro w1 hw1 hb1 k1))
    have hone : wordsN m = 1 := by unfold wordsN; rw [if_neg (by omega)]
    have hw2 : Blk w1 w.heap.size 37 #[u (fs.getD 0 0#64)] := by
      rw [padV_u, pad_one _ hone] at hw1
      exact hw1
    have hc := hw2.cell 0
    have hfz := hw2.frozen 0
    have HO := Lib.hid hone
    have HT := Lib.hid (mask_tab m h6 fs)
    have hpos : (0 : Int) < (wordsN m : Int) := by have := words_pos m; omega
    clear hone hw1 h6
    simp only [List.getElem?_toArray, List.getElem?_cons_zero] at hc
    generalize fs.getD 0 0#64 = f0 at *
    go_wp2
    go_region
    go_wp2
    go_ret
    exact retO_mk (by first | exact (hb1.setCell (Nat.le_refl _) _).drew | exact hb1.drew.setCell (Nat.le_refl _) _) (Nat.le_refl _) (by rw [← HT.out]; exact hw2.set_ 0 _) (by rw [length_tab])
  · have h6I : ¬ (m : Int) < 6 := by omega
    have HT := Lib.hid (pad_tab m (by omega) fs)
    go_enter Try.func102, Try.ntmps102
    go_wp2_with (first | (go_at_call 62; refine (may_yes m hm _).mono ?_; rintro e w' ⟨rfl, rfl⟩) | (go_at_call 35; refine (words_yes m hm _).mono ?_; rintro e w' ⟨rfl, rfl⟩) | (refine wpList_copy_new rfl (.tmp 12) (.tmp 13) _ _ rfl _ Try.underlying58 Try.sizeW w.heap.size (wordsN m) (by rfl) _ _ _ (by rfl) hFa _ hf (ones_u _) (u 0#64) (Blk.new _ _ _) w.heap.size w ((Below.refl _ _).alloc (Nat.le_refl _) _) (Nat.le_refl _) ?_; intro w1 hw1 hb1 k1))
    go_wp2
    go_ret
    rw [padV_u, HT.out] at hw1
    exact retO_mk hb1 (Nat.le_refl _) hw1 (by rw [length_tab])

theorem no_yes {w : World} (m : Nat) (hm : m ≤ 10) :
    Calls Try.prog 97 #[.int .i64 m] w (RetO w (tab m fun _ => false)) := by
  have h := @plain_yes _ w (sat_heapF w) m hm [] none 0 0 Rd.nil
  have e : tab m (bitAt []) = tab m fun _ => false := tab_congr fun x _ => bit_nil x
  rw [e] at h
  have H := Lib.hid h
  clear h e
  go_enter Try.func97, Try.ntmps97
  go_wp2_with (go_at_call 102; refine H.out.mono ?_; rintro e w' ⟨g, c, rfl, hb, hg, hr⟩)
  go_ret
  exact ⟨g, c, rfl, hb, hg, hr⟩
theorem not_tab (m : Nat) (p : Nat → Bool) : tab m (bitAt ((tab m p).map fun x => ~~~x)) = tab m fun x => !p x := by
  apply tab_congr
  intro x hx
  have hc := words_cover m
  have hl : x / 64 < (tab m p).length := by rw [length_tab]; omega
  have hb := bit_tab m p x
  unfold bitAt at hb ⊢
  rw [List.getD, List.getElem?_map, List.getElem?_eq_getElem hl]
  rw [List.getD, List.getElem?_eq_getElem hl] at hb
  simp only [Option.map_some, Option.getD_some, BitVec.getLsbD_not] at hb ⊢
  rw [hb]
  have : x % 64 < 64 := by omega
  simp [hx, this]
theorem notf_yes {F : Fz} {w : World} (hF : Sat F w) (m : Nat) (hm : m ≤ 10) (fs : List (BitVec 64)) (A : Option Addr) (n c : Nat) (hf : Rd F 1 A n (fs.map u)) :
    Calls Try.prog 103 #[.int .i64 m, .slice A n c] w (RetO w (tab m fun x => !bitAt fs x)) := by
  obtain rfl := rd_len hf
  have HN := Lib.hid (not_tab m (bitAt fs))
  have hW : (tab m (bitAt fs)).length ≤ 16 := by rw [length_tab]; exact words_le m hm
  have hp := plain_yes hF m hm fs A _ c hf
  generalize tab m (bitAt fs) = xs at *
  have HP := Lib.hid hp
  clear hp
  go_enter Try.func103, Try.ntmps103
  go_wp2_with (go_at_call 102; refine HP.out.mono ?_; rintro e w1 ⟨g, c1, rfl, hb, hg, hr⟩)
  go_loopw [12] (fun i wr => ∃ k : Nat, k ≤ xs.length ∧ i = .int .i64 k ∧ Below w.heap.size w wr ∧ Blk wr g 37 ((upto (fun x => ~~~x) k xs).map u).toArray) (fun i _ => xs.length - (intOf i).toNat)
  case atStart => exact ⟨0, Nat.zero_le _, rfl, hb, by rw [upto_zero]; exact hr⟩
  case round =>
    obtain ⟨k, hk, rfl, hbr, hB⟩ := hrel
    by_cases hlt : k < xs.length
    · have hc := hB.cellL (upto_get _ hlt)
      have hfz := hB.frozen k
      go_wp2
      go_roundw
      case rel => exact ⟨k + 1, by omega, by go_num, hbr.setCell hg _, hB.setL k _ (upto_set _ hlt)⟩
      case measure => simp [intOf]; omega
    · rw [upto_all _ (by omega)] at hB
      obtain ⟨hs2, hr2⟩ := Blk.rd (hF.below hbr) hB
      rw [List.length_map] at hr2
      have h2 := plain_yes hs2 m hm _ _ _ c1 hr2
      rw [HN.out] at h2
      have HP2 := Lib.hid h2
      clear hs2 hr2 hB h2
      go_wp2_with (go_at_call 102; refine HP2.out.mono ?_; rintro e w2 ⟨g2, c2, rfl, hb2, hg2, hr2⟩)
      go_ret
      exact retO_mk (hbr.trans (hb2.mono hbr.size)) (Nat.le_trans hbr.size hg2) hr2 rfl

end Go.Proofs.Ytdbbooibkiicnaa
/-! The walks of And, Or, Yes, Atom, Same, Const. -/
namespace Go.Proofs.Ytdbbooibkiicnaa
open Go.RowKit
attribute [local go_sem ↓] bits_and bits_or not_bits arith_add arith_sub shift_l shift_r shift_lu shift_ru shift_int conv_uu shift_l1 shift_l1u bits_and1 arith_sub1 shift_rn and_one_n
attribute [local go_sem] uz_toNat uz_nonneg wrap_bit

theorem andf_yes {F : Fz} {w : World} (hF : Sat F w) (m : Nat) (hm : m ≤ 10) (fs gs : List (BitVec 64)) (A B : Option Addr) (n n' c c' : Nat) (hf : Rd F 1 A n (fs.map u)) (hg : Rd F 1 B n' (gs.map u)) :
    Calls Try.prog 100 #[.int .i64 m, .slice A n c, .slice B n' c'] w (RetO w (tab m fun x => and (bitAt fs x) (bitAt gs x))) := by
  have HZ := Lib.hid (zip_tab m (bitAt fs) (bitAt gs) (fun a b => a &&& b) and (fun a b i => by first | exact BitVec.getLsbD_and | exact BitVec.getLsbD_or) rfl)
  have hW : (tab m (bitAt fs)).length ≤ 16 := by rw [length_tab]; exact words_le m hm
  have hWW : (tab m (bitAt gs)).length = (tab m (bitAt fs)).length := by rw [length_tab, length_tab]
  have HP := Lib.hid (plain_yes hF m hm fs A _ c hf)
  have HP2 := Lib.hid (fun w1 (h1 : Sat F w1) => plain_yes h1 m hm gs B _ c' hg)
  generalize tab m (bitAt fs) = xs at *
  generalize tab m (bitAt gs) = ys at *
  have HL := Lib.hid hWW
  clear hWW
  go_enter Try.func100, Try.ntmps100
  go_wp2_with fail
  refine HP.out.mono ?_
  rintro e w1 ⟨g, c1, rfl, hb1, hg1, hr1⟩
  go_wp2_with fail
  refine (HP2.out _ (hF.below hb1)).mono ?_
  rintro e w2 ⟨g2, c2, rfl, hb2, hg2, hr2⟩
  have hr1 := hr1.call hb2
  have hne : g2 ≠ g := by have := (hr1.lt); have h3 : g < w1.heap.size := (by assumption : Blk w1 g _ _).lt; omega
  have hb := hb1.trans (hb2.mono hb1.size)
  have hg2' := Nat.le_trans hb1.size hg2
  clear hb1 hb2 hg2
  go_wp2_with fail
  go_loopw [18] (fun i wr => ∃ k : Nat, k ≤ xs.length ∧ i = .int .i64 k ∧ Below w.heap.size w wr ∧ Blk wr g 37 ((uptoI (fun i x => x &&& ys.getD i 0#64) k xs).map u).toArray ∧ Blk wr g2 37 (ys.map u).toArray) (fun i _ => xs.length - (intOf i).toNat)
  case atStart => exact ⟨0, Nat.zero_le _, rfl, hb, by rw [uptoI_zero]; exact hr1, hr2⟩
  case round =>
    obtain ⟨k, hk, rfl, hbr, hB, hB2⟩ := hrel
    by_cases hlt : k < xs.length
    · have hlt2 : k < ys.length := by rw [HL.out]; exact hlt
      have hkI : (k : Int) < (ys.length : Int) := by omega
      have hc := hB.cellL (uptoI_get _ hlt)
      have hc2 := hB2.cellL (List.getElem?_eq_getElem hlt2)
      have hfz := hB.frozen k
      have he : ys.getD k 0#64 = ys[k] := by simp [List.getD, hlt2]
      have HS := Lib.hid (uptoI_set (fun i x => x &&& ys.getD i 0#64) hlt)
      simp only [he] at HS
      clear he
      go_wp2
      go_region
      go_wp2
      go_roundw
      case rel => exact ⟨k + 1, by omega, by go_num, by first | exact (hbr.setCell hg1 _).drew | exact hbr.drew.setCell hg1 _, by first | exact (hB.setL k _ HS.out) | exact (hB.drew.setL k _ HS.out), by first | exact (hB2.far hne _) | exact (hB2.drew.far hne _)⟩
      case measure => simp [intOf]; omega
    · rw [uptoI_all _ (by omega), HZ.out] at hB
      go_wp2
      go_ret
      exact retO_mk hbr hg1 hB (by rw [← HZ.out]; simp)
theorem orf_yes {F : Fz} {w : World} (hF : Sat F w) (m : Nat) (hm : m ≤ 10) (fs gs : List (BitVec 64)) (A B : Option Addr) (n n' c c' : Nat) (hf : Rd F 1 A n (fs.map u)) (hg : Rd F 1 B n' (gs.map u)) :
    Calls Try.prog 99 #[.int .i64 m, .slice A n c, .slice B n' c'] w (RetO w (tab m fun x => or (bitAt fs x) (bitAt gs x))) := by
  have HZ := Lib.hid (zip_tab m (bitAt fs) (bitAt gs) (fun a b => a ||| b) or (fun a b i => by first | exact BitVec.getLsbD_and | exact BitVec.getLsbD_or) rfl)
  have hW : (tab m (bitAt fs)).length ≤ 16 := by rw [length_tab]; exact words_le m hm
  have hWW : (tab m (bitAt gs)).length = (tab m (bitAt fs)).length := by rw [length_tab, length_tab]
  have HP := Lib.hid (plain_yes hF m hm fs A _ c hf)
  have HP2 := Lib.hid (fun w1 (h1 : Sat F w1) => plain_yes h1 m hm gs B _ c' hg)
  generalize tab m (bitAt fs) = xs at *
  generalize tab m (bitAt gs) = ys at *
  have HL := Lib.hid hWW
  clear hWW
  go_enter Try.func99, Try.ntmps99
  go_wp2_with fail
  refine HP.out.mono ?_
  rintro e w1 ⟨g, c1, rfl, hb1, hg1, hr1⟩
  go_wp2_with fail
  refine (HP2.out _ (hF.below hb1)).mono ?_
  rintro e w2 ⟨g2, c2, rfl, hb2, hg2, hr2⟩
  have hr1 := hr1.call hb2
  have hne : g2 ≠ g := by have := (hr1.lt); have h3 : g < w1.heap.size := (by assumption : Blk w1 g _ _).lt; omega
  have hb := hb1.trans (hb2.mono hb1.size)
  have hg2' := Nat.le_trans hb1.size hg2
  clear hb1 hb2 hg2
  go_wp2_with fail
  go_loopw [18] (fun i wr => ∃ k : Nat, k ≤ xs.length ∧ i = .int .i64 k ∧ Below w.heap.size w wr ∧ Blk wr g 37 ((uptoI (fun i x => x ||| ys.getD i 0#64) k xs).map u).toArray ∧ Blk wr g2 37 (ys.map u).toArray) (fun i _ => xs.length - (intOf i).toNat)
  case atStart => exact ⟨0, Nat.zero_le _, rfl, hb, by rw [uptoI_zero]; exact hr1, hr2⟩
  case round =>
    obtain ⟨k, hk, rfl, hbr, hB, hB2⟩ := hrel
    by_cases hlt : k < xs.length
    · have hlt2 : k < ys.length := by rw [HL.out]; exact hlt
      have hkI : (k : Int) < (ys.length : Int) := by omega
      have hc := hB.cellL (uptoI_get _ hlt)
      have hc2 := hB2.cellL (List.getElem?_eq_getElem hlt2)
      have hfz := hB.frozen k
      have he : ys.getD k 0#64 = ys[k] := by simp [List.getD, hlt2]
      have HS := Lib.hid (uptoI_set (fun i x => x ||| ys.getD i 0#64) hlt)
      simp only [he] at HS
      clear he
      go_wp2
      go_region
      go_wp2
      go_roundw
      case rel => exact ⟨k + 1, by omega, by go_num, by first | exact (hbr.setCell hg1 _).drew | exact hbr.drew.setCell hg1 _, by first | exact (hB.setL k _ HS.out) | exact (hB.drew.setL k _ HS.out), by first | exact (hB2.far hne _) | exact (hB2.drew.far hne _)⟩
      case measure => simp [intOf]; omega
    · rw [uptoI_all _ (by omega), HZ.out] at hB
      go_wp2
      go_ret
      exact retO_mk hbr hg1 hB (by rw [← HZ.out]; simp)

theorem yes_yes {w : World} (m : Nat) (hm : m ≤ 10) :
    Calls Try.prog 64 #[.int .i64 m] w (RetO w (tab m fun _ => true)) := by
  have h := @notf_yes _ w (sat_heapF w) m hm [] none 0 0 Rd.nil
  have e : (tab m fun x => !bitAt [] x) = tab m fun _ => true := tab_congr fun x _ => by rw [bit_nil]; rfl
  rw [e] at h
  have H := Lib.hid h
  clear h e
  go_enter Try.func64, Try.ntmps64
  go_wp2_with (go_at_call 103; refine H.out.mono ?_; rintro e w' ⟨g, c, rfl, hb, hg, hr⟩)
  go_ret
  exact ⟨g, c, rfl, hb, hg, hr⟩
theorem same_yes {F : Fz} {w : World} (hF : Sat F w) (m : Nat) (hm : m ≤ 10) (fs gs : List (BitVec 64)) (A B : Option Addr) (n n' c c' : Nat) (hf : Rd F 1 A n (fs.map u)) (hg : Rd F 1 B n' (gs.map u)) :
    Calls Try.prog 63 #[.int .i64 m, .slice A n c, .slice B n' c'] w fun e w' => e = .returned (.bool (decide (tab m (bitAt fs) = tab m (bitAt gs)))) ∧ Below w.heap.size w w' := by
  have hW : (tab m (bitAt fs)).length ≤ 100000 := by rw [length_tab]; have := words_le m hm; omega
  have HP := Lib.hid (plain_yes hF m hm fs A _ c hf)
  have HP2 := Lib.hid (fun w1 (h1 : Sat F w1) => plain_yes h1 m hm gs B _ c' hg)
  generalize tab m (bitAt fs) = xs at *
  generalize tab m (bitAt gs) = ys at *
  go_enter Try.func63, Try.ntmps63
  go_wp2_with (go_at_call 62; refine (may_yes m hm _).mono ?_; rintro e w' ⟨rfl, rfl⟩)
  refine HP.out.mono ?_
  rintro e w1 ⟨g, c1, rfl, hb1, hg1, hr1⟩
  go_wp2_with fail
  refine (HP2.out _ (hF.below hb1)).mono ?_
  rintro e w2 ⟨g2, c2, rfl, hb2, hg2, hr2⟩
  have hr1 := hr1.call hb2
  have hE := equalWords_any (sat_heapF w2) xs ys (some ⟨g, 0, none⟩) (some ⟨g2, 0, none⟩) xs.length ys.length c1 c2 hW (hr1.rdH) (hr2.rdH)
  have HE := Lib.hid hE
  clear hE
  go_wp2_with (go_at_call 101; refine HE.out.mono ?_; rintro e w3 ⟨rfl, q, rfl⟩)
  go_ret
  exact ⟨rfl, below_drewN (hb1.trans (hb2.mono hb1.size)) q⟩
end Go.Proofs.Ytdbbooibkiicnaa
/-! The walks of Put, Const; the references' Fun, Put, Const. -/
namespace Go.Proofs.Ytdbbooibkiicnaa
open Go.RowKit
attribute [local go_sem ↓] bits_and bits_or not_bits arith_add arith_sub shift_l shift_r shift_lu shift_ru shift_int conv_uu shift_l1 shift_l1u bits_and1 arith_sub1 shift_rn and_one_n
attribute [local go_sem] uz_toNat uz_nonneg wrap_bit

end Go.Proofs.Ytdbbooibkiicnaa
/-! The walks of Const, the reference's Const, and the law's small helpers. -/
namespace Go.Proofs.Ytdbbooibkiicnaa
open Go.RowKit
attribute [local go_sem ↓] bits_and bits_or not_bits arith_add arith_sub shift_l shift_r shift_lu shift_ru shift_int conv_uu shift_l1 shift_l1u bits_and1 arith_sub1 shift_rn and_one_n
attribute [local go_sem] uz_toNat uz_nonneg wrap_bit

/-- Which one value a function has, and whether. -/
def cV (m : Nat) (fs : List (BitVec 64)) : Bool × Bool :=
  if tab m (bitAt fs) = tab m (fun _ => false) then (false, true) else if tab m (bitAt fs) = tab m (fun _ => true) then (true, true) else (false, false)
theorem const_yes {F : Fz} {w : World} (hF : Sat F w) (m : Nat) (hm : m ≤ 10) (fs : List (BitVec 64)) (A : Option Addr) (n c : Nat) (hf : Rd F 1 A n (fs.map u)) :
    Calls Try.prog 31 #[.int .i64 m, .slice A n c] w fun e w' => e = .returned (.tuple #[.bool (cV m fs).1, .bool (cV m fs).2]) ∧ Below w.heap.size w w' := by
  have hS := same_yes hF m hm fs [] A none n 0 c 0 hf Rd.nil
  rw [show tab m (bitAt []) = tab m fun _ => false from tab_congr fun x _ => bit_nil x] at hS
  by_cases h1 : tab m (bitAt fs) = tab m (fun _ => false)
  · rw [decide_eq_true h1] at hS
    have HS := Lib.hid hS
    have HC := Lib.hid (show cV m fs = (false, true) by unfold cV; rw [if_pos h1])
    clear hS h1
    go_enter Try.func31, Try.ntmps31
    go_wp2_with (first | (go_at_call 62; refine (may_yes m hm _).mono ?_; rintro e w' ⟨rfl, rfl⟩) | (go_at_call 63; refine HS.out.mono ?_; rintro e w1 ⟨rfl, hb1⟩))
    go_ret2
    exact ⟨by rw [HC.out]; rfl, hb1⟩
  · rw [decide_eq_false h1] at hS
    have HS := Lib.hid hS
    have HY := Lib.hid (fun w1 : World => yes_yes (w := w1) m hm)
    have HT := Lib.hid (fun w2 (h2 : Sat F w2) g (hr : Rd (heapF w2) 1 (some ⟨g, 0, none⟩) (tab m fun _ => true).length ((tab m fun _ => true).map u)) c2 => same_yes (sat_heapF w2) m hm fs (tab m fun _ => true) A (some ⟨g, 0, none⟩) n _ c c2 (hf.heap h2) hr)
    have HE := Lib.hid (show tab m (bitAt (tab m fun _ => true)) = tab m fun _ => true from tab_congr fun x hx => by rw [bit_tab]; simp [hx])
    by_cases h2 : tab m (bitAt fs) = tab m (fun _ => true)
    all_goals
      first
      | have HC := Lib.hid (show cV m fs = (true, true) by unfold cV; rw [if_neg h1, if_pos h2])
        have HD := Lib.hid (decide_eq_true h2)
      | have HC := Lib.hid (show cV m fs = (false, false) by unfold cV; rw [if_neg h1, if_neg h2])
        have HD := Lib.hid (decide_eq_false h2)
      clear hS h1 h2
      go_enter Try.func31, Try.ntmps31
      go_wp2_with (first | (go_at_call 62; refine (may_yes m hm _).mono ?_; rintro e w' ⟨rfl, rfl⟩) | (go_at_call 64; refine (HY.out _).mono ?_; rintro e w2 ⟨g, c2, rfl, hb2, hg2, hr2⟩))
      refine HS.out.mono ?_
      rintro e w1 ⟨rfl, hb1⟩
      go_wp2_with (go_at_call 64; refine (HY.out _).mono ?_; rintro e w2 ⟨g, c2, rfl, hb2, hg2, hr2⟩)
      have hb12 := hb1.trans (hb2.mono hb1.size)
      have h3 := HT.out _ (hF.below hb12) g hr2.rdH c2
      rw [HE.out, HD.out] at h3
      have H3 := Lib.hid h3
      clear h3
      refine H3.out.mono ?_
      rintro e w3 ⟨rfl, hb3⟩
      go_wp2
      go_ret2
      exact ⟨by rw [HC.out]; rfl, hb12.trans (hb3.mono hb12.size)⟩

def rV (m : Nat) (fs : List (BitVec 64)) : Bool × Bool := if ∀ x, x < 2 ^ m → bitAt fs x = bitAt fs 0 then (bitAt fs 0, true) else (false, false)
/-- The two tell the same. -/
theorem cV_rV (m : Nat) (fs : List (BitVec 64)) : cV m fs = rV m fs := by
  have hp1 : 0 < 2 ^ m := Nat.pow_pos (by omega)
  unfold cV rV
  by_cases h1 : tab m (bitAt fs) = tab m (fun _ => false)
  · rw [if_pos h1]
    rw [tab_inj] at h1
    rw [if_pos (fun x hx => by rw [h1 x hx, h1 0 hp1]), h1 0 hp1]
  · rw [if_neg h1]
    by_cases h2 : tab m (bitAt fs) = tab m (fun _ => true)
    · rw [if_pos h2]
      rw [tab_inj] at h2
      rw [if_pos (fun x hx => by rw [h2 x hx, h2 0 hp1]), h2 0 hp1]
    · rw [if_neg h2, if_neg]
      intro h
      cases hb : bitAt fs 0 with
      | false => exact h1 (tab_congr fun x hx => by rw [h x hx, hb])
      | true => exact h2 (tab_congr fun x hx => by rw [h x hx, hb])

end Go.Proofs.Ytdbbooibkiicnaa
/-! The law's wake-up call. -/
namespace Go.Proofs.Ytdbbooibkiicnaa
open Go.RowKit
attribute [local go_sem ↓] bits_and bits_or not_bits arith_add arith_sub shift_l shift_r shift_lu shift_ru shift_int conv_uu shift_l1 shift_l1u bits_and1 arith_sub1 shift_rn and_one_n
attribute [local go_sem] uz_toNat uz_nonneg wrap_bit

end Go.Proofs.Ytdbbooibkiicnaa
/-! The contracts once more, over values that read as functions of assignments. -/
namespace Go.Proofs.Ytdbbooibkiicnaa
open Go.RowKit

/-- The value v is words that tell p, of m atoms, frozen in F. -/
def WdF (m : Nat) (F : Fz) (v : Value) (p : Nat → Bool) : Prop :=
  ∃ (A : Option Addr) (n c : Nat) (fs : List (BitVec 64)), v = .slice A n c ∧ Rd F 1 A n (fs.map u) ∧ fs.length ≤ 1000 ∧ ∀ x, x < 2 ^ m → bitAt fs x = p x
/-- The value v is words that tell p, of m atoms. -/
abbrev Wd (m : Nat) (w : World) (v : Value) (p : Nat → Bool) : Prop := WdF m (heapF w) v p
theorem Rd.below {w w' : World} {size n : Nat} {A : Option Addr} {xs : List Value} (h : Rd (heapF w) size A n xs) (hb : Below w.heap.size w w') : Rd (heapF w') size A n xs := h.heap ((sat_heapF w).below hb)
theorem WdF.heap {m : Nat} {F : Fz} {w : World} {v : Value} {p : Nat → Bool} (h : WdF m F v p) (hF : Sat F w) : Wd m w v p :=
  let ⟨A, n, c, fs, e, hr, hl, hp⟩ := h
  ⟨A, n, c, fs, e, hr.heap hF, hl, hp⟩
theorem WdF.below {m : Nat} {w w' : World} {v : Value} {p : Nat → Bool} (h : Wd m w v p) (hb : Below w.heap.size w w') : Wd m w' v p := h.heap ((sat_heapF w).below hb)
theorem WdF.put {m : Nat} {F : Fz} {v : Value} {p : Nat → Bool} (h : WdF m F v p) {g : Nat} {o : Obj} (hg : F g = none) : WdF m (F.put g o) v p :=
  let ⟨A, n, c, fs, e, hr, hl, hp⟩ := h
  ⟨A, n, c, fs, e, hr.put hg, hl, hp⟩
theorem WdF.same {m : Nat} {F : Fz} {v : Value} {p q : Nat → Bool} (h : WdF m F v p) (e : ∀ x, x < 2 ^ m → p x = q x) : WdF m F v q :=
  let ⟨A, n, c, fs, e1, hr, hl, hp⟩ := h
  ⟨A, n, c, fs, e1, hr, hl, fun x hx => (hp x hx).trans (e x hx)⟩
/-- The same, with the block: it may be frozen beside whatever is. -/
def RetQ (m : Nat) (w : World) (p : Nat → Bool) (e : Ending) (w' : World) : Prop :=
  ∃ (A : Option Addr) (n c g : Nat) (o : Obj), e = .returned (.slice A n c) ∧ Below w.heap.size w w' ∧ w.heap.size ≤ g ∧ w'.heap[g]? = some o ∧ ∀ F : Fz, WdF m (F.put g o) (.slice A n c) p
theorem retQ {m : Nat} (hm : m ≤ 10) {w : World} {p q : Nat → Bool} (h : ∀ x, x < 2 ^ m → p x = q x) {e : Ending} {w' : World} (r : RetO w (tab m p) e w') : RetQ m w q e w' := by
  obtain ⟨g, c, rfl, hb, hg, hr⟩ := r
  refine ⟨_, _, _, g, _, rfl, hb, hg, hr, fun F => ⟨_, _, _, _, rfl, ?_, tab_len m hm p, fun x hx => by rw [bit_tab, h x hx]; simp [hx]⟩⟩
  have := Blk.freeze F g 37 ((tab m p).map u).toArray (tab m p).length 1 (by simp)
  simpa using this

/-- What Const tells of p. -/
def cP (m : Nat) (p : Nat → Bool) : Bool × Bool := if ∀ x, x < 2 ^ m → p x = p 0 then (p 0, true) else (false, false)
theorem cP_of {m : Nat} {p : Nat → Bool} {b : Bool} (h : ∀ x, p x = b) : cP m p = (b, true) := by
  unfold cP
  rw [if_pos (fun x _ => by rw [h x, h 0]), h 0]
def RetB2 (w : World) (a b : Bool) (e : Ending) (w' : World) : Prop := e = .returned (.tuple #[.bool a, .bool b]) ∧ Below w.heap.size w w'
theorem w_const {m : Nat} (hm : m ≤ 10) {w : World} {v : Value} {p : Nat → Bool} (h : Wd m w v p) (a b : Bool) (hab : cP m p = (a, b)) : Calls Try.prog 31 #[.int .i64 m, v] w (RetB2 w a b) := by
  obtain ⟨A, n, c, fs, rfl, hr, hl, hp⟩ := h
  have h0 : 0 < 2 ^ m := Nat.pow_pos (by omega)
  have e : cV m fs = (a, b) := by
    rw [cV_rV, ← hab]
    unfold rV cP
    have : (∀ x, x < 2 ^ m → bitAt fs x = bitAt fs 0) ↔ (∀ x, x < 2 ^ m → p x = p 0) :=
      ⟨fun h x hx => by rw [← hp x hx, ← hp 0 h0]; exact h x hx, fun h x hx => by rw [hp x hx, hp 0 h0]; exact h x hx⟩
    rw [hp 0 h0]
    by_cases hall : ∀ x, x < 2 ^ m → p x = p 0
    · rw [if_pos hall, if_pos (fun x hx => by rw [hp x hx]; exact hall x hx)]
    · rw [if_neg hall, if_neg (fun h => hall fun x hx => by rw [← hp x hx]; exact h x hx)]
  refine (const_yes (sat_heapF w) m hm fs A n c hr).mono fun e' w' ⟨he, hb'⟩ => ⟨?_, hb'⟩
  rw [he, e]

/-! Functions in the places of atoms. -/
/-- The value v is a slice of words that tell ps, one by one. -/
def Rw (m : Nat) (w : World) (v : Value) (ps : List (Nat → Bool)) : Prop :=
  ∃ (A : Option Addr) (n c : Nat) (gs : List (List (BitVec 64))), v = .slice A n c ∧ RdR (heapF w) A n gs ∧ (∀ g ∈ gs, g.length ≤ 1000) ∧ gs.length = ps.length ∧ ∀ i x, x < 2 ^ m → bitAt (gs.getD i []) x = ps.getD i (fun _ => false) x
theorem RdR.below {w w' : World} {A : Option Addr} {n : Nat} {gs : List (List (BitVec 64))} (h : RdR (heapF w) A n gs) (hb : Below w.heap.size w w') : RdR (heapF w') A n gs :=
  ⟨h.1, fun i hi => let ⟨ad, Ai, ni, ci, e, h1, h2⟩ := h.2 i hi; ⟨ad, Ai, ni, ci, e, ((sat_heapF w).below hb).cell h1, h2.below hb⟩⟩
theorem q_yes {m : Nat} (hm : m ≤ 10) {w : World} : Calls Try.prog 64 #[.int .i64 m] w (RetQ m w fun _ => true) :=
  (yes_yes m hm).mono fun _ _ r => retQ hm (fun _ _ => rfl) r
theorem Rw.below {m : Nat} {w w' : World} {v : Value} {ps : List (Nat → Bool)} (h : Rw m w v ps) (hb : Below w.heap.size w w') : Rw m w' v ps :=
  let ⟨A, n, c, gs, e, hr, hl, hn, hp⟩ := h
  ⟨A, n, c, gs, e, hr.below hb, hl, hn, hp⟩
/-- A row of functions in the making. -/
def RowsB (m : Nat) (F : Fz) (w : World) (B : Nat) (v : Value) (ps : List (Nat → Bool)) : Prop :=
  ∃ vs : List Value, Own F w B 58 1 v vs.length vs ∧ vs.length = ps.length ∧ ∀ i x, vs[i]? = some x → WdF m F x (ps.getD i fun _ => false)
theorem RowsB.nil (m : Nat) (F : Fz) (w : World) (B : Nat) : RowsB m F w B (.slice none 0 0) [] := ⟨[], Own.nil _ _ _ _ _, rfl, fun i x h => by simp at h⟩
theorem RowsB.call {m : Nat} {F : Fz} {w w' : World} {B : Nat} {v : Value} {ps : List (Nat → Bool)} (h : RowsB m F w B v ps) (hb : Below w.heap.size w w') : RowsB m F w' B v ps :=
  let ⟨vs, h1, h2, h3⟩ := h
  ⟨vs, h1.call hb, h2, h3⟩
theorem RowsB.put {m : Nat} {F : Fz} {w : World} {B : Nat} {v : Value} {ps : List (Nat → Bool)} (h : RowsB m F w B v ps) {g : Nat} {o : Obj} (hg : F g = none) (hv : v.ownBlock ≠ some g) : RowsB m (F.put g o) w B v ps := by
  obtain ⟨vs, ⟨h1, h1'⟩, h2, h3⟩ := h
  refine ⟨vs, ⟨h1, fun g' hg' => ?_⟩, h2, fun i x hx => (h3 i x hx).put hg⟩
  unfold Fz.put
  rw [if_neg (fun e => hv (by rw [hg', e]))]
  exact h1' g' hg'
theorem RowsB.lt {m : Nat} {F : Fz} {w : World} {B : Nat} {v : Value} {ps : List (Nat → Bool)} (h : RowsB m F w B v ps) : ∀ g, v.ownBlock = some g → B ≤ g ∧ g < w.heap.size :=
  let ⟨_, h1, _, _⟩ := h
  h1.1.lt
theorem RowsB.kept {m : Nat} {F : Fz} {w w' : World} {B : Nat} {v : Value} {ps : List (Nat → Bool)} {row : Option Nat} (h : RowsB m F w B v ps) (hg : w.grownBy w' row) (hne : v.ownBlock = none ∨ v.ownBlock ≠ row) : RowsB m F w' B v ps :=
  let ⟨vs, h1, h2, h3⟩ := h
  ⟨vs, h1.kept hg hne, h2, h3⟩
theorem RowsB.push {m : Nat} {F : Fz} {w' : World} {B : Nat} {v' x : Value} {vs : List Value} {ps : List (Nat → Bool)} {p : Nat → Bool} (h2 : vs.length = ps.length) (h3 : ∀ i x, vs[i]? = some x → WdF m F x (ps.getD i fun _ => false)) (hx : WdF m F x p)
    (ho : Own F w' B 58 1 v' (vs.length + 1) (vs ++ [x])) : RowsB m F w' B v' (ps ++ [p]) := by
  refine ⟨vs ++ [x], by simpa using ho, by simp [h2], fun i y hy => ?_⟩
  rw [List.getElem?_append] at hy
  split at hy
  · rename_i hlt
    rw [List.getD, List.getElem?_append_left (by omega)]
    exact h3 i y hy
  · rename_i hge
    have hi : i = vs.length := by
      rcases Nat.lt_or_ge vs.length i with h | h
      · rw [List.getElem?_eq_none (by simp; omega)] at hy; cases hy
      · omega
    subst hi
    simp at hy
    subst hy
    rw [h2]
    simpa [List.getD] using hx
/-- It is made: it reads as functions, one by one. -/
theorem RowsB.done {m : Nat} {F : Fz} {w : World} {B : Nat} {v : Value} {ps : List (Nat → Bool)} (h : RowsB m F w B v ps) (hF : Sat F w) : Rw m w v ps := by
  obtain ⟨vs, ⟨h1, _⟩, h2, h3⟩ := h
  have hform : ∃ (A : Option Addr) (c : Nat), v = .slice A vs.length c ∧ ∀ i x, vs[i]? = some x → ∃ ad, A = some ad ∧ (heapF w).cell (ad.add i) = some x := by
    rcases h1.2 with ⟨rfl, h0⟩ | ⟨g, cap, cur, rfl, _, hh, _, _, _, htake⟩
    · rw [h0]
      exact ⟨none, 0, rfl, fun i x hx => by rw [List.getElem?_eq_none (by omega)] at hx; cases hx⟩
    · exact ⟨_, cap, rfl, fun i x hx => ⟨_, rfl, h1.cells (g := g) rfl i x hx⟩⟩
  obtain ⟨A, c, rfl, hcell⟩ := hform
  have each : ∀ k, k ≤ vs.length → ∃ gs : List (List (BitVec 64)), gs.length = k ∧ ∀ i, i < k → ∃ (Ai : Option Addr) (ni ci : Nat), vs[i]? = some (.slice Ai ni ci) ∧ Rd (heapF w) 1 Ai ni ((gs.getD i []).map u) ∧ (gs.getD i []).length ≤ 1000 ∧ ∀ x, x < 2 ^ m → bitAt (gs.getD i []) x = ps.getD i (fun _ => false) x := by
    intro k
    induction k with
    | zero => intro _; exact ⟨[], rfl, fun i hi => absurd hi (by omega)⟩
    | succ k ih =>
      intro hk
      obtain ⟨gs, hl, hg⟩ := ih (by omega)
      have hvk : vs[k]? = some (vs[k]'(by omega)) := List.getElem?_eq_getElem (by omega)
      obtain ⟨Ak, nk, ck, fk, ek, rk, lk, pk⟩ := (h3 k _ hvk).heap hF
      refine ⟨gs ++ [fk], by simp [hl], fun i hi => ?_⟩
      rcases Nat.lt_or_ge i k with hlt | hge
      · rw [show (gs ++ [fk]).getD i [] = gs.getD i [] by rw [List.getD, List.getElem?_append_left (by omega)]; rfl]
        exact hg i hlt
      · obtain rfl : i = k := by omega
        rw [show (gs ++ [fk]).getD i [] = fk by rw [List.getD, List.getElem?_append_right (by omega), hl]; simp]
        exact ⟨Ak, nk, ck, by rw [hvk, ek], rk, lk, pk⟩
  obtain ⟨gs, hl, hg⟩ := each vs.length (Nat.le_refl _)
  refine ⟨A, vs.length, c, gs, rfl, ⟨hl.symm, fun i hi => ?_⟩, fun g hgm => ?_, by omega, fun i x hx => ?_⟩
  · obtain ⟨Ai, ni, ci, e, r, _, _⟩ := hg i (by omega)
    obtain ⟨ad, eA, hc⟩ := hcell i _ e
    exact ⟨ad, Ai, ni, ci, eA, hc, r⟩
  · obtain ⟨i, hi, rfl⟩ := List.getElem_of_mem hgm
    obtain ⟨_, _, _, _, _, l, _⟩ := hg i (by omega)
    simpa [List.getD, hi] using l
  · rcases Nat.lt_or_ge i vs.length with hlt | hge
    · obtain ⟨_, _, _, _, _, _, p⟩ := hg i hlt
      exact p x hx
    · have e1 : gs.getD i [] = [] := by simp [List.getD, show gs.length ≤ i by omega]
      have e2 : ps.getD i (fun _ => false) = fun _ => false := by simp [List.getD, show ps.length ≤ i by omega]
      rw [e1, e2, bit_nil]
theorem WdF.one {m : Nat} {F : Fz} {v : Value} {p : Nat → Bool} (h : WdF m F v p) : v.oneCell' = true := by
  obtain ⟨A, n, c, fs, rfl, _⟩ := h
  rfl
theorem Try.infoR : (Try.prog.info? 58).map (fun i => (i.zero, i.size, i.bytes)) = some (some (.slice none 0 0), 1, 24) := by kernel_rfl
/-- The functions of a list, made one by one. -/
def listP (q : Nat → Nat → Bool) (k : Nat) : List (Nat → Bool) := (List.range k).map q
theorem length_listP (q : Nat → Nat → Bool) (k : Nat) : (listP q k).length = k := by simp [listP]
theorem getD_listP (q : Nat → Nat → Bool) (k i : Nat) (h : i < k) : (listP q k).getD i (fun _ => false) = q i := by simp [listP, List.getD, h]
theorem RowsB.fresh {m : Nat} {F : Fz} {w w' : World} {B g : Nat} {v : Value} {ps : List (Nat → Bool)} {o : Obj} (h : RowsB m F w B v ps) (hF : Sat F w) (hb : Below w.heap.size w w') (hg : w.heap.size ≤ g) : RowsB m (F.put g o) w' B v ps :=
  (h.call hb).put (hF.none_ hg) (fun e => by have := (h.lt _ e).2; omega)
theorem Rw.row {m : Nat} {w : World} {C : Option Addr} {n c k : Nat} {ps : List (Nat → Bool)} (h : Rw m w (.slice C n c) ps) (hk : k < n) :
    ∃ (ad : Addr) (Ai : Option Addr) (ni ci : Nat), C = some ad ∧ w.cell? (ad.add k) = some (.slice Ai ni ci) ∧ Wd m w (.slice Ai ni ci) (ps.getD k fun _ => false) := by
  obtain ⟨A, n', c', gs, e, ⟨hn, hr⟩, hl, hlen, hp⟩ := h
  injection e with e1 e2 e3
  subst e1 e2 e3
  obtain ⟨ad, Ai, ni, ci, eA, hc, hrd⟩ := hr k (by omega)
  refine ⟨ad, Ai, ni, ci, eA, hc, Ai, ni, ci, gs.getD k [], rfl, hrd, ?_, fun x hx => hp k x hx⟩
  rw [List.getD, List.getElem?_eq_getElem (by omega)]
  exact hl _ (List.getElem_mem _)
/-- A row of n functions, made whole: block g. -/
def RowsGt (m : Nat) (F : Fz) (w : World) (g n : Nat) (q : Nat → Nat → Bool) : Prop :=
  ∃ vs : List Value, Blk w g 58 vs.toArray ∧ F g = none ∧ vs.length = n ∧ ∀ i x, vs[i]? = some x → WdF m F x (q i)
section
variable {m : Nat} {F : Fz} {w w' : World} {g n : Nat} {q : Nat → Nat → Bool}
theorem RowsGt.lt (h : RowsGt m F w g n q) : g < w.heap.size := let ⟨_, h1, _⟩ := h; h1.lt
theorem RowsGt.call (h : RowsGt m F w g n q) (hb : Below w.heap.size w w') : RowsGt m F w' g n q := let ⟨vs, h1, h2⟩ := h; ⟨vs, h1.call hb, h2⟩
theorem RowsGt.far (h : RowsGt m F w g n q) {a : Addr} (ha : g ≠ a.block) (v : Value) : RowsGt m F (w.setCell a v) g n q := let ⟨vs, h1, h2⟩ := h; ⟨vs, h1.far ha v, h2⟩
theorem RowsGt.put (h : RowsGt m F w g n q) {g' : Nat} {o : Obj} (hg : F g' = none) (hne : g ≠ g') : RowsGt m (F.put g' o) w g n q :=
  let ⟨vs, h1, h2, h3, h4⟩ := h
  ⟨vs, h1, by unfold Fz.put; rw [if_neg hne]; exact h2, h3, fun i x hx => (h4 i x hx).put hg⟩
theorem RowsGt.fresh (h : RowsGt m F w g n q) {g' : Nat} {o : Obj} (hF : Sat F w) (hb : Below w.heap.size w w') (hg : w.heap.size ≤ g') : RowsGt m (F.put g' o) w' g n q :=
  (h.call hb).put (hF.none_ hg) (by have := h.lt; omega)
theorem RowsGt.set_ (h : RowsGt m F w g n q) (k : Nat) {x : Value} {p : Nat → Bool} (hx : WdF m F x p) : RowsGt m F (w.setCell ⟨g, k, none⟩ x) g n (fun i => if i = k then p else q i) := by
  obtain ⟨vs, h1, h2, h3, h4⟩ := h
  refine ⟨vs.set k x, ?_, h2, by simpa using h3, fun i y hy => ?_⟩
  · have := h1.set_ k x
    rwa [List.setIfInBounds_toArray] at this
  · rw [List.getElem?_set] at hy
    by_cases hi : k = i
    · subst hi
      rw [if_pos rfl] at hy
      split at hy
      · injection hy with hy
        subst hy
        simpa using hx
      · cases hy
    · rw [if_neg hi] at hy
      show WdF m F y (if i = k then p else q i)
      rw [if_neg (fun e => hi e.symm)]
      exact h4 i y hy
theorem RowsGt.sat (h : RowsGt m F w g n q) (hF : Sat F w) (k : Nat) (x : Value) : Sat F (w.setCell ⟨g, k, none⟩ x) := let ⟨_, _, h2, _⟩ := h; hF.setCell h2 x
theorem RowsGt.cell (h : RowsGt m F w g n q) {k : Nat} (hk : k < n) : (∃ v, w.cell? ⟨g, k, none⟩ = some v) ∧ w.frozen? ⟨g, k, none⟩ = false := by
  obtain ⟨vs, h1, _, h3, _⟩ := h
  exact ⟨⟨vs[k]'(by omega), by rw [h1.cell k]; simp [show k < vs.length by omega]⟩, h1.frozen k⟩
theorem RowsGt.made (F : Fz) (w : World) (g n : Nat) (hg : Blk w g 58 (zeros (.slice none 0 0) n)) (hF : F g = none) : RowsGt m F w g n (fun _ _ => false) := by
  refine ⟨List.replicate n (.slice none 0 0), hg, hF, by simp, fun i x hx => ?_⟩
  rw [List.getElem?_replicate] at hx
  split at hx
  · injection hx with hx
    subst hx
    exact ⟨none, 0, 0, [], rfl, Rd.nil, by simp, fun x _ => bit_nil x⟩
  · cases hx
theorem RowsGt.done (h : RowsGt m F w g n q) (hF : Sat F w) (hn : n ≤ 1000) (c : Nat) : Rw m w (.slice (some ⟨g, 0, none⟩) n c) (listP q n) := by
  obtain ⟨vs, h1, h2, h3, h4⟩ := h
  have hB : RowsB m F w 0 (.slice (some ⟨g, 0, none⟩) n n) (listP q n) := by
    refine ⟨vs, ⟨⟨by simp, .inr ⟨g, n, vs.toArray, by rw [h3], Nat.zero_le _, h1, by omega, by unfold maxLen; omega, by simp [h3], by simp⟩⟩, fun g' hg' => ?_⟩, by rw [length_listP, h3], fun i x hx => ?_⟩
    · have : g = g' := by simpa [Value.ownBlock] using hg'
      rw [← this]; exact h2
    · rw [getD_listP _ _ _ (by have := (List.getElem?_eq_some_iff.1 hx).1; omega)]
      exact h4 i x hx
  obtain ⟨A, n', c', gs, e, hr, hl, hlen, hp⟩ := hB.done hF
  injection e with e1 e2 e3
  subst e1 e2
  exact ⟨_, _, c, gs, rfl, hr, hl, hlen, hp⟩
end
theorem makeR (n : Nat) (hn : n ≤ 1000000) (w : World) : (Instr.makeSlice 56 (.int .i64 (n : Int)) (.int .i64 (n : Int))).run Try.prog w = .ok (.slice (some ⟨w.heap.size, 0, none⟩) n n) (w.alloc (.cells (zeros (.slice none 0 0) n) 58)) :=
  run_make1 _ _ _ 24 Try.underlying56 Try.infoR rfl n (by omega) (by omega) w
end Go.Proofs.Ytdbbooibkiicnaa
