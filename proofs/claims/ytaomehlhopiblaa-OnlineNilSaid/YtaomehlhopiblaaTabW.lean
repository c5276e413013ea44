/- The walks of table's functions that make memory. -/
import Derived.Test.YtaomehlhopiblaaTab1
import Derived.Deep.RegionWith
set_option linter.unusedVariables false
set_option linter.unusedSimpArgs false
/-! The walks of table's functions that make memory. -/
namespace Go.Proofs.Ytaomehlhopiblaa
open Go.RowKit
attribute [local go_sem ↓] bits_and bits_or not_bits arith_add arith_sub shift_l shift_r shift_lu shift_ru shift_int conv_uu shift_l1 shift_l1u bits_and1 arith_sub1
attribute [local go_sem] uz_toNat uz_nonneg

/-- Words are handed back, in a block of their own. -/
def RetO (w : World) (xs : List (BitVec 64)) (e : Ending) (w' : World) : Prop :=
  ∃ g c, e = .returned (.slice (some ⟨g, 0, none⟩) xs.length c) ∧ Below w.heap.size w w' ∧ w.heap.size ≤ g ∧ Blk w' g 22 (xs.map u).toArray

theorem Try.infoW : (Try.prog.info? 22).map (fun i => (i.zero, i.size, i.bytes)) = some (some (.int .u64 0), 1, 8) := by kernel_rfl
theorem Try.sizeW : (Try.prog.info? 22).map (·.size) = some 1 := by kernel_rfl
theorem makeW (n : Nat) (hn : n ≤ 1000000) (w : World) : (Instr.makeSlice 49 (.int .i64 (n : Int)) (.int .i64 (n : Int))).run Try.prog w = .ok (.slice (some ⟨w.heap.size, 0, none⟩) n n) (w.alloc (.cells (zeros (u 0#64) n) 22)) :=
  run_make1 _ _ _ 8 Try.underlying49 Try.infoW rfl n (by omega) (by omega) w

theorem retO_mk {w w' : World} {xs : List (BitVec 64)} {n c g : Nat} (hb : Below w.heap.size w w') (hg : w.heap.size ≤ g) (h : Blk w' g 22 (xs.map u).toArray) (hn : n = xs.length) :
    RetO w xs (.returned (.slice (some ⟨g, 0, none⟩) n c)) w' := by
  subst hn
  exact ⟨_, _, rfl, hb, hg, h⟩

set_option maxRecDepth 20000 in
set_option maxHeartbeats 400000 in
theorem plain_yes {F : Fz} {w : World} (hF : Sat F w) (m : Nat) (hm : m ≤ 10) (fs : List (BitVec 64)) (A : Option Addr) (n c : Nat) (hf : Rd F 1 A n (fs.map u)) :
    Calls Try.prog 31 #[.int .i64 m, .slice A n c] w (RetO w (tab m (bitAt fs))) := by
  obtain rfl := rd_len hf
  have hW := words_le m hm
  have hmk := fun W => makeW (wordsN m) (by omega) W
  have hFa := hF.alloc (.cells (zeros (u 0#64) (wordsN m)) 22)
  by_cases h6 : m < 6
  · have h6I : (m : Int) < 6 := by omega
    go_enter Try.func31, Try.ntmps31
    go_wp2_with (first | (go_at_call 26; refine (may_yes m hm _).mono ?_; rintro e w' ⟨rfl, rfl⟩) | (go_at_call 15; refine (words_yes m hm _).mono ?_; rintro e w' ⟨rfl, rfl⟩) | (refine wpList_copy_new rfl (.tmp 12) (.tmp 13) _ _ rfl _ Try.underlying49 Try.sizeW w.heap.size (wordsN m) (by rfl) _ _ _ (by rfl) hFa _ hf (ones_u _) (u 0#64) (Blk.new _ _ _) w.heap.size w ((Below.refl _ _).alloc (Nat.le_refl _) _) (Nat.le_refl _) ?_; intro w1 hw1 hb1 k1))
    have hone : wordsN m = 1 := by unfold wordsN; rw [if_neg (by omega)]
    have hw2 : Blk w1 w.heap.size 22 #[u (fs.getD 0 0#64)] := by
      rw [padV_u, pad_one _ hone] at hw1
      exact hw1
    have hc := hw2.cell 0
    have hfz := hw2.frozen 0
    have HO := Lib.hid hone
    have HT := Lib.hid (mask_tab m h6 fs)
    have hpos : (0 : Int) < (wordsN m : Int) := by have := words_pos m; omega
    clear hone hw1 h6
    simp only [List.getElem?_toArray, List.getElem?_cons_zero] at hc
    generalize fs.getD 0 0#64 = f0 at *
    go_wp2
    go_region
    go_wp2
    go_ret
    exact retO_mk (by first | exact (hb1.setCell (Nat.le_refl _) _).drew | exact hb1.drew.setCell (Nat.le_refl _) _) (Nat.le_refl _) (by rw [← HT.out]; exact hw2.set_ 0 _) (by rw [length_tab])
  · have h6I : ¬ (m : Int) < 6 := by omega
    have HT := Lib.hid (pad_tab m (by omega) fs)
    go_enter Try.func31, Try.ntmps31
    go_wp2_with (first | (go_at_call 26; refine (may_yes m hm _).mono ?_; rintro e w' ⟨rfl, rfl⟩) | (go_at_call 15; refine (words_yes m hm _).mono ?_; rintro e w' ⟨rfl, rfl⟩) | (refine wpList_copy_new rfl (.tmp 12) (.tmp 13) _ _ rfl _ Try.underlying49 Try.sizeW w.heap.size (wordsN m) (by rfl) _ _ _ (by rfl) hFa _ hf (ones_u _) (u 0#64) (Blk.new _ _ _) w.heap.size w ((Below.refl _ _).alloc (Nat.le_refl _) _) (Nat.le_refl _) ?_; intro w1 hw1 hb1 k1))
    go_wp2
    go_ret
    rw [padV_u, HT.out] at hw1
    exact retO_mk hb1 (Nat.le_refl _) hw1 (by rw [length_tab])

theorem no_yes {w : World} (m : Nat) (hm : m ≤ 10) :
    Calls Try.prog 25 #[.int .i64 m] w (RetO w (tab m fun _ => false)) := by
  have h := @plain_yes _ w (sat_heapF w) m hm [] none 0 0 Rd.nil
  have e : tab m (bitAt []) = tab m fun _ => false := tab_congr fun x _ => bit_nil x
  rw [e] at h
  have H := Lib.hid h
  clear h e
  go_enter Try.func25, Try.ntmps25
  go_wp2_with (go_at_call 31; refine H.out.mono ?_; rintro e w' ⟨g, c, rfl, hb, hg, hr⟩)
  go_ret
  exact ⟨g, c, rfl, hb, hg, hr⟩
theorem not_tab (m : Nat) (p : Nat → Bool) : tab m (bitAt ((tab m p).map fun x => ~~~x)) = tab m fun x => !p x := by
  apply tab_congr
  intro x hx
  have hc := words_cover m
  have hl : x / 64 < (tab m p).length := by rw [length_tab]; omega
  have hb := bit_tab m p x
  unfold bitAt at hb ⊢
  rw [List.getD, List.getElem?_map, List.getElem?_eq_getElem hl]
  rw [List.getD, List.getElem?_eq_getElem hl] at hb
  simp only [Option.map_some, Option.getD_some, BitVec.getLsbD_not] at hb ⊢
  rw [hb]
  have : x % 64 < 64 := by omega
  simp [hx, this]
theorem notf_yes {F : Fz} {w : World} (hF : Sat F w) (m : Nat) (hm : m ≤ 10) (fs : List (BitVec 64)) (A : Option Addr) (n c : Nat) (hf : Rd F 1 A n (fs.map u)) :
    Calls Try.prog 20 #[.int .i64 m, .slice A n c] w (RetO w (tab m fun x => !bitAt fs x)) := by
  obtain rfl := rd_len hf
  have HN := Lib.hid (not_tab m (bitAt fs))
  have hW : (tab m (bitAt fs)).length ≤ 16 := by rw [length_tab]; exact words_le m hm
  have hp := plain_yes hF m hm fs A _ c hf
  generalize tab m (bitAt fs) = xs at *
  have HP := Lib.hid hp
  clear hp
  go_enter Try.func20, Try.ntmps20
  go_wp2_with (go_at_call 31; refine HP.out.mono ?_; rintro e w1 ⟨g, c1, rfl, hb, hg, hr⟩)
  go_loopw [12] (fun i wr => ∃ k : Nat, k ≤ xs.length ∧ i = .int .i64 k ∧ Below w.heap.size w wr ∧ Blk wr g 22 ((upto (fun x => ~~~x) k xs).map u).toArray) (fun i _ => xs.length - (intOf i).toNat)
  case atStart => exact ⟨0, Nat.zero_le _, rfl, hb, by rw [upto_zero]; exact hr⟩
  case round =>
    obtain ⟨k, hk, rfl, hbr, hB⟩ := hrel
    by_cases hlt : k < xs.length
    · have hc := hB.cellL (upto_get _ hlt)
      have hfz := hB.frozen k
      go_wp2
      go_roundw
      case rel => exact ⟨k + 1, by omega, by go_num, hbr.setCell hg _, hB.setL k _ (upto_set _ hlt)⟩
      case measure => simp [intOf]; omega
    · rw [upto_all _ (by omega)] at hB
      obtain ⟨hs2, hr2⟩ := Blk.rd (hF.below hbr) hB
      rw [List.length_map] at hr2
      have h2 := plain_yes hs2 m hm _ _ _ c1 hr2
      rw [HN.out] at h2
      have HP2 := Lib.hid h2
      clear hs2 hr2 hB h2
      go_wp2_with (go_at_call 31; refine HP2.out.mono ?_; rintro e w2 ⟨g2, c2, rfl, hb2, hg2, hr2⟩)
      go_ret
      exact retO_mk (hbr.trans (hb2.mono hbr.size)) (Nat.le_trans hbr.size hg2) hr2 rfl

end Go.Proofs.Ytaomehlhopiblaa
/-! The walks of And, Or, Yes, Atom, Same, Const. -/
namespace Go.Proofs.Ytaomehlhopiblaa
open Go.RowKit
attribute [local go_sem ↓] bits_and bits_or not_bits arith_add arith_sub shift_l shift_r shift_lu shift_ru shift_int conv_uu shift_l1 shift_l1u bits_and1 arith_sub1 shift_rn and_one_n
attribute [local go_sem] uz_toNat uz_nonneg wrap_bit

theorem andf_yes {F : Fz} {w : World} (hF : Sat F w) (m : Nat) (hm : m ≤ 10) (fs gs : List (BitVec 64)) (A B : Option Addr) (n n' c c' : Nat) (hf : Rd F 1 A n (fs.map u)) (hg : Rd F 1 B n' (gs.map u)) :
    Calls Try.prog 21 #[.int .i64 m, .slice A n c, .slice B n' c'] w (RetO w (tab m fun x => and (bitAt fs x) (bitAt gs x))) := by
  have HZ := Lib.hid (zip_tab m (bitAt fs) (bitAt gs) (fun a b => a &&& b) and (fun a b i => by first | exact BitVec.getLsbD_and | exact BitVec.getLsbD_or) rfl)
  have hW : (tab m (bitAt fs)).length ≤ 16 := by rw [length_tab]; exact words_le m hm
  have hWW : (tab m (bitAt gs)).length = (tab m (bitAt fs)).length := by rw [length_tab, length_tab]
  have HP := Lib.hid (plain_yes hF m hm fs A _ c hf)
  have HP2 := Lib.hid (fun w1 (h1 : Sat F w1) => plain_yes h1 m hm gs B _ c' hg)
  generalize tab m (bitAt fs) = xs at *
  generalize tab m (bitAt gs) = ys at *
  have HL := Lib.hid hWW
  clear hWW
  go_enter Try.func21, Try.ntmps21
  go_wp2_with fail
  refine HP.out.mono ?_
  rintro e w1 ⟨g, c1, rfl, hb1, hg1, hr1⟩
  go_wp2_with fail
  refine (HP2.out _ (hF.below hb1)).mono ?_
  rintro e w2 ⟨g2, c2, rfl, hb2, hg2, hr2⟩
  have hr1 := hr1.call hb2
  have hne : g2 ≠ g := by have := (hr1.lt); have h3 : g < w1.heap.size := (by assumption : Blk w1 g _ _).lt; omega
  have hb := hb1.trans (hb2.mono hb1.size)
  have hg2' := Nat.le_trans hb1.size hg2
  clear hb1 hb2 hg2
  go_wp2_with fail
  go_loopw [18] (fun i wr => ∃ k : Nat, k ≤ xs.length ∧ i = .int .i64 k ∧ Below w.heap.size w wr ∧ Blk wr g 22 ((uptoI (fun i x => x &&& ys.getD i 0#64) k xs).map u).toArray ∧ Blk wr g2 22 (ys.map u).toArray) (fun i _ => xs.length - (intOf i).toNat)
  case atStart => exact ⟨0, Nat.zero_le _, rfl, hb, by rw [uptoI_zero]; exact hr1, hr2⟩
  case round =>
    obtain ⟨k, hk, rfl, hbr, hB, hB2⟩ := hrel
    by_cases hlt : k < xs.length
    · have hlt2 : k < ys.length := by rw [HL.out]; exact hlt
      have hkI : (k : Int) < (ys.length : Int) := by omega
      have hc := hB.cellL (uptoI_get _ hlt)
      have hc2 := hB2.cellL (List.getElem?_eq_getElem hlt2)
      have hfz := hB.frozen k
      have he : ys.getD k 0#64 = ys[k] := by simp [List.getD, hlt2]
      have HS := Lib.hid (uptoI_set (fun i x => x &&& ys.getD i 0#64) hlt)
      simp only [he] at HS
      clear he
      go_wp2
      go_region
      go_wp2
      go_roundw
      case rel => exact ⟨k + 1, by omega, by go_num, by first | exact (hbr.setCell hg1 _).drew | exact hbr.drew.setCell hg1 _, by first | exact (hB.setL k _ HS.out) | exact (hB.drew.setL k _ HS.out), by first | exact (hB2.far hne _) | exact (hB2.drew.far hne _)⟩
      case measure => simp [intOf]; omega
    · rw [uptoI_all _ (by omega), HZ.out] at hB
      go_wp2
      go_ret
      exact retO_mk hbr hg1 hB (by rw [← HZ.out]; simp)
theorem orf_yes {F : Fz} {w : World} (hF : Sat F w) (m : Nat) (hm : m ≤ 10) (fs gs : List (BitVec 64)) (A B : Option Addr) (n n' c c' : Nat) (hf : Rd F 1 A n (fs.map u)) (hg : Rd F 1 B n' (gs.map u)) :
    Calls Try.prog 22 #[.int .i64 m, .slice A n c, .slice B n' c'] w (RetO w (tab m fun x => or (bitAt fs x) (bitAt gs x))) := by
  have HZ := Lib.hid (zip_tab m (bitAt fs) (bitAt gs) (fun a b => a ||| b) or (fun a b i => by first | exact BitVec.getLsbD_and | exact BitVec.getLsbD_or) rfl)
  have hW : (tab m (bitAt fs)).length ≤ 16 := by rw [length_tab]; exact words_le m hm
  have hWW : (tab m (bitAt gs)).length = (tab m (bitAt fs)).length := by rw [length_tab, length_tab]
  have HP := Lib.hid (plain_yes hF m hm fs A _ c hf)
  have HP2 := Lib.hid (fun w1 (h1 : Sat F w1) => plain_yes h1 m hm gs B _ c' hg)
  generalize tab m (bitAt fs) = xs at *
  generalize tab m (bitAt gs) = ys at *
  have HL := Lib.hid hWW
  clear hWW
  go_enter Try.func22, Try.ntmps22
  go_wp2_with fail
  refine HP.out.mono ?_
  rintro e w1 ⟨g, c1, rfl, hb1, hg1, hr1⟩
  go_wp2_with fail
  refine (HP2.out _ (hF.below hb1)).mono ?_
  rintro e w2 ⟨g2, c2, rfl, hb2, hg2, hr2⟩
  have hr1 := hr1.call hb2
  have hne : g2 ≠ g := by have := (hr1.lt); have h3 : g < w1.heap.size := (by assumption : Blk w1 g _ _).lt; omega
  have hb := hb1.trans (hb2.mono hb1.size)
  have hg2' := Nat.le_trans hb1.size hg2
  clear hb1 hb2 hg2
  go_wp2_with fail
  go_loopw [18] (fun i wr => ∃ k : Nat, k ≤ xs.length ∧ i = .int .i64 k ∧ Below w.heap.size w wr ∧ Blk wr g 22 ((uptoI (fun i x => x ||| ys.getD i 0#64) k xs).map u).toArray ∧ Blk wr g2 22 (ys.map u).toArray) (fun i _ => xs.length - (intOf i).toNat)
  case atStart => exact ⟨0, Nat.zero_le _, rfl, hb, by rw [uptoI_zero]; exact hr1, hr2⟩
  case round =>
    obtain ⟨k, hk, rfl, hbr, hB, hB2⟩ := hrel
    by_cases hlt : k < xs.length
    · have hlt2 : k < ys.length := by rw [HL.out]; exact hlt
      have hkI : (k : Int) < (ys.length : Int) := by omega
      have hc := hB.cellL (uptoI_get _ hlt)
      have hc2 := hB2.cellL (List.getElem?_eq_getElem hlt2)
      have hfz := hB.frozen k
      have he : ys.getD k 0#64 = ys[k] := by simp [List.getD, hlt2]
      have HS := Lib.hid (uptoI_set (fun i x => x ||| ys.getD i 0#64) hlt)
      simp only [he] at HS
      clear he
      go_wp2
      go_region
      go_wp2
      go_roundw
      case rel => exact ⟨k + 1, by omega, by go_num, by first | exact (hbr.setCell hg1 _).drew | exact hbr.drew.setCell hg1 _, by first | exact (hB.setL k _ HS.out) | exact (hB.drew.setL k _ HS.out), by first | exact (hB2.far hne _) | exact (hB2.drew.far hne _)⟩
      case measure => simp [intOf]; omega
    · rw [uptoI_all _ (by omega), HZ.out] at hB
      go_wp2
      go_ret
      exact retO_mk hbr hg1 hB (by rw [← HZ.out]; simp)

theorem yes_yes {w : World} (m : Nat) (hm : m ≤ 10) :
    Calls Try.prog 18 #[.int .i64 m] w (RetO w (tab m fun _ => true)) := by
  have h := @notf_yes _ w (sat_heapF w) m hm [] none 0 0 Rd.nil
  have e : (tab m fun x => !bitAt [] x) = tab m fun _ => true := tab_congr fun x _ => by rw [bit_nil]; rfl
  rw [e] at h
  have H := Lib.hid h
  clear h e
  go_enter Try.func18, Try.ntmps18
  go_wp2_with (go_at_call 20; refine H.out.mono ?_; rintro e w' ⟨g, c, rfl, hb, hg, hr⟩)
  go_ret
  exact ⟨g, c, rfl, hb, hg, hr⟩
theorem atom_in {w : World} (m : Nat) (hm : m ≤ 10) (i : Nat) (hi : i < m) :
    Calls Try.prog 64 #[.int .i64 m, .int .i64 i] w (RetO w (tab m fun x => x.testBit i)) := by
  have HP := Lib.hid (no_yes (w := w) m hm)
  have HE := Lib.hid (tabTo_all m (fun x => x.testBit i) (2 ^ m) (Nat.le_refl _))
  have hW := words_le m hm
  have hl0 : (tab m fun _ => false).length = wordsN m := length_tab _ _
  rw [← tabTo_zero m (fun x => x.testBit i)] at HP
  have hm62 : m ≤ 62 := by omega
  have hi64 : i < 64 := by omega
  have hiI : decide ((m : Int) ≤ (i : Int)) = false := decide_eq_false (by omega)
  have hp := pow_le_1024 m hm
  obtain ⟨M, hM⟩ : ∃ M, M = 2 ^ m := ⟨_, rfl⟩
  have HC := Lib.hid (words_cover m)
  have HPW := Lib.hid (show pw m = ((2 ^ m : Nat) : Int) from rfl)
  rw [← hM] at HC HPW HE hp
  have HM := Lib.hid hM
  clear hM
  go_enter Try.func64, Try.ntmps64
  go_wp2_with (first | (go_at_call 25; refine HP.out.mono ?_; rintro e w1 ⟨g, c, rfl, hb, hg, hr⟩) | (go_at_call 26; refine (may_yes m hm _).mono ?_; rintro e w' ⟨rfl, rfl⟩))
  simp only [length_tabTo]
  go_loopw [24] (fun j wr => ∃ k : Nat, k ≤ M ∧ j = .int .i64 k ∧ Below w.heap.size w wr ∧ Blk wr g 22 ((tabTo m (fun x => x.testBit i) k).map u).toArray) (fun j _ => M - (intOf j).toNat)
  case atStart => exact ⟨0, Nat.zero_le _, rfl, hb, hr⟩
  case round =>
    obtain ⟨k, hk, rfl, hbr, hB⟩ := hrel
    by_cases hlt : k < M
    · have hkp : (k : Int) < pw m := by rw [HPW.out]; omega
      have hk6 : k ≤ 1000000 := by omega
      have hkW : k / 64 < wordsN m := by have := HC.out; omega
      have hkI : (k : Int) / 64 < (wordsN m : Int) := by omega
      have h0 : 0 ≤ (k : Int) % 64 := by omega
      have hkI6 : (k : Int) ≤ 1000000 := by omega
      have hx : (tabTo m (fun x => x.testBit i) k)[k / 64]? = some ((tabTo m (fun x => x.testBit i) k).getD (k / 64) 0#64) := by
        rw [List.getD, List.getElem?_eq_getElem (by rw [length_tabTo]; exact hkW)]; rfl
      have hc := hB.cellL hx
      have hfz := hB.frozen (k / 64)
      have HS := Lib.hid (tabTo_step m (fun x => x.testBit i) k (by rw [← HM.out]; exact hlt) (BitVec.ofNat 64 (bitN k i) <<< (k % 64)) (fun b hb => bit_shl_bit k i b _ hb))
      clear hx
      generalize (tabTo m (fun x => x.testBit i) k).getD (k / 64) 0#64 = v0 at *
      go_wp2
      go_region
      go_wp2
      go_roundw
      case rel => exact ⟨k + 1, by omega, by go_num, by first | exact (hbr.setCell hg _).drew | exact hbr.drew.setCell hg _, by first | exact (hB.setL (k / 64) _ HS.out) | exact (hB.drew.setL (k / 64) _ HS.out)⟩
      case measure => simp [intOf]; omega
    · have hkp : ¬ (k : Int) < pw m := by rw [HPW.out]; omega
      obtain rfl : k = M := by omega
      rw [HE.out] at hB
      go_wp2
      go_ret
      exact retO_mk hbr hg hB (by rw [length_tab])
theorem same_yes {F : Fz} {w : World} (hF : Sat F w) (m : Nat) (hm : m ≤ 10) (fs gs : List (BitVec 64)) (A B : Option Addr) (n n' c c' : Nat) (hf : Rd F 1 A n (fs.map u)) (hg : Rd F 1 B n' (gs.map u)) :
    Calls Try.prog 14 #[.int .i64 m, .slice A n c, .slice B n' c'] w fun e w' => e = .returned (.bool (decide (tab m (bitAt fs) = tab m (bitAt gs)))) ∧ Below w.heap.size w w' := by
  have hW : (tab m (bitAt fs)).length ≤ 100000 := by rw [length_tab]; have := words_le m hm; omega
  have HP := Lib.hid (plain_yes hF m hm fs A _ c hf)
  have HP2 := Lib.hid (fun w1 (h1 : Sat F w1) => plain_yes h1 m hm gs B _ c' hg)
  generalize tab m (bitAt fs) = xs at *
  generalize tab m (bitAt gs) = ys at *
  go_enter Try.func14, Try.ntmps14
  go_wp2_with (go_at_call 26; refine (may_yes m hm _).mono ?_; rintro e w' ⟨rfl, rfl⟩)
  refine HP.out.mono ?_
  rintro e w1 ⟨g, c1, rfl, hb1, hg1, hr1⟩
  go_wp2_with fail
  refine (HP2.out _ (hF.below hb1)).mono ?_
  rintro e w2 ⟨g2, c2, rfl, hb2, hg2, hr2⟩
  have hr1 := hr1.call hb2
  have hE := equalWords_any (sat_heapF w2) xs ys (some ⟨g, 0, none⟩) (some ⟨g2, 0, none⟩) xs.length ys.length c1 c2 hW (hr1.rdH) (hr2.rdH)
  have HE := Lib.hid hE
  clear hE
  go_wp2_with (go_at_call 30; refine HE.out.mono ?_; rintro e w3 ⟨rfl, q, rfl⟩)
  go_ret
  exact ⟨rfl, below_drewN (hb1.trans (hb2.mono hb1.size)) q⟩
end Go.Proofs.Ytaomehlhopiblaa
/-! The walks of Put, Const; the references' Fun, Put, Const. -/
namespace Go.Proofs.Ytaomehlhopiblaa
open Go.RowKit
attribute [local go_sem ↓] bits_and bits_or not_bits arith_add arith_sub shift_l shift_r shift_lu shift_ru shift_int conv_uu shift_l1 shift_l1u bits_and1 arith_sub1 shift_rn and_one_n
attribute [local go_sem] uz_toNat uz_nonneg wrap_bit

set_option maxRecDepth 20000 in
set_option maxHeartbeats 1000000 in
theorem put_yes {F : Fz} {w : World} (hF : Sat F w) (m : Nat) (hm : m ≤ 10) (fs : List (BitVec 64)) (hfl : fs.length ≤ 1000) (A : Option Addr) (n c : Nat) (hf : Rd F 1 A n (fs.map u))
    (gs : List (List (BitVec 64))) (hgl : ∀ g ∈ gs, g.length ≤ 1000) (B : Option Addr) (n' c' : Nat) (hg : RdR F B n' gs) :
    Calls Try.prog 11 #[.int .i64 m, .slice A n c, .slice B n' c'] w (RetO w (tab m fun x => bitAt fs (putY m gs x))) := by
  obtain ⟨hgn, hrow⟩ := hg
  have HN := Lib.hid hgn
  clear hgn
  have HP := Lib.hid (no_yes (w := w) m hm)
  have HE := Lib.hid (tabTo_all m (fun x => bitAt fs (putY m gs x)) (2 ^ m) (Nat.le_refl _))
  rw [← tabTo_zero m (fun x => bitAt fs (putY m gs x))] at HP
  have hW := words_le m hm
  have hm64 : m < 64 := by omega
  have hp := pow_le_1024 m hm
  obtain ⟨M, hM⟩ : ∃ M, M = 2 ^ m := ⟨_, rfl⟩
  have HC := Lib.hid (words_cover m)
  have HPW := Lib.hid (show uz (1#64 <<< m) = ((2 ^ m : Nat) : Int) by unfold uz; rw [shl_one_toNat m (by omega)])
  have HY := Lib.hid (fun x => putY_lt m hm gs x)
  rw [← hM] at HC HPW HE hp
  have HM := Lib.hid hM
  clear hM
  have HR := Lib.hid hrow
  have HG := Lib.hid hgl
  clear hrow hgl
  go_enter Try.func11, Try.ntmps11
  go_wp2_with (first | (go_at_call 25; refine HP.out.mono ?_; rintro e w1 ⟨g, c1, rfl, hb, hg, hr⟩) | (go_at_call 26; refine (may_yes m hm _).mono ?_; rintro e w' ⟨rfl, rfl⟩))
  simp only [length_tabTo]
  go_loopw [19] (fun j wr => ∃ k : Nat, k ≤ M ∧ j = .int .u64 k ∧ Below w.heap.size w wr ∧ Blk wr g 22 ((tabTo m (fun x => bitAt fs (putY m gs x)) k).map u).toArray) (fun j _ => M - (intOf j).toNat)
  case atStart => exact ⟨0, Nat.zero_le _, rfl, hb, hr⟩
  case round =>
    obtain ⟨k, hk, rfl, hbr, hB⟩ := hrel
    have hFr := hF.below hbr
    by_cases hlt : k < M
    · have hkp : (k : Int) < uz (1#64 <<< m) := by rw [HPW.out]; omega
      have hkI6 : (k : Int) ≤ 1024 := by omega
      go_wp2
      go_loop [9, 10] (fun y i => ∃ t : Nat, t ≤ m ∧ t ≤ n' ∧ i = .int .i64 t ∧ y = u (wordTo (putP gs k) t)) (fun _ i => m - (intOf i).toNat)
      case atStart => exact ⟨0, Nat.zero_le _, Nat.zero_le _, rfl, rfl⟩
      case round =>
        obtain ⟨t, ht, ht', rfl, rfl⟩ := hrel
        have hkM : decide (k < 2 ^ m) = true := decide_eq_true (by rw [← HM.out]; exact hlt)
        by_cases hin : t < m ∧ t < n'
        · obtain ⟨h1, h2⟩ := hin
          have h1I : (t : Int) < (m : Int) := by omega
          have h2I : (t : Int) < (n' : Int) := by omega
          obtain ⟨ad, Ai, ni, ci, rfl, hcell, hrd⟩ := HR.out t (by rw [← HN.out]; exact h2)
          have hc := hFr.cell hcell
          have hgm : (gs.getD t []).length ≤ 1000 := HG.out _ (by rw [List.getD, List.getElem?_eq_getElem (by rw [← HN.out]; exact h2)]; exact List.getElem_mem _)
          have hA := at_any hFr m hm _ hgm Ai ni ci hrd (k : Int) (Int.natCast_nonneg _)
          rw [Int.toNat_natCast, hkM, Bool.true_and] at hA
          have hw : wordTo (putP gs k) (t + 1) = wordTo (putP gs k) t ||| (if putP gs k t then 1#64 <<< t else 0#64) := rfl
          clear hkM
          by_cases hb1 : bitAt (gs.getD t []) k = true
          · rw [hb1] at hA
            rw [if_pos (show putP gs k t = true from hb1)] at hw
            have HA := Lib.hid hA
            have HW := Lib.hid hw
            clear hA hw hb1 hcell
            go_wp2_with (go_at_call 13; refine HA.out.mono ?_; rintro e w' ⟨rfl, rfl⟩)
            go_round
            case rel => exact ⟨t + 1, by omega, by omega, by go_num, by rw [HW.out]⟩
            case measure => simp [intOf]; omega
          · have hb2 : bitAt (gs.getD t []) k = false := by simpa using hb1
            rw [hb2] at hA
            rw [if_neg (show ¬ putP gs k t = true from hb1)] at hw
            have HA := Lib.hid hA
            have HW := Lib.hid hw
            clear hA hw hb1 hb2 hcell
            go_wp2_with (go_at_call 13; refine HA.out.mono ?_; rintro e w' ⟨rfl, rfl⟩)
            go_round
            case rel => exact ⟨t + 1, by omega, by omega, by go_num, by rw [HW.out]; simp⟩
            case measure => simp [intOf]; omega
        · have hst : wordTo (putP gs k) m = wordTo (putP gs k) t := by
            rcases Nat.lt_or_ge t m with h | h
            · exact wordTo_stop _ t (fun i hi => putP_out gs k i (by rw [← HN.out]; omega)) m ht
            · rw [show t = m by omega]
          have hA := at_any hFr m hm fs hfl A n c hf (uz (wordTo (putP gs k) t)) (uz_nonneg _)
          have hy : (uz (wordTo (putP gs k) t)).toNat = putY m gs k := by rw [uz_toNat, ← hst]; rfl
          rw [hy, show decide (putY m gs k < 2 ^ m) = true from decide_eq_true (HY.out k), Bool.true_and] at hA
          clear hy hst hkM
          have hkW : k / 64 < wordsN m := by have := HC.out; omega
          have hkI : (k : Int) / 64 < (wordsN m : Int) := by omega
          have h0 : 0 ≤ (k : Int) % 64 := by omega
          have hx : (tabTo m (fun x => bitAt fs (putY m gs x)) k)[k / 64]? = some ((tabTo m (fun x => bitAt fs (putY m gs x)) k).getD (k / 64) 0#64) := by
            rw [List.getD, List.getElem?_eq_getElem (by rw [length_tabTo]; exact hkW)]; rfl
          have hc := hB.cellL hx
          have hfz := hB.frozen (k / 64)
          have hd : (¬ t < m) ∨ (t < m ∧ ¬ t < n') := by omega
          by_cases hb1 : bitAt fs (putY m gs k) = true
          · rw [hb1] at hA
            have HA := Lib.hid hA
            have HS := Lib.hid (tabTo_step m (fun x => bitAt fs (putY m gs x)) k (by rw [← HM.out]; exact hlt) (1#64 <<< (k % 64)) (fun b hb => step_one k (fun x => bitAt fs (putY m gs x)) hb1 b hb))
            clear hA hb1 hx hin
            generalize (tabTo m (fun x => bitAt fs (putY m gs x)) k).getD (k / 64) 0#64 = v0 at *
            rcases hd with hd | ⟨hd, hd2⟩
            all_goals
              go_wp2_with (go_at_call 13; refine HA.out.mono ?_; rintro e w' ⟨rfl, rfl⟩)
              go_roundw
              case rel => exact ⟨k + 1, by omega, by go_num, hbr.setCell hg _, hB.setL (k / 64) _ HS.out⟩
              case measure => simp [intOf]; omega
          · have hb2 : bitAt fs (putY m gs k) = false := by simpa using hb1
            rw [hb2] at hA
            have HA := Lib.hid hA
            have HS := Lib.hid (tabTo_keep m (fun x => bitAt fs (putY m gs x)) k hb2)
            clear hA hb1 hb2 hx hin
            rcases hd with hd | ⟨hd, hd2⟩
            all_goals
              go_wp2_with (go_at_call 13; refine HA.out.mono ?_; rintro e w' ⟨rfl, rfl⟩)
              go_roundw
              case rel => exact ⟨k + 1, by omega, by go_num, hbr, by rw [← HS.out]; exact hB⟩
              case measure => simp [intOf]; omega
    · have hkp : ¬ (k : Int) < uz (1#64 <<< m) := by rw [HPW.out]; omega
      obtain rfl : k = M := by omega
      rw [HE.out] at hB
      go_wp2
      go_ret
      exact retO_mk hbr hg hB (by rw [length_tab])

end Go.Proofs.Ytaomehlhopiblaa
/-! The walks of Const, the reference's Const, and the law's small helpers. -/
namespace Go.Proofs.Ytaomehlhopiblaa
open Go.RowKit
attribute [local go_sem ↓] bits_and bits_or not_bits arith_add arith_sub shift_l shift_r shift_lu shift_ru shift_int conv_uu shift_l1 shift_l1u bits_and1 arith_sub1 shift_rn and_one_n
attribute [local go_sem] uz_toNat uz_nonneg wrap_bit

/-- Which one value a function has, and whether. -/
def cV (m : Nat) (fs : List (BitVec 64)) : Bool × Bool :=
  if tab m (bitAt fs) = tab m (fun _ => false) then (false, true) else if tab m (bitAt fs) = tab m (fun _ => true) then (true, true) else (false, false)
theorem const_yes {F : Fz} {w : World} (hF : Sat F w) (m : Nat) (hm : m ≤ 10) (fs : List (BitVec 64)) (A : Option Addr) (n c : Nat) (hf : Rd F 1 A n (fs.map u)) :
    Calls Try.prog 27 #[.int .i64 m, .slice A n c] w fun e w' => e = .returned (.tuple #[.bool (cV m fs).1, .bool (cV m fs).2]) ∧ Below w.heap.size w w' := by
  have hS := same_yes hF m hm fs [] A none n 0 c 0 hf Rd.nil
  rw [show tab m (bitAt []) = tab m fun _ => false from tab_congr fun x _ => bit_nil x] at hS
  by_cases h1 : tab m (bitAt fs) = tab m (fun _ => false)
  · rw [decide_eq_true h1] at hS
    have HS := Lib.hid hS
    have HC := Lib.hid (show cV m fs = (false, true) by unfold cV; rw [if_pos h1])
    clear hS h1
    go_enter Try.func27, Try.ntmps27
    go_wp2_with (first | (go_at_call 26; refine (may_yes m hm _).mono ?_; rintro e w' ⟨rfl, rfl⟩) | (go_at_call 14; refine HS.out.mono ?_; rintro e w1 ⟨rfl, hb1⟩))
    go_ret2
    exact ⟨by rw [HC.out]; rfl, hb1⟩
  · rw [decide_eq_false h1] at hS
    have HS := Lib.hid hS
    have HY := Lib.hid (fun w1 : World => yes_yes (w := w1) m hm)
    have HT := Lib.hid (fun w2 (h2 : Sat F w2) g (hr : Rd (heapF w2) 1 (some ⟨g, 0, none⟩) (tab m fun _ => true).length ((tab m fun _ => true).map u)) c2 => same_yes (sat_heapF w2) m hm fs (tab m fun _ => true) A (some ⟨g, 0, none⟩) n _ c c2 (hf.heap h2) hr)
    have HE := Lib.hid (show tab m (bitAt (tab m fun _ => true)) = tab m fun _ => true from tab_congr fun x hx => by rw [bit_tab]; simp [hx])
    by_cases h2 : tab m (bitAt fs) = tab m (fun _ => true)
    all_goals
      first
      | have HC := Lib.hid (show cV m fs = (true, true) by unfold cV; rw [if_neg h1, if_pos h2])
        have HD := Lib.hid (decide_eq_true h2)
      | have HC := Lib.hid (show cV m fs = (false, false) by unfold cV; rw [if_neg h1, if_neg h2])
        have HD := Lib.hid (decide_eq_false h2)
      clear hS h1 h2
      go_enter Try.func27, Try.ntmps27
      go_wp2_with (first | (go_at_call 26; refine (may_yes m hm _).mono ?_; rintro e w' ⟨rfl, rfl⟩) | (go_at_call 18; refine (HY.out _).mono ?_; rintro e w2 ⟨g, c2, rfl, hb2, hg2, hr2⟩))
      refine HS.out.mono ?_
      rintro e w1 ⟨rfl, hb1⟩
      go_wp2_with (go_at_call 18; refine (HY.out _).mono ?_; rintro e w2 ⟨g, c2, rfl, hb2, hg2, hr2⟩)
      have hb12 := hb1.trans (hb2.mono hb1.size)
      have h3 := HT.out _ (hF.below hb12) g hr2.rdH c2
      rw [HE.out, HD.out] at h3
      have H3 := Lib.hid h3
      clear h3
      refine H3.out.mono ?_
      rintro e w3 ⟨rfl, hb3⟩
      go_wp2
      go_ret2
      exact ⟨by rw [HC.out]; rfl, hb12.trans (hb3.mono hb12.size)⟩

end Go.Proofs.Ytaomehlhopiblaa
/-! The law's wake-up call. -/
namespace Go.Proofs.Ytaomehlhopiblaa
open Go.RowKit
attribute [local go_sem ↓] bits_and bits_or not_bits arith_add arith_sub shift_l shift_r shift_lu shift_ru shift_int conv_uu shift_l1 shift_l1u bits_and1 arith_sub1 shift_rn and_one_n
attribute [local go_sem] uz_toNat uz_nonneg wrap_bit

end Go.Proofs.Ytaomehlhopiblaa
/-! The contracts once more, over values that read as functions of assignments. -/
namespace Go.Proofs.Ytaomehlhopiblaa
open Go.RowKit

/-- The value v is words that tell p, of m atoms, frozen in F. -/
def WdF (m : Nat) (F : Fz) (v : Value) (p : Nat → Bool) : Prop :=
  ∃ (A : Option Addr) (n c : Nat) (fs : List (BitVec 64)), v = .slice A n c ∧ Rd F 1 A n (fs.map u) ∧ fs.length ≤ 1000 ∧ ∀ x, x < 2 ^ m → bitAt fs x = p x
/-- The value v is words that tell p, of m atoms. -/
abbrev Wd (m : Nat) (w : World) (v : Value) (p : Nat → Bool) : Prop := WdF m (heapF w) v p
theorem Rd.below {w w' : World} {size n : Nat} {A : Option Addr} {xs : List Value} (h : Rd (heapF w) size A n xs) (hb : Below w.heap.size w w') : Rd (heapF w') size A n xs := h.heap ((sat_heapF w).below hb)
theorem WdF.heap {m : Nat} {F : Fz} {w : World} {v : Value} {p : Nat → Bool} (h : WdF m F v p) (hF : Sat F w) : Wd m w v p :=
  let ⟨A, n, c, fs, e, hr, hl, hp⟩ := h
  ⟨A, n, c, fs, e, hr.heap hF, hl, hp⟩
theorem WdF.below {m : Nat} {w w' : World} {v : Value} {p : Nat → Bool} (h : Wd m w v p) (hb : Below w.heap.size w w') : Wd m w' v p := h.heap ((sat_heapF w).below hb)
theorem WdF.put {m : Nat} {F : Fz} {v : Value} {p : Nat → Bool} (h : WdF m F v p) {g : Nat} {o : Obj} (hg : F g = none) : WdF m (F.put g o) v p :=
  let ⟨A, n, c, fs, e, hr, hl, hp⟩ := h
  ⟨A, n, c, fs, e, hr.put hg, hl, hp⟩
theorem WdF.same {m : Nat} {F : Fz} {v : Value} {p q : Nat → Bool} (h : WdF m F v p) (e : ∀ x, x < 2 ^ m → p x = q x) : WdF m F v q :=
  let ⟨A, n, c, fs, e1, hr, hl, hp⟩ := h
  ⟨A, n, c, fs, e1, hr, hl, fun x hx => (hp x hx).trans (e x hx)⟩
/-- The same, with the block: it may be frozen beside whatever is. -/
def RetQ (m : Nat) (w : World) (p : Nat → Bool) (e : Ending) (w' : World) : Prop :=
  ∃ (A : Option Addr) (n c g : Nat) (o : Obj), e = .returned (.slice A n c) ∧ Below w.heap.size w w' ∧ w.heap.size ≤ g ∧ w'.heap[g]? = some o ∧ ∀ F : Fz, WdF m (F.put g o) (.slice A n c) p
theorem retQ {m : Nat} (hm : m ≤ 10) {w : World} {p q : Nat → Bool} (h : ∀ x, x < 2 ^ m → p x = q x) {e : Ending} {w' : World} (r : RetO w (tab m p) e w') : RetQ m w q e w' := by
  obtain ⟨g, c, rfl, hb, hg, hr⟩ := r
  refine ⟨_, _, _, g, _, rfl, hb, hg, hr, fun F => ⟨_, _, _, _, rfl, ?_, tab_len m hm p, fun x hx => by rw [bit_tab, h x hx]; simp [hx]⟩⟩
  have := Blk.freeze F g 22 ((tab m p).map u).toArray (tab m p).length 1 (by simp)
  simpa using this

/-- A Bool comes back; memory was only made. -/
def RetBt (w : World) (b : Bool) (e : Ending) (w' : World) : Prop := e = .returned (.bool b) ∧ Below w.heap.size w w'
theorem w_same {m : Nat} (hm : m ≤ 10) {w : World} {v v' : Value} {p q : Nat → Bool} (h : Wd m w v p) (h' : Wd m w v' q) (b : Bool) (hb : b = decide (∀ x, x < 2 ^ m → p x = q x)) : Calls Try.prog 14 #[.int .i64 m, v, v'] w (RetBt w b) := by
  obtain ⟨A, n, c, fs, rfl, hr, hl, hp⟩ := h
  obtain ⟨A', n', c', fs', rfl, hr', hl', hp'⟩ := h'
  refine (same_yes (sat_heapF w) m hm fs fs' A A' n n' c c' hr hr').mono fun e w' ⟨he, hb'⟩ => ⟨?_, hb'⟩
  rw [he, hb]
  congr 2
  apply decide_eq_decide.2
  rw [tab_inj]
  exact ⟨fun h x hx => by rw [← hp x hx, ← hp' x hx]; exact h x hx, fun h x hx => by rw [hp x hx, hp' x hx]; exact h x hx⟩
/-! Functions in the places of atoms. -/
def yP (m : Nat) (ps : List (Nat → Bool)) (x : Nat) : Nat := (wordTo (fun i => ps.getD i (fun _ => false) x) m).toNat
theorem yP_lt (m : Nat) (hm : m ≤ 10) (ps : List (Nat → Bool)) (x : Nat) : yP m ps x < 2 ^ m := wordTo_lt _ _ hm
theorem testBit_yP (m : Nat) (hm : m ≤ 10) (ps : List (Nat → Bool)) (x i : Nat) : (yP m ps x).testBit i = (decide (i < m) && ps.getD i (fun _ => false) x) := testBit_wordTo _ _ _ hm
/-- The value v is a slice of words that tell ps, one by one. -/
def Rw (m : Nat) (w : World) (v : Value) (ps : List (Nat → Bool)) : Prop :=
  ∃ (A : Option Addr) (n c : Nat) (gs : List (List (BitVec 64))), v = .slice A n c ∧ RdR (heapF w) A n gs ∧ (∀ g ∈ gs, g.length ≤ 1000) ∧ gs.length = ps.length ∧ ∀ i x, x < 2 ^ m → bitAt (gs.getD i []) x = ps.getD i (fun _ => false) x
theorem RdR.below {w w' : World} {A : Option Addr} {n : Nat} {gs : List (List (BitVec 64))} (h : RdR (heapF w) A n gs) (hb : Below w.heap.size w w') : RdR (heapF w') A n gs :=
  ⟨h.1, fun i hi => let ⟨ad, Ai, ni, ci, e, h1, h2⟩ := h.2 i hi; ⟨ad, Ai, ni, ci, e, ((sat_heapF w).below hb).cell h1, h2.below hb⟩⟩
theorem q_not {m : Nat} (hm : m ≤ 10) {w : World} {v : Value} {p : Nat → Bool} (h : Wd m w v p) : Calls Try.prog 20 #[.int .i64 m, v] w (RetQ m w fun x => !p x) := by
  obtain ⟨A, n, c, fs, rfl, hr, hl, hp⟩ := h
  exact (notf_yes (sat_heapF w) m hm fs A n c hr).mono fun e w' r => retQ hm (fun x hx => by rw [hp x hx]) r
theorem q_yes {m : Nat} (hm : m ≤ 10) {w : World} : Calls Try.prog 18 #[.int .i64 m] w (RetQ m w fun _ => true) :=
  (yes_yes m hm).mono fun _ _ r => retQ hm (fun _ _ => rfl) r
theorem q_atom {m : Nat} (hm : m ≤ 10) {w : World} (i : Nat) (hi : i < m) : Calls Try.prog 64 #[.int .i64 m, .int .i64 i] w (RetQ m w fun x => x.testBit i) :=
  (atom_in m hm i hi).mono fun _ _ r => retQ hm (fun _ _ => rfl) r
theorem Rw.below {m : Nat} {w w' : World} {v : Value} {ps : List (Nat → Bool)} (h : Rw m w v ps) (hb : Below w.heap.size w w') : Rw m w' v ps :=
  let ⟨A, n, c, gs, e, hr, hl, hn, hp⟩ := h
  ⟨A, n, c, gs, e, hr.below hb, hl, hn, hp⟩
theorem wordTo_congr {p q : Nat → Bool} : ∀ m, (∀ i, i < m → p i = q i) → wordTo p m = wordTo q m
  | 0, _ => rfl
  | m + 1, h => by rw [wordTo, wordTo, wordTo_congr m fun i hi => h i (by omega), h m (by omega)]
theorem q_put {m : Nat} (hm : m ≤ 10) {w : World} {v v' : Value} {p : Nat → Bool} {ps : List (Nat → Bool)} (h : Wd m w v p) (h' : Rw m w v' ps) : Calls Try.prog 11 #[.int .i64 m, v, v'] w (RetQ m w fun x => p (yP m ps x)) := by
  obtain ⟨A, n, c, fs, rfl, hr, hl, hp⟩ := h
  obtain ⟨A', n', c', gs, rfl, hr', hl', _, hp'⟩ := h'
  refine (put_yes (sat_heapF w) m hm fs hl A n c hr gs hl' A' n' c' hr').mono fun e w' r => retQ hm (fun x hx => ?_) r
  have e : putY m gs x = yP m ps x := by
    unfold putY yP
    rw [show wordTo (putP gs x) m = _ from wordTo_congr m fun i _ => hp' i x hx]
  rw [e, hp _ (yP_lt m hm ps x)]

/-- A row of functions in the making. -/
def RowsB (m : Nat) (F : Fz) (w : World) (B : Nat) (v : Value) (ps : List (Nat → Bool)) : Prop :=
  ∃ vs : List Value, Own F w B 49 1 v vs.length vs ∧ vs.length = ps.length ∧ ∀ i x, vs[i]? = some x → WdF m F x (ps.getD i fun _ => false)
theorem RowsB.nil (m : Nat) (F : Fz) (w : World) (B : Nat) : RowsB m F w B (.slice none 0 0) [] := ⟨[], Own.nil _ _ _ _ _, rfl, fun i x h => by simp at h⟩
theorem RowsB.call {m : Nat} {F : Fz} {w w' : World} {B : Nat} {v : Value} {ps : List (Nat → Bool)} (h : RowsB m F w B v ps) (hb : Below w.heap.size w w') : RowsB m F w' B v ps :=
  let ⟨vs, h1, h2, h3⟩ := h
  ⟨vs, h1.call hb, h2, h3⟩
theorem RowsB.put {m : Nat} {F : Fz} {w : World} {B : Nat} {v : Value} {ps : List (Nat → Bool)} (h : RowsB m F w B v ps) {g : Nat} {o : Obj} (hg : F g = none) (hv : v.ownBlock ≠ some g) : RowsB m (F.put g o) w B v ps := by
  obtain ⟨vs, ⟨h1, h1'⟩, h2, h3⟩ := h
  refine ⟨vs, ⟨h1, fun g' hg' => ?_⟩, h2, fun i x hx => (h3 i x hx).put hg⟩
  unfold Fz.put
  rw [if_neg (fun e => hv (by rw [hg', e]))]
  exact h1' g' hg'
theorem RowsB.lt {m : Nat} {F : Fz} {w : World} {B : Nat} {v : Value} {ps : List (Nat → Bool)} (h : RowsB m F w B v ps) : ∀ g, v.ownBlock = some g → B ≤ g ∧ g < w.heap.size :=
  let ⟨_, h1, _, _⟩ := h
  h1.1.lt
theorem RowsB.kept {m : Nat} {F : Fz} {w w' : World} {B : Nat} {v : Value} {ps : List (Nat → Bool)} {row : Option Nat} (h : RowsB m F w B v ps) (hg : w.grownBy w' row) (hne : v.ownBlock = none ∨ v.ownBlock ≠ row) : RowsB m F w' B v ps :=
  let ⟨vs, h1, h2, h3⟩ := h
  ⟨vs, h1.kept hg hne, h2, h3⟩
theorem RowsB.push {m : Nat} {F : Fz} {w' : World} {B : Nat} {v' x : Value} {vs : List Value} {ps : List (Nat → Bool)} {p : Nat → Bool} (h2 : vs.length = ps.length) (h3 : ∀ i x, vs[i]? = some x → WdF m F x (ps.getD i fun _ => false)) (hx : WdF m F x p)
    (ho : Own F w' B 49 1 v' (vs.length + 1) (vs ++ [x])) : RowsB m F w' B v' (ps ++ [p]) := by
  refine ⟨vs ++ [x], by simpa using ho, by simp [h2], fun i y hy => ?_⟩
  rw [List.getElem?_append] at hy
  split at hy
  · rename_i hlt
    rw [List.getD, List.getElem?_append_left (by omega)]
    exact h3 i y hy
  · rename_i hge
    have hi : i = vs.length := by
      rcases Nat.lt_or_ge vs.length i with h | h
      · rw [List.getElem?_eq_none (by simp; omega)] at hy; cases hy
      · omega
    subst hi
    simp at hy
    subst hy
    rw [h2]
    simpa [List.getD] using hx
/-- It is made: it reads as functions, one by one. -/
theorem RowsB.done {m : Nat} {F : Fz} {w : World} {B : Nat} {v : Value} {ps : List (Nat → Bool)} (h : RowsB m F w B v ps) (hF : Sat F w) : Rw m w v ps := by
  obtain ⟨vs, ⟨h1, _⟩, h2, h3⟩ := h
  have hform : ∃ (A : Option Addr) (c : Nat), v = .slice A vs.length c ∧ ∀ i x, vs[i]? = some x → ∃ ad, A = some ad ∧ (heapF w).cell (ad.add i) = some x := by
    rcases h1.2 with ⟨rfl, h0⟩ | ⟨g, cap, cur, rfl, _, hh, _, _, _, htake⟩
    · rw [h0]
      exact ⟨none, 0, rfl, fun i x hx => by rw [List.getElem?_eq_none (by omega)] at hx; cases hx⟩
    · exact ⟨_, cap, rfl, fun i x hx => ⟨_, rfl, h1.cells (g := g) rfl i x hx⟩⟩
  obtain ⟨A, c, rfl, hcell⟩ := hform
  have each : ∀ k, k ≤ vs.length → ∃ gs : List (List (BitVec 64)), gs.length = k ∧ ∀ i, i < k → ∃ (Ai : Option Addr) (ni ci : Nat), vs[i]? = some (.slice Ai ni ci) ∧ Rd (heapF w) 1 Ai ni ((gs.getD i []).map u) ∧ (gs.getD i []).length ≤ 1000 ∧ ∀ x, x < 2 ^ m → bitAt (gs.getD i []) x = ps.getD i (fun _ => false) x := by
    intro k
    induction k with
    | zero => intro _; exact ⟨[], rfl, fun i hi => absurd hi (by omega)⟩
    | succ k ih =>
      intro hk
      obtain ⟨gs, hl, hg⟩ := ih (by omega)
      have hvk : vs[k]? = some (vs[k]'(by omega)) := List.getElem?_eq_getElem (by omega)
      obtain ⟨Ak, nk, ck, fk, ek, rk, lk, pk⟩ := (h3 k _ hvk).heap hF
      refine ⟨gs ++ [fk], by simp [hl], fun i hi => ?_⟩
      rcases Nat.lt_or_ge i k with hlt | hge
      · rw [show (gs ++ [fk]).getD i [] = gs.getD i [] by rw [List.getD, List.getElem?_append_left (by omega)]; rfl]
        exact hg i hlt
      · obtain rfl : i = k := by omega
        rw [show (gs ++ [fk]).getD i [] = fk by rw [List.getD, List.getElem?_append_right (by omega), hl]; simp]
        exact ⟨Ak, nk, ck, by rw [hvk, ek], rk, lk, pk⟩
  obtain ⟨gs, hl, hg⟩ := each vs.length (Nat.le_refl _)
  refine ⟨A, vs.length, c, gs, rfl, ⟨hl.symm, fun i hi => ?_⟩, fun g hgm => ?_, by omega, fun i x hx => ?_⟩
  · obtain ⟨Ai, ni, ci, e, r, _, _⟩ := hg i (by omega)
    obtain ⟨ad, eA, hc⟩ := hcell i _ e
    exact ⟨ad, Ai, ni, ci, eA, hc, r⟩
  · obtain ⟨i, hi, rfl⟩ := List.getElem_of_mem hgm
    obtain ⟨_, _, _, _, _, l, _⟩ := hg i (by omega)
    simpa [List.getD, hi] using l
  · rcases Nat.lt_or_ge i vs.length with hlt | hge
    · obtain ⟨_, _, _, _, _, _, p⟩ := hg i hlt
      exact p x hx
    · have e1 : gs.getD i [] = [] := by simp [List.getD, show gs.length ≤ i by omega]
      have e2 : ps.getD i (fun _ => false) = fun _ => false := by simp [List.getD, show ps.length ≤ i by omega]
      rw [e1, e2, bit_nil]
theorem WdF.one {m : Nat} {F : Fz} {v : Value} {p : Nat → Bool} (h : WdF m F v p) : v.oneCell' = true := by
  obtain ⟨A, n, c, fs, rfl, _⟩ := h
  rfl
theorem Try.infoR : (Try.prog.info? 49).map (fun i => (i.zero, i.size, i.bytes)) = some (some (.slice none 0 0), 1, 24) := by kernel_rfl
/-- append of one function onto a row in the making. -/
theorem wpList_pushR {w : World} {ops : Array Oper} {rest : List Oper} {o : Oper} {a : Act} {Q : Exit → Act → World → Prop} (hgd : o.guard = none) (s x : Operand)
    (ho : o.op = .call { callee := .builtin .append, args := #[s, x], argTypes := #[42, 42] })
    {m : Nat} {F : Fz} {B : Nat} {v y : Value} {ps : List (Nat → Bool)} {p : Nat → Bool} (hR : RowsB m F w B v ps) (hy : WdF m F y p) (hF : Sat F w) (hs : a.eval s = v) (g c : Nat) (hx : a.eval x = .slice (some ⟨g, 0, none⟩) 1 c) (hg : Blk w g 49 #[y])
    (hl : ps.length ≤ 1000) (hB : B ≤ w.heap.size)
    (h : ∀ v' w', RowsB m F w' B v' (ps ++ [p]) → Sat F w' → Below B w w' → w.grownBy w' v.ownBlock → (v'.ownBlock = v.ownBlock ∨ v'.ownBlock = some w.heap.size) → wpList Try.prog ops Q rest (a.put o.dst v') w') :
    wpList Try.prog ops Q (o :: rest) a w := by
  obtain ⟨vs, h1, h2, h3⟩ := hR
  refine wpList_push hgd s x _ ho 49 (.slice none 0 0) 1 24 Try.underlying42 Try.infoR rfl (by omega) h1 hF hs g c #[y] hx hg rfl ?_ (by unfold maxLen; omega) (by omega) hB ?_
  · intro u hu
    obtain rfl : u = y := by simpa using hu
    exact hy.one
  · intro v' w' h4 h5 h6 h7 h8
    exact h v' w' (RowsB.push h2 h3 hy h4) h5 h6 h7 h8
/-- The functions of a list, made one by one. -/
def listP (q : Nat → Nat → Bool) (k : Nat) : List (Nat → Bool) := (List.range k).map q
theorem length_listP (q : Nat → Nat → Bool) (k : Nat) : (listP q k).length = k := by simp [listP]
theorem getD_listP (q : Nat → Nat → Bool) (k i : Nat) (h : i < k) : (listP q k).getD i (fun _ => false) = q i := by simp [listP, List.getD, h]
theorem RowsB.fresh {m : Nat} {F : Fz} {w w' : World} {B g : Nat} {v : Value} {ps : List (Nat → Bool)} {o : Obj} (h : RowsB m F w B v ps) (hF : Sat F w) (hb : Below w.heap.size w w') (hg : w.heap.size ≤ g) : RowsB m (F.put g o) w' B v ps :=
  (h.call hb).put (hF.none_ hg) (fun e => by have := (h.lt _ e).2; omega)
theorem Rw.row {m : Nat} {w : World} {C : Option Addr} {n c k : Nat} {ps : List (Nat → Bool)} (h : Rw m w (.slice C n c) ps) (hk : k < n) :
    ∃ (ad : Addr) (Ai : Option Addr) (ni ci : Nat), C = some ad ∧ w.cell? (ad.add k) = some (.slice Ai ni ci) ∧ Wd m w (.slice Ai ni ci) (ps.getD k fun _ => false) := by
  obtain ⟨A, n', c', gs, e, ⟨hn, hr⟩, hl, hlen, hp⟩ := h
  injection e with e1 e2 e3
  subst e1 e2 e3
  obtain ⟨ad, Ai, ni, ci, eA, hc, hrd⟩ := hr k (by omega)
  refine ⟨ad, Ai, ni, ci, eA, hc, Ai, ni, ci, gs.getD k [], rfl, hrd, ?_, fun x hx => hp k x hx⟩
  rw [List.getD, List.getElem?_eq_getElem (by omega)]
  exact hl _ (List.getElem_mem _)
/-- A row of n functions, made whole: block g. -/
def RowsGt (m : Nat) (F : Fz) (w : World) (g n : Nat) (q : Nat → Nat → Bool) : Prop :=
  ∃ vs : List Value, Blk w g 49 vs.toArray ∧ F g = none ∧ vs.length = n ∧ ∀ i x, vs[i]? = some x → WdF m F x (q i)
section
variable {m : Nat} {F : Fz} {w w' : World} {g n : Nat} {q : Nat → Nat → Bool}
theorem RowsGt.lt (h : RowsGt m F w g n q) : g < w.heap.size := let ⟨_, h1, _⟩ := h; h1.lt
theorem RowsGt.call (h : RowsGt m F w g n q) (hb : Below w.heap.size w w') : RowsGt m F w' g n q := let ⟨vs, h1, h2⟩ := h; ⟨vs, h1.call hb, h2⟩
theorem RowsGt.far (h : RowsGt m F w g n q) {a : Addr} (ha : g ≠ a.block) (v : Value) : RowsGt m F (w.setCell a v) g n q := let ⟨vs, h1, h2⟩ := h; ⟨vs, h1.far ha v, h2⟩
theorem RowsGt.put (h : RowsGt m F w g n q) {g' : Nat} {o : Obj} (hg : F g' = none) (hne : g ≠ g') : RowsGt m (F.put g' o) w g n q :=
  let ⟨vs, h1, h2, h3, h4⟩ := h
  ⟨vs, h1, by unfold Fz.put; rw [if_neg hne]; exact h2, h3, fun i x hx => (h4 i x hx).put hg⟩
theorem RowsGt.fresh (h : RowsGt m F w g n q) {g' : Nat} {o : Obj} (hF : Sat F w) (hb : Below w.heap.size w w') (hg : w.heap.size ≤ g') : RowsGt m (F.put g' o) w' g n q :=
  (h.call hb).put (hF.none_ hg) (by have := h.lt; omega)
theorem RowsGt.set_ (h : RowsGt m F w g n q) (k : Nat) {x : Value} {p : Nat → Bool} (hx : WdF m F x p) : RowsGt m F (w.setCell ⟨g, k, none⟩ x) g n (fun i => if i = k then p else q i) := by
  obtain ⟨vs, h1, h2, h3, h4⟩ := h
  refine ⟨vs.set k x, ?_, h2, by simpa using h3, fun i y hy => ?_⟩
  · have := h1.set_ k x
    rwa [List.setIfInBounds_toArray] at this
  · rw [List.getElem?_set] at hy
    by_cases hi : k = i
    · subst hi
      rw [if_pos rfl] at hy
      split at hy
      · injection hy with hy
        subst hy
        simpa using hx
      · cases hy
    · rw [if_neg hi] at hy
      show WdF m F y (if i = k then p else q i)
      rw [if_neg (fun e => hi e.symm)]
      exact h4 i y hy
theorem RowsGt.sat (h : RowsGt m F w g n q) (hF : Sat F w) (k : Nat) (x : Value) : Sat F (w.setCell ⟨g, k, none⟩ x) := let ⟨_, _, h2, _⟩ := h; hF.setCell h2 x
theorem RowsGt.cell (h : RowsGt m F w g n q) {k : Nat} (hk : k < n) : (∃ v, w.cell? ⟨g, k, none⟩ = some v) ∧ w.frozen? ⟨g, k, none⟩ = false := by
  obtain ⟨vs, h1, _, h3, _⟩ := h
  exact ⟨⟨vs[k]'(by omega), by rw [h1.cell k]; simp [show k < vs.length by omega]⟩, h1.frozen k⟩
theorem RowsGt.made (F : Fz) (w : World) (g n : Nat) (hg : Blk w g 49 (zeros (.slice none 0 0) n)) (hF : F g = none) : RowsGt m F w g n (fun _ _ => false) := by
  refine ⟨List.replicate n (.slice none 0 0), hg, hF, by simp, fun i x hx => ?_⟩
  rw [List.getElem?_replicate] at hx
  split at hx
  · injection hx with hx
    subst hx
    exact ⟨none, 0, 0, [], rfl, Rd.nil, by simp, fun x _ => bit_nil x⟩
  · cases hx
theorem RowsGt.done (h : RowsGt m F w g n q) (hF : Sat F w) (hn : n ≤ 1000) (c : Nat) : Rw m w (.slice (some ⟨g, 0, none⟩) n c) (listP q n) := by
  obtain ⟨vs, h1, h2, h3, h4⟩ := h
  have hB : RowsB m F w 0 (.slice (some ⟨g, 0, none⟩) n n) (listP q n) := by
    refine ⟨vs, ⟨⟨by simp, .inr ⟨g, n, vs.toArray, by rw [h3], Nat.zero_le _, h1, by omega, by unfold maxLen; omega, by simp [h3], by simp⟩⟩, fun g' hg' => ?_⟩, by rw [length_listP, h3], fun i x hx => ?_⟩
    · have : g = g' := by simpa [Value.ownBlock] using hg'
      rw [← this]; exact h2
    · rw [getD_listP _ _ _ (by have := (List.getElem?_eq_some_iff.1 hx).1; omega)]
      exact h4 i x hx
  obtain ⟨A, n', c', gs, e, hr, hl, hlen, hp⟩ := hB.done hF
  injection e with e1 e2 e3
  subst e1 e2
  exact ⟨_, _, c, gs, rfl, hr, hl, hlen, hp⟩
end
theorem makeR (n : Nat) (hn : n ≤ 1000000) (w : World) : (Instr.makeSlice 42 (.int .i64 (n : Int)) (.int .i64 (n : Int))).run Try.prog w = .ok (.slice (some ⟨w.heap.size, 0, none⟩) n n) (w.alloc (.cells (zeros (.slice none 0 0) n) 49)) :=
  run_make1 _ _ _ 24 Try.underlying42 Try.infoR rfl n (by omega) (by omega) w
end Go.Proofs.Ytaomehlhopiblaa
