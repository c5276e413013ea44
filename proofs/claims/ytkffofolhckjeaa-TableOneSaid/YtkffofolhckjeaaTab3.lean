/- The walks of And, Or, Yes, Atom, Same, Const. -/
import Derived.Test.YtkffofolhckjeaaTab2
namespace Go.Proofs.Ytkffofolhckjeaa
open Go.RowKit
attribute [local go_sem ↓] bits_and bits_or not_bits arith_add arith_sub shift_l shift_r shift_lu shift_ru shift_int conv_uu shift_l1 shift_l1u bits_and1 arith_sub1 shift_rn and_one_n
attribute [local go_sem] uz_toNat uz_nonneg wrap_bit

theorem andf_yes {F : Fz} {w : World} (hF : Sat F w) (m : Nat) (hm : m ≤ 10) (fs gs : List (BitVec 64)) (A B : Option Addr) (n n' c c' : Nat) (hf : Rd F 1 A n (fs.map u)) (hg : Rd F 1 B n' (gs.map u)) :
    Calls Try.prog 18 #[.int .i64 m, .slice A n c, .slice B n' c'] w (RetO w (tab m fun x => and (bitAt fs x) (bitAt gs x))) := by
  have HZ := Lib.hid (zip_tab m (bitAt fs) (bitAt gs) (fun a b => a &&& b) and (fun a b i => by first | exact BitVec.getLsbD_and | exact BitVec.getLsbD_or) rfl)
  have hW : (tab m (bitAt fs)).length ≤ 16 := by rw [length_tab]; exact words_le m hm
  have hWW : (tab m (bitAt gs)).length = (tab m (bitAt fs)).length := by rw [length_tab, length_tab]
  have HP := Lib.hid (plain_yes hF m hm fs A _ c hf)
  have HP2 := Lib.hid (fun w1 (h1 : Sat F w1) => plain_yes h1 m hm gs B _ c' hg)
  generalize tab m (bitAt fs) = xs at *
  generalize tab m (bitAt gs) = ys at *
  have HL := Lib.hid hWW
  clear hWW
  go_enter Try.func18, Try.ntmps18
  go_wp2_with fail
  refine HP.out.mono ?_
  rintro e w1 ⟨g, c1, rfl, hb1, hg1, hr1⟩
  go_wp2_with fail
  refine (HP2.out _ (hF.below hb1)).mono ?_
  rintro e w2 ⟨g2, c2, rfl, hb2, hg2, hr2⟩
  have hr1 := hr1.call hb2
  have hne : g2 ≠ g := by have := (hr1.lt); have h3 : g < w1.heap.size := (by assumption : Blk w1 g _ _).lt; omega
  have hb := hb1.trans (hb2.mono hb1.size)
  have hg2' := Nat.le_trans hb1.size hg2
  clear hb1 hb2 hg2
  go_wp2_with fail
  go_loopw [18] (fun i wr => ∃ k : Nat, k ≤ xs.length ∧ i = .int .i64 k ∧ Below w.heap.size w wr ∧ Blk wr g 27 ((uptoI (fun i x => x &&& ys.getD i 0#64) k xs).map u).toArray ∧ Blk wr g2 27 (ys.map u).toArray) (fun i _ => xs.length - (intOf i).toNat)
  case atStart => exact ⟨0, Nat.zero_le _, rfl, hb, by rw [uptoI_zero]; exact hr1, hr2⟩
  case round =>
    obtain ⟨k, hk, rfl, hbr, hB, hB2⟩ := hrel
    by_cases hlt : k < xs.length
    · have hlt2 : k < ys.length := by rw [HL.out]; exact hlt
      have hkI : (k : Int) < (ys.length : Int) := by omega
      have hc := hB.cellL (uptoI_get _ hlt)
      have hc2 := hB2.cellL (List.getElem?_eq_getElem hlt2)
      have hfz := hB.frozen k
      have he : ys.getD k 0#64 = ys[k] := by simp [List.getD, hlt2]
      have HS := Lib.hid (uptoI_set (fun i x => x &&& ys.getD i 0#64) hlt)
      simp only [he] at HS
      clear he
      go_wp2
      go_region
      go_wp2
      go_roundw
      case rel => exact ⟨k + 1, by omega, by go_num, by first | exact (hbr.setCell hg1 _).drew | exact hbr.drew.setCell hg1 _, by first | exact (hB.setL k _ HS.out) | exact (hB.drew.setL k _ HS.out), by first | exact (hB2.far hne _) | exact (hB2.drew.far hne _)⟩
      case measure => simp [intOf]; omega
    · rw [uptoI_all _ (by omega), HZ.out] at hB
      go_wp2
      go_ret
      exact retO_mk hbr hg1 hB (by rw [← HZ.out]; simp)
theorem orf_yes {F : Fz} {w : World} (hF : Sat F w) (m : Nat) (hm : m ≤ 10) (fs gs : List (BitVec 64)) (A B : Option Addr) (n n' c c' : Nat) (hf : Rd F 1 A n (fs.map u)) (hg : Rd F 1 B n' (gs.map u)) :
    Calls Try.prog 19 #[.int .i64 m, .slice A n c, .slice B n' c'] w (RetO w (tab m fun x => or (bitAt fs x) (bitAt gs x))) := by
  have HZ := Lib.hid (zip_tab m (bitAt fs) (bitAt gs) (fun a b => a ||| b) or (fun a b i => by first | exact BitVec.getLsbD_and | exact BitVec.getLsbD_or) rfl)
  have hW : (tab m (bitAt fs)).length ≤ 16 := by rw [length_tab]; exact words_le m hm
  have hWW : (tab m (bitAt gs)).length = (tab m (bitAt fs)).length := by rw [length_tab, length_tab]
  have HP := Lib.hid (plain_yes hF m hm fs A _ c hf)
  have HP2 := Lib.hid (fun w1 (h1 : Sat F w1) => plain_yes h1 m hm gs B _ c' hg)
  generalize tab m (bitAt fs) = xs at *
  generalize tab m (bitAt gs) = ys at *
  have HL := Lib.hid hWW
  clear hWW
  go_enter Try.func19, Try.ntmps19
  go_wp2_with fail
  refine HP.out.mono ?_
  rintro e w1 ⟨g, c1, rfl, hb1, hg1, hr1⟩
  go_wp2_with fail
  refine (HP2.out _ (hF.below hb1)).mono ?_
  rintro e w2 ⟨g2, c2, rfl, hb2, hg2, hr2⟩
  have hr1 := hr1.call hb2
  have hne : g2 ≠ g := by have := (hr1.lt); have h3 : g < w1.heap.size := (by assumption : Blk w1 g _ _).lt; omega
  have hb := hb1.trans (hb2.mono hb1.size)
  have hg2' := Nat.le_trans hb1.size hg2
  clear hb1 hb2 hg2
  go_wp2_with fail
  go_loopw [18] (fun i wr => ∃ k : Nat, k ≤ xs.length ∧ i = .int .i64 k ∧ Below w.heap.size w wr ∧ Blk wr g 27 ((uptoI (fun i x => x ||| ys.getD i 0#64) k xs).map u).toArray ∧ Blk wr g2 27 (ys.map u).toArray) (fun i _ => xs.length - (intOf i).toNat)
  case atStart => exact ⟨0, Nat.zero_le _, rfl, hb, by rw [uptoI_zero]; exact hr1, hr2⟩
  case round =>
    obtain ⟨k, hk, rfl, hbr, hB, hB2⟩ := hrel
    by_cases hlt : k < xs.length
    · have hlt2 : k < ys.length := by rw [HL.out]; exact hlt
      have hkI : (k : Int) < (ys.length : Int) := by omega
      have hc := hB.cellL (uptoI_get _ hlt)
      have hc2 := hB2.cellL (List.getElem?_eq_getElem hlt2)
      have hfz := hB.frozen k
      have he : ys.getD k 0#64 = ys[k] := by simp [List.getD, hlt2]
      have HS := Lib.hid (uptoI_set (fun i x => x ||| ys.getD i 0#64) hlt)
      simp only [he] at HS
      clear he
      go_wp2
      go_region
      go_wp2
      go_roundw
      case rel => exact ⟨k + 1, by omega, by go_num, by first | exact (hbr.setCell hg1 _).drew | exact hbr.drew.setCell hg1 _, by first | exact (hB.setL k _ HS.out) | exact (hB.drew.setL k _ HS.out), by first | exact (hB2.far hne _) | exact (hB2.drew.far hne _)⟩
      case measure => simp [intOf]; omega
    · rw [uptoI_all _ (by omega), HZ.out] at hB
      go_wp2
      go_ret
      exact retO_mk hbr hg1 hB (by rw [← HZ.out]; simp)

theorem yes_yes {w : World} (m : Nat) (hm : m ≤ 10) :
    Calls Try.prog 25 #[.int .i64 m] w (RetO w (tab m fun _ => true)) := by
  have h := @notf_yes _ w (sat_heapF w) m hm [] none 0 0 Rd.nil
  have e : (tab m fun x => !bitAt [] x) = tab m fun _ => true := tab_congr fun x _ => by rw [bit_nil]; rfl
  rw [e] at h
  have H := Lib.hid h
  clear h e
  go_enter Try.func25, Try.ntmps25
  go_wp2_with (go_at_call 17; refine H.out.mono ?_; rintro e w' ⟨g, c, rfl, hb, hg, hr⟩)
  go_ret
  exact ⟨g, c, rfl, hb, hg, hr⟩
theorem notf_no {w : World} (n : Int) (hm : n < 0 ∨ 10 < n) (v : Value) :
    Calls Try.prog 17 #[.int .i64 n, v] w fun e w' => e = .returned (.slice none 0 0) ∧ w = w' := by
  go_enter Try.func17, Try.ntmps17
  go_wp2_with (go_at_call 53; refine (plain_no n hm _).mono ?_; rintro e w' ⟨rfl, rfl⟩)
  go_loop [12] (fun i => i = .int .i64 0) (fun _ => 0)
  case atStart => rfl
  case round =>
    obtain rfl := hrel
    go_wp2_with (go_at_call 53; refine (plain_no n hm _).mono ?_; rintro e w' ⟨rfl, rfl⟩)
    go_ret
    exact ⟨rfl, rfl⟩
theorem yes_no {w : World} (n : Int) (hm : n < 0 ∨ 10 < n) :
    Calls Try.prog 25 #[.int .i64 n] w fun e w' => e = .returned (.slice none 0 0) ∧ w = w' := by
  go_enter Try.func25, Try.ntmps25
  go_wp2_with (go_at_call 17; refine (notf_no n hm _).mono ?_; rintro e w' ⟨rfl, rfl⟩)
  go_ret
  exact ⟨rfl, rfl⟩
theorem andf_no {w : World} (n : Int) (hm : n < 0 ∨ 10 < n) (v v' : Value) :
    Calls Try.prog 18 #[.int .i64 n, v, v'] w fun e w' => e = .returned (.slice none 0 0) ∧ w = w' := by
  go_enter Try.func18, Try.ntmps18
  go_wp2_with (go_at_call 53; refine (plain_no n hm _).mono ?_; rintro e w' ⟨rfl, rfl⟩)
  go_loop [18] (fun i => i = .int .i64 0) (fun _ => 0)
  case atStart => rfl
  case round =>
    obtain rfl := hrel
    go_wp2
    go_ret
    exact ⟨rfl, rfl⟩
theorem orf_no {w : World} (n : Int) (hm : n < 0 ∨ 10 < n) (v v' : Value) :
    Calls Try.prog 19 #[.int .i64 n, v, v'] w fun e w' => e = .returned (.slice none 0 0) ∧ w = w' := by
  go_enter Try.func19, Try.ntmps19
  go_wp2_with (go_at_call 53; refine (plain_no n hm _).mono ?_; rintro e w' ⟨rfl, rfl⟩)
  go_loop [18] (fun i => i = .int .i64 0) (fun _ => 0)
  case atStart => rfl
  case round =>
    obtain rfl := hrel
    go_wp2
    go_ret
    exact ⟨rfl, rfl⟩

theorem atom_in {w : World} (m : Nat) (hm : m ≤ 10) (i : Nat) (hi : i < m) :
    Calls Try.prog 34 #[.int .i64 m, .int .i64 i] w (RetO w (tab m fun x => x.testBit i)) := by
  have HP := Lib.hid (no_yes (w := w) m hm)
  have HE := Lib.hid (tabTo_all m (fun x => x.testBit i) (2 ^ m) (Nat.le_refl _))
  have hW := words_le m hm
  have hl0 : (tab m fun _ => false).length = wordsN m := length_tab _ _
  rw [← tabTo_zero m (fun x => x.testBit i)] at HP
  have hm62 : m ≤ 62 := by omega
  have hi64 : i < 64 := by omega
  have hiI : decide ((m : Int) ≤ (i : Int)) = false := decide_eq_false (by omega)
  have hp := pow_le_1024 m hm
  obtain ⟨M, hM⟩ : ∃ M, M = 2 ^ m := ⟨_, rfl⟩
  have HC := Lib.hid (words_cover m)
  have HPW := Lib.hid (show pw m = ((2 ^ m : Nat) : Int) from rfl)
  rw [← hM] at HC HPW HE hp
  have HM := Lib.hid hM
  clear hM
  go_enter Try.func34, Try.ntmps34
  go_wp2_with (first | (go_at_call 26; refine HP.out.mono ?_; rintro e w1 ⟨g, c, rfl, hb, hg, hr⟩) | (go_at_call 55; refine (may_yes m hm _).mono ?_; rintro e w' ⟨rfl, rfl⟩))
  simp only [length_tabTo]
  go_loopw [24] (fun j wr => ∃ k : Nat, k ≤ M ∧ j = .int .i64 k ∧ Below w.heap.size w wr ∧ Blk wr g 27 ((tabTo m (fun x => x.testBit i) k).map u).toArray) (fun j _ => M - (intOf j).toNat)
  case atStart => exact ⟨0, Nat.zero_le _, rfl, hb, hr⟩
  case round =>
    obtain ⟨k, hk, rfl, hbr, hB⟩ := hrel
    by_cases hlt : k < M
    · have hkp : (k : Int) < pw m := by rw [HPW.out]; omega
      have hk6 : k ≤ 1000000 := by omega
      have hkW : k / 64 < wordsN m := by have := HC.out; omega
      have hkI : (k : Int) / 64 < (wordsN m : Int) := by omega
      have h0 : 0 ≤ (k : Int) % 64 := by omega
      have hkI6 : (k : Int) ≤ 1000000 := by omega
      have hx : (tabTo m (fun x => x.testBit i) k)[k / 64]? = some ((tabTo m (fun x => x.testBit i) k).getD (k / 64) 0#64) := by
        rw [List.getD, List.getElem?_eq_getElem (by rw [length_tabTo]; exact hkW)]; rfl
      have hc := hB.cellL hx
      have hfz := hB.frozen (k / 64)
      have HS := Lib.hid (tabTo_step m (fun x => x.testBit i) k (by rw [← HM.out]; exact hlt) (BitVec.ofNat 64 (bitN k i) <<< (k % 64)) (fun b hb => bit_shl_bit k i b _ hb))
      clear hx
      generalize (tabTo m (fun x => x.testBit i) k).getD (k / 64) 0#64 = v0 at *
      go_wp2
      go_region
      go_wp2
      go_roundw
      case rel => exact ⟨k + 1, by omega, by go_num, by first | exact (hbr.setCell hg _).drew | exact hbr.drew.setCell hg _, by first | exact (hB.setL (k / 64) _ HS.out) | exact (hB.drew.setL (k / 64) _ HS.out)⟩
      case measure => simp [intOf]; omega
    · have hkp : ¬ (k : Int) < pw m := by rw [HPW.out]; omega
      obtain rfl : k = M := by omega
      rw [HE.out] at hB
      go_wp2
      go_ret
      exact retO_mk hbr hg hB (by rw [length_tab])
theorem atom_out {w : World} (m : Nat) (hm : m ≤ 10) (i : Int) (hi : i < 0 ∨ (m : Int) ≤ i) :
    Calls Try.prog 34 #[.int .i64 m, .int .i64 i] w (RetO w (tab m fun _ => false)) := by
  have HP := Lib.hid (no_yes (w := w) m hm)
  rcases hi with hi | hi
  · go_enter Try.func34, Try.ntmps34
    go_wp2_with (first | (go_at_call 26; refine HP.out.mono ?_; rintro e w1 ⟨g, c, rfl, hb, hg, hr⟩) | (go_at_call 55; refine (may_yes m hm _).mono ?_; rintro e w' ⟨rfl, rfl⟩))
    go_ret
    exact ⟨g, c, rfl, hb, hg, hr⟩
  · have h0 : decide (i < 0) = false := decide_eq_false (by omega)
    go_enter Try.func34, Try.ntmps34
    go_wp2_with (first | (go_at_call 26; refine HP.out.mono ?_; rintro e w1 ⟨g, c, rfl, hb, hg, hr⟩) | (go_at_call 55; refine (may_yes m hm _).mono ?_; rintro e w' ⟨rfl, rfl⟩))
    go_ret
    exact ⟨g, c, rfl, hb, hg, hr⟩
theorem atom_no {w : World} (n : Int) (hm : n < 0 ∨ 10 < n) (v : Value) :
    Calls Try.prog 34 #[.int .i64 n, v] w fun e w' => e = .returned (.slice none 0 0) ∧ w = w' := by
  go_enter Try.func34, Try.ntmps34
  go_wp2_with (first | (go_at_call 26; refine (no_no n hm).mono ?_; rintro e w1 ⟨rfl, rfl⟩) | (go_at_call 55; refine (may_no n hm _).mono ?_; rintro e w' ⟨rfl, rfl⟩))
  go_ret
  exact ⟨rfl, rfl⟩

theorem same_no {w : World} (n : Int) (hm : n < 0 ∨ 10 < n) (v v' : Value) :
    Calls Try.prog 23 #[.int .i64 n, v, v'] w fun e w' => e = .returned (.bool false) ∧ w = w' := by
  go_enter Try.func23, Try.ntmps23
  go_wp2_with (go_at_call 55; refine (may_no n hm _).mono ?_; rintro e w' ⟨rfl, rfl⟩)
  go_ret
  exact ⟨rfl, rfl⟩
theorem same_yes {F : Fz} {w : World} (hF : Sat F w) (m : Nat) (hm : m ≤ 10) (fs gs : List (BitVec 64)) (A B : Option Addr) (n n' c c' : Nat) (hf : Rd F 1 A n (fs.map u)) (hg : Rd F 1 B n' (gs.map u)) :
    Calls Try.prog 23 #[.int .i64 m, .slice A n c, .slice B n' c'] w fun e w' => e = .returned (.bool (decide (tab m (bitAt fs) = tab m (bitAt gs)))) ∧ Below w.heap.size w w' := by
  have hW : (tab m (bitAt fs)).length ≤ 100000 := by rw [length_tab]; have := words_le m hm; omega
  have HP := Lib.hid (plain_yes hF m hm fs A _ c hf)
  have HP2 := Lib.hid (fun w1 (h1 : Sat F w1) => plain_yes h1 m hm gs B _ c' hg)
  generalize tab m (bitAt fs) = xs at *
  generalize tab m (bitAt gs) = ys at *
  go_enter Try.func23, Try.ntmps23
  go_wp2_with (go_at_call 55; refine (may_yes m hm _).mono ?_; rintro e w' ⟨rfl, rfl⟩)
  refine HP.out.mono ?_
  rintro e w1 ⟨g, c1, rfl, hb1, hg1, hr1⟩
  go_wp2_with fail
  refine (HP2.out _ (hF.below hb1)).mono ?_
  rintro e w2 ⟨g2, c2, rfl, hb2, hg2, hr2⟩
  have hr1 := hr1.call hb2
  have hE := equalWords_any (sat_heapF w2) xs ys (some ⟨g, 0, none⟩) (some ⟨g2, 0, none⟩) xs.length ys.length c1 c2 hW (hr1.rdH) (hr2.rdH)
  have HE := Lib.hid hE
  clear hE
  go_wp2_with (go_at_call 57; refine HE.out.mono ?_; rintro e w3 ⟨rfl, q, rfl⟩)
  go_ret
  exact ⟨rfl, below_drewN (hb1.trans (hb2.mono hb1.size)) q⟩
end Go.Proofs.Ytkffofolhckjeaa
