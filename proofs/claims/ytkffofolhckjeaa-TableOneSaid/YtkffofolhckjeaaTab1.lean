/- The walks of table's and the references' small functions. -/
import Derived.Test.YtkffofolhckjeaaTabP
import Derived.Deep.QuietTactic
import Derived.BigQuiet
namespace Go.Proofs.Ytkffofolhckjeaa
open Go.RowKit
attribute [local go_sem ↓] bits_and bits_or not_bits arith_add arith_sub shift_l shift_r shift_lu shift_ru shift_int conv_uu shift_l1 shift_l1u bits_and1 arith_sub1
attribute [local go_sem] uz_toNat uz_nonneg

theorem may_yes (m : Nat) (hm : m ≤ 10) (w : World) :
    Calls Try.prog 55 #[.int .i64 m] w fun e w' => e = .returned (.bool true) ∧ w = w' := by
  have h1 : (m : Int) ≤ 10 := by omega
  go_enter Try.func55, Try.ntmps55
  go_wp2
  go_ret
  exact ⟨rfl, rfl⟩
theorem may_no (n : Int) (hm : n < 0 ∨ 10 < n) (w : World) :
    Calls Try.prog 55 #[.int .i64 n] w fun e w' => e = .returned (.bool false) ∧ w = w' := by
  rcases hm with h | h
  · go_enter Try.func55, Try.ntmps55
    go_wp2
    go_ret
    exact ⟨rfl, rfl⟩
  · have h1 : decide (n ≤ 10) = false := by simp; omega
    have h2 : (0 : Int) ≤ n := by omega
    go_enter Try.func55, Try.ntmps55
    go_wp2
    go_ret
    exact ⟨rfl, rfl⟩
theorem right_yes (m : Nat) (hm : m ≤ 10) (w : World) :
    Calls Try.prog 33 #[.int .i64 m] w fun e w' => e = .returned (.bool true) ∧ w = w' := by
  have h1 : (m : Int) ≤ 10 := by omega
  go_enter Try.func33, Try.ntmps33
  go_wp2
  go_ret
  exact ⟨rfl, rfl⟩
theorem right_no (n : Int) (hm : n < 0 ∨ 10 < n) (w : World) :
    Calls Try.prog 33 #[.int .i64 n] w fun e w' => e = .returned (.bool false) ∧ w = w' := by
  rcases hm with h | h
  · go_enter Try.func33, Try.ntmps33
    go_wp2
    go_ret
    exact ⟨rfl, rfl⟩
  · have h1 : decide (n ≤ 10) = false := by simp; omega
    have h2 : (0 : Int) ≤ n := by omega
    go_enter Try.func33, Try.ntmps33
    go_wp2
    go_ret
    exact ⟨rfl, rfl⟩

theorem words_yes (m : Nat) (hm : m ≤ 10) (w : World) :
    Calls Try.prog 31 #[.int .i64 m] w fun e w' => e = .returned (.int .i64 (wordsN m : Nat)) ∧ w = w' := by
  by_cases h6 : 6 < m
  · have h7 : (6 : Int) < (m : Int) := by omega
    obtain ⟨j, rfl⟩ : ∃ j, m = j + 6 := ⟨m - 6, by omega⟩
    have hj : j ≤ 62 := by omega
    have hsub : ((j + 6 : Nat) : Int) - 6 = (j : Int) := by omega
    go_enter Try.func31, Try.ntmps31
    go_wp2_with (go_at_call 55; refine (may_yes (j + 6) hm _).mono ?_; rintro e w' ⟨rfl, rfl⟩)
    go_ret
    refine ⟨?_, rfl⟩
    show Ending.returned (.int .i64 (pw j)) = _
    unfold pw wordsN
    rw [if_pos h6, Nat.add_sub_cancel]
  · have h7 : decide ((6 : Int) < (m : Int)) = false := by simp; omega
    go_enter Try.func31, Try.ntmps31
    go_wp2_with (go_at_call 55; refine (may_yes m hm _).mono ?_; rintro e w' ⟨rfl, rfl⟩)
    go_ret
    refine ⟨?_, rfl⟩
    unfold wordsN
    rw [if_neg h6]
    rfl
theorem words_no (n : Int) (hm : n < 0 ∨ 10 < n) (w : World) :
    Calls Try.prog 31 #[.int .i64 n] w fun e w' => e = .returned (.int .i64 0) ∧ w = w' := by
  go_enter Try.func31, Try.ntmps31
  go_wp2_with (go_at_call 55; refine (may_no n hm _).mono ?_; rintro e w' ⟨rfl, rfl⟩)
  go_ret
  exact ⟨rfl, rfl⟩
theorem rwords_no (n : Int) (hm : n < 0 ∨ 10 < n) (w : World) :
    Calls Try.prog 32 #[.int .i64 n] w fun e w' => e = .returned (.int .i64 0) ∧ w = w' := by
  rcases hm with h | h
  · go_enter Try.func32, Try.ntmps32
    go_wp2
    go_ret
    exact ⟨rfl, rfl⟩
  · have h1 : decide (n < 0) = false := decide_eq_false (by omega)
    go_enter Try.func32, Try.ntmps32
    go_wp2
    go_ret
    exact ⟨rfl, rfl⟩
theorem rwords_yes (m : Nat) (hm : m ≤ 10) (w : World) :
    Calls Try.prog 32 #[.int .i64 m] w fun e w' => e = .returned (.int .i64 (wordsN m : Nat)) ∧ w = w' := by
  have h1 : decide ((10 : Int) < (m : Int)) = false := by simp; omega
  by_cases h6 : 6 < m
  · have h7 : decide ((m : Int) ≤ 6) = false := by simp; omega
    obtain ⟨j, rfl⟩ : ∃ j, m = j + 6 := ⟨m - 6, by omega⟩
    have hj : j ≤ 62 := by omega
    have hj' : j < 64 := by omega
    have hsub : ((j + 6 : Nat) : Int) - 6 = (j : Int) := by omega
    go_enter Try.func32, Try.ntmps32
    go_wp2
    go_ret
    refine ⟨?_, rfl⟩
    show Ending.returned (.int .i64 (pw j)) = _
    unfold pw wordsN
    rw [if_pos h6, Nat.add_sub_cancel]
  · have h7 : (m : Int) ≤ 6 := by omega
    go_enter Try.func32, Try.ntmps32
    go_wp2
    go_ret
    refine ⟨?_, rfl⟩
    unfold wordsN
    rw [if_neg h6]
    rfl

theorem bit_of_get {fs : List (BitVec 64)} {k : Nat} (h : k / 64 < fs.length) : bitAt fs k = fs[k / 64].getLsbD (k % 64) := by
  unfold bitAt
  simp [List.getD, h]

theorem at_any {F : Fz} {w : World} (hF : Sat F w) (m : Nat) (hm : m ≤ 10) (fs : List (BitVec 64)) (hn : fs.length ≤ 1000) (A : Option Addr) (n c : Nat) (hf : Rd F 1 A n (fs.map u)) (X : Int) (hX : 0 ≤ X) :
    Calls Try.prog 21 #[.int .i64 m, .slice A n c, .int .u64 X] w fun e w' => e = .returned (.bool (decide (X.toNat < 2 ^ m) && bitAt fs X.toNat)) ∧ w = w' := by
  obtain rfl := rd_len hf
  have hs : uz (1#64 <<< m) = ((2 ^ m : Nat) : Int) := by unfold uz; rw [shl_one_toNat m (by omega)]
  have hp := pow_le_1024 m hm
  obtain ⟨x, rfl⟩ := Int.eq_ofNat_of_zero_le hX
  rw [Int.toNat_natCast]
  by_cases hx : x < 2 ^ m
  · have hc1 : decide (uz (1#64 <<< m) ≤ (x : Int)) = false := decide_eq_false (by rw [hs]; omega)
    have hxb : (x : Int) ≤ 1024 := by omega
    by_cases hk : x / 64 < fs.length
    · have hc2 : decide ((fs.length : Int) ≤ (x : Int) / 64) = false := by simp; omega
      have hkI : (x : Int) / 64 < (fs.length : Int) := by omega
      have h0 : 0 ≤ (x : Int) % 64 := by omega
      obtain ⟨ad, v, rfl, hv, hcell⟩ := hf.at1 hk
      have hc := hF.cell hcell
      have hb := bit_of_get hk
      rw [List.getElem?_map, List.getElem?_eq_getElem hk] at hv
      injection hv with hv
      subst hv
      have H : Hid (Value.bool (uz (fs[x / 64] >>> (x % 64) &&& 1#64) == 1) = .bool (decide (x < 2 ^ m) && bitAt fs x)) := by
        show _ = _
        rw [test_bit, hb]; simp [hx]
      clear hs hb hcell hx hp
      go_enter Try.func21, Try.ntmps21
      go_wp2_with (go_at_call 55; refine (may_yes m hm _).mono ?_; rintro e w' ⟨rfl, rfl⟩)
      go_ret
      exact ⟨congrArg Ending.returned H.out, rfl⟩
    · have hc2 : decide ((fs.length : Int) ≤ (x : Int) / 64) = true := by simp; omega
      have H : Hid (Value.bool false = .bool (decide (x < 2 ^ m) && bitAt fs x)) := by
        show _ = _
        rw [bit_out _ _ (by omega)]; simp
      clear hs hx hp
      go_enter Try.func21, Try.ntmps21
      go_wp2_with (go_at_call 55; refine (may_yes m hm _).mono ?_; rintro e w' ⟨rfl, rfl⟩)
      go_ret
      exact ⟨congrArg Ending.returned H.out, rfl⟩
  · have hc1 : decide (uz (1#64 <<< m) ≤ (x : Int)) = true := decide_eq_true (by rw [hs]; omega)
    have H : Hid (Value.bool false = .bool (decide (x < 2 ^ m) && bitAt fs x)) := by
      show _ = _
      simp [hx]
    clear hs hx hp
    go_enter Try.func21, Try.ntmps21
    go_wp2_with (go_at_call 55; refine (may_yes m hm _).mono ?_; rintro e w' ⟨rfl, rfl⟩)
    go_ret
    exact ⟨congrArg Ending.returned H.out, rfl⟩
theorem at_no {w : World} (n : Int) (hm : n < 0 ∨ 10 < n) (v x : Value) :
    Calls Try.prog 21 #[.int .i64 n, v, x] w fun e w' => e = .returned (.bool false) ∧ w = w' := by
  go_enter Try.func21, Try.ntmps21
  go_wp2_with (go_at_call 55; refine (may_no n hm _).mono ?_; rintro e w' ⟨rfl, rfl⟩)
  go_ret
  exact ⟨rfl, rfl⟩

set_option maxRecDepth 10000 in
theorem has_any {F : Fz} {w : World} (hF : Sat F w) (fs : List (BitVec 64)) (A : Option Addr) (n c : Nat) (hf : Rd F 1 A n (fs.map u)) (k : Nat) (hkb : (k : Int) ≤ 1000000) :
    Calls Try.prog 54 #[.slice A n c, .int .i64 k] w fun e w' => e = .returned (.bool (bitAt fs k)) ∧ w = w' := by
  obtain rfl := rd_len hf
  by_cases hk : k / 64 < fs.length
  · have hkI : (k : Int) / 64 < (fs.length : Int) := by omega
    have hkd : decide ((k : Int) / 64 < (fs.length : Int)) = true := by simpa using hkI
    obtain ⟨ad, v, rfl, hv, hcell⟩ := hf.at1 hk
    have hc := hF.cell hcell
    have hb := bit_of_get hk
    rw [List.getElem?_map, List.getElem?_eq_getElem hk] at hv
    injection hv with hv
    subst hv
    have h64 : k % 64 < 64 := by omega
    have h0 : 0 ≤ (k : Int) % 64 := by omega
    have H : Hid (Value.bool (uz (fs[k / 64] >>> (k % 64) &&& 1#64) == 1) = .bool (bitAt fs k)) := by
      show _ = _
      rw [test_bit, hb]
    clear hb hcell
    go_enter Try.func54, Try.ntmps54
    go_wp2
    go_ret
    exact ⟨congrArg Ending.returned H.out, rfl⟩
  · have hkI : ¬ (k : Int) / 64 < (fs.length : Int) := by omega
    have hkd : decide ((k : Int) / 64 < (fs.length : Int)) = false := by simpa using hkI
    have H : Hid (Value.bool false = .bool (bitAt fs k)) := by
      show _ = _
      rw [bit_out _ _ (by omega)]
    go_enter Try.func54, Try.ntmps54
    go_wp2
    go_ret
    exact ⟨congrArg Ending.returned H.out, rfl⟩
theorem rat_any {F : Fz} {w : World} (hF : Sat F w) (m : Nat) (hm : m ≤ 10) (fs : List (BitVec 64)) (A : Option Addr) (n c : Nat) (hf : Rd F 1 A n (fs.map u)) (X : Int) (hX : 0 ≤ X) :
    Calls Try.prog 20 #[.int .i64 m, .slice A n c, .int .u64 X] w fun e w' => e = .returned (.bool (decide (X.toNat < 2 ^ m) && bitAt fs X.toNat)) ∧ w = w' := by
  obtain rfl := rd_len hf
  have hs : uz (1#64 <<< m) = ((2 ^ m : Nat) : Int) := by unfold uz; rw [shl_one_toNat m (by omega)]
  have hm64 : (m : Int) < 64 := by omega
  have hp := pow_le_1024 m hm
  obtain ⟨x, rfl⟩ := Int.eq_ofNat_of_zero_le hX
  rw [Int.toNat_natCast]
  by_cases hx : x < 2 ^ m
  · have hc1 : decide ((x : Int) < uz (1#64 <<< m)) = true := decide_eq_true (by rw [hs]; omega)
    have H : Hid (Value.bool (bitAt fs x) = .bool (decide (x < 2 ^ m) && bitAt fs x)) := by
      show _ = _
      simp [hx]
    have hxI : (x : Int) ≤ 1000000 := by omega
    clear hs hp hx
    go_enter Try.func20, Try.ntmps20
    go_wp2_with (first | (go_at_call 33; refine (right_yes m hm _).mono ?_; rintro e w' ⟨rfl, rfl⟩) | (go_at_call 54; refine (has_any hF fs A _ c hf x hxI).mono ?_; rintro e w' ⟨rfl, rfl⟩))
    go_ret
    exact ⟨congrArg Ending.returned H.out, rfl⟩
  · have hc1 : decide ((x : Int) < uz (1#64 <<< m)) = false := decide_eq_false (by rw [hs]; omega)
    have H : Hid (Value.bool false = .bool (decide (x < 2 ^ m) && bitAt fs x)) := by
      show _ = _
      simp [hx]
    clear hs hx hp
    go_enter Try.func20, Try.ntmps20
    go_wp2_with (go_at_call 33; refine (right_yes m hm _).mono ?_; rintro e w' ⟨rfl, rfl⟩)
    go_ret
    exact ⟨congrArg Ending.returned H.out, rfl⟩
theorem rat_no {w : World} (n : Int) (hm : n < 0 ∨ 10 < n) (v x : Value) :
    Calls Try.prog 20 #[.int .i64 n, v, x] w fun e w' => e = .returned (.bool false) ∧ w = w' := by
  go_enter Try.func20, Try.ntmps20
  go_wp2_with (go_at_call 33; refine (right_no n hm _).mono ?_; rintro e w' ⟨rfl, rfl⟩)
  go_ret
  exact ⟨rfl, rfl⟩

/-! Word by word. -/
theorem take_same {α : Type} {xs ys : List α} {k : Nat} (h : xs.take k = ys.take k) (hx : k < xs.length) (hy : k < ys.length) (e : xs[k] = ys[k]) : xs.take (k + 1) = ys.take (k + 1) := by
  rw [List.take_succ_eq_append_getElem hx, List.take_succ_eq_append_getElem hy, h, e]
theorem take_ne {α : Type} {xs ys : List α} {k : Nat} (hx : k < xs.length) (hy : k < ys.length) (e : xs[k] ≠ ys[k]) : xs ≠ ys := by
  rintro rfl
  exact e rfl
theorem map_get {α : Type} {g : α → Value} {xs : List α} {k : Nat} {v : Value} (hk : k < xs.length) (hv : (xs.map g)[k]? = some v) : v = g xs[k] := by
  rw [List.getElem?_map, List.getElem?_eq_getElem hk] at hv
  injection hv with hv
  exact hv.symm
theorem sameWords_any {F : Fz} {w : World} (hF : Sat F w) (fs gs : List (BitVec 64)) (A B : Option Addr) (n n' c d : Nat) (hn : fs.length ≤ 100000) (hf : Rd F 1 A n (fs.map u)) (hg : Rd F 1 B n' (gs.map u)) :
    Calls Try.prog 27 #[.slice A n c, .slice B n' d] w fun e w' => e = .returned (.bool (decide (fs = gs))) ∧ ∃ q, w' = w.drewN q := by
  obtain rfl := rd_len hf
  obtain rfl := rd_len hg
  by_cases hl : fs.length = gs.length
  · have hne : ((fs.length : Int) != (gs.length : Int)) = false := by rw [hl]; simp
    have HL := Lib.hid hl
    clear hl
    go_enter Try.func27, Try.ntmps27
    go_wp2
    go_loopw [13] (fun i wr => ∃ k : Nat, k ≤ fs.length ∧ i = .int .i64 k ∧ fs.take k = gs.take k ∧ ∃ q, wr = w.drewN q) (fun i _ => fs.length - (intOf i).toNat)
    case atStart => exact ⟨0, Nat.zero_le _, rfl, rfl, 0, rfl⟩
    case round =>
      obtain ⟨k, hk, rfl, hsame, q, rfl⟩ := hrel
      have HS := Lib.hid hsame
      clear hsame
      by_cases hlt : k < fs.length
      · have hlt' : k < gs.length := by have := HL.out; omega
        obtain ⟨ad, v, rfl, hv, hcell⟩ := hf.at1 hlt
        obtain ⟨bd, v', rfl, hv', hcell'⟩ := hg.at1 hlt'
        obtain rfl := map_get hlt hv
        obtain rfl := map_get hlt' hv'
        have hc := hF.cell hcell
        have hc' := hF.cell hcell'
        clear hv hv' hcell hcell'
        have hI : (k : Int) < (gs.length : Int) := by omega
        by_cases he : fs[k] = gs[k]
        · have hee : (uz fs[k] != uz gs[k]) = false := by rw [he]; simp
          have HE := Lib.hid he
          clear he
          go_wp2
          go_quiet (fail)
          go_wp2
          go_roundw
          case rel => exact ⟨k + 1, by omega, by go_num, take_same HS.out hlt hlt' HE.out, _, rfl⟩
          case measure => simp [intOf]; omega
        · have hee : (uz fs[k] != uz gs[k]) = true := by rw [bne_iff_ne]; exact fun e => he (uz_inj e)
          have hfin : decide (fs = gs) = false := decide_eq_false (take_ne hlt hlt' he)
          have HFin := Lib.hid hfin
          clear he hfin
          go_wp2
          go_quiet (fail)
          go_wp2
          go_ret
          exact ⟨by rw [HFin.out]; rfl, _, World.drewN_drewN _ _ _⟩
      · have hfin : decide (fs = gs) = true := by
          have h1 := HS.out
          have h2 := HL.out
          rw [List.take_of_length_le (by omega), List.take_of_length_le (by omega)] at h1
          exact decide_eq_true h1
        have HFin := Lib.hid hfin
        clear hfin
        go_wp2
        go_ret
        exact ⟨by rw [HFin.out]; rfl, _, rfl⟩
  · have hne : ((fs.length : Int) != (gs.length : Int)) = true := by rw [bne_iff_ne]; omega
    have hfin : decide (fs = gs) = false := decide_eq_false (fun e => hl (by rw [e]))
    have HFin := Lib.hid hfin
    clear hl hfin
    go_enter Try.func27, Try.ntmps27
    go_wp2
    go_ret
    exact ⟨by rw [HFin.out]; rfl, 0, rfl⟩
theorem equalWords_any {F : Fz} {w : World} (hF : Sat F w) (fs gs : List (BitVec 64)) (A B : Option Addr) (n n' c d : Nat) (hn : fs.length ≤ 100000) (hf : Rd F 1 A n (fs.map u)) (hg : Rd F 1 B n' (gs.map u)) :
    Calls Try.prog 57 #[.slice A n c, .slice B n' d] w fun e w' => e = .returned (.bool (decide (fs = gs))) ∧ ∃ q, w' = w.drewN q := by
  obtain rfl := rd_len hf
  obtain rfl := rd_len hg
  by_cases hl : fs.length = gs.length
  · have hne : ((fs.length : Int) != (gs.length : Int)) = false := by rw [hl]; simp
    have HL := Lib.hid hl
    clear hl
    go_enter Try.func57, Try.ntmps57
    go_wp2
    go_loopw [13] (fun i wr => ∃ k : Nat, k ≤ fs.length ∧ i = .int .i64 k ∧ fs.take k = gs.take k ∧ ∃ q, wr = w.drewN q) (fun i _ => fs.length - (intOf i).toNat)
    case atStart => exact ⟨0, Nat.zero_le _, rfl, rfl, 0, rfl⟩
    case round =>
      obtain ⟨k, hk, rfl, hsame, q, rfl⟩ := hrel
      have HS := Lib.hid hsame
      clear hsame
      by_cases hlt : k < fs.length
      · have hlt' : k < gs.length := by have := HL.out; omega
        obtain ⟨ad, v, rfl, hv, hcell⟩ := hf.at1 hlt
        obtain ⟨bd, v', rfl, hv', hcell'⟩ := hg.at1 hlt'
        obtain rfl := map_get hlt hv
        obtain rfl := map_get hlt' hv'
        have hc := hF.cell hcell
        have hc' := hF.cell hcell'
        clear hv hv' hcell hcell'
        have hI : (k : Int) < (gs.length : Int) := by omega
        by_cases he : fs[k] = gs[k]
        · have hee : (uz fs[k] != uz gs[k]) = false := by rw [he]; simp
          have HE := Lib.hid he
          clear he
          go_wp2
          go_quiet (fail)
          go_wp2
          go_roundw
          case rel => exact ⟨k + 1, by omega, by go_num, take_same HS.out hlt hlt' HE.out, _, rfl⟩
          case measure => simp [intOf]; omega
        · have hee : (uz fs[k] != uz gs[k]) = true := by rw [bne_iff_ne]; exact fun e => he (uz_inj e)
          have hfin : decide (fs = gs) = false := decide_eq_false (take_ne hlt hlt' he)
          have HFin := Lib.hid hfin
          clear he hfin
          go_wp2
          go_quiet (fail)
          go_wp2
          go_ret
          exact ⟨by rw [HFin.out]; rfl, _, World.drewN_drewN _ _ _⟩
      · have hfin : decide (fs = gs) = true := by
          have h1 := HS.out
          have h2 := HL.out
          rw [List.take_of_length_le (by omega), List.take_of_length_le (by omega)] at h1
          exact decide_eq_true h1
        have HFin := Lib.hid hfin
        clear hfin
        go_wp2
        go_ret
        exact ⟨by rw [HFin.out]; rfl, _, rfl⟩
  · have hne : ((fs.length : Int) != (gs.length : Int)) = true := by rw [bne_iff_ne]; omega
    have hfin : decide (fs = gs) = false := decide_eq_false (fun e => hl (by rw [e]))
    have HFin := Lib.hid hfin
    clear hl hfin
    go_enter Try.func57, Try.ntmps57
    go_wp2
    go_ret
    exact ⟨by rw [HFin.out]; rfl, 0, rfl⟩

end Go.Proofs.Ytkffofolhckjeaa
