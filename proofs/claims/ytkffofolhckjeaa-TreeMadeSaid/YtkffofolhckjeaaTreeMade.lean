/- The walk of the law TreeMade. -/
import Derived.Test.YtkffofolhckjeaaTells
import Derived.Test.YtkffofolhckjeaaBuild
set_option linter.unusedVariables false
set_option linter.unusedSimpArgs false
namespace Go.Proofs.Ytkffofolhckjeaa
open Go.RowKit
set_option maxRecDepth 100000 in
set_option maxHeartbeats 1000000 in
theorem treeMade_true {F : Fz} {w : World} (hF : Sat F w) (ns : List Nat) (hns : ∀ k ∈ ns, k < 65536) (A : Option Addr) (n c : Nat) (hr : Rd F 1 A n (ns.map encW)) :
    Calls Try.prog 10 #[.slice A n c, .bool true] w fun e w' => e = .returned (.bool true) ∧ Below w.heap.size w w' := by
  obtain ⟨o1, o2⟩ := make_ok true ns hns
  obtain ⟨ff, fr, fp⟩ := ok_form o1
  obtain ⟨rr, rf, rp⟩ := ok_reg o2
  have hM := make_w hF ns hns A n c hr true (makeT true ns) rfl
  have hR := fun (F1 : Fz) (w1 : World) (h1 : Sat F1 w1) (hle : Fle w F F1) => reg5_w h1 ns hns A n c (hr.cle hle.cle) true (regT true ns) rfl
  have s1 : ((makeT true ns).flat 0).length ≤ 100 := by rw [Tr.length_flat]; exact (make_size true ns).1
  have s2 : ((regT true ns).flat 0).length ≤ 100 := by rw [Tr.length_flat]; exact (make_size true ns).2
  clear o1 o2
  generalize (makeT true ns).flat 0 = lf at *
  generalize (regT true ns).flat 0 = lr at *
  obtain ⟨bp1, hbp1⟩ : ∃ b, plainS lf = b := ⟨_, rfl⟩
  obtain ⟨bp2, hbp2⟩ : ∃ b, plainS lr = b := ⟨_, rfl⟩
  rw [hbp1] at fp
  rw [hbp2] at rp
  first
    | (obtain rfl := fp rfl; obtain rfl := rp rfl)
    | skip
  have HM := Lib.hid hM
  have HR := Lib.hid hR
  have FF := Lib.hid ff
  have FR := Lib.hid fr
  have RR := Lib.hid rr
  have RF := Lib.hid rf
  have FP := Lib.hid hbp1
  have RP := Lib.hid hbp2
  clear hM hR ff fr rr rf fp rp hbp1 hbp2
  go_enter Try.func10, Try.ntmps10
  go_wp2_with (first
    | (go_at_call 37; refine HM.out.mono ?_; rintro e w1 ⟨A1, c1, F1, rfl, hc1, hN1, hb1, hF1, hle1⟩)
    | (go_at_call 38; refine (HR.out F1 w1 hF1 hle1).mono ?_; rintro e w2 ⟨A2, c2, F2, rfl, hc2, hN2, hb2, hF2, hle2⟩; have hN1 := hN1.cle hle2.cle; have hb : Below w2.heap.size w2 w2 := Below.refl _ _))
  go_at_call 39
  refine (form_w (hF2.below hb) lf (by omega) A1 _ c1 hN1 _ FF.out).mono ?_
  rintro e w' ⟨rfl, hw'⟩
  have hb := bthen hb hw'
  go_wp2_with fail
  go_at_call 40
  refine (treg_w (hF2.below hb) lf (by omega) A1 _ c1 hN1 _ FR.out).mono ?_
  rintro e w' ⟨rfl, hw'⟩
  have hb := bthen hb hw'
  go_wp2_with fail
  go_at_call 40
  refine (treg_w (hF2.below hb) lr (by omega) A2 _ c2 hN2 _ RR.out).mono ?_
  rintro e w' ⟨rfl, hw'⟩
  have hb := bthen hb hw'
  go_wp2_with fail
  go_at_call 39
  refine (form_w (hF2.below hb) lr (by omega) A2 _ c2 hN2 _ RF.out).mono ?_
  rintro e w' ⟨rfl, hw'⟩
  have hb := bthen hb hw'
  go_wp2_with fail
  first
    | (go_at_call 41;  refine (plain_w (hF2.below hb) lf (by omega) A1 _ c1 hN1 _ FP.out).mono ?_;  rintro e w' ⟨rfl, hw'⟩;  have hb := bthen hb hw';  go_wp2_with fail;  go_at_call 41;  refine (plain_w (hF2.below hb) lr (by omega) A2 _ c2 hN2 _ RP.out).mono ?_;  rintro e w' ⟨rfl, hw'⟩;  have hb := bthen hb hw';  go_wp2_with fail)
    | skip
  go_loopw [7, 46] (fun _ j wr => ∃ (k : Nat), k ≤ lf.length ∧ j = .int .i64 k ∧ Below w2.heap.size w2 wr) (fun _ j _ => lf.length - (intOf j).toNat)
  case atStart => exact ⟨0, Nat.zero_le _, rfl, hb⟩
  case round =>
    obtain ⟨k, hk, rfl, hb⟩ := hrel
    by_cases hlt : k < lf.length
    · have hkI : (k : Int) < (lf.length : Int) := by omega
      go_wp2_with (go_at_call 36; refine (tells_w (hF2.below hb) lf (by omega) A1 _ c1 hc1 hN1 (k : Int) (by omega) (by omega)).mono ?_; rintro e w' ⟨rfl, hw'⟩; have hb := bthen hb hw')
      go_roundw
      case rel => exact ⟨k + 1, by omega, by go_num, by first | exact hb | exact below_drewN hb _⟩
      case measure => simp [intOf]; omega
    · obtain rfl : k = lf.length := by omega
      have hdec : decide ((lf.length : Int) < (lf.length : Int)) = false := decide_eq_false (by omega)
      go_wp2_with fail
      go_loopw [8, 56] (fun _ j wr => ∃ (k : Nat), k ≤ lr.length ∧ j = .int .i64 k ∧ Below w2.heap.size w2 wr) (fun _ j _ => lr.length - (intOf j).toNat)
      case atStart => exact ⟨0, Nat.zero_le _, rfl, by first | exact hb | exact below_drewN hb _⟩
      case round =>
        obtain ⟨k, hk2, rfl, hb⟩ := hrel
        by_cases hlt2 : k < lr.length
        · have hkI2 : (k : Int) < (lr.length : Int) := by omega
          go_wp2_with (go_at_call 36; refine (tells_w (hF2.below hb) lr (by omega) A2 _ c2 hc2 hN2 (k : Int) (by omega) (by omega)).mono ?_; rintro e w' ⟨rfl, hw'⟩; have hb := bthen hb hw')
          go_roundw
          case rel => exact ⟨k + 1, by omega, by go_num, by first | exact hb | exact below_drewN hb _⟩
          case measure => simp [intOf]; omega
        · obtain rfl : k = lr.length := by omega
          have hdec2 : decide ((lr.length : Int) < (lr.length : Int)) = false := decide_eq_false (by omega)
          go_wp2_with (go_at_call 35; refine (awake5_w _).mono ?_; rintro e w' ⟨rfl, hw'⟩; have hb := bthen hb hw')
          go_ret
          exact ⟨rfl, bthen (bthen hb1 hb2) hb⟩
set_option maxRecDepth 100000 in
set_option maxHeartbeats 1000000 in
theorem treeMade_false {F : Fz} {w : World} (hF : Sat F w) (ns : List Nat) (hns : ∀ k ∈ ns, k < 65536) (A : Option Addr) (n c : Nat) (hr : Rd F 1 A n (ns.map encW)) :
    Calls Try.prog 10 #[.slice A n c, .bool false] w fun e w' => e = .returned (.bool true) ∧ Below w.heap.size w w' := by
  obtain ⟨o1, o2⟩ := make_ok false ns hns
  obtain ⟨ff, fr, fp⟩ := ok_form o1
  obtain ⟨rr, rf, rp⟩ := ok_reg o2
  have hM := make_w hF ns hns A n c hr false (makeT false ns) rfl
  have hR := fun (F1 : Fz) (w1 : World) (h1 : Sat F1 w1) (hle : Fle w F F1) => reg5_w h1 ns hns A n c (hr.cle hle.cle) false (regT false ns) rfl
  have s1 : ((makeT false ns).flat 0).length ≤ 100 := by rw [Tr.length_flat]; exact (make_size false ns).1
  have s2 : ((regT false ns).flat 0).length ≤ 100 := by rw [Tr.length_flat]; exact (make_size false ns).2
  clear o1 o2
  generalize (makeT false ns).flat 0 = lf at *
  generalize (regT false ns).flat 0 = lr at *
  obtain ⟨bp1, hbp1⟩ : ∃ b, plainS lf = b := ⟨_, rfl⟩
  obtain ⟨bp2, hbp2⟩ : ∃ b, plainS lr = b := ⟨_, rfl⟩
  rw [hbp1] at fp
  rw [hbp2] at rp
  first
    | (obtain rfl := fp rfl; obtain rfl := rp rfl)
    | skip
  have HM := Lib.hid hM
  have HR := Lib.hid hR
  have FF := Lib.hid ff
  have FR := Lib.hid fr
  have RR := Lib.hid rr
  have RF := Lib.hid rf
  have FP := Lib.hid hbp1
  have RP := Lib.hid hbp2
  clear hM hR ff fr rr rf fp rp hbp1 hbp2
  go_enter Try.func10, Try.ntmps10
  go_wp2_with (first
    | (go_at_call 37; refine HM.out.mono ?_; rintro e w1 ⟨A1, c1, F1, rfl, hc1, hN1, hb1, hF1, hle1⟩)
    | (go_at_call 38; refine (HR.out F1 w1 hF1 hle1).mono ?_; rintro e w2 ⟨A2, c2, F2, rfl, hc2, hN2, hb2, hF2, hle2⟩; have hN1 := hN1.cle hle2.cle; have hb : Below w2.heap.size w2 w2 := Below.refl _ _))
  go_at_call 39
  refine (form_w (hF2.below hb) lf (by omega) A1 _ c1 hN1 _ FF.out).mono ?_
  rintro e w' ⟨rfl, hw'⟩
  have hb := bthen hb hw'
  go_wp2_with fail
  go_at_call 40
  refine (treg_w (hF2.below hb) lf (by omega) A1 _ c1 hN1 _ FR.out).mono ?_
  rintro e w' ⟨rfl, hw'⟩
  have hb := bthen hb hw'
  go_wp2_with fail
  go_at_call 40
  refine (treg_w (hF2.below hb) lr (by omega) A2 _ c2 hN2 _ RR.out).mono ?_
  rintro e w' ⟨rfl, hw'⟩
  have hb := bthen hb hw'
  go_wp2_with fail
  go_at_call 39
  refine (form_w (hF2.below hb) lr (by omega) A2 _ c2 hN2 _ RF.out).mono ?_
  rintro e w' ⟨rfl, hw'⟩
  have hb := bthen hb hw'
  go_wp2_with fail
  first
    | (go_at_call 41;  refine (plain_w (hF2.below hb) lf (by omega) A1 _ c1 hN1 _ FP.out).mono ?_;  rintro e w' ⟨rfl, hw'⟩;  have hb := bthen hb hw';  go_wp2_with fail;  go_at_call 41;  refine (plain_w (hF2.below hb) lr (by omega) A2 _ c2 hN2 _ RP.out).mono ?_;  rintro e w' ⟨rfl, hw'⟩;  have hb := bthen hb hw';  go_wp2_with fail)
    | skip
  go_loopw [7, 46] (fun _ j wr => ∃ (k : Nat), k ≤ lf.length ∧ j = .int .i64 k ∧ Below w2.heap.size w2 wr) (fun _ j _ => lf.length - (intOf j).toNat)
  case atStart => exact ⟨0, Nat.zero_le _, rfl, hb⟩
  case round =>
    obtain ⟨k, hk, rfl, hb⟩ := hrel
    by_cases hlt : k < lf.length
    · have hkI : (k : Int) < (lf.length : Int) := by omega
      go_wp2_with (go_at_call 36; refine (tells_w (hF2.below hb) lf (by omega) A1 _ c1 hc1 hN1 (k : Int) (by omega) (by omega)).mono ?_; rintro e w' ⟨rfl, hw'⟩; have hb := bthen hb hw')
      go_roundw
      case rel => exact ⟨k + 1, by omega, by go_num, by first | exact hb | exact below_drewN hb _⟩
      case measure => simp [intOf]; omega
    · obtain rfl : k = lf.length := by omega
      have hdec : decide ((lf.length : Int) < (lf.length : Int)) = false := decide_eq_false (by omega)
      go_wp2_with fail
      go_loopw [8, 56] (fun _ j wr => ∃ (k : Nat), k ≤ lr.length ∧ j = .int .i64 k ∧ Below w2.heap.size w2 wr) (fun _ j _ => lr.length - (intOf j).toNat)
      case atStart => exact ⟨0, Nat.zero_le _, rfl, by first | exact hb | exact below_drewN hb _⟩
      case round =>
        obtain ⟨k, hk2, rfl, hb⟩ := hrel
        by_cases hlt2 : k < lr.length
        · have hkI2 : (k : Int) < (lr.length : Int) := by omega
          go_wp2_with (go_at_call 36; refine (tells_w (hF2.below hb) lr (by omega) A2 _ c2 hc2 hN2 (k : Int) (by omega) (by omega)).mono ?_; rintro e w' ⟨rfl, hw'⟩; have hb := bthen hb hw')
          go_roundw
          case rel => exact ⟨k + 1, by omega, by go_num, by first | exact hb | exact below_drewN hb _⟩
          case measure => simp [intOf]; omega
        · obtain rfl : k = lr.length := by omega
          have hdec2 : decide ((lr.length : Int) < (lr.length : Int)) = false := decide_eq_false (by omega)
          go_wp2_with (go_at_call 35; refine (awake5_w _).mono ?_; rintro e w' ⟨rfl, hw'⟩; have hb := bthen hb hw')
          go_ret
          exact ⟨rfl, bthen (bthen hb1 hb2) hb⟩
theorem treeMade_c {F : Fz} {w : World} (hF : Sat F w) (ns : List Nat) (hns : ∀ k ∈ ns, k < 65536) (A : Option Addr) (n c : Nat) (hr : Rd F 1 A n (ns.map encW)) (b : Bool) :
    Calls Try.prog 10 #[.slice A n c, .bool b] w fun e w' => e = .returned (.bool true) ∧ Below w.heap.size w w' := by
  cases b
  · exact treeMade_false hF ns hns A n c hr
  · exact treeMade_true hF ns hns A n c hr
end Go.Proofs.Ytkffofolhckjeaa
