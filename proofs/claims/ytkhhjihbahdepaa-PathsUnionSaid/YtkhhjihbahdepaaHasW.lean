/- The walks of bits.Has and bits.at; sets by words. -/
import Derived.Test.YtkhhjihbahdepaaTab1
set_option linter.unusedVariables false
set_option linter.unusedSimpArgs false
namespace Go.Proofs.Ytkhhjihbahdepaa
open Go.RowKit
attribute [local go_sem ↓] bits_and bits_or not_bits arith_add arith_sub shift_l shift_r shift_lu shift_ru shift_int conv_uu shift_l1 shift_l1u bits_and1 arith_sub1
attribute [local go_sem] uz_toNat uz_nonneg
theorem bitsAt_w {F : Fz} {w : World} (hF : Sat F w) (fs : List (BitVec 64)) (A : Option Addr) (n c : Nat) (hf : Rd F 1 A n (fs.map u)) (k : Nat) :
    Calls Try.prog 66 #[.slice A n c, .int .i64 k] w fun e w' => e = .returned (u (fs.getD k 0#64)) ∧ w = w' := by
  obtain rfl := rd_len hf
  by_cases hk : k < fs.length
  · have hkI : (k : Int) < (fs.length : Int) := by omega
    obtain ⟨ad, v, rfl, hv, hcell⟩ := hf.at1 hk
    have hc := hF.cell hcell
    rw [List.getElem?_map, List.getElem?_eq_getElem hk] at hv
    injection hv with hv
    subst hv
    have H : Hid (fs[k] = fs.getD k 0#64) := Lib.hid (by rw [List.getD, List.getElem?_eq_getElem hk]; rfl)
    clear hcell
    go_enter Try.func66, Try.ntmps66
    go_wp2
    go_ret
    exact ⟨by rw [← H.out]; rfl, rfl⟩
  · have hkI : decide ((k : Int) < (fs.length : Int)) = false := decide_eq_false (by omega)
    have H : Hid (0#64 = fs.getD k 0#64) := Lib.hid (by rw [List.getD, List.getElem?_eq_none (by omega)]; rfl)
    go_enter Try.func66, Try.ntmps66
    go_wp2
    go_ret
    exact ⟨by rw [← H.out]; rfl, rfl⟩
theorem bitsHas_w {F : Fz} {w : World} (hF : Sat F w) (fs : List (BitVec 64)) (A : Option Addr) (n c : Nat) (hf : Rd F 1 A n (fs.map u)) (k : Nat) (hkb : (k : Int) ≤ 1000000) :
    Calls Try.prog 42 #[.slice A n c, .int .i64 k] w fun e w' => e = .returned (.bool (bitAt fs k)) ∧ w = w' := by
  have hA := bitsAt_w hF fs A n c hf (k / 64)
  have hq : ((k / 64 : Nat) : Int) = (k : Int) / 64 := by omega
  rw [hq] at hA
  have h0 : 0 ≤ (k : Int) % 64 := by omega
  have h64 : k % 64 < 64 := by omega
  have hm : ((k : Int) % 64).toNat = k % 64 := by omega
  have H : Hid (Value.bool (uz ((fs.getD (k / 64) 0#64) >>> (k % 64) &&& 1#64) == 1) = .bool (bitAt fs k)) := by
    show _ = _
    rw [test_bit]; rfl
  have HA := Lib.hid hA
  generalize fs.getD (k / 64) 0#64 = x at *
  clear hA hq
  go_enter Try.func42, Try.ntmps42
  go_wp2_with (go_at_call 66; refine HA.out.mono ?_; rintro e w1 ⟨rfl, rfl⟩)
  go_ret
  exact ⟨congrArg Ending.returned H.out, rfl⟩
end Go.Proofs.Ytkhhjihbahdepaa
