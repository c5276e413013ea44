/- The walks of table's and the references' small functions. -/
import Derived.Test.YtkhhjihbahdepaaTabP
import Derived.Deep.QuietTactic
import Derived.BigQuiet
set_option linter.unusedVariables false
set_option linter.unusedSimpArgs false
namespace Go.Proofs.Ytkhhjihbahdepaa
open Go.RowKit
attribute [local go_sem ↓] bits_and bits_or not_bits arith_add arith_sub shift_l shift_r shift_lu shift_ru shift_int conv_uu shift_l1 shift_l1u bits_and1 arith_sub1
attribute [local go_sem] uz_toNat uz_nonneg

theorem bit_of_get {fs : List (BitVec 64)} {k : Nat} (h : k / 64 < fs.length) : bitAt fs k = fs[k / 64].getLsbD (k % 64) := by
  unfold bitAt
  simp [List.getD, h]

set_option maxRecDepth 10000 in
theorem has_any {F : Fz} {w : World} (hF : Sat F w) (fs : List (BitVec 64)) (A : Option Addr) (n c : Nat) (hf : Rd F 1 A n (fs.map u)) (k : Nat) (hkb : (k : Int) ≤ 1000000) :
    Calls Try.prog 34 #[.slice A n c, .int .i64 k] w fun e w' => e = .returned (.bool (bitAt fs k)) ∧ w = w' := by
  obtain rfl := rd_len hf
  by_cases hk : k / 64 < fs.length
  · have hkI : (k : Int) / 64 < (fs.length : Int) := by omega
    have hkd : decide ((k : Int) / 64 < (fs.length : Int)) = true := by simpa using hkI
    obtain ⟨ad, v, rfl, hv, hcell⟩ := hf.at1 hk
    have hc := hF.cell hcell
    have hb := bit_of_get hk
    rw [List.getElem?_map, List.getElem?_eq_getElem hk] at hv
    injection hv with hv
    subst hv
    have h64 : k % 64 < 64 := by omega
    have h0 : 0 ≤ (k : Int) % 64 := by omega
    have H : Hid (Value.bool (uz (fs[k / 64] >>> (k % 64) &&& 1#64) == 1) = .bool (bitAt fs k)) := by
      show _ = _
      rw [test_bit, hb]
    clear hb hcell
    go_enter Try.func34, Try.ntmps34
    go_wp2
    go_ret
    exact ⟨congrArg Ending.returned H.out, rfl⟩
  · have hkI : ¬ (k : Int) / 64 < (fs.length : Int) := by omega
    have hkd : decide ((k : Int) / 64 < (fs.length : Int)) = false := by simpa using hkI
    have H : Hid (Value.bool false = .bool (bitAt fs k)) := by
      show _ = _
      rw [bit_out _ _ (by omega)]
    go_enter Try.func34, Try.ntmps34
    go_wp2
    go_ret
    exact ⟨congrArg Ending.returned H.out, rfl⟩
/-! Word by word. -/
theorem take_same {α : Type} {xs ys : List α} {k : Nat} (h : xs.take k = ys.take k) (hx : k < xs.length) (hy : k < ys.length) (e : xs[k] = ys[k]) : xs.take (k + 1) = ys.take (k + 1) := by
  rw [List.take_succ_eq_append_getElem hx, List.take_succ_eq_append_getElem hy, h, e]
theorem take_ne {α : Type} {xs ys : List α} {k : Nat} (hx : k < xs.length) (hy : k < ys.length) (e : xs[k] ≠ ys[k]) : xs ≠ ys := by
  rintro rfl
  exact e rfl
theorem map_get {α : Type} {g : α → Value} {xs : List α} {k : Nat} {v : Value} (hk : k < xs.length) (hv : (xs.map g)[k]? = some v) : v = g xs[k] := by
  rw [List.getElem?_map, List.getElem?_eq_getElem hk] at hv
  injection hv with hv
  exact hv.symm
end Go.Proofs.Ytkhhjihbahdepaa
