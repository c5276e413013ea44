/- The walk of the reference's Start. -/
import Derived.Test.YtkffofolhckjeaaPart
namespace Go.Proofs.Ytkffofolhckjeaa
open Go.RowKit
theorem get_kids {l : List Nd} {t : Tr} (h : treeS l = some t) (j : Nat) (hj : j < l.length) : l[j].kids = (t.sub j).rootKids (j + 1 - (t.sub j).size) := by
  have h1 := Tr.get_flat t j 0 (by rw [← tree_len h]; exact hj)
  rw [← tree_flat h, List.getElem?_eq_getElem hj] at h1
  injection h1 with h1
  rw [h1, Nat.zero_add]
theorem start_w {F : Fz} {w : World} (hF : Sat F w) (l : List Nd) (hn : l.length ≤ 1000) (A : Option Addr) (n c : Nat) (hl : NodesF F A n l) {t : Tr} (ht : treeS l = some t) (i : Nat) (hi : i < l.length) :
    Calls Try.prog 84 #[.slice A n c, .int .i64 i] w fun e w' => e = .returned (.int .i64 ((i + 1 - (t.sub i).size : Nat) : Int)) ∧ w = w' := by
  obtain ⟨rfl, hl2⟩ := hl
  obtain ⟨ad, rfl, hL⟩ := hl2 (by omega)
  have HT := Lib.hid ht
  clear ht
  go_enter Try.func84, Try.ntmps84
  go_wp2_with fail
  go_loop [1] (fun v => ∃ j : Nat, j < l.length ∧ v = .int .i64 j ∧ Hid (j + 1 - (t.sub j).size = i + 1 - (t.sub i).size)) (fun v => (intOf v).toNat)
  case atStart => exact ⟨i, hi, rfl, Lib.hid rfl⟩
  case round =>
    obtain ⟨j, hj, rfl, hs⟩ := hrel
    obtain ⟨Ak, ck, hck, hK, hd⟩ := hL j hj
    obtain ⟨c0, c1, c2, c3, c4⟩ := hd.sat hF
    have hjI : (j : Int) < (l.length : Int) := by omega
    have hk := get_kids HT.out j hj
    have hjt : j < t.size := by rw [← tree_len HT.out]; exact hj
    rcases Tr.first_kid t j hjt with ⟨h1, h2⟩ | ⟨k, r, h1, h2, h3⟩
    · rw [h1] at hk
      rw [hk] at c4
      have HR : Hid (j = i + 1 - (t.sub i).size) := Lib.hid (by have := hs.out; omega)
      clear h1 h2 hs hk
      go_wp2_with fail
      go_ret
      exact ⟨by rw [← HR.out] <;> rfl, rfl⟩
    · rw [h1] at hk
      rw [hk] at c4 hK
      obtain ⟨Akd, v, rfl, hv, hcell⟩ := hK.at1 (k := 0) (by simp)
      obtain rfl : Value.int .i64 (k : Int) = v := by simpa using hv
      have hcz := hF.cell hcell
      rw [show Akd.add 0 = Akd by unfold Addr.add; simp] at hcz
      have HR : Hid (k + 1 - (t.sub k).size = i + 1 - (t.sub i).size) := Lib.hid (h3.trans hs.out)
      have hpos : (0 : Int) < (r.length : Int) + 1 := by omega
      clear h1 h3 hs hk hv hcell
      go_wp2_with fail
      go_round
      case rel => exact ⟨k, by omega, rfl, HR⟩
      case measure => simp [intOf]; omega
end Go.Proofs.Ytkffofolhckjeaa
