/- The walks of the reference's Form, Reg, Plain, Same. -/
import Derived.Test.YtkhhjihbahdepaaRMay
import Derived.Test.YtkhhjihbahdepaaEq
set_option linter.unusedVariables false
set_option linter.unusedSimpArgs false
namespace Go.Proofs.Ytkhhjihbahdepaa
open Go.RowKit

theorem root_kind {l : List Nd} {t : Tr} (h : treeS l = some t) : 1 ≤ t.root.kind := by
  have hl := tree_len h
  obtain ⟨hlt, hk⟩ := tree_last h
  rw [← hk]
  unfold treeS at h
  split at h
  · rename_i t' hp
    exact kind_pos (fold_fields hp _ (List.getElem_mem hlt))
  · cases h
theorem formS_root {k : Int} (h : 1 ≤ k) : formS k = !regS k := by
  unfold formS regS
  by_cases h1 : 18 ≤ k
  · simp [h1]; omega
  · simp [h1]; omega
theorem rreg_w {F : Fz} {w : World} (hF : Sat F w) (l : List Nd) (hn : l.length ≤ 1000) (A : Option Addr) (n c : Nat) (hl : NodesF F A n l) (b : Bool) (hb : regL l = b) :
    Calls Try.prog 47 #[.slice A n c] w fun e w' => e = .returned (.bool b) ∧ Below w.heap.size w w' := by
  have HL := Lib.hid hl
  obtain ⟨rfl, hl2⟩ := hl
  cases ht : treeS l with
  | none =>
    have HS := Lib.hid (rmay_w hF l hn A _ c HL.out false (by unfold mayS; rw [ht]; rfl))
    have HB : Hid (b = false) := Lib.hid (by rw [← hb, regL, ht])
    clear hb ht hl2
    go_enter Try.func47, Try.ntmps47
    go_wp2_with (go_at_call 68; refine HS.out.mono ?_; rintro e w' ⟨rfl, hw⟩)
    go_ret
    exact ⟨by rw [HB.out] <;> rfl, hw⟩
  | some t =>
    have HS := Lib.hid (rmay_w hF l hn A _ c HL.out true (by unfold mayS; rw [ht]; rfl))
    obtain ⟨hlt, hk⟩ := tree_last ht
    obtain ⟨ad, rfl, hL⟩ := hl2 (by omega)
    obtain ⟨Ak, ck, _, _, hd⟩ := hL _ hlt
    have hsub : ((l.length : Int) - 1) = ((l.length - 1 : Nat) : Int) := by omega
    have hsubI : (l.length : Int) - 1 < (l.length : Int) := by omega
    have hsub0 : (0 : Int) ≤ (l.length : Int) - 1 := by omega
    have hN : ((l.length : Int) - 1).toNat = l.length - 1 := by omega
    have hd0 := hd.1
    rw [hk] at hd0
    have hR := Lib.hid (formKind_w t.root.kind)
    have HB : Hid (b = (! (formS t.root.kind))) := Lib.hid (by
      rw [← hb, regL, ht, formS_root (root_kind ht)]
      first | rfl | rw [Bool.not_not])
    generalize t.root.kind = kd at *
    clear hb ht hl2 hL hd hk
    go_enter Try.func47, Try.ntmps47
    go_wp2_with (first | (go_at_call 68; refine HS.out.mono ?_; rintro e w' ⟨rfl, hw⟩; have c0 := (hF.below hw).cell hd0) | (go_at_call 69; refine (hR.out _).mono ?_; rintro e w'' ⟨rfl, rfl⟩))
    go_ret
    exact ⟨by rw [HB.out] <;> rfl, hw⟩
end Go.Proofs.Ytkhhjihbahdepaa
