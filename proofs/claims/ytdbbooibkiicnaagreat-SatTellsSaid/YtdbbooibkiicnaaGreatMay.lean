/- The walks of tree.May, Form, Reg, Plain. -/
import Derived.Test.YtdbbooibkiicnaaGreatSizes
set_option linter.unusedVariables false
set_option linter.unusedSimpArgs false
namespace Go.Proofs.YtdbbooibkiicnaaGreat
open Go.RowKit

def mayS (l : List Nd) : Bool := (treeS l).isSome
def formL (l : List Nd) : Bool := match treeS l with | some t => !regS t.root.kind | none => false
def regL (l : List Nd) : Bool := match treeS l with | some t => regS t.root.kind | none => false
def id_ (b : Bool) : Bool := b
theorem tree_len {l : List Nd} {t : Tr} (h : treeS l = some t) : l.length = t.size := by
  rw [tree_flat h, Tr.length_flat]
theorem tree_last {l : List Nd} {t : Tr} (h : treeS l = some t) : ∃ h : l.length - 1 < l.length, l[l.length - 1].kind = t.root.kind := by
  have hl := tree_len h
  have hp := t.size_pos
  obtain ⟨k, hk⟩ := Tr.last_flat t 0
  rw [← tree_flat h, ← hl] at hk
  have hlt : l.length - 1 < l.length := by omega
  refine ⟨hlt, ?_⟩
  rw [List.getElem?_eq_getElem hlt] at hk
  injection hk with hk
  rw [hk]
theorem may_w {F : Fz} {w : World} (hF : Sat F w) (l : List Nd) (hn : l.length ≤ 1000) (A : Option Addr) (n c : Nat) (hl : NodesF F A n l) (b : Bool) (hb : mayS l = b) :
    Calls Tryz.prog 78 #[.slice A n c] w fun e w' => e = .returned (.bool b) ∧ Below w.heap.size w w' := by
  have HS := Lib.hid (sizes_w hF l hn A n c hl)
  have HB := Lib.hid hb
  clear hb
  go_enter Tryz.func78, Tryz.ntmps78
  go_wp2_with (go_at_call 101; refine HS.out.mono ?_; rintro e w' ⟨hw, (⟨ht, rfl⟩ | ⟨t, g, cap, ht, rfl, hB⟩)⟩)
  · go_ret
    exact ⟨by rw [← HB.out, mayS, ht] <;> rfl, hw⟩
  · go_ret
    exact ⟨by rw [← HB.out, mayS, ht] <;> rfl, hw⟩
theorem form_w {F : Fz} {w : World} (hF : Sat F w) (l : List Nd) (hn : l.length ≤ 1000) (A : Option Addr) (n c : Nat) (hl : NodesF F A n l) (b : Bool) (hb : formL l = b) :
    Calls Tryz.prog 46 #[.slice A n c] w fun e w' => e = .returned (.bool b) ∧ Below w.heap.size w w' := by
  have HL := Lib.hid hl
  obtain ⟨rfl, hl2⟩ := hl
  cases ht : treeS l with
  | none =>
    have HS := Lib.hid (may_w hF l hn A _ c HL.out false (by unfold mayS; rw [ht]; rfl))
    have HB : Hid (b = false) := Lib.hid (by rw [← hb, formL, ht])
    clear hb ht hl2
    go_enter Tryz.func46, Tryz.ntmps46
    go_wp2_with (go_at_call 78; refine HS.out.mono ?_; rintro e w' ⟨rfl, hw⟩)
    go_ret
    exact ⟨by rw [HB.out] <;> rfl, hw⟩
  | some t =>
    have HS := Lib.hid (may_w hF l hn A _ c HL.out true (by unfold mayS; rw [ht]; rfl))
    obtain ⟨hlt, hk⟩ := tree_last ht
    obtain ⟨ad, rfl, hL⟩ := hl2 (by omega)
    obtain ⟨Ak, ck, _, _, hd⟩ := hL _ hlt
    have hsub : ((l.length : Int) - 1) = ((l.length - 1 : Nat) : Int) := by omega
    have hsubI : (l.length : Int) - 1 < (l.length : Int) := by omega
    have hsub0 : (0 : Int) ≤ (l.length : Int) - 1 := by omega
    have hN : ((l.length : Int) - 1).toNat = l.length - 1 := by omega
    have hd0 := hd.1
    rw [hk] at hd0
    have hR := Lib.hid (reg_w t.root.kind)
    have HB : Hid (b = (! (regS t.root.kind))) := Lib.hid (by rw [← hb, formL, ht] <;> rfl)
    generalize t.root.kind = kd at *
    clear hb ht hl2 hL hd hk
    go_enter Tryz.func46, Tryz.ntmps46
    go_wp2_with (first | (go_at_call 78; refine HS.out.mono ?_; rintro e w' ⟨rfl, hw⟩; have c0 := (hF.below hw).cell hd0) | (go_at_call 79; refine (hR.out _).mono ?_; rintro e w'' ⟨rfl, rfl⟩))
    go_ret
    exact ⟨by rw [HB.out] <;> rfl, hw⟩
theorem treg_w {F : Fz} {w : World} (hF : Sat F w) (l : List Nd) (hn : l.length ≤ 1000) (A : Option Addr) (n c : Nat) (hl : NodesF F A n l) (b : Bool) (hb : regL l = b) :
    Calls Tryz.prog 64 #[.slice A n c] w fun e w' => e = .returned (.bool b) ∧ Below w.heap.size w w' := by
  have HL := Lib.hid hl
  obtain ⟨rfl, hl2⟩ := hl
  cases ht : treeS l with
  | none =>
    have HS := Lib.hid (may_w hF l hn A _ c HL.out false (by unfold mayS; rw [ht]; rfl))
    have HB : Hid (b = false) := Lib.hid (by rw [← hb, regL, ht])
    clear hb ht hl2
    go_enter Tryz.func64, Tryz.ntmps64
    go_wp2_with (go_at_call 78; refine HS.out.mono ?_; rintro e w' ⟨rfl, hw⟩)
    go_ret
    exact ⟨by rw [HB.out] <;> rfl, hw⟩
  | some t =>
    have HS := Lib.hid (may_w hF l hn A _ c HL.out true (by unfold mayS; rw [ht]; rfl))
    obtain ⟨hlt, hk⟩ := tree_last ht
    obtain ⟨ad, rfl, hL⟩ := hl2 (by omega)
    obtain ⟨Ak, ck, _, _, hd⟩ := hL _ hlt
    have hsub : ((l.length : Int) - 1) = ((l.length - 1 : Nat) : Int) := by omega
    have hsubI : (l.length : Int) - 1 < (l.length : Int) := by omega
    have hsub0 : (0 : Int) ≤ (l.length : Int) - 1 := by omega
    have hN : ((l.length : Int) - 1).toNat = l.length - 1 := by omega
    have hd0 := hd.1
    rw [hk] at hd0
    have hR := Lib.hid (reg_w t.root.kind)
    have HB : Hid (b = (id_ (regS t.root.kind))) := Lib.hid (by rw [← hb, regL, ht] <;> rfl)
    generalize t.root.kind = kd at *
    clear hb ht hl2 hL hd hk
    go_enter Tryz.func64, Tryz.ntmps64
    go_wp2_with (first | (go_at_call 78; refine HS.out.mono ?_; rintro e w' ⟨rfl, hw⟩; have c0 := (hF.below hw).cell hd0) | (go_at_call 79; refine (hR.out _).mono ?_; rintro e w'' ⟨rfl, rfl⟩))
    go_ret
    exact ⟨by rw [HB.out] <;> rfl, hw⟩
end Go.Proofs.YtdbbooibkiicnaaGreat
