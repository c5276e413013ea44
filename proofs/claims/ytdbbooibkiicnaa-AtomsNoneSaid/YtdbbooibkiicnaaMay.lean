/- The walks of tree.May, Form, Reg, Plain. -/
import Derived.Test.YtdbbooibkiicnaaSizes
set_option linter.unusedVariables false
set_option linter.unusedSimpArgs false
namespace Go.Proofs.Ytdbbooibkiicnaa
open Go.RowKit

def mayS (l : List Nd) : Bool := (treeS l).isSome
def formL (l : List Nd) : Bool := match treeS l with | some t => !regS t.root.kind | none => false
def regL (l : List Nd) : Bool := match treeS l with | some t => regS t.root.kind | none => false
def sugarS (k : Int) : Bool := decide (k = 7) || decide (8 ≤ k ∧ k ≤ 15)
def plainS (l : List Nd) : Bool := mayS l && !(l.any fun n => sugarS n.kind)
def id_ (b : Bool) : Bool := b
theorem tree_len {l : List Nd} {t : Tr} (h : treeS l = some t) : l.length = t.size := by
  rw [tree_flat h, Tr.length_flat]
theorem tree_last {l : List Nd} {t : Tr} (h : treeS l = some t) : ∃ h : l.length - 1 < l.length, l[l.length - 1].kind = t.root.kind := by
  have hl := tree_len h
  have hp := t.size_pos
  obtain ⟨k, hk⟩ := Tr.last_flat t 0
  rw [← tree_flat h, ← hl] at hk
  have hlt : l.length - 1 < l.length := by omega
  refine ⟨hlt, ?_⟩
  rw [List.getElem?_eq_getElem hlt] at hk
  injection hk with hk
  rw [hk]
theorem may_w {F : Fz} {w : World} (hF : Sat F w) (l : List Nd) (hn : l.length ≤ 1000) (A : Option Addr) (n c : Nat) (hl : NodesF F A n l) (b : Bool) (hb : mayS l = b) :
    Calls Try.prog 60 #[.slice A n c] w fun e w' => e = .returned (.bool b) ∧ Below w.heap.size w w' := by
  have HS := Lib.hid (sizes_w hF l hn A n c hl)
  have HB := Lib.hid hb
  clear hb
  go_enter Try.func60, Try.ntmps60
  go_wp2_with (go_at_call 44; refine HS.out.mono ?_; rintro e w' ⟨hw, (⟨ht, rfl⟩ | ⟨t, g, cap, ht, rfl, hB⟩)⟩)
  · go_ret
    exact ⟨by rw [← HB.out, mayS, ht] <;> rfl, hw⟩
  · go_ret
    exact ⟨by rw [← HB.out, mayS, ht] <;> rfl, hw⟩
theorem form_w {F : Fz} {w : World} (hF : Sat F w) (l : List Nd) (hn : l.length ≤ 1000) (A : Option Addr) (n c : Nat) (hl : NodesF F A n l) (b : Bool) (hb : formL l = b) :
    Calls Try.prog 51 #[.slice A n c] w fun e w' => e = .returned (.bool b) ∧ Below w.heap.size w w' := by
  have HL := Lib.hid hl
  obtain ⟨rfl, hl2⟩ := hl
  cases ht : treeS l with
  | none =>
    have HS := Lib.hid (may_w hF l hn A _ c HL.out false (by unfold mayS; rw [ht]; rfl))
    have HB : Hid (b = false) := Lib.hid (by rw [← hb, formL, ht])
    clear hb ht hl2
    go_enter Try.func51, Try.ntmps51
    go_wp2_with (go_at_call 60; refine HS.out.mono ?_; rintro e w' ⟨rfl, hw⟩)
    go_ret
    exact ⟨by rw [HB.out] <;> rfl, hw⟩
  | some t =>
    have HS := Lib.hid (may_w hF l hn A _ c HL.out true (by unfold mayS; rw [ht]; rfl))
    obtain ⟨hlt, hk⟩ := tree_last ht
    obtain ⟨ad, rfl, hL⟩ := hl2 (by omega)
    obtain ⟨Ak, ck, _, _, hd⟩ := hL _ hlt
    have hsub : ((l.length : Int) - 1) = ((l.length - 1 : Nat) : Int) := by omega
    have hsubI : (l.length : Int) - 1 < (l.length : Int) := by omega
    have hsub0 : (0 : Int) ≤ (l.length : Int) - 1 := by omega
    have hN : ((l.length : Int) - 1).toNat = l.length - 1 := by omega
    have hd0 := hd.1
    rw [hk] at hd0
    have hR := Lib.hid (reg_w t.root.kind)
    have HB : Hid (b = (! (regS t.root.kind))) := Lib.hid (by rw [← hb, formL, ht] <;> rfl)
    generalize t.root.kind = kd at *
    clear hb ht hl2 hL hd hk
    go_enter Try.func51, Try.ntmps51
    go_wp2_with (first | (go_at_call 60; refine HS.out.mono ?_; rintro e w' ⟨rfl, hw⟩; have c0 := (hF.below hw).cell hd0) | (go_at_call 61; refine (hR.out _).mono ?_; rintro e w'' ⟨rfl, rfl⟩))
    go_ret
    exact ⟨by rw [HB.out] <;> rfl, hw⟩
theorem treg_w {F : Fz} {w : World} (hF : Sat F w) (l : List Nd) (hn : l.length ≤ 1000) (A : Option Addr) (n c : Nat) (hl : NodesF F A n l) (b : Bool) (hb : regL l = b) :
    Calls Try.prog 30 #[.slice A n c] w fun e w' => e = .returned (.bool b) ∧ Below w.heap.size w w' := by
  have HL := Lib.hid hl
  obtain ⟨rfl, hl2⟩ := hl
  cases ht : treeS l with
  | none =>
    have HS := Lib.hid (may_w hF l hn A _ c HL.out false (by unfold mayS; rw [ht]; rfl))
    have HB : Hid (b = false) := Lib.hid (by rw [← hb, regL, ht])
    clear hb ht hl2
    go_enter Try.func30, Try.ntmps30
    go_wp2_with (go_at_call 60; refine HS.out.mono ?_; rintro e w' ⟨rfl, hw⟩)
    go_ret
    exact ⟨by rw [HB.out] <;> rfl, hw⟩
  | some t =>
    have HS := Lib.hid (may_w hF l hn A _ c HL.out true (by unfold mayS; rw [ht]; rfl))
    obtain ⟨hlt, hk⟩ := tree_last ht
    obtain ⟨ad, rfl, hL⟩ := hl2 (by omega)
    obtain ⟨Ak, ck, _, _, hd⟩ := hL _ hlt
    have hsub : ((l.length : Int) - 1) = ((l.length - 1 : Nat) : Int) := by omega
    have hsubI : (l.length : Int) - 1 < (l.length : Int) := by omega
    have hsub0 : (0 : Int) ≤ (l.length : Int) - 1 := by omega
    have hN : ((l.length : Int) - 1).toNat = l.length - 1 := by omega
    have hd0 := hd.1
    rw [hk] at hd0
    have hR := Lib.hid (reg_w t.root.kind)
    have HB : Hid (b = (id_ (regS t.root.kind))) := Lib.hid (by rw [← hb, regL, ht] <;> rfl)
    generalize t.root.kind = kd at *
    clear hb ht hl2 hL hd hk
    go_enter Try.func30, Try.ntmps30
    go_wp2_with (first | (go_at_call 60; refine HS.out.mono ?_; rintro e w' ⟨rfl, hw⟩; have c0 := (hF.below hw).cell hd0) | (go_at_call 61; refine (hR.out _).mono ?_; rintro e w'' ⟨rfl, rfl⟩))
    go_ret
    exact ⟨by rw [HB.out] <;> rfl, hw⟩
theorem sugar_w (n : Nd) (A : Option Addr) (c : Nat) (w : World) :
    Calls Try.prog 111 #[.agg #[.int .i64 n.kind, .string n.name, .int .i64 n.lo, .int .i64 n.hi, .slice A n.kids.length c]] w fun e w' => e = .returned (.bool (sugarS n.kind)) ∧ Below w.heap.size w w' := by
  obtain ⟨kind, name, lo, hi, kids⟩ := n
  dsimp only
  by_cases h7 : kind = 7
  · have e7 : (kind == 7) = true := by rw [h7]; rfl
    have H : Hid (sugarS kind = true) := Lib.hid (by unfold sugarS; simp [h7])
    clear h7
    go_enter Try.func111, Try.ntmps111
    go_wp2_with fail
    go_ret
    exact ⟨by rw [H.out] <;> rfl, balloc _ _⟩
  · have e7 : (kind == 7) = false := by rw [beq_eq_false_iff_ne]; exact h7
    by_cases h8 : 8 ≤ kind
    · have H : Hid (sugarS kind = decide (kind ≤ 15)) := Lib.hid (by unfold sugarS; simp [h7, h8])
      clear h7
      go_enter Try.func111, Try.ntmps111
      go_wp2_with fail
      go_ret
      exact ⟨by rw [H.out] <;> rfl, balloc _ _⟩
    · have H : Hid (sugarS kind = false) := Lib.hid (by unfold sugarS; simp [h7, h8])
      have h8' : decide (8 ≤ kind) = false := decide_eq_false h8
      clear h7 h8
      go_enter Try.func111, Try.ntmps111
      go_wp2_with fail
      go_ret
      exact ⟨by rw [H.out] <;> rfl, balloc _ _⟩
theorem indexFunc_w {F : Fz} {w : World} (hF : Sat F w) (l : List Nd) (hn : l.length ≤ 1000) (A : Option Addr) (n c : Nat) (hl : NodesF F A n l) :
    Calls Try.prog 124 #[.slice A n c, .func (.func 111) #[] #[]] w fun e w' => (∃ i : Int, e = .returned (.int .i64 i) ∧ decide (0 ≤ i) = l.any fun n => sugarS n.kind) ∧ Below w.heap.size w w' := by
  obtain ⟨rfl, hl⟩ := hl
  go_enter Try.func124, Try.ntmps124
  go_wp2_with fail
  go_loopw [5, 8] (fun _ i wr => ∃ k : Nat, k ≤ l.length ∧ i = .int .i64 k ∧ Hid ((l.take k).any (fun n => sugarS n.kind) = false) ∧ Below w.heap.size w wr) (fun _ i _ => l.length - (intOf i).toNat)
  case atStart => exact ⟨0, Nat.zero_le _, rfl, Lib.hid (by simp), Below.refl _ _⟩
  case round =>
    obtain ⟨k, hk, rfl, hr, hb⟩ := hrel
    by_cases hlt : k < l.length
    · obtain ⟨ad, rfl, hL⟩ := hl (by omega)
      obtain ⟨Ak, ck, _, _, hd⟩ := hL k hlt
      obtain ⟨c0, c1, c2, c3, c4⟩ := hd.sat (hF.below hb)
      have hltI : (k : Int) < (l.length : Int) := by omega
      have hS := sugar_w l[k] Ak ck
      have hany : (l.take (k + 1)).any (fun n => sugarS n.kind) = sugarS l[k].kind := by
        rw [List.take_succ_eq_append_getElem hlt, List.any_append, hr.out]
        simp
      cases hs : sugarS l[k].kind
      · rw [hs] at hS hany
        have HA := Lib.hid hany
        have HS := Lib.hid hS
        clear hS hany hs hd
        go_wp2_with (go_at_call 111; refine (HS.out _).mono ?_; rintro e w1 ⟨rfl, hw1⟩)
        go_roundw
        case rel => exact ⟨k + 1, by omega, by go_num, HA, bthen hb hw1⟩
        case measure => simp [intOf]; omega
      · rw [hs] at hS
        have HA : Hid (l.any (fun n => sugarS n.kind) = true) := Lib.hid (List.any_eq_true.2 ⟨_, List.getElem_mem hlt, hs⟩)
        have HS := Lib.hid hS
        clear hS hany hs hd
        go_wp2_with (go_at_call 111; refine (HS.out _).mono ?_; rintro e w1 ⟨rfl, hw1⟩)
        go_ret
        exact ⟨⟨(k : Int), rfl, by rw [HA.out]; simp⟩, bthen hb hw1⟩
    · have HA : Hid (l.any (fun n => sugarS n.kind) = false) := Lib.hid (by have := hr.out; rwa [List.take_of_length_le (by omega)] at this)
      have hltI : decide ((k : Int) < (l.length : Int)) = false := decide_eq_false (by omega)
      go_wp2_with fail
      go_ret
      exact ⟨⟨-1, rfl, by rw [HA.out] <;> rfl⟩, hb⟩
theorem containsFunc_w {F : Fz} {w : World} (hF : Sat F w) (l : List Nd) (hn : l.length ≤ 1000) (A : Option Addr) (n c : Nat) (hl : NodesF F A n l) :
    Calls Try.prog 110 #[.slice A n c, .func (.func 111) #[] #[]] w fun e w' => e = .returned (.bool (l.any fun n => sugarS n.kind)) ∧ Below w.heap.size w w' := by
  have HI := Lib.hid (indexFunc_w hF l hn A n c hl)
  go_enter Try.func110, Try.ntmps110
  go_wp2_with (go_at_call 124; refine HI.out.mono ?_; rintro e w' ⟨⟨i, rfl, hi⟩, hw⟩)
  go_ret
  exact ⟨by rw [← hi] <;> rfl, hw⟩
theorem plain_w {F : Fz} {w : World} (hF : Sat F w) (l : List Nd) (hn : l.length ≤ 1000) (A : Option Addr) (n c : Nat) (hl : NodesF F A n l) (b : Bool) (hb : plainS l = b) :
    Calls Try.prog 72 #[.slice A n c] w fun e w' => e = .returned (.bool b) ∧ Below w.heap.size w w' := by
  cases hm : mayS l
  · have HM := Lib.hid (may_w hF l hn A n c hl _ hm)
    have HB : Hid (b = false) := Lib.hid (by rw [← hb, plainS, hm]; rfl)
    clear hb hm
    go_enter Try.func72, Try.ntmps72
    go_wp2_with (go_at_call 60; refine HM.out.mono ?_; rintro e w' ⟨rfl, hw⟩)
    go_ret
    exact ⟨by rw [HB.out] <;> rfl, hw⟩
  · have HM := Lib.hid (may_w hF l hn A n c hl _ hm)
    have HB : Hid (b = !(l.any fun n => sugarS n.kind)) := Lib.hid (by rw [← hb, plainS, hm]; rfl)
    have HC := Lib.hid (fun (w' : World) (h : Sat F w') => containsFunc_w h l hn A n c hl)
    clear hb hm
    go_enter Try.func72, Try.ntmps72
    go_wp2_with (first | (go_at_call 60; refine HM.out.mono ?_; rintro e w' ⟨rfl, hw⟩) | (go_at_call 110; refine (HC.out _ (hF.below hw)).mono ?_; rintro e w'' ⟨rfl, hw2⟩))
    go_ret
    exact ⟨by rw [HB.out] <;> rfl, bthen hw hw2⟩
end Go.Proofs.Ytdbbooibkiicnaa
