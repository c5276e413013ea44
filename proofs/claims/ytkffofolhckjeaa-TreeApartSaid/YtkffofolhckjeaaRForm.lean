/- The walks of the reference's Form, Reg, Plain, Same. -/
import Derived.Test.YtkffofolhckjeaaRMay
import Derived.Test.YtkffofolhckjeaaEq
set_option linter.unusedVariables false
set_option linter.unusedSimpArgs false
namespace Go.Proofs.Ytkffofolhckjeaa
open Go.RowKit

theorem root_kind {l : List Nd} {t : Tr} (h : treeS l = some t) : 1 ≤ t.root.kind := by
  have hl := tree_len h
  obtain ⟨hlt, hk⟩ := tree_last h
  rw [← hk]
  unfold treeS at h
  split at h
  · rename_i t' hp
    exact kind_pos (fold_fields hp _ (List.getElem_mem hlt))
  · cases h
theorem formS_root {k : Int} (h : 1 ≤ k) : formS k = !regS k := by
  unfold formS regS
  by_cases h1 : 18 ≤ k
  · simp [h1]; omega
  · simp [h1]; omega
theorem rform_w {F : Fz} {w : World} (hF : Sat F w) (l : List Nd) (hn : l.length ≤ 1000) (A : Option Addr) (n c : Nat) (hl : NodesF F A n l) (b : Bool) (hb : formL l = b) :
    Calls Try.prog 59 #[.slice A n c] w fun e w' => e = .returned (.bool b) ∧ Below w.heap.size w w' := by
  have HL := Lib.hid hl
  obtain ⟨rfl, hl2⟩ := hl
  cases ht : treeS l with
  | none =>
    have HS := Lib.hid (rmay_w hF l hn A _ c HL.out false (by unfold mayS; rw [ht]; rfl))
    have HB : Hid (b = false) := Lib.hid (by rw [← hb, formL, ht])
    clear hb ht hl2
    go_enter Try.func59, Try.ntmps59
    go_wp2_with (go_at_call 48; refine HS.out.mono ?_; rintro e w' ⟨rfl, hw⟩)
    go_ret
    exact ⟨by rw [HB.out] <;> rfl, hw⟩
  | some t =>
    have HS := Lib.hid (rmay_w hF l hn A _ c HL.out true (by unfold mayS; rw [ht]; rfl))
    obtain ⟨hlt, hk⟩ := tree_last ht
    obtain ⟨ad, rfl, hL⟩ := hl2 (by omega)
    obtain ⟨Ak, ck, _, _, hd⟩ := hL _ hlt
    have hsub : ((l.length : Int) - 1) = ((l.length - 1 : Nat) : Int) := by omega
    have hsubI : (l.length : Int) - 1 < (l.length : Int) := by omega
    have hsub0 : (0 : Int) ≤ (l.length : Int) - 1 := by omega
    have hN : ((l.length : Int) - 1).toNat = l.length - 1 := by omega
    have hd0 := hd.1
    rw [hk] at hd0
    have hR := Lib.hid (formKind_w t.root.kind)
    have HB : Hid (b = (id_ (formS t.root.kind))) := Lib.hid (by
      rw [← hb, formL, ht, formS_root (root_kind ht)]
      first | rfl | rw [Bool.not_not])
    generalize t.root.kind = kd at *
    clear hb ht hl2 hL hd hk
    go_enter Try.func59, Try.ntmps59
    go_wp2_with (first | (go_at_call 48; refine HS.out.mono ?_; rintro e w' ⟨rfl, hw⟩; have c0 := (hF.below hw).cell hd0) | (go_at_call 82; refine (hR.out _).mono ?_; rintro e w'' ⟨rfl, rfl⟩))
    go_ret
    exact ⟨by rw [HB.out] <;> rfl, hw⟩
theorem rreg_w {F : Fz} {w : World} (hF : Sat F w) (l : List Nd) (hn : l.length ≤ 1000) (A : Option Addr) (n c : Nat) (hl : NodesF F A n l) (b : Bool) (hb : regL l = b) :
    Calls Try.prog 60 #[.slice A n c] w fun e w' => e = .returned (.bool b) ∧ Below w.heap.size w w' := by
  have HL := Lib.hid hl
  obtain ⟨rfl, hl2⟩ := hl
  cases ht : treeS l with
  | none =>
    have HS := Lib.hid (rmay_w hF l hn A _ c HL.out false (by unfold mayS; rw [ht]; rfl))
    have HB : Hid (b = false) := Lib.hid (by rw [← hb, regL, ht])
    clear hb ht hl2
    go_enter Try.func60, Try.ntmps60
    go_wp2_with (go_at_call 48; refine HS.out.mono ?_; rintro e w' ⟨rfl, hw⟩)
    go_ret
    exact ⟨by rw [HB.out] <;> rfl, hw⟩
  | some t =>
    have HS := Lib.hid (rmay_w hF l hn A _ c HL.out true (by unfold mayS; rw [ht]; rfl))
    obtain ⟨hlt, hk⟩ := tree_last ht
    obtain ⟨ad, rfl, hL⟩ := hl2 (by omega)
    obtain ⟨Ak, ck, _, _, hd⟩ := hL _ hlt
    have hsub : ((l.length : Int) - 1) = ((l.length - 1 : Nat) : Int) := by omega
    have hsubI : (l.length : Int) - 1 < (l.length : Int) := by omega
    have hsub0 : (0 : Int) ≤ (l.length : Int) - 1 := by omega
    have hN : ((l.length : Int) - 1).toNat = l.length - 1 := by omega
    have hd0 := hd.1
    rw [hk] at hd0
    have hR := Lib.hid (formKind_w t.root.kind)
    have HB : Hid (b = (! (formS t.root.kind))) := Lib.hid (by
      rw [← hb, regL, ht, formS_root (root_kind ht)]
      first | rfl | rw [Bool.not_not])
    generalize t.root.kind = kd at *
    clear hb ht hl2 hL hd hk
    go_enter Try.func60, Try.ntmps60
    go_wp2_with (first | (go_at_call 48; refine HS.out.mono ?_; rintro e w' ⟨rfl, hw⟩; have c0 := (hF.below hw).cell hd0) | (go_at_call 82; refine (hR.out _).mono ?_; rintro e w'' ⟨rfl, rfl⟩))
    go_ret
    exact ⟨by rw [HB.out] <;> rfl, hw⟩
theorem rplain_w {F : Fz} {w : World} (hF : Sat F w) (l : List Nd) (hn : l.length ≤ 1000) (A : Option Addr) (n c : Nat) (hl : NodesF F A n l) (b : Bool) (hb : plainS l = b) :
    Calls Try.prog 61 #[.slice A n c] w fun e w' => e = .returned (.bool b) ∧ Below w.heap.size w w' := by
  have HL := Lib.hid hl
  have HM := Lib.hid (fun (W : World) (h : Sat F W) => rmay_w h l hn A n c HL.out _ rfl)
  obtain ⟨rfl, hl2⟩ := hl
  have HB := Lib.hid hb
  clear hb
  go_enter Try.func61, Try.ntmps61
  go_wp2_with fail
  go_loopw [4, 7] (fun _ i wr => ∃ k : Nat, k ≤ l.length ∧ i = .int .i64 k ∧ Hid ((l.take k).any (fun n => sugarS n.kind) = false) ∧ Below w.heap.size w wr) (fun _ i _ => l.length - (intOf i).toNat)
  case atStart => exact ⟨0, Nat.zero_le _, rfl, Lib.hid (by simp), Below.refl _ _⟩
  case round =>
    obtain ⟨k, hk, rfl, hr, hbl⟩ := hrel
    by_cases hlt : k < l.length
    · obtain ⟨ad, rfl, hL⟩ := hl2 (by omega)
      obtain ⟨Ak, ck, _, _, hd⟩ := hL k hlt
      obtain ⟨c0, c1, c2, c3, c4⟩ := hd.sat (hF.below hbl)
      have hltI : (k : Int) < (l.length : Int) := by omega
      have hany : (l.take (k + 1)).any (fun n => sugarS n.kind) = sugarS l[k].kind := by
        rw [List.take_succ_eq_append_getElem hlt, List.any_append, hr.out]
        simp
      have hbad : sugarS l[k].kind = true → b = false := fun h => by
        rw [← HB.out, plainS, List.any_eq_true.2 ⟨_, List.getElem_mem hlt, h⟩, Bool.and_comm]
        rfl
      generalize hnd : l[k] = nd at *
      have HND := Lib.hid hnd
      clear hnd hd
      by_cases h7 : nd.kind = 7
      · have e7 : (nd.kind == 7) = true := by rw [h7]; rfl
        have HR := Lib.hid (hbad (by unfold sugarS; simp [h7]))
        clear hbad hany h7
        go_wp2_with fail
        go_ret
        exact ⟨by rw [HR.out] <;> rfl, bthen hbl (balloc _ _)⟩
      · have e7 : (nd.kind == 7) = false := by rw [beq_eq_false_iff_ne]; exact h7
        by_cases h8 : 8 ≤ nd.kind
        · by_cases h15 : nd.kind ≤ 15
          · have HR := Lib.hid (hbad (by unfold sugarS; simp [h8, h15]))
            clear hbad hany h7
            go_wp2_with fail
            go_ret
            exact ⟨by rw [HR.out] <;> rfl, bthen hbl (balloc _ _)⟩
          · have HA : Hid ((l.take (k + 1)).any (fun n => sugarS n.kind) = false) := Lib.hid (hany.trans (by unfold sugarS; simp [h7, h8, h15]))
            have h15' : decide (nd.kind ≤ 15) = false := decide_eq_false h15
            clear hbad hany h7 h15
            go_wp2_with fail
            go_roundw
            case rel => exact ⟨k + 1, by omega, by go_num, HA, bthen hbl (balloc _ _)⟩
            case measure => simp [intOf]; omega
        · have HA : Hid ((l.take (k + 1)).any (fun n => sugarS n.kind) = false) := Lib.hid (hany.trans (by unfold sugarS; simp [h7, h8]))
          have h8' : decide (8 ≤ nd.kind) = false := decide_eq_false h8
          clear hbad hany h7 h8
          go_wp2_with fail
          go_roundw
          case rel => exact ⟨k + 1, by omega, by go_num, HA, bthen hbl (balloc _ _)⟩
          case measure => simp [intOf]; omega
    · have HA : Hid (b = mayS l) := Lib.hid (by
        have := hr.out
        rw [List.take_of_length_le (by omega)] at this
        rw [← HB.out, plainS, this, Bool.not_false, Bool.and_true])
      have hltI : decide ((k : Int) < (l.length : Int)) = false := decide_eq_false (by omega)
      go_wp2_with (go_at_call 48; refine (HM.out _ (hF.below hbl)).mono ?_; rintro e w' ⟨rfl, hw⟩)
      go_ret
      exact ⟨by rw [HA.out] <;> rfl, bthen hbl hw⟩
theorem rsame_w {F : Fz} {w : World} (hF : Sat F w) (xs ys : List Nd) (A B : Option Addr) (n n' c d : Nat) (hn : xs.length ≤ 1000) (hn' : ys.length ≤ 1000) (hx : NodesF F A n xs) (hy : NodesF F B n' ys) (r : Bool) (hr : r = true ↔ mayS xs = true ∧ xs = ys) :
    Calls Try.prog 47 #[.slice A n c, .slice B n' d] w fun e w' => e = .returned (.bool r) ∧ Below w.heap.size w w' := by
  cases h1 : mayS xs
  · have HM := Lib.hid (rmay_w hF xs hn A n c hx _ h1)
    have HR : Hid (r = false) := Lib.hid (by rw [Bool.eq_false_iff]; intro h; rw [h1] at hr; simp [h] at hr)
    clear hr h1
    go_enter Try.func47, Try.ntmps47
    go_wp2_with (go_at_call 48; refine HM.out.mono ?_; rintro e w' ⟨rfl, hw⟩)
    go_ret
    exact ⟨by rw [HR.out] <;> rfl, hw⟩
  · have HM := Lib.hid (rmay_w hF xs hn A n c hx _ h1)
    cases h2 : mayS ys
    · have HM2 := Lib.hid (fun (W : World) (h : Sat F W) => rmay_w h ys hn' B n' d hy _ h2)
      have HR : Hid (r = false) := Lib.hid (by rw [Bool.eq_false_iff]; intro h; have := hr.1 h; rw [← this.2, h1] at h2; cases h2)
      clear hr h1 h2
      go_enter Try.func47, Try.ntmps47
      go_wp2_with (first | (go_at_call 48; (with_reducible refine HM.out.mono ?_); rintro e w' ⟨rfl, hw⟩) | (go_at_call 48; refine (HM2.out _ (hF.below hw)).mono ?_; rintro e w' ⟨rfl, hw2⟩))
      go_ret
      exact ⟨by rw [HR.out] <;> rfl, bthen hw hw2⟩
    · have HM2 := Lib.hid (fun (W : World) (h : Sat F W) => rmay_w h ys hn' B n' d hy _ h2)
      have hk2 := kids_le_two (show (treeS xs).isSome = true from h1)
      have HS := Lib.hid (fun (W : World) (h : Sat F W) => sameNodes_w h xs ys A B n n' c d (by omega) hx hy (fun x hx => by have := hk2 x hx; omega) r (by rw [hr, h1]; simp))
      clear hr h1 h2 hk2
      go_enter Try.func47, Try.ntmps47
      go_wp2_with (first | (go_at_call 48; (with_reducible refine HM.out.mono ?_); rintro e w' ⟨rfl, hw⟩) | (go_at_call 48; refine (HM2.out _ (hF.below hw)).mono ?_; rintro e w' ⟨rfl, hw2⟩) | (go_at_call 43; refine (HS.out _ ((hF.below hw).below hw2)).mono ?_; rintro e w' ⟨rfl, hw3⟩))
      go_ret
      exact ⟨rfl, bthen hw (bthen hw2 hw3)⟩
end Go.Proofs.Ytkffofolhckjeaa
