/- The walks of the reference's Form, Reg, Plain, Same. -/
import Derived.Test.YtdbbooibkiicnaaGreatRPart
import Derived.Test.YtdbbooibkiicnaaGreatEq
import Derived.Test.YtdbbooibkiicnaaGreatOwn
import Derived.Test.YtdbbooibkiicnaaGreatPart
set_option linter.unusedVariables false
set_option linter.unusedSimpArgs false
/-! The walks of the reference's Form, Reg, Plain, Same. -/
namespace Go.Proofs.YtdbbooibkiicnaaGreat
open Go.RowKit

theorem root_kind {l : List Nd} {t : Tr} (h : treeS l = some t) : 1 ≤ t.root.kind := by
  have hl := tree_len h
  obtain ⟨hlt, hk⟩ := tree_last h
  rw [← hk]
  unfold treeS at h
  split at h
  · rename_i t' hp
    exact kind_pos (fold_fields hp _ (List.getElem_mem hlt))
  · cases h
theorem formS_root {k : Int} (h : 1 ≤ k) : formS k = !regS k := by
  unfold formS regS
  by_cases h1 : 18 ≤ k
  · simp [h1]; omega
  · simp [h1]; omega
theorem rform_w {F : Fz} {w : World} (hF : Sat F w) (l : List Nd) (hn : l.length ≤ 1000) (A : Option Addr) (n c : Nat) (hl : NodesF F A n l) (b : Bool) (hb : formL l = b) :
    Calls Tryz.prog 43 #[.slice A n c] w fun e w' => e = .returned (.bool b) ∧ Below w.heap.size w w' := by
  have HL := Lib.hid hl
  obtain ⟨rfl, hl2⟩ := hl
  cases ht : treeS l with
  | none =>
    have HS := Lib.hid (rmay_w hF l hn A _ c HL.out false (by unfold mayS; rw [ht]; rfl))
    have HB : Hid (b = false) := Lib.hid (by rw [← hb, formL, ht])
    clear hb ht hl2
    go_enter Tryz.func43, Tryz.ntmps43
    go_wp2_with (go_at_call 58; refine HS.out.mono ?_; rintro e w' ⟨rfl, hw⟩)
    go_ret
    exact ⟨by rw [HB.out] <;> rfl, hw⟩
  | some t =>
    have HS := Lib.hid (rmay_w hF l hn A _ c HL.out true (by unfold mayS; rw [ht]; rfl))
    obtain ⟨hlt, hk⟩ := tree_last ht
    obtain ⟨ad, rfl, hL⟩ := hl2 (by omega)
    obtain ⟨Ak, ck, _, _, hd⟩ := hL _ hlt
    have hsub : ((l.length : Int) - 1) = ((l.length - 1 : Nat) : Int) := by omega
    have hsubI : (l.length : Int) - 1 < (l.length : Int) := by omega
    have hsub0 : (0 : Int) ≤ (l.length : Int) - 1 := by omega
    have hN : ((l.length : Int) - 1).toNat = l.length - 1 := by omega
    have hd0 := hd.1
    rw [hk] at hd0
    have hR := Lib.hid (formKind_w t.root.kind)
    have HB : Hid (b = (id_ (formS t.root.kind))) := Lib.hid (by
      rw [← hb, formL, ht, formS_root (root_kind ht)]
      first | rfl | rw [Bool.not_not])
    generalize t.root.kind = kd at *
    clear hb ht hl2 hL hd hk
    go_enter Tryz.func43, Tryz.ntmps43
    go_wp2_with (first | (go_at_call 58; refine HS.out.mono ?_; rintro e w' ⟨rfl, hw⟩; have c0 := (hF.below hw).cell hd0) | (go_at_call 74; refine (hR.out _).mono ?_; rintro e w'' ⟨rfl, rfl⟩))
    go_ret
    exact ⟨by rw [HB.out] <;> rfl, hw⟩
theorem rreg_w {F : Fz} {w : World} (hF : Sat F w) (l : List Nd) (hn : l.length ≤ 1000) (A : Option Addr) (n c : Nat) (hl : NodesF F A n l) (b : Bool) (hb : regL l = b) :
    Calls Tryz.prog 61 #[.slice A n c] w fun e w' => e = .returned (.bool b) ∧ Below w.heap.size w w' := by
  have HL := Lib.hid hl
  obtain ⟨rfl, hl2⟩ := hl
  cases ht : treeS l with
  | none =>
    have HS := Lib.hid (rmay_w hF l hn A _ c HL.out false (by unfold mayS; rw [ht]; rfl))
    have HB : Hid (b = false) := Lib.hid (by rw [← hb, regL, ht])
    clear hb ht hl2
    go_enter Tryz.func61, Tryz.ntmps61
    go_wp2_with (go_at_call 58; refine HS.out.mono ?_; rintro e w' ⟨rfl, hw⟩)
    go_ret
    exact ⟨by rw [HB.out] <;> rfl, hw⟩
  | some t =>
    have HS := Lib.hid (rmay_w hF l hn A _ c HL.out true (by unfold mayS; rw [ht]; rfl))
    obtain ⟨hlt, hk⟩ := tree_last ht
    obtain ⟨ad, rfl, hL⟩ := hl2 (by omega)
    obtain ⟨Ak, ck, _, _, hd⟩ := hL _ hlt
    have hsub : ((l.length : Int) - 1) = ((l.length - 1 : Nat) : Int) := by omega
    have hsubI : (l.length : Int) - 1 < (l.length : Int) := by omega
    have hsub0 : (0 : Int) ≤ (l.length : Int) - 1 := by omega
    have hN : ((l.length : Int) - 1).toNat = l.length - 1 := by omega
    have hd0 := hd.1
    rw [hk] at hd0
    have hR := Lib.hid (formKind_w t.root.kind)
    have HB : Hid (b = (! (formS t.root.kind))) := Lib.hid (by
      rw [← hb, regL, ht, formS_root (root_kind ht)]
      first | rfl | rw [Bool.not_not])
    generalize t.root.kind = kd at *
    clear hb ht hl2 hL hd hk
    go_enter Tryz.func61, Tryz.ntmps61
    go_wp2_with (first | (go_at_call 58; refine HS.out.mono ?_; rintro e w' ⟨rfl, hw⟩; have c0 := (hF.below hw).cell hd0) | (go_at_call 74; refine (hR.out _).mono ?_; rintro e w'' ⟨rfl, rfl⟩))
    go_ret
    exact ⟨by rw [HB.out] <;> rfl, hw⟩
theorem rplain_w {F : Fz} {w : World} (hF : Sat F w) (l : List Nd) (hn : l.length ≤ 1000) (A : Option Addr) (n c : Nat) (hl : NodesF F A n l) (b : Bool) (hb : plainS l = b) :
    Calls Tryz.prog 57 #[.slice A n c] w fun e w' => e = .returned (.bool b) ∧ Below w.heap.size w w' := by
  have HL := Lib.hid hl
  have HM := Lib.hid (fun (W : World) (h : Sat F W) => rmay_w h l hn A n c HL.out _ rfl)
  obtain ⟨rfl, hl2⟩ := hl
  have HB := Lib.hid hb
  clear hb
  go_enter Tryz.func57, Tryz.ntmps57
  go_wp2_with fail
  go_loopw [4, 7] (fun _ i wr => ∃ k : Nat, k ≤ l.length ∧ i = .int .i64 k ∧ Hid ((l.take k).any (fun n => sugarS n.kind) = false) ∧ Below w.heap.size w wr) (fun _ i _ => l.length - (intOf i).toNat)
  case atStart => exact ⟨0, Nat.zero_le _, rfl, Lib.hid (by simp), Below.refl _ _⟩
  case round =>
    obtain ⟨k, hk, rfl, hr, hbl⟩ := hrel
    by_cases hlt : k < l.length
    · obtain ⟨ad, rfl, hL⟩ := hl2 (by omega)
      obtain ⟨Ak, ck, _, _, hd⟩ := hL k hlt
      obtain ⟨c0, c1, c2, c3, c4⟩ := hd.sat (hF.below hbl)
      have hltI : (k : Int) < (l.length : Int) := by omega
      have hany : (l.take (k + 1)).any (fun n => sugarS n.kind) = sugarS l[k].kind := by
        rw [List.take_succ_eq_append_getElem hlt, List.any_append, hr.out]
        simp
      have hbad : sugarS l[k].kind = true → b = false := fun h => by
        rw [← HB.out, plainS, List.any_eq_true.2 ⟨_, List.getElem_mem hlt, h⟩, Bool.and_comm]
        rfl
      generalize hnd : l[k] = nd at *
      have HND := Lib.hid hnd
      clear hnd hd
      by_cases h7 : nd.kind = 7
      · have e7 : (nd.kind == 7) = true := by rw [h7]; rfl
        have HR := Lib.hid (hbad (by unfold sugarS; simp [h7]))
        clear hbad hany h7
        go_wp2_with fail
        go_ret
        exact ⟨by rw [HR.out] <;> rfl, bthen hbl (balloc _ _)⟩
      · have e7 : (nd.kind == 7) = false := by rw [beq_eq_false_iff_ne]; exact h7
        by_cases h8 : 8 ≤ nd.kind
        · by_cases h15 : nd.kind ≤ 15
          · have HR := Lib.hid (hbad (by unfold sugarS; simp [h8, h15]))
            clear hbad hany h7
            go_wp2_with fail
            go_ret
            exact ⟨by rw [HR.out] <;> rfl, bthen hbl (balloc _ _)⟩
          · have HA : Hid ((l.take (k + 1)).any (fun n => sugarS n.kind) = false) := Lib.hid (hany.trans (by unfold sugarS; simp [h7, h8, h15]))
            have h15' : decide (nd.kind ≤ 15) = false := decide_eq_false h15
            clear hbad hany h7 h15
            go_wp2_with fail
            go_roundw
            case rel => exact ⟨k + 1, by omega, by go_num, HA, bthen hbl (balloc _ _)⟩
            case measure => simp [intOf]; omega
        · have HA : Hid ((l.take (k + 1)).any (fun n => sugarS n.kind) = false) := Lib.hid (hany.trans (by unfold sugarS; simp [h7, h8]))
          have h8' : decide (8 ≤ nd.kind) = false := decide_eq_false h8
          clear hbad hany h7 h8
          go_wp2_with fail
          go_roundw
          case rel => exact ⟨k + 1, by omega, by go_num, HA, bthen hbl (balloc _ _)⟩
          case measure => simp [intOf]; omega
    · have HA : Hid (b = mayS l) := Lib.hid (by
        have := hr.out
        rw [List.take_of_length_le (by omega)] at this
        rw [← HB.out, plainS, this, Bool.not_false, Bool.and_true])
      have hltI : decide ((k : Int) < (l.length : Int)) = false := decide_eq_false (by omega)
      go_wp2_with (go_at_call 58; refine (HM.out _ (hF.below hbl)).mono ?_; rintro e w' ⟨rfl, hw⟩)
      go_ret
      exact ⟨by rw [HA.out] <;> rfl, bthen hbl hw⟩
end Go.Proofs.YtdbbooibkiicnaaGreat
/-! The walks of the reference's inside, places, Tests, Steps, number. -/
namespace Go.Proofs.YtdbbooibkiicnaaGreat
open Go.RowKit
theorem get_kind {l : List Nd} {t : Tr} (h : treeS l = some t) (j : Nat) (hj : j < l.length) : l[j].kind = (t.sub j).root.kind := by
  have h1 := Tr.get_flat t j 0 (by rw [← tree_len h]; exact hj)
  rw [← tree_flat h, List.getElem?_eq_getElem hj] at h1
  injection h1 with h1
  rw [h1]
set_option maxRecDepth 100000 in
set_option maxHeartbeats 1000000 in
theorem inside_w {F : Fz} {w : World} (hF : Sat F w) (l : List Nd) (hn : l.length ≤ 1000) (A : Option Addr) (n c : Nat) (hl : NodesF F A n l) {t : Tr} (ht : treeS l = some t) (i : Nat) (hi : i < l.length) (b : Bool) (hb : insT t i = b) :
    Calls Tryz.prog 62 #[.slice A n c, .int .i64 i] w fun e w' => e = .returned (.bool b) ∧ w = w' := by
  have hS := fun (k : Nat) (hk : k < l.length) => start_w hF l hn A n c hl ht k hk
  have hI := ins_iff t i (by rw [← tree_len ht]; exact hi) (no19_of (tree_valid ht))
  rw [hb] at hI
  have hkd := fun (k : Nat) (hk : k < l.length) => get_kind ht k hk
  rw [← tree_len ht] at hI
  obtain ⟨rfl, hl2⟩ := hl
  obtain ⟨ad, rfl, hL⟩ := hl2 (by omega)
  have HS := Lib.hid hS
  have HI := Lib.hid hI
  have HKD := Lib.hid hkd
  clear hS hI hkd ht hb
  go_enter Tryz.func62, Tryz.ntmps62
  go_wp2_with fail
  go_loop [5] (fun v => ∃ k : Nat, k ≤ l.length ∧ i < k ∧ v = .int .i64 k ∧ Hid (∀ j, i < j → j < k → ¬ ((t.sub j).root.kind = 19 ∧ j + 1 - (t.sub j).size ≤ i))) (fun v => l.length - (intOf v).toNat)
  case atStart => exact ⟨i + 1, by omega, by omega, by go_num, Lib.hid (fun j h1 h2 => by omega)⟩
  case round =>
    obtain ⟨k, hk, hik, rfl, HN⟩ := hrel
    by_cases hkl : k < l.length
    · have hkI : (k : Int) < (l.length : Int) := by omega
      obtain ⟨Ak, ck, _, _, hd⟩ := hL k hkl
      obtain ⟨c0, _, _, _, _⟩ := hd.sat hF
      have hkk := HKD.out k hkl
      have hst := HS.out k hkl
      generalize l[k] = nd at *
      generalize hs : k + 1 - (t.sub k).size = s at *
      have HST := Lib.hid hst
      have HSS := Lib.hid hs
      have HKK := Lib.hid hkk
      clear hst hs hkk hd
      by_cases h19 : nd.kind = 19
      · have h19b : (nd.kind == 19) = true := by rw [h19]; rfl
        by_cases hsi : s ≤ i
        · have hsI : (s : Int) ≤ (i : Int) := by omega
          go_wp2_with (go_at_call 59; refine HST.out.mono ?_; rintro e w1 ⟨rfl, rfl⟩)
          go_ret
          exact ⟨by rw [show b = true from HI.out.2 ⟨k, hik, hkl, by rw [← HKK.out]; exact h19, by rw [HSS.out]; exact hsi⟩]; rfl, rfl⟩
        · have hsI : decide ((s : Int) ≤ (i : Int)) = false := decide_eq_false (by omega)
          have hnx : ∀ j, i < j → j < k + 1 → ¬ ((t.sub j).root.kind = 19 ∧ j + 1 - (t.sub j).size ≤ i) := fun j h1 h2 => by
            by_cases e : j = k
            · subst e; rintro ⟨_, h4⟩; rw [HSS.out] at h4; exact hsi h4
            · exact HN.out j h1 (by omega)
          have HNX := Lib.hid hnx
          have hsN : decide (s ≤ i) = false := decide_eq_false hsi
          clear hnx hsi
          go_wp2_with (go_at_call 59; refine HST.out.mono ?_; rintro e w1 ⟨rfl, rfl⟩)
          go_round
          case rel => exact ⟨k + 1, by omega, by omega, by go_num, HNX⟩
          case measure => simp [intOf]; omega
      · have h19b : (nd.kind == 19) = false := by rw [beq_eq_false_iff_ne]; exact h19
        have hnx : ∀ j, i < j → j < k + 1 → ¬ ((t.sub j).root.kind = 19 ∧ j + 1 - (t.sub j).size ≤ i) := fun j h1 h2 => by
          by_cases e : j = k
          · subst e; rintro ⟨h3, _⟩; rw [← HKK.out] at h3; exact h19 h3
          · exact HN.out j h1 (by omega)
        have HNX := Lib.hid hnx
        clear hnx h19
        go_wp2_with fail
        go_round
        case rel => exact ⟨k + 1, by omega, by omega, by go_num, HNX⟩
        case measure => simp [intOf]; omega
    · obtain rfl : k = l.length := by omega
      have hdec : decide ((l.length : Int) < (l.length : Int)) = false := decide_eq_false (by omega)
      have hb0 : b = false := by
        cases b with
        | false => rfl
        | true =>
          obtain ⟨j, h1, h2, h3, h4⟩ := HI.out.1 rfl
          exact absurd ⟨h3, h4⟩ (HN.out j h1 h2)
      have HB := Lib.hid hb0
      clear hb0
      go_wp2_with fail
      go_ret
      exact ⟨by rw [HB.out] <;> rfl, rfl⟩
theorem places_spec {l : List Nd} {t : Tr} (ht : treeS l = some t) (hr : regS t.root.kind = true) (k : Int) : kindS l k = (List.range l.length).filter fun p => decide (kindAt l p = k) && !insT t p := by
  have he : ownS l = ownT t 0 := by unfold ownS; rw [ht]; simp only; rw [if_pos hr]
  unfold kindS
  rw [he, own_filter, tree_len ht, show (fun x => 0 + x) = (id : Nat → Nat) from funext fun x => Nat.zero_add x, List.map_id, List.filter_filter]
set_option maxRecDepth 100000 in
set_option maxHeartbeats 1000000 in
theorem places_w {F : Fz} {w : World} (hF : Sat F w) (l : List Nd) (hn : l.length ≤ 1000) (A : Option Addr) (n c : Nat) (hl : NodesF F A n l) (k : Int) :
    Calls Tryz.prog 34 #[.slice A n c, .int .i64 k] w (RetI w (zs (kindS l k))) := by
  have hR := fun b hb => rreg_w hF l hn A n c hl b hb
  have hI := fun (X : World) (h : Sat F X) {t : Tr} (ht : treeS l = some t) (i : Nat) (hi : i < l.length) (b : Bool) (hb : insT t i = b) => inside_w h l hn A n c hl ht i hi b hb
  obtain ⟨rfl, hl2⟩ := hl
  cases hreg : regL l
  · have HR := Lib.hid (hR _ hreg)
    have HE : Hid (kindS l k = []) := Lib.hid (by unfold kindS; rw [ownS_no hreg]; rfl)
    clear hR hI hreg hl2
    go_enter Tryz.func34, Tryz.ntmps34
    go_wp2_with (go_at_call 61; refine HR.out.mono ?_; rintro e w1 ⟨rfl, hw⟩)
    go_ret
    rw [HE.out]
    exact retI_nil hw
  · have HR := Lib.hid (hR _ hreg)
    obtain ⟨t, ht, hrk, he⟩ := ownS_yes hreg
    have HSP := Lib.hid (places_spec ht hrk k)
    have HI := Lib.hid (fun (X : World) (h : Sat F X) (i : Nat) (hi : i < l.length) (b : Bool) (hb : insT t i = b) => hI X h ht i hi b hb)
    clear hR hI hreg ht hrk he
    go_enter Tryz.func34, Tryz.ntmps34
    go_wp2_with (go_at_call 61; refine HR.out.mono ?_; rintro e w1 ⟨rfl, hb1⟩)
    have hz1 := hb1.size
    have hF1 := hF.below hb1
    go_loopw [5, 6, 12] (fun o _ i wr => ∃ (m : Nat) (xs : List Nat) (A3 : Option Addr) (n3 c3 : Nat), m ≤ l.length ∧ i = .int .i64 m ∧ o = .slice A3 n3 c3 ∧ n3 ≤ m ∧ Hid (xs = (List.range m).filter fun p => decide (kindAt l p = k) && !insT t p) ∧ Own F wr w1.heap.size 3 1 (.slice A3 n3 c3) n3 ((zs xs).map encI) ∧ Hid (n3 = xs.length) ∧ Below w1.heap.size w1 wr) (fun _ _ i _ => l.length - (intOf i).toNat)
    case atStart => exact ⟨0, [], none, 0, 0, Nat.zero_le _, rfl, rfl, Nat.le_refl _, Lib.hid (by simp), Own.nil _ _ _ _ _, Lib.hid rfl, Below.refl _ _⟩
    case round =>
      obtain ⟨m, xs, A3, n3, c3, hm, rfl, rfl, hn3, HX, hO3, H3, hbl⟩ := hrel
      have hzl := hbl.size
      by_cases hml : m < l.length
      · have hmI : (m : Int) < (l.length : Int) := by omega
        obtain ⟨ad, rfl, hL⟩ := hl2 (by omega)
        obtain ⟨Ak, ck, _, _, hd⟩ := hL m hml
        have hFr := hF1.below hbl
        obtain ⟨c0, _, _, _, _⟩ := hd.sat hFr
        have hI2 := fun b hb => HI.out wr hFr m hml b hb
        have htk : (List.range (m + 1)).filter (fun p => decide (kindAt l p = k) && !insT t p) = xs ++ if kindAt l m = k ∧ insT t m = false then [m] else [] := by
          rw [List.range_succ, List.filter_append, HX.out]
          by_cases h : kindAt l m = k <;> cases h2 : insT t m <;> simp [h, h2]
        rw [kindAt_get hml] at htk
        generalize l[m] = nd at *
        clear hd
        by_cases hk : nd.kind = k
        · have hkb : (nd.kind == k) = true := by rw [hk]; simp
          cases hin : insT t m
          · have HI2 := Lib.hid (hI2 _ hin)
            have HTK2 : Hid ((List.range (m + 1)).filter (fun p => decide (kindAt l p = k) && !insT t p) = xs ++ [m]) := Lib.hid (by rw [htk, if_pos ⟨hk, hin⟩])
            have HZS : Hid (zs xs ++ [(m : Int)] = zs (xs ++ [m])) := Lib.hid (by rw [zs_snoc])
            clear hk htk hI2 hin
            go_wp2_with (first | (go_at_call 62; refine HI2.out.mono ?_; rintro e w2 ⟨rfl, rfl⟩) | (at_builtin; refine wpList_pushI rfl (.tmp 28) (.tmp 30) rfl (hO3.alloc _) (hFr.alloc _) (by rfl) wr.heap.size 1 (m : Int) (by rfl) (Blk.new _ _ _) (by omega) (by simp; omega) ?_; intro v2 w2 hO2 hF2 hb2 hg2 hat2))
            rw [HZS.out] at hO2
            obtain ⟨A2, c2, rfl, hc2⟩ := hO2.shape
            have hS2 := (hbl.alloc hzl (.cells #[.int .i64 (m : Int)] 3)).trans hb2
            go_roundw
            case rel => exact ⟨m + 1, xs ++ [m], A2, n3 + 1, c2, by omega, by go_num, rfl, by omega, Lib.hid HTK2.out.symm, hO2, Lib.hid (by rw [H3.out]; simp), hS2⟩
            case measure => simp [intOf]; omega
          · have HI2 := Lib.hid (hI2 _ hin)
            have HTK2 : Hid ((List.range (m + 1)).filter (fun p => decide (kindAt l p = k) && !insT t p) = xs) := Lib.hid (by rw [htk, if_neg (by rw [hin]; simp)]; simp)
            clear hk htk hI2 hin
            go_wp2_with (go_at_call 62; refine HI2.out.mono ?_; rintro e w2 ⟨rfl, rfl⟩)
            go_roundw
            case rel => exact ⟨m + 1, xs, A3, n3, c3, by omega, by go_num, rfl, by omega, Lib.hid HTK2.out.symm, hO3, H3, hbl⟩
            case measure => simp [intOf]; omega
        · have hkb : (nd.kind == k) = false := by rw [beq_eq_false_iff_ne]; exact hk
          have HTK2 : Hid ((List.range (m + 1)).filter (fun p => decide (kindAt l p = k) && !insT t p) = xs) := Lib.hid (by rw [htk, if_neg (fun h => hk h.1)]; simp)
          clear hk htk hI2
          go_wp2_with fail
          go_roundw
          case rel => exact ⟨m + 1, xs, A3, n3, c3, by omega, by go_num, rfl, by omega, Lib.hid HTK2.out.symm, hO3, H3, hbl⟩
          case measure => simp [intOf]; omega
      · obtain rfl : m = l.length := by omega
        have hdec : decide ((l.length : Int) < (l.length : Int)) = false := decide_eq_false (by omega)
        have HZ : Hid (zs xs = zs (kindS l k)) := Lib.hid (by rw [HX.out, HSP.out])
        have HL3 : Hid (n3 = (zs (kindS l k)).length) := Lib.hid (by rw [← HZ.out, length_zs, H3.out])
        go_wp2_with fail
        go_ret
        obtain ⟨A5, c5, e5, hc5, hrd5⟩ := hO3.rdH
        injection e5 with e51 e52 e53
        subst e51 e53
        rw [HZ.out] at hrd5
        exact ⟨A3, c3, by rw [← HL3.out]; rfl, by rw [← HL3.out]; exact hc5, by rw [← HL3.out]; exact hrd5, hb1.trans (hbl.mono hz1)⟩
theorem rtests_w {F : Fz} {w : World} (hF : Sat F w) (l : List Nd) (hn : l.length ≤ 1000) (A : Option Addr) (n c : Nat) (hl : NodesF F A n l) :
    Calls Tryz.prog 132 #[.slice A n c] w (RetI w (zs (kindS l 19))) := by
  have hK := places_w hF l hn A n c hl 19
  generalize zs (kindS l 19) = xs at *
  obtain ⟨N, hN⟩ : ∃ N, xs.length = N := ⟨_, rfl⟩
  have HK := Lib.hid hK
  have HN := Lib.hid hN
  clear hK hN
  go_enter Tryz.func132, Tryz.ntmps132
  go_wp2_with (go_at_call 34; refine HK.out.mono ?_; rintro e w1 ⟨A1, c1, rfl, hc1, hr1, hb1⟩; rw [HN.out] at hr1 hc1; rw [HN.out])
  go_ret
  exact ⟨A1, c1, by rw [HN.out]; rfl, by rw [HN.out]; exact hc1, by rw [HN.out]; exact hr1, hb1⟩
theorem rsteps_w {F : Fz} {w : World} (hF : Sat F w) (l : List Nd) (hn : l.length ≤ 1000) (A : Option Addr) (n c : Nat) (hl : NodesF F A n l) :
    Calls Tryz.prog 15 #[.slice A n c] w (RetI w (zs (kindS l 18))) := by
  have hK := places_w hF l hn A n c hl 18
  generalize zs (kindS l 18) = xs at *
  obtain ⟨N, hN⟩ : ∃ N, xs.length = N := ⟨_, rfl⟩
  have HK := Lib.hid hK
  have HN := Lib.hid hN
  clear hK hN
  go_enter Tryz.func15, Tryz.ntmps15
  go_wp2_with (go_at_call 34; refine HK.out.mono ?_; rintro e w1 ⟨A1, c1, rfl, hc1, hr1, hb1⟩; rw [HN.out] at hr1 hc1; rw [HN.out])
  go_ret
  exact ⟨A1, c1, by rw [HN.out]; rfl, by rw [HN.out]; exact hc1, by rw [HN.out]; exact hr1, hb1⟩
/-- The place of a number in a list. -/
theorem number_w {F : Fz} {w : World} (hF : Sat F w) (xs ys : List Nat) (x : Nat) (hx : x ∉ xs) (A : Option Addr) (n c : Nat) (hr : Rd F 1 A n ((zs (xs ++ x :: ys)).map encI)) (hn : n ≤ 1000) :
    Calls Tryz.prog 152 #[.slice A n c, .int .i64 x] w fun e w' => e = .returned (.int .i64 xs.length) ∧ w = w' := by
  have hlen : n = xs.length + 1 + ys.length := by have := hr.1; simp [zs] at this; omega
  go_enter Tryz.func152, Tryz.ntmps152
  go_wp2_with fail
  go_loop [5, 8] (fun _ v => ∃ k : Nat, k ≤ xs.length ∧ v = .int .i64 k) (fun _ v => n - (intOf v).toNat)
  case atStart => exact ⟨0, Nat.zero_le _, rfl⟩
  case round =>
    obtain ⟨k, hk, rfl⟩ := hrel
    have hkn : k < n := by omega
    have hkI : (k : Int) < (n : Int) := by omega
    obtain ⟨a1, v, rfl, hv, hcell⟩ := hr.at1 hkn
    have hcz := hF.cell hcell
    by_cases hkx : k < xs.length
    · have hv2 : ((zs (xs ++ x :: ys)).map encI)[k]? = some (encI (xs[k] : Nat)) := by unfold zs; rw [List.map_append, List.map_append, List.getElem?_append_left (by simpa using hkx)]; simp [hkx]
      rw [hv2] at hv
      simp only [Option.some.injEq] at hv
      subst hv
      have hne : xs[k] ≠ x := fun e => hx (e ▸ List.getElem_mem hkx)
      have hneI : (((xs[k] : Nat) : Int) == (x : Int)) = false := by rw [beq_eq_false_iff_ne]; omega
      generalize xs[k] = y at *
      clear hne hv2 hcell
      go_wp2_with fail
      go_round
      case rel => exact ⟨k + 1, by omega, by go_num⟩
      case measure => simp [intOf]; omega
    · obtain rfl : k = xs.length := by omega
      have hv2 : ((zs (xs ++ x :: ys)).map encI)[xs.length]? = some (encI (x : Nat)) := by simp [zs]
      rw [hv2] at hv
      simp only [Option.some.injEq] at hv
      subst hv
      clear hv2 hcell
      go_wp2_with fail
      go_ret
      exact ⟨rfl, rfl⟩
end Go.Proofs.YtdbbooibkiicnaaGreat
