/- The walks of the reference's Form, Reg, Plain, Same. -/
import Derived.Test.YtdbbooibkiicnaaGreatRPart
import Derived.Test.YtdbbooibkiicnaaGreatMay
import Derived.Test.YtdbbooibkiicnaaGreatOwn
import Derived.Test.YtdbbooibkiicnaaGreatPart
import Derived.Test.YtdbbooibkiicnaaGreatSq
import Derived.Test.YtdbbooibkiicnaaGreatTab1
import Derived.Deep.RegionHeld3
import Derived.Deep.DeepCutAuto
import Derived.Test.YtdbbooibkiicnaaGreatPileM
set_option linter.unusedVariables false
set_option linter.unusedSimpArgs false
/-! The walks of the reference's Form, Reg, Plain, Same. -/
/-! The walks of the reference's Form, Reg, Plain, Same. -/
namespace Go.Proofs.YtdbbooibkiicnaaGreat
open Go.RowKit

theorem root_kind {l : List Nd} {t : Tr} (h : treeS l = some t) : 1 ≤ t.root.kind := by
  have hl := tree_len h
  obtain ⟨hlt, hk⟩ := tree_last h
  rw [← hk]
  unfold treeS at h
  split at h
  · rename_i t' hp
    exact kind_pos (fold_fields hp _ (List.getElem_mem hlt))
  · cases h
theorem formS_root {k : Int} (h : 1 ≤ k) : formS k = !regS k := by
  unfold formS regS
  by_cases h1 : 18 ≤ k
  · simp [h1]; omega
  · simp [h1]; omega
theorem rform_w {F : Fz} {w : World} (hF : Sat F w) (l : List Nd) (hn : l.length ≤ 1000) (A : Option Addr) (n c : Nat) (hl : NodesF F A n l) (b : Bool) (hb : formL l = b) :
    Calls Tryz.prog 43 #[.slice A n c] w fun e w' => e = .returned (.bool b) ∧ Below w.heap.size w w' := by
  have HL := Lib.hid hl
  obtain ⟨rfl, hl2⟩ := hl
  cases ht : treeS l with
  | none =>
    have HS := Lib.hid (rmay_w hF l hn A _ c HL.out false (by unfold mayS; rw [ht]; rfl))
    have HB : Hid (b = false) := Lib.hid (by rw [← hb, formL, ht])
    clear hb ht hl2
    go_enter Tryz.func43, Tryz.ntmps43
    go_wp2_with (go_at_call 58; refine HS.out.mono ?_; rintro e w' ⟨rfl, hw⟩)
    go_ret
    exact ⟨by rw [HB.out] <;> rfl, hw⟩
  | some t =>
    have HS := Lib.hid (rmay_w hF l hn A _ c HL.out true (by unfold mayS; rw [ht]; rfl))
    obtain ⟨hlt, hk⟩ := tree_last ht
    obtain ⟨ad, rfl, hL⟩ := hl2 (by omega)
    obtain ⟨Ak, ck, _, _, hd⟩ := hL _ hlt
    have hsub : ((l.length : Int) - 1) = ((l.length - 1 : Nat) : Int) := by omega
    have hsubI : (l.length : Int) - 1 < (l.length : Int) := by omega
    have hsub0 : (0 : Int) ≤ (l.length : Int) - 1 := by omega
    have hN : ((l.length : Int) - 1).toNat = l.length - 1 := by omega
    have hd0 := hd.1
    rw [hk] at hd0
    have hR := Lib.hid (formKind_w t.root.kind)
    have HB : Hid (b = (id_ (formS t.root.kind))) := Lib.hid (by
      rw [← hb, formL, ht, formS_root (root_kind ht)]
      first | rfl | rw [Bool.not_not])
    generalize t.root.kind = kd at *
    clear hb ht hl2 hL hd hk
    go_enter Tryz.func43, Tryz.ntmps43
    go_wp2_with (first | (go_at_call 58; refine HS.out.mono ?_; rintro e w' ⟨rfl, hw⟩; have c0 := (hF.below hw).cell hd0) | (go_at_call 74; refine (hR.out _).mono ?_; rintro e w'' ⟨rfl, rfl⟩))
    go_ret
    exact ⟨by rw [HB.out] <;> rfl, hw⟩
theorem rreg_w {F : Fz} {w : World} (hF : Sat F w) (l : List Nd) (hn : l.length ≤ 1000) (A : Option Addr) (n c : Nat) (hl : NodesF F A n l) (b : Bool) (hb : regL l = b) :
    Calls Tryz.prog 61 #[.slice A n c] w fun e w' => e = .returned (.bool b) ∧ Below w.heap.size w w' := by
  have HL := Lib.hid hl
  obtain ⟨rfl, hl2⟩ := hl
  cases ht : treeS l with
  | none =>
    have HS := Lib.hid (rmay_w hF l hn A _ c HL.out false (by unfold mayS; rw [ht]; rfl))
    have HB : Hid (b = false) := Lib.hid (by rw [← hb, regL, ht])
    clear hb ht hl2
    go_enter Tryz.func61, Tryz.ntmps61
    go_wp2_with (go_at_call 58; refine HS.out.mono ?_; rintro e w' ⟨rfl, hw⟩)
    go_ret
    exact ⟨by rw [HB.out] <;> rfl, hw⟩
  | some t =>
    have HS := Lib.hid (rmay_w hF l hn A _ c HL.out true (by unfold mayS; rw [ht]; rfl))
    obtain ⟨hlt, hk⟩ := tree_last ht
    obtain ⟨ad, rfl, hL⟩ := hl2 (by omega)
    obtain ⟨Ak, ck, _, _, hd⟩ := hL _ hlt
    have hsub : ((l.length : Int) - 1) = ((l.length - 1 : Nat) : Int) := by omega
    have hsubI : (l.length : Int) - 1 < (l.length : Int) := by omega
    have hsub0 : (0 : Int) ≤ (l.length : Int) - 1 := by omega
    have hN : ((l.length : Int) - 1).toNat = l.length - 1 := by omega
    have hd0 := hd.1
    rw [hk] at hd0
    have hR := Lib.hid (formKind_w t.root.kind)
    have HB : Hid (b = (! (formS t.root.kind))) := Lib.hid (by
      rw [← hb, regL, ht, formS_root (root_kind ht)]
      first | rfl | rw [Bool.not_not])
    generalize t.root.kind = kd at *
    clear hb ht hl2 hL hd hk
    go_enter Tryz.func61, Tryz.ntmps61
    go_wp2_with (first | (go_at_call 58; refine HS.out.mono ?_; rintro e w' ⟨rfl, hw⟩; have c0 := (hF.below hw).cell hd0) | (go_at_call 74; refine (hR.out _).mono ?_; rintro e w'' ⟨rfl, rfl⟩))
    go_ret
    exact ⟨by rw [HB.out] <;> rfl, hw⟩
end Go.Proofs.YtdbbooibkiicnaaGreat
/-! The walks of the reference's inside, places, Tests, Steps, number. -/
namespace Go.Proofs.YtdbbooibkiicnaaGreat
open Go.RowKit
theorem get_kind {l : List Nd} {t : Tr} (h : treeS l = some t) (j : Nat) (hj : j < l.length) : l[j].kind = (t.sub j).root.kind := by
  have h1 := Tr.get_flat t j 0 (by rw [← tree_len h]; exact hj)
  rw [← tree_flat h, List.getElem?_eq_getElem hj] at h1
  injection h1 with h1
  rw [h1]
set_option maxRecDepth 100000 in
set_option maxHeartbeats 1000000 in
theorem inside_w {F : Fz} {w : World} (hF : Sat F w) (l : List Nd) (hn : l.length ≤ 1000) (A : Option Addr) (n c : Nat) (hl : NodesF F A n l) {t : Tr} (ht : treeS l = some t) (i : Nat) (hi : i < l.length) (b : Bool) (hb : insT t i = b) :
    Calls Tryz.prog 62 #[.slice A n c, .int .i64 i] w fun e w' => e = .returned (.bool b) ∧ w = w' := by
  have hS := fun (k : Nat) (hk : k < l.length) => start_w hF l hn A n c hl ht k hk
  have hI := ins_iff t i (by rw [← tree_len ht]; exact hi) (no19_of (tree_valid ht))
  rw [hb] at hI
  have hkd := fun (k : Nat) (hk : k < l.length) => get_kind ht k hk
  rw [← tree_len ht] at hI
  obtain ⟨rfl, hl2⟩ := hl
  obtain ⟨ad, rfl, hL⟩ := hl2 (by omega)
  have HS := Lib.hid hS
  have HI := Lib.hid hI
  have HKD := Lib.hid hkd
  clear hS hI hkd ht hb
  go_enter Tryz.func62, Tryz.ntmps62
  go_wp2_with fail
  go_loop [5] (fun v => ∃ k : Nat, k ≤ l.length ∧ i < k ∧ v = .int .i64 k ∧ Hid (∀ j, i < j → j < k → ¬ ((t.sub j).root.kind = 19 ∧ j + 1 - (t.sub j).size ≤ i))) (fun v => l.length - (intOf v).toNat)
  case atStart => exact ⟨i + 1, by omega, by omega, by go_num, Lib.hid (fun j h1 h2 => by omega)⟩
  case round =>
    obtain ⟨k, hk, hik, rfl, HN⟩ := hrel
    by_cases hkl : k < l.length
    · have hkI : (k : Int) < (l.length : Int) := by omega
      obtain ⟨Ak, ck, _, _, hd⟩ := hL k hkl
      obtain ⟨c0, _, _, _, _⟩ := hd.sat hF
      have hkk := HKD.out k hkl
      have hst := HS.out k hkl
      generalize l[k] = nd at *
      generalize hs : k + 1 - (t.sub k).size = s at *
      have HST := Lib.hid hst
      have HSS := Lib.hid hs
      have HKK := Lib.hid hkk
      clear hst hs hkk hd
      by_cases h19 : nd.kind = 19
      · have h19b : (nd.kind == 19) = true := by rw [h19]; rfl
        by_cases hsi : s ≤ i
        · have hsI : (s : Int) ≤ (i : Int) := by omega
          go_wp2_with (go_at_call 59; refine HST.out.mono ?_; rintro e w1 ⟨rfl, rfl⟩)
          go_ret
          exact ⟨by rw [show b = true from HI.out.2 ⟨k, hik, hkl, by rw [← HKK.out]; exact h19, by rw [HSS.out]; exact hsi⟩]; rfl, rfl⟩
        · have hsI : decide ((s : Int) ≤ (i : Int)) = false := decide_eq_false (by omega)
          have hnx : ∀ j, i < j → j < k + 1 → ¬ ((t.sub j).root.kind = 19 ∧ j + 1 - (t.sub j).size ≤ i) := fun j h1 h2 => by
            by_cases e : j = k
            · subst e; rintro ⟨_, h4⟩; rw [HSS.out] at h4; exact hsi h4
            · exact HN.out j h1 (by omega)
          have HNX := Lib.hid hnx
          have hsN : decide (s ≤ i) = false := decide_eq_false hsi
          clear hnx hsi
          go_wp2_with (go_at_call 59; refine HST.out.mono ?_; rintro e w1 ⟨rfl, rfl⟩)
          go_round
          case rel => exact ⟨k + 1, by omega, by omega, by go_num, HNX⟩
          case measure => simp [intOf]; omega
      · have h19b : (nd.kind == 19) = false := by rw [beq_eq_false_iff_ne]; exact h19
        have hnx : ∀ j, i < j → j < k + 1 → ¬ ((t.sub j).root.kind = 19 ∧ j + 1 - (t.sub j).size ≤ i) := fun j h1 h2 => by
          by_cases e : j = k
          · subst e; rintro ⟨h3, _⟩; rw [← HKK.out] at h3; exact h19 h3
          · exact HN.out j h1 (by omega)
        have HNX := Lib.hid hnx
        clear hnx h19
        go_wp2_with fail
        go_round
        case rel => exact ⟨k + 1, by omega, by omega, by go_num, HNX⟩
        case measure => simp [intOf]; omega
    · obtain rfl : k = l.length := by omega
      have hdec : decide ((l.length : Int) < (l.length : Int)) = false := decide_eq_false (by omega)
      have hb0 : b = false := by
        cases b with
        | false => rfl
        | true =>
          obtain ⟨j, h1, h2, h3, h4⟩ := HI.out.1 rfl
          exact absurd ⟨h3, h4⟩ (HN.out j h1 h2)
      have HB := Lib.hid hb0
      clear hb0
      go_wp2_with fail
      go_ret
      exact ⟨by rw [HB.out] <;> rfl, rfl⟩
theorem places_spec {l : List Nd} {t : Tr} (ht : treeS l = some t) (hr : regS t.root.kind = true) (k : Int) : kindS l k = (List.range l.length).filter fun p => decide (kindAt l p = k) && !insT t p := by
  have he : ownS l = ownT t 0 := by unfold ownS; rw [ht]; simp only; rw [if_pos hr]
  unfold kindS
  rw [he, own_filter, tree_len ht, show (fun x => 0 + x) = (id : Nat → Nat) from funext fun x => Nat.zero_add x, List.map_id, List.filter_filter]
set_option maxRecDepth 100000 in
set_option maxHeartbeats 1000000 in
theorem places_w {F : Fz} {w : World} (hF : Sat F w) (l : List Nd) (hn : l.length ≤ 1000) (A : Option Addr) (n c : Nat) (hl : NodesF F A n l) (k : Int) :
    Calls Tryz.prog 34 #[.slice A n c, .int .i64 k] w (RetI w (zs (kindS l k))) := by
  have hR := fun b hb => rreg_w hF l hn A n c hl b hb
  have hI := fun (X : World) (h : Sat F X) {t : Tr} (ht : treeS l = some t) (i : Nat) (hi : i < l.length) (b : Bool) (hb : insT t i = b) => inside_w h l hn A n c hl ht i hi b hb
  obtain ⟨rfl, hl2⟩ := hl
  cases hreg : regL l
  · have HR := Lib.hid (hR _ hreg)
    have HE : Hid (kindS l k = []) := Lib.hid (by unfold kindS; rw [ownS_no hreg]; rfl)
    clear hR hI hreg hl2
    go_enter Tryz.func34, Tryz.ntmps34
    go_wp2_with (go_at_call 61; refine HR.out.mono ?_; rintro e w1 ⟨rfl, hw⟩)
    go_ret
    rw [HE.out]
    exact retI_nil hw
  · have HR := Lib.hid (hR _ hreg)
    obtain ⟨t, ht, hrk, he⟩ := ownS_yes hreg
    have HSP := Lib.hid (places_spec ht hrk k)
    have HI := Lib.hid (fun (X : World) (h : Sat F X) (i : Nat) (hi : i < l.length) (b : Bool) (hb : insT t i = b) => hI X h ht i hi b hb)
    clear hR hI hreg ht hrk he
    go_enter Tryz.func34, Tryz.ntmps34
    go_wp2_with (go_at_call 61; refine HR.out.mono ?_; rintro e w1 ⟨rfl, hb1⟩)
    have hz1 := hb1.size
    have hF1 := hF.below hb1
    go_loopw [5, 6, 12] (fun o _ i wr => ∃ (m : Nat) (xs : List Nat) (A3 : Option Addr) (n3 c3 : Nat), m ≤ l.length ∧ i = .int .i64 m ∧ o = .slice A3 n3 c3 ∧ n3 ≤ m ∧ Hid (xs = (List.range m).filter fun p => decide (kindAt l p = k) && !insT t p) ∧ Own F wr w1.heap.size 3 1 (.slice A3 n3 c3) n3 ((zs xs).map encI) ∧ Hid (n3 = xs.length) ∧ Below w1.heap.size w1 wr) (fun _ _ i _ => l.length - (intOf i).toNat)
    case atStart => exact ⟨0, [], none, 0, 0, Nat.zero_le _, rfl, rfl, Nat.le_refl _, Lib.hid (by simp), Own.nil _ _ _ _ _, Lib.hid rfl, Below.refl _ _⟩
    case round =>
      obtain ⟨m, xs, A3, n3, c3, hm, rfl, rfl, hn3, HX, hO3, H3, hbl⟩ := hrel
      have hzl := hbl.size
      by_cases hml : m < l.length
      · have hmI : (m : Int) < (l.length : Int) := by omega
        obtain ⟨ad, rfl, hL⟩ := hl2 (by omega)
        obtain ⟨Ak, ck, _, _, hd⟩ := hL m hml
        have hFr := hF1.below hbl
        obtain ⟨c0, _, _, _, _⟩ := hd.sat hFr
        have hI2 := fun b hb => HI.out wr hFr m hml b hb
        have htk : (List.range (m + 1)).filter (fun p => decide (kindAt l p = k) && !insT t p) = xs ++ if kindAt l m = k ∧ insT t m = false then [m] else [] := by
          rw [List.range_succ, List.filter_append, HX.out]
          by_cases h : kindAt l m = k <;> cases h2 : insT t m <;> simp [h, h2]
        rw [kindAt_get hml] at htk
        generalize l[m] = nd at *
        clear hd
        by_cases hk : nd.kind = k
        · have hkb : (nd.kind == k) = true := by rw [hk]; simp
          cases hin : insT t m
          · have HI2 := Lib.hid (hI2 _ hin)
            have HTK2 : Hid ((List.range (m + 1)).filter (fun p => decide (kindAt l p = k) && !insT t p) = xs ++ [m]) := Lib.hid (by rw [htk, if_pos ⟨hk, hin⟩])
            have HZS : Hid (zs xs ++ [(m : Int)] = zs (xs ++ [m])) := Lib.hid (by rw [zs_snoc])
            clear hk htk hI2 hin
            go_wp2_with (first | (go_at_call 62; refine HI2.out.mono ?_; rintro e w2 ⟨rfl, rfl⟩) | (at_builtin; refine wpList_pushI rfl (.tmp 28) (.tmp 30) rfl (hO3.alloc _) (hFr.alloc _) (by rfl) wr.heap.size 1 (m : Int) (by rfl) (Blk.new _ _ _) (by omega) (by simp; omega) ?_; intro v2 w2 hO2 hF2 hb2 hg2 hat2))
            rw [HZS.out] at hO2
            obtain ⟨A2, c2, rfl, hc2⟩ := hO2.shape
            have hS2 := (hbl.alloc hzl (.cells #[.int .i64 (m : Int)] 3)).trans hb2
            go_roundw
            case rel => exact ⟨m + 1, xs ++ [m], A2, n3 + 1, c2, by omega, by go_num, rfl, by omega, Lib.hid HTK2.out.symm, hO2, Lib.hid (by rw [H3.out]; simp), hS2⟩
            case measure => simp [intOf]; omega
          · have HI2 := Lib.hid (hI2 _ hin)
            have HTK2 : Hid ((List.range (m + 1)).filter (fun p => decide (kindAt l p = k) && !insT t p) = xs) := Lib.hid (by rw [htk, if_neg (by rw [hin]; simp)]; simp)
            clear hk htk hI2 hin
            go_wp2_with (go_at_call 62; refine HI2.out.mono ?_; rintro e w2 ⟨rfl, rfl⟩)
            go_roundw
            case rel => exact ⟨m + 1, xs, A3, n3, c3, by omega, by go_num, rfl, by omega, Lib.hid HTK2.out.symm, hO3, H3, hbl⟩
            case measure => simp [intOf]; omega
        · have hkb : (nd.kind == k) = false := by rw [beq_eq_false_iff_ne]; exact hk
          have HTK2 : Hid ((List.range (m + 1)).filter (fun p => decide (kindAt l p = k) && !insT t p) = xs) := Lib.hid (by rw [htk, if_neg (fun h => hk h.1)]; simp)
          clear hk htk hI2
          go_wp2_with fail
          go_roundw
          case rel => exact ⟨m + 1, xs, A3, n3, c3, by omega, by go_num, rfl, by omega, Lib.hid HTK2.out.symm, hO3, H3, hbl⟩
          case measure => simp [intOf]; omega
      · obtain rfl : m = l.length := by omega
        have hdec : decide ((l.length : Int) < (l.length : Int)) = false := decide_eq_false (by omega)
        have HZ : Hid (zs xs = zs (kindS l k)) := Lib.hid (by rw [HX.out, HSP.out])
        have HL3 : Hid (n3 = (zs (kindS l k)).length) := Lib.hid (by rw [← HZ.out, length_zs, H3.out])
        go_wp2_with fail
        go_ret
        obtain ⟨A5, c5, e5, hc5, hrd5⟩ := hO3.rdH
        injection e5 with e51 e52 e53
        subst e51 e53
        rw [HZ.out] at hrd5
        exact ⟨A3, c3, by rw [← HL3.out]; rfl, by rw [← HL3.out]; exact hc5, by rw [← HL3.out]; exact hrd5, hb1.trans (hbl.mono hz1)⟩
theorem rtests_w {F : Fz} {w : World} (hF : Sat F w) (l : List Nd) (hn : l.length ≤ 1000) (A : Option Addr) (n c : Nat) (hl : NodesF F A n l) :
    Calls Tryz.prog 132 #[.slice A n c] w (RetI w (zs (kindS l 19))) := by
  have hK := places_w hF l hn A n c hl 19
  generalize zs (kindS l 19) = xs at *
  obtain ⟨N, hN⟩ : ∃ N, xs.length = N := ⟨_, rfl⟩
  have HK := Lib.hid hK
  have HN := Lib.hid hN
  clear hK hN
  go_enter Tryz.func132, Tryz.ntmps132
  go_wp2_with (go_at_call 34; refine HK.out.mono ?_; rintro e w1 ⟨A1, c1, rfl, hc1, hr1, hb1⟩; rw [HN.out] at hr1 hc1; rw [HN.out])
  go_ret
  exact ⟨A1, c1, by rw [HN.out]; rfl, by rw [HN.out]; exact hc1, by rw [HN.out]; exact hr1, hb1⟩
/-- The place of a number in a list. -/
theorem number_w {F : Fz} {w : World} (hF : Sat F w) (xs ys : List Nat) (x : Nat) (hx : x ∉ xs) (A : Option Addr) (n c : Nat) (hr : Rd F 1 A n ((zs (xs ++ x :: ys)).map encI)) (hn : n ≤ 1000) :
    Calls Tryz.prog 152 #[.slice A n c, .int .i64 x] w fun e w' => e = .returned (.int .i64 xs.length) ∧ w = w' := by
  have hlen : n = xs.length + 1 + ys.length := by have := hr.1; simp [zs] at this; omega
  go_enter Tryz.func152, Tryz.ntmps152
  go_wp2_with fail
  go_loop [5, 8] (fun _ v => ∃ k : Nat, k ≤ xs.length ∧ v = .int .i64 k) (fun _ v => n - (intOf v).toNat)
  case atStart => exact ⟨0, Nat.zero_le _, rfl⟩
  case round =>
    obtain ⟨k, hk, rfl⟩ := hrel
    have hkn : k < n := by omega
    have hkI : (k : Int) < (n : Int) := by omega
    obtain ⟨a1, v, rfl, hv, hcell⟩ := hr.at1 hkn
    have hcz := hF.cell hcell
    by_cases hkx : k < xs.length
    · have hv2 : ((zs (xs ++ x :: ys)).map encI)[k]? = some (encI (xs[k] : Nat)) := by unfold zs; rw [List.map_append, List.map_append, List.getElem?_append_left (by simpa using hkx)]; simp [hkx]
      rw [hv2] at hv
      simp only [Option.some.injEq] at hv
      subst hv
      have hne : xs[k] ≠ x := fun e => hx (e ▸ List.getElem_mem hkx)
      have hneI : (((xs[k] : Nat) : Int) == (x : Int)) = false := by rw [beq_eq_false_iff_ne]; omega
      generalize xs[k] = y at *
      clear hne hv2 hcell
      go_wp2_with fail
      go_round
      case rel => exact ⟨k + 1, by omega, by go_num⟩
      case measure => simp [intOf]; omega
    · obtain rfl : k = xs.length := by omega
      have hv2 : ((zs (xs ++ x :: ys)).map encI)[xs.length]? = some (encI (x : Nat)) := by simp [zs]
      rw [hv2] at hv
      simp only [Option.some.injEq] at hv
      subst hv
      clear hv2 hcell
      go_wp2_with fail
      go_ret
      exact ⟨rfl, rfl⟩
end Go.Proofs.YtdbbooibkiicnaaGreat
/-! The walk of the reference's reach, kind by kind. -/
/-! The walk of the reference's reach, kind by kind. -/
namespace Go.Proofs.YtdbbooibkiicnaaGreat
open Go.RowKit
/-- What a function that gives a table leaves. -/
def RetM (w : World) (n : Nat) (m : Mx) (e : Ending) (w' : World) : Prop := ∃ g, e = .returned (.slice (some ⟨g, 0, none⟩) n n) ∧ w.heap.size ≤ g ∧ SqF (heapF w') g n m ∧ Below w.heap.size w w'
theorem SqF.far {w : World} {g n : Nat} {m : Mx} (h : SqF (heapF w) g n m) {p : Addr} {u : Value} (hp : p.block < g ∨ g + n < p.block) : SqF (heapF (w.setCell p u)) g n m :=
  ⟨(Below.heap_setCell w p u g (by omega)).trans h.1, fun i hi => (Below.heap_setCell w p u _ (by omega)).trans (h.2 i hi)⟩
def stepTo (i : Nat) : Mx := fun p q => decide (p < i) && stepM p q
theorem stepTo_zero : (fun _ _ => false : Mx) = stepTo 0 := by funext p q; simp [stepTo]
theorem stepTo_step {n : Nat} (i : Nat) (p q : Nat) (_ : p < n) (_ : q < n) : stepTo (i + 1) p q = if p = i ∧ q = i + 1 then true else stepTo i p q := by
  unfold stepTo stepM
  by_cases e : p = i ∧ q = i + 1
  · obtain ⟨rfl, rfl⟩ := e; simp
  · rw [if_neg e]
    by_cases h : p < i
    · simp [h, show p < i + 1 by omega]
    · by_cases h2 : p = i
      · subst h2; simp; omega
      · simp [h, show ¬ p < i + 1 by omega]
theorem stepTo_all {n i : Nat} (h : n ≤ i + 1) : EqM n (stepTo i) stepM := fun p q _ hq => by
  unfold stepTo stepM
  by_cases e : p + 1 = q
  · simp [e]; omega
  · simp [e]
set_option maxRecDepth 100000 in
set_option maxHeartbeats 2000000 in
theorem rreach18_w {F : Fz} {w : World} (hF : Sat F w) (l : List Nd) (A : Option Addr) (n c : Nat) (hl : NodesF F A n l) (i : Nat) (hi : i < l.length) (hk : l[i].kind = 18) (T V : Option Addr) (nT cT nV cV : Nat) (hV : nV ≤ 1000) :
    Calls Tryz.prog 134 #[.slice A n c, .int .i64 i, .slice T nT cT, .slice V nV cV] w (RetM w nV stepM) := by
  have hE := Lib.hid (rsquare_w nV hV w)
  obtain ⟨rfl, hl2⟩ := hl
  obtain ⟨ad, rfl, hL⟩ := hl2 (by omega)
  obtain ⟨Ak, ck, _, _, hd⟩ := hL i hi
  have hiI : (i : Int) < (l.length : Int) := by omega
  generalize l[i] = nd at *
  obtain ⟨kind, name, lo, hi', kids⟩ := nd
  dsimp only at hk
  subst hk
  go_enter Tryz.func134, Tryz.ntmps134
  go_wp2_with (go_at_call 150; refine hE.out.mono ?_; rintro e w1 ⟨rfl, hS1, hb1⟩; obtain ⟨c0, c1, c2, c3, c4⟩ := hd.sat (hF.below hb1); have hS2 := hS1.alloc (.cells #[.int .i64 18, .string name, .int .i64 lo, .int .i64 hi', .slice Ak kids.length ck] 62); have hb2 := bthen hb1 (balloc w1 (.cells #[.int .i64 18, .string name, .int .i64 lo, .int .i64 hi', .slice Ak kids.length ck] 62)))
  rw [stepTo_zero] at hS2
  go_loopw [12] (fun v wr => ∃ k : Nat, k ≤ nV ∧ v = .int .i64 k ∧ SqF (heapF wr) w.heap.size nV (stepTo k) ∧ Below w.heap.size w wr) (fun v _ => nV - (intOf v).toNat)
  case atStart => exact ⟨0, Nat.zero_le _, rfl, hS2, hb2⟩
  case round =>
    obtain ⟨k, hk, rfl, hS, hbl⟩ := hrel
    by_cases hlt : k + 1 < nV
    · have hltI : (k : Int) + 1 < (nV : Int) := by omega
      have hkn : k < nV := by omega
      have hkI : (k : Int) < (nV : Int) := by omega
      have o1 := hS.slot hkn
      have o2 := hS.val hkn hlt
      have o3 := hS.soft hkn (k + 1)
      have hst := hS.store (m' := stepTo (k + 1)) hkn (k + 1) true (stepTo_step k)
      have hbs := hbl.setCell (p := ⟨w.heap.size + 1 + k, k + 1, none⟩) (by show w.heap.size ≤ w.heap.size + 1 + k; omega) (.bool true)
      go_wp2_with fail
      go_roundw
      case rel => exact ⟨k + 1, by omega, by go_num, hst, hbs⟩
      case measure => simp [intOf]; omega
    · have hdec : decide ((k : Int) + 1 < (nV : Int)) = false := decide_eq_false (by omega)
      have hS3 := hS.congr (stepTo_all (by omega))
      go_wp2_with fail
      go_ret
      exact ⟨w.heap.size, rfl, Nat.le_refl _, hS3, hbl⟩
end Go.Proofs.YtdbbooibkiicnaaGreat
/-! The walk of the reference's reach at a test. -/
namespace Go.Proofs.YtdbbooibkiicnaaGreat
open Go.RowKit
/-- What tests hold, point by point. -/
def valS (vs : List (List (BitVec 64))) (i q : Nat) : Bool := bitAt (vs.getD i []) q
def testTo (v : Nat → Nat → Bool) (k i : Nat) : Mx := fun p q => decide (p < i) && testM v k p q
theorem testTo_zero (v : Nat → Nat → Bool) (k : Nat) : (fun _ _ => false : Mx) = testTo v k 0 := by funext p q; simp [testTo]
theorem testTo_step {n : Nat} (v : Nat → Nat → Bool) (k i : Nat) (p q : Nat) (_ : p < n) (_ : q < n) : testTo v k (i + 1) p q = if p = i ∧ q = i then v i k else testTo v k i p q := by
  unfold testTo testM
  by_cases e : p = i ∧ q = i
  · obtain ⟨rfl, rfl⟩ := e; simp
  · rw [if_neg e]
    by_cases h : p < i
    · simp [h, show p < i + 1 by omega]
    · by_cases h2 : p = i
      · subst h2; simp; omega
      · simp [h, show ¬ p < i + 1 by omega]
theorem testTo_all {n : Nat} (v : Nat → Nat → Bool) (k : Nat) : EqM n (testTo v k n) (testM v k) := fun p q hp _ => by simp [testTo, hp]
set_option maxRecDepth 100000 in
set_option maxHeartbeats 2000000 in
theorem rreach19_w {F : Fz} {w : World} (hF : Sat F w) (l : List Nd) (A : Option Addr) (n c : Nat) (hl : NodesF F A n l) (i : Nat) (hi : i < l.length) (hk : l[i].kind = 19) (T V : Option Addr) (nT cT nV cV : Nat) (hV : nV ≤ 1000)
    (vs : List (List (BitVec 64))) (hvs : RdR F V nV vs) (k : Nat) (hk2 : k ≤ 1000)
    (hN : ∀ X, Sat F X → Calls Tryz.prog 152 #[.slice T nT cT, .int .i64 i] X fun e w' => e = .returned (.int .i64 k) ∧ X = w') :
    Calls Tryz.prog 134 #[.slice A n c, .int .i64 i, .slice T nT cT, .slice V nV cV] w (RetM w nV (testM (valS vs) k)) := by
  have hE := Lib.hid (rsquare_w nV hV w)
  obtain ⟨rfl, hl2⟩ := hl
  obtain ⟨ad, rfl, hL⟩ := hl2 (by omega)
  obtain ⟨Ak, ck, _, _, hd⟩ := hL i hi
  have hiI : (i : Int) < (l.length : Int) := by omega
  obtain ⟨hvl, hvr⟩ := hvs
  have HVR := Lib.hid hvr
  have HVL := Lib.hid hvl
  have HN := Lib.hid hN
  generalize l[i] = nd at *
  obtain ⟨kind, name, lo, hi', kids⟩ := nd
  dsimp only at hk
  subst hk
  clear hvr hvl hN
  go_enter Tryz.func134, Tryz.ntmps134
  go_wp2_with (go_at_call 150; refine hE.out.mono ?_; rintro e w1 ⟨rfl, hS1, hb1⟩; obtain ⟨c0, c1, c2, c3, c4⟩ := hd.sat (hF.below hb1); have hS2 := hS1.alloc (.cells #[.int .i64 19, .string name, .int .i64 lo, .int .i64 hi', .slice Ak kids.length ck] 62); have hb2 := bthen hb1 (balloc w1 (.cells #[.int .i64 19, .string name, .int .i64 lo, .int .i64 hi', .slice Ak kids.length ck] 62)))
  rw [testTo_zero (valS vs) k] at hS2
  go_loopw [48] (fun v wr => ∃ p : Nat, p ≤ nV ∧ v = .int .i64 p ∧ SqF (heapF wr) w.heap.size nV (testTo (valS vs) k p) ∧ Below w.heap.size w wr) (fun v _ => nV - (intOf v).toNat)
  case atStart => exact ⟨0, Nat.zero_le _, rfl, hS2, hb2⟩
  case round =>
    obtain ⟨p, hp, rfl, hS, hbl⟩ := hrel
    by_cases hlt : p < nV
    · have hltI : (p : Int) < (nV : Int) := by omega
      have hFr := hF.below hbl
      have o1 := hS.slot hlt
      have o2 := hS.val hlt hlt
      have o3 := hS.soft hlt p
      obtain ⟨av, Ap, np, cp, rfl, hvc, hvw⟩ := HVR.out p (by rw [← HVL.out]; exact hlt)
      have v1 := hFr.cell hvc
      have hH := fun (X : World) (h : Sat F X) => has_any h (vs.getD p []) Ap np cp hvw k (by omega)
      have hst := hS.store (m' := testTo (valS vs) k (p + 1)) hlt p (valS vs p k) (testTo_step _ _ _)
      have hbs := fun u => hbl.setCell (p := ⟨w.heap.size + 1 + p, p, none⟩) (by show w.heap.size ≤ w.heap.size + 1 + p; omega) u
      have hbs2 := fun u => hbl.drew.setCell (p := ⟨w.heap.size + 1 + p, p, none⟩) (by show w.heap.size ≤ w.heap.size + 1 + p; omega) u
      have HST := Lib.hid hst
      have HH := Lib.hid hH
      have HVD : Hid (bitAt (vs.getD p []) k = valS vs p k) := Lib.hid rfl
      rw [HVD.out] at HH
      generalize valS vs p k = b at *
      clear hst hH hvc hvw
      go_wp2_with fail
      go_region_with
        (first
          | (go_at_call 152; refine (HN.out wr.drew hFr).mono ?_; rintro e w3 ⟨rfl, rfl⟩)
          | (go_at_call 151; refine (HH.out wr.drew hFr).mono ?_; rintro e w4 ⟨rfl, rfl⟩))
      all_goals
        go_wp2_with fail
        go_roundw
        case rel => exact ⟨p + 1, by omega, by go_num, HST.out, by first | exact (hbs _).drew | exact hbs2 _⟩
        case measure => simp [intOf]; omega
    · obtain rfl : p = nV := by omega
      have hdec : decide ((p : Int) < (p : Int)) = false := decide_eq_false (by omega)
      have hS3 := hS.congr (testTo_all _ _)
      go_wp2_with fail
      go_ret
      exact ⟨w.heap.size, rfl, Nat.le_refl _, hS3, hbl⟩
end Go.Proofs.YtdbbooibkiicnaaGreat
/-! The walk of the reference's reach at a union. -/
namespace Go.Proofs.YtdbbooibkiicnaaGreat
open Go.RowKit
set_option maxRecDepth 100000 in
set_option maxHeartbeats 4000000 in
theorem rreach20_w {F : Fz} {w : World} (hF : Sat F w) (l : List Nd) (A : Option Addr) (n c : Nat) (hl : NodesF F A n l) (i : Nat) (hi : i < l.length) (hk : l[i].kind = 20) (T V : Option Addr) (nT cT nV cV : Nat) (hV : nV ≤ 1000)
    (ia ib : Nat) (hab : ia ≠ ib) (hkids : l[i].kids = [(ia : Int), (ib : Int)]) (ma mb : Mx)
    (hA : ∀ X, Sat F X → Calls Tryz.prog 134 #[.slice A n c, .int .i64 ia, .slice T nT cT, .slice V nV cV] X (RetM X nV ma))
    (hB : ∀ X, Sat F X → Calls Tryz.prog 134 #[.slice A n c, .int .i64 ib, .slice T nT cT, .slice V nV cV] X (RetM X nV mb)) :
    Calls Tryz.prog 134 #[.slice A n c, .int .i64 i, .slice T nT cT, .slice V nV cV] w (RetM w nV (orM ma mb)) := by
  have hE := Lib.hid (rsquare_w nV hV w)
  have hAB : ∀ X, Sat F X → ∀ (z : Nat) (m : Mx), (z = ia ∧ m = ma ∨ z = ib ∧ m = mb) → Calls Tryz.prog 134 #[.slice A n c, .int .i64 z, .slice T nT cT, .slice V nV cV] X (RetM X nV m) := fun X h z m e => by
    rcases e with ⟨rfl, rfl⟩ | ⟨rfl, rfl⟩
    · exact hA X h
    · exact hB X h
  obtain ⟨rfl, hl2⟩ := hl
  have HAB := Lib.hid hAB
  obtain ⟨ad, rfl, hL⟩ := hl2 (by omega)
  obtain ⟨Ak, ck, _, hK, hd⟩ := hL i hi
  have hiI : (i : Int) < (l.length : Int) := by omega
  generalize l[i] = nd at *
  obtain ⟨kind, name, lo, hi', kids⟩ := nd
  dsimp only at hk hkids
  subst hk hkids
  obtain ⟨ak, v, rfl, hv, hk0⟩ := hK.at1 (k := 0) (by simp)
  obtain rfl : Value.int .i64 (ia : Int) = v := by simpa using hv
  obtain ⟨ak2, v, e2, hv, hk1⟩ := hK.at1 (k := 1) (by simp)
  obtain rfl : Value.int .i64 (ib : Int) = v := by simpa using hv
  injection e2 with e2
  subst e2
  rw [show ak.add 0 = ak by unfold Addr.add; simp] at hk0
  rw [show ak.add 1 = ⟨ak.block, ak.off + 1, none⟩ by simp [Addr.add]] at hk1
  clear hA hB hAB hv
  go_enter Tryz.func134, Tryz.ntmps134
  go_upto_region 17 with (go_at_call 150; refine hE.out.mono ?_; rintro e w1 ⟨rfl, hS1, hb1⟩; obtain ⟨c0, c1, c2, c3, c4⟩ := hd.sat (hF.below hb1); have hS2 := hS1.alloc (.cells #[.int .i64 20, .string name, .int .i64 lo, .int .i64 hi', .slice (some ak) 2 ck] 62); have hb2 := bthen hb1 (balloc w1 (.cells #[.int .i64 20, .string name, .int .i64 lo, .int .i64 hi', .slice (some ak) 2 ck] 62)))
  have hX : w1.heap.size < (w1.alloc (.cells #[.int .i64 20, .string name, .int .i64 lo, .int .i64 hi', .slice (some ak) 2 ck] 62)).heap.size := by simp
  obtain ⟨x0, x1, x2, x3, x4⟩ := blk5 (Blk.new w1 62 #[.int .i64 20, .string name, .int .i64 lo, .int .i64 hi', .slice (some ak) 2 ck])
  clear hS1 c0 c1 c2 c3 c4
  generalize w1.alloc (.cells #[.int .i64 20, .string name, .int .i64 lo, .int .i64 hi', .slice (some ak) 2 ck] 62) = W at *
  have hFW := hF.below hb2
  have y0 := hFW.cell hk0
  have y1 := hFW.cell hk1
  have l0 := hFW.clt hk0
  have l1 := hFW.clt hk1
  have HS2 := Lib.hid hS2
  clear hS2 hb1
  go_cut [14, 15] from 68 to 83 (fun a b wx => ∃ ga gb : Nat, a = .slice (some ⟨ga, 0, none⟩) nV nV ∧ b = .slice (some ⟨gb, 0, none⟩) nV nV ∧ SqF (heapF wx) ga nV ma ∧ SqF (heapF wx) gb nV mb ∧ Hid (w.heap.size + nV < ga) ∧ Hid (w.heap.size + nV < gb) ∧ Below W.heap.size W wx)
  case first =>
    go_region_held3 (fun w' => w'.cell? ⟨w1.heap.size, 4, none⟩ = some (.slice (some ak) 2 ck) ∧ w'.cell? ak = some (.int .i64 ia) ∧ w'.cell? ⟨ak.block, ak.off + 1, none⟩ = some (.int .i64 ib)) (go_keep)
      (first
        | (go_at_call 134; refine (HAB.out w3 hF3 ib mb (.inr ⟨rfl, rfl⟩)).mono ?_; rintro e w4 ⟨gb, rfl, hgb, hSb, hw4⟩; have hB4 : Below W.heap.size W w4 := bel_trans hB3 hw4; have hSa4 := hSa.call (w' := w4) hw4; have s0 := (hB4.cell (p := ⟨w1.heap.size, 4, none⟩) hX).trans x4; have s1 := (hB4.cell (p := ak) l0).trans y0; have s2 := (hB4.cell (p := ⟨ak.block, ak.off + 1, none⟩) l1).trans y1)
        | (go_at_call 134; refine (HAB.out _ (by first | exact hFW) ia ma (.inl ⟨rfl, rfl⟩)).mono ?_; rintro e w3 ⟨ga, rfl, hga, hSa, hw3⟩; have hB3 : Below W.heap.size W w3 := (by refine bel_trans ?_ hw3; first | exact bel_eqv (Below.refl _ W) rfl rfl rfl rfl); have hF3 := hFW.below hB3; have s0 := (hB3.cell (p := ⟨w1.heap.size, 4, none⟩) hX).trans x4; have s1 := (hB3.cell (p := ak) l0).trans y0; have s2 := (hB3.cell (p := ⟨ak.block, ak.off + 1, none⟩) l1).trans y1))
    all_goals
      go_wp2_with fail
      go_meet
      exact ⟨ga, gb, rfl, rfl, hSa4, hSb, Lib.hid (by have := HS2.out.end_; have h2 : W.heap.size ≤ ga := hga; omega), Lib.hid (by have := HS2.out.end_; have := hB3.size; omega), hB4⟩
  case rest =>
    obtain ⟨ga, gb, rfl, rfl, hSa, hSb, HFA, HFB, hbW⟩ := hcut
    have hSg := HS2.out.call hbW
    have hbl := bthen hb2 hbW
    rw [← done_zero (orM ma mb)] at hSg
    clear x0 x1 x2 x3 x4 y0 y1 l0 l1 hX
    have hz := hbl.size
    go_wp2_with fail
    go_loopw [85] (fun i wr => ∃ k : Nat, k ≤ nV ∧ i = .int .i64 k ∧ SqF (heapF wr) w.heap.size nV (doneM (orM ma mb) k 0) ∧ SqF (heapF wr) ga nV ma ∧ SqF (heapF wr) gb nV mb ∧ Below w.heap.size w wr) (fun i _ => nV - (intOf i).toNat)
    case atStart => exact ⟨0, Nat.zero_le _, rfl, hSg, hSa, hSb, hbl⟩
    case round =>
      obtain ⟨k, hk, rfl, hSg, hSa, hSb, hbl⟩ := hrel
      by_cases hlt : k < nV
      · have hltI : (k : Int) < (nV : Int) := by omega
        go_wp2_with fail
        go_loopw [89] (fun j wx => ∃ q : Nat, q ≤ nV ∧ j = .int .i64 q ∧ SqF (heapF wx) w.heap.size nV (doneM (orM ma mb) k q) ∧ SqF (heapF wx) ga nV ma ∧ SqF (heapF wx) gb nV mb ∧ Below w.heap.size w wx) (fun j _ => nV - (intOf j).toNat)
        case atStart => exact ⟨0, Nat.zero_le _, rfl, hSg, hSa, hSb, hbl⟩
        case round =>
          obtain ⟨q, hq, rfl, hSx, hSa, hSb, hbx⟩ := hrel
          by_cases hlx : q < nV
          · have hlxI : (q : Int) < (nV : Int) := by omega
            have a1 := hSa.slot hlt
            have a2 := hSa.val hlt hlx
            have b1 := hSb.slot hlt
            have b2 := hSb.val hlt hlx
            have o1 := hSx.slot hlt
            have o2 := hSx.val hlt hlx
            have o3 := hSx.soft hlt q
            have hst := hSx.store (m' := doneM (orM ma mb) k (q + 1)) hlt q (ma k q || mb k q) (done_step _ _ _)
            have hfa := fun u => hSa.far (p := ⟨w.heap.size + 1 + k, q, none⟩) (u := u) (.inl (by show w.heap.size + 1 + k < ga; have := HFA.out; omega))
            have hfb := fun u => hSb.far (p := ⟨w.heap.size + 1 + k, q, none⟩) (u := u) (.inl (by show w.heap.size + 1 + k < gb; have := HFB.out; omega))
            have hbs := fun u => hbx.setCell (p := ⟨w.heap.size + 1 + k, q, none⟩) (by show w.heap.size ≤ w.heap.size + 1 + k; omega) u
            have hbs2 := fun u => hbx.drew.setCell (p := ⟨w.heap.size + 1 + k, q, none⟩) (by show w.heap.size ≤ w.heap.size + 1 + k; omega) u
            have HST := Lib.hid hst
            clear hst
            cases hak : ma k q
            · rw [hak] at a2 HST
              rw [Bool.false_or] at HST
              go_wp2_with fail
              go_region
              go_wp2_with fail
              go_roundw
              case rel => exact ⟨q + 1, by omega, by go_num, HST.out, hfa _, hfb _, by first | exact (hbs _).drew | exact hbs2 _⟩
              case measure => simp [intOf]; omega
            · rw [hak] at a2 HST
              rw [Bool.true_or] at HST
              go_wp2_with fail
              go_region
              go_wp2_with fail
              go_roundw
              case rel => exact ⟨q + 1, by omega, by go_num, HST.out, hfa _, hfb _, by first | exact (hbs _).drew | exact hbs2 _⟩
              case measure => simp [intOf]; omega
          · obtain rfl : q = nV := by omega
            have hdec : decide ((q : Int) < (q : Int)) = false := decide_eq_false (by omega)
            go_wp2_with fail
            go_roundw
            case rel => exact ⟨k + 1, by omega, by go_num, hSx.congr (done_row _ _), hSa, hSb, hbx⟩
            case measure => simp [intOf]; omega
      · obtain rfl : k = nV := by omega
        have hdec : decide ((k : Int) < (k : Int)) = false := decide_eq_false (by omega)
        go_wp2_with fail
        go_ret
        exact ⟨w.heap.size, rfl, Nat.le_refl _, hSg.congr (done_all _), hbl⟩
end Go.Proofs.YtdbbooibkiicnaaGreat
/-! The walk of the reference's reach at a sequence. -/
namespace Go.Proofs.YtdbbooibkiicnaaGreat
open Go.RowKit
set_option maxRecDepth 100000 in
set_option maxHeartbeats 4000000 in
theorem rreach21_w {F : Fz} {w : World} (hF : Sat F w) (l : List Nd) (A : Option Addr) (n c : Nat) (hl : NodesF F A n l) (i : Nat) (hi : i < l.length) (hk : l[i].kind = 21) (T V : Option Addr) (nT cT nV cV : Nat) (hV : nV ≤ 1000)
    (ia ib : Nat) (hab : ia ≠ ib) (hkids : l[i].kids = [(ia : Int), (ib : Int)]) (ma mb : Mx)
    (hA : ∀ X, Sat F X → Calls Tryz.prog 134 #[.slice A n c, .int .i64 ia, .slice T nT cT, .slice V nV cV] X (RetM X nV ma))
    (hB : ∀ X, Sat F X → Calls Tryz.prog 134 #[.slice A n c, .int .i64 ib, .slice T nT cT, .slice V nV cV] X (RetM X nV mb)) :
    Calls Tryz.prog 134 #[.slice A n c, .int .i64 i, .slice T nT cT, .slice V nV cV] w (RetM w nV (prodM nV ma mb)) := by
  have hE := Lib.hid (rsquare_w nV hV w)
  have hAB : ∀ X, Sat F X → ∀ (z : Nat) (m : Mx), (z = ia ∧ m = ma ∨ z = ib ∧ m = mb) → Calls Tryz.prog 134 #[.slice A n c, .int .i64 z, .slice T nT cT, .slice V nV cV] X (RetM X nV m) := fun X h z m e => by
    rcases e with ⟨rfl, rfl⟩ | ⟨rfl, rfl⟩
    · exact hA X h
    · exact hB X h
  obtain ⟨rfl, hl2⟩ := hl
  have HAB := Lib.hid hAB
  obtain ⟨ad, rfl, hL⟩ := hl2 (by omega)
  obtain ⟨Ak, ck, _, hK, hd⟩ := hL i hi
  have hiI : (i : Int) < (l.length : Int) := by omega
  generalize l[i] = nd at *
  obtain ⟨kind, name, lo, hi', kids⟩ := nd
  dsimp only at hk hkids
  subst hk hkids
  obtain ⟨ak, v, rfl, hv, hk0⟩ := hK.at1 (k := 0) (by simp)
  obtain rfl : Value.int .i64 (ia : Int) = v := by simpa using hv
  obtain ⟨ak2, v, e2, hv, hk1⟩ := hK.at1 (k := 1) (by simp)
  obtain rfl : Value.int .i64 (ib : Int) = v := by simpa using hv
  injection e2 with e2
  subst e2
  rw [show ak.add 0 = ak by unfold Addr.add; simp] at hk0
  rw [show ak.add 1 = ⟨ak.block, ak.off + 1, none⟩ by simp [Addr.add]] at hk1
  clear hA hB hAB hv
  go_enter Tryz.func134, Tryz.ntmps134
  go_upto_region 28 with (go_at_call 150; refine hE.out.mono ?_; rintro e w1 ⟨rfl, hS1, hb1⟩; obtain ⟨c0, c1, c2, c3, c4⟩ := hd.sat (hF.below hb1); have hS2 := hS1.alloc (.cells #[.int .i64 21, .string name, .int .i64 lo, .int .i64 hi', .slice (some ak) 2 ck] 62); have hb2 := bthen hb1 (balloc w1 (.cells #[.int .i64 21, .string name, .int .i64 lo, .int .i64 hi', .slice (some ak) 2 ck] 62)))
  have hX : w1.heap.size < (w1.alloc (.cells #[.int .i64 21, .string name, .int .i64 lo, .int .i64 hi', .slice (some ak) 2 ck] 62)).heap.size := by simp
  obtain ⟨x0, x1, x2, x3, x4⟩ := blk5 (Blk.new w1 62 #[.int .i64 21, .string name, .int .i64 lo, .int .i64 hi', .slice (some ak) 2 ck])
  clear hS1 c0 c1 c2 c3 c4
  generalize w1.alloc (.cells #[.int .i64 21, .string name, .int .i64 lo, .int .i64 hi', .slice (some ak) 2 ck] 62) = W at *
  have hFW := hF.below hb2
  have y0 := hFW.cell hk0
  have y1 := hFW.cell hk1
  have l0 := hFW.clt hk0
  have l1 := hFW.clt hk1
  have HS2 := Lib.hid hS2
  clear hS2 hb1
  go_cut [8] from 118 to 134 (fun v wx => ∃ g : Nat, v = .slice (some ⟨g, 0, none⟩) nV nV ∧ w.heap.size ≤ g ∧ SqF (heapF wx) g nV (prodM nV ma mb) ∧ Below W.heap.size W wx)
  case first =>
    go_region_held3 (fun w' => w'.cell? ⟨w1.heap.size, 4, none⟩ = some (.slice (some ak) 2 ck) ∧ w'.cell? ak = some (.int .i64 ia) ∧ w'.cell? ⟨ak.block, ak.off + 1, none⟩ = some (.int .i64 ib)) (go_keep)
      (first
        | (go_at_call 153; refine (rproduct_w hV hSa4 hSb).mono ?_; rintro e w5 ⟨g5, rfl, hg5, hS5, hw5⟩; have hB5 : Below W.heap.size W w5 := bel_trans hB4 hw5; have s0 := (hB5.cell (p := ⟨w1.heap.size, 4, none⟩) hX).trans x4; have s1 := (hB5.cell (p := ak) l0).trans y0; have s2 := (hB5.cell (p := ⟨ak.block, ak.off + 1, none⟩) l1).trans y1)
        | (go_at_call 134; refine (HAB.out w3 hF3 ib mb (.inr ⟨rfl, rfl⟩)).mono ?_; rintro e w4 ⟨gb, rfl, hgb, hSb, hw4⟩; have hB4 : Below W.heap.size W w4 := bel_trans hB3 hw4; have hSa4 := hSa.call (w' := w4) hw4; have s0 := (hB4.cell (p := ⟨w1.heap.size, 4, none⟩) hX).trans x4; have s1 := (hB4.cell (p := ak) l0).trans y0; have s2 := (hB4.cell (p := ⟨ak.block, ak.off + 1, none⟩) l1).trans y1)
        | (go_at_call 134; refine (HAB.out _ (by first | exact hFW) ia ma (.inl ⟨rfl, rfl⟩)).mono ?_; rintro e w3 ⟨ga, rfl, hga, hSa, hw3⟩; have hB3 : Below W.heap.size W w3 := (by refine bel_trans ?_ hw3; first | exact bel_eqv (Below.refl _ W) rfl rfl rfl rfl); have hF3 := hFW.below hB3; have s0 := (hB3.cell (p := ⟨w1.heap.size, 4, none⟩) hX).trans x4; have s1 := (hB3.cell (p := ak) l0).trans y0; have s2 := (hB3.cell (p := ⟨ak.block, ak.off + 1, none⟩) l1).trans y1))
    all_goals
      go_wp2_with fail
      go_meet
      exact ⟨g5, rfl, by have := hb2.size; have := hB4.size; omega, hS5, hB5⟩
  case rest =>
    obtain ⟨g, rfl, hg, hS, hbW⟩ := hcut
    have hbl := bthen hb2 hbW
    clear x0 x1 x2 x3 x4 y0 y1 l0 l1 hX
    go_wp2_with fail
    go_ret
    exact ⟨g, rfl, hg, hS, hbl⟩
end Go.Proofs.YtdbbooibkiicnaaGreat
/-! The walk of the reference's reach at a closure. -/
namespace Go.Proofs.YtdbbooibkiicnaaGreat
open Go.RowKit
def reflTo (a : Mx) (i : Nat) : Mx := fun p q => (decide (p < i) && decide (p = q)) || a p q
theorem reflTo_zero (a : Mx) : a = reflTo a 0 := by funext p q; simp [reflTo]
theorem reflTo_step {n : Nat} (a : Mx) (i : Nat) (p q : Nat) (_ : p < n) (_ : q < n) : reflTo a (i + 1) p q = if p = i ∧ q = i then true else reflTo a i p q := by
  unfold reflTo
  by_cases e : p = i ∧ q = i
  · obtain ⟨rfl, rfl⟩ := e; simp
  · rw [if_neg e]
    by_cases h : p < i
    · simp [h, show p < i + 1 by omega]
    · by_cases h2 : p = i
      · subst h2
        have : decide (p = q) = false := by simp; omega
        simp [this]
      · simp [h, show ¬ p < i + 1 by omega]
theorem reflTo_all {n : Nat} (a : Mx) : EqM n (reflTo a n) (pwM n (reflM a) 1) := fun p q hp hq => by
  rw [pw_one p q hp hq]
  simp [reflTo, reflM, orM, idM, hp]
set_option maxRecDepth 100000 in
set_option maxHeartbeats 4000000 in
theorem rreach22_w {F : Fz} {w : World} (hF : Sat F w) (l : List Nd) (A : Option Addr) (n c : Nat) (hl : NodesF F A n l) (i : Nat) (hi : i < l.length) (hk : l[i].kind = 22) (T V : Option Addr) (nT cT nV cV : Nat) (hV : nV ≤ 1000)
    (ia : Nat) (hkids : l[i].kids = [(ia : Int)]) (ma : Mx) (hfw : FwM ma)
    (hA : ∀ X, Sat F X → Calls Tryz.prog 134 #[.slice A n c, .int .i64 ia, .slice T nT cT, .slice V nV cV] X (RetM X nV ma)) :
    Calls Tryz.prog 134 #[.slice A n c, .int .i64 i, .slice T nT cT, .slice V nV cV] w (RetM w nV (starM nV ma)) := by
  have hE := Lib.hid (rsquare_w nV hV w)
  have HA := Lib.hid hA
  have HFW := Lib.hid hfw
  obtain ⟨rfl, hl2⟩ := hl
  obtain ⟨ad, rfl, hL⟩ := hl2 (by omega)
  obtain ⟨Ak, ck, _, hK, hd⟩ := hL i hi
  have hiI : (i : Int) < (l.length : Int) := by omega
  generalize l[i] = nd at *
  obtain ⟨kind, name, lo, hi', kids⟩ := nd
  dsimp only at hk hkids
  subst hk hkids
  obtain ⟨ak, v, rfl, hv, hk0⟩ := hK.at1 (k := 0) (by simp)
  obtain rfl : Value.int .i64 (ia : Int) = v := by simpa using hv
  rw [show ak.add 0 = ak by unfold Addr.add; simp] at hk0
  clear hA hv hfw
  go_enter Tryz.func134, Tryz.ntmps134
  go_wp2_with (first
    | (go_at_call 150; refine hE.out.mono ?_; rintro e w1 ⟨rfl, hS1, hb1⟩; obtain ⟨c0, c1, c2, c3, c4⟩ := hd.sat (hF.below hb1); have hb2 := bthen hb1 (balloc w1 (.cells #[.int .i64 22, .string name, .int .i64 lo, .int .i64 hi', .slice (some ak) 1 ck] 62)); have hF2 := hF.below hb2; have y0 := hF2.cell hk0)
    | (go_at_call 134; refine (HA.out _ hF2).mono ?_; rintro e w3 ⟨ga, rfl, hga, hSa, hw3⟩; have hb3 := bthen hb2 hw3))
  have hga2 : w.heap.size ≤ ga := by have := hb2.size; omega
  rw [reflTo_zero ma] at hSa
  clear hw3 hga
  go_loopw [146] (fun v wr => ∃ p : Nat, p ≤ nV ∧ v = .int .i64 p ∧ SqF (heapF wr) ga nV (reflTo ma p) ∧ Below w.heap.size w wr) (fun v _ => nV - (intOf v).toNat)
  case atStart => exact ⟨0, Nat.zero_le _, rfl, hSa, hb3⟩
  case round =>
    obtain ⟨p, hp, rfl, hS, hbl⟩ := hrel
    by_cases hlt : p < nV
    · have hltI : (p : Int) < (nV : Int) := by omega
      have o1 := hS.slot hlt
      have o2 := hS.val hlt hlt
      have o3 := hS.soft hlt p
      have hst := hS.store (m' := reflTo ma (p + 1)) hlt p true (reflTo_step _ _)
      have hbs := hbl.setCell (p := ⟨ga + 1 + p, p, none⟩) (by show w.heap.size ≤ ga + 1 + p; omega) (.bool true)
      go_wp2_with fail
      go_roundw
      case rel => exact ⟨p + 1, by omega, by go_num, hst, hbs⟩
      case measure => simp [intOf]; omega
    · obtain rfl : p = nV := by omega
      have hdec : decide ((p : Int) < (p : Int)) = false := decide_eq_false (by omega)
      have hS2 := hS.congr (reflTo_all ma)
      clear hS
      go_wp2_with fail
      go_loopw [10, 19] (fun m v wr => ∃ g k : Nat, 1 ≤ k ∧ k ≤ 2 * p + 2 ∧ m = .slice (some ⟨g, 0, none⟩) p p ∧ v = .int .i64 k ∧ w.heap.size ≤ g ∧ SqF (heapF wr) g p (pwM p (reflM ma) k) ∧ Below w.heap.size w wr) (fun _ v _ => p - (intOf v).toNat)
      case atStart => exact ⟨ga, 1, Nat.le_refl _, by omega, rfl, rfl, hga2, hS2, hbl⟩
      case round =>
        obtain ⟨g, k, hk1, hk2, rfl, rfl, hg, hSk, hbk⟩ := hrel
        by_cases hkp : k < p
        · have hkI : (k : Int) < (p : Int) := by omega
          have hk2I : (k : Int) ≤ 1000 := by omega
          have hP := Lib.hid (rproduct_w hV hSk hSk)
          go_wp2_with (go_at_call 153; refine hP.out.mono ?_; rintro e w5 ⟨g5, rfl, hg5, hS5, hw5⟩)
          have hbz := hbk.size
          go_roundw
          case rel =>
            refine ⟨g5, k + k, by omega, by omega, rfl, ?_, by omega, hS5.congr (pw_twice k), hbk.trans (hw5.mono hbz)⟩
            go_num
          case measure => simp [intOf]; omega
        · have hdec2 : decide ((k : Int) < (p : Int)) = false := decide_eq_false (by omega)
          have hS6 := hSk.congr (m' := starM p ma) fun i j hi hj => pw_star HFW.out hi hj (by omega)
          go_wp2_with fail
          go_ret
          exact ⟨g, rfl, hg, hS6, hbk⟩
end Go.Proofs.YtdbbooibkiicnaaGreat
/-! The reference's reach over a whole tree, and its Reach. -/
namespace Go.Proofs.YtdbbooibkiicnaaGreat
open Go.RowKit
theorem get_placed {l pre post : List Nd} {t : Tr} {o : Nat} (hl : l = pre ++ t.flat o ++ post) (hp : pre.length = o) : ∃ h : o + t.size - 1 < l.length, l[o + t.size - 1] = { t.root with kids := t.rootKids o } := by
  have hs := t.size_pos
  have h1 := Tr.flat_last t o
  have h2 : l[o + t.size - 1]? = some { t.root with kids := t.rootKids o } := by
    rw [hl, List.append_assoc, List.getElem?_append_right (by omega), List.getElem?_append_left (by rw [Tr.length_flat]; omega), show o + t.size - 1 - pre.length = t.size - 1 by omega, h1]
  obtain ⟨h3, h4⟩ := List.getElem?_eq_some_iff.1 h2
  exact ⟨h3, h4⟩
theorem rreach_w {F : Fz} (l : List Nd) (hn : l.length ≤ 1000) (A : Option Addr) (n c : Nat) (hl : NodesF F A n l) (T V : Option Addr) (nT cT nV cV : Nat) (hV : nV ≤ 1000)
    (vs : List (List (BitVec 64))) (hvs : RdR F V nV vs) (Tl : List Nat) (hT : Rd F 1 T nT ((zs Tl).map encI)) (hTn : nT ≤ 1000) (hTs : Tl.Pairwise (· < ·)) :
    ∀ (t : Tr) (o : Nat) (pre post : List Nd) (T1 T2 : List Nat), l = pre ++ t.flat o ++ post → pre.length = o → regV t → Tl = T1 ++ testsL t o ++ T2 → ∀ w, Sat F w →
    Calls Tryz.prog 134 #[.slice A n c, .int .i64 (o + t.size - 1 : Nat), .slice T nT cT, .slice V nV cV] w (RetM w nV (reachT nV (valS vs) t T1.length))
  | .leaf h, o, pre, post, T1, T2, hl2, hp, hv, hTl, w, hF => by
    obtain ⟨hi, hg⟩ := get_placed hl2 hp
    exact rreach18_w hF l A n c hl _ hi (by rw [hg]; exact hv) T V nT cT nV cV hV
  | .un h a, o, pre, post, T1, T2, hl2, hp, hv, hTl, w, hF => by
    obtain ⟨hi, hg⟩ := get_placed hl2 hp
    by_cases h19 : h.kind = 19
    · have ht : testsL (.un h a) o = [o + a.size] := by simp [testsL, h19]
      rw [ht] at hTl
      have hlen : nT = Tl.length := by have := hT.1; simp [zs] at this; omega
      have hx : o + a.size ∉ T1 := by
        intro hm
        rw [hTl, List.append_assoc, List.pairwise_append] at hTs
        have := hTs.2.2 _ hm (o + a.size) (by simp)
        omega
      have hN := fun X (hX : Sat F X) => number_w hX T1 T2 (o + a.size) hx T nT cT (by rw [show T1 ++ (o + a.size) :: T2 = Tl by rw [hTl]; simp]; exact hT) hTn
      have hr : reachT nV (valS vs) (.un h a) T1.length = testM (valS vs) T1.length := by simp [reachT, h19]
      rw [hr]
      have hsz : o + (Tr.un h a).size - 1 = o + a.size := by simp [Tr.size]
      refine rreach19_w hF l A n c hl _ hi (by rw [hg]; exact h19) T V nT cT nV cV hV vs hvs T1.length (by rw [hlen, hTl] at hTn; simp at hTn; omega) ?_
      intro X hX
      rw [hsz]
      exact hN X hX
    · rcases hv with hv | ⟨hv, hva⟩
      · exact absurd hv h19
      · have ht : testsL (.un h a) o = testsL a o := by simp [testsL, h19]
        rw [ht] at hTl
        have ih := rreach_w l hn A n c hl T V nT cT nV cV hV vs hvs Tl hT hTn hTs a o pre ({ h with kids := [((o + a.size : Nat) : Int) - 1] } :: post) T1 T2 (by rw [hl2, Tr.flat]; simp) hp hva hTl
        have hr : reachT nV (valS vs) (.un h a) T1.length = starM nV (reachT nV (valS vs) a T1.length) := by simp [reachT, h19]
        rw [hr]
        have hs := a.size_pos
        refine rreach22_w hF l A n c hl _ hi (by rw [hg]; exact hv) T V nT cT nV cV hV (o + a.size - 1) ?_ _ (reach_fw _ _ _ _) ih
        rw [hg]
        show [((o + a.size : Nat) : Int) - 1] = _
        simp only [List.cons.injEq, and_true]
        omega
  | .bin h a b, o, pre, post, T1, T2, hl2, hp, hv, hTl, w, hF => by
    obtain ⟨hi, hg⟩ := get_placed hl2 hp
    obtain ⟨hk, hva, hvb⟩ := hv
    have ht : testsL (.bin h a b) o = testsL a o ++ testsL b (o + a.size) := rfl
    rw [ht] at hTl
    have iha := rreach_w l hn A n c hl T V nT cT nV cV hV vs hvs Tl hT hTn hTs a o pre (b.flat (o + a.size) ++ { h with kids := [((o + a.size : Nat) : Int) - 1, ((o + a.size + b.size : Nat) : Int) - 1] } :: post) T1 (testsL b (o + a.size) ++ T2) (by rw [hl2, Tr.flat]; simp) hp hva (by rw [hTl]; simp)
    have ihb := rreach_w l hn A n c hl T V nT cT nV cV hV vs hvs Tl hT hTn hTs b (o + a.size) (pre ++ a.flat o) ({ h with kids := [((o + a.size : Nat) : Int) - 1, ((o + a.size + b.size : Nat) : Int) - 1] } :: post) (T1 ++ testsL a o) T2 (by rw [hl2, Tr.flat]; simp) (by simp [hp, Tr.length_flat]) hvb (by rw [hTl]; simp)
    rw [List.length_append, length_tests] at ihb
    have hsa := a.size_pos
    have hsb := b.size_pos
    have hkids : l[o + (Tr.bin h a b).size - 1].kids = [((o + a.size - 1 : Nat) : Int), ((o + a.size + b.size - 1 : Nat) : Int)] := by
      rw [hg]
      show [((o + a.size : Nat) : Int) - 1, ((o + a.size + b.size : Nat) : Int) - 1] = _
      simp only [List.cons.injEq, and_true]
      omega
    rcases hk with hk | hk
    · have hr : reachT nV (valS vs) (.bin h a b) T1.length = orM (reachT nV (valS vs) a T1.length) (reachT nV (valS vs) b (T1.length + testsT a)) := by simp [reachT, hk]
      rw [hr]
      exact rreach20_w hF l A n c hl _ hi (by rw [hg]; exact hk) T V nT cT nV cV hV _ _ (by omega) hkids _ _ iha ihb
    · have hr : reachT nV (valS vs) (.bin h a b) T1.length = prodM nV (reachT nV (valS vs) a T1.length) (reachT nV (valS vs) b (T1.length + testsT a)) := by simp [reachT, hk]
      rw [hr]
      exact rreach21_w hF l A n c hl _ hi (by rw [hg]; exact hk) T V nT cT nV cV hV _ _ (by omega) hkids _ _ iha ihb
theorem RdR.cle {F F' : Fz} {A : Option Addr} {n : Nat} {gs : List (List (BitVec 64))} (h : RdR F A n gs) (hle : CLe F F') : RdR F' A n gs :=
  ⟨h.1, fun i hi => let ⟨ad, Ai, ni, ci, e, h1, h2⟩ := h.2 i hi; ⟨ad, Ai, ni, ci, e, hle _ _ h1, h2.1, fun h0 => let ⟨a, e2, h3⟩ := h2.2 h0; ⟨a, e2, fun j u hu => hle _ _ (h3 j u hu)⟩⟩⟩
/-- What Reach of a list leaves: nothing of what is no regular expression. -/
def RetR14 (w : World) (l : List Nd) (n : Nat) (v : Nat → Nat → Bool) (e : Ending) (w' : World) : Prop :=
  (regL l = false → e = .returned (.slice none 0 0) ∧ Below w.heap.size w w') ∧ ∀ t, treeS l = some t → regS t.root.kind = true → RetM w n (reachT n v t 0) e w'
set_option maxRecDepth 100000 in
theorem rReach_w {F : Fz} {w : World} (hF : Sat F w) (l : List Nd) (hn : l.length ≤ 1000) (A : Option Addr) (n c : Nat) (hl : NodesF F A n l) (V : Option Addr) (nV cV : Nat) (hV : nV ≤ 1000)
    (vs : List (List (BitVec 64))) (hvs : RdR F V nV vs) :
    Calls Tryz.prog 114 #[.slice A n c, .slice V nV cV] w (RetR14 w l nV (valS vs)) := by
  have hR := fun b hb => rreg_w hF l hn A n c hl b hb
  cases hreg : regL l
  · have HR := Lib.hid (hR _ hreg)
    have HX : Hid (∀ t, treeS l = some t → regS t.root.kind = true → False) := Lib.hid (fun t h1 h2 => by unfold regL at hreg; rw [h1] at hreg; simp only at hreg; rw [h2] at hreg; cases hreg)
    have HG := Lib.hid hreg
    clear hR hreg
    go_enter Tryz.func114, Tryz.ntmps114
    go_wp2_with (go_at_call 61; refine HR.out.mono ?_; rintro e w1 ⟨rfl, hw⟩)
    go_ret
    exact ⟨fun _ => ⟨rfl, hw⟩, fun t h1 h2 => (HX.out t h1 h2).elim⟩
  · have HR := Lib.hid (hR _ hreg)
    obtain ⟨t, ht, hrk, he⟩ := ownS_yes hreg
    have hv := regV_of (tree_valid ht) hrk
    have htl := tree_len ht
    have hsp := t.size_pos
    have hks : kindS l 19 = testsL t 0 := by unfold kindS; rw [he]; exact ownK_tests (tree_flat ht) hv
    have hTs : (testsL t 0).Pairwise (· < ·) := by rw [← hks]; unfold kindS; rw [he]; exact (own_sorted t 0).filter _
    have hTn : (testsL t 0).length ≤ 1000 := by rw [length_tests]; have := testsT_le t; omega
    have hTT := fun (X : World) (h : Sat F X) => rtests_w h l hn A n c hl
    rw [hks] at hTT
    have hrr := fun (X : World) (hX : Sat F X) (B : Option Addr) (nB cB : Nat) (hr : Rd (heapF X) 1 B nB ((zs (testsL t 0)).map encI)) (hnB : nB ≤ 1000) =>
      rreach_w (F := heapF X) l hn A n c (hl.cle hX.cle) B V nB cB nV cV hV vs (hvs.cle hX.cle) (testsL t 0) hr hnB hTs t 0 [] [] [] [] (by simpa using tree_flat ht) rfl hv (by simp) X (sat_heapF X)
    rw [Nat.zero_add] at hrr
    have hT1 : Hid (∀ s, treeS l = some s → s = t) := Lib.hid (fun s h => by rw [ht] at h; injection h with h; exact h.symm)
    have hpl : ((n : Int) - 1) = ((t.size - 1 : Nat) : Int) := by obtain ⟨e, _⟩ := hl; omega
    have HPL := Lib.hid hpl
    have hnn : n ≤ 1000 := by obtain ⟨e, _⟩ := hl; omega
    obtain ⟨M, hM⟩ : ∃ M, reachT nV (valS vs) t 0 = M := ⟨_, rfl⟩
    have HM := Lib.hid hM
    rw [List.length_nil, hM] at hrr
    obtain ⟨N, hN⟩ : ∃ N, (zs (testsL t 0)).length = N := ⟨_, rfl⟩
    have HN := Lib.hid hN
    have hN1 : N ≤ 1000 := by rw [← hN, length_zs]; exact hTn
    generalize zs (testsL t 0) = TL at *
    have HTT := Lib.hid hTT
    have HRR := Lib.hid hrr
    have HG := Lib.hid hreg
    clear hR hreg ht hrk he hv htl hsp hks hTs hTn hTT hrr hpl hM hN
    go_enter Tryz.func114, Tryz.ntmps114
    go_wp2_with (go_at_call 61; refine HR.out.mono ?_; rintro e w1 ⟨rfl, hw1⟩)
    go_at_call 132
    refine (HTT.out _ (hF.below hw1)).mono ?_
    rintro e w2 ⟨B, cB, rfl, hcB, hrB, hw2⟩
    rw [HN.out] at hrB
    rw [HN.out]
    have hw12 := bthen hw1 hw2
    go_wp2_with fail
    rw [HPL.out]
    go_at_call 134
    refine (HRR.out _ (hF.below hw12) B N cB hrB hN1).mono ?_
    rintro e w3 ⟨g, rfl, hg, hS, hw3⟩
    go_wp2_with fail
    go_ret
    have hz := hw12.size
    refine ⟨fun h => (by rw [HG.out] at h; cases h), fun s h1 h2 => ?_⟩
    obtain rfl := hT1.out s h1
    rw [HM.out]
    exact ⟨g, rfl, by omega, hS, bthen hw12 hw3⟩
end Go.Proofs.YtdbbooibkiicnaaGreat
