/- The walk of the law PathsUnion where there is no point. -/
import Derived.Test.YtkhhjihbahdepaaWords
set_option linter.unusedVariables false
set_option linter.unusedSimpArgs false
namespace Go.Proofs.Ytkhhjihbahdepaa
open Go.RowKit
set_option maxRecDepth 100000 in
set_option maxHeartbeats 8000000 in
theorem pathsUnion_0 {F : Fz} {w : World} (hF : Sat F w) (ns : List Nat) (hns : ∀ k ∈ ns, k < 65536) (B : Option Addr) (m d : Nat) (hr : Rd F 1 B m (ns.map encW)) (ms : List Nat) (hms : ∀ k ∈ ms, k < 65536) (B' : Option Addr) (m' d' : Nat) (hr' : Rd F 1 B' m' (ms.map encW))
    (fs : List (BitVec 64)) (A : Option Addr) (n c : Nat) (hf : Rd F 1 A n (fs.map u)) (gs : List (BitVec 64)) (A' : Option Addr) (n' c' : Nat) (hg : Rd F 1 A' n' (gs.map u)) (h0 : min (fs.take 9).length (gs.take 9).length = 0) :
    Calls Try.prog 3 #[.slice B m d, .slice B' m' d', .slice A n c, .slice A' n' c'] w fun e w' => e = .returned (.bool true) ∧ Below w.heap.size w w' := by
  have hRa := Lib.hid (reg5_w hF ns hns B m d hr false (regT false ns) rfl)
  have hRb := Lib.hid (fun (X : World) (h : Sat F X) => reg5_w h ms hms B' m' d' hr' false (regT false ms) rfl)
  have oka := (make_ok false ns hns).2
  have okb := (make_ok false ms hms).2
  have sza := (make_size false ns).2
  have szb := (make_size false ms).2
  generalize regT false ns = ta at *
  generalize regT false ms = tb at *
  obtain ⟨t1, ht1, hr1⟩ := ok_regS oka
  obtain ⟨t2, ht2, hr2⟩ := ok_regS okb
  obtain ⟨t3, ht3, hr3⟩ := ok_regS (binR (n := nd20) (fK2 20 (by omega)) (by decide) (by decide) (by decide) _ _ oka okb)
  obtain ⟨t4, ht4, hr4⟩ := ok_regS (binR (n := nd21) (fK2 21 (by omega)) (by decide) (by decide) (by decide) _ _ oka okb)
  obtain ⟨t5, ht5, hr5⟩ := ok_regS (unR (n := nd22) (fK1 22 (by omega)) (by decide) (by decide) (by decide) _ oka)
  have hta : (zs (kindS (ta.flat 0) 19)).length = testsT ta := by
    have hv := regV_of (tree_valid ht1) hr1
    have he : ownS (ta.flat 0) = ownT t1 0 := by unfold ownS; rw [ht1]; simp only; rw [if_pos hr1]
    rw [length_zs]
    unfold kindS
    rw [he]
    have h1 := ownK_tests (l := ta.flat 0) (t := t1) (tree_flat ht1) hv
    unfold ownK at h1
    rw [h1, length_tests]
    exact shape_tests (shape_of_flat t1 ta 0 (tree_flat ht1).symm)
  have hta2 := testsT_le ta
  obtain ⟨fa, hfa⟩ : ∃ fa, fs.take 9 = fa := ⟨_, rfl⟩
  obtain ⟨fb, hfb⟩ : ∃ fb, gs.take 9 = fb := ⟨_, rfl⟩
  obtain ⟨k1, hk1⟩ : ∃ k, fa.length = k := ⟨_, rfl⟩
  obtain ⟨k2, hk2⟩ : ∃ k, fb.length = k := ⟨_, rfl⟩
  have hk19 : k1 ≤ 9 := by rw [← hk1, ← hfa]; exact List.length_take_le _ _
  have hk29 : k2 ≤ 9 := by rw [← hk2, ← hfb]; exact List.length_take_le _ _
  have HPa := Lib.hid (fun (X : World) (h : Sat F X) => points_w h fs A n c hf fa hfa k1 hk1)
  have HPb := Lib.hid (fun (X : World) (h : Sat F X) => points_w h gs A' n' c' hg fb hfb k2 hk2)
  rw [hfa, hfb, hk1, hk2] at h0
  obtain ⟨N, hN⟩ : ∃ N, min k1 k2 = N := ⟨_, rfl⟩
  have hN00 : N = 0 := by omega
  clear h0
  have hmin : min (k1 : Int) (k2 : Int) = (N : Int) := by omega
  have hN1 : N ≤ k1 := by omega
  have hN2 : N ≤ k2 := by omega
  have hN9 : N ≤ 9 := by omega
  obtain ⟨X, hX⟩ : ∃ X : Mx, reachT N (valS ((fa.map fun x => [x]).take N)) ta 0 = X := ⟨_, rfl⟩
  obtain ⟨Y, hY⟩ : ∃ Y : Mx, reachT N (valS ((fb.map fun x => [x]).take N)) tb 0 = Y := ⟨_, rfl⟩
  have hfw : FwM X := by rw [← hX]; exact reach_fw _ _ _ _
  have HEX := Lib.hid (show reachT N (valS ((fa.map fun x => [x]).take N)) t1 0 = X by rw [reach_of_flat ht1 rfl, hX])
  have HEY := Lib.hid (show reachT N (valS ((fb.map fun x => [x]).take N)) t2 0 = Y by rw [reach_of_flat ht2 rfl, hY])
  have HEM := Lib.hid (show reachT N (valS ((fa.map fun x => [x]).take N)) t5 0 = starM N X by
    rw [reach_of_flat ht5 rfl, ← hX]; rfl)
  have HEA := Lib.hid (fun (rows : List (List (BitVec 64))) (h : ∀ i, i < N → ∀ q, bitAt (rows.getD i []) q = bes (testsT ta) (fa.getD i 0#64) (fb.getD i 0#64) q) => show EqM N (reachT N (valS rows) t3 0) (orM X Y) ∧ EqM N (reachT N (valS rows) t4 0) (prodM N X Y) by
    obtain ⟨b1, b2⟩ := bes_vals (n := N) (by omega) (by omega) h
    obtain ⟨a1, a2⟩ := alt_reach (n := N) (va := valS ((fa.map fun x => [x]).take N)) (vb := valS ((fb.map fun x => [x]).take N)) (v := valS rows) (ta := ta) (tb := tb) b1 (fun i hi q _ => b2 i hi q)
    rw [hX, hY] at a1 a2
    rw [reach_of_flat ht3 rfl, reach_of_flat ht4 rfl]
    exact ⟨a1, a2⟩)
  obtain ⟨TA, hTA⟩ : ∃ TA, testsT ta = TA := ⟨_, rfl⟩
  rw [hTA] at hta hta2 HEA
  have hTA1 : TA ≤ 100 := by omega
  have HKa := Lib.hid (flat_kids ta 0 (by omega))
  have HKb := Lib.hid (flat_kids tb 0 (by omega))
  have HFW := Lib.hid hfw
  have HR1 := Lib.hid (And.intro ht1 hr1)
  have HR2 := Lib.hid (And.intro ht2 hr2)
  have HR3 := Lib.hid (And.intro ht3 hr3)
  have HR4 := Lib.hid (And.intro ht4 hr4)
  have HR5 := Lib.hid (And.intro ht5 hr5)
  have HG1 := Lib.hid (reg_of ht1 hr1)
  have HG2 := Lib.hid (reg_of ht2 hr2)
  have HG3 := Lib.hid (reg_of ht3 hr3)
  have HG4 := Lib.hid (reg_of ht4 hr4)
  have HG5 := Lib.hid (reg_of ht5 hr5)
  have e20 := over_bin nd20 ta tb
  have e21 := over_bin nd21 ta tb
  have e22 := over_un nd22 ta
  have l3 : ((Tr.bin nd20 ta tb).flat 0).length ≤ 1000 := by rw [Tr.length_flat]; simp [Tr.size]; omega
  have l4 : ((Tr.bin nd21 ta tb).flat 0).length ≤ 1000 := by rw [Tr.length_flat]; simp [Tr.size]; omega
  have l5 : ((Tr.un nd22 ta).flat 0).length ≤ 1000 := by rw [Tr.length_flat]; simp [Tr.size]; omega
  have l1 : (ta.flat 0).length ≤ 1000 := by rw [Tr.length_flat]; omega
  have l2 : (tb.flat 0).length ≤ 1000 := by rw [Tr.length_flat]; omega
  generalize (Tr.bin nd20 ta tb).flat 0 = L3 at *
  generalize (Tr.bin nd21 ta tb).flat 0 = L4 at *
  generalize (Tr.un nd22 ta).flat 0 = L5 at *
  generalize ta.flat 0 = r at *
  generalize tb.flat 0 = s at *
  obtain ⟨nr, hnr⟩ : ∃ x, r.length = x := ⟨_, rfl⟩
  obtain ⟨nS, hnS⟩ : ∃ x, s.length = x := ⟨_, rfl⟩
  obtain ⟨n3, hn3⟩ : ∃ x, L3.length = x := ⟨_, rfl⟩
  obtain ⟨n4, hn4⟩ : ∃ x, L4.length = x := ⟨_, rfl⟩
  obtain ⟨n5, hn5⟩ : ∃ x, L5.length = x := ⟨_, rfl⟩
  have Hn1 := Lib.hid hnr
  have Hn2 := Lib.hid hnS
  have Hn3 := Lib.hid hn3
  have Hn4 := Lib.hid hn4
  have Hn5 := Lib.hid hn5
  have HL1 := Lib.hid l1
  have HL2 := Lib.hid l2
  have HL3 := Lib.hid l3
  have HL4 := Lib.hid l4
  have HL5 := Lib.hid l5
  have HE20 := Lib.hid e20
  have HE21 := Lib.hid e21
  have HE22 := Lib.hid e22
  have HTA := Lib.hid hta
  have HFA := Lib.hid hk1
  have HFB := Lib.hid hk2
  clear oka okb sza szb ht1 hr1 ht2 hr2 ht3 hr3 ht4 hr4 ht5 hr5 hta hTA hfa hfb hk1 hk2 hN hX hY hfw e20 e21 e22 l1 l2 l3 l4 l5 hnr hnS hn3 hn4 hn5 hr hr' hf hg hns hms hta2
  have HN00 := Lib.hid hN00
  clear hN00
  go_enter Try.func3, Try.ntmps3
  go_wp2_with fail
  go_at_call 11
  refine hRa.out.mono ?_
  rintro e W1 ⟨A1, c1, F1, rfl, hc1, hr1, hb1, hF1, hle1⟩
  rw [Hn1.out] at hr1 hc1
  rw [Hn1.out]
  have hFW1 := hF.below hb1
  go_wp2_with fail
  go_at_call 11
  refine (hRb.out _ hFW1).mono ?_
  rintro e W2 ⟨A2, c2, F2, rfl, hc2, hr2, hb2, hF2, hle2⟩
  rw [Hn2.out] at hr2 hc2
  rw [Hn2.out]
  have hFW2 := hFW1.below hb2
  go_wp2_with fail
  go_at_call 12
  refine (HPa.out _ hFW2).mono ?_
  rintro e W3 ⟨P1, d1, rfl, hd1, hP1n, hP1, hb3⟩
  have hFW3 := hFW2.below hb3
  go_wp2_with fail
  go_at_call 12
  refine (HPb.out _ hFW3).mono ?_
  rintro e W4 ⟨P2, d2, rfl, hd2, hP2n, hP2, hb4⟩
  have hra4 := (((hr1.cle hF1.cle).cle (cle_below hb2)).cle (cle_below hb3)).cle (cle_below hb4)
  have hT := rtests_w (sat_heapF W4) r HL1.out A1 nr c1 hra4
  have HT4 := Lib.hid hT
  clear hT
  go_wp2_with fail
  go_at_call 14
  refine HT4.out.mono ?_
  rintro e W5 ⟨AT, cT, rfl, hcT, hrT, hb5⟩
  rw [HTA.out]
  have hP15 := (hP1.cle (cle_below hb4)).cle (cle_below hb5)
  have hP25 := hP2.cle (cle_below hb5)
  have HBe := Lib.hid (beside_w (sat_heapF W5) TA hTA1 fa fb P1 P2 k1 k2 d1 d2 hP15 hP25 N (by omega) hN9)
  clear hrT hcT
  go_wp2_with fail
  go_at_call 13
  refine HBe.out.mono ?_
  rintro e W6 ⟨PB, dB, rows, rfl, hdB, hRW, hBes, hb6⟩
  obtain ⟨q3, q4⟩ := HEA.out rows hBes
  have hs6 := ((((hr2.cle hF2.cle).cle (cle_below hb3)).cle (cle_below hb4)).cle (cle_below hb5)).cle (cle_below hb6)
  have hr6 := (hra4.cle (cle_below hb5)).cle (cle_below hb6)
  have hP16 := (hP15.cle (cle_below hb6)).preR hN1
  have hP26 := (hP25.cle (cle_below hb6)).preR hN2
  have hq6 := bthen (bthen (bthen (bthen (bthen hb1 hb2) hb3) hb4) hb5) hb6
  have hG6 : Sat (heapF W6) W6 := sat_heapF W6
  have HX := Lib.hid (fun (Z : World) (h : Sat (heapF W6) Z) => pReachTab h r HL1.out A1 nr c1 hr6 P1 N d1 (by omega) _ hP16)
  have HY := Lib.hid (fun (Z : World) (h : Sat (heapF W6) Z) => pReachTab h s HL2.out A2 nS c2 hs6 P2 N d2 (by omega) _ hP26)
  have HO20 := Lib.hid (fun (Z : World) (h : Sat (heapF W6) Z) => over_w h nd20 none 0 0 r s HL1.out HL2.out A1 A2 nr nS c1 c2 hr6 hs6 HKb.out)
  have HO21 := Lib.hid (fun (Z : World) (h : Sat (heapF W6) Z) => over_w h nd21 none 0 0 r s HL1.out HL2.out A1 A2 nr nS c1 c2 hr6 hs6 HKb.out)
  have HO22 := Lib.hid (fun (Z : World) (h : Sat (heapF W6) Z) => over_w h nd22 none 0 0 r [] HL1.out (by simp) A1 none nr 0 c1 0 hr6 (NodesF.nil _ _) (fun n hn => by cases hn))
  rw [HE20.out] at HO20
  rw [HE21.out] at HO21
  rw [HE22.out] at HO22
  have HRW := Lib.hid hRW
  have HQ3 := Lib.hid q3
  have HQ4 := Lib.hid q4
  have HP16 := Lib.hid hP16
  have hN1I : (N : Int) ≤ (d1 : Int) := by omega
  have hN2I : (N : Int) ≤ (d2 : Int) := by omega
  clear hRW hBes q3 q4 hP15 hP25 hP16 hP26 hr1 hr2 hra4 hs6 hr6 hP1 hP2 hb1 hb2 hb3 hb4 hb5 hb6 hle1 hle2
  obtain rfl : N = 0 := HN00.out
  rcases P1 with _ | ad1
  · have hd0 := hP1n rfl
    subst hd0
    obtain rfl : k1 = 0 := by omega
    rcases P2 with _ | ad2
    · have hd0 := hP2n rfl
      subst hd0
      obtain rfl : k2 = 0 := by omega
      go_upto_region 5 with fail
      go_cut [15, 16] from 44 to 53 (fun x y wx => ∃ (A5 : Option Addr) (c5 : Nat) (A6 : Option Addr) (c6 : Nat), x = .slice A5 0 c5 ∧ y = .slice A6 0 c6 ∧ (0 < 0 → ∃ g, A5 = some ⟨g, 0, none⟩ ∧ SqF (heapF wx) g 0 X) ∧ (0 < 0 → ∃ g, A6 = some ⟨g, 0, none⟩ ∧ SqF (heapF wx) g 0 Y) ∧ Below W6.heap.size W6 wx)
      case first =>
        go_region_with (first
          | (go_at_call 15; refine (HY.out x1 hGx1).mono ?_; rintro e x2 ⟨A6, c6, rfl, bx2, T6⟩; rw [if_pos HG2.out])
          | (go_at_call 15; refine (HX.out W6.drew hG6).mono ?_; rintro e x1 ⟨A5, c5, rfl, bx1, T5⟩; rw [if_pos HG1.out]; have hGx1 := Sat.below (w := W6.drew) (F := heapF W6) hG6 bx1))
        all_goals
          go_wp2_with fail
          go_meet
          exact ⟨A5, c5, A6, c6, rfl, rfl, fun h => let ⟨g, a, b, c, d⟩ := T5 _ HR1.out.1 HR1.out.2 h; ⟨g, a, by rw [← HEX.out]; exact d.call bx2⟩, fun h => let ⟨g, a, b, c, d⟩ := T6 _ HR2.out.1 HR2.out.2 h; ⟨g, a, by rw [← HEY.out]; exact d⟩, bel_trans (W := W6.drew) (bel_eqv (Below.refl _ W6) rfl rfl rfl rfl) (bthen (w := W6.drew) bx1 bx2)⟩
      case rest =>
        obtain ⟨A5, c5, A6, c6, rfl, rfl, TX, TY, bW7⟩ := hcut
        obtain ⟨W7, hW7⟩ : ∃ W, W = wc := ⟨_, rfl⟩
        subst hW7
        have hG7 : Sat (heapF W6) W7 := hG6.below bW7
        have HTX := Lib.hid TX
        have HTY := Lib.hid TY
        clear TX TY
        go_wp2_with fail
        go_at_call 16
        refine (HO20.out _ hG7).mono ?_
        rintro e o8 ⟨Ao8, co8, Fo8, rfl, hco8, hNo8, bo8, hFo8, _⟩
        rw [Hn3.out] at hNo8 hco8
        rw [Hn3.out]
        have hGo8 := hG7.below bo8
        have HRo8 := Lib.hid (pReachTab (sat_heapF o8) L3 HL3.out Ao8 n3 co8 (hNo8.cle hFo8.cle) PB 0 dB (by omega) rows (HRW.out.cle hGo8.cle))
        clear hNo8
        go_wp2_with fail
        go_at_call 15
        refine HRo8.out.mono ?_
        rintro e r8 ⟨Ar8, cr8, rfl, br8, Tr8⟩
        rw [if_pos HG3.out]
        have hG8 := hGo8.below br8
        have TT8 : 0 < 0 → ∃ g, Ar8 = some ⟨g, 0, none⟩ ∧ SqF (heapF r8) g 0 (orM X Y) := fun h => let ⟨g, a, b, c, d⟩ := Tr8 _ HR3.out.1 HR3.out.2 h; ⟨g, a, d.congr HQ3.out⟩
        have HT8 := Lib.hid TT8
        have b8 := bthen bo8 br8
        clear Tr8 TT8
        go_wp2_with fail
        go_at_call 16
        refine (HO21.out _ hG8).mono ?_
        rintro e o9 ⟨Ao9, co9, Fo9, rfl, hco9, hNo9, bo9, hFo9, _⟩
        rw [Hn4.out] at hNo9 hco9
        rw [Hn4.out]
        have hGo9 := hG8.below bo9
        have HRo9 := Lib.hid (pReachTab (sat_heapF o9) L4 HL4.out Ao9 n4 co9 (hNo9.cle hFo9.cle) PB 0 dB (by omega) rows (HRW.out.cle hGo9.cle))
        clear hNo9
        go_wp2_with fail
        go_at_call 15
        refine HRo9.out.mono ?_
        rintro e r9 ⟨Ar9, cr9, rfl, br9, Tr9⟩
        rw [if_pos HG4.out]
        have hG9 := hGo9.below br9
        have TT9 : 0 < 0 → ∃ g, Ar9 = some ⟨g, 0, none⟩ ∧ SqF (heapF r9) g 0 (prodM 0 X Y) := fun h => let ⟨g, a, b, c, d⟩ := Tr9 _ HR4.out.1 HR4.out.2 h; ⟨g, a, d.congr HQ4.out⟩
        have HT9 := Lib.hid TT9
        have b9 := bthen bo9 br9
        clear Tr9 TT9
        go_upto_region 8 with fail
        go_cut [19] from 66 to 72 (fun z wx => ∃ (A7 : Option Addr) (c7 : Nat), z = .slice A7 0 c7 ∧ (0 < 0 → ∃ g, A7 = some ⟨g, 0, none⟩ ∧ SqF (heapF wx) g 0 (starM 0 X)) ∧ Below r9.heap.size r9 wx)
        case first =>
          go_region_with (first
            | (go_at_call 16; refine (HO22.out r9.drew hG9).mono ?_; rintro e o5 ⟨Ao5, co5, Fo5, rfl, hco5, hNo5, bo5, hFo5, _⟩; rw [Hn5.out] at hNo5 hco5; rw [Hn5.out]; have hGo5 := Sat.below (w := r9.drew) (F := heapF W6) hG9 bo5; have HRo5 := Lib.hid (pReachTab (sat_heapF o5) L5 HL5.out Ao5 n5 co5 (hNo5.cle hFo5.cle) none 0 0 (by omega) _ (HP16.out.cle hGo5.cle)))
            | (go_at_call 15; refine HRo5.out.mono ?_; rintro e r5 ⟨A7, c7, rfl, br5, Tr5⟩; rw [if_pos HG5.out]))
          all_goals
            go_wp2_with fail
            go_meet
            exact ⟨A7, c7, rfl, fun h => let ⟨g, a, b, c, d⟩ := Tr5 _ HR5.out.1 HR5.out.2 h; ⟨g, a, by rw [← HEM.out]; exact d⟩, bel_trans (W := r9.drew) (bel_eqv (Below.refl _ r9) rfl rfl rfl rfl) (bthen (w := r9.drew) bo5 br5)⟩
        case rest =>
          obtain ⟨A7, c7, rfl, TM, bW8⟩ := hcut
          obtain ⟨W8, hW8⟩ : ∃ W, W = wc := ⟨_, rfl⟩
          subst hW8
          have q8 := bthen (bthen (bthen (bthen hq6 bW7) b8) b9) bW8
          have tx : 0 < 0 → ∃ g, A5 = some ⟨g, 0, none⟩ ∧ SqF (heapF W8) g 0 X := fun h => let ⟨g, a, d⟩ := HTX.out h; ⟨g, a, ((d.call b8).call b9).call bW8⟩
          have ty : 0 < 0 → ∃ g, A6 = some ⟨g, 0, none⟩ ∧ SqF (heapF W8) g 0 Y := fun h => let ⟨g, a, d⟩ := HTY.out h; ⟨g, a, ((d.call b8).call b9).call bW8⟩
          have tl : 0 < 0 → ∃ g, Ar8 = some ⟨g, 0, none⟩ ∧ SqF (heapF W8) g 0 (orM X Y) := fun h => let ⟨g, a, d⟩ := HT8.out h; ⟨g, a, (d.call b9).call bW8⟩
          have tp : 0 < 0 → ∃ g, Ar9 = some ⟨g, 0, none⟩ ∧ SqF (heapF W8) g 0 (prodM 0 X Y) := fun h => let ⟨g, a, d⟩ := HT9.out h; ⟨g, a, d.call bW8⟩
          have S1 := Lib.hid (square_w (w := W8) (n := 0) (by omega) A5 c5 _ tx)
          have S2 := Lib.hid (square_w (w := W8) (n := 0) (by omega) A6 c6 _ ty)
          have S3 := Lib.hid (square_w (w := W8) (n := 0) (by omega) Ar8 cr8 _ tl)
          have S4 := Lib.hid (square_w (w := W8) (n := 0) (by omega) Ar9 cr9 _ tp)
          have S5 := Lib.hid (square_w (w := W8) (n := 0) (by omega) A7 c7 _ TM)
          have HX8 := Lib.hid tx
          have HY8 := Lib.hid ty
          have HL8 := Lib.hid tl
          have HP8 := Lib.hid tp
          have HM8 := Lib.hid TM
          clear tx ty tl tp TM
          go_wp2_with fail
          go_at_call 17
          refine S1.out.mono ?_
          rintro e y1 ⟨rfl, rfl⟩
          go_wp2_with fail
          go_at_call 17
          refine S2.out.mono ?_
          rintro e y2 ⟨rfl, rfl⟩
          go_wp2_with fail
          go_at_call 17
          refine S3.out.mono ?_
          rintro e y3 ⟨rfl, rfl⟩
          go_wp2_with fail
          go_at_call 17
          refine S4.out.mono ?_
          rintro e y4 ⟨rfl, rfl⟩
          go_wp2_with fail
          go_at_call 17
          refine S5.out.mono ?_
          rintro e y5 ⟨rfl, rfl⟩
          go_wp2_with fail
          go_loop [20, 21, 22, 23, 24, 102] (fun _ _ _ _ _ v => v = .int .i64 0) (fun _ _ _ _ _ v => 0)
          case atStart => rfl
          case round =>
            subst hrel
            go_wp2_with (go_at_call 18; refine (awake14_w _).mono ?_; rintro e w6 ⟨rfl, hz⟩)
            go_ret
            exact ⟨rfl, bthen q8 hz⟩
    · go_upto_region 5 with fail
      go_cut [15, 16] from 44 to 53 (fun x y wx => ∃ (A5 : Option Addr) (c5 : Nat) (A6 : Option Addr) (c6 : Nat), x = .slice A5 0 c5 ∧ y = .slice A6 0 c6 ∧ (0 < 0 → ∃ g, A5 = some ⟨g, 0, none⟩ ∧ SqF (heapF wx) g 0 X) ∧ (0 < 0 → ∃ g, A6 = some ⟨g, 0, none⟩ ∧ SqF (heapF wx) g 0 Y) ∧ Below W6.heap.size W6 wx)
      case first =>
        go_region_with (first
          | (go_at_call 15; refine (HY.out x1 hGx1).mono ?_; rintro e x2 ⟨A6, c6, rfl, bx2, T6⟩; rw [if_pos HG2.out])
          | (go_at_call 15; refine (HX.out W6.drew hG6).mono ?_; rintro e x1 ⟨A5, c5, rfl, bx1, T5⟩; rw [if_pos HG1.out]; have hGx1 := Sat.below (w := W6.drew) (F := heapF W6) hG6 bx1))
        all_goals
          go_wp2_with fail
          go_meet
          exact ⟨A5, c5, A6, c6, rfl, rfl, fun h => let ⟨g, a, b, c, d⟩ := T5 _ HR1.out.1 HR1.out.2 h; ⟨g, a, by rw [← HEX.out]; exact d.call bx2⟩, fun h => let ⟨g, a, b, c, d⟩ := T6 _ HR2.out.1 HR2.out.2 h; ⟨g, a, by rw [← HEY.out]; exact d⟩, bel_trans (W := W6.drew) (bel_eqv (Below.refl _ W6) rfl rfl rfl rfl) (bthen (w := W6.drew) bx1 bx2)⟩
      case rest =>
        obtain ⟨A5, c5, A6, c6, rfl, rfl, TX, TY, bW7⟩ := hcut
        obtain ⟨W7, hW7⟩ : ∃ W, W = wc := ⟨_, rfl⟩
        subst hW7
        have hG7 : Sat (heapF W6) W7 := hG6.below bW7
        have HTX := Lib.hid TX
        have HTY := Lib.hid TY
        clear TX TY
        go_wp2_with fail
        go_at_call 16
        refine (HO20.out _ hG7).mono ?_
        rintro e o8 ⟨Ao8, co8, Fo8, rfl, hco8, hNo8, bo8, hFo8, _⟩
        rw [Hn3.out] at hNo8 hco8
        rw [Hn3.out]
        have hGo8 := hG7.below bo8
        have HRo8 := Lib.hid (pReachTab (sat_heapF o8) L3 HL3.out Ao8 n3 co8 (hNo8.cle hFo8.cle) PB 0 dB (by omega) rows (HRW.out.cle hGo8.cle))
        clear hNo8
        go_wp2_with fail
        go_at_call 15
        refine HRo8.out.mono ?_
        rintro e r8 ⟨Ar8, cr8, rfl, br8, Tr8⟩
        rw [if_pos HG3.out]
        have hG8 := hGo8.below br8
        have TT8 : 0 < 0 → ∃ g, Ar8 = some ⟨g, 0, none⟩ ∧ SqF (heapF r8) g 0 (orM X Y) := fun h => let ⟨g, a, b, c, d⟩ := Tr8 _ HR3.out.1 HR3.out.2 h; ⟨g, a, d.congr HQ3.out⟩
        have HT8 := Lib.hid TT8
        have b8 := bthen bo8 br8
        clear Tr8 TT8
        go_wp2_with fail
        go_at_call 16
        refine (HO21.out _ hG8).mono ?_
        rintro e o9 ⟨Ao9, co9, Fo9, rfl, hco9, hNo9, bo9, hFo9, _⟩
        rw [Hn4.out] at hNo9 hco9
        rw [Hn4.out]
        have hGo9 := hG8.below bo9
        have HRo9 := Lib.hid (pReachTab (sat_heapF o9) L4 HL4.out Ao9 n4 co9 (hNo9.cle hFo9.cle) PB 0 dB (by omega) rows (HRW.out.cle hGo9.cle))
        clear hNo9
        go_wp2_with fail
        go_at_call 15
        refine HRo9.out.mono ?_
        rintro e r9 ⟨Ar9, cr9, rfl, br9, Tr9⟩
        rw [if_pos HG4.out]
        have hG9 := hGo9.below br9
        have TT9 : 0 < 0 → ∃ g, Ar9 = some ⟨g, 0, none⟩ ∧ SqF (heapF r9) g 0 (prodM 0 X Y) := fun h => let ⟨g, a, b, c, d⟩ := Tr9 _ HR4.out.1 HR4.out.2 h; ⟨g, a, d.congr HQ4.out⟩
        have HT9 := Lib.hid TT9
        have b9 := bthen bo9 br9
        clear Tr9 TT9
        go_upto_region 8 with fail
        go_cut [19] from 66 to 72 (fun z wx => ∃ (A7 : Option Addr) (c7 : Nat), z = .slice A7 0 c7 ∧ (0 < 0 → ∃ g, A7 = some ⟨g, 0, none⟩ ∧ SqF (heapF wx) g 0 (starM 0 X)) ∧ Below r9.heap.size r9 wx)
        case first =>
          go_region_with (first
            | (go_at_call 16; refine (HO22.out r9.drew hG9).mono ?_; rintro e o5 ⟨Ao5, co5, Fo5, rfl, hco5, hNo5, bo5, hFo5, _⟩; rw [Hn5.out] at hNo5 hco5; rw [Hn5.out]; have hGo5 := Sat.below (w := r9.drew) (F := heapF W6) hG9 bo5; have HRo5 := Lib.hid (pReachTab (sat_heapF o5) L5 HL5.out Ao5 n5 co5 (hNo5.cle hFo5.cle) none 0 0 (by omega) _ (HP16.out.cle hGo5.cle)))
            | (go_at_call 15; refine HRo5.out.mono ?_; rintro e r5 ⟨A7, c7, rfl, br5, Tr5⟩; rw [if_pos HG5.out]))
          all_goals
            go_wp2_with fail
            go_meet
            exact ⟨A7, c7, rfl, fun h => let ⟨g, a, b, c, d⟩ := Tr5 _ HR5.out.1 HR5.out.2 h; ⟨g, a, by rw [← HEM.out]; exact d⟩, bel_trans (W := r9.drew) (bel_eqv (Below.refl _ r9) rfl rfl rfl rfl) (bthen (w := r9.drew) bo5 br5)⟩
        case rest =>
          obtain ⟨A7, c7, rfl, TM, bW8⟩ := hcut
          obtain ⟨W8, hW8⟩ : ∃ W, W = wc := ⟨_, rfl⟩
          subst hW8
          have q8 := bthen (bthen (bthen (bthen hq6 bW7) b8) b9) bW8
          have tx : 0 < 0 → ∃ g, A5 = some ⟨g, 0, none⟩ ∧ SqF (heapF W8) g 0 X := fun h => let ⟨g, a, d⟩ := HTX.out h; ⟨g, a, ((d.call b8).call b9).call bW8⟩
          have ty : 0 < 0 → ∃ g, A6 = some ⟨g, 0, none⟩ ∧ SqF (heapF W8) g 0 Y := fun h => let ⟨g, a, d⟩ := HTY.out h; ⟨g, a, ((d.call b8).call b9).call bW8⟩
          have tl : 0 < 0 → ∃ g, Ar8 = some ⟨g, 0, none⟩ ∧ SqF (heapF W8) g 0 (orM X Y) := fun h => let ⟨g, a, d⟩ := HT8.out h; ⟨g, a, (d.call b9).call bW8⟩
          have tp : 0 < 0 → ∃ g, Ar9 = some ⟨g, 0, none⟩ ∧ SqF (heapF W8) g 0 (prodM 0 X Y) := fun h => let ⟨g, a, d⟩ := HT9.out h; ⟨g, a, d.call bW8⟩
          have S1 := Lib.hid (square_w (w := W8) (n := 0) (by omega) A5 c5 _ tx)
          have S2 := Lib.hid (square_w (w := W8) (n := 0) (by omega) A6 c6 _ ty)
          have S3 := Lib.hid (square_w (w := W8) (n := 0) (by omega) Ar8 cr8 _ tl)
          have S4 := Lib.hid (square_w (w := W8) (n := 0) (by omega) Ar9 cr9 _ tp)
          have S5 := Lib.hid (square_w (w := W8) (n := 0) (by omega) A7 c7 _ TM)
          have HX8 := Lib.hid tx
          have HY8 := Lib.hid ty
          have HL8 := Lib.hid tl
          have HP8 := Lib.hid tp
          have HM8 := Lib.hid TM
          clear tx ty tl tp TM
          go_wp2_with fail
          go_at_call 17
          refine S1.out.mono ?_
          rintro e y1 ⟨rfl, rfl⟩
          go_wp2_with fail
          go_at_call 17
          refine S2.out.mono ?_
          rintro e y2 ⟨rfl, rfl⟩
          go_wp2_with fail
          go_at_call 17
          refine S3.out.mono ?_
          rintro e y3 ⟨rfl, rfl⟩
          go_wp2_with fail
          go_at_call 17
          refine S4.out.mono ?_
          rintro e y4 ⟨rfl, rfl⟩
          go_wp2_with fail
          go_at_call 17
          refine S5.out.mono ?_
          rintro e y5 ⟨rfl, rfl⟩
          go_wp2_with fail
          go_loop [20, 21, 22, 23, 24, 102] (fun _ _ _ _ _ v => v = .int .i64 0) (fun _ _ _ _ _ v => 0)
          case atStart => rfl
          case round =>
            subst hrel
            go_wp2_with (go_at_call 18; refine (awake14_w _).mono ?_; rintro e w6 ⟨rfl, hz⟩)
            go_ret
            exact ⟨rfl, bthen q8 hz⟩
  · rcases P2 with _ | ad2
    · have hd0 := hP2n rfl
      subst hd0
      obtain rfl : k2 = 0 := by omega
      go_upto_region 5 with fail
      go_cut [15, 16] from 44 to 53 (fun x y wx => ∃ (A5 : Option Addr) (c5 : Nat) (A6 : Option Addr) (c6 : Nat), x = .slice A5 0 c5 ∧ y = .slice A6 0 c6 ∧ (0 < 0 → ∃ g, A5 = some ⟨g, 0, none⟩ ∧ SqF (heapF wx) g 0 X) ∧ (0 < 0 → ∃ g, A6 = some ⟨g, 0, none⟩ ∧ SqF (heapF wx) g 0 Y) ∧ Below W6.heap.size W6 wx)
      case first =>
        go_region_with (first
          | (go_at_call 15; refine (HY.out x1 hGx1).mono ?_; rintro e x2 ⟨A6, c6, rfl, bx2, T6⟩; rw [if_pos HG2.out])
          | (go_at_call 15; refine (HX.out W6.drew hG6).mono ?_; rintro e x1 ⟨A5, c5, rfl, bx1, T5⟩; rw [if_pos HG1.out]; have hGx1 := Sat.below (w := W6.drew) (F := heapF W6) hG6 bx1))
        all_goals
          go_wp2_with fail
          go_meet
          exact ⟨A5, c5, A6, c6, rfl, rfl, fun h => let ⟨g, a, b, c, d⟩ := T5 _ HR1.out.1 HR1.out.2 h; ⟨g, a, by rw [← HEX.out]; exact d.call bx2⟩, fun h => let ⟨g, a, b, c, d⟩ := T6 _ HR2.out.1 HR2.out.2 h; ⟨g, a, by rw [← HEY.out]; exact d⟩, bel_trans (W := W6.drew) (bel_eqv (Below.refl _ W6) rfl rfl rfl rfl) (bthen (w := W6.drew) bx1 bx2)⟩
      case rest =>
        obtain ⟨A5, c5, A6, c6, rfl, rfl, TX, TY, bW7⟩ := hcut
        obtain ⟨W7, hW7⟩ : ∃ W, W = wc := ⟨_, rfl⟩
        subst hW7
        have hG7 : Sat (heapF W6) W7 := hG6.below bW7
        have HTX := Lib.hid TX
        have HTY := Lib.hid TY
        clear TX TY
        go_wp2_with fail
        go_at_call 16
        refine (HO20.out _ hG7).mono ?_
        rintro e o8 ⟨Ao8, co8, Fo8, rfl, hco8, hNo8, bo8, hFo8, _⟩
        rw [Hn3.out] at hNo8 hco8
        rw [Hn3.out]
        have hGo8 := hG7.below bo8
        have HRo8 := Lib.hid (pReachTab (sat_heapF o8) L3 HL3.out Ao8 n3 co8 (hNo8.cle hFo8.cle) PB 0 dB (by omega) rows (HRW.out.cle hGo8.cle))
        clear hNo8
        go_wp2_with fail
        go_at_call 15
        refine HRo8.out.mono ?_
        rintro e r8 ⟨Ar8, cr8, rfl, br8, Tr8⟩
        rw [if_pos HG3.out]
        have hG8 := hGo8.below br8
        have TT8 : 0 < 0 → ∃ g, Ar8 = some ⟨g, 0, none⟩ ∧ SqF (heapF r8) g 0 (orM X Y) := fun h => let ⟨g, a, b, c, d⟩ := Tr8 _ HR3.out.1 HR3.out.2 h; ⟨g, a, d.congr HQ3.out⟩
        have HT8 := Lib.hid TT8
        have b8 := bthen bo8 br8
        clear Tr8 TT8
        go_wp2_with fail
        go_at_call 16
        refine (HO21.out _ hG8).mono ?_
        rintro e o9 ⟨Ao9, co9, Fo9, rfl, hco9, hNo9, bo9, hFo9, _⟩
        rw [Hn4.out] at hNo9 hco9
        rw [Hn4.out]
        have hGo9 := hG8.below bo9
        have HRo9 := Lib.hid (pReachTab (sat_heapF o9) L4 HL4.out Ao9 n4 co9 (hNo9.cle hFo9.cle) PB 0 dB (by omega) rows (HRW.out.cle hGo9.cle))
        clear hNo9
        go_wp2_with fail
        go_at_call 15
        refine HRo9.out.mono ?_
        rintro e r9 ⟨Ar9, cr9, rfl, br9, Tr9⟩
        rw [if_pos HG4.out]
        have hG9 := hGo9.below br9
        have TT9 : 0 < 0 → ∃ g, Ar9 = some ⟨g, 0, none⟩ ∧ SqF (heapF r9) g 0 (prodM 0 X Y) := fun h => let ⟨g, a, b, c, d⟩ := Tr9 _ HR4.out.1 HR4.out.2 h; ⟨g, a, d.congr HQ4.out⟩
        have HT9 := Lib.hid TT9
        have b9 := bthen bo9 br9
        clear Tr9 TT9
        go_upto_region 8 with fail
        go_cut [19] from 66 to 72 (fun z wx => ∃ (A7 : Option Addr) (c7 : Nat), z = .slice A7 0 c7 ∧ (0 < 0 → ∃ g, A7 = some ⟨g, 0, none⟩ ∧ SqF (heapF wx) g 0 (starM 0 X)) ∧ Below r9.heap.size r9 wx)
        case first =>
          go_region_with (first
            | (go_at_call 16; refine (HO22.out r9.drew hG9).mono ?_; rintro e o5 ⟨Ao5, co5, Fo5, rfl, hco5, hNo5, bo5, hFo5, _⟩; rw [Hn5.out] at hNo5 hco5; rw [Hn5.out]; have hGo5 := Sat.below (w := r9.drew) (F := heapF W6) hG9 bo5; have HRo5 := Lib.hid (pReachTab (sat_heapF o5) L5 HL5.out Ao5 n5 co5 (hNo5.cle hFo5.cle) (some ad1) 0 d1 (by omega) _ (HP16.out.cle hGo5.cle)))
            | (go_at_call 15; refine HRo5.out.mono ?_; rintro e r5 ⟨A7, c7, rfl, br5, Tr5⟩; rw [if_pos HG5.out]))
          all_goals
            go_wp2_with fail
            go_meet
            exact ⟨A7, c7, rfl, fun h => let ⟨g, a, b, c, d⟩ := Tr5 _ HR5.out.1 HR5.out.2 h; ⟨g, a, by rw [← HEM.out]; exact d⟩, bel_trans (W := r9.drew) (bel_eqv (Below.refl _ r9) rfl rfl rfl rfl) (bthen (w := r9.drew) bo5 br5)⟩
        case rest =>
          obtain ⟨A7, c7, rfl, TM, bW8⟩ := hcut
          obtain ⟨W8, hW8⟩ : ∃ W, W = wc := ⟨_, rfl⟩
          subst hW8
          have q8 := bthen (bthen (bthen (bthen hq6 bW7) b8) b9) bW8
          have tx : 0 < 0 → ∃ g, A5 = some ⟨g, 0, none⟩ ∧ SqF (heapF W8) g 0 X := fun h => let ⟨g, a, d⟩ := HTX.out h; ⟨g, a, ((d.call b8).call b9).call bW8⟩
          have ty : 0 < 0 → ∃ g, A6 = some ⟨g, 0, none⟩ ∧ SqF (heapF W8) g 0 Y := fun h => let ⟨g, a, d⟩ := HTY.out h; ⟨g, a, ((d.call b8).call b9).call bW8⟩
          have tl : 0 < 0 → ∃ g, Ar8 = some ⟨g, 0, none⟩ ∧ SqF (heapF W8) g 0 (orM X Y) := fun h => let ⟨g, a, d⟩ := HT8.out h; ⟨g, a, (d.call b9).call bW8⟩
          have tp : 0 < 0 → ∃ g, Ar9 = some ⟨g, 0, none⟩ ∧ SqF (heapF W8) g 0 (prodM 0 X Y) := fun h => let ⟨g, a, d⟩ := HT9.out h; ⟨g, a, d.call bW8⟩
          have S1 := Lib.hid (square_w (w := W8) (n := 0) (by omega) A5 c5 _ tx)
          have S2 := Lib.hid (square_w (w := W8) (n := 0) (by omega) A6 c6 _ ty)
          have S3 := Lib.hid (square_w (w := W8) (n := 0) (by omega) Ar8 cr8 _ tl)
          have S4 := Lib.hid (square_w (w := W8) (n := 0) (by omega) Ar9 cr9 _ tp)
          have S5 := Lib.hid (square_w (w := W8) (n := 0) (by omega) A7 c7 _ TM)
          have HX8 := Lib.hid tx
          have HY8 := Lib.hid ty
          have HL8 := Lib.hid tl
          have HP8 := Lib.hid tp
          have HM8 := Lib.hid TM
          clear tx ty tl tp TM
          go_wp2_with fail
          go_at_call 17
          refine S1.out.mono ?_
          rintro e y1 ⟨rfl, rfl⟩
          go_wp2_with fail
          go_at_call 17
          refine S2.out.mono ?_
          rintro e y2 ⟨rfl, rfl⟩
          go_wp2_with fail
          go_at_call 17
          refine S3.out.mono ?_
          rintro e y3 ⟨rfl, rfl⟩
          go_wp2_with fail
          go_at_call 17
          refine S4.out.mono ?_
          rintro e y4 ⟨rfl, rfl⟩
          go_wp2_with fail
          go_at_call 17
          refine S5.out.mono ?_
          rintro e y5 ⟨rfl, rfl⟩
          go_wp2_with fail
          go_loop [20, 21, 22, 23, 24, 102] (fun _ _ _ _ _ v => v = .int .i64 0) (fun _ _ _ _ _ v => 0)
          case atStart => rfl
          case round =>
            subst hrel
            go_wp2_with (go_at_call 18; refine (awake14_w _).mono ?_; rintro e w6 ⟨rfl, hz⟩)
            go_ret
            exact ⟨rfl, bthen q8 hz⟩
    · go_upto_region 5 with fail
      go_cut [15, 16] from 44 to 53 (fun x y wx => ∃ (A5 : Option Addr) (c5 : Nat) (A6 : Option Addr) (c6 : Nat), x = .slice A5 0 c5 ∧ y = .slice A6 0 c6 ∧ (0 < 0 → ∃ g, A5 = some ⟨g, 0, none⟩ ∧ SqF (heapF wx) g 0 X) ∧ (0 < 0 → ∃ g, A6 = some ⟨g, 0, none⟩ ∧ SqF (heapF wx) g 0 Y) ∧ Below W6.heap.size W6 wx)
      case first =>
        go_region_with (first
          | (go_at_call 15; refine (HY.out x1 hGx1).mono ?_; rintro e x2 ⟨A6, c6, rfl, bx2, T6⟩; rw [if_pos HG2.out])
          | (go_at_call 15; refine (HX.out W6.drew hG6).mono ?_; rintro e x1 ⟨A5, c5, rfl, bx1, T5⟩; rw [if_pos HG1.out]; have hGx1 := Sat.below (w := W6.drew) (F := heapF W6) hG6 bx1))
        all_goals
          go_wp2_with fail
          go_meet
          exact ⟨A5, c5, A6, c6, rfl, rfl, fun h => let ⟨g, a, b, c, d⟩ := T5 _ HR1.out.1 HR1.out.2 h; ⟨g, a, by rw [← HEX.out]; exact d.call bx2⟩, fun h => let ⟨g, a, b, c, d⟩ := T6 _ HR2.out.1 HR2.out.2 h; ⟨g, a, by rw [← HEY.out]; exact d⟩, bel_trans (W := W6.drew) (bel_eqv (Below.refl _ W6) rfl rfl rfl rfl) (bthen (w := W6.drew) bx1 bx2)⟩
      case rest =>
        obtain ⟨A5, c5, A6, c6, rfl, rfl, TX, TY, bW7⟩ := hcut
        obtain ⟨W7, hW7⟩ : ∃ W, W = wc := ⟨_, rfl⟩
        subst hW7
        have hG7 : Sat (heapF W6) W7 := hG6.below bW7
        have HTX := Lib.hid TX
        have HTY := Lib.hid TY
        clear TX TY
        go_wp2_with fail
        go_at_call 16
        refine (HO20.out _ hG7).mono ?_
        rintro e o8 ⟨Ao8, co8, Fo8, rfl, hco8, hNo8, bo8, hFo8, _⟩
        rw [Hn3.out] at hNo8 hco8
        rw [Hn3.out]
        have hGo8 := hG7.below bo8
        have HRo8 := Lib.hid (pReachTab (sat_heapF o8) L3 HL3.out Ao8 n3 co8 (hNo8.cle hFo8.cle) PB 0 dB (by omega) rows (HRW.out.cle hGo8.cle))
        clear hNo8
        go_wp2_with fail
        go_at_call 15
        refine HRo8.out.mono ?_
        rintro e r8 ⟨Ar8, cr8, rfl, br8, Tr8⟩
        rw [if_pos HG3.out]
        have hG8 := hGo8.below br8
        have TT8 : 0 < 0 → ∃ g, Ar8 = some ⟨g, 0, none⟩ ∧ SqF (heapF r8) g 0 (orM X Y) := fun h => let ⟨g, a, b, c, d⟩ := Tr8 _ HR3.out.1 HR3.out.2 h; ⟨g, a, d.congr HQ3.out⟩
        have HT8 := Lib.hid TT8
        have b8 := bthen bo8 br8
        clear Tr8 TT8
        go_wp2_with fail
        go_at_call 16
        refine (HO21.out _ hG8).mono ?_
        rintro e o9 ⟨Ao9, co9, Fo9, rfl, hco9, hNo9, bo9, hFo9, _⟩
        rw [Hn4.out] at hNo9 hco9
        rw [Hn4.out]
        have hGo9 := hG8.below bo9
        have HRo9 := Lib.hid (pReachTab (sat_heapF o9) L4 HL4.out Ao9 n4 co9 (hNo9.cle hFo9.cle) PB 0 dB (by omega) rows (HRW.out.cle hGo9.cle))
        clear hNo9
        go_wp2_with fail
        go_at_call 15
        refine HRo9.out.mono ?_
        rintro e r9 ⟨Ar9, cr9, rfl, br9, Tr9⟩
        rw [if_pos HG4.out]
        have hG9 := hGo9.below br9
        have TT9 : 0 < 0 → ∃ g, Ar9 = some ⟨g, 0, none⟩ ∧ SqF (heapF r9) g 0 (prodM 0 X Y) := fun h => let ⟨g, a, b, c, d⟩ := Tr9 _ HR4.out.1 HR4.out.2 h; ⟨g, a, d.congr HQ4.out⟩
        have HT9 := Lib.hid TT9
        have b9 := bthen bo9 br9
        clear Tr9 TT9
        go_upto_region 8 with fail
        go_cut [19] from 66 to 72 (fun z wx => ∃ (A7 : Option Addr) (c7 : Nat), z = .slice A7 0 c7 ∧ (0 < 0 → ∃ g, A7 = some ⟨g, 0, none⟩ ∧ SqF (heapF wx) g 0 (starM 0 X)) ∧ Below r9.heap.size r9 wx)
        case first =>
          go_region_with (first
            | (go_at_call 16; refine (HO22.out r9.drew hG9).mono ?_; rintro e o5 ⟨Ao5, co5, Fo5, rfl, hco5, hNo5, bo5, hFo5, _⟩; rw [Hn5.out] at hNo5 hco5; rw [Hn5.out]; have hGo5 := Sat.below (w := r9.drew) (F := heapF W6) hG9 bo5; have HRo5 := Lib.hid (pReachTab (sat_heapF o5) L5 HL5.out Ao5 n5 co5 (hNo5.cle hFo5.cle) (some ad1) 0 d1 (by omega) _ (HP16.out.cle hGo5.cle)))
            | (go_at_call 15; refine HRo5.out.mono ?_; rintro e r5 ⟨A7, c7, rfl, br5, Tr5⟩; rw [if_pos HG5.out]))
          all_goals
            go_wp2_with fail
            go_meet
            exact ⟨A7, c7, rfl, fun h => let ⟨g, a, b, c, d⟩ := Tr5 _ HR5.out.1 HR5.out.2 h; ⟨g, a, by rw [← HEM.out]; exact d⟩, bel_trans (W := r9.drew) (bel_eqv (Below.refl _ r9) rfl rfl rfl rfl) (bthen (w := r9.drew) bo5 br5)⟩
        case rest =>
          obtain ⟨A7, c7, rfl, TM, bW8⟩ := hcut
          obtain ⟨W8, hW8⟩ : ∃ W, W = wc := ⟨_, rfl⟩
          subst hW8
          have q8 := bthen (bthen (bthen (bthen hq6 bW7) b8) b9) bW8
          have tx : 0 < 0 → ∃ g, A5 = some ⟨g, 0, none⟩ ∧ SqF (heapF W8) g 0 X := fun h => let ⟨g, a, d⟩ := HTX.out h; ⟨g, a, ((d.call b8).call b9).call bW8⟩
          have ty : 0 < 0 → ∃ g, A6 = some ⟨g, 0, none⟩ ∧ SqF (heapF W8) g 0 Y := fun h => let ⟨g, a, d⟩ := HTY.out h; ⟨g, a, ((d.call b8).call b9).call bW8⟩
          have tl : 0 < 0 → ∃ g, Ar8 = some ⟨g, 0, none⟩ ∧ SqF (heapF W8) g 0 (orM X Y) := fun h => let ⟨g, a, d⟩ := HT8.out h; ⟨g, a, (d.call b9).call bW8⟩
          have tp : 0 < 0 → ∃ g, Ar9 = some ⟨g, 0, none⟩ ∧ SqF (heapF W8) g 0 (prodM 0 X Y) := fun h => let ⟨g, a, d⟩ := HT9.out h; ⟨g, a, d.call bW8⟩
          have S1 := Lib.hid (square_w (w := W8) (n := 0) (by omega) A5 c5 _ tx)
          have S2 := Lib.hid (square_w (w := W8) (n := 0) (by omega) A6 c6 _ ty)
          have S3 := Lib.hid (square_w (w := W8) (n := 0) (by omega) Ar8 cr8 _ tl)
          have S4 := Lib.hid (square_w (w := W8) (n := 0) (by omega) Ar9 cr9 _ tp)
          have S5 := Lib.hid (square_w (w := W8) (n := 0) (by omega) A7 c7 _ TM)
          have HX8 := Lib.hid tx
          have HY8 := Lib.hid ty
          have HL8 := Lib.hid tl
          have HP8 := Lib.hid tp
          have HM8 := Lib.hid TM
          clear tx ty tl tp TM
          go_wp2_with fail
          go_at_call 17
          refine S1.out.mono ?_
          rintro e y1 ⟨rfl, rfl⟩
          go_wp2_with fail
          go_at_call 17
          refine S2.out.mono ?_
          rintro e y2 ⟨rfl, rfl⟩
          go_wp2_with fail
          go_at_call 17
          refine S3.out.mono ?_
          rintro e y3 ⟨rfl, rfl⟩
          go_wp2_with fail
          go_at_call 17
          refine S4.out.mono ?_
          rintro e y4 ⟨rfl, rfl⟩
          go_wp2_with fail
          go_at_call 17
          refine S5.out.mono ?_
          rintro e y5 ⟨rfl, rfl⟩
          go_wp2_with fail
          go_loop [20, 21, 22, 23, 24, 102] (fun _ _ _ _ _ v => v = .int .i64 0) (fun _ _ _ _ _ v => 0)
          case atStart => rfl
          case round =>
            subst hrel
            go_wp2_with (go_at_call 18; refine (awake14_w _).mono ?_; rintro e w6 ⟨rfl, hz⟩)
            go_ret
            exact ⟨rfl, bthen q8 hz⟩
end Go.Proofs.Ytkhhjihbahdepaa
