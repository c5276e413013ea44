/- The walk of the law SatTells. -/
import Derived.Test.YtdbbooibkiicnaaGreatAll14
import Derived.Test.YtdbbooibkiicnaaGreatAw15
import Derived.Test.YtdbbooibkiicnaaGreatSatU
set_option linter.unusedVariables false
set_option linter.unusedSimpArgs false
namespace Go.Proofs.YtdbbooibkiicnaaGreat
open Go.RowKit
attribute [local go_sem ↓] Go.wp_at_zero Go.wp_at_succ
set_option maxRecDepth 100000 in
set_option maxHeartbeats 4000000 in
theorem satTells_c {F : Fz} {w : World} (hF : Sat F w) (ss : List ByteArray) (es : List Evt) (An : Option Addr) (nn cn : Nat) (hcn : nn ≤ cn) (hN : Rd F 1 An nn (ss.map Value.string)) (Ae : Option Addr) (ne ce : Nat) (hE : EvsF F Ae ne es) (l : List Nd) (Al : Option Addr) (N cl : Nat) (hcl : N ≤ cl) (hl : NodesF F Al N l) (i : Int) :
    Calls Tryz.prog 5 #[.agg #[.slice An nn cn, .slice Ae ne ce], .slice Al N cl, .int .i64 i] w fun e w' => e = .returned (.bool true) ∧ Below w.heap.size w w' := by
  obtain ⟨gt, hgt⟩ : ∃ gt, gt = w.heap.size := ⟨_, rfl⟩
  obtain ⟨W, hW⟩ : ∃ W, W = w.alloc (.cells #[.slice An nn cn, .slice Ae ne ce] 43) := ⟨_, rfl⟩
  have HBT : Hid (Blk W gt 43 #[.slice An nn cn, .slice Ae ne ce]) := Lib.hid (by rw [hW, hgt]; exact Blk.new _ _ _)
  have hbW : Below w.heap.size w W := by rw [hW]; exact balloc _ _
  have HBW := Lib.hid hbW
  have HFW := Lib.hid (hF.below hbW)
  have HW := Lib.hid hW
  have HG := Lib.hid hgt
  have HF := Lib.hid hF
  have HE := Lib.hid hE
  have HNM := Lib.hid hN
  have HL := Lib.hid hl
  have hl1 := hE.1
  have hl2 := hl.1
  have HES := Lib.hid hl1
  have HLL := Lib.hid hl2
  obtain ⟨k0, k1, _, _⟩ := blkA (Blk.new w 43 #[.slice An nn cn, .slice Ae ne ce])
  by_cases hbig : 30 < ne ∨ 200 < nn ∨ 200 < N
  · have hgo : Calls Tryz.prog 21 #[] W fun e w' => e = .returned (.bool true) ∧ Below W.heap.size W w' := awake15_w W
    have HGO := Lib.hid hgo
    clear hgo hW hbW hgt hl1 hl2 hE hN hl
    by_cases b1 : 30 < ne
    · have b1I : (30 : Int) < (ne : Int) := by omega
      clear hbig
      go_enter Tryz.func5, Tryz.ntmps5
      go_wp2_with fail
      rw [← HW.out]
      refine HGO.out.mono ?_
      rintro e w1 ⟨rfl, hb1⟩
      go_wp2_with fail
      go_ret
      exact ⟨rfl, bthen HBW.out hb1⟩
    · have b1I : decide ((30 : Int) < (ne : Int)) = false := decide_eq_false (by omega)
      have b1N : decide (30 < ne) = false := decide_eq_false b1
      by_cases b2 : 200 < nn
      · have b2I : (200 : Int) < (nn : Int) := by omega
        clear hbig
        go_enter Tryz.func5, Tryz.ntmps5
        go_wp2_with fail
        rw [← HW.out]
        refine HGO.out.mono ?_
        rintro e w1 ⟨rfl, hb1⟩
        go_wp2_with fail
        go_ret
        exact ⟨rfl, bthen HBW.out hb1⟩
      · have b2I : decide ((200 : Int) < (nn : Int)) = false := decide_eq_false (by omega)
        have b2N : decide (200 < nn) = false := decide_eq_false b2
        have b3I : (200 : Int) < (N : Int) := by omega
        clear hbig
        go_enter Tryz.func5, Tryz.ntmps5
        go_wp2_with fail
        rw [← HW.out]
        refine HGO.out.mono ?_
        rintro e w1 ⟨rfl, hb1⟩
        go_wp2_with fail
        go_ret
        exact ⟨rfl, bthen HBW.out hb1⟩
  have b1 : ne ≤ 30 := by omega
  have b2 : nn ≤ 200 := by omega
  have b3 : N ≤ 200 := by omega
  have b1I : decide ((30 : Int) < (ne : Int)) = false := decide_eq_false (by omega)
  have b1N : decide (30 < ne) = false := decide_eq_false (by omega)
  have b2I : decide ((200 : Int) < (nn : Int)) = false := decide_eq_false (by omega)
  have b2N : decide (200 < nn) = false := decide_eq_false (by omega)
  have b3I : decide ((200 : Int) < (N : Int)) = false := decide_eq_false (by omega)
  have b3N : decide (200 < N) = false := decide_eq_false (by omega)
  clear hbig hW hbW hgt hl1 hl2 hE hN hl
  go_enter Tryz.func5, Tryz.ntmps5
  go_wp2_with fail
  rw [← HW.out, ← HG.out]
  clear k0 k1
  go_loopw [29] (fun v29 wr => ∃ m : Nat, m ≤ ne ∧ v29 = .int .i64 m ∧ Hid (∀ j (h : j < es.length), j < m → es[j].ids.length ≤ 200) ∧ Below W.heap.size W wr) (fun v29 _ => ne - (intOf v29).toNat)
  case atStart => exact ⟨0, Nat.zero_le _, rfl, Lib.hid (fun j h h0 => by omega), Below.refl _ _⟩
  case round =>
    obtain ⟨m, hm, rfl, HID, hbl⟩ := hrel
    have hFr := HFW.out.below hbl
    obtain ⟨t0, t1, _, _⟩ := blkA (HBT.out.call hbl)
    by_cases hmn : m < ne
    · have hmI : (m : Int) < (ne : Int) := by omega
      have hml : m < es.length := by have := HES.out; omega
      obtain ⟨ad, rfl, hh⟩ := HE.out.2 (by omega)
      obtain ⟨htm, Ai, ci, hci, hri, hc0, hc1⟩ := hh m hml
      have z0 := hFr.cell hc0
      obtain ⟨ni, hni⟩ : ∃ ni, es[m].ids.length = ni := ⟨_, rfl⟩
      obtain ⟨tm, htmm⟩ : ∃ tm, es[m].time = tm := ⟨_, rfl⟩
      rw [hni] at hc1
      rw [htmm] at z0
      have z1 : wr.cell? ⟨(ad.add (m * 2)).block, (ad.add (m * 2)).off + 1, none⟩ = some (.slice Ai ni ci) := hFr.cell hc1
      have HBL := Lib.hid hbl
      have HNI := Lib.hid hni
      clear hh htm hci hri hc0 hc1 hni htmm hbl hFr
      by_cases hbg : 200 < ni
      · have hbI : (200 : Int) < (ni : Int) := by omega
        go_wp2_with fail
        refine (awake15_w _).mono ?_
        rintro e w1 ⟨rfl, hb1⟩
        go_wp2_with fail
        go_ret
        exact ⟨rfl, bthen HBW.out (bthen HBL.out (bthen (balloc _ _) hb1))⟩
      · have hbI : decide ((200 : Int) < (ni : Int)) = false := decide_eq_false (by omega)
        have hbN : decide (200 < ni) = false := decide_eq_false hbg
        go_wp2_with fail
        go_roundw
        case rel =>
          exact ⟨m + 1, by omega, by go_num, Lib.hid (fun j h hj => by
            by_cases e : j = m
            · subst e; have := HNI.out; omega
            · exact HID.out j h (by omega)), HBL.out.trans ((balloc _ _).mono HBL.out.size)⟩
        case measure => simp [intOf]; omega
    · obtain rfl : m = ne := by omega
      have hdec : decide ((m : Int) < (m : Int)) = false := decide_eq_false (by omega)
      have hid2 : ∀ e ∈ es, e.ids.length ≤ 1000000000 := fun e he => by
        obtain ⟨j, hj, rfl⟩ := List.getElem_of_mem he
        have := HID.out j hj (by have := HES.out; omega)
        omega
      have HB0 := Lib.hid (bthen HBW.out hbl)
      have HFr := Lib.hid hFr
      have HBTr := Lib.hid (HBT.out.call hbl)
      have hlN : l.length ≤ 1000 := by have := HLL.out; omega
      obtain ⟨ok, hok⟩ : ∃ ok, (mayT ss es && formL l) = ok := ⟨_, rfl⟩
      obtain ⟨B, hB⟩ : ∃ B, atA (okA ss es l) m (allA ss es l) i = B := ⟨_, rfl⟩
      have HAT := Lib.hid (fun (X : World) (h : Sat F X) => sAt_w h ss es An nn cn hcn HNM.out Ae m ce HE.out hid2 (by omega) l hlN Al N cl hcl HL.out _ rfl _ rfl i B hB)
      have HBA := Lib.hid hB
      cases ok with
      | false =>
        have HRA := Lib.hid (all14No_w hFr ss es An nn cn hcn HNM.out Ae m ce HE.out hid2 (by omega) l hlN Al N cl HL.out hok)
        have hok2 : okA ss es l = false := by
          unfold okA
          rw [← Bool.and_assoc, hok, Bool.false_and]
        have HSA := Lib.hid (fun (X : World) (h : Sat F X) => sallNo_w h ss es An nn cn hcn HNM.out Ae m ce HE.out hid2 (by omega) l hlN Al N cl HL.out hok2)
        have hBf : B = false := by rw [← HBA.out, hok2]; unfold atA; rw [Bool.false_and]
        subst hBf
        clear hid2 hok hok2 hB hbl hFr hlN
        by_cases h0 : 0 ≤ i
        · have d0 : decide (i < 0) = false := decide_eq_false (by omega)
          go_wp2_with (first
            | (go_at_call 22; refine HRA.out.mono ?_; rintro e w1 ⟨rfl, hb1⟩; have hF1 := HFr.out.below hb1; obtain ⟨p0, p1, _, _⟩ := blkA (HBTr.out.call hb1))
            | (have q1 := hF1; go_at_call 24; refine (HSA.out _ hF1).mono ?_; rintro e w2 ⟨rfl, hb2⟩; have hF2 := hF1.below hb2; obtain ⟨q0, q1, _, _⟩ := blkA ((HBTr.out.call hb1).call hb2))
            | (have q2 := hF2; go_at_call 23; refine (equalV_w (n := 0) (r := allA ss es l) (by omega) (BAt.zero _ _ _) (BAt.zero _ _ _)).mono ?_; rintro e w3 ⟨rfl, hb3⟩; have hF3 := hF2.below hb3; obtain ⟨r0, r1, _, _⟩ := blkA (((HBTr.out.call hb1).call hb2).call hb3))
            | (have q3 := hF3; go_at_call 25; refine (HAT.out _ hF3).mono ?_; rintro e w4 ⟨rfl, hb4⟩)
            | (have q4 := hb4; go_at_call 21; refine (awake15_w _).mono ?_; rintro e w5 ⟨rfl, hb5⟩))
          go_ret
          exact ⟨rfl, bthen HB0.out (bthen hb1 (bthen hb2 (bthen hb3 (bthen hb4 hb5))))⟩
        · have d0 : decide (0 ≤ i) = false := decide_eq_false h0
          go_wp2_with (first
            | (go_at_call 22; refine HRA.out.mono ?_; rintro e w1 ⟨rfl, hb1⟩; have hF1 := HFr.out.below hb1; obtain ⟨p0, p1, _, _⟩ := blkA (HBTr.out.call hb1))
            | (have q1 := hF1; go_at_call 24; refine (HSA.out _ hF1).mono ?_; rintro e w2 ⟨rfl, hb2⟩; have hF2 := hF1.below hb2; obtain ⟨q0, q1, _, _⟩ := blkA ((HBTr.out.call hb1).call hb2))
            | (have q2 := hF2; go_at_call 23; refine (equalV_w (n := 0) (r := allA ss es l) (by omega) (BAt.zero _ _ _) (BAt.zero _ _ _)).mono ?_; rintro e w3 ⟨rfl, hb3⟩; have hF3 := hF2.below hb3; obtain ⟨r0, r1, _, _⟩ := blkA (((HBTr.out.call hb1).call hb2).call hb3))
            | (have q3 := hF3; go_at_call 25; refine (HAT.out _ hF3).mono ?_; rintro e w4 ⟨rfl, hb4⟩)
            | (have q4 := hb4; go_at_call 21; refine (awake15_w _).mono ?_; rintro e w5 ⟨rfl, hb5⟩))
          go_ret
          exact ⟨rfl, bthen HB0.out (bthen hb1 (bthen hb2 (bthen hb3 (bthen hb4 hb5))))⟩
      | true =>
        rw [Bool.and_eq_true] at hok
        obtain ⟨hM, hff⟩ := hok
        obtain ⟨T, hT⟩ : ∃ T, treeS l = some T := by
          unfold formL at hff
          cases h : treeS l with
          | none => rw [h] at hff; cases hff
          | some T => exact ⟨T, rfl⟩
        have hreg : regS T.root.kind = false := by unfold formL at hff; rw [hT] at hff; simpa using hff
        have hfT : l = T.flat 0 := tree_flat hT
        have hzT : T.size ≤ 1000 := by rw [hfT, Tr.length_flat] at hlN; exact hlN
        obtain ⟨V, hV⟩ : ∃ V, satT (trcE ss es) T = V := ⟨_, rfl⟩
        have hall : allA ss es l = V := by unfold allA; rw [hT]; exact hV
        have hokA : okA ss es l = decide (0 < m) := by rw [okA, hM, hff, HES.out]; rfl
        rw [hokA, hall] at hB
        have HRA := Lib.hid (hV ▸ all14Yes_w (ce := ce) hFr ⟨hcn, by omega, HNM.out, HE.out, hid2, by omega, hM⟩ l hlN Al N cl hcl HL.out hT hreg)
        have HSA := Lib.hid (fun (X : World) (h : Sat F X) => sAllU_w h ss es hM An nn cn hcn HNM.out Ae m ce HE.out hid2 (by omega) (tree_valid hT) hreg hzT Al N cl hcl (by rw [← hfT]; exact HL.out) V (fun i _ => by rw [hV]))
        have HBB := Lib.hid hB
        clear hid2 hM hff hT hreg hfT hzT hV hall hokA hB hbl hFr hlN HBA
        go_wp2_with fail
        go_at_call 22
        refine HRA.out.mono ?_
        rintro e w1 ⟨gr, rfl, hb1, hgr, hkr⟩
        have hF1 := HFr.out.below hb1
        have HKR := Lib.hid hkr
        obtain ⟨p0, p1, _, _⟩ := blkA (HBTr.out.call hb1)
        have hlr := hkr.lt
        clear hkr
        by_cases h0 : 0 ≤ i
        · obtain ⟨k, rfl⟩ : ∃ k : Nat, i = (k : Int) := ⟨i.toNat, by omega⟩
          by_cases h1 : k < m
          · have hBV : V k = B := by
              have h := HBB.out
              unfold atA at h
              rw [decide_eq_true (show 0 < m by omega), Bool.true_and, decide_eq_true (show (0 : Int) ≤ (k : Int) ∧ (k : Int) < (m : Int) by omega), Bool.true_and, show ((k : Nat) : Int).toNat = k by omega] at h
              exact h
            have hmc : w1.cell? ⟨gr, k, none⟩ = some (.bool B) := by rw [HKR.out.cell, get_rowV h1, hBV]
            have hkI : (k : Int) < (m : Int) := by omega
            clear hBV
            cases B
            all_goals
              go_wp2_with (first
                | (go_at_call 24; refine (HSA.out _ hF1).mono ?_; rintro e w2 ⟨C2, rfl, hb2, hc2⟩; have hq2 : BAt w2 C2 m V := RetAllU.bat (by rcases hc2 with h | ⟨h0, g, e, _, hk⟩; exact .inl h; exact .inr ⟨h0, g, e, hk⟩); have hF2 := hF1.below hb2; obtain ⟨q0, q1, _, _⟩ := blkA ((HBTr.out.call hb1).call hb2))
                | (have q2 := hF2; go_at_call 23; refine (equalV_w (n := m) (r := V) (by omega) hq2 (BAt.row (HKR.out.call hb2))).mono ?_; rintro e w3 ⟨rfl, hb3⟩; have hF3 := hF2.below hb3; obtain ⟨r0, r1, _, _⟩ := blkA (((HBTr.out.call hb1).call hb2).call hb3))
                | (have q3 := hF3; go_at_call 25; refine (HAT.out _ hF3).mono ?_; rintro e w4 ⟨rfl, hb4⟩; have hm4 := ((bthen (bthen hb2 hb3) hb4).cell (p := ⟨gr, k, none⟩) hlr).trans hmc)
                | (have q4 := hb4; go_at_call 21; refine (awake15_w _).mono ?_; rintro e w5 ⟨rfl, hb5⟩))
              go_ret
              exact ⟨rfl, bthen HB0.out (bthen hb1 (bthen hb2 (bthen hb3 (bthen hb4 hb5))))⟩
          · have hBV : B = false := by
              rw [← HBB.out]
              unfold atA
              rw [decide_eq_false (show ¬ ((0 : Int) ≤ (k : Int) ∧ (k : Int) < (m : Int)) by omega), Bool.false_and, Bool.and_false]
            subst hBV
            have d1 : decide ((k : Int) < (m : Int)) = false := decide_eq_false (by omega)
            have d2 : decide (k < m) = false := decide_eq_false h1
            go_wp2_with (first
                | (go_at_call 24; refine (HSA.out _ hF1).mono ?_; rintro e w2 ⟨C2, rfl, hb2, hc2⟩; have hq2 : BAt w2 C2 m V := RetAllU.bat (by rcases hc2 with h | ⟨h0, g, e, _, hk⟩; exact .inl h; exact .inr ⟨h0, g, e, hk⟩); have hF2 := hF1.below hb2; obtain ⟨q0, q1, _, _⟩ := blkA ((HBTr.out.call hb1).call hb2))
                | (have q2 := hF2; go_at_call 23; refine (equalV_w (n := m) (r := V) (by omega) hq2 (BAt.row (HKR.out.call hb2))).mono ?_; rintro e w3 ⟨rfl, hb3⟩; have hF3 := hF2.below hb3; obtain ⟨r0, r1, _, _⟩ := blkA (((HBTr.out.call hb1).call hb2).call hb3))
                | (have q3 := hF3; go_at_call 25; refine (HAT.out _ hF3).mono ?_; rintro e w4 ⟨rfl, hb4⟩)
                | (have q4 := hb4; go_at_call 21; refine (awake15_w _).mono ?_; rintro e w5 ⟨rfl, hb5⟩))
            go_ret
            exact ⟨rfl, bthen HB0.out (bthen hb1 (bthen hb2 (bthen hb3 (bthen hb4 hb5))))⟩
        · have hBV : B = false := by
            rw [← HBB.out]
            unfold atA
            rw [decide_eq_false (show ¬ (0 ≤ i ∧ i < (m : Int)) by omega), Bool.false_and, Bool.and_false]
          subst hBV
          have d0 : decide (0 ≤ i) = false := decide_eq_false h0
          go_wp2_with (first
                | (go_at_call 24; refine (HSA.out _ hF1).mono ?_; rintro e w2 ⟨C2, rfl, hb2, hc2⟩; have hq2 : BAt w2 C2 m V := RetAllU.bat (by rcases hc2 with h | ⟨h0, g, e, _, hk⟩; exact .inl h; exact .inr ⟨h0, g, e, hk⟩); have hF2 := hF1.below hb2; obtain ⟨q0, q1, _, _⟩ := blkA ((HBTr.out.call hb1).call hb2))
                | (have q2 := hF2; go_at_call 23; refine (equalV_w (n := m) (r := V) (by omega) hq2 (BAt.row (HKR.out.call hb2))).mono ?_; rintro e w3 ⟨rfl, hb3⟩; have hF3 := hF2.below hb3; obtain ⟨r0, r1, _, _⟩ := blkA (((HBTr.out.call hb1).call hb2).call hb3))
                | (have q3 := hF3; go_at_call 25; refine (HAT.out _ hF3).mono ?_; rintro e w4 ⟨rfl, hb4⟩)
                | (have q4 := hb4; go_at_call 21; refine (awake15_w _).mono ?_; rintro e w5 ⟨rfl, hb5⟩))
          go_ret
          exact ⟨rfl, bthen HB0.out (bthen hb1 (bthen hb2 (bthen hb3 (bthen hb4 hb5))))⟩
end Go.Proofs.YtdbbooibkiicnaaGreat
