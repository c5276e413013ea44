/- The reference's holds of layer 14, further kinds. -/
import Derived.Test.YtdbbooibkiicnaaGreatRef14s
set_option linter.unusedVariables false
set_option linter.unusedSimpArgs false
namespace Go.Proofs.YtdbbooibkiicnaaGreat
open Go.RowKit
attribute [local go_sem ↓] Go.wp_at_zero Go.wp_at_succ
section
variable {F : Fz} {w : World} {ss : List ByteArray} {es : List Evt} {An : Option Addr} {nn cn : Nat} {Ae : Option Addr} {ne ce : Nat}
set_option maxRecDepth 100000 in
set_option maxHeartbeats 4000000 in
theorem rholds14_w (hF : Sat F w) (hT : RefT F ss es An nn cn Ae ne ce) (name : ByteArray) (lo hi : Int) (Ak : Option Addr) (nk ck : Nat) (hs : spanS lo hi = true) (g c : Nat) (v : Nat → Bool) (hv : ∀ j, j < ne → F.cell ⟨g, j, none⟩ = some (.bool (v j))) (gb cb : Nat) (u : Nat → Bool) (hu : ∀ j, j < ne → F.cell ⟨gb, j, none⟩ = some (.bool (u j))) (i : Nat) (hi' : i < ne) :
    Calls Tryz.prog 117 #[.agg #[.slice An nn cn, .slice Ae ne ce], .agg #[.int .i64 14, .string name, .int .i64 lo, .int .i64 hi, .slice Ak nk ck], .int .i64 (i : Nat), .int .i64 (ne : Nat), .slice (some ⟨g, 0, none⟩) ne c, .slice (some ⟨gb, 0, none⟩) ne cb] w fun e w' => e = .returned (.bool (loopB (trcE ss es) 14 lo hi v u i)) ∧ Below w.heap.size w w' := by
  obtain ⟨gt, hgt⟩ : ∃ gt, gt = w.heap.size := ⟨_, rfl⟩
  obtain ⟨W, hW⟩ : ∃ W, W = (w.alloc (.cells #[.slice An nn cn, .slice Ae ne ce] 43)).alloc (.cells #[.int .i64 14, .string name, .int .i64 lo, .int .i64 hi, .slice Ak nk ck] 62) := ⟨_, rfl⟩
  have HBT : Hid (Blk W gt 43 #[.slice An nn cn, .slice Ae ne ce]) := Lib.hid (by rw [hW, hgt]; exact (Blk.new _ _ _).alloc _)
  have HBX : Hid (Blk W (gt + 1) 62 #[.int .i64 14, .string name, .int .i64 lo, .int .i64 hi, .slice Ak nk ck]) := Lib.hid (by rw [hW, hgt]; exact Blk.new2 _ _ _ _)
  have hbW : Below w.heap.size w W := by rw [hW]; exact (balloc _ _).alloc (by simp) _
  have HBW := Lib.hid hbW
  have HFW := Lib.hid (hF.below hbW)
  have HW := Lib.hid hW
  have HG := Lib.hid hgt
  have hneb := hT.ne1
  have hiI : (i : Int) < (ne : Int) := by omega
  obtain ⟨P, hP⟩ : ∃ P, someB (trcE ss es) 14 lo hi v u i = P := ⟨_, rfl⟩
  obtain ⟨E, hE⟩ : ∃ E, everB (trcE ss es) 14 lo hi v i = E := ⟨_, rfl⟩
  have hXn : (trcE ss es).n = ne := hT.ev.1
  obtain ⟨RR, hRR⟩ : ∃ RR, loopB (trcE ss es) 14 lo hi v u i = RR := ⟨_, rfl⟩
  have HRR : Hid (anyB P ne = RR) := Lib.hid (by rw [← hRR]; unfold loopB; rw [hXn, ← hP]; rfl)
  rw [hRR]
  have HPE : Hid (∀ m, P m = (decide (m ≤ i) && (hasD lo hi (gapE es i m) && (u m && fromB v (i - m) (m + 1)))) ∧ E m = true) := Lib.hid (fun m => by rw [← hP, ← hE]; exact ⟨rfl, rfl⟩)
  have HV := Lib.hid hv
  have HU := Lib.hid hu
  have HTT := Lib.hid hT
  clear hv hu hP hE hRR hXn hW hgt hbW hF hT
  go_enter Tryz.func117, Tryz.ntmps117
  go_wp2_with fail
  rw [← HW.out, ← HG.out]
  go_loopw [13, 14, 123] (fun v13 v14 v123 wr => ∃ m : Nat, m ≤ ne ∧ v123 = .int .i64 m ∧ v13 = .bool (anyB P m) ∧ v14 = .bool (allB E m) ∧ Below W.heap.size W wr) (fun _ _ v123 _ => ne - (intOf v123).toNat)
  case atStart => exact ⟨0, Nat.zero_le _, rfl, rfl, rfl, Below.refl _ _⟩
  case round =>
    obtain ⟨m, hm, rfl, rfl, rfl, hbl⟩ := hrel
    have hFr := HFW.out.below hbl
    have HBTr := Lib.hid (HBT.out.call hbl)
    have HBXr := Lib.hid (HBX.out.call hbl)
    obtain ⟨t0, t1, _, _⟩ := blkA HBTr.out
    obtain ⟨x0, _, x2, x3, _⟩ := blk5 HBXr.out
    obtain ⟨s0, hs0⟩ : ∃ s0, anyB P m = s0 := ⟨_, rfl⟩
    obtain ⟨l0, hl0⟩ : ∃ l0, allB E m = l0 := ⟨_, rfl⟩
    rw [hs0, hl0]
    have HS0 := Lib.hid hs0
    have HL0 := Lib.hid hl0
    clear hs0 hl0
    by_cases hmn : m < ne
    · have hmI : (m : Int) < (ne : Int) := by omega
      have HAp := Lib.hid (fun (X : World) (h : Sat F X) => apart14_w h es An nn cn Ae ne ce HTT.out.ev i m hi' hmn)
      have HHs0 := Lib.hid (fun (X : World) => rhasT_w lo hi hs (gapE es i m) (gapE_lt HTT.out.ev hi' hmn) X)
      have hpe := HPE.out m
      obtain ⟨hh, hhh⟩ : ∃ hh, hasD lo hi (gapE es i m) = hh := ⟨_, rfl⟩
      rw [hhh] at hpe HHs0
      have HHs := HHs0
      have hmc := hFr.cell (HV.out m hmn)
      obtain ⟨x, hx⟩ : ∃ x, v m = x := ⟨_, rfl⟩
      have hmu := hFr.cell (HU.out m hmn)
      obtain ⟨y, hy⟩ : ∃ y, u m = y := ⟨_, rfl⟩
      rw [hy] at hpe hmu
      clear hmc
      have HP' : Hid (anyB P (m + 1) = (s0 || P m)) := Lib.hid (by rw [anyB, HS0.out])
      have HE' : Hid (allB E (m + 1) = (l0 && E m)) := Lib.hid (by rw [allB, HL0.out])
      have HPM := Lib.hid hpe
      clear hhh hx hpe HHs0 hy
      by_cases hio : m ≤ i
      · have g1 : decide ((i : Int) < (m : Int)) = false := decide_eq_false (by omega)
        have g2 : decide (i < m) = false := decide_eq_false (by omega)
        have di : decide (m ≤ i) = true := decide_eq_true hio
        have HD := Lib.hid di
        clear di
        cases hh with
        | false =>
          have HPF : Hid (P m = false) := Lib.hid (by rw [HPM.out.1]; simp)
          have HEF : Hid (E m = true) := Lib.hid (by rw [HPM.out.2])
          go_wp2_with fail
          refine wp_region_noPanic ?_
          refine wp_region_held_drew (S := (fun w' => w'.cell? ⟨gt, 0, none⟩ = some (.slice An nn cn) ∧ w'.cell? ⟨gt, 1, none⟩ = some (.slice Ae ne ce) ∧ w'.cell? ⟨gt + 1, 2, none⟩ = some (.int .i64 lo) ∧ w'.cell? ⟨gt + 1, 3, none⟩ = some (.int .i64 hi))) (by kernel_rfl) ?hS0 (fun hHeld => ?hR0)
          case hS0 => (try dsimp only); go_keep
          case hR0 =>
            refine tk 0 (h := ?_)
            try simp only [pn]
            refine tk 1 (h := ?_)
            try simp only [pn]
            refine tk 2 (h := ?_)
            try simp only [pn]
            refine tk 3 (h := ?_)
            try simp only [pn]
            refine tk 4 (h := ?_)
            try simp only [pn]
            refine tk 5 (h := ?_)
            try simp only [pn]
            refine tk 6 (h := ?_)
            try simp only [pn]
            refine tk 7 (h := ?_)
            try simp only [pn]
            refine tk 8 (h := ?_)
            try simp only [pn]
            refine tk 9 (h := ?_)
            try simp only [pn]
            refine sk 10 (h := ?_)
            try simp only [pn]
            refine sk 11 (h := ?_)
            try simp only [pn]
            refine sk 12 (h := ?_)
            try simp only [pn]
            refine tk 13 (h := ?_)
            try simp only [pn]
            refine tk 14 (h := ?_)
            try simp only [pn]
            refine tk 15 (h := ?_)
            try simp only [pn]
            refine tk 16 (h := ?_)
            try simp only [pn]
            refine tk 17 (h := ?_)
            try simp only [pn]
            refine tk 18 (h := ?_)
            try simp only [pn]
            refine tk 19 (h := ?_)
            try simp only [pn]
            refine tk 20 (h := ?_)
            try simp only [pn]
            refine wpAnyH_ready (rs := [21]) (by kernel_rfl) (by simp) ?_
            refine AllReadyH.cons (o := ?sO21) ?sA21 (fun K hK => ?sB21) ?sC21
            case sA21 => simp only [List.getElem?_toArray, List.getElem?_cons_succ, List.getElem?_cons_zero]; rfl
            case sB21 =>
              go_simp
              go_at_call 116; refine (HAp.out _ (by first | exact hFr | exact hFr.drew)).mono ?_; rintro e w2 ⟨rfl, hw2⟩; have hc2 : Below wr.heap.size wr w2 := (by refine bel_trans ?_ hw2; first | exact bel_eqv (Below.refl _ wr) rfl rfl rfl rfl); obtain ⟨rt0, rt1, _, _⟩ := blkA (HBTr.out.call hc2); obtain ⟨rx0, _, rx2, rx3, _⟩ := blk5 (HBXr.out.call hc2)
              try go_wp2_with fail
              refine hK.out _ _ ?kS21 (fun hHeld => ?kR21)
              case kS21 => (try dsimp only); go_keep
              case kR21 =>
                clear hK K
                try simp only [pn]
                refine wpAnyH_ready (rs := [22]) (by kernel_rfl) (by simp) ?_
                refine AllReadyH.cons (o := ?sO22) ?sA22 (fun K hK => ?sB22) ?sC22
                case sA22 => simp only [List.getElem?_toArray, List.getElem?_cons_succ, List.getElem?_cons_zero]; rfl
                case sB22 =>
                  go_simp
                  go_at_call 115; refine (HHs.out _).mono ?_; rintro e w3 ⟨rfl, hw3⟩; have hc3 : Below wr.heap.size wr w3 := (by refine bel_trans ?_ hw3; first | exact bel_eqv hc2 rfl rfl rfl rfl); obtain ⟨st0, st1, _, _⟩ := blkA (HBTr.out.call hc3); obtain ⟨sx0, _, sx2, sx3, _⟩ := blk5 (HBXr.out.call hc3)
                  try go_wp2_with fail
                  refine hK.out _ _ ?kS22 (fun hHeld => ?kR22)
                  case kS22 => (try dsimp only); go_keep
                  case kR22 =>
                    clear hK K
                    try simp only [pn]
                    refine tk 23 (h := ?_)
                    try simp only [pn]
                    refine tk 24 (h := ?_)
                    try simp only [pn]
                    refine wpAnyH_done (by kernel_rfl) ?_ _
                    refine NoPanic.normal ?_
                    go_wp2_with fail
                    go_roundw
                    case rel => exact ⟨m + 1, by omega, by go_num, by rw [HP'.out, HPF.out, Bool.or_false], by rw [HE'.out, HEF.out, Bool.and_true], by first | exact bthen hbl hc3 | exact below_drew1 (bthen hbl hc3) | exact below_drewN (bthen hbl hc3) _⟩
                    case measure => simp [intOf]; omega
                case sC22 =>
                  exact AllReadyH.nil
            case sC21 =>
              exact AllReadyH.nil
        | true =>
          have HPF : Hid (P m = (y && fromB v (i - m) (m + 1))) := Lib.hid (by rw [HPM.out.1, HD.out]; simp)
          have HEF : Hid (E m = true) := Lib.hid (by rw [HPM.out.2])
          go_wp2_with fail
          refine wp_region_noPanic ?_
          refine wp_region_held_drew (S := (fun w' => w'.cell? ⟨gt, 0, none⟩ = some (.slice An nn cn) ∧ w'.cell? ⟨gt, 1, none⟩ = some (.slice Ae ne ce) ∧ w'.cell? ⟨gt + 1, 2, none⟩ = some (.int .i64 lo) ∧ w'.cell? ⟨gt + 1, 3, none⟩ = some (.int .i64 hi))) (by kernel_rfl) ?hS0 (fun hHeld => ?hR0)
          case hS0 => (try dsimp only); go_keep
          case hR0 =>
            refine tk 0 (h := ?_)
            try simp only [pn]
            refine tk 1 (h := ?_)
            try simp only [pn]
            refine tk 2 (h := ?_)
            try simp only [pn]
            refine tk 3 (h := ?_)
            try simp only [pn]
            refine tk 4 (h := ?_)
            try simp only [pn]
            refine tk 5 (h := ?_)
            try simp only [pn]
            refine tk 6 (h := ?_)
            try simp only [pn]
            refine tk 7 (h := ?_)
            try simp only [pn]
            refine tk 8 (h := ?_)
            try simp only [pn]
            refine tk 9 (h := ?_)
            try simp only [pn]
            refine sk 10 (h := ?_)
            try simp only [pn]
            refine sk 11 (h := ?_)
            try simp only [pn]
            refine sk 12 (h := ?_)
            try simp only [pn]
            refine tk 13 (h := ?_)
            try simp only [pn]
            refine tk 14 (h := ?_)
            try simp only [pn]
            refine tk 15 (h := ?_)
            try simp only [pn]
            refine tk 16 (h := ?_)
            try simp only [pn]
            refine tk 17 (h := ?_)
            try simp only [pn]
            refine tk 18 (h := ?_)
            try simp only [pn]
            refine tk 19 (h := ?_)
            try simp only [pn]
            refine tk 20 (h := ?_)
            try simp only [pn]
            refine wpAnyH_ready (rs := [21]) (by kernel_rfl) (by simp) ?_
            refine AllReadyH.cons (o := ?sO23) ?sA23 (fun K hK => ?sB23) ?sC23
            case sA23 => simp only [List.getElem?_toArray, List.getElem?_cons_succ, List.getElem?_cons_zero]; rfl
            case sB23 =>
              go_simp
              go_at_call 116; refine (HAp.out _ (by first | exact hFr | exact hFr.drew)).mono ?_; rintro e w2 ⟨rfl, hw2⟩; have hc2 : Below wr.heap.size wr w2 := (by refine bel_trans ?_ hw2; first | exact bel_eqv (Below.refl _ wr) rfl rfl rfl rfl); obtain ⟨rt0, rt1, _, _⟩ := blkA (HBTr.out.call hc2); obtain ⟨rx0, _, rx2, rx3, _⟩ := blk5 (HBXr.out.call hc2)
              try go_wp2_with fail
              refine hK.out _ _ ?kS23 (fun hHeld => ?kR23)
              case kS23 => (try dsimp only); go_keep
              case kR23 =>
                clear hK K
                try simp only [pn]
                refine wpAnyH_ready (rs := [22]) (by kernel_rfl) (by simp) ?_
                refine AllReadyH.cons (o := ?sO24) ?sA24 (fun K hK => ?sB24) ?sC24
                case sA24 => simp only [List.getElem?_toArray, List.getElem?_cons_succ, List.getElem?_cons_zero]; rfl
                case sB24 =>
                  go_simp
                  go_at_call 115; refine (HHs.out _).mono ?_; rintro e w3 ⟨rfl, hw3⟩; have hc3 : Below wr.heap.size wr w3 := (by refine bel_trans ?_ hw3; first | exact bel_eqv hc2 rfl rfl rfl rfl); obtain ⟨st0, st1, _, _⟩ := blkA (HBTr.out.call hc3); obtain ⟨sx0, _, sx2, sx3, _⟩ := blk5 (HBXr.out.call hc3)
                  try go_wp2_with fail
                  refine hK.out _ _ ?kS24 (fun hHeld => ?kR24)
                  case kS24 => (try dsimp only); go_keep
                  case kR24 =>
                    clear hK K
                    try simp only [pn]
                    refine tk 23 (h := ?_)
                    try simp only [pn]
                    refine tk 24 (h := ?_)
                    try simp only [pn]
                    refine wpAnyH_done (by kernel_rfl) ?_ _
                    refine NoPanic.normal ?_
                    have hu3 := (hc3.cell (p := ⟨gb, m, none⟩) (hFr.clt (HU.out m hmn))).trans hmu
                    have hq3 := bthen hbl hc3
                    have hF3 := hFr.below hc3
                    obtain ⟨M1, hM1⟩ : ∃ M1, M1 = m + 1 := ⟨_, rfl⟩
                    have hM1I : (m : Int) + 1 = (M1 : Int) := by omega
                    obtain ⟨I1, hI1⟩ : ∃ I1, I1 = i + 1 := ⟨_, rfl⟩
                    have HM1 := Lib.hid hM1
                    have HI1 := Lib.hid hI1
                    have hMI : M1 ≤ I1 := by omega
                    clear hM1 hI1
                    go_wp2_with fail
                    go_loop [17, 18] (fun a b => ∃ k : Nat, M1 ≤ k ∧ k ≤ I1 ∧ b = .int .i64 k ∧ a = .bool (y && fromB v (k - M1) M1)) (fun _ b => I1 - (intOf b).toNat)
                    case atStart => exact ⟨M1, Nat.le_refl _, by omega, rfl, by rw [Nat.sub_self]; simp [fromB]⟩
                    case round =>
                      obtain ⟨k, hk1, hk2, rfl, rfl⟩ := hrel
                      obtain ⟨ok, hok⟩ : ∃ ok, (y && fromB v (k - M1) M1) = ok := ⟨_, rfl⟩
                      rw [hok]
                      by_cases hki : k < I1
                      · have hkI : (k : Int) ≤ (i : Int) := by have := HI1.out; omega
                        have hkn0 : k < ne := by have := HI1.out; omega
                        have hkn : (k : Int) < (ne : Int) := by omega
                        have hk3 := hF3.cell (HV.out k hkn0)
                        obtain ⟨z, hz⟩ : ∃ z, v k = z := ⟨_, rfl⟩
                        rw [hz] at hk3
                        have HN : Hid ((y && fromB v (k + 1 - M1) M1) = (ok && z)) := Lib.hid (by rw [show k + 1 - M1 = k - M1 + 1 by omega, fromB_snoc, show M1 + (k - M1) = k by omega, hz, ← hok, Bool.and_assoc])
                        clear hz hok hkn0
                        cases ok with
                        | false =>
                          go_wp2_with fail
                          go_round
                          case rel => exact ⟨k + 1, by omega, by omega, by go_num, by rw [HN.out]; rfl⟩
                          case measure => simp [intOf]; omega
                        | true =>
                          go_wp2_with fail
                          go_round
                          case rel => exact ⟨k + 1, by omega, by omega, by go_num, by rw [HN.out]; rfl⟩
                          case measure => simp [intOf]; omega
                      · obtain rfl : k = I1 := by omega
                        have hdec : decide ((k : Int) ≤ (i : Int)) = false := decide_eq_false (by have := HI1.out; omega)
                        have hdec2 : decide (k ≤ i) = false := decide_eq_false (by have := HI1.out; omega)
                        have HOK : Hid (P m = ok) := Lib.hid (by rw [HPF.out, ← hok, show k - M1 = i - m by have := HI1.out; have := HM1.out; omega, HM1.out])
                        clear hok
                        cases s0
                        all_goals
                          go_wp2_with fail
                          go_roundw
                          case rel => exact ⟨m + 1, by omega, by go_num, by rw [HP'.out, HOK.out] <;> rfl, by rw [HE'.out, HEF.out, Bool.and_true], by first | exact hq3 | exact below_drew1 (hq3) | exact below_drewN (hq3) _⟩
                          case measure => simp [intOf]; omega
                case sC24 =>
                  exact AllReadyH.nil
            case sC23 =>
              exact AllReadyH.nil
      · have g1 : (i : Int) < (m : Int) := by omega
        have di : decide (m ≤ i) = false := decide_eq_false hio
        have HPF : Hid (P m = false) := Lib.hid (by rw [HPM.out.1, di]; simp)
        have HEF : Hid (E m = true) := Lib.hid (by rw [HPM.out.2])
        clear di
        go_wp2_with fail
        refine wp_region_noPanic ?_
        refine wp_region_held_drew (S := (fun w' => w'.cell? ⟨gt, 0, none⟩ = some (.slice An nn cn) ∧ w'.cell? ⟨gt, 1, none⟩ = some (.slice Ae ne ce) ∧ w'.cell? ⟨gt + 1, 2, none⟩ = some (.int .i64 lo) ∧ w'.cell? ⟨gt + 1, 3, none⟩ = some (.int .i64 hi))) (by kernel_rfl) ?hS0 (fun hHeld => ?hR0)
        case hS0 => (try dsimp only); go_keep
        case hR0 =>
          refine tk 0 (h := ?_)
          try simp only [pn]
          refine tk 1 (h := ?_)
          try simp only [pn]
          refine tk 2 (h := ?_)
          try simp only [pn]
          refine tk 3 (h := ?_)
          try simp only [pn]
          refine tk 4 (h := ?_)
          try simp only [pn]
          refine tk 5 (h := ?_)
          try simp only [pn]
          refine tk 6 (h := ?_)
          try simp only [pn]
          refine sk 7 (h := ?_)
          try simp only [pn]
          refine sk 8 (h := ?_)
          try simp only [pn]
          refine sk 9 (h := ?_)
          try simp only [pn]
          refine sk 10 (h := ?_)
          try simp only [pn]
          refine sk 11 (h := ?_)
          try simp only [pn]
          refine sk 12 (h := ?_)
          try simp only [pn]
          refine sk 13 (h := ?_)
          try simp only [pn]
          refine tk 14 (h := ?_)
          try simp only [pn]
          refine tk 15 (h := ?_)
          try simp only [pn]
          refine sk 16 (h := ?_)
          try simp only [pn]
          refine sk 17 (h := ?_)
          try simp only [pn]
          refine sk 18 (h := ?_)
          try simp only [pn]
          refine sk 19 (h := ?_)
          try simp only [pn]
          refine sk 20 (h := ?_)
          try simp only [pn]
          refine sk 21 (h := ?_)
          try simp only [pn]
          refine sk 22 (h := ?_)
          try simp only [pn]
          refine sk 23 (h := ?_)
          try simp only [pn]
          refine tk 24 (h := ?_)
          try simp only [pn]
          refine wpAnyH_done (by kernel_rfl) ?_ _
          refine NoPanic.normal ?_
          go_wp2_with fail
          go_roundw
          case rel => exact ⟨m + 1, by omega, by go_num, by rw [HP'.out, HPF.out, Bool.or_false], by rw [HE'.out, HEF.out, Bool.and_true], by first | exact hbl | exact below_drew1 (hbl) | exact below_drewN (hbl) _⟩
          case measure => simp [intOf]; omega
    · obtain rfl : m = ne := by omega
      have hdec : decide ((m : Int) < (m : Int)) = false := decide_eq_false (by omega)
      have HRS : Hid (s0 = RR) := Lib.hid (by rw [← HS0.out, HRR.out])
      go_wp2_with fail
      go_ret
      exact ⟨by rw [← HRS.out]; rfl, bthen HBW.out hbl⟩
set_option maxRecDepth 100000 in
set_option maxHeartbeats 4000000 in
theorem rholds15_w (hF : Sat F w) (hT : RefT F ss es An nn cn Ae ne ce) (name : ByteArray) (lo hi : Int) (Ak : Option Addr) (nk ck : Nat) (hs : spanS lo hi = true) (g c : Nat) (v : Nat → Bool) (hv : ∀ j, j < ne → F.cell ⟨g, j, none⟩ = some (.bool (v j))) (gb cb : Nat) (u : Nat → Bool) (hu : ∀ j, j < ne → F.cell ⟨gb, j, none⟩ = some (.bool (u j))) (i : Nat) (hi' : i < ne) :
    Calls Tryz.prog 117 #[.agg #[.slice An nn cn, .slice Ae ne ce], .agg #[.int .i64 15, .string name, .int .i64 lo, .int .i64 hi, .slice Ak nk ck], .int .i64 (i : Nat), .int .i64 (ne : Nat), .slice (some ⟨g, 0, none⟩) ne c, .slice (some ⟨gb, 0, none⟩) ne cb] w fun e w' => e = .returned (.bool (loopB (trcE ss es) 15 lo hi v u i)) ∧ Below w.heap.size w w' := by
  obtain ⟨gt, hgt⟩ : ∃ gt, gt = w.heap.size := ⟨_, rfl⟩
  obtain ⟨W, hW⟩ : ∃ W, W = (w.alloc (.cells #[.slice An nn cn, .slice Ae ne ce] 43)).alloc (.cells #[.int .i64 15, .string name, .int .i64 lo, .int .i64 hi, .slice Ak nk ck] 62) := ⟨_, rfl⟩
  have HBT : Hid (Blk W gt 43 #[.slice An nn cn, .slice Ae ne ce]) := Lib.hid (by rw [hW, hgt]; exact (Blk.new _ _ _).alloc _)
  have HBX : Hid (Blk W (gt + 1) 62 #[.int .i64 15, .string name, .int .i64 lo, .int .i64 hi, .slice Ak nk ck]) := Lib.hid (by rw [hW, hgt]; exact Blk.new2 _ _ _ _)
  have hbW : Below w.heap.size w W := by rw [hW]; exact (balloc _ _).alloc (by simp) _
  have HBW := Lib.hid hbW
  have HFW := Lib.hid (hF.below hbW)
  have HW := Lib.hid hW
  have HG := Lib.hid hgt
  have hneb := hT.ne1
  have hiI : (i : Int) < (ne : Int) := by omega
  obtain ⟨P, hP⟩ : ∃ P, someB (trcE ss es) 15 lo hi v u i = P := ⟨_, rfl⟩
  obtain ⟨E, hE⟩ : ∃ E, everB (trcE ss es) 15 lo hi v i = E := ⟨_, rfl⟩
  have hXn : (trcE ss es).n = ne := hT.ev.1
  obtain ⟨RR, hRR⟩ : ∃ RR, loopB (trcE ss es) 15 lo hi v u i = RR := ⟨_, rfl⟩
  have HRR : Hid (anyB P ne = RR) := Lib.hid (by rw [← hRR]; unfold loopB; rw [hXn, ← hP]; rfl)
  rw [hRR]
  have HPE : Hid (∀ m, P m = (decide (i ≤ m) && (hasD lo hi (gapE es i m) && (u m && fromB v (m - i) i))) ∧ E m = true) := Lib.hid (fun m => by rw [← hP, ← hE]; exact ⟨rfl, rfl⟩)
  have HV := Lib.hid hv
  have HU := Lib.hid hu
  have HTT := Lib.hid hT
  clear hv hu hP hE hRR hXn hW hgt hbW hF hT
  go_enter Tryz.func117, Tryz.ntmps117
  go_wp2_with fail
  rw [← HW.out, ← HG.out]
  go_loopw [13, 14, 123] (fun v13 v14 v123 wr => ∃ m : Nat, m ≤ ne ∧ v123 = .int .i64 m ∧ v13 = .bool (anyB P m) ∧ v14 = .bool (allB E m) ∧ Below W.heap.size W wr) (fun _ _ v123 _ => ne - (intOf v123).toNat)
  case atStart => exact ⟨0, Nat.zero_le _, rfl, rfl, rfl, Below.refl _ _⟩
  case round =>
    obtain ⟨m, hm, rfl, rfl, rfl, hbl⟩ := hrel
    have hFr := HFW.out.below hbl
    have HBTr := Lib.hid (HBT.out.call hbl)
    have HBXr := Lib.hid (HBX.out.call hbl)
    obtain ⟨t0, t1, _, _⟩ := blkA HBTr.out
    obtain ⟨x0, _, x2, x3, _⟩ := blk5 HBXr.out
    obtain ⟨s0, hs0⟩ : ∃ s0, anyB P m = s0 := ⟨_, rfl⟩
    obtain ⟨l0, hl0⟩ : ∃ l0, allB E m = l0 := ⟨_, rfl⟩
    rw [hs0, hl0]
    have HS0 := Lib.hid hs0
    have HL0 := Lib.hid hl0
    clear hs0 hl0
    by_cases hmn : m < ne
    · have hmI : (m : Int) < (ne : Int) := by omega
      have HAp := Lib.hid (fun (X : World) (h : Sat F X) => apart14_w h es An nn cn Ae ne ce HTT.out.ev i m hi' hmn)
      have HHs0 := Lib.hid (fun (X : World) => rhasT_w lo hi hs (gapE es i m) (gapE_lt HTT.out.ev hi' hmn) X)
      have hpe := HPE.out m
      obtain ⟨hh, hhh⟩ : ∃ hh, hasD lo hi (gapE es i m) = hh := ⟨_, rfl⟩
      rw [hhh] at hpe HHs0
      have HHs := HHs0
      have hmc := hFr.cell (HV.out m hmn)
      obtain ⟨x, hx⟩ : ∃ x, v m = x := ⟨_, rfl⟩
      have hmu := hFr.cell (HU.out m hmn)
      obtain ⟨y, hy⟩ : ∃ y, u m = y := ⟨_, rfl⟩
      rw [hy] at hpe hmu
      clear hmc
      have HP' : Hid (anyB P (m + 1) = (s0 || P m)) := Lib.hid (by rw [anyB, HS0.out])
      have HE' : Hid (allB E (m + 1) = (l0 && E m)) := Lib.hid (by rw [allB, HL0.out])
      have HPM := Lib.hid hpe
      clear hhh hx hpe HHs0 hy
      by_cases hio : i ≤ m
      · have g1 : decide ((m : Int) < (i : Int)) = false := decide_eq_false (by omega)
        have g2 : decide (m < i) = false := decide_eq_false (by omega)
        have di : decide (i ≤ m) = true := decide_eq_true hio
        have HD := Lib.hid di
        clear di
        cases hh with
        | false =>
          have HPF : Hid (P m = false) := Lib.hid (by rw [HPM.out.1]; simp)
          have HEF : Hid (E m = true) := Lib.hid (by rw [HPM.out.2])
          go_wp2_with fail
          refine wp_region_noPanic ?_
          refine wp_region_held_drew (S := (fun w' => w'.cell? ⟨gt, 0, none⟩ = some (.slice An nn cn) ∧ w'.cell? ⟨gt, 1, none⟩ = some (.slice Ae ne ce) ∧ w'.cell? ⟨gt + 1, 2, none⟩ = some (.int .i64 lo) ∧ w'.cell? ⟨gt + 1, 3, none⟩ = some (.int .i64 hi))) (by kernel_rfl) ?hS0 (fun hHeld => ?hR0)
          case hS0 => (try dsimp only); go_keep
          case hR0 =>
            refine tk 0 (h := ?_)
            try simp only [pn]
            refine tk 1 (h := ?_)
            try simp only [pn]
            refine sk 2 (h := ?_)
            try simp only [pn]
            refine sk 3 (h := ?_)
            try simp only [pn]
            refine sk 4 (h := ?_)
            try simp only [pn]
            refine tk 5 (h := ?_)
            try simp only [pn]
            refine tk 6 (h := ?_)
            try simp only [pn]
            refine tk 7 (h := ?_)
            try simp only [pn]
            refine tk 8 (h := ?_)
            try simp only [pn]
            refine tk 9 (h := ?_)
            try simp only [pn]
            refine tk 10 (h := ?_)
            try simp only [pn]
            refine tk 11 (h := ?_)
            try simp only [pn]
            refine tk 12 (h := ?_)
            try simp only [pn]
            refine tk 13 (h := ?_)
            try simp only [pn]
            refine tk 14 (h := ?_)
            try simp only [pn]
            refine tk 15 (h := ?_)
            try simp only [pn]
            refine tk 16 (h := ?_)
            try simp only [pn]
            refine tk 17 (h := ?_)
            try simp only [pn]
            refine tk 18 (h := ?_)
            try simp only [pn]
            refine tk 19 (h := ?_)
            try simp only [pn]
            refine tk 20 (h := ?_)
            try simp only [pn]
            refine wpAnyH_ready (rs := [21]) (by kernel_rfl) (by simp) ?_
            refine AllReadyH.cons (o := ?sO25) ?sA25 (fun K hK => ?sB25) ?sC25
            case sA25 => simp only [List.getElem?_toArray, List.getElem?_cons_succ, List.getElem?_cons_zero]; rfl
            case sB25 =>
              go_simp
              go_at_call 116; refine (HAp.out _ (by first | exact hFr | exact hFr.drew)).mono ?_; rintro e w2 ⟨rfl, hw2⟩; have hc2 : Below wr.heap.size wr w2 := (by refine bel_trans ?_ hw2; first | exact bel_eqv (Below.refl _ wr) rfl rfl rfl rfl); obtain ⟨rt0, rt1, _, _⟩ := blkA (HBTr.out.call hc2); obtain ⟨rx0, _, rx2, rx3, _⟩ := blk5 (HBXr.out.call hc2)
              try go_wp2_with fail
              refine hK.out _ _ ?kS25 (fun hHeld => ?kR25)
              case kS25 => (try dsimp only); go_keep
              case kR25 =>
                clear hK K
                try simp only [pn]
                refine wpAnyH_ready (rs := [22]) (by kernel_rfl) (by simp) ?_
                refine AllReadyH.cons (o := ?sO26) ?sA26 (fun K hK => ?sB26) ?sC26
                case sA26 => simp only [List.getElem?_toArray, List.getElem?_cons_succ, List.getElem?_cons_zero]; rfl
                case sB26 =>
                  go_simp
                  go_at_call 115; refine (HHs.out _).mono ?_; rintro e w3 ⟨rfl, hw3⟩; have hc3 : Below wr.heap.size wr w3 := (by refine bel_trans ?_ hw3; first | exact bel_eqv hc2 rfl rfl rfl rfl); obtain ⟨st0, st1, _, _⟩ := blkA (HBTr.out.call hc3); obtain ⟨sx0, _, sx2, sx3, _⟩ := blk5 (HBXr.out.call hc3)
                  try go_wp2_with fail
                  refine hK.out _ _ ?kS26 (fun hHeld => ?kR26)
                  case kS26 => (try dsimp only); go_keep
                  case kR26 =>
                    clear hK K
                    try simp only [pn]
                    refine tk 23 (h := ?_)
                    try simp only [pn]
                    refine tk 24 (h := ?_)
                    try simp only [pn]
                    refine wpAnyH_done (by kernel_rfl) ?_ _
                    refine NoPanic.normal ?_
                    go_wp2_with fail
                    go_roundw
                    case rel => exact ⟨m + 1, by omega, by go_num, by rw [HP'.out, HPF.out, Bool.or_false], by rw [HE'.out, HEF.out, Bool.and_true], by first | exact bthen hbl hc3 | exact below_drew1 (bthen hbl hc3) | exact below_drewN (bthen hbl hc3) _⟩
                    case measure => simp [intOf]; omega
                case sC26 =>
                  exact AllReadyH.nil
            case sC25 =>
              exact AllReadyH.nil
        | true =>
          have HPF : Hid (P m = (y && fromB v (m - i) i)) := Lib.hid (by rw [HPM.out.1, HD.out]; simp)
          have HEF : Hid (E m = true) := Lib.hid (by rw [HPM.out.2])
          go_wp2_with fail
          refine wp_region_noPanic ?_
          refine wp_region_held_drew (S := (fun w' => w'.cell? ⟨gt, 0, none⟩ = some (.slice An nn cn) ∧ w'.cell? ⟨gt, 1, none⟩ = some (.slice Ae ne ce) ∧ w'.cell? ⟨gt + 1, 2, none⟩ = some (.int .i64 lo) ∧ w'.cell? ⟨gt + 1, 3, none⟩ = some (.int .i64 hi))) (by kernel_rfl) ?hS0 (fun hHeld => ?hR0)
          case hS0 => (try dsimp only); go_keep
          case hR0 =>
            refine tk 0 (h := ?_)
            try simp only [pn]
            refine tk 1 (h := ?_)
            try simp only [pn]
            refine sk 2 (h := ?_)
            try simp only [pn]
            refine sk 3 (h := ?_)
            try simp only [pn]
            refine sk 4 (h := ?_)
            try simp only [pn]
            refine tk 5 (h := ?_)
            try simp only [pn]
            refine tk 6 (h := ?_)
            try simp only [pn]
            refine tk 7 (h := ?_)
            try simp only [pn]
            refine tk 8 (h := ?_)
            try simp only [pn]
            refine tk 9 (h := ?_)
            try simp only [pn]
            refine tk 10 (h := ?_)
            try simp only [pn]
            refine tk 11 (h := ?_)
            try simp only [pn]
            refine tk 12 (h := ?_)
            try simp only [pn]
            refine tk 13 (h := ?_)
            try simp only [pn]
            refine tk 14 (h := ?_)
            try simp only [pn]
            refine tk 15 (h := ?_)
            try simp only [pn]
            refine tk 16 (h := ?_)
            try simp only [pn]
            refine tk 17 (h := ?_)
            try simp only [pn]
            refine tk 18 (h := ?_)
            try simp only [pn]
            refine tk 19 (h := ?_)
            try simp only [pn]
            refine tk 20 (h := ?_)
            try simp only [pn]
            refine wpAnyH_ready (rs := [21]) (by kernel_rfl) (by simp) ?_
            refine AllReadyH.cons (o := ?sO27) ?sA27 (fun K hK => ?sB27) ?sC27
            case sA27 => simp only [List.getElem?_toArray, List.getElem?_cons_succ, List.getElem?_cons_zero]; rfl
            case sB27 =>
              go_simp
              go_at_call 116; refine (HAp.out _ (by first | exact hFr | exact hFr.drew)).mono ?_; rintro e w2 ⟨rfl, hw2⟩; have hc2 : Below wr.heap.size wr w2 := (by refine bel_trans ?_ hw2; first | exact bel_eqv (Below.refl _ wr) rfl rfl rfl rfl); obtain ⟨rt0, rt1, _, _⟩ := blkA (HBTr.out.call hc2); obtain ⟨rx0, _, rx2, rx3, _⟩ := blk5 (HBXr.out.call hc2)
              try go_wp2_with fail
              refine hK.out _ _ ?kS27 (fun hHeld => ?kR27)
              case kS27 => (try dsimp only); go_keep
              case kR27 =>
                clear hK K
                try simp only [pn]
                refine wpAnyH_ready (rs := [22]) (by kernel_rfl) (by simp) ?_
                refine AllReadyH.cons (o := ?sO28) ?sA28 (fun K hK => ?sB28) ?sC28
                case sA28 => simp only [List.getElem?_toArray, List.getElem?_cons_succ, List.getElem?_cons_zero]; rfl
                case sB28 =>
                  go_simp
                  go_at_call 115; refine (HHs.out _).mono ?_; rintro e w3 ⟨rfl, hw3⟩; have hc3 : Below wr.heap.size wr w3 := (by refine bel_trans ?_ hw3; first | exact bel_eqv hc2 rfl rfl rfl rfl); obtain ⟨st0, st1, _, _⟩ := blkA (HBTr.out.call hc3); obtain ⟨sx0, _, sx2, sx3, _⟩ := blk5 (HBXr.out.call hc3)
                  try go_wp2_with fail
                  refine hK.out _ _ ?kS28 (fun hHeld => ?kR28)
                  case kS28 => (try dsimp only); go_keep
                  case kR28 =>
                    clear hK K
                    try simp only [pn]
                    refine tk 23 (h := ?_)
                    try simp only [pn]
                    refine tk 24 (h := ?_)
                    try simp only [pn]
                    refine wpAnyH_done (by kernel_rfl) ?_ _
                    refine NoPanic.normal ?_
                    have hu3 := (hc3.cell (p := ⟨gb, m, none⟩) (hFr.clt (HU.out m hmn))).trans hmu
                    have hq3 := bthen hbl hc3
                    have hF3 := hFr.below hc3
                    go_wp2_with fail
                    go_loop [19, 20] (fun a b => ∃ k : Nat, i ≤ k ∧ k ≤ m ∧ b = .int .i64 k ∧ a = .bool (y && fromB v (k - i) i)) (fun _ b => m - (intOf b).toNat)
                    case atStart => exact ⟨i, Nat.le_refl _, by omega, rfl, by rw [Nat.sub_self]; simp [fromB]⟩
                    case round =>
                      obtain ⟨k, hk1, hk2, rfl, rfl⟩ := hrel
                      obtain ⟨ok, hok⟩ : ∃ ok, (y && fromB v (k - i) i) = ok := ⟨_, rfl⟩
                      rw [hok]
                      by_cases hki : k < m
                      · have hkI : (k : Int) < (m : Int) := by omega
                        have hkn0 : k < ne := by omega
                        have hkn : (k : Int) < (ne : Int) := by omega
                        have hk3 := hF3.cell (HV.out k hkn0)
                        obtain ⟨z, hz⟩ : ∃ z, v k = z := ⟨_, rfl⟩
                        rw [hz] at hk3
                        have HN : Hid ((y && fromB v (k + 1 - i) i) = (ok && z)) := Lib.hid (by rw [show k + 1 - i = k - i + 1 by omega, fromB_snoc, show i + (k - i) = k by omega, hz, ← hok, Bool.and_assoc])
                        clear hz hok hkn0
                        cases ok with
                        | false =>
                          go_wp2_with fail
                          go_round
                          case rel => exact ⟨k + 1, by omega, by omega, by go_num, by rw [HN.out]; rfl⟩
                          case measure => simp [intOf]; omega
                        | true =>
                          go_wp2_with fail
                          go_round
                          case rel => exact ⟨k + 1, by omega, by omega, by go_num, by rw [HN.out]; rfl⟩
                          case measure => simp [intOf]; omega
                      · obtain rfl : k = m := by omega
                        have hdec : decide ((k : Int) < (k : Int)) = false := decide_eq_false (by omega)
                        have hdec2 : decide (k < k) = false := decide_eq_false (by omega)
                        have HOK : Hid (P k = ok) := Lib.hid (by rw [HPF.out, ← hok])
                        clear hok
                        cases s0
                        all_goals
                          go_wp2_with fail
                          go_roundw
                          case rel => exact ⟨k + 1, by omega, by go_num, by rw [HP'.out, HOK.out] <;> rfl, by rw [HE'.out, HEF.out, Bool.and_true], by first | exact hq3 | exact below_drew1 (hq3) | exact below_drewN (hq3) _⟩
                          case measure => simp [intOf]; omega
                case sC28 =>
                  exact AllReadyH.nil
            case sC27 =>
              exact AllReadyH.nil
      · have g1 : (m : Int) < (i : Int) := by omega
        have di : decide (i ≤ m) = false := decide_eq_false hio
        have HPF : Hid (P m = false) := Lib.hid (by rw [HPM.out.1, di]; simp)
        have HEF : Hid (E m = true) := Lib.hid (by rw [HPM.out.2])
        clear di
        go_wp2_with fail
        refine wp_region_noPanic ?_
        refine wp_region_held_drew (S := (fun w' => w'.cell? ⟨gt, 0, none⟩ = some (.slice An nn cn) ∧ w'.cell? ⟨gt, 1, none⟩ = some (.slice Ae ne ce) ∧ w'.cell? ⟨gt + 1, 2, none⟩ = some (.int .i64 lo) ∧ w'.cell? ⟨gt + 1, 3, none⟩ = some (.int .i64 hi))) (by kernel_rfl) ?hS0 (fun hHeld => ?hR0)
        case hS0 => (try dsimp only); go_keep
        case hR0 =>
          refine tk 0 (h := ?_)
          try simp only [pn]
          refine tk 1 (h := ?_)
          try simp only [pn]
          refine sk 2 (h := ?_)
          try simp only [pn]
          refine sk 3 (h := ?_)
          try simp only [pn]
          refine sk 4 (h := ?_)
          try simp only [pn]
          refine tk 5 (h := ?_)
          try simp only [pn]
          refine tk 6 (h := ?_)
          try simp only [pn]
          refine tk 7 (h := ?_)
          try simp only [pn]
          refine tk 8 (h := ?_)
          try simp only [pn]
          refine tk 9 (h := ?_)
          try simp only [pn]
          refine tk 10 (h := ?_)
          try simp only [pn]
          refine tk 11 (h := ?_)
          try simp only [pn]
          refine tk 12 (h := ?_)
          try simp only [pn]
          refine tk 13 (h := ?_)
          try simp only [pn]
          refine tk 14 (h := ?_)
          try simp only [pn]
          refine tk 15 (h := ?_)
          try simp only [pn]
          refine sk 16 (h := ?_)
          try simp only [pn]
          refine sk 17 (h := ?_)
          try simp only [pn]
          refine sk 18 (h := ?_)
          try simp only [pn]
          refine sk 19 (h := ?_)
          try simp only [pn]
          refine sk 20 (h := ?_)
          try simp only [pn]
          refine sk 21 (h := ?_)
          try simp only [pn]
          refine sk 22 (h := ?_)
          try simp only [pn]
          refine sk 23 (h := ?_)
          try simp only [pn]
          refine tk 24 (h := ?_)
          try simp only [pn]
          refine wpAnyH_done (by kernel_rfl) ?_ _
          refine NoPanic.normal ?_
          go_wp2_with fail
          go_roundw
          case rel => exact ⟨m + 1, by omega, by go_num, by rw [HP'.out, HPF.out, Bool.or_false], by rw [HE'.out, HEF.out, Bool.and_true], by first | exact hbl | exact below_drew1 (hbl) | exact below_drewN (hbl) _⟩
          case measure => simp [intOf]; omega
    · obtain rfl : m = ne := by omega
      have hdec : decide ((m : Int) < (m : Int)) = false := decide_eq_false (by omega)
      have HRS : Hid (s0 = RR) := Lib.hid (by rw [← HS0.out, HRR.out])
      go_wp2_with fail
      go_ret
      exact ⟨by rw [← HRS.out]; rfl, bthen HBW.out hbl⟩
end
end Go.Proofs.YtdbbooibkiicnaaGreat
