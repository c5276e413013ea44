/- The reference's holds of layer 14, further kinds. -/
import Derived.Test.YtdbbooibkiicnaaGreatRef14s
set_option linter.unusedVariables false
set_option linter.unusedSimpArgs false
namespace Go.Proofs.YtdbbooibkiicnaaGreat
open Go.RowKit
attribute [local go_sem ↓] Go.wp_at_zero Go.wp_at_succ
section
variable {F : Fz} {w : World} {ss : List ByteArray} {es : List Evt} {An : Option Addr} {nn cn : Nat} {Ae : Option Addr} {ne ce : Nat}
set_option maxRecDepth 100000 in
set_option maxHeartbeats 4000000 in
theorem rholds10_w (hF : Sat F w) (hT : RefT F ss es An nn cn Ae ne ce) (name : ByteArray) (lo hi : Int) (Ak : Option Addr) (nk ck : Nat) (hs : spanS lo hi = true) (g c : Nat) (v : Nat → Bool) (hv : ∀ j, j < ne → F.cell ⟨g, j, none⟩ = some (.bool (v j))) (B : Option Addr) (nb cb : Nat) (i : Nat) (hi' : i < ne) :
    Calls Tryz.prog 117 #[.agg #[.slice An nn cn, .slice Ae ne ce], .agg #[.int .i64 10, .string name, .int .i64 lo, .int .i64 hi, .slice Ak nk ck], .int .i64 (i : Nat), .int .i64 (ne : Nat), .slice (some ⟨g, 0, none⟩) ne c, .slice B nb cb] w fun e w' => e = .returned (.bool (loopB (trcE ss es) 10 lo hi v v i)) ∧ Below w.heap.size w w' := by
  obtain ⟨gt, hgt⟩ : ∃ gt, gt = w.heap.size := ⟨_, rfl⟩
  obtain ⟨W, hW⟩ : ∃ W, W = (w.alloc (.cells #[.slice An nn cn, .slice Ae ne ce] 43)).alloc (.cells #[.int .i64 10, .string name, .int .i64 lo, .int .i64 hi, .slice Ak nk ck] 62) := ⟨_, rfl⟩
  have HBT : Hid (Blk W gt 43 #[.slice An nn cn, .slice Ae ne ce]) := Lib.hid (by rw [hW, hgt]; exact (Blk.new _ _ _).alloc _)
  have HBX : Hid (Blk W (gt + 1) 62 #[.int .i64 10, .string name, .int .i64 lo, .int .i64 hi, .slice Ak nk ck]) := Lib.hid (by rw [hW, hgt]; exact Blk.new2 _ _ _ _)
  have hbW : Below w.heap.size w W := by rw [hW]; exact (balloc _ _).alloc (by simp) _
  have HBW := Lib.hid hbW
  have HFW := Lib.hid (hF.below hbW)
  have HW := Lib.hid hW
  have HG := Lib.hid hgt
  have hneb := hT.ne1
  have hiI : (i : Int) < (ne : Int) := by omega
  obtain ⟨P, hP⟩ : ∃ P, someB (trcE ss es) 10 lo hi v v i = P := ⟨_, rfl⟩
  obtain ⟨E, hE⟩ : ∃ E, everB (trcE ss es) 10 lo hi v i = E := ⟨_, rfl⟩
  have hXn : (trcE ss es).n = ne := hT.ev.1
  obtain ⟨RR, hRR⟩ : ∃ RR, loopB (trcE ss es) 10 lo hi v v i = RR := ⟨_, rfl⟩
  have HRR : Hid (anyB P ne = RR) := Lib.hid (by rw [← hRR]; unfold loopB; rw [hXn, ← hP]; rfl)
  rw [hRR]
  have HPE : Hid (∀ m, P m = (decide (m ≤ i) && (hasD lo hi (gapE es i m) && (v m))) ∧ E m = (!(decide (m ≤ i) && hasD lo hi (gapE es i m)) || v m)) := Lib.hid (fun m => by rw [← hP, ← hE]; exact ⟨rfl, rfl⟩)
  have HV := Lib.hid hv
  have HTT := Lib.hid hT
  clear hv hP hE hRR hXn hW hgt hbW hF hT
  go_enter Tryz.func117, Tryz.ntmps117
  go_wp2_with fail
  rw [← HW.out, ← HG.out]
  go_loopw [13, 14, 123] (fun v13 v14 v123 wr => ∃ m : Nat, m ≤ ne ∧ v123 = .int .i64 m ∧ v13 = .bool (anyB P m) ∧ v14 = .bool (allB E m) ∧ Below W.heap.size W wr) (fun _ _ v123 _ => ne - (intOf v123).toNat)
  case atStart => exact ⟨0, Nat.zero_le _, rfl, rfl, rfl, Below.refl _ _⟩
  case round =>
    obtain ⟨m, hm, rfl, rfl, rfl, hbl⟩ := hrel
    have hFr := HFW.out.below hbl
    have HBTr := Lib.hid (HBT.out.call hbl)
    have HBXr := Lib.hid (HBX.out.call hbl)
    obtain ⟨t0, t1, _, _⟩ := blkA HBTr.out
    obtain ⟨x0, _, x2, x3, _⟩ := blk5 HBXr.out
    obtain ⟨s0, hs0⟩ : ∃ s0, anyB P m = s0 := ⟨_, rfl⟩
    obtain ⟨l0, hl0⟩ : ∃ l0, allB E m = l0 := ⟨_, rfl⟩
    rw [hs0, hl0]
    have HS0 := Lib.hid hs0
    have HL0 := Lib.hid hl0
    clear hs0 hl0
    by_cases hmn : m < ne
    · have hmI : (m : Int) < (ne : Int) := by omega
      have HAp := Lib.hid (fun (X : World) (h : Sat F X) => apart14_w h es An nn cn Ae ne ce HTT.out.ev i m hi' hmn)
      have HHs0 := Lib.hid (fun (X : World) => rhasT_w lo hi hs (gapE es i m) (gapE_lt HTT.out.ev hi' hmn) X)
      have hpe := HPE.out m
      obtain ⟨hh, hhh⟩ : ∃ hh, hasD lo hi (gapE es i m) = hh := ⟨_, rfl⟩
      rw [hhh] at hpe HHs0
      have HHs := HHs0
      have hmc := hFr.cell (HV.out m hmn)
      obtain ⟨x, hx⟩ : ∃ x, v m = x := ⟨_, rfl⟩
      rw [hx] at hpe hmc
      have HP' : Hid (anyB P (m + 1) = (s0 || P m)) := Lib.hid (by rw [anyB, HS0.out])
      have HE' : Hid (allB E (m + 1) = (l0 && E m)) := Lib.hid (by rw [allB, HL0.out])
      have HPM := Lib.hid hpe
      clear hhh hx hpe HHs0 
      by_cases hio : m ≤ i
      · have g1 : decide ((i : Int) < (m : Int)) = false := decide_eq_false (by omega)
        have g2 : decide (i < m) = false := decide_eq_false (by omega)
        have di : decide (m ≤ i) = true := decide_eq_true hio
        have HD := Lib.hid di
        clear di
        cases hh with
        | false =>
          have HPF : Hid (P m = false) := Lib.hid (by rw [HPM.out.1]; simp)
          have HEF : Hid (E m = true) := Lib.hid (by rw [HPM.out.2]; simp)
          go_wp2_with fail
          refine wp_region_noPanic ?_
          refine wp_region_held_drew (S := (fun w' => w'.cell? ⟨gt, 0, none⟩ = some (.slice An nn cn) ∧ w'.cell? ⟨gt, 1, none⟩ = some (.slice Ae ne ce) ∧ w'.cell? ⟨gt + 1, 2, none⟩ = some (.int .i64 lo) ∧ w'.cell? ⟨gt + 1, 3, none⟩ = some (.int .i64 hi))) (by kernel_rfl) ?hS0 (fun hHeld => ?hR0)
          case hS0 => (try dsimp only); go_keep
          case hR0 =>
            refine tk 0 (h := ?_)
            try simp only [pn]
            refine tk 1 (h := ?_)
            try simp only [pn]
            refine tk 2 (h := ?_)
            try simp only [pn]
            refine tk 3 (h := ?_)
            try simp only [pn]
            refine tk 4 (h := ?_)
            try simp only [pn]
            refine tk 5 (h := ?_)
            try simp only [pn]
            refine tk 6 (h := ?_)
            try simp only [pn]
            refine tk 7 (h := ?_)
            try simp only [pn]
            refine tk 8 (h := ?_)
            try simp only [pn]
            refine tk 9 (h := ?_)
            try simp only [pn]
            refine sk 10 (h := ?_)
            try simp only [pn]
            refine sk 11 (h := ?_)
            try simp only [pn]
            refine sk 12 (h := ?_)
            try simp only [pn]
            refine tk 13 (h := ?_)
            try simp only [pn]
            refine tk 14 (h := ?_)
            try simp only [pn]
            refine tk 15 (h := ?_)
            try simp only [pn]
            refine tk 16 (h := ?_)
            try simp only [pn]
            refine tk 17 (h := ?_)
            try simp only [pn]
            refine tk 18 (h := ?_)
            try simp only [pn]
            refine tk 19 (h := ?_)
            try simp only [pn]
            refine tk 20 (h := ?_)
            try simp only [pn]
            refine wpAnyH_ready (rs := [21]) (by kernel_rfl) (by simp) ?_
            refine AllReadyH.cons (o := ?sO5) ?sA5 (fun K hK => ?sB5) ?sC5
            case sA5 => simp only [List.getElem?_toArray, List.getElem?_cons_succ, List.getElem?_cons_zero]; rfl
            case sB5 =>
              go_simp
              go_at_call 116; refine (HAp.out _ (by first | exact hFr | exact hFr.drew)).mono ?_; rintro e w2 ⟨rfl, hw2⟩; have hc2 : Below wr.heap.size wr w2 := (by refine bel_trans ?_ hw2; first | exact bel_eqv (Below.refl _ wr) rfl rfl rfl rfl); obtain ⟨rt0, rt1, _, _⟩ := blkA (HBTr.out.call hc2); obtain ⟨rx0, _, rx2, rx3, _⟩ := blk5 (HBXr.out.call hc2)
              try go_wp2_with fail
              refine hK.out _ _ ?kS5 (fun hHeld => ?kR5)
              case kS5 => (try dsimp only); go_keep
              case kR5 =>
                clear hK K
                try simp only [pn]
                refine wpAnyH_ready (rs := [22]) (by kernel_rfl) (by simp) ?_
                refine AllReadyH.cons (o := ?sO6) ?sA6 (fun K hK => ?sB6) ?sC6
                case sA6 => simp only [List.getElem?_toArray, List.getElem?_cons_succ, List.getElem?_cons_zero]; rfl
                case sB6 =>
                  go_simp
                  go_at_call 115; refine (HHs.out _).mono ?_; rintro e w3 ⟨rfl, hw3⟩; have hc3 : Below wr.heap.size wr w3 := (by refine bel_trans ?_ hw3; first | exact bel_eqv hc2 rfl rfl rfl rfl); obtain ⟨st0, st1, _, _⟩ := blkA (HBTr.out.call hc3); obtain ⟨sx0, _, sx2, sx3, _⟩ := blk5 (HBXr.out.call hc3)
                  try go_wp2_with fail
                  refine hK.out _ _ ?kS6 (fun hHeld => ?kR6)
                  case kS6 => (try dsimp only); go_keep
                  case kR6 =>
                    clear hK K
                    try simp only [pn]
                    refine tk 23 (h := ?_)
                    try simp only [pn]
                    refine tk 24 (h := ?_)
                    try simp only [pn]
                    refine wpAnyH_done (by kernel_rfl) ?_ _
                    refine NoPanic.normal ?_
                    go_wp2_with fail
                    go_roundw
                    case rel => exact ⟨m + 1, by omega, by go_num, by rw [HP'.out, HPF.out, Bool.or_false], by rw [HE'.out, HEF.out, Bool.and_true], by first | exact bthen hbl hc3 | exact below_drew1 (bthen hbl hc3) | exact below_drewN (bthen hbl hc3) _⟩
                    case measure => simp [intOf]; omega
                case sC6 =>
                  exact AllReadyH.nil
            case sC5 =>
              exact AllReadyH.nil
        | true =>
          have HPF : Hid (P m = x) := Lib.hid (by rw [HPM.out.1, HD.out]; simp)
          have HEF : Hid (E m = x) := Lib.hid (by rw [HPM.out.2, HD.out]; simp)
          have hmc2 := fun (X : World) (h : Below wr.heap.size wr X) => (hFr.below h).cell (HV.out m hmn)
          have HMC := Lib.hid hmc2
          clear hmc2
          go_wp2_with fail
          refine wp_region_noPanic ?_
          refine wp_region_held_drew (S := (fun w' => w'.cell? ⟨gt, 0, none⟩ = some (.slice An nn cn) ∧ w'.cell? ⟨gt, 1, none⟩ = some (.slice Ae ne ce) ∧ w'.cell? ⟨gt + 1, 2, none⟩ = some (.int .i64 lo) ∧ w'.cell? ⟨gt + 1, 3, none⟩ = some (.int .i64 hi))) (by kernel_rfl) ?hS0 (fun hHeld => ?hR0)
          case hS0 => (try dsimp only); go_keep
          case hR0 =>
            refine tk 0 (h := ?_)
            try simp only [pn]
            refine tk 1 (h := ?_)
            try simp only [pn]
            refine tk 2 (h := ?_)
            try simp only [pn]
            refine tk 3 (h := ?_)
            try simp only [pn]
            refine tk 4 (h := ?_)
            try simp only [pn]
            refine tk 5 (h := ?_)
            try simp only [pn]
            refine tk 6 (h := ?_)
            try simp only [pn]
            refine tk 7 (h := ?_)
            try simp only [pn]
            refine tk 8 (h := ?_)
            try simp only [pn]
            refine tk 9 (h := ?_)
            try simp only [pn]
            refine sk 10 (h := ?_)
            try simp only [pn]
            refine sk 11 (h := ?_)
            try simp only [pn]
            refine sk 12 (h := ?_)
            try simp only [pn]
            refine tk 13 (h := ?_)
            try simp only [pn]
            refine tk 14 (h := ?_)
            try simp only [pn]
            refine tk 15 (h := ?_)
            try simp only [pn]
            refine tk 16 (h := ?_)
            try simp only [pn]
            refine tk 17 (h := ?_)
            try simp only [pn]
            refine tk 18 (h := ?_)
            try simp only [pn]
            refine tk 19 (h := ?_)
            try simp only [pn]
            refine tk 20 (h := ?_)
            try simp only [pn]
            refine wpAnyH_ready (rs := [21]) (by kernel_rfl) (by simp) ?_
            refine AllReadyH.cons (o := ?sO7) ?sA7 (fun K hK => ?sB7) ?sC7
            case sA7 => simp only [List.getElem?_toArray, List.getElem?_cons_succ, List.getElem?_cons_zero]; rfl
            case sB7 =>
              go_simp
              go_at_call 116; refine (HAp.out _ (by first | exact hFr | exact hFr.drew)).mono ?_; rintro e w2 ⟨rfl, hw2⟩; have hc2 : Below wr.heap.size wr w2 := (by refine bel_trans ?_ hw2; first | exact bel_eqv (Below.refl _ wr) rfl rfl rfl rfl); obtain ⟨rt0, rt1, _, _⟩ := blkA (HBTr.out.call hc2); obtain ⟨rx0, _, rx2, rx3, _⟩ := blk5 (HBXr.out.call hc2)
              try go_wp2_with fail
              refine hK.out _ _ ?kS7 (fun hHeld => ?kR7)
              case kS7 => (try dsimp only); go_keep
              case kR7 =>
                clear hK K
                try simp only [pn]
                refine wpAnyH_ready (rs := [22]) (by kernel_rfl) (by simp) ?_
                refine AllReadyH.cons (o := ?sO8) ?sA8 (fun K hK => ?sB8) ?sC8
                case sA8 => simp only [List.getElem?_toArray, List.getElem?_cons_succ, List.getElem?_cons_zero]; rfl
                case sB8 =>
                  go_simp
                  go_at_call 115; refine (HHs.out _).mono ?_; rintro e w3 ⟨rfl, hw3⟩; have hc3 : Below wr.heap.size wr w3 := (by refine bel_trans ?_ hw3; first | exact bel_eqv hc2 rfl rfl rfl rfl); obtain ⟨st0, st1, _, _⟩ := blkA (HBTr.out.call hc3); obtain ⟨sx0, _, sx2, sx3, _⟩ := blk5 (HBXr.out.call hc3)
                  try go_wp2_with fail
                  refine hK.out _ _ ?kS8 (fun hHeld => ?kR8)
                  case kS8 => (try dsimp only); go_keep
                  case kR8 =>
                    clear hK K
                    try simp only [pn]
                    refine tk 23 (h := ?_)
                    try simp only [pn]
                    refine tk 24 (h := ?_)
                    try simp only [pn]
                    refine wpAnyH_done (by kernel_rfl) ?_ _
                    refine NoPanic.normal ?_
                    have hm3 := (hc3.cell (p := ⟨g, m, none⟩) (hFr.clt (HV.out m hmn))).trans hmc
                    have hq3 := bthen hbl hc3
                    clear HMC
                    cases s0 <;> cases l0 <;> cases x
                    all_goals
                      go_wp2_with fail
                      go_quiet (fail)
                      go_wp2_with fail
                      go_roundw
                      case rel => exact ⟨m + 1, by omega, by go_num, by rw [HP'.out, HPF.out] <;> rfl, by rw [HE'.out, HEF.out] <;> rfl, by first | exact hq3 | exact below_drew1 (hq3) | exact below_drewN (hq3) _⟩
                      case measure => simp [intOf]; omega
                case sC8 =>
                  exact AllReadyH.nil
            case sC7 =>
              exact AllReadyH.nil
      · have g1 : (i : Int) < (m : Int) := by omega
        have di : decide (m ≤ i) = false := decide_eq_false hio
        have HPF : Hid (P m = false) := Lib.hid (by rw [HPM.out.1, di]; simp)
        have HEF : Hid (E m = true) := Lib.hid (by rw [HPM.out.2, di]; simp)
        clear di
        go_wp2_with fail
        refine wp_region_noPanic ?_
        refine wp_region_held_drew (S := (fun w' => w'.cell? ⟨gt, 0, none⟩ = some (.slice An nn cn) ∧ w'.cell? ⟨gt, 1, none⟩ = some (.slice Ae ne ce) ∧ w'.cell? ⟨gt + 1, 2, none⟩ = some (.int .i64 lo) ∧ w'.cell? ⟨gt + 1, 3, none⟩ = some (.int .i64 hi))) (by kernel_rfl) ?hS0 (fun hHeld => ?hR0)
        case hS0 => (try dsimp only); go_keep
        case hR0 =>
          refine tk 0 (h := ?_)
          try simp only [pn]
          refine tk 1 (h := ?_)
          try simp only [pn]
          refine tk 2 (h := ?_)
          try simp only [pn]
          refine tk 3 (h := ?_)
          try simp only [pn]
          refine tk 4 (h := ?_)
          try simp only [pn]
          refine tk 5 (h := ?_)
          try simp only [pn]
          refine tk 6 (h := ?_)
          try simp only [pn]
          refine sk 7 (h := ?_)
          try simp only [pn]
          refine sk 8 (h := ?_)
          try simp only [pn]
          refine sk 9 (h := ?_)
          try simp only [pn]
          refine sk 10 (h := ?_)
          try simp only [pn]
          refine sk 11 (h := ?_)
          try simp only [pn]
          refine sk 12 (h := ?_)
          try simp only [pn]
          refine sk 13 (h := ?_)
          try simp only [pn]
          refine tk 14 (h := ?_)
          try simp only [pn]
          refine tk 15 (h := ?_)
          try simp only [pn]
          refine sk 16 (h := ?_)
          try simp only [pn]
          refine sk 17 (h := ?_)
          try simp only [pn]
          refine sk 18 (h := ?_)
          try simp only [pn]
          refine sk 19 (h := ?_)
          try simp only [pn]
          refine sk 20 (h := ?_)
          try simp only [pn]
          refine sk 21 (h := ?_)
          try simp only [pn]
          refine sk 22 (h := ?_)
          try simp only [pn]
          refine sk 23 (h := ?_)
          try simp only [pn]
          refine tk 24 (h := ?_)
          try simp only [pn]
          refine wpAnyH_done (by kernel_rfl) ?_ _
          refine NoPanic.normal ?_
          go_wp2_with fail
          go_roundw
          case rel => exact ⟨m + 1, by omega, by go_num, by rw [HP'.out, HPF.out, Bool.or_false], by rw [HE'.out, HEF.out, Bool.and_true], by first | exact hbl | exact below_drew1 (hbl) | exact below_drewN (hbl) _⟩
          case measure => simp [intOf]; omega
    · obtain rfl : m = ne := by omega
      have hdec : decide ((m : Int) < (m : Int)) = false := decide_eq_false (by omega)
      have HRS : Hid (s0 = RR) := Lib.hid (by rw [← HS0.out, HRR.out])
      go_wp2_with fail
      go_ret
      exact ⟨by rw [← HRS.out]; rfl, bthen HBW.out hbl⟩
set_option maxRecDepth 100000 in
set_option maxHeartbeats 4000000 in
theorem rholds11_w (hF : Sat F w) (hT : RefT F ss es An nn cn Ae ne ce) (name : ByteArray) (lo hi : Int) (Ak : Option Addr) (nk ck : Nat) (hs : spanS lo hi = true) (g c : Nat) (v : Nat → Bool) (hv : ∀ j, j < ne → F.cell ⟨g, j, none⟩ = some (.bool (v j))) (B : Option Addr) (nb cb : Nat) (i : Nat) (hi' : i < ne) :
    Calls Tryz.prog 117 #[.agg #[.slice An nn cn, .slice Ae ne ce], .agg #[.int .i64 11, .string name, .int .i64 lo, .int .i64 hi, .slice Ak nk ck], .int .i64 (i : Nat), .int .i64 (ne : Nat), .slice (some ⟨g, 0, none⟩) ne c, .slice B nb cb] w fun e w' => e = .returned (.bool (loopB (trcE ss es) 11 lo hi v v i)) ∧ Below w.heap.size w w' := by
  obtain ⟨gt, hgt⟩ : ∃ gt, gt = w.heap.size := ⟨_, rfl⟩
  obtain ⟨W, hW⟩ : ∃ W, W = (w.alloc (.cells #[.slice An nn cn, .slice Ae ne ce] 43)).alloc (.cells #[.int .i64 11, .string name, .int .i64 lo, .int .i64 hi, .slice Ak nk ck] 62) := ⟨_, rfl⟩
  have HBT : Hid (Blk W gt 43 #[.slice An nn cn, .slice Ae ne ce]) := Lib.hid (by rw [hW, hgt]; exact (Blk.new _ _ _).alloc _)
  have HBX : Hid (Blk W (gt + 1) 62 #[.int .i64 11, .string name, .int .i64 lo, .int .i64 hi, .slice Ak nk ck]) := Lib.hid (by rw [hW, hgt]; exact Blk.new2 _ _ _ _)
  have hbW : Below w.heap.size w W := by rw [hW]; exact (balloc _ _).alloc (by simp) _
  have HBW := Lib.hid hbW
  have HFW := Lib.hid (hF.below hbW)
  have HW := Lib.hid hW
  have HG := Lib.hid hgt
  have hneb := hT.ne1
  have hiI : (i : Int) < (ne : Int) := by omega
  obtain ⟨P, hP⟩ : ∃ P, someB (trcE ss es) 11 lo hi v v i = P := ⟨_, rfl⟩
  obtain ⟨E, hE⟩ : ∃ E, everB (trcE ss es) 11 lo hi v i = E := ⟨_, rfl⟩
  have hXn : (trcE ss es).n = ne := hT.ev.1
  obtain ⟨RR, hRR⟩ : ∃ RR, loopB (trcE ss es) 11 lo hi v v i = RR := ⟨_, rfl⟩
  have HRR : Hid (allB E ne = RR) := Lib.hid (by rw [← hRR]; unfold loopB; rw [hXn, ← hE]; rfl)
  rw [hRR]
  have HPE : Hid (∀ m, P m = (decide (m ≤ i) && (hasD lo hi (gapE es i m) && (v m))) ∧ E m = (!(decide (m ≤ i) && hasD lo hi (gapE es i m)) || v m)) := Lib.hid (fun m => by rw [← hP, ← hE]; exact ⟨rfl, rfl⟩)
  have HV := Lib.hid hv
  have HTT := Lib.hid hT
  clear hv hP hE hRR hXn hW hgt hbW hF hT
  go_enter Tryz.func117, Tryz.ntmps117
  go_wp2_with fail
  rw [← HW.out, ← HG.out]
  go_loopw [13, 14, 123] (fun v13 v14 v123 wr => ∃ m : Nat, m ≤ ne ∧ v123 = .int .i64 m ∧ v13 = .bool (anyB P m) ∧ v14 = .bool (allB E m) ∧ Below W.heap.size W wr) (fun _ _ v123 _ => ne - (intOf v123).toNat)
  case atStart => exact ⟨0, Nat.zero_le _, rfl, rfl, rfl, Below.refl _ _⟩
  case round =>
    obtain ⟨m, hm, rfl, rfl, rfl, hbl⟩ := hrel
    have hFr := HFW.out.below hbl
    have HBTr := Lib.hid (HBT.out.call hbl)
    have HBXr := Lib.hid (HBX.out.call hbl)
    obtain ⟨t0, t1, _, _⟩ := blkA HBTr.out
    obtain ⟨x0, _, x2, x3, _⟩ := blk5 HBXr.out
    obtain ⟨s0, hs0⟩ : ∃ s0, anyB P m = s0 := ⟨_, rfl⟩
    obtain ⟨l0, hl0⟩ : ∃ l0, allB E m = l0 := ⟨_, rfl⟩
    rw [hs0, hl0]
    have HS0 := Lib.hid hs0
    have HL0 := Lib.hid hl0
    clear hs0 hl0
    by_cases hmn : m < ne
    · have hmI : (m : Int) < (ne : Int) := by omega
      have HAp := Lib.hid (fun (X : World) (h : Sat F X) => apart14_w h es An nn cn Ae ne ce HTT.out.ev i m hi' hmn)
      have HHs0 := Lib.hid (fun (X : World) => rhasT_w lo hi hs (gapE es i m) (gapE_lt HTT.out.ev hi' hmn) X)
      have hpe := HPE.out m
      obtain ⟨hh, hhh⟩ : ∃ hh, hasD lo hi (gapE es i m) = hh := ⟨_, rfl⟩
      rw [hhh] at hpe HHs0
      have HHs := HHs0
      have hmc := hFr.cell (HV.out m hmn)
      obtain ⟨x, hx⟩ : ∃ x, v m = x := ⟨_, rfl⟩
      rw [hx] at hpe hmc
      have HP' : Hid (anyB P (m + 1) = (s0 || P m)) := Lib.hid (by rw [anyB, HS0.out])
      have HE' : Hid (allB E (m + 1) = (l0 && E m)) := Lib.hid (by rw [allB, HL0.out])
      have HPM := Lib.hid hpe
      clear hhh hx hpe HHs0 
      by_cases hio : m ≤ i
      · have g1 : decide ((i : Int) < (m : Int)) = false := decide_eq_false (by omega)
        have g2 : decide (i < m) = false := decide_eq_false (by omega)
        have di : decide (m ≤ i) = true := decide_eq_true hio
        have HD := Lib.hid di
        clear di
        cases hh with
        | false =>
          have HPF : Hid (P m = false) := Lib.hid (by rw [HPM.out.1]; simp)
          have HEF : Hid (E m = true) := Lib.hid (by rw [HPM.out.2]; simp)
          go_wp2_with fail
          refine wp_region_noPanic ?_
          refine wp_region_held_drew (S := (fun w' => w'.cell? ⟨gt, 0, none⟩ = some (.slice An nn cn) ∧ w'.cell? ⟨gt, 1, none⟩ = some (.slice Ae ne ce) ∧ w'.cell? ⟨gt + 1, 2, none⟩ = some (.int .i64 lo) ∧ w'.cell? ⟨gt + 1, 3, none⟩ = some (.int .i64 hi))) (by kernel_rfl) ?hS0 (fun hHeld => ?hR0)
          case hS0 => (try dsimp only); go_keep
          case hR0 =>
            refine tk 0 (h := ?_)
            try simp only [pn]
            refine tk 1 (h := ?_)
            try simp only [pn]
            refine tk 2 (h := ?_)
            try simp only [pn]
            refine tk 3 (h := ?_)
            try simp only [pn]
            refine tk 4 (h := ?_)
            try simp only [pn]
            refine tk 5 (h := ?_)
            try simp only [pn]
            refine tk 6 (h := ?_)
            try simp only [pn]
            refine tk 7 (h := ?_)
            try simp only [pn]
            refine tk 8 (h := ?_)
            try simp only [pn]
            refine tk 9 (h := ?_)
            try simp only [pn]
            refine sk 10 (h := ?_)
            try simp only [pn]
            refine sk 11 (h := ?_)
            try simp only [pn]
            refine sk 12 (h := ?_)
            try simp only [pn]
            refine tk 13 (h := ?_)
            try simp only [pn]
            refine tk 14 (h := ?_)
            try simp only [pn]
            refine tk 15 (h := ?_)
            try simp only [pn]
            refine tk 16 (h := ?_)
            try simp only [pn]
            refine tk 17 (h := ?_)
            try simp only [pn]
            refine tk 18 (h := ?_)
            try simp only [pn]
            refine tk 19 (h := ?_)
            try simp only [pn]
            refine tk 20 (h := ?_)
            try simp only [pn]
            refine wpAnyH_ready (rs := [21]) (by kernel_rfl) (by simp) ?_
            refine AllReadyH.cons (o := ?sO9) ?sA9 (fun K hK => ?sB9) ?sC9
            case sA9 => simp only [List.getElem?_toArray, List.getElem?_cons_succ, List.getElem?_cons_zero]; rfl
            case sB9 =>
              go_simp
              go_at_call 116; refine (HAp.out _ (by first | exact hFr | exact hFr.drew)).mono ?_; rintro e w2 ⟨rfl, hw2⟩; have hc2 : Below wr.heap.size wr w2 := (by refine bel_trans ?_ hw2; first | exact bel_eqv (Below.refl _ wr) rfl rfl rfl rfl); obtain ⟨rt0, rt1, _, _⟩ := blkA (HBTr.out.call hc2); obtain ⟨rx0, _, rx2, rx3, _⟩ := blk5 (HBXr.out.call hc2)
              try go_wp2_with fail
              refine hK.out _ _ ?kS9 (fun hHeld => ?kR9)
              case kS9 => (try dsimp only); go_keep
              case kR9 =>
                clear hK K
                try simp only [pn]
                refine wpAnyH_ready (rs := [22]) (by kernel_rfl) (by simp) ?_
                refine AllReadyH.cons (o := ?sO10) ?sA10 (fun K hK => ?sB10) ?sC10
                case sA10 => simp only [List.getElem?_toArray, List.getElem?_cons_succ, List.getElem?_cons_zero]; rfl
                case sB10 =>
                  go_simp
                  go_at_call 115; refine (HHs.out _).mono ?_; rintro e w3 ⟨rfl, hw3⟩; have hc3 : Below wr.heap.size wr w3 := (by refine bel_trans ?_ hw3; first | exact bel_eqv hc2 rfl rfl rfl rfl); obtain ⟨st0, st1, _, _⟩ := blkA (HBTr.out.call hc3); obtain ⟨sx0, _, sx2, sx3, _⟩ := blk5 (HBXr.out.call hc3)
                  try go_wp2_with fail
                  refine hK.out _ _ ?kS10 (fun hHeld => ?kR10)
                  case kS10 => (try dsimp only); go_keep
                  case kR10 =>
                    clear hK K
                    try simp only [pn]
                    refine tk 23 (h := ?_)
                    try simp only [pn]
                    refine tk 24 (h := ?_)
                    try simp only [pn]
                    refine wpAnyH_done (by kernel_rfl) ?_ _
                    refine NoPanic.normal ?_
                    go_wp2_with fail
                    go_roundw
                    case rel => exact ⟨m + 1, by omega, by go_num, by rw [HP'.out, HPF.out, Bool.or_false], by rw [HE'.out, HEF.out, Bool.and_true], by first | exact bthen hbl hc3 | exact below_drew1 (bthen hbl hc3) | exact below_drewN (bthen hbl hc3) _⟩
                    case measure => simp [intOf]; omega
                case sC10 =>
                  exact AllReadyH.nil
            case sC9 =>
              exact AllReadyH.nil
        | true =>
          have HPF : Hid (P m = x) := Lib.hid (by rw [HPM.out.1, HD.out]; simp)
          have HEF : Hid (E m = x) := Lib.hid (by rw [HPM.out.2, HD.out]; simp)
          have hmc2 := fun (X : World) (h : Below wr.heap.size wr X) => (hFr.below h).cell (HV.out m hmn)
          have HMC := Lib.hid hmc2
          clear hmc2
          go_wp2_with fail
          refine wp_region_noPanic ?_
          refine wp_region_held_drew (S := (fun w' => w'.cell? ⟨gt, 0, none⟩ = some (.slice An nn cn) ∧ w'.cell? ⟨gt, 1, none⟩ = some (.slice Ae ne ce) ∧ w'.cell? ⟨gt + 1, 2, none⟩ = some (.int .i64 lo) ∧ w'.cell? ⟨gt + 1, 3, none⟩ = some (.int .i64 hi))) (by kernel_rfl) ?hS0 (fun hHeld => ?hR0)
          case hS0 => (try dsimp only); go_keep
          case hR0 =>
            refine tk 0 (h := ?_)
            try simp only [pn]
            refine tk 1 (h := ?_)
            try simp only [pn]
            refine tk 2 (h := ?_)
            try simp only [pn]
            refine tk 3 (h := ?_)
            try simp only [pn]
            refine tk 4 (h := ?_)
            try simp only [pn]
            refine tk 5 (h := ?_)
            try simp only [pn]
            refine tk 6 (h := ?_)
            try simp only [pn]
            refine tk 7 (h := ?_)
            try simp only [pn]
            refine tk 8 (h := ?_)
            try simp only [pn]
            refine tk 9 (h := ?_)
            try simp only [pn]
            refine sk 10 (h := ?_)
            try simp only [pn]
            refine sk 11 (h := ?_)
            try simp only [pn]
            refine sk 12 (h := ?_)
            try simp only [pn]
            refine tk 13 (h := ?_)
            try simp only [pn]
            refine tk 14 (h := ?_)
            try simp only [pn]
            refine tk 15 (h := ?_)
            try simp only [pn]
            refine tk 16 (h := ?_)
            try simp only [pn]
            refine tk 17 (h := ?_)
            try simp only [pn]
            refine tk 18 (h := ?_)
            try simp only [pn]
            refine tk 19 (h := ?_)
            try simp only [pn]
            refine tk 20 (h := ?_)
            try simp only [pn]
            refine wpAnyH_ready (rs := [21]) (by kernel_rfl) (by simp) ?_
            refine AllReadyH.cons (o := ?sO11) ?sA11 (fun K hK => ?sB11) ?sC11
            case sA11 => simp only [List.getElem?_toArray, List.getElem?_cons_succ, List.getElem?_cons_zero]; rfl
            case sB11 =>
              go_simp
              go_at_call 116; refine (HAp.out _ (by first | exact hFr | exact hFr.drew)).mono ?_; rintro e w2 ⟨rfl, hw2⟩; have hc2 : Below wr.heap.size wr w2 := (by refine bel_trans ?_ hw2; first | exact bel_eqv (Below.refl _ wr) rfl rfl rfl rfl); obtain ⟨rt0, rt1, _, _⟩ := blkA (HBTr.out.call hc2); obtain ⟨rx0, _, rx2, rx3, _⟩ := blk5 (HBXr.out.call hc2)
              try go_wp2_with fail
              refine hK.out _ _ ?kS11 (fun hHeld => ?kR11)
              case kS11 => (try dsimp only); go_keep
              case kR11 =>
                clear hK K
                try simp only [pn]
                refine wpAnyH_ready (rs := [22]) (by kernel_rfl) (by simp) ?_
                refine AllReadyH.cons (o := ?sO12) ?sA12 (fun K hK => ?sB12) ?sC12
                case sA12 => simp only [List.getElem?_toArray, List.getElem?_cons_succ, List.getElem?_cons_zero]; rfl
                case sB12 =>
                  go_simp
                  go_at_call 115; refine (HHs.out _).mono ?_; rintro e w3 ⟨rfl, hw3⟩; have hc3 : Below wr.heap.size wr w3 := (by refine bel_trans ?_ hw3; first | exact bel_eqv hc2 rfl rfl rfl rfl); obtain ⟨st0, st1, _, _⟩ := blkA (HBTr.out.call hc3); obtain ⟨sx0, _, sx2, sx3, _⟩ := blk5 (HBXr.out.call hc3)
                  try go_wp2_with fail
                  refine hK.out _ _ ?kS12 (fun hHeld => ?kR12)
                  case kS12 => (try dsimp only); go_keep
                  case kR12 =>
                    clear hK K
                    try simp only [pn]
                    refine tk 23 (h := ?_)
                    try simp only [pn]
                    refine tk 24 (h := ?_)
                    try simp only [pn]
                    refine wpAnyH_done (by kernel_rfl) ?_ _
                    refine NoPanic.normal ?_
                    have hm3 := (hc3.cell (p := ⟨g, m, none⟩) (hFr.clt (HV.out m hmn))).trans hmc
                    have hq3 := bthen hbl hc3
                    clear HMC
                    cases s0 <;> cases l0 <;> cases x
                    all_goals
                      go_wp2_with fail
                      go_quiet (fail)
                      go_wp2_with fail
                      go_roundw
                      case rel => exact ⟨m + 1, by omega, by go_num, by rw [HP'.out, HPF.out] <;> rfl, by rw [HE'.out, HEF.out] <;> rfl, by first | exact hq3 | exact below_drew1 (hq3) | exact below_drewN (hq3) _⟩
                      case measure => simp [intOf]; omega
                case sC12 =>
                  exact AllReadyH.nil
            case sC11 =>
              exact AllReadyH.nil
      · have g1 : (i : Int) < (m : Int) := by omega
        have di : decide (m ≤ i) = false := decide_eq_false hio
        have HPF : Hid (P m = false) := Lib.hid (by rw [HPM.out.1, di]; simp)
        have HEF : Hid (E m = true) := Lib.hid (by rw [HPM.out.2, di]; simp)
        clear di
        go_wp2_with fail
        refine wp_region_noPanic ?_
        refine wp_region_held_drew (S := (fun w' => w'.cell? ⟨gt, 0, none⟩ = some (.slice An nn cn) ∧ w'.cell? ⟨gt, 1, none⟩ = some (.slice Ae ne ce) ∧ w'.cell? ⟨gt + 1, 2, none⟩ = some (.int .i64 lo) ∧ w'.cell? ⟨gt + 1, 3, none⟩ = some (.int .i64 hi))) (by kernel_rfl) ?hS0 (fun hHeld => ?hR0)
        case hS0 => (try dsimp only); go_keep
        case hR0 =>
          refine tk 0 (h := ?_)
          try simp only [pn]
          refine tk 1 (h := ?_)
          try simp only [pn]
          refine tk 2 (h := ?_)
          try simp only [pn]
          refine tk 3 (h := ?_)
          try simp only [pn]
          refine tk 4 (h := ?_)
          try simp only [pn]
          refine tk 5 (h := ?_)
          try simp only [pn]
          refine tk 6 (h := ?_)
          try simp only [pn]
          refine sk 7 (h := ?_)
          try simp only [pn]
          refine sk 8 (h := ?_)
          try simp only [pn]
          refine sk 9 (h := ?_)
          try simp only [pn]
          refine sk 10 (h := ?_)
          try simp only [pn]
          refine sk 11 (h := ?_)
          try simp only [pn]
          refine sk 12 (h := ?_)
          try simp only [pn]
          refine sk 13 (h := ?_)
          try simp only [pn]
          refine tk 14 (h := ?_)
          try simp only [pn]
          refine tk 15 (h := ?_)
          try simp only [pn]
          refine sk 16 (h := ?_)
          try simp only [pn]
          refine sk 17 (h := ?_)
          try simp only [pn]
          refine sk 18 (h := ?_)
          try simp only [pn]
          refine sk 19 (h := ?_)
          try simp only [pn]
          refine sk 20 (h := ?_)
          try simp only [pn]
          refine sk 21 (h := ?_)
          try simp only [pn]
          refine sk 22 (h := ?_)
          try simp only [pn]
          refine sk 23 (h := ?_)
          try simp only [pn]
          refine tk 24 (h := ?_)
          try simp only [pn]
          refine wpAnyH_done (by kernel_rfl) ?_ _
          refine NoPanic.normal ?_
          go_wp2_with fail
          go_roundw
          case rel => exact ⟨m + 1, by omega, by go_num, by rw [HP'.out, HPF.out, Bool.or_false], by rw [HE'.out, HEF.out, Bool.and_true], by first | exact hbl | exact below_drew1 (hbl) | exact below_drewN (hbl) _⟩
          case measure => simp [intOf]; omega
    · obtain rfl : m = ne := by omega
      have hdec : decide ((m : Int) < (m : Int)) = false := decide_eq_false (by omega)
      have HRS : Hid (l0 = RR) := Lib.hid (by rw [← HL0.out, HRR.out])
      go_wp2_with fail
      go_ret
      exact ⟨by rw [← HRS.out]; rfl, bthen HBW.out hbl⟩
set_option maxRecDepth 100000 in
set_option maxHeartbeats 4000000 in
theorem rholds12_w (hF : Sat F w) (hT : RefT F ss es An nn cn Ae ne ce) (name : ByteArray) (lo hi : Int) (Ak : Option Addr) (nk ck : Nat) (hs : spanS lo hi = true) (g c : Nat) (v : Nat → Bool) (hv : ∀ j, j < ne → F.cell ⟨g, j, none⟩ = some (.bool (v j))) (B : Option Addr) (nb cb : Nat) (i : Nat) (hi' : i < ne) :
    Calls Tryz.prog 117 #[.agg #[.slice An nn cn, .slice Ae ne ce], .agg #[.int .i64 12, .string name, .int .i64 lo, .int .i64 hi, .slice Ak nk ck], .int .i64 (i : Nat), .int .i64 (ne : Nat), .slice (some ⟨g, 0, none⟩) ne c, .slice B nb cb] w fun e w' => e = .returned (.bool (loopB (trcE ss es) 12 lo hi v v i)) ∧ Below w.heap.size w w' := by
  obtain ⟨gt, hgt⟩ : ∃ gt, gt = w.heap.size := ⟨_, rfl⟩
  obtain ⟨W, hW⟩ : ∃ W, W = (w.alloc (.cells #[.slice An nn cn, .slice Ae ne ce] 43)).alloc (.cells #[.int .i64 12, .string name, .int .i64 lo, .int .i64 hi, .slice Ak nk ck] 62) := ⟨_, rfl⟩
  have HBT : Hid (Blk W gt 43 #[.slice An nn cn, .slice Ae ne ce]) := Lib.hid (by rw [hW, hgt]; exact (Blk.new _ _ _).alloc _)
  have HBX : Hid (Blk W (gt + 1) 62 #[.int .i64 12, .string name, .int .i64 lo, .int .i64 hi, .slice Ak nk ck]) := Lib.hid (by rw [hW, hgt]; exact Blk.new2 _ _ _ _)
  have hbW : Below w.heap.size w W := by rw [hW]; exact (balloc _ _).alloc (by simp) _
  have HBW := Lib.hid hbW
  have HFW := Lib.hid (hF.below hbW)
  have HW := Lib.hid hW
  have HG := Lib.hid hgt
  have hneb := hT.ne1
  have hiI : (i : Int) < (ne : Int) := by omega
  obtain ⟨P, hP⟩ : ∃ P, someB (trcE ss es) 12 lo hi v v i = P := ⟨_, rfl⟩
  obtain ⟨E, hE⟩ : ∃ E, everB (trcE ss es) 12 lo hi v i = E := ⟨_, rfl⟩
  have hXn : (trcE ss es).n = ne := hT.ev.1
  obtain ⟨RR, hRR⟩ : ∃ RR, loopB (trcE ss es) 12 lo hi v v i = RR := ⟨_, rfl⟩
  have HRR : Hid (anyB P ne = RR) := Lib.hid (by rw [← hRR]; unfold loopB; rw [hXn, ← hP]; rfl)
  rw [hRR]
  have HPE : Hid (∀ m, P m = (decide (i ≤ m) && (hasD lo hi (gapE es i m) && (v m))) ∧ E m = (!(decide (i ≤ m) && hasD lo hi (gapE es i m)) || v m)) := Lib.hid (fun m => by rw [← hP, ← hE]; exact ⟨rfl, rfl⟩)
  have HV := Lib.hid hv
  have HTT := Lib.hid hT
  clear hv hP hE hRR hXn hW hgt hbW hF hT
  go_enter Tryz.func117, Tryz.ntmps117
  go_wp2_with fail
  rw [← HW.out, ← HG.out]
  go_loopw [13, 14, 123] (fun v13 v14 v123 wr => ∃ m : Nat, m ≤ ne ∧ v123 = .int .i64 m ∧ v13 = .bool (anyB P m) ∧ v14 = .bool (allB E m) ∧ Below W.heap.size W wr) (fun _ _ v123 _ => ne - (intOf v123).toNat)
  case atStart => exact ⟨0, Nat.zero_le _, rfl, rfl, rfl, Below.refl _ _⟩
  case round =>
    obtain ⟨m, hm, rfl, rfl, rfl, hbl⟩ := hrel
    have hFr := HFW.out.below hbl
    have HBTr := Lib.hid (HBT.out.call hbl)
    have HBXr := Lib.hid (HBX.out.call hbl)
    obtain ⟨t0, t1, _, _⟩ := blkA HBTr.out
    obtain ⟨x0, _, x2, x3, _⟩ := blk5 HBXr.out
    obtain ⟨s0, hs0⟩ : ∃ s0, anyB P m = s0 := ⟨_, rfl⟩
    obtain ⟨l0, hl0⟩ : ∃ l0, allB E m = l0 := ⟨_, rfl⟩
    rw [hs0, hl0]
    have HS0 := Lib.hid hs0
    have HL0 := Lib.hid hl0
    clear hs0 hl0
    by_cases hmn : m < ne
    · have hmI : (m : Int) < (ne : Int) := by omega
      have HAp := Lib.hid (fun (X : World) (h : Sat F X) => apart14_w h es An nn cn Ae ne ce HTT.out.ev i m hi' hmn)
      have HHs0 := Lib.hid (fun (X : World) => rhasT_w lo hi hs (gapE es i m) (gapE_lt HTT.out.ev hi' hmn) X)
      have hpe := HPE.out m
      obtain ⟨hh, hhh⟩ : ∃ hh, hasD lo hi (gapE es i m) = hh := ⟨_, rfl⟩
      rw [hhh] at hpe HHs0
      have HHs := HHs0
      have hmc := hFr.cell (HV.out m hmn)
      obtain ⟨x, hx⟩ : ∃ x, v m = x := ⟨_, rfl⟩
      rw [hx] at hpe hmc
      have HP' : Hid (anyB P (m + 1) = (s0 || P m)) := Lib.hid (by rw [anyB, HS0.out])
      have HE' : Hid (allB E (m + 1) = (l0 && E m)) := Lib.hid (by rw [allB, HL0.out])
      have HPM := Lib.hid hpe
      clear hhh hx hpe HHs0 
      by_cases hio : i ≤ m
      · have g1 : decide ((m : Int) < (i : Int)) = false := decide_eq_false (by omega)
        have g2 : decide (m < i) = false := decide_eq_false (by omega)
        have di : decide (i ≤ m) = true := decide_eq_true hio
        have HD := Lib.hid di
        clear di
        cases hh with
        | false =>
          have HPF : Hid (P m = false) := Lib.hid (by rw [HPM.out.1]; simp)
          have HEF : Hid (E m = true) := Lib.hid (by rw [HPM.out.2]; simp)
          go_wp2_with fail
          refine wp_region_noPanic ?_
          refine wp_region_held_drew (S := (fun w' => w'.cell? ⟨gt, 0, none⟩ = some (.slice An nn cn) ∧ w'.cell? ⟨gt, 1, none⟩ = some (.slice Ae ne ce) ∧ w'.cell? ⟨gt + 1, 2, none⟩ = some (.int .i64 lo) ∧ w'.cell? ⟨gt + 1, 3, none⟩ = some (.int .i64 hi))) (by kernel_rfl) ?hS0 (fun hHeld => ?hR0)
          case hS0 => (try dsimp only); go_keep
          case hR0 =>
            refine tk 0 (h := ?_)
            try simp only [pn]
            refine tk 1 (h := ?_)
            try simp only [pn]
            refine sk 2 (h := ?_)
            try simp only [pn]
            refine sk 3 (h := ?_)
            try simp only [pn]
            refine sk 4 (h := ?_)
            try simp only [pn]
            refine tk 5 (h := ?_)
            try simp only [pn]
            refine tk 6 (h := ?_)
            try simp only [pn]
            refine tk 7 (h := ?_)
            try simp only [pn]
            refine tk 8 (h := ?_)
            try simp only [pn]
            refine tk 9 (h := ?_)
            try simp only [pn]
            refine tk 10 (h := ?_)
            try simp only [pn]
            refine tk 11 (h := ?_)
            try simp only [pn]
            refine tk 12 (h := ?_)
            try simp only [pn]
            refine tk 13 (h := ?_)
            try simp only [pn]
            refine tk 14 (h := ?_)
            try simp only [pn]
            refine tk 15 (h := ?_)
            try simp only [pn]
            refine tk 16 (h := ?_)
            try simp only [pn]
            refine tk 17 (h := ?_)
            try simp only [pn]
            refine tk 18 (h := ?_)
            try simp only [pn]
            refine tk 19 (h := ?_)
            try simp only [pn]
            refine tk 20 (h := ?_)
            try simp only [pn]
            refine wpAnyH_ready (rs := [21]) (by kernel_rfl) (by simp) ?_
            refine AllReadyH.cons (o := ?sO13) ?sA13 (fun K hK => ?sB13) ?sC13
            case sA13 => simp only [List.getElem?_toArray, List.getElem?_cons_succ, List.getElem?_cons_zero]; rfl
            case sB13 =>
              go_simp
              go_at_call 116; refine (HAp.out _ (by first | exact hFr | exact hFr.drew)).mono ?_; rintro e w2 ⟨rfl, hw2⟩; have hc2 : Below wr.heap.size wr w2 := (by refine bel_trans ?_ hw2; first | exact bel_eqv (Below.refl _ wr) rfl rfl rfl rfl); obtain ⟨rt0, rt1, _, _⟩ := blkA (HBTr.out.call hc2); obtain ⟨rx0, _, rx2, rx3, _⟩ := blk5 (HBXr.out.call hc2)
              try go_wp2_with fail
              refine hK.out _ _ ?kS13 (fun hHeld => ?kR13)
              case kS13 => (try dsimp only); go_keep
              case kR13 =>
                clear hK K
                try simp only [pn]
                refine wpAnyH_ready (rs := [22]) (by kernel_rfl) (by simp) ?_
                refine AllReadyH.cons (o := ?sO14) ?sA14 (fun K hK => ?sB14) ?sC14
                case sA14 => simp only [List.getElem?_toArray, List.getElem?_cons_succ, List.getElem?_cons_zero]; rfl
                case sB14 =>
                  go_simp
                  go_at_call 115; refine (HHs.out _).mono ?_; rintro e w3 ⟨rfl, hw3⟩; have hc3 : Below wr.heap.size wr w3 := (by refine bel_trans ?_ hw3; first | exact bel_eqv hc2 rfl rfl rfl rfl); obtain ⟨st0, st1, _, _⟩ := blkA (HBTr.out.call hc3); obtain ⟨sx0, _, sx2, sx3, _⟩ := blk5 (HBXr.out.call hc3)
                  try go_wp2_with fail
                  refine hK.out _ _ ?kS14 (fun hHeld => ?kR14)
                  case kS14 => (try dsimp only); go_keep
                  case kR14 =>
                    clear hK K
                    try simp only [pn]
                    refine tk 23 (h := ?_)
                    try simp only [pn]
                    refine tk 24 (h := ?_)
                    try simp only [pn]
                    refine wpAnyH_done (by kernel_rfl) ?_ _
                    refine NoPanic.normal ?_
                    go_wp2_with fail
                    go_roundw
                    case rel => exact ⟨m + 1, by omega, by go_num, by rw [HP'.out, HPF.out, Bool.or_false], by rw [HE'.out, HEF.out, Bool.and_true], by first | exact bthen hbl hc3 | exact below_drew1 (bthen hbl hc3) | exact below_drewN (bthen hbl hc3) _⟩
                    case measure => simp [intOf]; omega
                case sC14 =>
                  exact AllReadyH.nil
            case sC13 =>
              exact AllReadyH.nil
        | true =>
          have HPF : Hid (P m = x) := Lib.hid (by rw [HPM.out.1, HD.out]; simp)
          have HEF : Hid (E m = x) := Lib.hid (by rw [HPM.out.2, HD.out]; simp)
          have hmc2 := fun (X : World) (h : Below wr.heap.size wr X) => (hFr.below h).cell (HV.out m hmn)
          have HMC := Lib.hid hmc2
          clear hmc2
          go_wp2_with fail
          refine wp_region_noPanic ?_
          refine wp_region_held_drew (S := (fun w' => w'.cell? ⟨gt, 0, none⟩ = some (.slice An nn cn) ∧ w'.cell? ⟨gt, 1, none⟩ = some (.slice Ae ne ce) ∧ w'.cell? ⟨gt + 1, 2, none⟩ = some (.int .i64 lo) ∧ w'.cell? ⟨gt + 1, 3, none⟩ = some (.int .i64 hi))) (by kernel_rfl) ?hS0 (fun hHeld => ?hR0)
          case hS0 => (try dsimp only); go_keep
          case hR0 =>
            refine tk 0 (h := ?_)
            try simp only [pn]
            refine tk 1 (h := ?_)
            try simp only [pn]
            refine sk 2 (h := ?_)
            try simp only [pn]
            refine sk 3 (h := ?_)
            try simp only [pn]
            refine sk 4 (h := ?_)
            try simp only [pn]
            refine tk 5 (h := ?_)
            try simp only [pn]
            refine tk 6 (h := ?_)
            try simp only [pn]
            refine tk 7 (h := ?_)
            try simp only [pn]
            refine tk 8 (h := ?_)
            try simp only [pn]
            refine tk 9 (h := ?_)
            try simp only [pn]
            refine tk 10 (h := ?_)
            try simp only [pn]
            refine tk 11 (h := ?_)
            try simp only [pn]
            refine tk 12 (h := ?_)
            try simp only [pn]
            refine tk 13 (h := ?_)
            try simp only [pn]
            refine tk 14 (h := ?_)
            try simp only [pn]
            refine tk 15 (h := ?_)
            try simp only [pn]
            refine tk 16 (h := ?_)
            try simp only [pn]
            refine tk 17 (h := ?_)
            try simp only [pn]
            refine tk 18 (h := ?_)
            try simp only [pn]
            refine tk 19 (h := ?_)
            try simp only [pn]
            refine tk 20 (h := ?_)
            try simp only [pn]
            refine wpAnyH_ready (rs := [21]) (by kernel_rfl) (by simp) ?_
            refine AllReadyH.cons (o := ?sO15) ?sA15 (fun K hK => ?sB15) ?sC15
            case sA15 => simp only [List.getElem?_toArray, List.getElem?_cons_succ, List.getElem?_cons_zero]; rfl
            case sB15 =>
              go_simp
              go_at_call 116; refine (HAp.out _ (by first | exact hFr | exact hFr.drew)).mono ?_; rintro e w2 ⟨rfl, hw2⟩; have hc2 : Below wr.heap.size wr w2 := (by refine bel_trans ?_ hw2; first | exact bel_eqv (Below.refl _ wr) rfl rfl rfl rfl); obtain ⟨rt0, rt1, _, _⟩ := blkA (HBTr.out.call hc2); obtain ⟨rx0, _, rx2, rx3, _⟩ := blk5 (HBXr.out.call hc2)
              try go_wp2_with fail
              refine hK.out _ _ ?kS15 (fun hHeld => ?kR15)
              case kS15 => (try dsimp only); go_keep
              case kR15 =>
                clear hK K
                try simp only [pn]
                refine wpAnyH_ready (rs := [22]) (by kernel_rfl) (by simp) ?_
                refine AllReadyH.cons (o := ?sO16) ?sA16 (fun K hK => ?sB16) ?sC16
                case sA16 => simp only [List.getElem?_toArray, List.getElem?_cons_succ, List.getElem?_cons_zero]; rfl
                case sB16 =>
                  go_simp
                  go_at_call 115; refine (HHs.out _).mono ?_; rintro e w3 ⟨rfl, hw3⟩; have hc3 : Below wr.heap.size wr w3 := (by refine bel_trans ?_ hw3; first | exact bel_eqv hc2 rfl rfl rfl rfl); obtain ⟨st0, st1, _, _⟩ := blkA (HBTr.out.call hc3); obtain ⟨sx0, _, sx2, sx3, _⟩ := blk5 (HBXr.out.call hc3)
                  try go_wp2_with fail
                  refine hK.out _ _ ?kS16 (fun hHeld => ?kR16)
                  case kS16 => (try dsimp only); go_keep
                  case kR16 =>
                    clear hK K
                    try simp only [pn]
                    refine tk 23 (h := ?_)
                    try simp only [pn]
                    refine tk 24 (h := ?_)
                    try simp only [pn]
                    refine wpAnyH_done (by kernel_rfl) ?_ _
                    refine NoPanic.normal ?_
                    have hm3 := (hc3.cell (p := ⟨g, m, none⟩) (hFr.clt (HV.out m hmn))).trans hmc
                    have hq3 := bthen hbl hc3
                    clear HMC
                    cases s0 <;> cases l0 <;> cases x
                    all_goals
                      go_wp2_with fail
                      go_quiet (fail)
                      go_wp2_with fail
                      go_roundw
                      case rel => exact ⟨m + 1, by omega, by go_num, by rw [HP'.out, HPF.out] <;> rfl, by rw [HE'.out, HEF.out] <;> rfl, by first | exact hq3 | exact below_drew1 (hq3) | exact below_drewN (hq3) _⟩
                      case measure => simp [intOf]; omega
                case sC16 =>
                  exact AllReadyH.nil
            case sC15 =>
              exact AllReadyH.nil
      · have g1 : (m : Int) < (i : Int) := by omega
        have di : decide (i ≤ m) = false := decide_eq_false hio
        have HPF : Hid (P m = false) := Lib.hid (by rw [HPM.out.1, di]; simp)
        have HEF : Hid (E m = true) := Lib.hid (by rw [HPM.out.2, di]; simp)
        clear di
        go_wp2_with fail
        refine wp_region_noPanic ?_
        refine wp_region_held_drew (S := (fun w' => w'.cell? ⟨gt, 0, none⟩ = some (.slice An nn cn) ∧ w'.cell? ⟨gt, 1, none⟩ = some (.slice Ae ne ce) ∧ w'.cell? ⟨gt + 1, 2, none⟩ = some (.int .i64 lo) ∧ w'.cell? ⟨gt + 1, 3, none⟩ = some (.int .i64 hi))) (by kernel_rfl) ?hS0 (fun hHeld => ?hR0)
        case hS0 => (try dsimp only); go_keep
        case hR0 =>
          refine tk 0 (h := ?_)
          try simp only [pn]
          refine tk 1 (h := ?_)
          try simp only [pn]
          refine sk 2 (h := ?_)
          try simp only [pn]
          refine sk 3 (h := ?_)
          try simp only [pn]
          refine sk 4 (h := ?_)
          try simp only [pn]
          refine tk 5 (h := ?_)
          try simp only [pn]
          refine tk 6 (h := ?_)
          try simp only [pn]
          refine tk 7 (h := ?_)
          try simp only [pn]
          refine tk 8 (h := ?_)
          try simp only [pn]
          refine tk 9 (h := ?_)
          try simp only [pn]
          refine tk 10 (h := ?_)
          try simp only [pn]
          refine tk 11 (h := ?_)
          try simp only [pn]
          refine tk 12 (h := ?_)
          try simp only [pn]
          refine tk 13 (h := ?_)
          try simp only [pn]
          refine tk 14 (h := ?_)
          try simp only [pn]
          refine tk 15 (h := ?_)
          try simp only [pn]
          refine sk 16 (h := ?_)
          try simp only [pn]
          refine sk 17 (h := ?_)
          try simp only [pn]
          refine sk 18 (h := ?_)
          try simp only [pn]
          refine sk 19 (h := ?_)
          try simp only [pn]
          refine sk 20 (h := ?_)
          try simp only [pn]
          refine sk 21 (h := ?_)
          try simp only [pn]
          refine sk 22 (h := ?_)
          try simp only [pn]
          refine sk 23 (h := ?_)
          try simp only [pn]
          refine tk 24 (h := ?_)
          try simp only [pn]
          refine wpAnyH_done (by kernel_rfl) ?_ _
          refine NoPanic.normal ?_
          go_wp2_with fail
          go_roundw
          case rel => exact ⟨m + 1, by omega, by go_num, by rw [HP'.out, HPF.out, Bool.or_false], by rw [HE'.out, HEF.out, Bool.and_true], by first | exact hbl | exact below_drew1 (hbl) | exact below_drewN (hbl) _⟩
          case measure => simp [intOf]; omega
    · obtain rfl : m = ne := by omega
      have hdec : decide ((m : Int) < (m : Int)) = false := decide_eq_false (by omega)
      have HRS : Hid (s0 = RR) := Lib.hid (by rw [← HS0.out, HRR.out])
      go_wp2_with fail
      go_ret
      exact ⟨by rw [← HRS.out]; rfl, bthen HBW.out hbl⟩
set_option maxRecDepth 100000 in
set_option maxHeartbeats 4000000 in
theorem rholds13_w (hF : Sat F w) (hT : RefT F ss es An nn cn Ae ne ce) (name : ByteArray) (lo hi : Int) (Ak : Option Addr) (nk ck : Nat) (hs : spanS lo hi = true) (g c : Nat) (v : Nat → Bool) (hv : ∀ j, j < ne → F.cell ⟨g, j, none⟩ = some (.bool (v j))) (B : Option Addr) (nb cb : Nat) (i : Nat) (hi' : i < ne) :
    Calls Tryz.prog 117 #[.agg #[.slice An nn cn, .slice Ae ne ce], .agg #[.int .i64 13, .string name, .int .i64 lo, .int .i64 hi, .slice Ak nk ck], .int .i64 (i : Nat), .int .i64 (ne : Nat), .slice (some ⟨g, 0, none⟩) ne c, .slice B nb cb] w fun e w' => e = .returned (.bool (loopB (trcE ss es) 13 lo hi v v i)) ∧ Below w.heap.size w w' := by
  obtain ⟨gt, hgt⟩ : ∃ gt, gt = w.heap.size := ⟨_, rfl⟩
  obtain ⟨W, hW⟩ : ∃ W, W = (w.alloc (.cells #[.slice An nn cn, .slice Ae ne ce] 43)).alloc (.cells #[.int .i64 13, .string name, .int .i64 lo, .int .i64 hi, .slice Ak nk ck] 62) := ⟨_, rfl⟩
  have HBT : Hid (Blk W gt 43 #[.slice An nn cn, .slice Ae ne ce]) := Lib.hid (by rw [hW, hgt]; exact (Blk.new _ _ _).alloc _)
  have HBX : Hid (Blk W (gt + 1) 62 #[.int .i64 13, .string name, .int .i64 lo, .int .i64 hi, .slice Ak nk ck]) := Lib.hid (by rw [hW, hgt]; exact Blk.new2 _ _ _ _)
  have hbW : Below w.heap.size w W := by rw [hW]; exact (balloc _ _).alloc (by simp) _
  have HBW := Lib.hid hbW
  have HFW := Lib.hid (hF.below hbW)
  have HW := Lib.hid hW
  have HG := Lib.hid hgt
  have hneb := hT.ne1
  have hiI : (i : Int) < (ne : Int) := by omega
  obtain ⟨P, hP⟩ : ∃ P, someB (trcE ss es) 13 lo hi v v i = P := ⟨_, rfl⟩
  obtain ⟨E, hE⟩ : ∃ E, everB (trcE ss es) 13 lo hi v i = E := ⟨_, rfl⟩
  have hXn : (trcE ss es).n = ne := hT.ev.1
  obtain ⟨RR, hRR⟩ : ∃ RR, loopB (trcE ss es) 13 lo hi v v i = RR := ⟨_, rfl⟩
  have HRR : Hid (allB E ne = RR) := Lib.hid (by rw [← hRR]; unfold loopB; rw [hXn, ← hE]; rfl)
  rw [hRR]
  have HPE : Hid (∀ m, P m = (decide (i ≤ m) && (hasD lo hi (gapE es i m) && (v m))) ∧ E m = (!(decide (i ≤ m) && hasD lo hi (gapE es i m)) || v m)) := Lib.hid (fun m => by rw [← hP, ← hE]; exact ⟨rfl, rfl⟩)
  have HV := Lib.hid hv
  have HTT := Lib.hid hT
  clear hv hP hE hRR hXn hW hgt hbW hF hT
  go_enter Tryz.func117, Tryz.ntmps117
  go_wp2_with fail
  rw [← HW.out, ← HG.out]
  go_loopw [13, 14, 123] (fun v13 v14 v123 wr => ∃ m : Nat, m ≤ ne ∧ v123 = .int .i64 m ∧ v13 = .bool (anyB P m) ∧ v14 = .bool (allB E m) ∧ Below W.heap.size W wr) (fun _ _ v123 _ => ne - (intOf v123).toNat)
  case atStart => exact ⟨0, Nat.zero_le _, rfl, rfl, rfl, Below.refl _ _⟩
  case round =>
    obtain ⟨m, hm, rfl, rfl, rfl, hbl⟩ := hrel
    have hFr := HFW.out.below hbl
    have HBTr := Lib.hid (HBT.out.call hbl)
    have HBXr := Lib.hid (HBX.out.call hbl)
    obtain ⟨t0, t1, _, _⟩ := blkA HBTr.out
    obtain ⟨x0, _, x2, x3, _⟩ := blk5 HBXr.out
    obtain ⟨s0, hs0⟩ : ∃ s0, anyB P m = s0 := ⟨_, rfl⟩
    obtain ⟨l0, hl0⟩ : ∃ l0, allB E m = l0 := ⟨_, rfl⟩
    rw [hs0, hl0]
    have HS0 := Lib.hid hs0
    have HL0 := Lib.hid hl0
    clear hs0 hl0
    by_cases hmn : m < ne
    · have hmI : (m : Int) < (ne : Int) := by omega
      have HAp := Lib.hid (fun (X : World) (h : Sat F X) => apart14_w h es An nn cn Ae ne ce HTT.out.ev i m hi' hmn)
      have HHs0 := Lib.hid (fun (X : World) => rhasT_w lo hi hs (gapE es i m) (gapE_lt HTT.out.ev hi' hmn) X)
      have hpe := HPE.out m
      obtain ⟨hh, hhh⟩ : ∃ hh, hasD lo hi (gapE es i m) = hh := ⟨_, rfl⟩
      rw [hhh] at hpe HHs0
      have HHs := HHs0
      have hmc := hFr.cell (HV.out m hmn)
      obtain ⟨x, hx⟩ : ∃ x, v m = x := ⟨_, rfl⟩
      rw [hx] at hpe hmc
      have HP' : Hid (anyB P (m + 1) = (s0 || P m)) := Lib.hid (by rw [anyB, HS0.out])
      have HE' : Hid (allB E (m + 1) = (l0 && E m)) := Lib.hid (by rw [allB, HL0.out])
      have HPM := Lib.hid hpe
      clear hhh hx hpe HHs0 
      by_cases hio : i ≤ m
      · have g1 : decide ((m : Int) < (i : Int)) = false := decide_eq_false (by omega)
        have g2 : decide (m < i) = false := decide_eq_false (by omega)
        have di : decide (i ≤ m) = true := decide_eq_true hio
        have HD := Lib.hid di
        clear di
        cases hh with
        | false =>
          have HPF : Hid (P m = false) := Lib.hid (by rw [HPM.out.1]; simp)
          have HEF : Hid (E m = true) := Lib.hid (by rw [HPM.out.2]; simp)
          go_wp2_with fail
          refine wp_region_noPanic ?_
          refine wp_region_held_drew (S := (fun w' => w'.cell? ⟨gt, 0, none⟩ = some (.slice An nn cn) ∧ w'.cell? ⟨gt, 1, none⟩ = some (.slice Ae ne ce) ∧ w'.cell? ⟨gt + 1, 2, none⟩ = some (.int .i64 lo) ∧ w'.cell? ⟨gt + 1, 3, none⟩ = some (.int .i64 hi))) (by kernel_rfl) ?hS0 (fun hHeld => ?hR0)
          case hS0 => (try dsimp only); go_keep
          case hR0 =>
            refine tk 0 (h := ?_)
            try simp only [pn]
            refine tk 1 (h := ?_)
            try simp only [pn]
            refine sk 2 (h := ?_)
            try simp only [pn]
            refine sk 3 (h := ?_)
            try simp only [pn]
            refine sk 4 (h := ?_)
            try simp only [pn]
            refine tk 5 (h := ?_)
            try simp only [pn]
            refine tk 6 (h := ?_)
            try simp only [pn]
            refine tk 7 (h := ?_)
            try simp only [pn]
            refine tk 8 (h := ?_)
            try simp only [pn]
            refine tk 9 (h := ?_)
            try simp only [pn]
            refine tk 10 (h := ?_)
            try simp only [pn]
            refine tk 11 (h := ?_)
            try simp only [pn]
            refine tk 12 (h := ?_)
            try simp only [pn]
            refine tk 13 (h := ?_)
            try simp only [pn]
            refine tk 14 (h := ?_)
            try simp only [pn]
            refine tk 15 (h := ?_)
            try simp only [pn]
            refine tk 16 (h := ?_)
            try simp only [pn]
            refine tk 17 (h := ?_)
            try simp only [pn]
            refine tk 18 (h := ?_)
            try simp only [pn]
            refine tk 19 (h := ?_)
            try simp only [pn]
            refine tk 20 (h := ?_)
            try simp only [pn]
            refine wpAnyH_ready (rs := [21]) (by kernel_rfl) (by simp) ?_
            refine AllReadyH.cons (o := ?sO17) ?sA17 (fun K hK => ?sB17) ?sC17
            case sA17 => simp only [List.getElem?_toArray, List.getElem?_cons_succ, List.getElem?_cons_zero]; rfl
            case sB17 =>
              go_simp
              go_at_call 116; refine (HAp.out _ (by first | exact hFr | exact hFr.drew)).mono ?_; rintro e w2 ⟨rfl, hw2⟩; have hc2 : Below wr.heap.size wr w2 := (by refine bel_trans ?_ hw2; first | exact bel_eqv (Below.refl _ wr) rfl rfl rfl rfl); obtain ⟨rt0, rt1, _, _⟩ := blkA (HBTr.out.call hc2); obtain ⟨rx0, _, rx2, rx3, _⟩ := blk5 (HBXr.out.call hc2)
              try go_wp2_with fail
              refine hK.out _ _ ?kS17 (fun hHeld => ?kR17)
              case kS17 => (try dsimp only); go_keep
              case kR17 =>
                clear hK K
                try simp only [pn]
                refine wpAnyH_ready (rs := [22]) (by kernel_rfl) (by simp) ?_
                refine AllReadyH.cons (o := ?sO18) ?sA18 (fun K hK => ?sB18) ?sC18
                case sA18 => simp only [List.getElem?_toArray, List.getElem?_cons_succ, List.getElem?_cons_zero]; rfl
                case sB18 =>
                  go_simp
                  go_at_call 115; refine (HHs.out _).mono ?_; rintro e w3 ⟨rfl, hw3⟩; have hc3 : Below wr.heap.size wr w3 := (by refine bel_trans ?_ hw3; first | exact bel_eqv hc2 rfl rfl rfl rfl); obtain ⟨st0, st1, _, _⟩ := blkA (HBTr.out.call hc3); obtain ⟨sx0, _, sx2, sx3, _⟩ := blk5 (HBXr.out.call hc3)
                  try go_wp2_with fail
                  refine hK.out _ _ ?kS18 (fun hHeld => ?kR18)
                  case kS18 => (try dsimp only); go_keep
                  case kR18 =>
                    clear hK K
                    try simp only [pn]
                    refine tk 23 (h := ?_)
                    try simp only [pn]
                    refine tk 24 (h := ?_)
                    try simp only [pn]
                    refine wpAnyH_done (by kernel_rfl) ?_ _
                    refine NoPanic.normal ?_
                    go_wp2_with fail
                    go_roundw
                    case rel => exact ⟨m + 1, by omega, by go_num, by rw [HP'.out, HPF.out, Bool.or_false], by rw [HE'.out, HEF.out, Bool.and_true], by first | exact bthen hbl hc3 | exact below_drew1 (bthen hbl hc3) | exact below_drewN (bthen hbl hc3) _⟩
                    case measure => simp [intOf]; omega
                case sC18 =>
                  exact AllReadyH.nil
            case sC17 =>
              exact AllReadyH.nil
        | true =>
          have HPF : Hid (P m = x) := Lib.hid (by rw [HPM.out.1, HD.out]; simp)
          have HEF : Hid (E m = x) := Lib.hid (by rw [HPM.out.2, HD.out]; simp)
          have hmc2 := fun (X : World) (h : Below wr.heap.size wr X) => (hFr.below h).cell (HV.out m hmn)
          have HMC := Lib.hid hmc2
          clear hmc2
          go_wp2_with fail
          refine wp_region_noPanic ?_
          refine wp_region_held_drew (S := (fun w' => w'.cell? ⟨gt, 0, none⟩ = some (.slice An nn cn) ∧ w'.cell? ⟨gt, 1, none⟩ = some (.slice Ae ne ce) ∧ w'.cell? ⟨gt + 1, 2, none⟩ = some (.int .i64 lo) ∧ w'.cell? ⟨gt + 1, 3, none⟩ = some (.int .i64 hi))) (by kernel_rfl) ?hS0 (fun hHeld => ?hR0)
          case hS0 => (try dsimp only); go_keep
          case hR0 =>
            refine tk 0 (h := ?_)
            try simp only [pn]
            refine tk 1 (h := ?_)
            try simp only [pn]
            refine sk 2 (h := ?_)
            try simp only [pn]
            refine sk 3 (h := ?_)
            try simp only [pn]
            refine sk 4 (h := ?_)
            try simp only [pn]
            refine tk 5 (h := ?_)
            try simp only [pn]
            refine tk 6 (h := ?_)
            try simp only [pn]
            refine tk 7 (h := ?_)
            try simp only [pn]
            refine tk 8 (h := ?_)
            try simp only [pn]
            refine tk 9 (h := ?_)
            try simp only [pn]
            refine tk 10 (h := ?_)
            try simp only [pn]
            refine tk 11 (h := ?_)
            try simp only [pn]
            refine tk 12 (h := ?_)
            try simp only [pn]
            refine tk 13 (h := ?_)
            try simp only [pn]
            refine tk 14 (h := ?_)
            try simp only [pn]
            refine tk 15 (h := ?_)
            try simp only [pn]
            refine tk 16 (h := ?_)
            try simp only [pn]
            refine tk 17 (h := ?_)
            try simp only [pn]
            refine tk 18 (h := ?_)
            try simp only [pn]
            refine tk 19 (h := ?_)
            try simp only [pn]
            refine tk 20 (h := ?_)
            try simp only [pn]
            refine wpAnyH_ready (rs := [21]) (by kernel_rfl) (by simp) ?_
            refine AllReadyH.cons (o := ?sO19) ?sA19 (fun K hK => ?sB19) ?sC19
            case sA19 => simp only [List.getElem?_toArray, List.getElem?_cons_succ, List.getElem?_cons_zero]; rfl
            case sB19 =>
              go_simp
              go_at_call 116; refine (HAp.out _ (by first | exact hFr | exact hFr.drew)).mono ?_; rintro e w2 ⟨rfl, hw2⟩; have hc2 : Below wr.heap.size wr w2 := (by refine bel_trans ?_ hw2; first | exact bel_eqv (Below.refl _ wr) rfl rfl rfl rfl); obtain ⟨rt0, rt1, _, _⟩ := blkA (HBTr.out.call hc2); obtain ⟨rx0, _, rx2, rx3, _⟩ := blk5 (HBXr.out.call hc2)
              try go_wp2_with fail
              refine hK.out _ _ ?kS19 (fun hHeld => ?kR19)
              case kS19 => (try dsimp only); go_keep
              case kR19 =>
                clear hK K
                try simp only [pn]
                refine wpAnyH_ready (rs := [22]) (by kernel_rfl) (by simp) ?_
                refine AllReadyH.cons (o := ?sO20) ?sA20 (fun K hK => ?sB20) ?sC20
                case sA20 => simp only [List.getElem?_toArray, List.getElem?_cons_succ, List.getElem?_cons_zero]; rfl
                case sB20 =>
                  go_simp
                  go_at_call 115; refine (HHs.out _).mono ?_; rintro e w3 ⟨rfl, hw3⟩; have hc3 : Below wr.heap.size wr w3 := (by refine bel_trans ?_ hw3; first | exact bel_eqv hc2 rfl rfl rfl rfl); obtain ⟨st0, st1, _, _⟩ := blkA (HBTr.out.call hc3); obtain ⟨sx0, _, sx2, sx3, _⟩ := blk5 (HBXr.out.call hc3)
                  try go_wp2_with fail
                  refine hK.out _ _ ?kS20 (fun hHeld => ?kR20)
                  case kS20 => (try dsimp only); go_keep
                  case kR20 =>
                    clear hK K
                    try simp only [pn]
                    refine tk 23 (h := ?_)
                    try simp only [pn]
                    refine tk 24 (h := ?_)
                    try simp only [pn]
                    refine wpAnyH_done (by kernel_rfl) ?_ _
                    refine NoPanic.normal ?_
                    have hm3 := (hc3.cell (p := ⟨g, m, none⟩) (hFr.clt (HV.out m hmn))).trans hmc
                    have hq3 := bthen hbl hc3
                    clear HMC
                    cases s0 <;> cases l0 <;> cases x
                    all_goals
                      go_wp2_with fail
                      go_quiet (fail)
                      go_wp2_with fail
                      go_roundw
                      case rel => exact ⟨m + 1, by omega, by go_num, by rw [HP'.out, HPF.out] <;> rfl, by rw [HE'.out, HEF.out] <;> rfl, by first | exact hq3 | exact below_drew1 (hq3) | exact below_drewN (hq3) _⟩
                      case measure => simp [intOf]; omega
                case sC20 =>
                  exact AllReadyH.nil
            case sC19 =>
              exact AllReadyH.nil
      · have g1 : (m : Int) < (i : Int) := by omega
        have di : decide (i ≤ m) = false := decide_eq_false hio
        have HPF : Hid (P m = false) := Lib.hid (by rw [HPM.out.1, di]; simp)
        have HEF : Hid (E m = true) := Lib.hid (by rw [HPM.out.2, di]; simp)
        clear di
        go_wp2_with fail
        refine wp_region_noPanic ?_
        refine wp_region_held_drew (S := (fun w' => w'.cell? ⟨gt, 0, none⟩ = some (.slice An nn cn) ∧ w'.cell? ⟨gt, 1, none⟩ = some (.slice Ae ne ce) ∧ w'.cell? ⟨gt + 1, 2, none⟩ = some (.int .i64 lo) ∧ w'.cell? ⟨gt + 1, 3, none⟩ = some (.int .i64 hi))) (by kernel_rfl) ?hS0 (fun hHeld => ?hR0)
        case hS0 => (try dsimp only); go_keep
        case hR0 =>
          refine tk 0 (h := ?_)
          try simp only [pn]
          refine tk 1 (h := ?_)
          try simp only [pn]
          refine sk 2 (h := ?_)
          try simp only [pn]
          refine sk 3 (h := ?_)
          try simp only [pn]
          refine sk 4 (h := ?_)
          try simp only [pn]
          refine tk 5 (h := ?_)
          try simp only [pn]
          refine tk 6 (h := ?_)
          try simp only [pn]
          refine tk 7 (h := ?_)
          try simp only [pn]
          refine tk 8 (h := ?_)
          try simp only [pn]
          refine tk 9 (h := ?_)
          try simp only [pn]
          refine tk 10 (h := ?_)
          try simp only [pn]
          refine tk 11 (h := ?_)
          try simp only [pn]
          refine tk 12 (h := ?_)
          try simp only [pn]
          refine tk 13 (h := ?_)
          try simp only [pn]
          refine tk 14 (h := ?_)
          try simp only [pn]
          refine tk 15 (h := ?_)
          try simp only [pn]
          refine sk 16 (h := ?_)
          try simp only [pn]
          refine sk 17 (h := ?_)
          try simp only [pn]
          refine sk 18 (h := ?_)
          try simp only [pn]
          refine sk 19 (h := ?_)
          try simp only [pn]
          refine sk 20 (h := ?_)
          try simp only [pn]
          refine sk 21 (h := ?_)
          try simp only [pn]
          refine sk 22 (h := ?_)
          try simp only [pn]
          refine sk 23 (h := ?_)
          try simp only [pn]
          refine tk 24 (h := ?_)
          try simp only [pn]
          refine wpAnyH_done (by kernel_rfl) ?_ _
          refine NoPanic.normal ?_
          go_wp2_with fail
          go_roundw
          case rel => exact ⟨m + 1, by omega, by go_num, by rw [HP'.out, HPF.out, Bool.or_false], by rw [HE'.out, HEF.out, Bool.and_true], by first | exact hbl | exact below_drew1 (hbl) | exact below_drewN (hbl) _⟩
          case measure => simp [intOf]; omega
    · obtain rfl : m = ne := by omega
      have hdec : decide ((m : Int) < (m : Int)) = false := decide_eq_false (by omega)
      have HRS : Hid (l0 = RR) := Lib.hid (by rw [← HL0.out, HRR.out])
      go_wp2_with fail
      go_ret
      exact ⟨by rw [← HRS.out]; rfl, bthen HBW.out hbl⟩
end
end Go.Proofs.YtdbbooibkiicnaaGreat
