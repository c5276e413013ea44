/- The walk of the reference's Join. -/
import Derived.Test.YtkffofolhckjeaaJoin
set_option linter.unusedVariables false
set_option linter.unusedSimpArgs false
namespace Go.Proofs.Ytkffofolhckjeaa
open Go.RowKit
def firstL (ls : List (List Nd)) (m : Nat) : List Nd := if m = 0 then [] else ls.getD 0 []
def secondL (ls : List (List Nd)) (m : Nat) : List Nd := if m ≤ 1 then [] else ls.getD 1 []
theorem first_succ (ls : List (List Nd)) (m : Nat) (hm : m < ls.length) : firstL ls (m + 1) = if m = 0 then ls[m] else firstL ls m := by
  unfold firstL
  by_cases h : m = 0
  · subst h; simp [List.getD, hm]
  · simp [h]
theorem second_succ (ls : List (List Nd)) (m : Nat) (hm : m < ls.length) (h2 : ls.length ≤ 2) : secondL ls (m + 1) = if m = 0 then secondL ls m else ls[m] := by
  unfold secondL
  by_cases h : m = 0
  · subst h; simp
  · have : m = 1 := by omega
    subst this
    simp [List.getD, hm]
theorem raw_over (n : Nd) (ls : List (List Nd)) (h2 : ls.length ≤ 2) (hm : ls.all mayS = true) : rawJ n ls = overL n (firstL ls ls.length) (secondL ls ls.length) := by
  rw [List.all_eq_true] at hm
  match ls, h2, hm with
  | [], _, _ => exact raw0 n
  | [a], _, hm => exact raw1 n a (may_ne (hm a (by simp)))
  | [a, b], _, hm => exact raw2 n a b (may_ne (hm a (by simp))) (may_ne (hm b (by simp)))
theorem sum_two (ls : List (List Nd)) (h2 : ls.length ≤ 2) : (firstL ls ls.length).length + (secondL ls ls.length).length = (ls.map List.length).sum := by
  match ls, h2 with
  | [], _ => rfl
  | [a], _ => simp [firstL, secondL]
  | [a, b], _ => simp [firstL, secondL]
theorem second_may (ls : List (List Nd)) (hm : ls.all mayS = true) (h2 : ls.length ≤ 2) : secondL ls ls.length = [] ∨ mayS (secondL ls ls.length) = true := by
  rw [List.all_eq_true] at hm
  match ls, h2, hm with
  | [], _, _ => exact .inl rfl
  | [a], _, _ => exact .inl rfl
  | [a, b], _, hm => exact .inr (hm b (by simp))
theorem length_over (n : Nd) (a b : List Nd) : (overL n a b).length = a.length + b.length + 1 := by simp [overL]; omega
set_option maxRecDepth 100000 in
set_option maxHeartbeats 4000000 in
theorem rjoin_w {F : Fz} {w : World} (hF : Sat F w) (n : Nd) (Ak : Option Addr) (nk ck : Nat) (ls : List (List Nd)) (hnl : (ls.map List.length).sum ≤ 900) (hll : ls.length ≤ 1000) (R : Option Addr) (nr cr : Nat) (hR : RowsN F R nr ls) :
    Calls Try.prog 45 #[.agg #[.int .i64 n.kind, .string n.name, .int .i64 n.lo, .int .i64 n.hi, .slice Ak nk ck], .slice R nr cr] w (RetN F w (joinL n ls)) := by
  obtain ⟨hlr, hR2⟩ := hR
  have HLR := Lib.hid hlr
  have hnr : nr ≤ 1000 := by omega
  by_cases har : arityS n.kind = (nr : Int)
  · have HA := Lib.hid (rarity_b n.kind _ har)
    have har2 : nr ≤ 2 := by have := arity_le n.kind; omega
    have hBX := Blk.new w 57 #[.int .i64 n.kind, .string n.name, .int .i64 n.lo, .int .i64 n.hi, .slice Ak nk ck]
    obtain ⟨b0, b1, b2, b3, b4⟩ := blk5 hBX
    clear hlr har
    go_enter Try.func45, Try.ntmps45
    go_wp2_with (go_at_call 71; refine (HA.out _).mono ?_; rintro e w' ⟨rfl, rfl⟩)
    go_loopw [5, 6, 7, 8, 18] (fun a b _ _ i wr => ∃ (m : Nat) (A5 A6 : Option Addr) (n5 n6 c5 c6 : Nat), m ≤ nr ∧ i = .int .i64 m ∧ a = .slice A5 n5 c5 ∧ b = .slice A6 n6 c6 ∧ NodesF F A5 n5 (firstL ls m) ∧ NodesF F A6 n6 (secondL ls m) ∧ Hid ((ls.take m).all mayS = true) ∧ Below (w.heap.size + 1) (w.alloc (.cells #[.int .i64 n.kind, .string n.name, .int .i64 n.lo, .int .i64 n.hi, .slice Ak nk ck] 57)) wr) (fun _ _ _ _ i _ => nr - (intOf i).toNat)
    case atStart => exact ⟨0, none, none, 0, 0, 0, 0, Nat.zero_le _, rfl, rfl, rfl, NodesF.nil _ _, NodesF.nil _ _, Lib.hid rfl, Below.refl _ _⟩
    case round =>
      obtain ⟨m, A5, A6, n5, n6, c5, c6, hm, rfl, rfl, rfl, hN5, hN6, HALL, hbl⟩ := hrel
      have hbw : Below w.heap.size w wr := (balloc _ _).trans (hbl.mono (by omega))
      have hFr := hF.below hbw
      by_cases hlt : m < nr
      · have hml : m < ls.length := by rw [HLR.out]; exact hlt
        obtain ⟨ad, rfl, hL⟩ := hR2 (by omega)
        obtain ⟨Ai, ci, hcell, hci, hNi⟩ := hL m hml
        have hcz := hFr.cell hcell
        have hltI : (m : Int) < (nr : Int) := by omega
        have hl1 : ls[m].length ≤ 900 := by
          have h1 := sum_take_le ls (m + 1)
          rw [List.take_succ_eq_append_getElem hml, List.map_append, List.sum_append] at h1
          simp at h1
          omega
        have hall := all_take hml HALL.out
        have hbad : mayS ls[m] = false → joinL n ls = [] := fun h => by
          unfold joinL
          rw [if_neg]
          rintro ⟨h1, _⟩
          rw [List.all_eq_true] at h1
          rw [h1 _ (List.getElem_mem hml)] at h
          cases h
        have hf1 := first_succ ls m hml
        have hs1 := second_succ ls m hml (by rw [HLR.out]; exact har2)
        generalize hlm : ls[m] = l at *
        cases hmay : mayS l
        · have HM := Lib.hid (rmay_w hFr l (by omega) Ai l.length ci hNi _ hmay)
          have HB := Lib.hid (hbad hmay)
          clear hbad hall hmay hlm hL hcell hf1 hs1
          go_wp2_with (go_at_call 48; refine HM.out.mono ?_; rintro e w' ⟨rfl, hw⟩)
          go_ret
          rw [HB.out]
          exact retN_nil (bthen hbw hw) hF
        · have HM := Lib.hid (rmay_w hFr l (by omega) Ai l.length ci hNi _ hmay)
          have HALL2 := Lib.hid (hall hmay)
          by_cases h0 : m = 0
          · rw [if_pos h0] at hf1 hs1
            have e0 : ((m : Int) == 0) = true := by rw [h0]; rfl
            have hN5' : NodesF F Ai l.length (firstL ls (m + 1)) := by rw [hf1]; exact hNi
            have hN6' : NodesF F A6 n6 (secondL ls (m + 1)) := by rw [hs1]; exact hN6
            clear hbad hall hmay hlm hL hcell hf1 hs1 h0
            go_wp2_with (go_at_call 48; refine HM.out.mono ?_; rintro e w1 ⟨rfl, hw⟩)
            go_roundw
            case rel => exact ⟨m + 1, Ai, A6, l.length, n6, ci, c6, by omega, by go_num, rfl, rfl, hN5', hN6', HALL2, hbl.trans (hw.mono (by have := hbl.size; simpa using this))⟩
            case measure => simp [intOf]; omega
          · rw [if_neg h0] at hf1 hs1
            have e0 : ((m : Int) == 0) = false := by rw [beq_eq_false_iff_ne]; omega
            have hN5' : NodesF F A5 n5 (firstL ls (m + 1)) := by rw [hf1]; exact hN5
            have hN6' : NodesF F Ai l.length (secondL ls (m + 1)) := by rw [hs1]; exact hNi
            clear hbad hall hmay hlm hL hcell hf1 hs1
            go_wp2_with (go_at_call 48; refine HM.out.mono ?_; rintro e w1 ⟨rfl, hw⟩)
            go_roundw
            case rel => exact ⟨m + 1, A5, Ai, n5, l.length, c5, ci, by omega, by go_num, rfl, rfl, hN5', hN6', HALL2, hbl.trans (hw.mono (by have := hbl.size; simpa using this))⟩
            case measure => simp [intOf]; omega
      · obtain rfl : m = nr := by omega
        have hdec : decide ((m : Int) < (m : Int)) = false := decide_eq_false (by omega)
        have htl : ls.take m = ls := by rw [← HLR.out, List.take_length]
        rw [htl] at HALL
        rw [← HLR.out] at hN5 hN6
        have hlen2 : ls.length ≤ 2 := by rw [HLR.out]; exact har2
        have hsum := sum_two ls hlen2
        have hraw := raw_over n ls hlen2 HALL.out
        have hkb : KidsB (secondL ls ls.length) := by
          rcases second_may ls HALL.out hlen2 with h | h
          · rw [h]; intro n hn; cases hn
          · exact may_kidsB (by omega) h
        have hO := over_w hFr n Ak nk ck _ _ (by omega) (by omega) A5 A6 n5 n6 c5 c6 hN5 hN6 hkb
        rw [← hraw] at hO
        have hlr2 := length_over n (firstL ls ls.length) (secondL ls ls.length)
        rw [← hraw] at hlr2
        have HO := Lib.hid hO
        obtain ⟨b0, b1, b2, b3, b4⟩ := blk5 (hBX.below hbl (by simp))
        have hjy : mayS (rawJ n ls) = true → joinL n ls = rawJ n ls := fun h => by unfold joinL; rw [if_pos ⟨HALL.out, h⟩]
        have hjn : mayS (rawJ n ls) = false → joinL n ls = [] := fun h => by unfold joinL; rw [if_neg]; rintro ⟨_, h2⟩; rw [h2] at h; cases h
        have hMM := fun (X : World) (G : Fz) (h : Sat G X) (A : Option Addr) (c : Nat) (hN : NodesF G A (rawJ n ls).length (rawJ n ls)) b hb => rmay_w h (rawJ n ls) (by omega) A _ c hN b hb
        have HMM := Lib.hid hMM
        have HTL := Lib.hid htl
        clear hlr2 hraw hsum hO hMM htl
        generalize rawJ n ls = r at *
        cases hmay : mayS r
        · have HJ := Lib.hid (hjn hmay)
          have HM2 := Lib.hid hmay
          clear hjn hjy hmay
          go_wp2_with (first | (go_at_call 72; refine HO.out.mono ?_; rintro e w2 ⟨A2, c2, F2, rfl, hc2, hN2, hw2, hF2, hle2⟩) | (go_at_call 48; refine (HMM.out _ F2 hF2 A2 c2 hN2 _ HM2.out).mono ?_; rintro e w5 ⟨rfl, hw5⟩))
          go_ret
          rw [HJ.out]
          exact retN_nil (bthen (bthen hbw hw2) hw5) hF
        · have HJ := Lib.hid (hjy hmay)
          have HM2 := Lib.hid hmay
          clear hjn hjy hmay
          go_wp2_with (first | (go_at_call 72; refine HO.out.mono ?_; rintro e w2 ⟨A2, c2, F2, rfl, hc2, hN2, hw2, hF2, hle2⟩) | (go_at_call 48; refine (HMM.out _ F2 hF2 A2 c2 hN2 _ HM2.out).mono ?_; rintro e w5 ⟨rfl, hw5⟩))
          go_ret
          rw [HJ.out]
          exact ⟨A2, c2, F2, rfl, hc2, hN2, bthen (bthen hbw hw2) hw5, hF2.below hw5, hle2.old hbw.size⟩
  · have HA := Lib.hid (rarity_w n.kind)
    have HJ := Lib.hid (join_arity (n := n) (ls := ls) (by rw [HLR.out]; exact har))
    have hne : (arityS n.kind != (nr : Int)) = true := by rw [bne_iff_ne]; exact har
    have hBX := Blk.new w 57 #[.int .i64 n.kind, .string n.name, .int .i64 n.lo, .int .i64 n.hi, .slice Ak nk ck]
    obtain ⟨b0, b1, b2, b3, b4⟩ := blk5 hBX
    clear hlr har
    generalize arityS n.kind = ar at *
    go_enter Try.func45, Try.ntmps45
    go_wp2_with (go_at_call 71; refine (HA.out _).mono ?_; rintro e w' ⟨rfl, rfl⟩)
    go_ret
    rw [HJ.out]
    exact retN_nil (balloc _ _) hF
end Go.Proofs.Ytkffofolhckjeaa
