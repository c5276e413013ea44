/- The walk of the law TreeSame. -/
import Derived.Test.YtkffofolhckjeaaTells
import Derived.Test.YtkffofolhckjeaaTreeTurned
set_option linter.unusedVariables false
set_option linter.unusedSimpArgs false
namespace Go.Proofs.Ytkffofolhckjeaa
open Go.RowKit
theorem boolOf (P : Prop) : ∃ r : Bool, r = true ↔ P := by
  by_cases h : P
  · exact ⟨true, by simp [h]⟩
  · exact ⟨false, by simp [h]⟩
theorem turned2 {F : Fz} {w : World} {g N : Nat} {l : List Nd} {xs : List Value} (w0 : World) (hS : Sat F w) (hB : BlkL w g 57 xs) (hFg : F g = none) (hg : w0.heap.size ≤ g) (hV : NodesV F l xs) (hl : l.length = N) : ∃ F', Sat F' w ∧ NodesF F' (some ⟨g, 0, none⟩) N l ∧ CLe F F' := by
  obtain ⟨o, hS', hr⟩ := hB.freeze hS (n := N) (size := 5) (by rw [hV.len, hl])
  have hle := (Fle.put (w := w0) o hFg hg).cle
  exact ⟨_, hS', (hV.cle hle).toF hr, hle⟩
set_option maxRecDepth 100000 in
set_option maxHeartbeats 1000000 in
theorem treeSame_far {F : Fz} {w : World} (hF : Sat F w) (A B D : Option Addr) (na ca nb cb nd cd : Nat) (hbig : ¬ (na ≤ 1000 ∧ nb ≤ 1000)) (at_ : Nat) (nm : ByteArray) :
    Calls Try.prog 13 #[.slice A na ca, .slice B nb cb, .slice D nd cd, .int .u8 at_, .string nm] w fun e w' => e = .returned (.bool true) ∧ Below w.heap.size w w' := by
  by_cases ha : na ≤ 1000
  · have hb : ¬ nb ≤ 1000 := fun h => hbig ⟨ha, h⟩
    have e1 : decide ((1000 : Int) < (na : Int)) = false := decide_eq_false (by omega)
    have e2 : decide ((1000 : Int) < (nb : Int)) = true := decide_eq_true (by omega)
    clear hbig hb ha
    go_enter Try.func13, Try.ntmps13
    go_wp2_with (go_at_call 35; refine (awake5_w _).mono ?_; rintro e w4 ⟨rfl, hw4⟩)
    go_ret
    exact ⟨rfl, hw4⟩
  · have e1 : decide ((1000 : Int) < (na : Int)) = true := decide_eq_true (by omega)
    clear hbig ha
    go_enter Try.func13, Try.ntmps13
    go_wp2_with (go_at_call 35; refine (awake5_w _).mono ?_; rintro e w4 ⟨rfl, hw4⟩)
    go_ret
    exact ⟨rfl, hw4⟩
set_option maxRecDepth 100000 in
set_option maxHeartbeats 1000000 in
theorem treeSame_near {F : Fz} {w : World} (hF : Sat F w) (A B D : Option Addr) (na ca nb cb n c : Nat) (la lb : List Nd) (hna : na ≤ 1000) (hnb : nb ≤ 1000) (hca : na ≤ ca) (hcb : nb ≤ cb) (hA : NodesF F A na la) (hB : NodesF F B nb lb) (ns : List Nat) (hns : ∀ k ∈ ns, k < 65536) (hr : Rd F 1 D n (ns.map encW)) (at_ : Nat) (hat : at_ < 256) (nm : ByteArray) :
    Calls Try.prog 13 #[.slice A na ca, .slice B nb cb, .slice D n c, .int .u8 at_, .string nm] w fun e w' => e = .returned (.bool true) ∧ Below w.heap.size w w' := by
  have hla : la.length ≤ 1000 := by rw [hA.1]; exact hna
  have hlb : lb.length ≤ 1000 := by rw [hB.1]; exact hnb
  obtain ⟨r1, hr1⟩ : ∃ r : Bool, r = true ↔ mayS la = true ∧ la = lb := boolOf _
  obtain ⟨r2, hr2⟩ : ∃ r : Bool, r = true ↔ mayS la = true ∧ la = la := ⟨mayS la, by simp⟩
  have hm2 : mayS la = r2 := by cases r2 <;> simp_all
  obtain ⟨m0, m1, m2⟩ := make_facts ns hns
  obtain ⟨o1, o2⟩ := make_ok false ns hns
  obtain ⟨ff, fr, fp⟩ := ok_form o1
  obtain ⟨rr, rf, rp⟩ := ok_reg o2
  have s2 : ((regT false ns).flat 0).length ≤ 100 := by rw [Tr.length_flat]; exact (make_size false ns).2
  have hM := fun (w1 : World) (hb : Below w.heap.size w w1) => make_w (hF.below hb) ns hns D n c hr false (makeT false ns) rfl
  have hR := fun (w1 : World) (hb : Below w.heap.size w w1) => reg5_w (hF.below hb) ns hns D n c hr false (regT false ns) rfl
  have hmm : mayS ((makeT false ns).flat 0) = true := by
    unfold formL at ff
    unfold mayS
    cases h : treeS ((makeT false ns).flat 0) with
    | none => rw [h] at ff; cases ff
    | some t => rfl
  have hne : (makeT false ns).flat 0 ≠ (regT false ns).flat 0 := fun e => by rw [e, rf] at ff; cases ff
  generalize (makeT false ns).flat 0 = lf at *
  generalize (regT false ns).flat 0 = lr at *
  clear o1 o2 fp rp ff fr rr rf
  obtain ⟨N, hN⟩ : ∃ N, N = lf.length := ⟨_, rfl⟩
  rw [← hN] at m0 m1
  obtain ⟨i, hi⟩ : ∃ i, at_ % N = i := ⟨_, rfl⟩
  have hi2 : ((at_ : Nat) : Int) % (N : Int) = (i : Int) := by omega
  have hiN : i < N := by rw [← hi]; exact Nat.mod_lt _ m0
  have hil : i < lf.length := by omega
  have HIL := Lib.hid hil
  obtain ⟨lc, hlc⟩ : ∃ lc, lc = lf.set i { lf[i]'HIL.out with name := nm } := ⟨_, rfl⟩
  have hlcN : lc.length = N := by rw [hlc, List.length_set, hN]
  obtain ⟨r3, hr3⟩ : ∃ r : Bool, r = true ↔ mayS lf = true ∧ lf = lc := boolOf _
  have hr4 : r3 = true ↔ mayS lc = true ∧ lc = lf := by
    rw [hr3]
    constructor
    · rintro ⟨h1, h2⟩; exact ⟨h2 ▸ h1, h2.symm⟩
    · rintro ⟨h1, h2⟩; exact ⟨h2 ▸ h1, h2.symm⟩
  have S1 := Lib.hid (fun (X : World) (h : Below w.heap.size w X) => same_w (hF.below h) la lb A B na nb ca cb hla hA hB r1 hr1)
  have S2 := Lib.hid (fun (X : World) (h : Below w.heap.size w X) => rsame_w (hF.below h) la lb A B na nb ca cb hla hlb hA hB r1 hr1)
  have S3 := Lib.hid (fun (X : World) (h : Below w.heap.size w X) => same_w (hF.below h) la la A A na na ca ca hla hA hA r2 hr2)
  have S4 := Lib.hid (fun (X : World) (h : Below w.heap.size w X) => rmay_w (hF.below h) la hla A na ca hA r2 hm2)
  have HM := Lib.hid hM
  have HR := Lib.hid hR
  have HM2 := Lib.hid m2
  have HN := Lib.hid hN
  have HLC := Lib.hid hlc
  have HLN := Lib.hid hlcN
  have HR3 := Lib.hid hr3
  have HR4 := Lib.hid hr4
  have HMM := Lib.hid hmm
  have HNE := Lib.hid hne
  have HS2 := Lib.hid s2
  have e1 : decide ((1000 : Int) < (na : Int)) = false := decide_eq_false (by omega)
  have e2 : decide ((1000 : Int) < (nb : Int)) = false := decide_eq_false (by omega)
  have hb : Below w.heap.size w w := Below.refl _ _
  clear hla hlb hr1 hr2 hm2 hM hR m2 hN hil hlc hlcN hr3 hr4 s2 hmm hne hi hA hB
  go_enter Try.func13, Try.ntmps13
  go_wp2_with fail
  go_at_call 46
  refine (S1.out _ hb).mono ?_
  rintro e w1 ⟨rfl, hw⟩
  have hb := bthen hb hw
  go_wp2_with fail
  go_at_call 47
  refine (S2.out _ hb).mono ?_
  rintro e w2 ⟨rfl, hw⟩
  have hb := bthen hb hw
  go_wp2_with fail
  go_at_call 46
  refine (S3.out _ hb).mono ?_
  rintro e x3 ⟨rfl, hw⟩
  have hb := bthen hb hw
  go_wp2_with fail
  go_at_call 48
  refine (S4.out _ hb).mono ?_
  rintro e x4 ⟨rfl, hw⟩
  have hb := bthen hb hw
  go_wp2_with fail
  go_at_call 37
  refine (HM.out _ hb).mono ?_
  rintro e w1 ⟨A1, c1, F1, rfl, hc1, hN1, hb1, hF1, hle1⟩
  rw [← HN.out] at hN1 hc1
  rw [← HN.out]
  have hb := bthen hb hb1
  go_wp2_with fail
  go_at_call 42
  refine (copy_w hF1 lf (by have := HN.out; omega) HM2.out A1 N c1 hN1).mono ?_
  rintro e w2 ⟨v, F2, xs, rfl, hO2, hK2, hb2, hF2, hle2⟩
  obtain ⟨g, cap, rfl, hcap, hg, hFg, hB⟩ := hO2.blk0 m0
  have fz := hB.frozen
  obtain ⟨A9, c9, hc9, hK9, hcs⟩ := hK2.v.at_ i HIL.out
  obtain ⟨k0, k1, k2, k3, k4⟩ := cells5 hB hcs
  have hzb := hb.size
  have hb : Below w.heap.size w (w2.setCell ⟨g, i * 5 + 1, none⟩ (.string nm)) := (bthen hb hb2).setCell (p := ⟨g, i * 5 + 1, none⟩) (Nat.le_trans hzb hg) _
  obtain ⟨F9, hS9, hN9, hle9⟩ := turned2 w1 (w := w2.setCell ⟨g, i * 5 + 1, none⟩ (.string nm)) (hF2.setCell (p := ⟨g, i * 5 + 1, none⟩) hFg _) (hB.set_ (i * 5 + 1) (.string nm)) hFg hg (hK2.v.set_name nm i HIL.out) (by rw [List.length_set, ← HN.out])
  rw [← HLC.out] at hN9
  have hL9 := hN1.cle (hle2.cle.trans hle9)
  have hk : Below (w2.setCell ⟨g, i * 5 + 1, none⟩ (.string nm)).heap.size (w2.setCell ⟨g, i * 5 + 1, none⟩ (.string nm)) (w2.setCell ⟨g, i * 5 + 1, none⟩ (.string nm)) := Below.refl _ _
  obtain ⟨W, hW⟩ : ∃ W, W = w2.setCell ⟨g, i * 5 + 1, none⟩ (.string nm) := ⟨_, rfl⟩
  rw [← hW] at hb hS9 hk
  have HW := Lib.hid hW
  clear hW
  go_wp2_with fail
  rw [← HW.out]
  go_at_call 46
  refine (same_w (hS9.below hk) lf lf A1 A1 N N c1 c1 (by rw [← HN.out]; omega) hL9 hL9 true (iff_of_true rfl ⟨HMM.out, rfl⟩)).mono ?_
  rintro e x5 ⟨rfl, hw⟩
  have hk := bthen hk hw
  go_wp2_with fail
  go_at_call 46
  refine (same_w (hS9.below hk) lf lc A1 (some ⟨g, 0, none⟩) N N c1 cap (by rw [← HN.out]; omega) hL9 hN9 _ HR3.out).mono ?_
  rintro e x6 ⟨rfl, hw⟩
  have hk := bthen hk hw
  go_wp2_with fail
  go_at_call 47
  refine (rsame_w (hS9.below hk) lf lc A1 (some ⟨g, 0, none⟩) N N c1 cap (by rw [← HN.out]; omega) (by rw [HLN.out]; omega) hL9 hN9 _ HR3.out).mono ?_
  rintro e x7 ⟨rfl, hw⟩
  have hk := bthen hk hw
  go_wp2_with fail
  go_at_call 46
  refine (same_w (hS9.below hk) lc lf (some ⟨g, 0, none⟩) A1 N N cap c1 (by rw [HLN.out]; omega) hN9 hL9 _ HR4.out).mono ?_
  rintro e x8 ⟨rfl, hw⟩
  have hk := bthen hk hw
  go_wp2_with fail
  go_at_call 46
  refine (same_w (hS9.below hk) lf lc A1 (some ⟨g, 0, none⟩) N N c1 cap (by rw [← HN.out]; omega) hL9 hN9 _ HR3.out).mono ?_
  rintro e x9 ⟨rfl, hw⟩
  have hk := bthen hk hw
  go_wp2_with fail
  go_at_call 38
  refine (HR.out _ (bthen hb hk)).mono ?_
  rintro e w3 ⟨A3, c3, F3, rfl, hc3, hN3, hb3, hF3, hle3⟩
  have hk := bthen hk hb3
  have hX := Lib.hid (same_w (sat_heapF w3) lf lr A1 A3 N _ c1 c3 (by rw [← HN.out]; omega) (hL9.cle (hS9.below hk).cle) (hN3.cle hF3.cle) false (iff_of_false (by decide) (fun h => HNE.out h.2)))
  go_wp2_with fail
  go_at_call 46
  refine hX.out.mono ?_
  rintro e x10 ⟨rfl, hw⟩
  have hk := bthen hk hw
  go_wp2_with fail
  go_at_call 35
  refine (awake5_w _).mono ?_
  rintro e x11 ⟨rfl, hw⟩
  have hk := bthen hk hw
  go_wp2_with fail
  go_ret
  exact ⟨rfl, bthen hb hk⟩
theorem treeSame_c {F : Fz} {w : World} (hF : Sat F w) (A B D : Option Addr) (na ca nb cb n c : Nat) (la lb : List Nd) (hca : na ≤ ca) (hcb : nb ≤ cb) (hA : NodesF F A na la) (hB : NodesF F B nb lb) (ns : List Nat) (hns : ∀ k ∈ ns, k < 65536) (hr : Rd F 1 D n (ns.map encW)) (at_ : Nat) (hat : at_ < 256) (nm : ByteArray) :
    Calls Try.prog 13 #[.slice A na ca, .slice B nb cb, .slice D n c, .int .u8 at_, .string nm] w fun e w' => e = .returned (.bool true) ∧ Below w.heap.size w w' := by
  by_cases h : na ≤ 1000 ∧ nb ≤ 1000
  · exact treeSame_near hF A B D na ca nb cb n c la lb h.1 h.2 hca hcb hA hB ns hns hr at_ hat nm
  · exact treeSame_far hF A B D na ca nb cb n c h at_ nm
end Go.Proofs.Ytkffofolhckjeaa
