/- The walk of the law AtomsSteps. -/
import Derived.Test.YtdbbooibkiicnaaSteps7
import Derived.Test.YtdbbooibkiicnaaSteps8
import Derived.Test.YtdbbooibkiicnaaAtPut
import Derived.Test.YtdbbooibkiicnaaPlanC
set_option linter.unusedVariables false
set_option linter.unusedSimpArgs false
namespace Go.Proofs.Ytdbbooibkiicnaa
open Go.RowKit
theorem at_wd {m : Nat} (hm : m ≤ 10) {F : Fz} {w : World} (hF : Sat F w) {v : Value} {p : Nat → Bool} (h : WdF m F v p) {X : Nat} (hX : X < 2 ^ m) :
    Calls Try.prog 38 #[.int .i64 m, v, .int .u64 X] w fun e w' => e = .returned (.bool (p X)) ∧ w = w' := by
  obtain ⟨A, n, c, fs, rfl, hr, hl, hp⟩ := h
  have h := at_any hF m hm fs hl A n c hr (X : Int) (Int.natCast_nonneg _)
  rw [Int.toNat_natCast, decide_eq_true hX, Bool.true_and, hp X hX] at h
  exact h
theorem has_set {F : Fz} {w : World} (hF : Sat F w) {v : Value} {P : Nat → Bool} (h : SetV F v P) (k : Nat) (hk : (k : Int) ≤ 1000000) :
    Calls Try.prog 39 #[v, .int .i64 k] w fun e w' => e = .returned (.bool (P k)) ∧ w = w' := by
  obtain ⟨gs, A, n, c, rfl, _, _, hr, hp⟩ := h
  have h := bitsHas_w hF gs A n c hr k hk
  rw [hp k] at h
  exact h
set_option maxRecDepth 100000 in
theorem atomsSteps_big {F : Fz} {w : World} (hF : Sat F w) (B : Option Addr) (m d nn : Nat) (k : Int) (ts : List (List (BitVec 64))) (A : Option Addr) (n c : Nat) (hts : RdR F A n ts) (hb : greatS ts = true) :
    Calls Try.prog 8 #[.slice B m d, .int .u8 nn, .int .i64 k, .slice A n c] w fun e w' => e = .returned (.bool true) ∧ Below w.heap.size w w' := by
  have H1 := Lib.hid (great_w hF ts A n c hts 1 (by rw [hb]; rfl))
  clear hb hts
  go_enter Try.func8, Try.ntmps8
  go_wp2_with fail
  refine H1.out.mono ?_
  rintro e w' ⟨rfl, rfl⟩
  go_wp2_with (go_at_call 15; refine (awake29_w _).mono ?_; rintro e w1 ⟨rfl, hw1⟩)
  go_ret
  exact ⟨rfl, hw1⟩
set_option maxRecDepth 100000 in
set_option maxHeartbeats 8000000 in
theorem atomsSteps_c {F : Fz} {w : World} (hF : Sat F w) (ns : List Nat) (hns : ∀ k ∈ ns, k < 65536) (B : Option Addr) (m d : Nat) (hr : Rd F 1 B m (ns.map encW)) (nn : Nat) (hnn : nn < 256) (kk : Int) (ts : List (List (BitVec 64))) (A : Option Addr) (n c : Nat) (hts : RdR F A n ts) (h1 : greatS ts = false) :
    Calls Try.prog 8 #[.slice B m d, .int .u8 nn, .int .i64 kk, .slice A n c] w fun e w' => e = .returned (.bool true) ∧ Below w.heap.size w w' := by
  have H1 := Lib.hid (great_w hF ts A n c hts 0 (by rw [h1]; rfl))
  obtain ⟨htn, htl⟩ := greatS_no h1
  have hnl : n ≤ 100 := by have := hts.1; omega
  have hRg := Lib.hid (reg5_w hF ns hns B m d hr false (regT false ns) rfl)
  have hrn0 := (make_size false ns).2
  rw [← Tr.length_flat (regT false ns) 0] at hrn0
  obtain ⟨t, ht, hrt⟩ : ∃ t', treeS ((regT false ns).flat 0) = some t' ∧ regS t'.root.kind = true := by
    obtain ⟨a1, a2, _⟩ := okR_iff.1 (make_ok false ns hns).2
    obtain ⟨t', e1, _, e2⟩ := tree_of_valid a1
    exact ⟨t', e1, by rw [e2]; exact a2⟩
  obtain ⟨r, hre⟩ : ∃ r, (regT false ns).flat 0 = r := ⟨_, rfl⟩
  rw [hre] at hRg hrn0 ht
  clear hre hr hns h1
  have hrn : r.length ≤ 1000 := by omega
  have hv := regV_of (tree_valid ht) hrt
  have hk18 : (kindS r 18).length = stepsN t := by rw [kind_steps2 ht hrt, length_stepsL t 0 hv]
  obtain ⟨M, hM⟩ : ∃ M, stepsN t = M := ⟨_, rfl⟩
  have hMb : M ≤ 1000 := by have h3 := stepsN_le t; have h4 := tree_len ht; omega
  have HS18 : Hid ((kindS r 18).length = M) := Lib.hid (by rw [hk18, hM])
  obtain ⟨mm, hmm⟩ : ∃ mm, nn % 8 = mm := ⟨_, rfl⟩
  have hm7 : mm ≤ 7 := by omega
  have hm : mm ≤ 10 := by omega
  have hmI : (nn : Int) % 8 = (mm : Int) := by rw [← hmm]; rfl
  obtain ⟨P, hP⟩ : ∃ P, 2 ^ mm = P := ⟨_, rfl⟩
  have hPb : P ≤ 1024 := by rw [← hP]; exact pow_le_1024 mm hm
  have hPs : IntKind.u64.wrap (2 ^ mm) = (P : Int) := by rw [show (2 : Int) ^ mm = (P : Int) by rw [← hP]; push_cast; rfl]; exact IntWalk.u64_in _ (by omega)
  obtain ⟨WN, hWN⟩ : ∃ WN, wordsN mm = WN := ⟨_, rfl⟩
  have HWN := Lib.hid hWN
  have HWd := Lib.hid (fun (X : World) => words_yes mm hm X)
  rw [hWN] at HWd
  have HP := Lib.hid hP
  have HT := Lib.hid ht
  have HRT := Lib.hid hrt
  have HV := Lib.hid hv
  have HM := Lib.hid hM
  have HTS := Lib.hid hts
  have HTL := Lib.hid htl
  have HTN : Hid (n = ts.length) := Lib.hid hts.1
  clear hmm hk18 ht hrt hv hM htl htn hts hP hWN
  go_enter Try.func8, Try.ntmps8
  go_wp2_with fail
  refine H1.out.mono ?_
  rintro e w' ⟨rfl, rfl⟩
  go_wp2_with fail
  go_at_call 26
  refine hRg.out.mono ?_
  rintro e W ⟨Ar, cr, F1, rfl, hcr, hrN, hbW, hF1, hle1⟩
  have HRN := Lib.hid hrN
  have HF1 := Lib.hid hF1
  have HBW := Lib.hid hbW
  have hFW : Sat F W := hF.below hbW
  have hz1 : TsF mm (heapF W) A n (fun q x => bitAt (ts.getD q []) x) := tsF_of (rdrCle HTS.out hFW.cle) HTL.out
  have hln := HRN.out.cle hF1.cle
  obtain ⟨z, hz⟩ : ∃ z : Zf, (fun q x => bitAt (ts.getD q []) x) = z := ⟨_, rfl⟩
  rw [hz] at hz1
  have HZQ : Hid (∀ q x, z q x = bitAt (ts.getD q []) x) := Lib.hid (fun q x => by rw [← hz])
  have HN1 := Lib.hid (fun (X : World) (h : Sat (heapF W) X) => anext_w h mm hm r hrn Ar r.length cr hln HT.out HRT.out kk A n c (by omega) z hz1)
  have HE1 := Lib.hid (fun (X : World) (h : Sat (heapF W) X) => aends_w h mm hm r hrn Ar r.length cr hln HT.out HRT.out kk A n c (by omega) z hz1)
  have HZ1 := Lib.hid (fun (X : World) (h : Sat (heapF W) X) => azero_w h mm hm r hrn Ar r.length cr hln HT.out HRT.out A n c (by omega) z hz1)
  have HC1 := Lib.hid (fun (X : World) (h : Sat F1 X) => scount_w h r hrn Ar r.length cr HRN.out M HS18.out)
  rw [HM.out] at HN1
  clear hz hz1 hln hrN hF1 hbW hle1 hRg H1 hF
  go_wp2_with fail
  rw [hmI]
  clear hmI
  refine (HZ1.out _ (sat_heapF W)).mono ?_
  rintro e w2 ⟨v2, rfl, hb2, hE2⟩
  have hG2 := (sat_heapF W).below hb2
  obtain ⟨_, A2, c2, rfl, _⟩ := id hE2
  rw [HWN.out]
  go_wp2_with fail
  refine (HN1.out _ hG2).mono ?_
  rintro e w3 ⟨g3, rfl, hg3, hb3, hZ3⟩
  have hG3 := hG2.below hb3
  go_wp2_with fail
  refine (HE1.out _ hG3).mono ?_
  rintro e w4 ⟨v4, rfl, hb4, hE4⟩
  have hb24 := bthen hb2 (bthen hb3 hb4)
  obtain ⟨_, A4, c4, rfl, _⟩ := id hE4
  rw [HWN.out]
  rw [HWN.out] at hE2 hE4
  have hS4 : Sat F1 w4 := HF1.out.below hb24
  have HC4 := Lib.hid (HC1.out w4 hS4)
  have hG4 := hG3.below hb4
  have HZ4 := Lib.hid (hZ3.call hb4)
  have HE2 : Hid (WdF mm (heapF w4) (.slice A2 WN c2) (stateK z t 0).2) := Lib.hid (hE2.below (bthen hb3 hb4)).wd
  have HE4 := Lib.hid hE4.wd
  have HB4 : Hid (Below w.heap.size w w4) := Lib.hid (bthen HBW.out hb24)
  have HF4 : Hid (Sat F w4) := Lib.hid (hFW.below hb24)
  have HS4 := Lib.hid hS4
  clear hG2 hG3 hG4 hb2 hb3 hb4 hb24 hE2 hE4 hZ3 HN1 HE1 HZ1 HC1 hS4 hFW
  go_wp2_with (first
    | (go_at_call 34; refine HC4.out.mono ?_; rintro e w5 ⟨rfl, hw5⟩)
    | (go_at_call 35; refine (HWd.out _).mono ?_; rintro e w6 ⟨rfl, rfl⟩))
  have HB5 : Hid (Below w.heap.size w w5) := Lib.hid (bthen HB4.out hw5)
  have HF5 : Hid (Sat F w5) := Lib.hid (HF4.out.below hw5)
  have HS5 : Hid (Sat F1 w5) := Lib.hid (HS4.out.below hw5)
  have HZ5 := Lib.hid (HZ4.out.call hw5)
  have HE5 : Hid (WdF mm (heapF w5) (.slice A2 WN c2) (stateK z t 0).2) := Lib.hid (HE2.out.below hw5)
  have HE6 : Hid (WdF mm (heapF w5) (.slice A4 WN c4) (stateK z t kk).2) := Lib.hid (HE4.out.below hw5)
  clear hw5 HZ4 HE2 HE4 HC4
  go_loopw [14, 15, 16, 17, 18, 64] (fun _ _ _ _ _ v64 wr => ∃ x : Nat, x ≤ P ∧ v64 = .int .u64 x ∧ Below w5.heap.size w5 wr) (fun _ _ _ _ _ v64 _ => P - (intOf v64).toNat)
  case atStart => exact ⟨0, Nat.zero_le _, rfl, Below.refl _ _⟩
  case round =>
    obtain ⟨x, hx, rfl, hbx⟩ := hrel
    by_cases hxP : x < P
    · have hxI : (x : Int) < (P : Int) := by omega
      have hx2 : x < 2 ^ mm := by rw [HP.out]; exact hxP
      obtain ⟨z', hz'⟩ : ∃ z' : Zf, (fun q _ => bitAt (ts.getD q []) x) = z' := ⟨_, rfl⟩
      have HZZ : Hid (∀ q, bitAt (ts.getD q []) x = z' q 0) := Lib.hid (fun q => by rw [← hz'])
      have HEQ := Lib.hid (fun (k : Int) (q : Nat) => stateK_at z z' x 0 q t k (fun q _ => by rw [HZQ.out, HZZ.out]) HV.out)
      have HHD := Lib.hid (held_w (HF5.out.below hbx) mm hm x hx2 ts A n c HTS.out hnl HTL.out)
      have HBX := Lib.hid hbx
      have HX2 := Lib.hid hx2
      have hxb : x ≤ 1024 := by omega
      clear hbx hz' hx2
      go_wp2_with fail
      refine HHD.out.mono ?_
      rintro e w6 ⟨v6, rfl, hb6, hS6⟩
      have hS6' : SetV (heapF w6) v6 (fun q => z' q 0) := hS6.eq HZZ.out
      have HB6 : Hid (Below w5.heap.size w5 w6) := Lib.hid (bthen HBX.out hb6)
      have hF6 : Sat (heapF w6) w6 := sat_heapF w6
      have hln6 := HRN.out.cle (HS5.out.below HB6.out).cle
      have HNX := Lib.hid (fun (X : World) (h : Sat (heapF w6) X) => snext_w h r hrn Ar r.length cr hln6 HT.out HRT.out kk z' v6 hS6')
      have HEN := Lib.hid (fun (X : World) (h : Sat (heapF w6) X) => sends_w h r hrn Ar r.length cr hln6 HT.out HRT.out kk z' v6 hS6')
      have HZE := Lib.hid (fun (X : World) (h : Sat (heapF w6) X) => szero_w h r hrn Ar r.length cr hln6 HT.out HRT.out z' v6 hS6')
      obtain ⟨gs6, A6, n6, c6, rfl, hh⟩ := hS6
      clear hh hS6' hln6 hb6 HHD
      go_wp2_with fail
      refine (HNX.out _ hF6).mono ?_
      rintro e w7 ⟨v7, rfl, hb7, hS7⟩
      have hF7 := hF6.below hb7
      have HAZ := Lib.hid (at_wd hm (sat_heapF w7) (HE5.out.below (bthen HB6.out hb7)) HX2.out)
      have HZ7 := Lib.hid (HZE.out w7 hF7)
      have HS7 := Lib.hid hS7
      obtain ⟨gs7, A7, n7, c7, rfl, hh⟩ := id hS7
      clear hh hS7 hF6
      rw [(HEQ.out 0 0).2] at HAZ
      go_wp2_with fail
      refine HAZ.out.mono ?_
      rintro e w8 ⟨rfl, rfl⟩
      go_wp2_with fail
      refine HZ7.out.mono ?_
      rintro e w8 ⟨rfl, hb8⟩
      have hF8 := hF7.below hb8
      have HAE := Lib.hid (at_wd hm (sat_heapF w8) (HE6.out.below (bthen HB6.out (bthen hb7 hb8))) HX2.out)
      rw [(HEQ.out kk 0).2] at HAE
      have HE8 := Lib.hid (HEN.out w8 hF8)
      obtain ⟨b1, hb1⟩ : ∃ b, (stateK z' t 0).2 0 = b := ⟨_, rfl⟩
      obtain ⟨b2, hb2⟩ : ∃ b, (stateK z' t kk).2 0 = b := ⟨_, rfl⟩
      rw [hb1]
      rw [hb2] at HAE HE8
      clear hb1 hb2 hF7
      have hbb : (b1 != b1) = false := by cases b1 <;> rfl
      have hbb2 : (b2 != b2) = false := by cases b2 <;> rfl
      go_wp2_with (first
        | (go_at_call 38; refine HAE.out.mono ?_; rintro e w9 ⟨rfl, rfl⟩)
        | (go_at_call 33; refine HE8.out.mono ?_; rintro e w10 ⟨rfl, hb10⟩))
      have HZB : Hid (Below w5.heap.size w5 w10) := Lib.hid (bthen HB6.out (bthen hb7 (bthen hb8 hb10)))
      have HZ10 := Lib.hid (HZ5.out.call HZB.out)
      have HS10 : Hid (SetV (heapF w10) (.slice A7 n7 c7) fun b => decide (b ≠ 0) && (stateK z' t kk).1 (b - 1) 0) := Lib.hid (HS7.out.heap ((sat_heapF w7).below (bthen hb8 hb10)))
      clear hF8 hb7 hb8 hb10 HS7 HZ7 HE8 HAE HNX HEN HZE hbb hbb2
      go_loopw [17, 18, 96] (fun _ _ v96 wr => ∃ q : Nat, q ≤ M ∧ v96 = .int .i64 q ∧ w10 = wr) (fun _ _ v96 _ => M - (intOf v96).toNat)
      case atStart => exact ⟨0, Nat.zero_le _, rfl, rfl⟩
      case round =>
        obtain ⟨q, hq, rfl, hwq⟩ := hrel
        by_cases hqM : q < M
        · have hqI : (q : Int) < (M : Int) := by omega
          obtain ⟨vf, hcf, hSf⟩ := HZ10.out.full hqM
          rw [heap_hx] at hSf
          rw [hwq] at hcf
          have HAF := Lib.hid (at_wd hm (sat_heapF w10) hSf.wd HX2.out)
          have HHS := Lib.hid (has_set (sat_heapF w10) HS10.out (q + 1) (by omega))
          rw [show decide (q + 1 ≠ 0) = true from decide_eq_true (by omega), Bool.true_and, Nat.add_sub_cancel] at HHS
          rw [(HEQ.out kk q).1] at HAF
          rw [hwq, show ((q + 1 : Nat) : Int) = (q : Int) + 1 from rfl] at HHS
          rw [hwq] at HAF
          obtain ⟨_, Af, cf, rfl, _⟩ := id hSf
          rw [HWN.out] at hcf HAF
          obtain ⟨b3, hb3⟩ : ∃ b, (stateK z' t kk).1 q 0 = b := ⟨_, rfl⟩
          rw [hb3] at HAF HHS
          have hbb : (b3 != b3) = false := by cases b3 <;> rfl
          clear hSf hb3
          go_wp2_with (first
            | (go_at_call 35; refine (HWd.out _).mono ?_; rintro e w11 ⟨rfl, rfl⟩)
            | (go_at_call 38; refine HAF.out.mono ?_; rintro e w11 ⟨rfl, rfl⟩)
            | (go_at_call 39; refine HHS.out.mono ?_; rintro e w11 ⟨rfl, rfl⟩))
          go_roundw
          case rel => exact ⟨q + 1, by omega, by go_num, hwq⟩
          case measure => simp [intOf]; omega
        · obtain rfl : q = M := by omega
          have hdec : decide ((q : Int) < (q : Int)) = false := decide_eq_false (by omega)
          have HZW : Hid (Below w5.heap.size w5 wr) := Lib.hid (by rw [← hwq]; exact HZB.out)
          clear hwq
          go_wp2_with fail
          go_roundw
          case rel => exact ⟨x + 1, by omega, by go_num, HZW.out⟩
          case measure => simp [intOf]; omega
    · obtain rfl : x = P := by omega
      have hdec : decide ((x : Int) < (x : Int)) = false := decide_eq_false (by omega)
      go_wp2_with (go_at_call 15; refine (awake29_w _).mono ?_; rintro e w13 ⟨rfl, hw13⟩)
      go_ret
      exact ⟨rfl, bthen (bthen HB5.out hbx) hw13⟩
end Go.Proofs.Ytdbbooibkiicnaa
