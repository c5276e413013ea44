/- The walk of the law PathsLocal. -/
import Derived.Test.YtkhhjihbahdepaaPoints
import Derived.Test.YtkhhjihbahdepaaPathsParts
set_option linter.unusedVariables false
set_option linter.unusedSimpArgs false
namespace Go.Proofs.Ytkhhjihbahdepaa
open Go.RowKit
theorem ok_regT {b : Bool} {t : Tr} (h : okR b t = true) : ∃ t', treeS (t.flat 0) = some t' ∧ regS t'.root.kind = true := by
  obtain ⟨h1, h2, _⟩ := okR_iff.1 h
  obtain ⟨t', e1, _, e2⟩ := tree_of_valid h1
  exact ⟨t', e1, by rw [e2]; exact h2⟩
set_option maxRecDepth 100000 in
set_option maxHeartbeats 8000000 in
theorem pathsLocal_c {F : Fz} {w : World} (hF : Sat F w) (ns : List Nat) (hns : ∀ k ∈ ns, k < 65536) (B : Option Addr) (m d : Nat) (hr : Rd F 1 B m (ns.map encW)) (fs : List (BitVec 64)) (A : Option Addr) (n c : Nat) (hf : Rd F 1 A n (fs.map u)) (fr to_ : Nat) (hfr : fr < 256) (hto : to_ < 256) :
    Calls Try.prog 4 #[.slice B m d, .slice A n c, .int .u8 fr, .int .u8 to_] w fun e w' => e = .returned (.bool true) ∧ Below w.heap.size w w' := by
  have hRg := Lib.hid (reg5_w hF ns hns B m d hr false (regT false ns) rfl)
  obtain ⟨t, ht, hrk⟩ := ok_regT (make_ok false ns hns).2
  have hrn0 := (make_size false ns).2
  rw [← Tr.length_flat (regT false ns) 0] at hrn0
  obtain ⟨r, hre⟩ : ∃ r, (regT false ns).flat 0 = r := ⟨_, rfl⟩
  rw [hre] at hRg hrn0 ht
  have hreg := reg_of ht hrk
  obtain ⟨gl, hgl⟩ : ∃ gl, fs.take 9 = gl := ⟨_, rfl⟩
  obtain ⟨k, hk⟩ : ∃ k, gl.length = k := ⟨_, rfl⟩
  have hk9 : k ≤ 9 := by rw [← hk, ← hgl]; exact List.length_take_le _ _
  have HPT := Lib.hid (fun (X : World) (h : Sat F X) => points_w h fs A n c hf gl hgl k hk)
  obtain ⟨gs, hgs⟩ : ∃ gs, (gl.map fun x => [x]) = gs := ⟨_, rfl⟩
  rw [hgs] at HPT
  obtain ⟨i, hi⟩ : ∃ i, fr % (k + 1) = i := ⟨_, rfl⟩
  have hik : i ≤ k := by have := Nat.mod_lt fr (show 0 < k + 1 by omega); omega
  obtain ⟨s, hs⟩ : ∃ s, to_ % (k - i + 1) = s := ⟨_, rfl⟩
  have hsk : s ≤ k - i := by have := Nat.mod_lt to_ (show 0 < k - i + 1 by omega); omega
  obtain ⟨K2, hK2⟩ : ∃ K2, i + s = K2 := ⟨_, rfl⟩
  have i1 : (fr : Int) % ((k : Int) + 1) = (i : Int) := by rw [← hi, Int.natCast_emod]; rfl
  have i2 : (to_ : Int) % ((k : Int) - (i : Int) + 1) = (s : Int) := by
    rw [show (k : Int) - (i : Int) + 1 = ((k - i + 1 : Nat) : Int) by omega, ← hs, Int.natCast_emod]
  have i3 : (i : Int) + (s : Int) = (K2 : Int) := by omega
  have i4 : (K2 : Int) - (i : Int) = (s : Int) := by omega
  have i5 : K2 - i = s := by omega
  have i6 : (K2 : Int) ≤ 9 := by omega
  have i7 : (i : Int) ≤ (K2 : Int) := by omega
  have hK2k : K2 ≤ k := by omega
  obtain ⟨nr, hnr⟩ : ∃ nr, r.length = nr := ⟨_, rfl⟩
  have HNR := Lib.hid hnr
  have hrn : r.length ≤ 1000 := by omega
  obtain ⟨M, hM⟩ : ∃ M : Mx, reachT k (valS gs) t 0 = M := ⟨_, rfl⟩
  have hfw : FwM M := by rw [← hM]; exact reach_fw _ _ _ _
  have hcutM : CutM i s (reachT s (valS ((gs.drop i).take s)) t 0) M := by
    intro x y hx hy
    rw [← hM, ← reach_cut (d := i) (n' := s) (n := k) (by omega) (valS gs) t 0 x y hx hy]
    exact reach_congr s _ _ t 0 0 (fun x hx q _ => by
      have := valS_cut gs i (i + s) x (0 + q) (by omega)
      rw [show i + s - i = s by omega] at this
      exact this) x y hx hy
  have HT := Lib.hid ht
  have HRK := Lib.hid hrk
  have HRG := Lib.hid hreg
  have HM := Lib.hid hM
  have HFW := Lib.hid hfw
  have HCM := Lib.hid hcutM
  clear hre hr hns hnr hrn0 ht hrk hreg hM hfw hcutM hk hgs hgl hi hs hf
  go_enter Try.func4, Try.ntmps4
  go_wp2_with fail
  go_at_call 11
  refine hRg.out.mono ?_
  rintro e W0 ⟨Ar, cr, F1, rfl, hcr, hrN1, hbW0, hF1, hle1⟩
  rw [HNR.out] at hrN1 hcr
  rw [HNR.out]
  go_wp2_with fail
  go_at_call 12
  refine (HPT.out _ (hF.below hbW0)).mono ?_
  rintro e W ⟨P, dk, rfl, hdk, hPn, hgR, hbW1⟩
  have hrN := (hrN1.cle hF1.cle).cle (cle_below hbW1)
  have HP1 := Lib.hid (pReachTab (sat_heapF W) r hrn Ar nr cr hrN P k dk (by omega) gs hgR)
  have HPC := Lib.hid (fun (X : World) (h : Sat (heapF W) X) (P2 : Option Addr) (d2 : Nat) (hg : RdR (heapF W) P2 s ((gs.drop i).take s)) => pReachTab h r hrn Ar nr cr hrN P2 s d2 (by omega) _ hg)
  have hcut := hgR.cutR (i := i) (k := K2) (cap := dk) (by omega) hK2k hdk
  rw [i5] at hcut
  have hdkI : (K2 : Int) ≤ (dk : Int) := by omega
  have hbW := bthen hbW0 hbW1
  clear hrN hrN1 hgR hrn hle1 hbW0 hbW1
  go_wp2_with fail
  go_at_call 15
  refine HP1.out.mono ?_
  rintro e W2 ⟨A2, c2, rfl, hb2, hT2⟩
  rw [if_pos HRG.out]
  have hTm := hT2 t HT.out HRK.out
  rw [HM.out] at hTm
  have hG2 : Sat (heapF W) W2 := (sat_heapF W).below hb2
  have q2 := bthen hbW hb2
  clear hT2
  rcases P with _ | ad
  · have hd0 := hPn rfl
    subst hd0
    obtain rfl : k = 0 := by omega
    obtain rfl : i = 0 := by omega
    obtain rfl : s = 0 := by omega
    obtain rfl : K2 = 0 := by omega
    rw [if_pos rfl] at hcut
    have hsq := fun (X : World) (A : Option Addr) (c : Nat) => square_w (w := X) (n := 0) (by omega) A c M (fun h => absurd h (by omega))
    have HSQ := Lib.hid hsq
    go_wp2_with fail
    go_at_call 15
    refine (HPC.out W2 hG2 none 0 hcut).mono ?_
    rintro e W3 ⟨A3, c3, rfl, hb3, hT3⟩
    rw [if_pos HRG.out]
    have q3 := bthen q2 hb3
    go_wp2_with fail
    go_at_call 17
    refine (HSQ.out _ _ _).mono ?_
    rintro e w4 ⟨rfl, rfl⟩
    go_wp2_with fail
    go_at_call 17
    refine (HSQ.out _ _ _).mono ?_
    rintro e w5 ⟨rfl, rfl⟩
    go_wp2_with fail
    go_loopw [15, 16, 61] (fun _ _ v wr => v = .int .i64 0 ∧ wr = W3) (fun _ _ _ _ => 0)
    case atStart => exact ⟨rfl, rfl⟩
    case round =>
      obtain ⟨rfl, rfl⟩ := hrel
      go_wp2_with (go_at_call 18; refine (awake14_w _).mono ?_; rintro e w6 ⟨rfl, hz⟩)
      go_ret
      exact ⟨rfl, bthen q3 hz⟩
  · by_cases hdi : dk = i
    · subst hdi
      rw [if_pos rfl] at hcut
      go_wp2_with fail
      go_at_call 15
      refine (HPC.out W2 hG2 (some ad) 0 hcut).mono ?_
      rintro e W3 ⟨A3, c3, rfl, hb3, hT3⟩
      rw [if_pos HRG.out]
      have hTp := hT3 t HT.out HRK.out
      have q3 := bthen q2 hb3
      have hTm3 : 0 < k → ∃ g, A2 = some ⟨g, 0, none⟩ ∧ SqF (heapF W3) g k M := fun h => let ⟨g, a, b, c, d⟩ := hTm h; ⟨g, a, d.call hb3⟩
      have hTp3 : 0 < s → ∃ g, A3 = some ⟨g, 0, none⟩ ∧ SqF (heapF W3) g s (reachT s (valS ((gs.drop dk).take s)) t 0) := fun h => let ⟨g, a, b, c, d⟩ := hTp h; ⟨g, a, d⟩
      have HSQ1 := Lib.hid (square_w (w := W3) (n := k) (by omega) A2 c2 M hTm3)
      have HSQ2 := Lib.hid (square_w (w := W3) (n := s) (by omega) A3 c3 _ hTp3)
      generalize reachT s (valS ((gs.drop dk).take s)) t 0 = Mp at *
      have HTM := Lib.hid hTm3
      have HTP := Lib.hid hTp3
      clear hTm hTp hT3 hTm3 hTp3 hcut
      go_wp2_with fail
      go_at_call 17
      refine HSQ1.out.mono ?_
      rintro e w4 ⟨rfl, rfl⟩
      go_wp2_with fail
      go_at_call 17
      refine HSQ2.out.mono ?_
      rintro e w5 ⟨rfl, rfl⟩
      go_wp2_with fail
      go_loopw [15, 16, 61] (fun _ _ v wr => ∃ a q : Nat, a ≤ k ∧ v = .int .i64 a ∧ wr = W3.drewN q) (fun _ _ v _ => k - (intOf v).toNat)
      case atStart => exact ⟨0, 0, Nat.zero_le _, rfl, rfl⟩
      case round =>
        obtain ⟨a, q, ha, rfl, rfl⟩ := hrel
        by_cases hak : a < k
        · have haI : (a : Int) < (k : Int) := by omega
          obtain ⟨g, eA2, hSm⟩ := HTM.out (by omega)
          subst eA2
          have m1 := hSm.slot hak
          go_wp2_with fail
          go_loopw [16, 66] (fun _ v wr => ∃ b q2 : Nat, b ≤ k ∧ v = .int .i64 b ∧ wr = W3.drewN q2) (fun _ v _ => k - (intOf v).toNat)
          case atStart => exact ⟨0, q, Nat.zero_le _, rfl, rfl⟩
          case round =>
            obtain ⟨b, q2, hb, rfl, rfl⟩ := hrel
            by_cases hbk : b < k
            · have hbI : (b : Int) < (k : Int) := by omega
              have m2 := hSm.val hak hbk
              have hfwd : M a b = true → a ≤ b := HFW.out a b
              have HFD := Lib.hid hfwd
              clear hfwd
              have hlt : M a b = true → decide ((b : Int) < (a : Int)) = false ∧ decide (b < a) = false := fun h => ⟨decide_eq_false (by have := HFD.out h; omega), decide_eq_false (by have := HFD.out h; omega)⟩
              have HLT := Lib.hid hlt
              clear hlt
              by_cases h1 : dk ≤ a
              · have f1 : (dk : Int) ≤ (a : Int) := by omega
                by_cases h2 : a < K2
                · have f2 : (a : Int) < (K2 : Int) := by omega
                  by_cases h3 : dk ≤ b
                  · have f3 : (dk : Int) ≤ (b : Int) := by omega
                    by_cases h4 : b < K2
                    · have f4 : (b : Int) < (K2 : Int) := by omega
                      obtain ⟨g2, eA3, hSp⟩ := HTP.out (by omega)
                      subst eA3
                      have xa : a - dk < s := by omega
                      have xb : b - dk < s := by omega
                      have n1 := hSp.slot xa
                      have n2 := hSp.val xa xb
                      have heq := HCM.out (a - dk) (b - dk) xa xb
                      rw [show dk + (a - dk) = a by omega, show dk + (b - dk) = b by omega] at heq
                      rw [heq] at n2
                      have e1 : (a : Int) - (dk : Int) = ((a - dk : Nat) : Int) := by omega
                      have e2 : (b : Int) - (dk : Int) = ((b - dk : Nat) : Int) := by omega
                      have e3 : ((a - dk : Nat) : Int) < (s : Int) := by omega
                      have e4 : ((b - dk : Nat) : Int) < (s : Int) := by omega
                      have e5 : ∀ x : Bool, (x != x) = false := fun x => by simp
                      generalize a - dk = ai at *
                      generalize b - dk = bi at *
                      clear heq
                      cases hm : M a b
                      · rw [hm] at m2 n2
                        go_wp2_with fail
                        go_quiet (fail)
                        go_wp2_with fail
                        go_roundw
                        case rel => exact ⟨b + 1, _, by omega, by go_num, rfl⟩
                        case measure => simp [intOf]; omega
                      · rw [hm] at m2 n2
                        obtain ⟨l1, l2⟩ := HLT.out hm
                        go_wp2_with fail
                        go_quiet (fail)
                        go_wp2_with fail
                        go_roundw
                        case rel => exact ⟨b + 1, _, by omega, by go_num, rfl⟩
                        case measure => simp [intOf]; omega
                    · have f4 : decide ((b : Int) < (K2 : Int)) = false := decide_eq_false (by omega)
                      have f4n : decide (b < K2) = false := decide_eq_false h4
                      cases hm : M a b
                      · rw [hm] at m2
                        go_wp2_with fail
                        go_quiet (fail)
                        go_wp2_with fail
                        go_roundw
                        case rel => exact ⟨b + 1, _, by omega, by go_num, rfl⟩
                        case measure => simp [intOf]; omega
                      · rw [hm] at m2
                        obtain ⟨l1, l2⟩ := HLT.out hm
                        go_wp2_with fail
                        go_quiet (fail)
                        go_wp2_with fail
                        go_roundw
                        case rel => exact ⟨b + 1, _, by omega, by go_num, rfl⟩
                        case measure => simp [intOf]; omega
                  · have f3 : decide ((dk : Int) ≤ (b : Int)) = false := decide_eq_false (by omega)
                    have f3n : decide (dk ≤ b) = false := decide_eq_false h3
                    cases hm : M a b
                    · rw [hm] at m2
                      go_wp2_with fail
                      go_quiet (fail)
                      go_wp2_with fail
                      go_roundw
                      case rel => exact ⟨b + 1, _, by omega, by go_num, rfl⟩
                      case measure => simp [intOf]; omega
                    · rw [hm] at m2
                      obtain ⟨l1, l2⟩ := HLT.out hm
                      go_wp2_with fail
                      go_quiet (fail)
                      go_wp2_with fail
                      go_roundw
                      case rel => exact ⟨b + 1, _, by omega, by go_num, rfl⟩
                      case measure => simp [intOf]; omega
                · have f2 : decide ((a : Int) < (K2 : Int)) = false := decide_eq_false (by omega)
                  have f2n : decide (a < K2) = false := decide_eq_false h2
                  cases hm : M a b
                  · rw [hm] at m2
                    go_wp2_with fail
                    go_quiet (fail)
                    go_wp2_with fail
                    go_roundw
                    case rel => exact ⟨b + 1, _, by omega, by go_num, rfl⟩
                    case measure => simp [intOf]; omega
                  · rw [hm] at m2
                    obtain ⟨l1, l2⟩ := HLT.out hm
                    go_wp2_with fail
                    go_quiet (fail)
                    go_wp2_with fail
                    go_roundw
                    case rel => exact ⟨b + 1, _, by omega, by go_num, rfl⟩
                    case measure => simp [intOf]; omega
              · have f1 : decide ((dk : Int) ≤ (a : Int)) = false := decide_eq_false (by omega)
                have f1n : decide (dk ≤ a) = false := decide_eq_false h1
                cases hm : M a b
                · rw [hm] at m2
                  go_wp2_with fail
                  go_quiet (fail)
                  go_wp2_with fail
                  go_roundw
                  case rel => exact ⟨b + 1, _, by omega, by go_num, rfl⟩
                  case measure => simp [intOf]; omega
                · rw [hm] at m2
                  obtain ⟨l1, l2⟩ := HLT.out hm
                  go_wp2_with fail
                  go_quiet (fail)
                  go_wp2_with fail
                  go_roundw
                  case rel => exact ⟨b + 1, _, by omega, by go_num, rfl⟩
                  case measure => simp [intOf]; omega
            · obtain rfl : b = k := by omega
              have hdec : decide ((b : Int) < (b : Int)) = false := decide_eq_false (by omega)
              go_wp2_with fail
              go_roundw
              case rel => exact ⟨a + 1, q2, by omega, by go_num, rfl⟩
              case measure => simp [intOf]; omega
        · obtain rfl : a = k := by omega
          have hdec : decide ((a : Int) < (a : Int)) = false := decide_eq_false (by omega)
          go_wp2_with (go_at_call 18; refine (awake14_w _).mono ?_; rintro e w6 ⟨rfl, hz⟩)
          go_ret
          exact ⟨rfl, bthen (below_drewN q3 q) hz⟩
    · rw [if_neg hdi] at hcut
      simp only [Option.map_some] at hcut
      go_wp2_with fail
      go_at_call 15
      refine (HPC.out W2 hG2 (some (ad.add i)) (dk - i) hcut).mono ?_
      rintro e W3 ⟨A3, c3, rfl, hb3, hT3⟩
      rw [if_pos HRG.out]
      have hTp := hT3 t HT.out HRK.out
      have q3 := bthen q2 hb3
      have hTm3 : 0 < k → ∃ g, A2 = some ⟨g, 0, none⟩ ∧ SqF (heapF W3) g k M := fun h => let ⟨g, a, b, c, d⟩ := hTm h; ⟨g, a, d.call hb3⟩
      have hTp3 : 0 < s → ∃ g, A3 = some ⟨g, 0, none⟩ ∧ SqF (heapF W3) g s (reachT s (valS ((gs.drop i).take s)) t 0) := fun h => let ⟨g, a, b, c, d⟩ := hTp h; ⟨g, a, d⟩
      have HSQ1 := Lib.hid (square_w (w := W3) (n := k) (by omega) A2 c2 M hTm3)
      have HSQ2 := Lib.hid (square_w (w := W3) (n := s) (by omega) A3 c3 _ hTp3)
      generalize reachT s (valS ((gs.drop i).take s)) t 0 = Mp at *
      have HTM := Lib.hid hTm3
      have HTP := Lib.hid hTp3
      clear hTm hTp hT3 hTm3 hTp3 hcut
      go_wp2_with fail
      go_at_call 17
      refine HSQ1.out.mono ?_
      rintro e w4 ⟨rfl, rfl⟩
      go_wp2_with fail
      go_at_call 17
      refine HSQ2.out.mono ?_
      rintro e w5 ⟨rfl, rfl⟩
      go_wp2_with fail
      go_loopw [15, 16, 61] (fun _ _ v wr => ∃ a q : Nat, a ≤ k ∧ v = .int .i64 a ∧ wr = W3.drewN q) (fun _ _ v _ => k - (intOf v).toNat)
      case atStart => exact ⟨0, 0, Nat.zero_le _, rfl, rfl⟩
      case round =>
        obtain ⟨a, q, ha, rfl, rfl⟩ := hrel
        by_cases hak : a < k
        · have haI : (a : Int) < (k : Int) := by omega
          obtain ⟨g, eA2, hSm⟩ := HTM.out (by omega)
          subst eA2
          have m1 := hSm.slot hak
          go_wp2_with fail
          go_loopw [16, 66] (fun _ v wr => ∃ b q2 : Nat, b ≤ k ∧ v = .int .i64 b ∧ wr = W3.drewN q2) (fun _ v _ => k - (intOf v).toNat)
          case atStart => exact ⟨0, q, Nat.zero_le _, rfl, rfl⟩
          case round =>
            obtain ⟨b, q2, hb, rfl, rfl⟩ := hrel
            by_cases hbk : b < k
            · have hbI : (b : Int) < (k : Int) := by omega
              have m2 := hSm.val hak hbk
              have hfwd : M a b = true → a ≤ b := HFW.out a b
              have HFD := Lib.hid hfwd
              clear hfwd
              have hlt : M a b = true → decide ((b : Int) < (a : Int)) = false ∧ decide (b < a) = false := fun h => ⟨decide_eq_false (by have := HFD.out h; omega), decide_eq_false (by have := HFD.out h; omega)⟩
              have HLT := Lib.hid hlt
              clear hlt
              by_cases h1 : i ≤ a
              · have f1 : (i : Int) ≤ (a : Int) := by omega
                by_cases h2 : a < K2
                · have f2 : (a : Int) < (K2 : Int) := by omega
                  by_cases h3 : i ≤ b
                  · have f3 : (i : Int) ≤ (b : Int) := by omega
                    by_cases h4 : b < K2
                    · have f4 : (b : Int) < (K2 : Int) := by omega
                      obtain ⟨g2, eA3, hSp⟩ := HTP.out (by omega)
                      subst eA3
                      have xa : a - i < s := by omega
                      have xb : b - i < s := by omega
                      have n1 := hSp.slot xa
                      have n2 := hSp.val xa xb
                      have heq := HCM.out (a - i) (b - i) xa xb
                      rw [show i + (a - i) = a by omega, show i + (b - i) = b by omega] at heq
                      rw [heq] at n2
                      have e1 : (a : Int) - (i : Int) = ((a - i : Nat) : Int) := by omega
                      have e2 : (b : Int) - (i : Int) = ((b - i : Nat) : Int) := by omega
                      have e3 : ((a - i : Nat) : Int) < (s : Int) := by omega
                      have e4 : ((b - i : Nat) : Int) < (s : Int) := by omega
                      have e5 : ∀ x : Bool, (x != x) = false := fun x => by simp
                      generalize a - i = ai at *
                      generalize b - i = bi at *
                      clear heq
                      cases hm : M a b
                      · rw [hm] at m2 n2
                        go_wp2_with fail
                        go_quiet (fail)
                        go_wp2_with fail
                        go_roundw
                        case rel => exact ⟨b + 1, _, by omega, by go_num, rfl⟩
                        case measure => simp [intOf]; omega
                      · rw [hm] at m2 n2
                        obtain ⟨l1, l2⟩ := HLT.out hm
                        go_wp2_with fail
                        go_quiet (fail)
                        go_wp2_with fail
                        go_roundw
                        case rel => exact ⟨b + 1, _, by omega, by go_num, rfl⟩
                        case measure => simp [intOf]; omega
                    · have f4 : decide ((b : Int) < (K2 : Int)) = false := decide_eq_false (by omega)
                      have f4n : decide (b < K2) = false := decide_eq_false h4
                      cases hm : M a b
                      · rw [hm] at m2
                        go_wp2_with fail
                        go_quiet (fail)
                        go_wp2_with fail
                        go_roundw
                        case rel => exact ⟨b + 1, _, by omega, by go_num, rfl⟩
                        case measure => simp [intOf]; omega
                      · rw [hm] at m2
                        obtain ⟨l1, l2⟩ := HLT.out hm
                        go_wp2_with fail
                        go_quiet (fail)
                        go_wp2_with fail
                        go_roundw
                        case rel => exact ⟨b + 1, _, by omega, by go_num, rfl⟩
                        case measure => simp [intOf]; omega
                  · have f3 : decide ((i : Int) ≤ (b : Int)) = false := decide_eq_false (by omega)
                    have f3n : decide (i ≤ b) = false := decide_eq_false h3
                    cases hm : M a b
                    · rw [hm] at m2
                      go_wp2_with fail
                      go_quiet (fail)
                      go_wp2_with fail
                      go_roundw
                      case rel => exact ⟨b + 1, _, by omega, by go_num, rfl⟩
                      case measure => simp [intOf]; omega
                    · rw [hm] at m2
                      obtain ⟨l1, l2⟩ := HLT.out hm
                      go_wp2_with fail
                      go_quiet (fail)
                      go_wp2_with fail
                      go_roundw
                      case rel => exact ⟨b + 1, _, by omega, by go_num, rfl⟩
                      case measure => simp [intOf]; omega
                · have f2 : decide ((a : Int) < (K2 : Int)) = false := decide_eq_false (by omega)
                  have f2n : decide (a < K2) = false := decide_eq_false h2
                  cases hm : M a b
                  · rw [hm] at m2
                    go_wp2_with fail
                    go_quiet (fail)
                    go_wp2_with fail
                    go_roundw
                    case rel => exact ⟨b + 1, _, by omega, by go_num, rfl⟩
                    case measure => simp [intOf]; omega
                  · rw [hm] at m2
                    obtain ⟨l1, l2⟩ := HLT.out hm
                    go_wp2_with fail
                    go_quiet (fail)
                    go_wp2_with fail
                    go_roundw
                    case rel => exact ⟨b + 1, _, by omega, by go_num, rfl⟩
                    case measure => simp [intOf]; omega
              · have f1 : decide ((i : Int) ≤ (a : Int)) = false := decide_eq_false (by omega)
                have f1n : decide (i ≤ a) = false := decide_eq_false h1
                cases hm : M a b
                · rw [hm] at m2
                  go_wp2_with fail
                  go_quiet (fail)
                  go_wp2_with fail
                  go_roundw
                  case rel => exact ⟨b + 1, _, by omega, by go_num, rfl⟩
                  case measure => simp [intOf]; omega
                · rw [hm] at m2
                  obtain ⟨l1, l2⟩ := HLT.out hm
                  go_wp2_with fail
                  go_quiet (fail)
                  go_wp2_with fail
                  go_roundw
                  case rel => exact ⟨b + 1, _, by omega, by go_num, rfl⟩
                  case measure => simp [intOf]; omega
            · obtain rfl : b = k := by omega
              have hdec : decide ((b : Int) < (b : Int)) = false := decide_eq_false (by omega)
              go_wp2_with fail
              go_roundw
              case rel => exact ⟨a + 1, q2, by omega, by go_num, rfl⟩
              case measure => simp [intOf]; omega
        · obtain rfl : a = k := by omega
          have hdec : decide ((a : Int) < (a : Int)) = false := decide_eq_false (by omega)
          go_wp2_with (go_at_call 18; refine (awake14_w _).mono ?_; rintro e w6 ⟨rfl, hz⟩)
          go_ret
          exact ⟨rfl, bthen (below_drewN q3 q) hz⟩
end Go.Proofs.Ytkhhjihbahdepaa
