/- The walk of the law AtomsPut. -/
import Derived.Test.YtdbbooibkiicnaaGreatAw29
import Derived.Test.YtdbbooibkiicnaaGreatRPaths
import Derived.Test.YtdbbooibkiicnaaGreatBuild
set_option linter.unusedVariables false
set_option linter.unusedSimpArgs false
namespace Go.Proofs.YtdbbooibkiicnaaGreat
open Go.RowKit
/-- One assignment alone. -/
theorem stateK_at (z z' : Zf) (x y q : Nat) (t : Tr) (k : Int) (h : ∀ q, q < testsT t → z q x = z' q y) (hr : regV t) : (stateK z t k).1 q x = (stateK z' t k).1 q y ∧ (stateK z t k).2 x = (stateK z' t k).2 y := by
  have h0 : ∀ q, q < testsT t → z (0 + q) x = z' (0 + q) y := fun q hq => by rw [Nat.zero_add]; exact h q hq
  unfold stateK
  split
  · unfold stateO
    split
    · exact ⟨first_at z z' true x y q t 0 0 h0, zero_at z z' true x y t 0 h0⟩
    · split
      · exact ahead_at z z' x y q t 0 0 _ h0 hr
      · exact ⟨rfl, rfl⟩
  · exact ⟨rfl, rfl⟩
def greatS (gs : List (List (BitVec 64))) : Bool := decide (100 < gs.length) || gs.any fun g => decide (100 < g.length)
theorem greatS_no {gs : List (List (BitVec 64))} (h : greatS gs = false) : gs.length ≤ 100 ∧ ∀ g ∈ gs, g.length ≤ 100 := by
  unfold greatS at h
  rw [Bool.or_eq_false_iff, decide_eq_false_iff_not, List.any_eq_false] at h
  exact ⟨by omega, fun g hg => by have := h.2 g hg; simp at this; omega⟩
set_option maxRecDepth 100000 in
theorem great_w {F : Fz} {w : World} (hF : Sat F w) (gs : List (List (BitVec 64))) (A : Option Addr) (n c : Nat) (hr : RdR F A n gs) (R : Int) (hR : (if greatS gs = true then (1 : Int) else 0) = R) :
    Calls Tryz.prog 13 #[.slice A n c] w fun e w' => e = .returned (.int .i64 R) ∧ w = w' := by
  obtain ⟨hn, hrow⟩ := hr
  by_cases hbig : 100 < n
  · have hI : (100 : Int) < (n : Int) := by omega
    have h1 : R = 1 := by rw [← hR, if_pos]; unfold greatS; rw [← hn, decide_eq_true hbig]; rfl
    subst h1
    clear hR hrow hn
    go_enter Tryz.func13, Tryz.ntmps13
    go_wp2_with fail
    go_ret
    exact ⟨rfl, rfl⟩
  have hI : decide ((100 : Int) < (n : Int)) = false := decide_eq_false (by omega)
  have hI2 : decide (100 < n) = false := decide_eq_false hbig
  have HN := Lib.hid hn
  have HR := Lib.hid hR
  have hnb : n ≤ 100 := by omega
  clear hn hR hbig
  go_enter Tryz.func13, Tryz.ntmps13
  go_wp2_with fail
  go_loop [4, 10] (fun _ v10 => ∃ j : Nat, j ≤ n ∧ v10 = .int .i64 j ∧ ∀ i, i < j → (gs.getD i []).length ≤ 100) (fun _ v10 => n - (intOf v10).toNat)
  case atStart => exact ⟨0, Nat.zero_le _, rfl, fun i h => absurd h (by omega)⟩
  case round =>
    obtain ⟨j, hj, rfl, hdone⟩ := hrel
    by_cases hlt : j < n
    · have hjI : (j : Int) < (n : Int) := by omega
      obtain ⟨ad, Ai, ni, ci, rfl, hc, hri⟩ := hrow j (by have := HN.out; omega)
      have hcw := hF.cell hc
      have hni : ni = (gs.getD j []).length := by have := hri.1; rw [List.length_map] at this; omega
      have HNI := Lib.hid hni
      have HDN := Lib.hid hdone
      clear hni hri hc hdone hrow
      by_cases hb : 100 < ni
      · have hbI : (100 : Int) < (ni : Int) := by omega
        have h1 : R = 1 := by
          rw [← HR.out, if_pos]
          unfold greatS
          rw [Bool.or_eq_true]
          right
          rw [List.any_eq_true]
          have hjl : j < gs.length := by have := HN.out; omega
          refine ⟨gs[j], List.getElem_mem hjl, decide_eq_true ?_⟩
          have := HNI.out
          rw [List.getD, List.getElem?_eq_getElem hjl] at this
          simp only [Option.getD_some] at this
          omega
        subst h1
        go_wp2_with fail
        go_ret
        exact ⟨rfl, rfl⟩
      · have hbI : decide ((100 : Int) < (ni : Int)) = false := decide_eq_false (by omega)
        have hbI2 : decide (100 < ni) = false := decide_eq_false hb
        have HB : Hid (ni ≤ 100) := Lib.hid (by omega)
        clear hb
        go_wp2_with fail
        go_round
        case rel => exact ⟨j + 1, by omega, by go_num, fun i hi => by
          rcases Nat.lt_or_ge i j with h | h
          · exact HDN.out i h
          · obtain rfl : i = j := by omega
            rw [← HNI.out]; exact HB.out⟩
        case measure => simp [intOf]; omega
    · obtain rfl : j = n := by omega
      have hdec : decide ((j : Int) < (j : Int)) = false := decide_eq_false (by omega)
      have h0 : R = 0 := by
        rw [← HR.out, if_neg]
        unfold greatS
        rw [Bool.or_eq_true]
        rintro (h | h)
        · rw [decide_eq_true_iff] at h; have := HN.out; omega
        · rw [List.any_eq_true] at h
          obtain ⟨g, hg, hl⟩ := h
          rw [decide_eq_true_iff] at hl
          obtain ⟨i, hi, e⟩ := List.getElem_of_mem hg
          have := hdone i (by have := HN.out; omega)
          rw [List.getD, List.getElem?_eq_getElem hi] at this
          simp only [Option.getD_some, e] at this
          omega
      subst h0
      go_wp2_with fail
      go_ret
      exact ⟨rfl, rfl⟩
theorem rdrCle {F F' : Fz} {A : Option Addr} {n : Nat} {gs : List (List (BitVec 64))} (h : RdR F A n gs) (hle : CLe F F') : RdR F' A n gs :=
  ⟨h.1, fun i hi => let ⟨ad, Ai, ni, ci, e, hc, hr⟩ := h.2 i hi; ⟨ad, Ai, ni, ci, e, hle _ _ hc, hr.cle hle⟩⟩
theorem tsF_of {m : Nat} {F : Fz} {A : Option Addr} {n : Nat} {gs : List (List (BitVec 64))} (h : RdR F A n gs) (hl : ∀ g ∈ gs, g.length ≤ 100) : TsF m F A n (fun q x => bitAt (gs.getD q []) x) := by
  obtain ⟨rfl, hr⟩ := h
  refine ⟨fun q hq => ?_, fun q hq x => ?_⟩
  · obtain ⟨ad, Ai, ni, ci, e, hc, hri⟩ := hr q hq
    refine ⟨ad, _, e, hc, Ai, ni, ci, gs.getD q [], rfl, hri, ?_, fun x _ => rfl⟩
    rw [List.getD, List.getElem?_eq_getElem hq]
    exact Nat.le_trans (hl _ (List.getElem_mem hq)) (by omega)
  · show bitAt (gs.getD q []) x = false
    rw [List.getD, List.getElem?_eq_none hq]
    exact bit_nil x
theorem tsF_rw {m : Nat} {w : World} {A : Option Addr} {n c : Nat} {ps : List (Nat → Bool)} (h : Rw m w (.slice A n c) ps) : TsF m (heapF w) A n (fun q => ps.getD q fun _ => false) ∧ ps.length = n := by
  have h' := h
  obtain ⟨A', n', c', gs, e, ⟨hn, hr⟩, hl, hlen, hp⟩ := h'
  injection e with e1 e2 e3
  subst e1 e2 e3
  refine ⟨⟨fun q hq => ?_, fun q hq x => ?_⟩, by omega⟩
  · obtain ⟨ad, Ai, ni, ci, e, hc, hri⟩ := hr q (by omega)
    refine ⟨ad, _, e, hc, Ai, ni, ci, gs.getD q [], rfl, hri, ?_, fun x hx => hp q x hx⟩
    rw [List.getD, List.getElem?_eq_getElem (by omega)]
    exact hl _ (List.getElem_mem _)
  · show ps.getD q (fun _ => false) x = false
    rw [List.getD, List.getElem?_eq_none (by omega)]
    rfl
theorem rw_of {m : Nat} {w : World} {A : Option Addr} {n c : Nat} {gs : List (List (BitVec 64))} (h : RdR (heapF w) A n gs) (hl : ∀ g ∈ gs, g.length ≤ 100) : Rw m w (.slice A n c) (gs.map fun g x => bitAt g x) := by
  refine ⟨A, n, c, gs, rfl, h, fun g hg => Nat.le_trans (hl g hg) (by omega), by simp, fun i x _ => ?_⟩
  simp only [List.getD_eq_getElem?_getD, List.getElem?_map]
  cases gs[i]? with
  | none => exact bit_nil x
  | some g => rfl
def putQ (m : Nat) (ts gs : List (List (BitVec 64))) (q x : Nat) : Bool := bitAt (ts.getD q []) (yP m (gs.map fun g x => bitAt g x) x)
theorem putQ_eq (m : Nat) (ts gs : List (List (BitVec 64))) (n : Nat) (hn : n = ts.length) (q x : Nat) : (fun q x => bitAt (ts.getD q []) x) q (yP m (gs.map fun g x => bitAt g x) x) = ((listP (putQ m ts gs) n).getD q fun _ => false) x := by
  by_cases h : q < n
  · rw [getD_listP _ _ _ h]; rfl
  · simp only [List.getD_eq_getElem?_getD, List.getElem?_eq_none (l := listP (putQ m ts gs) n) (i := q) (by rw [length_listP]; omega), List.getElem?_eq_none (l := ts) (i := q) (by omega)]
    exact bit_nil _
set_option maxRecDepth 100000 in
theorem atomsPut_big {F : Fz} {w : World} (hF : Sat F w) (B : Option Addr) (m d nn at_ : Nat) (ts gs : List (List (BitVec 64))) (A A' : Option Addr) (n c n' c' : Nat) (hts : RdR F A n ts) (hgs : RdR F A' n' gs) (hb : greatS ts = true ∨ greatS gs = true) :
    Calls Tryz.prog 4 #[.slice B m d, .int .u8 nn, .int .u8 at_, .slice A n c, .slice A' n' c'] w fun e w' => e = .returned (.bool true) ∧ Below w.heap.size w w' := by
  cases h1 : greatS ts
  · have h2 : greatS gs = true := hb.resolve_left (by rw [h1]; simp)
    have H1 := Lib.hid (great_w hF ts A n c hts 0 (by rw [h1]; rfl))
    have H2 := Lib.hid (great_w hF gs A' n' c' hgs 1 (by rw [h2]; rfl))
    clear hb h1 h2 hts hgs
    go_enter Tryz.func4, Tryz.ntmps4
    go_wp2_with fail
    refine H1.out.mono ?_
    rintro e w' ⟨rfl, rfl⟩
    go_wp2_with fail
    refine H2.out.mono ?_
    rintro e w' ⟨rfl, rfl⟩
    go_wp2_with (go_at_call 7; refine (awake29_w _).mono ?_; rintro e w1 ⟨rfl, hw1⟩)
    go_ret
    exact ⟨rfl, hw1⟩
  · have H1 := Lib.hid (great_w hF ts A n c hts 1 (by rw [h1]; rfl))
    clear hb h1 hts hgs
    go_enter Tryz.func4, Tryz.ntmps4
    go_wp2_with fail
    refine H1.out.mono ?_
    rintro e w' ⟨rfl, rfl⟩
    go_wp2_with (go_at_call 7; refine (awake29_w _).mono ?_; rintro e w1 ⟨rfl, hw1⟩)
    go_ret
    exact ⟨rfl, hw1⟩
set_option maxRecDepth 100000 in
set_option maxHeartbeats 4000000 in
theorem atomsPut_c {F : Fz} {w : World} (hF : Sat F w) (ns : List Nat) (hns : ∀ k ∈ ns, k < 65536) (B : Option Addr) (m d : Nat) (hr : Rd F 1 B m (ns.map encW)) (nn at_ : Nat) (hnn : nn < 256) (hat : at_ < 256) (ts gs : List (List (BitVec 64))) (A A' : Option Addr) (n c n' c' : Nat) (hts : RdR F A n ts) (hgs : RdR F A' n' gs) (h1 : greatS ts = false) (h2 : greatS gs = false) :
    Calls Tryz.prog 4 #[.slice B m d, .int .u8 nn, .int .u8 at_, .slice A n c, .slice A' n' c'] w fun e w' => e = .returned (.bool true) ∧ Below w.heap.size w w' := by
  have H1 := Lib.hid (great_w hF ts A n c hts 0 (by rw [h1]; rfl))
  have H2 := Lib.hid (great_w hF gs A' n' c' hgs 0 (by rw [h2]; rfl))
  obtain ⟨htn, htl⟩ := greatS_no h1
  obtain ⟨hgn, hgl⟩ := greatS_no h2
  have hnl : n ≤ 100 := by have := hts.1; omega
  have hRg := Lib.hid (reg5_w hF ns hns B m d hr false (regT false ns) rfl)
  have hrn0 := (make_size false ns).2
  rw [← Tr.length_flat (regT false ns) 0] at hrn0
  obtain ⟨t, ht, hrt⟩ : ∃ t', treeS ((regT false ns).flat 0) = some t' ∧ regS t'.root.kind = true := by
    obtain ⟨a1, a2, _⟩ := okR_iff.1 (make_ok false ns hns).2
    obtain ⟨t', e1, _, e2⟩ := tree_of_valid a1
    exact ⟨t', e1, by rw [e2]; exact a2⟩
  obtain ⟨r, hre⟩ : ∃ r, (regT false ns).flat 0 = r := ⟨_, rfl⟩
  rw [hre] at hRg hrn0 ht
  clear hre hr hns h1 h2
  have hrn : r.length ≤ 1000 := by omega
  have hv := regV_of (tree_valid ht) hrt
  have hk18 : (kindS r 18).length = stepsN t := by rw [kind_steps2 ht hrt, length_stepsL t 0 hv]
  obtain ⟨M, hM⟩ : ∃ M, stepsN t = M := ⟨_, rfl⟩
  have hMb : M ≤ 1000 := by have h3 := stepsN_le t; have h4 := tree_len ht; omega
  have HS18 : Hid ((zs (kindS r 18)).length = M) := Lib.hid (by rw [length_zs, hk18, hM])
  obtain ⟨mm, hmm⟩ : ∃ mm, nn % 6 = mm := ⟨_, rfl⟩
  have hm5 : mm ≤ 5 := by omega
  have hm : mm ≤ 10 := by omega
  have hmI : (nn : Int) % 6 = (mm : Int) := by rw [← hmm]; rfl
  obtain ⟨kk, hkk⟩ : ∃ kk, at_ % (M + 1) = kk := ⟨_, rfl⟩
  have hkI : (at_ : Int) % ((M : Int) + 1) = (kk : Int) := by rw [← hkk]; push_cast; rfl
  have HT := Lib.hid ht
  have HRT := Lib.hid hrt
  have HV := Lib.hid hv
  have HM := Lib.hid hM
  have HTS := Lib.hid hts
  have HGS := Lib.hid hgs
  have HTL := Lib.hid htl
  have HGL := Lib.hid hgl
  have HTN : Hid (n = ts.length) := Lib.hid hts.1
  clear hmm hkk hk18 ht hrt hv hM htl hgl hgn htn hgs hts
  go_enter Tryz.func4, Tryz.ntmps4
  go_wp2_with fail
  refine H1.out.mono ?_
  rintro e w' ⟨rfl, rfl⟩
  go_wp2_with fail
  refine H2.out.mono ?_
  rintro e w' ⟨rfl, rfl⟩
  go_wp2_with fail
  go_at_call 14
  refine hRg.out.mono ?_
  rintro e W ⟨Ar, cr, F1, rfl, hcr, hrN, hbW, hF1, hle1⟩
  have HSt := Lib.hid (rsteps_w hF1 r hrn Ar r.length cr hrN)
  have HRN := Lib.hid hrN
  clear hrN hle1
  go_wp2_with fail
  go_at_call 15
  refine HSt.out.mono ?_
  rintro e w1 ⟨A1, c1, rfl, _, _, hw1⟩
  rw [HS18.out]
  have hb1 := bthen hbW hw1
  go_wp2_with fail
  rw [hkI]
  clear hmI hkI
  obtain ⟨wL, hwL⟩ : ∃ wL, wL = w1 := ⟨_, rfl⟩
  subst hwL
  have hFL : Sat F wL := hF.below hb1
  go_loopw [14, 16, 43] (fun v14 _ v43 wr => ∃ j : Nat, j ≤ n ∧ v43 = .int .i64 j ∧ Below wL.heap.size wL wr ∧ ∃ F' : Fz, Sat F' wr ∧ RowsB mm F' wr wL.heap.size v14 (listP (putQ mm ts gs) j)) (fun _ _ v43 _ => n - (intOf v43).toNat)
  case atStart => exact ⟨0, Nat.zero_le _, rfl, Below.refl _ _, heapF wL, sat_heapF wL, RowsB.nil _ _ _ _⟩
  case round =>
    obtain ⟨j, hj, rfl, hbr, F', hF', hO⟩ := hrel
    have hFr := hFL.below hbr
    by_cases hlt : j < n
    · have hjI : (j : Int) < (n : Int) := by omega
      obtain ⟨ad, Ai, ni, ci, eA, hc, hri⟩ := HTS.out.2 j (by have := HTN.out; omega)
      subst eA
      have hcw := hFr.cell hc
      have hWj : Wd mm wr (.slice Ai ni ci) (bitAt (ts.getD j [])) := ⟨Ai, ni, ci, ts.getD j [], rfl, hri.heap hFr, by
        have hjl : j < ts.length := by have := HTN.out; omega
        rw [List.getD, List.getElem?_eq_getElem hjl]; exact Nat.le_trans (HTL.out _ (List.getElem_mem hjl)) (by omega), fun x _ => rfl⟩
      have HQ := Lib.hid (q_put hm hWj (rw_of (c := c') (rdrCle HGS.out hFr.cle) HGL.out))
      have ho1000 : (listP (putQ mm ts gs) j).length ≤ 1000 := by rw [length_listP]; omega
      clear hc hri hWj
      go_wp2_with fail
      refine HQ.out.mono ?_
      rintro e w2 ⟨A2, n2, c2, g2, o2, rfl, hb2, hg2, hz2, hq2⟩
      have hF2 := (hF'.below hb2).put hz2
      have hO2 := hO.fresh (o := o2) hF' hb2 hg2
      have hx2 := hq2 F'
      have hbr2 := bthen hbr hb2
      have hB2 : wL.heap.size ≤ (w2.alloc (.cells #[.slice A2 n2 c2] 33)).heap.size := by have := hbr2.size; simp; omega
      have hq : WdF mm (F'.put g2 o2) (.slice A2 n2 c2) (putQ mm ts gs j) := hx2.same fun x _ => rfl
      clear hO hF' hbr hz2 hq2 hb2 hg2 hx2 HQ hFr hcw
      generalize F'.put g2 o2 = F2 at *
      go_wp2_with (at_builtin; go_loud (refine wpList_pushR rfl (.tmp 47) (.tmp 52) rfl (hO2.call (balloc _ _)) hq (hF2.alloc _) (by rfl) w2.heap.size 1 (by rfl) (Blk.new _ _ _) ho1000 hB2 ?_); intro vo w3 hO3 hF3 hb3 hg3 hat3)
      have hbr3 := (bthen hbr2 (balloc w2 (.cells #[.slice A2 n2 c2] 33))).trans hb3
      go_roundw
      case rel => exact ⟨j + 1, by omega, by go_num, hbr3, F2, hF3, by rw [listP_succ]; exact hO3⟩
      case measure => simp [intOf]; omega
    · obtain rfl : j = n := by omega
      have hdec : decide ((j : Int) < (j : Int)) = false := decide_eq_false (by omega)
      have hput := hO.done hF'
      obtain ⟨Ap, np, cp, _, ep, _⟩ := id hput
      subst ep
      obtain ⟨hTP, hnp⟩ := tsF_rw hput
      rw [length_listP] at hnp
      subst hnp
      have hF1r : Sat F1 wr := (hF1.below (by assumption : Below W.heap.size W wL)).below hbr
      have hGr := sat_heapF wr
      have hz1 : TsF mm (heapF wr) A j (fun q x => bitAt (ts.getD q []) x) := tsF_of (rdrCle HTS.out hFr.cle) HTL.out
      have hln := HRN.out.cle hF1r.cle
      obtain ⟨z, hz⟩ : ∃ z : Zf, (fun q x => bitAt (ts.getD q []) x) = z := ⟨_, rfl⟩
      obtain ⟨z', hz'⟩ : ∃ z' : Zf, (fun q => (listP (putQ mm ts gs) j).getD q fun _ => false) = z' := ⟨_, rfl⟩
      obtain ⟨Y, hY⟩ : ∃ Y : Nat → Nat, yP mm (gs.map fun g x => bitAt g x) = Y := ⟨_, rfl⟩
      rw [hz] at hz1
      rw [hz'] at hTP
      have hzz : ∀ q x, z q (Y x) = z' q x := fun q x => by rw [← hz, ← hz', ← hY]; exact putQ_eq mm ts gs j HTN.out q x
      have HEQ := Lib.hid (fun (k : Int) (q x : Nat) => stateK_at z z' (Y x) x q t k (fun q _ => hzz q x) HV.out)
      have HN1 := Lib.hid (fun (X : World) (h : Sat (heapF wr) X) => anext_w h mm hm r hrn Ar r.length cr hln HT.out HRT.out kk A j c (by omega) z hz1)
      have HN2 := Lib.hid (fun (X : World) (h : Sat (heapF wr) X) => anext_w h mm hm r hrn Ar r.length cr hln HT.out HRT.out kk Ap j cp (by omega) z' hTP)
      have HE1 := Lib.hid (fun (X : World) (h : Sat (heapF wr) X) => aends_w h mm hm r hrn Ar r.length cr hln HT.out HRT.out kk A j c (by omega) z hz1)
      have HE2 := Lib.hid (fun (X : World) (h : Sat (heapF wr) X) => aends_w h mm hm r hrn Ar r.length cr hln HT.out HRT.out kk Ap j cp (by omega) z' hTP)
      have HZ1 := Lib.hid (fun (X : World) (h : Sat (heapF wr) X) => azero_w h mm hm r hrn Ar r.length cr hln HT.out HRT.out A j c (by omega) z hz1)
      have HZ2 := Lib.hid (fun (X : World) (h : Sat (heapF wr) X) => azero_w h mm hm r hrn Ar r.length cr hln HT.out HRT.out Ap j cp (by omega) z' hTP)
      rw [HM.out] at HN1 HN2
      have HRw := Lib.hid (fun (X : World) (h : Sat F X) => rw_of (m := mm) (w := X) (c := c') (rdrCle HGS.out h.cle) HGL.out)
      have HYY := Lib.hid hY
      clear hz hz' hY hzz hz1 hTP hln hput hO hF' HTS HTL HGS HGL HTN
      go_wp2_with fail
      refine (HN1.out _ hGr).mono ?_
      rintro e w2 ⟨g1, rfl, hg1, hb2, hZa⟩
      have hG2 := hGr.below hb2
      go_wp2_with fail
      refine (HN2.out _ hG2).mono ?_
      rintro e w3 ⟨g2, rfl, hg2, hb3, hZb⟩
      have hG3 := hG2.below hb3
      have hZa3 := hZa.call hb3
      clear hZa
      go_wp2_with fail
      refine (HZ1.out _ hG3).mono ?_
      rintro e w4 ⟨v4, rfl, hb4, hE4⟩
      have hG4 := hG3.below hb4
      have hb24 := bthen (bthen hb2 hb3) hb4
      have HP4 := Lib.hid (w_put hm hE4.wd (HRw.out w4 (hFr.below hb24)))
      obtain ⟨_, A4, c4, rfl, _⟩ := id hE4
      clear hE4
      go_wp2_with fail
      refine HP4.out.mono ?_
      rintro e w5 ⟨v5, rfl, hb5, hE5⟩
      have hG5 := hG4.below hb5
      go_wp2_with fail
      refine (HZ2.out _ hG5).mono ?_
      rintro e w6 ⟨v6, rfl, hb6, hE6⟩
      have hG6 := hG5.below hb6
      have HS6 := Lib.hid (w_sameT hm (hE5.below hb6) hE6.wd (fun x _ => by rw [HYY.out]; exact (HEQ.out 0 0 x).2))
      obtain ⟨A5, n5, c5, f5, rfl, _⟩ := id hE5
      obtain ⟨_, A6, c6, rfl, _⟩ := id hE6
      clear hE5 hE6
      go_wp2_with fail
      refine HS6.out.mono ?_
      rintro e w7 ⟨rfl, hb7⟩
      have hG7 := hG6.below hb7
      have hb37 := bthen (bthen (bthen hb4 hb5) hb6) hb7
      go_wp2_with fail
      refine (HE1.out _ hG7).mono ?_
      rintro e w8 ⟨v8, rfl, hb8, hE8⟩
      have hG8 := hG7.below hb8
      have hb28 := bthen (bthen (bthen hb2 hb3) hb37) hb8
      have HP8 := Lib.hid (w_put hm hE8.wd (HRw.out w8 (hFr.below hb28)))
      obtain ⟨_, A8, c8, rfl, _⟩ := id hE8
      clear hE8
      go_wp2_with fail
      refine HP8.out.mono ?_
      rintro e w9 ⟨v9, rfl, hb9, hE9⟩
      have hG9 := hG8.below hb9
      go_wp2_with fail
      refine (HE2.out _ hG9).mono ?_
      rintro e w10 ⟨v10, rfl, hb10, hE10⟩
      have HS10 := Lib.hid (w_sameT hm (hE9.below hb10) hE10.wd (fun x _ => by rw [HYY.out]; exact (HEQ.out kk 0 x).2))
      obtain ⟨A9, n9, c9, f9, rfl, _⟩ := id hE9
      obtain ⟨_, A10, c10, rfl, _⟩ := id hE10
      clear hE9 hE10
      go_wp2_with fail
      refine HS10.out.mono ?_
      rintro e w11 ⟨rfl, hb11⟩
      have hb311 := bthen (bthen (bthen (bthen hb37 hb8) hb9) hb10) hb11
      have hbT := bthen (bthen (bthen (bthen hb1 hbr) hb2) hb3) hb311
      have HZA := Lib.hid (hZa3.call hb311)
      have HZB := Lib.hid (hZb.call hb311)
      have hF11 := hF.below hbT
      clear hZa3 hZb HN1 HN2 HE1 HE2 HZ1 HZ2 HP4 HS6 HP8 HS10 hG2 hG3 hG4 hG5 hG6 hG7 hG8 hG9 hGr
      go_wp2_with fail
      go_loopw [19, 106] (fun _ v106 wr => ∃ q : Nat, q ≤ M ∧ v106 = .int .i64 q ∧ Below w11.heap.size w11 wr) (fun _ v106 _ => M - (intOf v106).toNat)
      case atStart => exact ⟨0, Nat.zero_le _, rfl, Below.refl _ _⟩
      case round =>
        obtain ⟨q, hq, rfl, hbq⟩ := hrel
        by_cases hql : q < M
        · have hqI : (q : Int) < (M : Int) := by omega
          have hza := HZA.out.call hbq
          have hzb := HZB.out.call hbq
          obtain ⟨va, ha, hva⟩ := hza.at_ hql
          obtain ⟨vb, hb', hvb⟩ := hzb.at_ hql
          rw [heap_hx] at hva hvb
          have hga := hza.lt
          have hgb := hzb.lt
          have hFq := hF11.below hbq
          have HPQ := Lib.hid (fun (X : World) (h : Below wr.heap.size wr X) => w_put hm (hva.below h) (HRw.out X (hFq.below h)))
          have HSQ := Lib.hid (fun (X Z : World) (v : Value) (h : Below wr.heap.size wr X) (hZ : Below X.heap.size X Z) (hv : Wd mm X v fun x => (stateK z t kk).1 q (yP mm (gs.map fun g x => bitAt g x) x)) => w_sameT hm (hv.below hZ) (hvb.below (bthen h hZ)) (fun x _ => by rw [HYY.out]; exact (HEQ.out kk q x).1))
          obtain ⟨Aa, na, ca, fa, rfl, _⟩ := id hva
          obtain ⟨Ab, nb, cb, fb, rfl, _⟩ := id hvb
          clear hza hzb hva hvb
          go_wp2_with fail
          go_region_held3 (fun w' => w'.cell? ⟨g1, q, none⟩ = some (.slice Aa na ca) ∧ w'.cell? ⟨g2, q, none⟩ = some (.slice Ab nb cb)) (go_keep)
            (first
              | (go_at_call 18; refine (HSQ.out w12 _ _ hc12 (by first | exact Below.refl _ _ | exact below_drewN (Below.refl _ _) _) HE12.out).mono ?_; rintro e w14 ⟨rfl, hb14⟩; have hc14 : Below w12.heap.size w12 w14 := (by first | exact hb14 | exact undr hb14); have s0 := (hc14.cell (p := ⟨g1, q, none⟩) (Nat.lt_of_lt_of_le hga hc12.size)).trans r0; have s1 := (hc14.cell (p := ⟨g2, q, none⟩) (Nat.lt_of_lt_of_le hgb hc12.size)).trans r1)
              | (go_at_call 16; refine (HPQ.out _ (by first | exact Below.refl _ _ | exact below_drewN (Below.refl _ _) _)).mono ?_; rintro e w12 ⟨v12, rfl, hb12, hE12⟩; have hc12 : Below wr.heap.size wr w12 := (by first | exact hb12 | exact undr hb12); have r0 := (hc12.cell (p := ⟨g1, q, none⟩) hga).trans ha; have r1 := (hc12.cell (p := ⟨g2, q, none⟩) hgb).trans hb'; have HE12 := Lib.hid hE12; obtain ⟨A12, n12, c12, f12, e12, hh⟩ := id hE12; subst e12; clear hh hE12))
          all_goals
            go_wp2_with fail
            go_roundw
            case rel => exact ⟨q + 1, by omega, by go_num, bthen (bthen hbq hc12) hc14⟩
            case measure => simp [intOf]; omega
        · obtain rfl : q = M := by omega
          have hdec : decide ((q : Int) < (q : Int)) = false := decide_eq_false (by omega)
          go_wp2_with (go_at_call 7; refine (awake29_w _).mono ?_; rintro e w13 ⟨rfl, hw13⟩)
          go_ret
          exact ⟨rfl, bthen (bthen hbT hbq) hw13⟩
end Go.Proofs.YtdbbooibkiicnaaGreat
