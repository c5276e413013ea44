/- The walk of of of package steps; Next, Ends, Zero. -/
import Derived.Test.YtdbbooibkiicnaaSteps5
import Derived.Test.YtdbbooibkiicnaaSteps6
set_option linter.unusedVariables false
set_option linter.unusedSimpArgs false
/-! The walk of of of package steps; Next, Ends, Zero. -/
namespace Go.Proofs.Ytdbbooibkiicnaa
open Go.RowKit
attribute [local go_sem ↓] Go.wp_at_zero Go.wp_at_succ
theorem UB.eq {w : World} {g N : Nat} {f f' : Nat → Int} (h : UB w g N f) (e : ∀ j, j < N → f j = f' j) : UB w g N f' := let ⟨us, h1, h2, h3⟩ := h; ⟨us, h1, h2, fun j hj => by rw [← e j hj]; exact h3 j hj⟩
theorem splan_made {F : Fz} {w : World} (hF : Sat F w) {l : List Nd} {t : Tr} (ht : treeS l = some t) (hr : regS t.root.kind = true) {z : Zf} {gp M : Nat} {ks : List Nat} (hks : ks = stepsL t 0) (hM : ks.length = M) {Al : Option Addr} {N cl : Nat} (hl : NodesF F Al N l) {As : Option Addr} {cs gn gu gz gf : Nat}
    (hP : Blk w gp 133 #[.slice Al N cl, .slice As M cs, .slice (some ⟨gn, 0, none⟩) N N, .slice (some ⟨gu, 0, none⟩) N N, .slice (some ⟨gz, 0, none⟩) N N, .slice (some ⟨gf, 0, none⟩) N N]) {Gs : List Nat}
    (hZ : BB w gz N (zT t z N)) (hS : SB w gf N Gs (sT t z N)) {f : Nat → Int} (hU : UB w gu N f) (hf : ∀ i, i + 1 < N → (posT t i true 0 0).1 = true → f i = (parT t i : Nat)) {Hs : List Nat} (hR : Rd (hx w Hs) 1 As M ((zs ks).map encI)) : SPlan (heapF w) gp l t z M ks Al N cl As cs gu gz gf := by
  have hN : t.size = N := by rw [← tree_len ht]; exact hl.1
  refine ⟨blk_heapF hP rfl, blk_heapF hP rfl, blk_heapF hP rfl, blk_heapF hP rfl, blk_heapF hP rfl, hl.cle hF.cle, ht, hN, regV_of (tree_valid ht) hr, hks, hM, ?_, ?_, ?_, ?_⟩
  · have := hR.heap (sat_hx w Hs)
    rw [show (zs ks).map encI = ks.map fun i => .int .i64 (i : Nat) by simp [zs, encI]] at this
    exact this
  · intro i hi ho
    have h1 := hU.at_ (j := i) (by omega)
    rw [hf i hi ho] at h1
    exact h1
  · intro i hi
    have h1 := hZ.at_ hi
    rw [zT_at hi] at h1
    exact h1
  · intro i hi
    obtain ⟨v, h1, h2⟩ := hS.at_ hi
    exact ⟨v, h1, (h2.heap (sat_hx w Gs)).eq fun b => sT_at hi b⟩
set_option maxRecDepth 100000 in
set_option maxHeartbeats 8000000 in
theorem sof_w {F : Fz} {w : World} (hF : Sat F w) (l : List Nd) (hn : l.length ≤ 1000) (Al : Option Addr) (N cl : Nat) (hl : NodesF F Al N l) {t : Tr} (ht : treeS l = some t) (hr : regS t.root.kind = true) (z : Zf) (vs : Value) (hV : SetV F vs (fun q => z q 0)) :
    Calls Try.prog 65 #[.slice Al N cl, vs] w fun e w' => ∃ gp M ss As cs gu gz gf, e = .returned (.pointer (some ⟨gp, 0, none⟩)) ∧ Below w.heap.size w w' ∧ SPlan (heapF w') gp l t z M ss Al N cl As cs gu gz gf := by
  have hreg : regL l = true := by unfold regL; rw [ht]; exact hr
  have hR := Lib.hid (fun (X : World) (h : Sat F X) => treg_w h l hn Al N cl hl true hreg)
  have hS := Lib.hid (fun (X : World) (h : Sat F X) => steps_wF h l hn Al N cl hl)
  have hTs := Lib.hid (fun (X : World) (h : Sat F X) => tests_wF h l hn Al N cl hl)
  have hNl : N = l.length := hl.1.symm
  have hNt : t.size = N := by rw [hNl]; exact (tree_len ht).symm
  have hN1 : 1 ≤ N := by have := t.size_pos; omega
  have hNb : N ≤ 1000 := by omega
  have hmk := fun (X : World) => mkU N hNb X
  have HNT := Lib.hid hNt
  have hrv := regV_of (tree_valid ht) hr
  have HRV := Lib.hid hrv
  have HRel := Lib.hid (fun (X : World) (h : Sat F X) => srelate_w h l hn Al N cl hl ht hrv)
  have HFil := Lib.hid (fun (X : World) (h : Sat F X) => sfill_w h l hn Al N cl hl ht hrv z)
  have HT := Lib.hid ht
  have HRG := Lib.hid hr
  have HL := Lib.hid hl
  have HKS0 : Hid (kindS l 18 = stepsL t 0) := Lib.hid (kind_steps2 ht hr)
  have HKT0 : Hid (kindS l 19 = testsL t 0) := Lib.hid (kind_tests2 ht hr)
  obtain ⟨gs0, A0, n0, c0, rfl, hv1, hv2, hv3, hv4⟩ := id hV
  have HV := Lib.hid hV
  clear hNl hNt hl hV hv1 hv2 hv3 hv4 hrv ht hr hreg
  go_enter Try.func65, Try.ntmps65
  go_wp2_with (go_at_call 30; refine (hR.out _ hF).mono ?_; rintro e w1 ⟨rfl, hw1⟩)
  have hF1 := hF.below hw1
  obtain ⟨ks, hks⟩ : ∃ ks, kindS l 18 = ks := ⟨_, rfl⟩
  rw [hks] at hS HKS0
  obtain ⟨M, hM⟩ : ∃ M, (zs ks).length = M := ⟨_, rfl⟩
  have HM := Lib.hid hM
  clear hM hks
  go_cut [5] from 13 to 20 (fun v5 wx => ∃ (gp gn : Nat) (As : Option Addr) (cs : Nat), v5 = .pointer (some ⟨gp, 0, none⟩) ∧ Blk wx gp 133 #[.slice Al N cl, .slice As M cs, .slice (some ⟨gn, 0, none⟩) N N, .slice none 0 0, .slice none 0 0, .slice none 0 0] ∧ Blk wx gn 3 (zeros (.int .i64 0) N) ∧ gp ≠ gn ∧ w1.heap.size ≤ gp ∧ w1.heap.size ≤ gn ∧ (∀ a, As = some a → 0 < M → a.block ≠ gn ∧ a.block ≠ gp ∧ a.block < wx.heap.size) ∧ Rd (heapF wx) 1 As M ((zs ks).map encI) ∧ Below w1.heap.size w1 wx)
  case first =>
    clear hR hTs hF HRel HFil
    go_region_with (go_at_call 11; refine (hS.out _ (by first | exact hF1.drew | exact (hF1.alloc _).drew)).mono ?_; rintro e w3 ⟨As, cs, rfl, hcs, hrs, hb3, hfs⟩; rw [HM.out] at hrs; rw [HM.out])
    all_goals
      go_wp2_with fail
      go_meet
      first
        | (have hb3' : Below w1.heap.size w1 w3 := undr hb3
           have hz3 := hb3'.size
           have hlt := rd_lt hrs
           have hbb : Below w3.heap.size w3 ((w3.alloc (.cells (zeros (.int .i64 0) N) 3)).alloc (.cells #[.slice Al N cl, .slice As M cs, .slice (some ⟨w3.heap.size, 0, none⟩) N N, .slice none 0 0, .slice none 0 0, .slice none 0 0] 133)) := (balloc _ _).alloc (by simp) _
           exact ⟨_, _, As, cs, rfl, Blk.new2 _ _ _ _, (Blk.new _ _ _).alloc _, by omega, by omega, by omega, fun a ha h0 => by have := hlt h0 a ha; exact ⟨by omega, by omega, by simp; omega⟩, rd_call hrs hbb, hb3'.trans (hbb.mono hz3)⟩)
        | (have hb3' : Below (w1.alloc (.cells (zeros (.int .i64 0) N) 3)).heap.size (w1.alloc (.cells (zeros (.int .i64 0) N) 3)) w3 := undr hb3
           have hz3 := hb3'.size
           have hz4 : w1.heap.size + 1 ≤ w3.heap.size := by simp at hz3; omega
           have hlt := rd_lt hrs
           have hku := (Blk.new w1 3 (zeros (.int .i64 0) N)).call hb3'
           have hfs' : ∀ a, As = some a → w1.heap.size + 1 ≤ a.block := fun a ha => by have := hfs a ha; rw [show ((w1.alloc (.cells (zeros (.int .i64 0) N) 3)).drew).heap.size = w1.heap.size + 1 by show (w1.alloc _).heap.size = _; simp] at this; exact this
           exact ⟨_, _, As, cs, rfl, Blk.new _ _ _, hku.alloc _, by omega, by omega, by omega, fun a ha h0 => by have := hlt h0 a ha; have := hfs' a ha; exact ⟨by omega, by omega, by simp; omega⟩, rd_call hrs (balloc _ _), ((balloc w1 _).trans (hb3'.mono (by simp))).alloc (by omega) _⟩)
  case rest =>
    obtain ⟨gp, gn, As, cs, rfl, hkp, hku, hne, hgp, hgn, hAs, hRs, hbc⟩ := hcut
    have hF2 : Sat F wc := hF1.below (hbc.mono (Nat.le_refl _))
    have hgl := Blk.lt hkp
    have hul := hku.lt
    have hFp : F gp = none := hF.none_ (by have := hw1.size; omega)
    have hFn : F gn = none := hF.none_ (by have := hw1.size; omega)
    have HGX : Hid (∀ g, g ∈ [gn, gp] → F g = none) := Lib.hid (fun g hg => by simp at hg; rcases hg with rfl | rfl; exact hFn; exact hFp)
    have HGN : Hid (∀ g, g ∈ [gn] → F g = none) := Lib.hid (fun g hg => by simp at hg; subst hg; exact hFn)
    have HRX : Hid (Rd (hx wc [gn, gp]) 1 As M ((zs ks).map encI)) := Lib.hid (rd_hx hRs (fun a ha h0 => by have := hAs a ha h0; simp; omega))
    have HU0 : Hid (UB wc gn N (fun i => (numJ t 0 0 i : Nat))) := Lib.hid (UB.eq (f := fun _ => 0) ⟨List.replicate N (.int .i64 0), hku, by simp, fun j hj => by simp [hj]⟩ (fun j _ => by rw [numJ_zero]; rfl))
    have hMl : ks.length = M := by rw [← HM.out]; simp [zs]
    have HML := Lib.hid hMl
    have hMb : M ≤ 1000 := by
      have h1 := stepsN_le t; have h2 := length_stepsL t 0 HRV.out; have := HNT.out
      rw [← HKS0.out] at h2; omega
    have HKP := Lib.hid hkp
    have HF2 := Lib.hid hF2
    have HBC : Hid (Below w.heap.size w wc) := Lib.hid (bthen hw1 hbc)
    have HF := Lib.hid hF
    have p1 : wc.cell? ⟨gp, 1, none⟩ = some (.slice As M cs) := by rw [hkp.cell]; rfl
    have HFP := Lib.hid hFp
    have HGE : Hid (w.heap.size ≤ gp ∧ w.heap.size ≤ gn) := Lib.hid (by have := hw1.size; omega)
    clear hkp hku hRs hAs hbc hmk hR hS hF1 hF2 hw1 hMl hFp hFn hF hgp hgn
    go_wp2_with fail
    clear p1
    go_loopw [6, 7, 26] (fun _ _ v26 wr => ∃ j : Nat, j ≤ M ∧ v26 = .int .i64 j ∧ UB wr gn N (fun i => (numJ t j 0 i : Nat)) ∧ Wr [gn] wc wr) (fun _ _ v26 _ => M - (intOf v26).toNat)
    case atStart => exact ⟨0, Nat.zero_le _, rfl, HU0.out, Wr.refl _ _⟩
    case round =>
      obtain ⟨j, hj, rfl, hU, hwr⟩ := hrel
      have hkr := hwr.blk HKP.out (by simp; omega)
      have p2 : wr.cell? ⟨gp, 2, none⟩ = some (.slice (some ⟨gn, 0, none⟩) N N) := by rw [hkr.cell]; rfl
      by_cases hlt : j < M
      · have hjI : (j : Int) < (M : Int) := by omega
        obtain ⟨aq, u, eA, hu, hc⟩ := (HRX.out.cle (hwr.more (Hs := [gn, gp]) (by simp)).cle).at1 hlt
        subst eA
        obtain ⟨p, hp⟩ : ∃ p, ks[j]? = some p := ⟨_, List.getElem?_eq_getElem (by have := HML.out; omega)⟩
        have hup : u = .int .i64 (p : Nat) := by
          have := hu
          simp [zs, hp, encI] at this
          exact this.symm
        subst hup
        have hcw := (sat_hx wr _).cell hc
        have hp' : (stepsL t 0)[j]? = some p := HKS0.out ▸ hp
        have hpN : p < N := by have h := (step_facts HRV.out hp').1; have := HNT.out; omega
        have hpI : (p : Int) < (N : Int) := by omega
        have u0 := hU.at_ hpN
        have uf := hU.soft p
        have HU := Lib.hid hU
        have HWR := Lib.hid hwr
        have HP' := Lib.hid hp'
        clear hU hwr hu hc hp hp' hkr
        go_wp2_with fail
        go_roundw
        case rel => exact ⟨j + 1, by omega, by go_num, (HU.out.set hpN _).eq (fun i hi => by rw [numJ_step HRV.out HP'.out i (by have := HNT.out; omega)]; unfold upd; split <;> push_cast <;> rfl), HWR.out.set (by simp) p _⟩
        case measure => simp [intOf]; omega
      · obtain rfl : j = M := by omega
        have hdec : decide ((j : Int) < (j : Int)) = false := decide_eq_false (by omega)
        have HU := Lib.hid hU
        have HWR := Lib.hid hwr
        have HKR := Lib.hid hkr
        have hFr : Sat F wr := hwr.sat HF2.out HGN.out
        have HX4 : Hid (Rd (hx wr [gn, gp]) 1 As j ((zs ks).map encI)) := Lib.hid (HRX.out.cle (hwr.more (Hs := [gn, gp]) (by simp)).cle)
        have hgl4 := hkr.lt
        have hul4 := hU.lt
        clear hU hwr hkr p2
        go_wp2_with fail
        go_at_call 95
        refine (hTs.out _ hFr).mono ?_
        rintro e w3 ⟨Aq, cq, rfl, hcq, hRq, hb3, hfq⟩
        obtain ⟨qs, hqs⟩ : ∃ qs, kindS l 19 = qs := ⟨_, rfl⟩
        rw [hqs] at hRq hcq HKT0 ⊢
        obtain ⟨T, hTn⟩ : ∃ T, (zs qs).length = T := ⟨_, rfl⟩
        have hTq : qs.length = T := by rw [← hTn]; simp [zs]
        rw [hTn] at hRq hcq ⊢
        have HTQ := Lib.hid hTq
        have hTb : T ≤ 1000 := by
          have h1 := length_tests t 0
          have h2 := testsT_le t
          rw [← HKT0.out] at h1
          have := HNT.out
          omega
        clear hTn hTq hqs hTs
        have HU3 : Hid (UB w3 gn N (fun i => (numJ t j 0 i : Nat))) := Lib.hid (HU.out.call hb3)
        have HK3 := Lib.hid (HKR.out.call hb3)
        have HX3 : Hid (Rd (hx w3 [gn, gp]) 1 As j ((zs ks).map encI)) := Lib.hid (HX4.out.cle (Wr.of_below hb3).cle)
        have HW3 : Hid (Wr [gn] wc w3) := Lib.hid (HWR.out.call hb3)
        have HF3 := Lib.hid (hFr.below hb3)
        have HRQ : Hid (Rd (hx w3 [gn, gp]) 1 Aq T ((zs qs).map encI)) := Lib.hid (rd_hx hRq (fun a ha h0 => by have := hfq a ha; simp; omega))
        clear HU HKR HX4 HWR hFr hRq hfq hb3
        go_wp2_with fail
        go_loopw [8, 9, 43] (fun _ _ v43 wr => ∃ k : Nat, k ≤ T ∧ v43 = .int .i64 k ∧ UB wr gn N (fun i => (numJ t j k i : Nat)) ∧ Wr [gn] w3 wr) (fun _ _ v43 _ => T - (intOf v43).toNat)
        case atStart => exact ⟨0, Nat.zero_le _, rfl, HU3.out, Wr.refl _ _⟩
        case round =>
          obtain ⟨k, hk, rfl, hU, hwr⟩ := hrel
          have hkr := hwr.blk HK3.out (by simp; omega)
          have p2 : wr.cell? ⟨gp, 2, none⟩ = some (.slice (some ⟨gn, 0, none⟩) N N) := by rw [hkr.cell]; rfl
          by_cases hlt : k < T
          · have hkI : (k : Int) < (T : Int) := by omega
            obtain ⟨aq, u, eA, hu, hc⟩ := (HRQ.out.cle (hwr.more (Hs := [gn, gp]) (by simp)).cle).at1 hlt
            subst eA
            obtain ⟨p, hp⟩ : ∃ p, qs[k]? = some p := ⟨_, List.getElem?_eq_getElem (by have := HTQ.out; omega)⟩
            have hup : u = .int .i64 (p : Nat) := by
              have := hu
              simp [zs, hp, encI] at this
              exact this.symm
            subst hup
            have hcw := (sat_hx wr _).cell hc
            have hp' : (testsL t 0)[k]? = some p := HKT0.out ▸ hp
            have hpN : p < N := by have h := (test_facts HRV.out hp').1; have := HNT.out; omega
            have hpI : (p : Int) < (N : Int) := by omega
            have u0 := hU.at_ hpN
            have uf := hU.soft p
            have HU := Lib.hid hU
            have HWR := Lib.hid hwr
            have HP' := Lib.hid hp'
            clear hU hwr hu hc hp hp' hkr
            go_wp2_with fail
            go_roundw
            case rel => exact ⟨k + 1, by omega, by go_num, (HU.out.set hpN _).eq (fun i hi => by rw [numJ_test HRV.out HP'.out i (by have := HNT.out; omega)]; unfold upd; split <;> push_cast <;> rfl), HWR.out.set (by simp) p _⟩
            case measure => simp [intOf]; omega
          · obtain rfl : k = T := by omega
            have hdec : decide ((k : Int) < (k : Int)) = false := decide_eq_false (by omega)
            have HUN : Hid (UB wr gn N (fun i => (numO t i : Nat))) := Lib.hid (by
              refine hU.eq fun i hi => ?_
              have h1 := length_stepsL t 0 HRV.out
              rw [← HKS0.out, HML.out] at h1
              have h2 := length_tests t 0
              rw [← HKT0.out, HTQ.out] at h2
              rw [h1, h2, numJ_all HRV.out (by have := HNT.out; omega)])
            have HK5 := Lib.hid hkr
            have hF5 : Sat F wr := hwr.sat HF3.out HGN.out
            have HX5 : Hid (Rd (hx wr [gn, gp]) 1 As j ((zs ks).map encI)) := Lib.hid (HX3.out.cle (hwr.more (Hs := [gn, gp]) (by simp)).cle)
            have HW5 : Hid (Wr [gn, gp] wc wr) := Lib.hid ((HW3.out.trans hwr).more (by simp))
            clear hU hwr hkr p2 HU3 HK3 HX3 HW3 HF3 HRQ
            go_wp2_with fail
            go_at_call 104
            refine (HRel.out _ hF5 gp As j cs gn HK5.out HFP.out).mono ?_
            rintro e w6 ⟨rfl, gu, f, hgu, hK6, hU6, hf6, hW6⟩
            have hF6 : Sat F w6 := hW6.sat hF5 (fun g hg => by simp at hg; subst hg; exact HFP.out)
            have hN6 : UB w6 gn N (fun i => (numO t i : Nat)) := HUN.out.wr hW6 (by simp; omega)
            have HK6 := Lib.hid hK6
            have HU6 := Lib.hid hU6
            have HF6' := Lib.hid hf6
            have HX6 : Hid (Rd (hx w6 [gn, gp]) 1 As j ((zs ks).map encI)) := Lib.hid (HX5.out.cle (hW6.more (Hs := [gn, gp]) (by simp)).cle)
            have HW7 : Hid (Wr [gn, gp] wc w6) := Lib.hid (HW5.out.trans (hW6.more (by simp)))
            have hgup : gu ∉ [gp] := by simp; have := HK5.out.lt; omega
            have HFI := Lib.hid (HFil.out w6 hF6 gp As j cs gn gu hK6 hN6 hne HFP.out _ HV.out)
            clear hK6 hU6 hf6 hW6 hN6 HUN HK5 hF5 HX5 HW5 hF6
            go_wp2_with fail
            go_at_call 105
            refine HFI.out.mono ?_
            rintro e w8 ⟨rfl, gz, gf, hgz, hgf, hzf, hK8, hZ8, hS8, hW8⟩
            have hX8 := HX6.out.cle (hW8.more (Hs := [gn, gp]) (by simp)).cle
            have hWW := HW7.out.trans (hW8.more (by simp))
            have hU8 := HU6.out.wr hW8 hgup
            have hb8 : Below w.heap.size w w8 := HBC.out.trans (hWW.below (B := w.heap.size) (fun g hg => by simp at hg; have := HGE.out; omega) HBC.out.size)
            go_wp2_with fail
            go_ret
            exact ⟨gp, j, ks, As, cs, gu, gz, gf, rfl, hb8, splan_made (HF.out.below hb8) HT.out HRG.out HKS0.out HML.out HL.out hK8 hZ8 hS8 hU8 HF6'.out hX8⟩
set_option maxRecDepth 100000 in
theorem sends_w {F : Fz} {w : World} (hF : Sat F w) (l : List Nd) (hn : l.length ≤ 1000) (Al : Option Addr) (N cl : Nat) (hl : NodesF F Al N l) {t : Tr} (ht : treeS l = some t) (hr : regS t.root.kind = true) (k : Int) (z : Zf) (vs : Value) (hV : SetV F vs (fun q => z q 0)) :
    Calls Try.prog 33 #[.slice Al N cl, .int .i64 k, vs] w fun e w' => e = .returned (.bool ((stateK z t k).2 0)) ∧ Below w.heap.size w w' := by
  have HO := Lib.hid (sof_w hF l hn Al N cl hl ht hr z vs hV)
  have hN : N ≤ 1000 := by have := hl.1; omega
  obtain ⟨O, E, hOE⟩ : ∃ O E, (O, E) = stateK z t k := ⟨_, _, rfl⟩
  rw [← hOE]
  have HOE := Lib.hid hOE
  obtain ⟨gs0, A0, n0, c0, rfl, hv⟩ := hV
  clear hl hn ht hr hOE hF hv
  go_enter Try.func33, Try.ntmps33
  go_wp2_with fail
  go_at_call 65
  refine HO.out.mono ?_
  rintro e w1 ⟨gp, M, ss, As, cs, gu, gz, gf, rfl, hb1, hP⟩
  have HA := Lib.hid (sahead_w (sat_heapF w1) gp l t z M ss Al N cl As cs gu gz gf hP hN k O E HOE.out)
  clear hP HO HOE
  go_wp2_with (go_at_call 66; refine HA.out.mono ?_; rintro e w2 ⟨v, rfl, hb2, hS⟩)
  go_ret
  exact ⟨rfl, bthen hb1 hb2⟩
set_option maxRecDepth 100000 in
theorem szero_w {F : Fz} {w : World} (hF : Sat F w) (l : List Nd) (hn : l.length ≤ 1000) (Al : Option Addr) (N cl : Nat) (hl : NodesF F Al N l) {t : Tr} (ht : treeS l = some t) (hr : regS t.root.kind = true) (z : Zf) (vs : Value) (hV : SetV F vs (fun q => z q 0)) :
    Calls Try.prog 32 #[.slice Al N cl, vs] w fun e w' => e = .returned (.bool ((stateK z t 0).2 0)) ∧ Below w.heap.size w w' := by
  have HO := Lib.hid (sends_w hF l hn Al N cl hl ht hr 0 z vs hV)
  obtain ⟨gs0, A0, n0, c0, rfl, hv⟩ := hV
  clear hl hn ht hr hF hv
  go_enter Try.func32, Try.ntmps32
  go_wp2_with (go_at_call 33; refine HO.out.mono ?_; rintro e w1 ⟨rfl, hb⟩)
  go_ret
  exact ⟨rfl, hb⟩
end Go.Proofs.Ytdbbooibkiicnaa
