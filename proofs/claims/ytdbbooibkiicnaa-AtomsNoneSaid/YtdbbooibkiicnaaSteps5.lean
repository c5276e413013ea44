/- The walk of fill of package steps. -/
import Derived.Test.YtdbbooibkiicnaaSteps4
import Derived.Test.YtdbbooibkiicnaaPlanO
import Derived.BigRegion
set_option linter.unusedVariables false
set_option linter.unusedSimpArgs false
/-! The walk of fill of package steps. -/
namespace Go.Proofs.Ytdbbooibkiicnaa
open Go.RowKit
attribute [local go_sem ↓] Go.wp_at_zero Go.wp_at_succ
theorem wr_old {Gs Hs : List Nat} {w w1 w2 : World} (h : Wr Gs w w1) (k : Wr Hs w1 w2) (hn : ∀ g, g ∈ Hs → w.heap.size ≤ g) : Wr Gs w w2 :=
  ⟨k.os.trans h.os, k.tape.trans h.tape, k.output.trans h.output, Nat.le_trans h.size k.size, fun b hb hg => (k.block b (Nat.lt_of_lt_of_le hb h.size) (fun e => by have := hn b e; omega)).trans (h.block b hb hg)⟩
set_option maxRecDepth 100000 in
set_option maxHeartbeats 16000000 in
theorem sfill_w {F : Fz} {w : World} (hF : Sat F w) (l : List Nd) (hn : l.length ≤ 1000) (Al : Option Addr) (N cl : Nat) (hl : NodesF F Al N l) {t : Tr} (ht : treeS l = some t) (hv : regV t) (z : Zf) (gp : Nat) (As : Option Addr) (M cs gn gu : Nat)
    (hP : Blk w gp 133 #[.slice Al N cl, .slice As M cs, .slice (some ⟨gn, 0, none⟩) N N, .slice (some ⟨gu, 0, none⟩) N N, .slice none 0 0, .slice none 0 0]) (hU : UB w gn N (fun i => (numO t i : Nat))) (hne : gp ≠ gn) (hFp : F gp = none) (vs : Value) (hV : SetV F vs (fun q => z q 0)) :
    Calls Try.prog 105 #[.pointer (some ⟨gp, 0, none⟩), vs] w fun e w' => e = .returned (.tuple #[]) ∧ ∃ gz gf, w.heap.size ≤ gz ∧ w.heap.size ≤ gf ∧ gz ≠ gf ∧
      Blk w' gp 133 #[.slice Al N cl, .slice As M cs, .slice (some ⟨gn, 0, none⟩) N N, .slice (some ⟨gu, 0, none⟩) N N, .slice (some ⟨gz, 0, none⟩) N N, .slice (some ⟨gf, 0, none⟩) N N] ∧ BB w' gz N (zT t z N) ∧ SB w' gf N [gz, gf] (sT t z N) ∧ Wr [gp] w w' := by
  have hNl : N = l.length := hl.1.symm
  have hNt : N = t.size := by rw [hNl]; exact tree_len ht
  have hN1 : 1 ≤ N := by have := t.size_pos; omega
  have hNb : N ≤ 1000 := by omega
  have hmk1 := fun (X : World) => mkB N hNb X
  have hmk2 := fun (X : World) => makeR N (by omega) X
  have HNT := Lib.hid hNt
  have HVA := Lib.hid (tree_valid ht)
  have HT := Lib.hid ht
  have HL := Lib.hid hl
  have HRV := Lib.hid hv
  obtain ⟨fs, Av, nv, cv, rfl, hv1, hv2, hv3, hv4⟩ := hV
  have HVR := Lib.hid hv3
  have HVB := Lib.hid hv4
  have hgpl := hP.lt
  have hgnl := hU.lt
  clear hNl hNt hl ht hv hv3 hv4
  go_enter Try.func105, Try.ntmps105
  go_wp2_with fail
  go_cut [10] from 11 to 27 (fun _ wx => ∃ gz gf : Nat, w.heap.size ≤ gz ∧ w.heap.size ≤ gf ∧ gz ≠ gf ∧ Blk wx gp 133 #[.slice Al N cl, .slice As M cs, .slice (some ⟨gn, 0, none⟩) N N, .slice (some ⟨gu, 0, none⟩) N N, .slice (some ⟨gz, 0, none⟩) N N, .slice (some ⟨gf, 0, none⟩) N N] ∧ BB wx gz N (fun _ => false) ∧ SB wx gf N [gz, gf] (fun _ _ => false) ∧ Wr [gp] w wx)
  case first =>
    have HKP := Lib.hid hP
    obtain ⟨f0, f1⟩ : w.frozen? ⟨gp, 4, none⟩ = false ∧ w.frozen? ⟨gp, 5, none⟩ = false := ⟨hP.frozen 4, hP.frozen 5⟩
    have d0 : w.cell? ⟨gp, 0, none⟩ = some (.slice Al N cl) := by rw [hP.cell]; rfl
    have d4 : w.cell? ⟨gp, 4, none⟩ = some (.slice none 0 0) := by rw [hP.cell]; rfl
    have d5 : w.cell? ⟨gp, 5, none⟩ = some (.slice none 0 0) := by rw [hP.cell]; rfl
    clear hP hU hF hFp
    go_region
    all_goals
      go_wp2_with fail
      go_meet
      first
        | (obtain ⟨V, hV⟩ : ∃ V, (w.setCell ⟨gp, 4, none⟩ (.slice (some ⟨w.heap.size, 0, none⟩) N N)).setCell ⟨gp, 5, none⟩ (.slice (some ⟨w.heap.size + 1, 0, none⟩) N N) = V := ⟨_, rfl⟩
           have hVk : Blk V gp 133 #[.slice Al N cl, .slice As M cs, .slice (some ⟨gn, 0, none⟩) N N, .slice (some ⟨gu, 0, none⟩) N N, .slice (some ⟨w.heap.size, 0, none⟩) N N, .slice (some ⟨w.heap.size + 1, 0, none⟩) N N] := hV ▸ ((HKP.out.set_ 4 (.slice (some ⟨w.heap.size, 0, none⟩) N N)).set_ 5 (.slice (some ⟨w.heap.size + 1, 0, none⟩) N N))
           have hVs : V.heap.size = w.heap.size := by rw [← hV]; simp
           have hVw : Wr [gp] w V := hV ▸ (((Wr.refl _ _).set (by simp) 4 _).set (by simp) 5 _)
           rw [hV]
           clear hV
           have hz := bb_new V N
           rw [hVs] at hz
           have hz2 := hz.call (bdrew _ (.cells (zeros (.slice none 0 0) N) 58))
           have hf := sb_new (V.alloc (.cells (zeros (.bool false) N) 4)) N [w.heap.size, w.heap.size + 1]
           rw [show (V.alloc (.cells (zeros (.bool false) N) 4)).heap.size = w.heap.size + 1 by simp [hVs]] at hf
           have hbb : Below V.heap.size V ((V.alloc (.cells (zeros (.bool false) N) 4)).alloc (.cells (zeros (.slice none 0 0) N) 58)).drew := bel_drew ((balloc _ _).alloc (by simp) _)
           exact ⟨w.heap.size, w.heap.size + 1, by omega, by omega, by omega, hVk.call hbb, hz2, hf.call (bdrew0 _), hVw.call hbb⟩)
        | (obtain ⟨V, hV⟩ : ∃ V, (w.setCell ⟨gp, 4, none⟩ (.slice (some ⟨w.heap.size + 1, 0, none⟩) N N)).setCell ⟨gp, 5, none⟩ (.slice (some ⟨w.heap.size, 0, none⟩) N N) = V := ⟨_, rfl⟩
           have hVk : Blk V gp 133 #[.slice Al N cl, .slice As M cs, .slice (some ⟨gn, 0, none⟩) N N, .slice (some ⟨gu, 0, none⟩) N N, .slice (some ⟨w.heap.size + 1, 0, none⟩) N N, .slice (some ⟨w.heap.size, 0, none⟩) N N] := hV ▸ ((HKP.out.set_ 4 (.slice (some ⟨w.heap.size + 1, 0, none⟩) N N)).set_ 5 (.slice (some ⟨w.heap.size, 0, none⟩) N N))
           have hVs : V.heap.size = w.heap.size := by rw [← hV]; simp
           have hVw : Wr [gp] w V := hV ▸ (((Wr.refl _ _).set (by simp) 4 _).set (by simp) 5 _)
           rw [hV]
           clear hV
           have hf := sb_new V N [w.heap.size + 1, w.heap.size]
           rw [hVs] at hf
           have hf2 := hf.call (bdrew _ (.cells (zeros (.bool false) N) 4))
           have hz := bb_new (V.alloc (.cells (zeros (.slice none 0 0) N) 58)) N
           rw [show (V.alloc (.cells (zeros (.slice none 0 0) N) 58)).heap.size = w.heap.size + 1 by simp [hVs]] at hz
           have hbb : Below V.heap.size V ((V.alloc (.cells (zeros (.slice none 0 0) N) 58)).alloc (.cells (zeros (.bool false) N) 4)).drew := bel_drew ((balloc _ _).alloc (by simp) _)
           exact ⟨w.heap.size + 1, w.heap.size, by omega, by omega, by omega, hVk.call hbb, hz.call (bdrew0 _), hf2, hVw.call hbb⟩)
  case rest =>
    obtain ⟨gz, gf, hgz, hgf, hzf, hkp, hZ, hS, hwp⟩ := hcut
    have hgpG : gp ∉ [gz, gf] := by simp; omega
    have hgnG : gn ∉ [gz, gf] := by simp; omega
    have hU1 : UB wc gn N (fun i => (numO t i : Nat)) := hU.wr hwp (by simp; omega)
    have hF1 : Sat F wc := hwp.sat hF (fun g hg => by simp at hg; subst hg; exact hFp)
    have HGS : Hid (∀ g, g ∈ [gz, gf] → F g = none) := Lib.hid (fun g hg => by simp at hg; rcases hg with rfl | rfl <;> exact hF.none_ (by omega))
    have p0 : wc.cell? ⟨gp, 0, none⟩ = some (.slice Al N cl) := by rw [hkp.cell]; rfl
    have HKP := Lib.hid hkp
    have HU1 := Lib.hid hU1
    have HF1 := Lib.hid hF1
    have HWP := Lib.hid hwp
    have a1 : gp ≠ gz := by omega
    have a2 : gp ≠ gf := by omega
    have a3 : gn ≠ gz := by omega
    have a4 : gn ≠ gf := by omega
    have a5 : gf ≠ gp := by omega
    have a6 : gf ≠ gn := by omega
    have a7 : gz ≠ gp := by omega
    have a8 : gz ≠ gn := by omega
    clear hP hU hkp hU1 hF1 hwp hF hFp hmk1 hmk2
    go_wp2_with fail
    clear p0
    go_loopw [4, 5, 6, 7, 8, 9, 33] (fun _ _ _ _ _ _ v33 wr => ∃ n : Nat, n ≤ N ∧ v33 = .int .i64 n ∧ BB wr gz N (zT t z n) ∧ SB wr gf N [gz, gf] (sT t z n) ∧ Wr [gz, gf] wc wr) (fun _ _ _ _ _ _ v33 _ => N - (intOf v33).toNat)
    case atStart => exact ⟨0, Nat.zero_le _, rfl, hZ.eq (fun j _ => (if_neg (by omega)).symm), hS.eq (fun j _ q => (if_neg (by omega)).symm), Wr.refl _ _⟩
    case round =>
      obtain ⟨n, hnN, rfl, hZr, hSr, hwr⟩ := hrel
      clear hZ hS
      by_cases hlt : n < N
      · have hnI : (n : Int) < (N : Int) := by omega
        have hFr := hwr.sat HF1.out HGS.out
        obtain ⟨hln, hl2⟩ := HL.out
        obtain ⟨ad, rfl, hL⟩ := hl2 (by omega)
        have hnl : n < l.length := by omega
        obtain ⟨Ak, ck, hck, hK, hdn⟩ := hL n hnl
        have hgr := get_flat_root HT.out n hnl
        have hkk := kidsN_eq HT.out n hnl
        obtain ⟨nd, hnd⟩ : ∃ nd, l[n] = nd := ⟨_, rfl⟩
        rw [hnd] at hgr hkk
        simp only [hnd] at hK hdn hck
        have hkd : nd.kind = (t.sub n).root.kind := by rw [hgr]
        obtain ⟨kind, name, lo, hi', kk⟩ := nd
        dsimp only at hkk hkd hK hdn hck
        obtain ⟨K, hKk⟩ : ∃ K, kk.length = K := ⟨_, rfl⟩
        have hKb : K ≤ 2 := by have := kidsN_len t n; rw [← hKk, hkk]; simpa [zs] using this
        obtain ⟨c0, c1, c2, c3, c4⟩ := hdn.sat hFr
        dsimp only at c0 c1 c2 c3 c4
        rw [hKk] at c4 hK hck
        have HK := Lib.hid hK
        have HKK := Lib.hid hkk
        have HKL := Lib.hid hKk
        have HKD := Lib.hid hkd
        have hbA := balloc wr (.cells #[.int .i64 kind, .string name, .int .i64 lo, .int .i64 hi', .slice Ak K ck] 29)
        have hBN := Blk.new wr 29 #[.int .i64 kind, .string name, .int .i64 lo, .int .i64 hi', .slice Ak K ck]
        have HZr := Lib.hid hZr
        have HSr := Lib.hid hSr
        have HWr := Lib.hid hwr
        clear hK hkk hKk hkd hgr hnd hdn hL hl2 hln hZr hSr hwr hnl
        have hnt : n < t.size := by rw [← HNT.out]; exact hlt
        by_cases h18 : kind = 18
        · as_aux_lemma =>
            subst h18
            go_wp2_with fail
            obtain ⟨W, hW⟩ : ∃ W, wr.alloc (.cells #[.int .i64 18, .string name, .int .i64 lo, .int .i64 hi', .slice Ak K ck] 29) = W := ⟨_, rfl⟩
            rw [hW] at hbA hBN ⊢
            obtain ⟨m0, m1, m2, m3, m4⟩ := blk5 hBN
            have hkl := hBN.lt
            have hFW := hFr.below hbA
            have HZW := Lib.hid (HZr.out.call hbA)
            have HSW := Lib.hid (HSr.out.call hbA)
            have HWW := Lib.hid (HWr.out.call hbA)
            have HKW := Lib.hid (HWW.out.blk HKP.out hgpG)
            have HUW := Lib.hid (HU1.out.wr HWW.out hgnG)
            have u0 := HUW.out.at_ hlt
            have p2 : W.cell? ⟨gp, 2, none⟩ = some (.slice (some ⟨gn, 0, none⟩) N N) := by rw [HKW.out.cell]; rfl
            have p4 : W.cell? ⟨gp, 4, none⟩ = some (.slice (some ⟨gz, 0, none⟩) N N) := by rw [HKW.out.cell]; rfl
            have p5 : W.cell? ⟨gp, 5, none⟩ = some (.slice (some ⟨gf, 0, none⟩) N N) := by rw [HKW.out.cell]; rfl
            have z0 := HZW.out.at_ hlt
            have zf := HZW.out.soft n
            have HG : Hid (∀ g, g ∈ [gz, gf] → g < W.heap.size) := Lib.hid (fun g hg => by have h1 := HZW.out.lt; have h2 := HSW.out.lt; simp at hg; omega)
            clear hW hbA hBN c0 c1 c2 c3 c4 hFr
            obtain ⟨hp1, hp2⟩ := numO_step HRV.out HVA.out hnt (HKD.out.symm) z
            have hqb := numO_le HRV.out hnt
            obtain ⟨q, hq⟩ : ∃ q, numO t n = q := ⟨_, rfl⟩
            rw [hq] at hp1 hqb u0
            have HQ := Lib.hid hq
            have HP1 := Lib.hid hp1
            have HP2 := Lib.hid hp2
            have hqk : q ≤ 1000 := by have := HNT.out; omega
            have HO := Lib.hid (fun (X : World) => sone_w (w := X) q (by omega))
            clear hq hp1 hp2 hqb
            go_region_held3 (fun w' => w'.cell? ⟨gp, 5, none⟩ = some (.slice (some ⟨gf, 0, none⟩) N N) ∧ w'.cell? ⟨gp, 2, none⟩ = some (.slice (some ⟨gn, 0, none⟩) N N) ∧ w'.cell? ⟨gn, n, none⟩ = some (.int .i64 (q : Nat))) (refine ⟨?_, ?_, ?_⟩ <;> go_keep)
              (first
                | (go_at_call 123; refine (HO.out W.drew).mono ?_; rintro e w4 ⟨v4, rfl, hb4, hS4⟩; obtain ⟨gs4, A4, n4, d4, rfl, hh4⟩ := id hS4; clear hh4; have hb4' : Below W.heap.size W w4 := undr hb4; have r5 : w4.cell? ⟨gp, 5, none⟩ = some (.slice (some ⟨gf, 0, none⟩) N N) := (by rw [(HKW.out.call hb4').cell]; rfl); have r2 : w4.cell? ⟨gp, 2, none⟩ = some (.slice (some ⟨gn, 0, none⟩) N N) := (by rw [(HKW.out.call hb4').cell]; rfl); have ru := (HUW.out.call hb4').at_ hlt; rw [HQ.out] at ru; have HS4 := Lib.hid (HSW.out.call hb4'); obtain ⟨vo, so, _⟩ := HS4.out.at_ hlt; have sf := HS4.out.soft n; have HB4 := Lib.hid hb4'; have HV4 : Hid (SetV (hx w4 [gz, gf]) (.slice A4 n4 d4) _) := Lib.hid (SetV.newx (w := W) hS4 HG.out); clear hb4 hb4' hS4))
            go_wp2_with fail
            go_roundw
            case rel => exact ⟨n + 1, by omega, by go_num, ((HZW.out.call HB4.out).far (p := ⟨gf, n, none⟩) hzf (.slice A4 n4 d4)).keepZ HP2.out, (HS4.out.set (by simp) hlt HV4.out).nextS (fun b => (HP1.out b).symm), (HWW.out.call HB4.out).set (by simp) n (.slice A4 n4 d4)⟩
            case measure => simp [intOf]; omega
        by_cases h19 : kind = 19
        · as_aux_lemma =>
            subst h19
            go_wp2_with fail
            obtain ⟨W, hW⟩ : ∃ W, wr.alloc (.cells #[.int .i64 19, .string name, .int .i64 lo, .int .i64 hi', .slice Ak K ck] 29) = W := ⟨_, rfl⟩
            rw [hW] at hbA hBN ⊢
            obtain ⟨m0, m1, m2, m3, m4⟩ := blk5 hBN
            have hkl := hBN.lt
            have hFW := hFr.below hbA
            have HZW := Lib.hid (HZr.out.call hbA)
            have HSW := Lib.hid (HSr.out.call hbA)
            have HWW := Lib.hid (HWr.out.call hbA)
            have HKW := Lib.hid (HWW.out.blk HKP.out hgpG)
            have HUW := Lib.hid (HU1.out.wr HWW.out hgnG)
            have u0 := HUW.out.at_ hlt
            have p2 : W.cell? ⟨gp, 2, none⟩ = some (.slice (some ⟨gn, 0, none⟩) N N) := by rw [HKW.out.cell]; rfl
            have p4 : W.cell? ⟨gp, 4, none⟩ = some (.slice (some ⟨gz, 0, none⟩) N N) := by rw [HKW.out.cell]; rfl
            have p5 : W.cell? ⟨gp, 5, none⟩ = some (.slice (some ⟨gf, 0, none⟩) N N) := by rw [HKW.out.cell]; rfl
            have z0 := HZW.out.at_ hlt
            have zf := HZW.out.soft n
            have HG : Hid (∀ g, g ∈ [gz, gf] → g < W.heap.size) := Lib.hid (fun g hg => by have h1 := HZW.out.lt; have h2 := HSW.out.lt; simp at hg; omega)
            clear hW hbA hBN c0 c1 c2 c3 c4 hFr
            obtain ⟨hp1, hp2⟩ := numO_test HRV.out HVA.out hnt (HKD.out.symm) z
            have hqb := numO_le HRV.out hnt
            obtain ⟨q, hq⟩ : ∃ q, numO t n = q := ⟨_, rfl⟩
            rw [hq] at hp2 hqb u0
            have HP1 := Lib.hid hp1
            have HP2 := Lib.hid hp2
            have hqk : q ≤ 1000 := by have := HNT.out; omega
            have HO := Lib.hid (fun (X : World) (hX : Sat F X) (j : Nat) (hj : (j : Int) ≤ 1000000) => bitsHas_w hX fs Av nv cv HVR.out j hj)
            clear hq hp1 hp2 hqb
            rcases q with _ | j
            · as_aux_lemma =>
                rw [show (((0 : Nat) : Int)) = 0 from rfl] at u0
                go_region
                go_wp2_with fail
                go_roundw
                case rel => exact ⟨n + 1, by omega, by go_num, (HZW.out.set hlt false).nextZ (by rw [HP2.out]; rfl), (HSW.out.far (g' := gz) (by simp) (Ne.symm hzf) n (.bool false)).keepS HP1.out, (HWW.out.set (g := gz) (by simp) n (.bool false)).drew⟩
                case measure => simp [intOf]; omega
            · as_aux_lemma =>
                have HB2 := Lib.hid (HVB.out j)
                have hjk : (j : Int) ≤ 1000 := by omega
                obtain ⟨x, hx⟩ : ∃ x : Int, (j : Int) + 1 = x := ⟨_, rfl⟩
                rw [show ((j + 1 : Nat) : Int) = (j : Int) + 1 from rfl, hx] at u0
                have hx0 : 0 < x := by omega
                have hx1 : x ≤ 1001 := by omega
                have HO2 := Lib.hid (HO.out W.drew hFW j (by omega))
                rw [show (j : Int) = x - 1 by omega] at HO2
                obtain ⟨y, hy⟩ : ∃ y, bitAt fs j = y := ⟨_, rfl⟩
                rw [hy] at HO2 HB2
                have hwr : IntKind.i64.wrap (x - 1) = x - 1 := IntWalk.i64_in _ (by omega)
                clear hx hy HO hjk hqk
                go_region_held3 (fun w' => w'.cell? ⟨gp, 4, none⟩ = some (.slice (some ⟨gz, 0, none⟩) N N) ∧ w'.cell? ⟨gp, 2, none⟩ = some (.slice (some ⟨gn, 0, none⟩) N N) ∧ w'.cell? ⟨gn, n, none⟩ = some (.int .i64 x)) (refine ⟨?_, ?_, ?_⟩ <;> go_keep)
                  (first
                    | (go_at_call 39; (try rw [hwr]); refine HO2.out.mono ?_; rintro e w4 ⟨rfl, rfl⟩))
                go_wp2_with fail
                go_roundw
                case rel => exact ⟨n + 1, by omega, by go_num, (HZW.out.set hlt y).nextZ (by rw [HP2.out, HB2.out]; simp), (HSW.out.far (g' := gz) (by simp) (Ne.symm hzf) n (.bool y)).keepS HP1.out, (HWW.out.set (g := gz) (by simp) n (.bool y)).drew⟩
                case measure => simp [intOf]; omega
        by_cases h20 : kind = 20
        · as_aux_lemma =>
            subst h20
            go_wp2_with fail
            obtain ⟨W, hW⟩ : ∃ W, wr.alloc (.cells #[.int .i64 20, .string name, .int .i64 lo, .int .i64 hi', .slice Ak K ck] 29) = W := ⟨_, rfl⟩
            rw [hW] at hbA hBN ⊢
            obtain ⟨m0, m1, m2, m3, m4⟩ := blk5 hBN
            have hkl := hBN.lt
            have hFW := hFr.below hbA
            have HZW := Lib.hid (HZr.out.call hbA)
            have HSW := Lib.hid (HSr.out.call hbA)
            have HWW := Lib.hid (HWr.out.call hbA)
            have HKW := Lib.hid (HWW.out.blk HKP.out hgpG)
            have HUW := Lib.hid (HU1.out.wr HWW.out hgnG)
            have u0 := HUW.out.at_ hlt
            have p2 : W.cell? ⟨gp, 2, none⟩ = some (.slice (some ⟨gn, 0, none⟩) N N) := by rw [HKW.out.cell]; rfl
            have p4 : W.cell? ⟨gp, 4, none⟩ = some (.slice (some ⟨gz, 0, none⟩) N N) := by rw [HKW.out.cell]; rfl
            have p5 : W.cell? ⟨gp, 5, none⟩ = some (.slice (some ⟨gf, 0, none⟩) N N) := by rw [HKW.out.cell]; rfl
            have z0 := HZW.out.at_ hlt
            have zf := HZW.out.soft n
            have HG : Hid (∀ g, g ∈ [gz, gf] → g < W.heap.size) := Lib.hid (fun g hg => by have h1 := HZW.out.lt; have h2 := HSW.out.lt; simp at hg; omega)
            clear hW hbA hBN c0 c1 c2 c3 c4 hFr
            obtain ⟨a, b, han, hbn, hkids, hqz, hqs⟩ := kid_alts HVA.out z hnt HKD.out.symm
            have hk2 : kk = [(a : Int), (b : Int)] := by rw [HKK.out, hkids]; rfl
            have hK2 : K = 2 := by rw [← HKL.out, hk2]; rfl
            subst hK2
            have hKr := HK.out
            rw [hk2] at hKr
            obtain ⟨ak, vk, rfl, hv0, hk0⟩ := hKr.at1 (k := 0) (by omega)
            obtain rfl : Value.int .i64 (a : Int) = vk := by simpa using hv0
            rw [show ak.add 0 = ak by unfold Addr.add; simp] at hk0
            obtain ⟨ak', vk', eak, hv1, hk1⟩ := hKr.at1 (k := 1) (by omega)
            injection eak with eak
            subst eak
            obtain rfl : Value.int .i64 (b : Int) = vk' := by simpa using hv1
            have hk1' : F.cell ⟨ak.block, ak.off + 1, none⟩ = some (.int .i64 (b : Int)) := hk1
            have k0c := hFW.cell hk0
            have k1c := hFW.cell hk1'
            have haI : (a : Int) < (N : Int) := by omega
            have hbI : (b : Int) < (N : Int) := by omega
            have ba := HZW.out.at_ (j := a) (by omega)
            have bb := HZW.out.at_ (j := b) (by omega)
            rw [zT_at han] at ba
            rw [zT_at hbn] at bb
            obtain ⟨va, sa, hSa⟩ := HSW.out.at_ (j := a) (by omega)
            obtain ⟨vb, sb, hSb⟩ := HSW.out.at_ (j := b) (by omega)
            obtain ⟨ga, Aa, na, ca, rfl, hha⟩ := id hSa
            obtain ⟨gb, Ab, nb, cb, rfl, hhb⟩ := id hSb
            have HSa : Hid (SetV (hx W [gz, gf]) (.slice Aa na ca) (fstS (fstO t z a))) := Lib.hid (hSa.eq (sT_at han))
            have HSb : Hid (SetV (hx W [gz, gf]) (.slice Ab nb cb) (fstS (fstO t z b))) := Lib.hid (hSb.eq (sT_at hbn))
            have HQZ := Lib.hid hqz
            have HQS := Lib.hid hqs
            have HSAC := Lib.hid sa
            have HSBC := Lib.hid sb
            obtain ⟨Za, hZa⟩ : ∃ Z, zerO t z a 0 = Z := ⟨_, rfl⟩
            obtain ⟨Zb, hZb⟩ : ∃ Z, zerO t z b 0 = Z := ⟨_, rfl⟩
            rw [hZa] at ba
            rw [hZb] at bb
            have HZa := Lib.hid hZa
            have HZb := Lib.hid hZb
            have hnga : gf ≠ gz := Ne.symm hzf
            clear hkids hk2 hKr hv0 hv1 hk0 hk1 hk1' hSa hSb hha hhb hqz hqs hZa hZb
            go_quiet (fail)
            go_wp2_with fail
            cases Za
            · as_aux_lemma =>
                go_region
                go_wp2_with fail
                obtain ⟨W2, hW2⟩ : ∃ W2, (W.drewN (nq + 1)).setCell ⟨gz, n, none⟩ (.bool Zb) = W2 := ⟨_, rfl⟩
                rw [hW2]
                have HZ2 : Hid (BB W2 gz N (zT t z (n + 1))) := Lib.hid (by rw [← hW2]; exact (HZW.out.set hlt Zb).nextZ (by rw [HQZ.out, HZa.out, HZb.out]; rfl))
                have HS2 : Hid (SB W2 gf N [gz, gf] (sT t z n)) := Lib.hid (by rw [← hW2]; exact HSW.out.far (g' := gz) (by simp) (Ne.symm hzf) n (.bool Zb))
                have HW2 : Hid (Wr [gz, gf] wc W2) := Lib.hid (by rw [← hW2]; exact (HWW.out.call (below_drewN (Below.refl _ _) (nq + 1))).set (by simp) n (.bool Zb))
                have HK2 := Lib.hid (HW2.out.blk HKP.out hgpG)
                have hPa := sT_at (t := t) (z := z) han
                have hPb := sT_at (t := t) (z := z) hbn
                have na1 : ¬ a = n := by omega
                have na2 : ¬ n = a := by omega
                have nb1 : ¬ b = n := by omega
                have nb2 : ¬ n = b := by omega
                clear hW2 m0 m1 m2 m3 m4 p2 p4 p5 u0 z0 zf k0c k1c sa sb ba bb
                have q5 : W2.cell? ⟨gp, 5, none⟩ = some (.slice (some ⟨gf, 0, none⟩) N N) := by rw [HK2.out.cell]; rfl
                obtain ⟨va2, sa2, hSa2⟩ := HS2.out.at_ (j := a) (by omega)
                obtain ⟨vb2, sb2, hSb2⟩ := HS2.out.at_ (j := b) (by omega)
                obtain ⟨ga2, Aa2, na2, ca2, rfl, hha2⟩ := id hSa2
                obtain ⟨gb2, Ab2, nb2, cb2, rfl, hhb2⟩ := id hSb2
                have HO := Lib.hid (setV_orN (w := W2.drew) (sat_hx W2 [gz, gf]) (sat_hx W2 [gz, gf]) (hSa2.eq hPa) (hSb2.eq hPb))
                have HSA2 := Lib.hid sa2
                have HSB2 := Lib.hid sb2
                have HG2 : Hid (∀ g, g ∈ [gz, gf] → g < W2.heap.size) := Lib.hid (fun g hg => by have h1 := HZ2.out.lt; have h2 := HS2.out.lt; simp at hg; omega)
                clear hSa2 hSb2 hha2 hhb2
                go_region_held3 (fun w' => w'.cell? ⟨gp, 5, none⟩ = some (.slice (some ⟨gf, 0, none⟩) N N) ∧ w'.cell? ⟨gf, a, none⟩ = some (.slice Aa2 na2 ca2) ∧ w'.cell? ⟨gf, b, none⟩ = some (.slice Ab2 nb2 cb2)) (refine ⟨?_, ?_, ?_⟩ <;> first | go_keep | (refine (World.cell?_setCell_other _ _ _ _ ?_).trans ?_ <;> first | assumption | (intro e; injection e with e1 e2; omega)))
                  (first
                    | (go_at_call 68; refine HO.out.mono ?_; rintro e w4 ⟨v4, rfl, hb4, hS4⟩; obtain ⟨gs4, A4, n4, d4, rfl, hh4⟩ := id hS4; clear hh4; have hb4' : Below W2.heap.size W2 w4 := undr hb4; have r5 : w4.cell? ⟨gp, 5, none⟩ = some (.slice (some ⟨gf, 0, none⟩) N N) := (by rw [(HK2.out.call hb4').cell]; rfl); have HS4 := Lib.hid (HS2.out.call hb4'); have ra := (hb4'.cell (p := ⟨gf, a, none⟩) HS2.out.lt).trans HSA2.out; have rb := (hb4'.cell (p := ⟨gf, b, none⟩) HS2.out.lt).trans HSB2.out; obtain ⟨vo, so, _⟩ := HS4.out.at_ hlt; have sf := HS4.out.soft n; have HB4 := Lib.hid hb4'; have HV4 : Hid (SetV (hx w4 [gz, gf]) (.slice A4 n4 d4) _) := Lib.hid (SetV.newx (w := W2) hS4 HG2.out); clear hb4 hb4' hS4))
                go_wp2_with fail
                go_roundw
                case rel => exact ⟨n + 1, by omega, by go_num, (HZ2.out.call HB4.out).far (p := ⟨gf, n, none⟩) hzf (.slice A4 n4 d4), (HS4.out.set (by simp) hlt HV4.out).nextS (fun q => (HQS.out q).symm), (HW2.out.call HB4.out).set (by simp) n (.slice A4 n4 d4)⟩
                case measure => simp [intOf]; omega
            · as_aux_lemma =>
                go_region
                go_wp2_with fail
                obtain ⟨W2, hW2⟩ : ∃ W2, (W.drewN (nq + 1)).setCell ⟨gz, n, none⟩ (.bool true) = W2 := ⟨_, rfl⟩
                rw [hW2]
                have HZ2 : Hid (BB W2 gz N (zT t z (n + 1))) := Lib.hid (by rw [← hW2]; exact (HZW.out.set hlt true).nextZ (by rw [HQZ.out, HZa.out, HZb.out]; rfl))
                have HS2 : Hid (SB W2 gf N [gz, gf] (sT t z n)) := Lib.hid (by rw [← hW2]; exact HSW.out.far (g' := gz) (by simp) (Ne.symm hzf) n (.bool true))
                have HW2 : Hid (Wr [gz, gf] wc W2) := Lib.hid (by rw [← hW2]; exact (HWW.out.call (below_drewN (Below.refl _ _) (nq + 1))).set (by simp) n (.bool true))
                have HK2 := Lib.hid (HW2.out.blk HKP.out hgpG)
                have hPa := sT_at (t := t) (z := z) han
                have hPb := sT_at (t := t) (z := z) hbn
                have na1 : ¬ a = n := by omega
                have na2 : ¬ n = a := by omega
                have nb1 : ¬ b = n := by omega
                have nb2 : ¬ n = b := by omega
                clear hW2 m0 m1 m2 m3 m4 p2 p4 p5 u0 z0 zf k0c k1c sa sb ba bb
                have q5 : W2.cell? ⟨gp, 5, none⟩ = some (.slice (some ⟨gf, 0, none⟩) N N) := by rw [HK2.out.cell]; rfl
                obtain ⟨va2, sa2, hSa2⟩ := HS2.out.at_ (j := a) (by omega)
                obtain ⟨vb2, sb2, hSb2⟩ := HS2.out.at_ (j := b) (by omega)
                obtain ⟨ga2, Aa2, na2, ca2, rfl, hha2⟩ := id hSa2
                obtain ⟨gb2, Ab2, nb2, cb2, rfl, hhb2⟩ := id hSb2
                have HO := Lib.hid (setV_orN (w := W2.drew) (sat_hx W2 [gz, gf]) (sat_hx W2 [gz, gf]) (hSa2.eq hPa) (hSb2.eq hPb))
                have HSA2 := Lib.hid sa2
                have HSB2 := Lib.hid sb2
                have HG2 : Hid (∀ g, g ∈ [gz, gf] → g < W2.heap.size) := Lib.hid (fun g hg => by have h1 := HZ2.out.lt; have h2 := HS2.out.lt; simp at hg; omega)
                clear hSa2 hSb2 hha2 hhb2
                go_region_held3 (fun w' => w'.cell? ⟨gp, 5, none⟩ = some (.slice (some ⟨gf, 0, none⟩) N N) ∧ w'.cell? ⟨gf, a, none⟩ = some (.slice Aa2 na2 ca2) ∧ w'.cell? ⟨gf, b, none⟩ = some (.slice Ab2 nb2 cb2)) (refine ⟨?_, ?_, ?_⟩ <;> first | go_keep | (refine (World.cell?_setCell_other _ _ _ _ ?_).trans ?_ <;> first | assumption | (intro e; injection e with e1 e2; omega)))
                  (first
                    | (go_at_call 68; refine HO.out.mono ?_; rintro e w4 ⟨v4, rfl, hb4, hS4⟩; obtain ⟨gs4, A4, n4, d4, rfl, hh4⟩ := id hS4; clear hh4; have hb4' : Below W2.heap.size W2 w4 := undr hb4; have r5 : w4.cell? ⟨gp, 5, none⟩ = some (.slice (some ⟨gf, 0, none⟩) N N) := (by rw [(HK2.out.call hb4').cell]; rfl); have HS4 := Lib.hid (HS2.out.call hb4'); have ra := (hb4'.cell (p := ⟨gf, a, none⟩) HS2.out.lt).trans HSA2.out; have rb := (hb4'.cell (p := ⟨gf, b, none⟩) HS2.out.lt).trans HSB2.out; obtain ⟨vo, so, _⟩ := HS4.out.at_ hlt; have sf := HS4.out.soft n; have HB4 := Lib.hid hb4'; have HV4 : Hid (SetV (hx w4 [gz, gf]) (.slice A4 n4 d4) _) := Lib.hid (SetV.newx (w := W2) hS4 HG2.out); clear hb4 hb4' hS4))
                go_wp2_with fail
                go_roundw
                case rel => exact ⟨n + 1, by omega, by go_num, (HZ2.out.call HB4.out).far (p := ⟨gf, n, none⟩) hzf (.slice A4 n4 d4), (HS4.out.set (by simp) hlt HV4.out).nextS (fun q => (HQS.out q).symm), (HW2.out.call HB4.out).set (by simp) n (.slice A4 n4 d4)⟩
                case measure => simp [intOf]; omega
        by_cases h21 : kind = 21
        · as_aux_lemma =>
            subst h21
            go_wp2_with fail
            obtain ⟨W, hW⟩ : ∃ W, wr.alloc (.cells #[.int .i64 21, .string name, .int .i64 lo, .int .i64 hi', .slice Ak K ck] 29) = W := ⟨_, rfl⟩
            rw [hW] at hbA hBN ⊢
            obtain ⟨m0, m1, m2, m3, m4⟩ := blk5 hBN
            have hkl := hBN.lt
            have hFW := hFr.below hbA
            have HZW := Lib.hid (HZr.out.call hbA)
            have HSW := Lib.hid (HSr.out.call hbA)
            have HWW := Lib.hid (HWr.out.call hbA)
            have HKW := Lib.hid (HWW.out.blk HKP.out hgpG)
            have HUW := Lib.hid (HU1.out.wr HWW.out hgnG)
            have u0 := HUW.out.at_ hlt
            have p2 : W.cell? ⟨gp, 2, none⟩ = some (.slice (some ⟨gn, 0, none⟩) N N) := by rw [HKW.out.cell]; rfl
            have p4 : W.cell? ⟨gp, 4, none⟩ = some (.slice (some ⟨gz, 0, none⟩) N N) := by rw [HKW.out.cell]; rfl
            have p5 : W.cell? ⟨gp, 5, none⟩ = some (.slice (some ⟨gf, 0, none⟩) N N) := by rw [HKW.out.cell]; rfl
            have z0 := HZW.out.at_ hlt
            have zf := HZW.out.soft n
            have HG : Hid (∀ g, g ∈ [gz, gf] → g < W.heap.size) := Lib.hid (fun g hg => by have h1 := HZW.out.lt; have h2 := HSW.out.lt; simp at hg; omega)
            clear hW hbA hBN c0 c1 c2 c3 c4 hFr
            obtain ⟨a, b, han, hbn, hkids, hqz, hqs⟩ := kid_seqs HVA.out z hnt HKD.out.symm
            have hk2 : kk = [(a : Int), (b : Int)] := by rw [HKK.out, hkids]; rfl
            have hK2 : K = 2 := by rw [← HKL.out, hk2]; rfl
            subst hK2
            have hKr := HK.out
            rw [hk2] at hKr
            obtain ⟨ak, vk, rfl, hv0, hk0⟩ := hKr.at1 (k := 0) (by omega)
            obtain rfl : Value.int .i64 (a : Int) = vk := by simpa using hv0
            rw [show ak.add 0 = ak by unfold Addr.add; simp] at hk0
            obtain ⟨ak', vk', eak, hv1, hk1⟩ := hKr.at1 (k := 1) (by omega)
            injection eak with eak
            subst eak
            obtain rfl : Value.int .i64 (b : Int) = vk' := by simpa using hv1
            have hk1' : F.cell ⟨ak.block, ak.off + 1, none⟩ = some (.int .i64 (b : Int)) := hk1
            have k0c := hFW.cell hk0
            have k1c := hFW.cell hk1'
            have haI : (a : Int) < (N : Int) := by omega
            have hbI : (b : Int) < (N : Int) := by omega
            have ba := HZW.out.at_ (j := a) (by omega)
            have bb := HZW.out.at_ (j := b) (by omega)
            rw [zT_at han] at ba
            rw [zT_at hbn] at bb
            obtain ⟨va, sa, hSa⟩ := HSW.out.at_ (j := a) (by omega)
            obtain ⟨vb, sb, hSb⟩ := HSW.out.at_ (j := b) (by omega)
            obtain ⟨ga, Aa, na, ca, rfl, hha⟩ := id hSa
            obtain ⟨gb, Ab, nb, cb, rfl, hhb⟩ := id hSb
            have HSa : Hid (SetV (hx W [gz, gf]) (.slice Aa na ca) (fstS (fstO t z a))) := Lib.hid (hSa.eq (sT_at han))
            have HSb : Hid (SetV (hx W [gz, gf]) (.slice Ab nb cb) (fstS (fstO t z b))) := Lib.hid (hSb.eq (sT_at hbn))
            have HQZ := Lib.hid hqz
            have HQS := Lib.hid hqs
            have HSAC := Lib.hid sa
            have HSBC := Lib.hid sb
            obtain ⟨Za, hZa⟩ : ∃ Z, zerO t z a 0 = Z := ⟨_, rfl⟩
            obtain ⟨Zb, hZb⟩ : ∃ Z, zerO t z b 0 = Z := ⟨_, rfl⟩
            rw [hZa] at ba
            rw [hZb] at bb
            have HZa := Lib.hid hZa
            have HZb := Lib.hid hZb
            have hnga : gf ≠ gz := Ne.symm hzf
            clear hkids hk2 hKr hv0 hv1 hk0 hk1 hk1' hSa hSb hha hhb hqz hqs hZa hZb
            obtain ⟨vo, so, _⟩ := HSW.out.at_ hlt
            have sf := HSW.out.soft n
            go_quiet (fail)
            go_wp2_with fail
            cases Za
            · as_aux_lemma =>
                go_region
                obtain ⟨W2, hW2⟩ : ∃ W2, (((W.drewN (nq + 1)).setCell ⟨gz, n, none⟩ (.bool false)).setCell ⟨gf, n, none⟩ (.slice Aa na ca)) = W2 := ⟨_, rfl⟩
                have HZ2 : Hid (BB W2 gz N (zT t z (n + 1))) := Lib.hid (by rw [← hW2]; exact ((HZW.out.set hlt false).far (p := ⟨gf, n, none⟩) hzf (.slice Aa na ca)).nextZ (by rw [HQZ.out, HZa.out, HZb.out]; rfl))
                have HS2 : Hid (SB W2 gf N [gz, gf] (upd (sT t z n) n (fstS (fstO t z a)))) := Lib.hid (by rw [← hW2]; exact (HSW.out.far (g' := gz) (by simp) (Ne.symm hzf) n (.bool false)).set (by simp) hlt (HSa.out.cle (wr_set (by simp) n (.bool false)).cle))
                have HW2 : Hid (Wr [gz, gf] wc W2) := Lib.hid (by rw [← hW2]; exact (((HWW.out.call (below_drewN (Below.refl _ _) (nq + 1))).set (g := gz) (by simp) n (.bool false)).set (g := gf) (by simp) n (.slice Aa na ca)))
                have HK2 := Lib.hid (HW2.out.blk HKP.out hgpG)
                rw [hW2]
                have q4 : W2.cell? ⟨gp, 4, none⟩ = some (.slice (some ⟨gz, 0, none⟩) N N) := by rw [HK2.out.cell]; rfl
                have qa := HZ2.out.at_ (j := a) (by omega)
                rw [zT_at (by omega), HZa.out] at qa
                clear hW2 m0 m1 m2 m3 m4 p2 p4 p5 u0 z0 zf k0c k1c sa sb ba bb so sf
                go_wp2_with fail
                go_roundw
                case rel => exact ⟨n + 1, by omega, by go_num, HZ2.out, HS2.out.nextS (fun q => by rw [HQS.out, HZa.out]; simp), HW2.out⟩
                case measure => simp [intOf]; omega
            · as_aux_lemma =>
                go_region
                obtain ⟨W2, hW2⟩ : ∃ W2, (((W.drewN (nq + 1)).setCell ⟨gz, n, none⟩ (.bool Zb)).setCell ⟨gf, n, none⟩ (.slice Aa na ca)) = W2 := ⟨_, rfl⟩
                have HZ2 : Hid (BB W2 gz N (zT t z (n + 1))) := Lib.hid (by rw [← hW2]; exact ((HZW.out.set hlt Zb).far (p := ⟨gf, n, none⟩) hzf (.slice Aa na ca)).nextZ (by rw [HQZ.out, HZa.out, HZb.out]; rfl))
                have HS2 : Hid (SB W2 gf N [gz, gf] (upd (sT t z n) n (fstS (fstO t z a)))) := Lib.hid (by rw [← hW2]; exact (HSW.out.far (g' := gz) (by simp) (Ne.symm hzf) n (.bool Zb)).set (by simp) hlt (HSa.out.cle (wr_set (by simp) n (.bool Zb)).cle))
                have HW2 : Hid (Wr [gz, gf] wc W2) := Lib.hid (by rw [← hW2]; exact (((HWW.out.call (below_drewN (Below.refl _ _) (nq + 1))).set (g := gz) (by simp) n (.bool Zb)).set (g := gf) (by simp) n (.slice Aa na ca)))
                have HK2 := Lib.hid (HW2.out.blk HKP.out hgpG)
                rw [hW2]
                have q4 : W2.cell? ⟨gp, 4, none⟩ = some (.slice (some ⟨gz, 0, none⟩) N N) := by rw [HK2.out.cell]; rfl
                have qa := HZ2.out.at_ (j := a) (by omega)
                rw [zT_at (by omega), HZa.out] at qa
                have hPa : ∀ q, upd (sT t z n) n (fstS (fstO t z a)) a q = fstS (fstO t z a) q := fun q => by rw [upd_ne (by omega)]; exact sT_at han q
                have hPb : ∀ q, upd (sT t z n) n (fstS (fstO t z a)) b q = fstS (fstO t z b) q := fun q => by rw [upd_ne (by omega)]; exact sT_at hbn q
                have na1 : ¬ a = n := by omega
                have na2 : ¬ n = a := by omega
                have nb1 : ¬ b = n := by omega
                have nb2 : ¬ n = b := by omega
                clear hW2 m0 m1 m2 m3 m4 p2 p4 p5 u0 z0 zf k0c k1c sa sb ba bb so sf
                go_wp2_with fail
                have q5 : W2.cell? ⟨gp, 5, none⟩ = some (.slice (some ⟨gf, 0, none⟩) N N) := by rw [HK2.out.cell]; rfl
                obtain ⟨va2, sa2, hSa2⟩ := HS2.out.at_ (j := a) (by omega)
                obtain ⟨vb2, sb2, hSb2⟩ := HS2.out.at_ (j := b) (by omega)
                obtain ⟨ga2, Aa2, na2, ca2, rfl, hha2⟩ := id hSa2
                obtain ⟨gb2, Ab2, nb2, cb2, rfl, hhb2⟩ := id hSb2
                have HO := Lib.hid (setV_orN (w := W2.drew) (sat_hx W2 [gz, gf]) (sat_hx W2 [gz, gf]) (hSa2.eq hPa) (hSb2.eq hPb))
                have HSA2 := Lib.hid sa2
                have HSB2 := Lib.hid sb2
                have HG2 : Hid (∀ g, g ∈ [gz, gf] → g < W2.heap.size) := Lib.hid (fun g hg => by have h1 := HZ2.out.lt; have h2 := HS2.out.lt; simp at hg; omega)
                clear hSa2 hSb2 hha2 hhb2
                go_region_held3 (fun w' => w'.cell? ⟨gp, 5, none⟩ = some (.slice (some ⟨gf, 0, none⟩) N N) ∧ w'.cell? ⟨gf, a, none⟩ = some (.slice Aa2 na2 ca2) ∧ w'.cell? ⟨gf, b, none⟩ = some (.slice Ab2 nb2 cb2)) (refine ⟨?_, ?_, ?_⟩ <;> first | go_keep | (refine (World.cell?_setCell_other _ _ _ _ ?_).trans ?_ <;> first | assumption | (intro e; injection e with e1 e2; omega)))
                  (first
                    | (go_at_call 68; refine HO.out.mono ?_; rintro e w4 ⟨v4, rfl, hb4, hS4⟩; obtain ⟨gs4, A4, n4, d4, rfl, hh4⟩ := id hS4; clear hh4; have hb4' : Below W2.heap.size W2 w4 := undr hb4; have r5 : w4.cell? ⟨gp, 5, none⟩ = some (.slice (some ⟨gf, 0, none⟩) N N) := (by rw [(HK2.out.call hb4').cell]; rfl); have HS4 := Lib.hid (HS2.out.call hb4'); have ra := (hb4'.cell (p := ⟨gf, a, none⟩) HS2.out.lt).trans HSA2.out; have rb := (hb4'.cell (p := ⟨gf, b, none⟩) HS2.out.lt).trans HSB2.out; obtain ⟨vo, so, _⟩ := HS4.out.at_ hlt; have sf := HS4.out.soft n; have HB4 := Lib.hid hb4'; have HV4 : Hid (SetV (hx w4 [gz, gf]) (.slice A4 n4 d4) _) := Lib.hid (SetV.newx (w := W2) hS4 HG2.out); clear hb4 hb4' hS4))
                go_wp2_with fail
                go_roundw
                case rel => exact ⟨n + 1, by omega, by go_num, (HZ2.out.call HB4.out).far (p := ⟨gf, n, none⟩) hzf (.slice A4 n4 d4), ((HS4.out.set (by simp) hlt HV4.out).eq (fun j _ q => by unfold upd; split <;> rfl)).nextS (P := fun q => fstS (fstO t z a) q || fstS (fstO t z b) q) (fun q => by rw [HQS.out, HZa.out, Bool.and_true]), (HW2.out.call HB4.out).set (by simp) n (.slice A4 n4 d4)⟩
                case measure => simp [intOf]; omega
        by_cases h22 : kind = 22
        · as_aux_lemma =>
            subst h22
            go_wp2_with fail
            obtain ⟨W, hW⟩ : ∃ W, wr.alloc (.cells #[.int .i64 22, .string name, .int .i64 lo, .int .i64 hi', .slice Ak K ck] 29) = W := ⟨_, rfl⟩
            rw [hW] at hbA hBN ⊢
            obtain ⟨m0, m1, m2, m3, m4⟩ := blk5 hBN
            have hkl := hBN.lt
            have hFW := hFr.below hbA
            have HZW := Lib.hid (HZr.out.call hbA)
            have HSW := Lib.hid (HSr.out.call hbA)
            have HWW := Lib.hid (HWr.out.call hbA)
            have HKW := Lib.hid (HWW.out.blk HKP.out hgpG)
            have HUW := Lib.hid (HU1.out.wr HWW.out hgnG)
            have u0 := HUW.out.at_ hlt
            have p2 : W.cell? ⟨gp, 2, none⟩ = some (.slice (some ⟨gn, 0, none⟩) N N) := by rw [HKW.out.cell]; rfl
            have p4 : W.cell? ⟨gp, 4, none⟩ = some (.slice (some ⟨gz, 0, none⟩) N N) := by rw [HKW.out.cell]; rfl
            have p5 : W.cell? ⟨gp, 5, none⟩ = some (.slice (some ⟨gf, 0, none⟩) N N) := by rw [HKW.out.cell]; rfl
            have z0 := HZW.out.at_ hlt
            have zf := HZW.out.soft n
            have HG : Hid (∀ g, g ∈ [gz, gf] → g < W.heap.size) := Lib.hid (fun g hg => by have h1 := HZW.out.lt; have h2 := HSW.out.lt; simp at hg; omega)
            clear hW hbA hBN c0 c1 c2 c3 c4 hFr
            obtain ⟨a, han, hkids, hqz, hqs⟩ := kid_manys HVA.out z hnt HKD.out.symm
            have hk2 : kk = [(a : Int)] := by rw [HKK.out, hkids]; rfl
            have hK2 : K = 1 := by rw [← HKL.out, hk2]; rfl
            subst hK2
            have hKr := HK.out
            rw [hk2] at hKr
            obtain ⟨ak, vk, rfl, hv0, hk0⟩ := hKr.at1 (k := 0) (by omega)
            obtain rfl : Value.int .i64 (a : Int) = vk := by simpa using hv0
            rw [show ak.add 0 = ak by unfold Addr.add; simp] at hk0
            have k0c := hFW.cell hk0
            have haI : (a : Int) < (N : Int) := by omega
            obtain ⟨va, sa, hSa⟩ := HSW.out.at_ (j := a) (by omega)
            obtain ⟨ga, Aa, na, ca, rfl, hha⟩ := id hSa
            have HSa : Hid (SetV (hx W [gz, gf]) (.slice Aa na ca) (fstS (fstO t z a))) := Lib.hid (hSa.eq (sT_at han))
            obtain ⟨vo, so, _⟩ := HSW.out.at_ hlt
            have sf := HSW.out.soft n
            have HQZ := Lib.hid hqz
            have HQS := Lib.hid hqs
            clear hkids hk2 hKr hv0 hk0 hSa hha hqz hqs
            go_region
            all_goals
              go_wp2_with fail
              go_roundw
              case rel => exact ⟨n + 1, by omega, by go_num, ((HZW.out.set hlt true).far (p := ⟨gf, n, none⟩) hzf _).nextZ HQZ.out.symm, (((HSW.out.far (g' := gz) (by simp) (Ne.symm hzf) n (.bool true)).set (by simp) hlt (HSa.out.cle (wr_set (by simp) n (.bool true)).cle)).nextS (fun q => by rw [HQS.out])), ((HWW.out.set (g := gz) (by simp) n (.bool true)).set (g := gf) (by simp) n (.slice Aa na ca)).drew⟩
              case measure => simp [intOf]; omega
        · as_aux_lemma =>
            have hq18 : (kind == 18) = false := by rw [beq_eq_false_iff_ne]; exact h18
            have hq19 : (kind == 19) = false := by rw [beq_eq_false_iff_ne]; exact h19
            have hq20 : (kind == 20) = false := by rw [beq_eq_false_iff_ne]; exact h20
            have hq21 : (kind == 21) = false := by rw [beq_eq_false_iff_ne]; exact h21
            have hq22 : (kind == 22) = false := by rw [beq_eq_false_iff_ne]; exact h22
            obtain ⟨hp1, hp2⟩ := numO_other HRV.out HVA.out hnt (by rw [← HKD.out]; exact ⟨h18, h19, h20, h21, h22⟩) z
            have HP1 := Lib.hid hp1
            have HP2 := Lib.hid hp2
            have HZW := Lib.hid (HZr.out.call hbA)
            have HSW := Lib.hid (HSr.out.call hbA)
            have HWW := Lib.hid (HWr.out.call hbA)
            clear hp1 hp2 h18 h19 h20 h21 h22 hbA hBN
            go_wp2_with fail
            go_roundw
            case rel => exact ⟨n + 1, by omega, by go_num, HZW.out.keepZ HP2.out, HSW.out.keepS HP1.out, HWW.out⟩
            case measure => simp [intOf]; omega
      · obtain rfl : n = N := by omega
        have hdec : decide ((n : Int) < (n : Int)) = false := decide_eq_false (by omega)
        go_wp2_with fail
        go_end0
        exact ⟨rfl, gz, gf, hgz, hgf, hzf, hwr.blk HKP.out hgpG, hZr, hSr, wr_old HWP.out hwr (fun g hg => by simp at hg; omega)⟩
end Go.Proofs.Ytdbbooibkiicnaa
