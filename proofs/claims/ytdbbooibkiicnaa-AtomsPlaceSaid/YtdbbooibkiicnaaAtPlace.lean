/- The walk of the law AtomsPlace. -/
import Derived.Test.YtdbbooibkiicnaaAw29
import Derived.Test.YtdbbooibkiicnaaBuild
set_option linter.unusedVariables false
set_option linter.unusedSimpArgs false
namespace Go.Proofs.Ytdbbooibkiicnaa
open Go.RowKit
theorem placeL_at {l : List Nd} {t : Tr} (hb : (formL l && plainS l) = true) (ht : treeS l = some t) {i : Nat} (hi : i < l.length) (k c : Int) : placeL l i k c = placeN t i k c := by
  unfold placeL
  rw [if_pos ⟨hb, by omega, by omega⟩, ht]
  rfl
theorem placeL_out {l : List Nd} {i : Int} (hi : i < 0 ∨ (l.length : Int) ≤ i) (k c : Int) : placeL l i k c = -1 := by
  unfold placeL
  rw [if_neg (fun e => by omega)]
set_option maxRecDepth 100000 in
set_option maxHeartbeats 8000000 in
theorem atomsPlace_c {F : Fz} {w : World} (hF : Sat F w) (ns : List Nat) (hns : ∀ k ∈ ns, k < 65536) (B : Option Addr) (m d : Nat) (hr : Rd F 1 B m (ns.map encW)) :
    Calls Try.prog 3 #[.slice B m d] w fun e w' => e = .returned (.bool true) ∧ Below w.heap.size w w' := by
  have HMk := Lib.hid (make_w hF ns hns B m d hr true (makeT true ns) rfl)
  have hsz := (make_size true ns).1
  rw [← Tr.length_flat (makeT true ns) 0] at hsz
  obtain ⟨hf, _, hp⟩ := ok_form (make_ok true ns hns).1
  have hp := hp rfl
  obtain ⟨l, hl⟩ : ∃ l, (makeT true ns).flat 0 = l := ⟨_, rfl⟩
  rw [hl] at HMk hsz hf hp
  have hb : (formL l && plainS l) = true := by rw [hf, hp]; rfl
  obtain ⟨_, _, t, ht⟩ := plain_tree hb
  clear hl hr hns
  have hn : l.length ≤ 1000 := by omega
  have hlt := tree_len ht
  have hab := fun i hi => (atomM_le hn ht i hi).1
  have HUA := Lib.hid (fun i (hi : i ≤ l.length) => uptoN_le (g := atomM) (t := t) (n := l.length) (B := 10000000) hab i hi)
  have HALA : Hid (onT atomsN l = uptoN atomM t l.length) := Lib.hid (by rw [onT_yes hb ht, hlt, uptoN_all, ← atomsN_all])
  have HKD := Lib.hid (fun i (hi : i < l.length) => get_flat_root ht i hi)
  have HMU := Lib.hid (fun i (hi : i < l.length) hm => match_un ht i hi hm)
  have HND := Lib.hid (fun i (hi : i < l.length) => (node_bounds hn ht i hi).1)
  have HPS := Lib.hid (fun i (hi : i < l.length) h a hx hr => part_steps hn ht i hi h a hx hr)
  have HPN := Lib.hid (fun i (hi : i < l.length) k c => placeL_at hb ht hi k c)
  have hnb : l.length ≤ 100 := by omega
  clear hab hlt hf hp hb ht
  go_enter Try.func3, Try.ntmps3
  go_wp2_with fail
  go_at_call 9
  refine HMk.out.mono ?_
  rintro e W ⟨A, c, F1, rfl, hc, hN, hbW, hF1, _⟩
  have HCT := Lib.hid (fun (X : World) (h : Sat F1 X) N hN' => acount_w h l hn A l.length c hc hN N hN')
  have HPL := Lib.hid (fun (X : World) (h : Sat F1 X) i k cl P hP => aplace_w h l hn A l.length c hc hN i k cl P hP)
  have HPt := Lib.hid (fun (X : World) (h : Sat F1 X) i h1 h2 => part_w h l hn A l.length c hc hN i h1 h2)
  obtain ⟨_, hl2⟩ := hN
  have hzW := hbW.size
  go_wp2_with fail
  go_loopw [4, 5, 6, 7, 8, 9, 10, 15] (fun v4 _ _ _ _ _ _ v15 wr => ∃ i : Nat, i ≤ l.length ∧ v15 = .int .i64 i ∧ v4 = .int .i64 (uptoN atomM t i : Nat) ∧ Below w.heap.size w wr ∧ Below W.heap.size W wr) (fun _ _ _ _ _ _ _ v15 _ => l.length - (intOf v15).toNat)
  case atStart => exact ⟨0, Nat.zero_le _, rfl, rfl, hbW, Below.refl _ _⟩
  case round =>
    obtain ⟨i, hi, rfl, rfl, hbl, hbl2⟩ := hrel
    have hFr := hF1.below hbl2
    have hzl := hbl.size
    have hzl2 := hbl2.size
    by_cases hlt : i < l.length
    · have hiI : (i : Int) < (l.length : Int) := by omega
      have hkd := HKD.out i hlt
      obtain ⟨ad, rfl, hL⟩ := hl2 (by omega)
      obtain ⟨Ak, ck, _, hK, hd⟩ := hL i hlt
      have hmux := HMU.out i hlt
      have hnd := HND.out i hlt
      have hps := HPS.out i hlt
      have hua := HUA.out i (by omega)
      have hsa := uptoN_succ atomM t i
      have hpn := HPN.out i hlt
      have hno := fun k c h => (hpn k c).trans (placeN_no (t := t) (i := i) k c h)
      have hun := fun h a hx h17 k c => (hpn k c).trans (placeN_un (t := t) (i := i) (h := h) (a := a) hx h17 k c)
      obtain ⟨x, hx⟩ : ∃ x, t.sub i = x := ⟨_, rfl⟩
      rw [hx] at hkd hmux hnd hsa
      simp only [hx] at hps hno hun
      obtain ⟨nd, hnde⟩ : ∃ nd, l[i] = nd := ⟨_, rfl⟩
      rw [hnde] at hkd hmux
      simp only [hnde] at hK hd
      obtain ⟨VA, hVA⟩ : ∃ V, uptoN atomM t (i + 1) = V := ⟨_, rfl⟩
      have HVA := Lib.hid hVA
      rw [hVA] at hsa
      obtain ⟨UA, hUA⟩ : ∃ V, uptoN atomM t i = V := ⟨_, rfl⟩
      rw [hUA] at hsa hua ⊢
      simp only [hUA] at hun
      have hua' : UA ≤ 10000000000 := by omega
      obtain ⟨R, hR⟩ : ∃ R, x.root = R := ⟨_, rfl⟩
      rw [hR] at hkd hmux
      simp only [hR] at hno
      obtain ⟨ks, hks⟩ : ∃ ks, x.rootKids (i + 1 - x.size) = ks := ⟨_, rfl⟩
      rw [hks] at hkd
      obtain ⟨kind, name, lo, hi', kk⟩ := R
      subst hkd
      dsimp only at hK hd hmux hno
      obtain ⟨c0, c1, c2, c3, c4⟩ := hd.sat hFr
      dsimp only at c0 c1 c2 c3 c4
      have hRX := Lib.hid hR
      clear hx hR hks hd hL hnde hVA hUA hpn
      by_cases h17 : kind = 17
      · obtain ⟨h, a, hxa, hha, hra, hkk, hsp, hi1⟩ := hmux (.inr h17)
        obtain ⟨_, hwb, _⟩ := hnd h a hxa hha
        obtain ⟨p1, p2, p3, p4⟩ := hps h a hxa hra
        have hRX := hRX.out
        rw [hxa] at hRX
        have hRX : h = ⟨kind, name, lo, hi', kk⟩ := hRX
        subst hRX
        subst h17
        have HPU := Lib.hid (fun k c => hun _ a hxa rfl k c)
        rw [hxa] at hsa
        replace hsa : VA = UA + stepsN a * wideN ⟨17, name, lo, hi', kk⟩ := hsa
        have hkk : ks = [(i : Int) - 1] := hkk
        subst hkk
        have HW := Lib.hid (fun X => wide_w ⟨17, name, lo, hi', kk⟩ hsp X)
        obtain ⟨Wd, hWd⟩ : ∃ Wd, wideN ⟨17, name, lo, hi', kk⟩ = Wd := ⟨_, rfl⟩
        rw [hWd] at HW HPU hwb hsa
        have HSS := Lib.hid (fun (X : World) (G : Fz) (hX : Sat G X) (B : Option Addr) (m e : Nat) (hB : NodesF G B m (a.flat 0)) => steps_w hX (a.flat 0) p3 B m e hB)
        have HS18 : Hid ((zs (kindS (a.flat 0) 18)).length = stepsN a) := Lib.hid (by rw [length_zs, p2])
        have HPt := Lib.hid (fun (X : World) (h : Sat F1 X) => HPt.out X h ((i : Int) - 1) (by omega) (by omega))
        rw [p1] at HPt
        obtain ⟨M, hM⟩ : ∃ M, stepsN a = M := ⟨_, rfl⟩
        rw [hM] at HPU HS18 p4 hsa
        generalize kindS (a.flat 0) 18 = S18 at *
        generalize a.flat 0 = q at *
        obtain ⟨ak, v, rfl, hv0, hk0⟩ := hK.at1 (k := 0) (by simp)
        obtain rfl : Value.int .i64 ((i : Int) - 1) = v := by simpa using hv0
        rw [show ak.add 0 = ak by unfold Addr.add; simp] at hk0
        have HSA := Lib.hid hsa
        have HBA := Lib.hid (Blk.new wr 29 #[.int .i64 17, .string name, .int .i64 lo, .int .i64 hi', .slice (some ak) 1 ck])
        have hbA := balloc wr (.cells #[.int .i64 17, .string name, .int .i64 lo, .int .i64 hi', .slice (some ak) 1 ck] 29)
        obtain ⟨W', hW⟩ : ∃ W, W = wr.alloc (.cells #[.int .i64 17, .string name, .int .i64 lo, .int .i64 hi', .slice (some ak) 1 ck] 29) := ⟨_, rfl⟩
        rw [← hW] at HBA hbA
        obtain ⟨m0, m1, m2, m3, m4⟩ := blk5 HBA.out
        have hFA := hFr.below hbA
        have y0 := hFA.cell hk0
        have yl := hFA.clt hk0
        have hml := HBA.out.lt
        have HWX := Lib.hid hW
        have HFR := Lib.hid hFr
        clear hWd hM hsa hmux hnd hps hxa hra hha hK p1 p2 hsp hv0 hk0 hW hl2 hun hno p3
        go_wp2_with fail
        rw [← HWX.out]
        go_region_held3 (fun w' => w'.cell? ⟨wr.heap.size, 2, none⟩ = some (.int .i64 lo) ∧ w'.cell? ⟨wr.heap.size, 3, none⟩ = some (.int .i64 hi') ∧ w'.cell? ⟨wr.heap.size, 4, none⟩ = some (.slice (some ak) 1 ck) ∧ w'.cell? ak = some (.int .i64 ((i : Int) - 1))) (go_keep)
          (first
            | (go_at_call 13; refine (HW.out _).mono ?_; rintro e w4 ⟨rfl, hw4⟩; have hB4 : Below W'.heap.size W' w4 := (by refine bel_trans ?_ hw4; first | exact bel_eqv hB3 rfl rfl rfl rfl); have s0 := (hB4.cell (p := ⟨wr.heap.size, 2, none⟩) hml).trans m2; have s1 := (hB4.cell (p := ⟨wr.heap.size, 3, none⟩) hml).trans m3; have s2 := (hB4.cell (p := ⟨wr.heap.size, 4, none⟩) hml).trans m4; have s3 := (hB4.cell (p := ak) yl).trans y0)
            | (go_at_call 11; refine (HSS.out _ F2 (by first | exact hG1) A1 _ c1' hN1).mono ?_; rintro e w3 ⟨A3, c3', rfl, _, _, hw3⟩; rw [HS18.out]; have hB3 : Below W'.heap.size W' w3 := (by refine bel_trans ?_ hw3; first | exact bel_eqv hB1 rfl rfl rfl rfl); have s0 := (hB3.cell (p := ⟨wr.heap.size, 2, none⟩) hml).trans m2; have s1 := (hB3.cell (p := ⟨wr.heap.size, 3, none⟩) hml).trans m3; have s2 := (hB3.cell (p := ⟨wr.heap.size, 4, none⟩) hml).trans m4; have s3 := (hB3.cell (p := ak) yl).trans y0)
            | (go_at_call 12; refine (HPt.out _ (by first | exact hFA | exact hFA.drew)).mono ?_; rintro e w1 ⟨A1, c1', F2, rfl, hc1, hN1, hw1, hG1, _⟩; have hB1 : Below W'.heap.size W' w1 := (by refine bel_trans ?_ hw1; first | exact bel_eqv (Below.refl _ W') rfl rfl rfl rfl); have s0 := (hB1.cell (p := ⟨wr.heap.size, 2, none⟩) hml).trans m2; have s1 := (hB1.cell (p := ⟨wr.heap.size, 3, none⟩) hml).trans m3; have s2 := (hB1.cell (p := ⟨wr.heap.size, 4, none⟩) hml).trans m4; have s3 := (hB1.cell (p := ak) yl).trans y0))
        all_goals
          have hB0 : Below wr.heap.size wr w4 := bthen hbA hB4
          have hF4 := HFR.out.below hB0
          have HB0 := Lib.hid hB0
          have hMb : M ≤ 1000 := p4
          have hWb : Wd ≤ 10000 := hwb
          clear HBA HWX HW HSS HPt HS18 hG1 hN1 hw1 hw3 hw4 hB1 hB3 hB4 hbA y0 yl hml m0 m1 m2 m3 m4 s0 s1 s2 s3 hFA hB0 p4 hwb c0 c1 c2 c3 c4
          go_wp2_with fail
          obtain ⟨wo, hwo⟩ : ∃ wo, wo = wr := ⟨_, rfl⟩
          subst hwo
          go_loopw [4, 9, 10, 39] (fun v4 _ _ v39 wr => ∃ k : Nat, k ≤ M ∧ v39 = .int .i64 k ∧ v4 = .int .i64 (UA + k * Wd : Nat) ∧ Below w4.heap.size w4 wr) (fun _ _ _ v39 _ => M - (intOf v39).toNat)
          case atStart => exact ⟨0, Nat.zero_le _, rfl, by simp, Below.refl _ _⟩
          case round =>
            obtain ⟨k, hk, rfl, rfl, hb4⟩ := hrel
            have hFk := hF4.below hb4
            by_cases hkl : k < M
            · have hkI : (k : Int) < (M : Int) := by omega
              have hkb : k * Wd ≤ 10000000 := Nat.le_trans (Nat.mul_le_mul (show k ≤ 1000 by omega) hWb) (by omega)
              have HPK := Lib.hid (fun c => HPU.out ((k : Int) + 1) c)
              have hmz : ((k : Int) + 1 - 1) * (Wd : Int) = ((k * Wd : Nat) : Int) := by rw [Int.natCast_mul]; congr 1; omega
              have HK1 : Hid (k * Wd + Wd = (k + 1) * Wd) := Lib.hid (by rw [Nat.add_mul, Nat.one_mul])
              rw [hmz] at HPK
              obtain ⟨UK, hUK⟩ : ∃ UK, UA + k * Wd = UK := ⟨_, rfl⟩
              have HUK := Lib.hid hUK
              have HPC := Lib.hid (fun (c : Nat) (hcc : c < Wd) => (show placeL l i ((k : Int) + 1) c = ((UK + c : Nat) : Int) by rw [HPK.out c, if_pos (by omega)]; omega))
              have HPW := Lib.hid (show placeL l i ((k : Int) + 1) (Wd : Int) = -1 by rw [HPK.out, if_neg (by omega)])
              have HPM := Lib.hid (show placeL l i ((k : Int) + 1) (-1) = -1 by rw [HPK.out, if_neg (by omega)])
              have hUb : UK ≤ 20000000000 := by omega
              rw [hUK]
              clear hmz hUK hkb HPK
              go_wp2_with fail
              obtain ⟨wk, hwk⟩ : ∃ wk, wk = wr := ⟨_, rfl⟩
              subst hwk
              go_loopw [4, 10, 43] (fun v4 _ v43 wr => ∃ cc : Nat, cc ≤ Wd ∧ v43 = .int .i64 cc ∧ v4 = .int .i64 (UK + cc : Nat) ∧ Below w4.heap.size w4 wr) (fun _ _ v43 _ => Wd - (intOf v43).toNat)
              case atStart => exact ⟨0, Nat.zero_le _, rfl, rfl, hb4⟩
              case round =>
                obtain ⟨cc, hcc, rfl, rfl, hb5⟩ := hrel
                have hFc := hF4.below hb5
                by_cases hcl : cc < Wd
                · have hcI : (cc : Int) < (Wd : Int) := by omega
                  have hpc := HPC.out cc hcl
                  obtain ⟨V, hV⟩ : ∃ V, UK + cc = V := ⟨_, rfl⟩
                  have HV := Lib.hid hV
                  rw [hV] at hpc ⊢
                  have hVb : V ≤ 30000000000 := by omega
                  have HPC' := Lib.hid hpc
                  clear hV hpc
                  go_wp2_with (go_at_call 10; refine (HPL.out _ hFc _ _ _ _ HPC'.out).mono ?_; rintro e w6 ⟨rfl, hw6⟩)
                  go_roundw
                  case rel => exact ⟨cc + 1, by omega, by go_num, by rw [← Nat.add_assoc, HV.out]; go_num, bthen hb5 hw6⟩
                  case measure => simp [intOf]; omega
                · obtain rfl : cc = Wd := by omega
                  have hdec : decide ((cc : Int) < (cc : Int)) = false := decide_eq_false (by omega)
                  go_wp2_with (first
                    | (go_at_call 10; refine (HPL.out _ hFc1 _ _ _ _ HPM.out).mono ?_; rintro e w7 ⟨rfl, hw7⟩)
                    | (go_at_call 10; refine (HPL.out _ hFc _ _ _ _ HPW.out).mono ?_; rintro e w6 ⟨rfl, hw6⟩; have hFc1 := hFc.below hw6))
                  go_roundw
                  case rel => exact ⟨k + 1, by omega, by go_num, by rw [← HK1.out, ← Nat.add_assoc, HUK.out]; go_num, bthen (bthen hb5 hw6) hw7⟩
                  case measure => simp [intOf]; omega
            · obtain rfl : k = M := by omega
              have hdec : decide ((k : Int) < (k : Int)) = false := decide_eq_false (by omega)
              have HP0 := Lib.hid (show placeL l i 0 0 = -1 by rw [HPU.out, if_neg (by omega)])
              have HPB := Lib.hid (show placeL l i ((k : Int) + 1) 0 = -1 by rw [HPU.out, if_neg (by omega)])
              go_wp2_with (first
                | (go_at_call 10; refine (HPL.out _ hFk1 _ _ _ _ HPB.out).mono ?_; rintro e w7 ⟨rfl, hw7⟩)
                | (go_at_call 10; refine (HPL.out _ hFk _ _ _ _ HP0.out).mono ?_; rintro e w6 ⟨rfl, hw6⟩; have hFk1 := hFk.below hw6))
              go_roundw
              case rel =>
                have hz : Below w4.heap.size w4 w7 := bthen (bthen hb4 hw6) hw7
                have hz2 := bthen HB0.out hz
                exact ⟨i + 1, by omega, by go_num, by rw [HVA.out, HSA.out]; simp, hbl.trans (hz2.mono hzl), hbl2.trans (hz2.mono hzl2)⟩
              case measure => simp [intOf]; omega
      · have HN0 := Lib.hid (hno 1 0 (by exact h17))
        have hx0 : atomM x = 0 := by
          cases x with
          | leaf h => rfl
          | bin h a b => rfl
          | un h a =>
            have e : h = ⟨kind, name, lo, hi', kk⟩ := hRX.out
            subst e
            simp only [atomM]
            rw [if_neg h17]
        rw [hx0, Nat.add_zero] at hsa
        have hbA := balloc wr (.cells #[.int .i64 kind, .string name, .int .i64 lo, .int .i64 hi', .slice Ak ks.length ck] 29)
        obtain ⟨m0, m1, m2, m3, m4⟩ := blk5 (Blk.new wr 29 #[.int .i64 kind, .string name, .int .i64 lo, .int .i64 hi', .slice Ak ks.length ck])
        have hk : (kind != 17) = true := by rw [bne_iff_ne]; exact h17
        have HVU : Hid (UA = VA) := Lib.hid hsa.symm
        have hFA := hFr.below hbA
        clear hmux hnd hK hl2 hsa hx0 hps hno hun h17
        go_wp2_with (go_at_call 10; refine (HPL.out _ hFA _ _ _ _ HN0.out).mono ?_; rintro e w3 ⟨rfl, hw3⟩)
        go_roundw
        case rel => exact ⟨i + 1, by omega, by go_num, by rw [HVA.out, HVU.out], bthen hbl (bthen hbA hw3), bthen hbl2 (bthen hbA hw3)⟩
        case measure => simp [intOf]; omega
    · obtain rfl : i = l.length := by omega
      have hdec : decide ((l.length : Int) < (l.length : Int)) = false := decide_eq_false (by omega)
      have hE1 := Lib.hid (placeL_out (l := l) (i := (l.length : Int)) (.inr (Int.le_refl _)) 1 0)
      have hE2 := Lib.hid (placeL_out (l := l) (i := -1) (.inl (by omega)) 1 0)
      go_wp2_with (first
        | (go_at_call 14; refine (HCT.out _ hFr _ HALA.out).mono ?_; rintro e w1 ⟨rfl, hw1⟩; have hFr1 := hFr.below hw1)
        | (go_at_call 10; refine (HPL.out _ hFr2 _ _ _ _ hE2.out).mono ?_; rintro e w3 ⟨rfl, hw3⟩)
        | (go_at_call 10; refine (HPL.out _ hFr1 _ _ _ _ hE1.out).mono ?_; rintro e w2 ⟨rfl, hw2⟩; have hFr2 := hFr1.below hw2)
        | (go_at_call 15; refine (awake29_w _).mono ?_; rintro e w4 ⟨rfl, hw4⟩))
      go_ret
      exact ⟨by first | rfl | simp, bthen (bthen (bthen (bthen hbl hw1) hw2) hw3) hw4⟩
end Go.Proofs.Ytdbbooibkiicnaa
