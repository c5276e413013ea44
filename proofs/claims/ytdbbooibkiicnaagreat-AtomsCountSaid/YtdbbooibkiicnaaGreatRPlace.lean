/- The walk of the reference's Place. -/
import Derived.Test.YtdbbooibkiicnaaGreatNeedA
import Derived.Test.YtdbbooibkiicnaaGreatPlanC
set_option linter.unusedVariables false
set_option linter.unusedSimpArgs false
namespace Go.Proofs.YtdbbooibkiicnaaGreat
open Go.RowKit
set_option maxRecDepth 100000 in
set_option maxHeartbeats 8000000 in
theorem rplace26_w {F : Fz} {w : World} (hF : Sat F w) (l : List Nd) (hn : l.length ≤ 1000) (A : Option Addr) (n c : Nat) (hc : n ≤ c) (hl : NodesF F A n l) (i k cl : Int) (P : Int) (hP : placeL l i k cl = P) :
    Calls Tryz.prog 12 #[.slice A n c, .int .i64 i, .int .i64 k, .int .i64 cl] w fun e w' => e = .returned (.int .i64 P) ∧ Below w.heap.size w w' := by
  cases hb : (formL l && plainS l)
  · have h0 : P = -1 := by rw [← hP]; unfold placeL; rw [if_neg (fun e => by rw [hb] at e; cases e.1)]
    subst h0
    have HP := Lib.hid (plain26_w hF l hn A n c hl false hb)
    clear hP hb hl hn
    go_enter Tryz.func12, Tryz.ntmps12
    go_wp2_with (go_at_call 31; refine HP.out.mono ?_; rintro e w1 ⟨rfl, hw1⟩)
    go_ret
    exact ⟨rfl, hw1⟩
  have HPL := Lib.hid (plain26_w hF l hn A n c hl true hb)
  by_cases hi : ¬ (0 ≤ i ∧ i < l.length)
  · have h0 : P = -1 := by rw [← hP]; unfold placeL; rw [if_neg (fun e => hi e.2)]
    subst h0
    obtain ⟨rfl, _⟩ := hl
    by_cases hneg : i < 0
    · clear hP hb hn hi
      go_enter Tryz.func12, Tryz.ntmps12
      go_wp2_with (go_at_call 31; refine HPL.out.mono ?_; rintro e w1 ⟨rfl, hw1⟩)
      go_ret
      exact ⟨rfl, hw1⟩
    · have hd : decide (i < 0) = false := decide_eq_false hneg
      have hge : (l.length : Int) ≤ i := by omega
      clear hP hb hn hi hneg
      go_enter Tryz.func12, Tryz.ntmps12
      go_wp2_with (go_at_call 31; refine HPL.out.mono ?_; rintro e w1 ⟨rfl, hw1⟩)
      go_ret
      exact ⟨rfl, hw1⟩
  obtain ⟨h0, hil⟩ := Decidable.not_not.1 hi
  obtain ⟨hf, hp, t, ht⟩ := plain_tree hb
  obtain ⟨j, rfl⟩ : ∃ j : Nat, i = (j : Int) := ⟨i.toNat, by omega⟩
  have hjl : j < l.length := by omega
  have hP2 : placeN t j k cl = P := by rw [← hP]; unfold placeL; rw [if_pos ⟨hb, h0, hil⟩, ht]; rfl
  clear hi hP
  have hlt := tree_len ht
  have hab := fun i hi => (atomM_le hn ht i hi).1
  have HUA := Lib.hid (fun i (hi : i ≤ l.length) => uptoN_le (g := atomM) (t := t) (n := l.length) (B := 10000000) hab i hi)
  have HKD := Lib.hid (fun i (hi : i < l.length) => get_flat_root ht i hi)
  have HMU := Lib.hid (fun i (hi : i < l.length) hm => match_un ht i hi hm)
  have HND := Lib.hid (fun i (hi : i < l.length) => (node_bounds hn ht i hi).1)
  have HPS := Lib.hid (fun i (hi : i < l.length) h a hx hr => part_steps26 hn ht i hi h a hx hr)
  have HPt := Lib.hid (fun (X : World) (h : Sat F X) i h1 h2 => rpart_w h l hn A n c hc hl i h1 h2)
  obtain ⟨hln, hl2⟩ := hl
  have hnn : n ≤ 1000 := by omega
  subst hln
  clear hab hb hf hp hlt ht
  have hdi : decide ((j : Int) < 0) = false := decide_eq_false (by omega)
  have hdl : decide (l.length ≤ j) = false := decide_eq_false (by omega)
  have hjI : (j : Int) < (l.length : Int) := by omega
  obtain ⟨ad, rfl, hL⟩ := hl2 (by omega)
  obtain ⟨Ak, ck, _, hK, hd⟩ := hL j hjl
  have hkd := HKD.out j hjl
  have hmux := HMU.out j hjl
  have hnd := HND.out j hjl
  have hua := HUA.out j (by omega)
  have hps := HPS.out j hjl
  have HLL := Lib.hid hL
  have hno := fun h => placeN_no (t := t) (i := j) k cl h
  have hun := fun h a hx h17 => placeN_un (t := t) (i := j) (h := h) (a := a) hx h17 k cl
  obtain ⟨x, hx⟩ : ∃ x, t.sub j = x := ⟨_, rfl⟩
  rw [hx] at hkd hmux hnd hno
  simp only [hx] at hps hun
  obtain ⟨nd, hnde⟩ : ∃ nd, l[j] = nd := ⟨_, rfl⟩
  rw [hnde] at hkd hmux
  simp only [hnde] at hK hd
  clear hnde hL
  rw [hP2] at hno hun
  obtain ⟨R, hR⟩ : ∃ R, x.root = R := ⟨_, rfl⟩
  rw [hR] at hkd hmux hno
  obtain ⟨ks, hks⟩ : ∃ ks, x.rootKids (j + 1 - x.size) = ks := ⟨_, rfl⟩
  rw [hks] at hkd
  obtain ⟨kind, name, lo, hi', kk⟩ := R
  subst hkd
  dsimp only at hK hd hmux hno
  by_cases h17 : ¬ kind = 17
  · obtain rfl := hno h17
    have hkn : (kind != 17) = true := by rw [bne_iff_ne]; exact h17
    have HD := Lib.hid (fun (X : World) (hX : Sat F X) => (hd.sat hX).1)
    clear hl2 hK hd hmux hnd hps hun hno hx hR hks h17 HPS HPt HLL hP2
    go_enter Tryz.func12, Tryz.ntmps12
    go_wp2_with (go_at_call 31; refine HPL.out.mono ?_; rintro e w1 ⟨rfl, hw1⟩; have c0 := HD.out _ (hF.below hw1); dsimp only at c0)
    go_ret
    exact ⟨rfl, hw1⟩
  have h17 := Decidable.not_not.1 h17
  obtain ⟨h, a, hxa, hha, hra, hkk, hsp, hi1⟩ := hmux (.inr h17)
  obtain ⟨_, hwb, p4, _⟩ := hnd h a hxa hha
  rw [hxa] at hR
  have hR : h = ⟨kind, name, lo, hi', kk⟩ := hR
  subst hR
  subst h17
  have hkk : ks = [(j : Int) - 1] := hkk
  subst hkk
  have hpl := hun _ a hxa rfl
  obtain ⟨Wd, hWd⟩ : ∃ Wd, wideN ⟨17, name, lo, hi', kk⟩ = Wd := ⟨_, rfl⟩
  have HW := Lib.hid (fun X => rwide1_w ⟨17, name, lo, hi', kk⟩ hsp X)
  rw [hWd] at HW hwb hpl
  dsimp only at HW
  obtain ⟨p1, p2, _, p3, p4, _⟩ := hps _ a hxa hra
  have HSS := Lib.hid (fun (X : World) (G : Fz) (hX : Sat G X) (B : Option Addr) (m e : Nat) (hB : NodesF G B m (a.flat 0)) => rsteps_w hX (a.flat 0) (by omega) B m e hB)
  have HS18 : Hid ((zs (kindS (a.flat 0) 18)).length = stepsN a) := Lib.hid (by rw [length_zs, p2])
  have HPj := Lib.hid (fun (X : World) (h : Sat F X) => HPt.out X h ((j : Int) - 1) (by omega) (by omega))
  rw [p1] at HPj
  obtain ⟨M, hM⟩ : ∃ M, stepsN a = M := ⟨_, rfl⟩
  rw [hM] at HS18 p4 hpl
  generalize kindS (a.flat 0) 18 = S18 at *
  generalize a.flat 0 = qq at *
  obtain ⟨ak, v, rfl, hv0, hk0⟩ := hK.at1 (k := 0) (by simp)
  obtain rfl : Value.int .i64 ((j : Int) - 1) = v := by simpa using hv0
  rw [show ak.add 0 = ak by unfold Addr.add; simp] at hk0
  have HK0 := Lib.hid hk0
  clear hv0 hk0 p1 p2 p3
  have HD := Lib.hid (fun (X : World) (hX : Sat F X) => hd.sat hX)
  by_cases hin : ¬ (1 ≤ k ∧ k ≤ M ∧ 0 ≤ cl ∧ cl < Wd)
  · rw [if_neg hin] at hpl
    subst hpl
    clear hK hd hmux hnd hps hun hno hx hks HPS HPt HLL hP2 hxa hha hra hsp hWd hM
    by_cases g3 : cl < 0
    · clear hin
      go_enter Tryz.func12, Tryz.ntmps12
      go_wp2_with (first
        | (go_at_call 31; refine HPL.out.mono ?_; rintro e w1 ⟨rfl, hw1⟩; have hF1 := hF.below hw1; obtain ⟨c0, c1, c2, c3, c4⟩ := HD.out _ hF1; have y0 := hF1.cell HK0.out; dsimp only at c0 c1 c2 c3 c4))
      go_ret
      exact ⟨rfl, hw1⟩
    have d3 : decide (cl < 0) = false := decide_eq_false g3
    by_cases g4 : (Wd : Int) ≤ cl
    · clear hin g3
      go_enter Tryz.func12, Tryz.ntmps12
      go_wp2_with (first
        | (go_at_call 31; refine HPL.out.mono ?_; rintro e w1 ⟨rfl, hw1⟩; have hF1 := hF.below hw1; obtain ⟨c0, c1, c2, c3, c4⟩ := HD.out _ hF1; have y0 := hF1.cell HK0.out; dsimp only at c0 c1 c2 c3 c4)
        | (go_at_call 33; refine (HW.out _).mono ?_; rintro e w2 ⟨rfl, hw2⟩; have hF2 := hF1.below hw2; obtain ⟨c0, c1, c2, c3, c4⟩ := HD.out _ hF2; have y0 := hF2.cell HK0.out; dsimp only at c0 c1 c2 c3 c4))
      go_ret
      exact ⟨rfl, bthen hw1 hw2⟩
    have d4 : decide ((Wd : Int) ≤ cl) = false := decide_eq_false g4
    by_cases g1 : k < 1
    · clear hin g3 g4
      go_enter Tryz.func12, Tryz.ntmps12
      go_wp2_with (first
        | (go_at_call 31; refine HPL.out.mono ?_; rintro e w1 ⟨rfl, hw1⟩; have hF1 := hF.below hw1; obtain ⟨c0, c1, c2, c3, c4⟩ := HD.out _ hF1; have y0 := hF1.cell HK0.out; dsimp only at c0 c1 c2 c3 c4)
        | (go_at_call 33; refine (HW.out _).mono ?_; rintro e w2 ⟨rfl, hw2⟩; have hF2 := hF1.below hw2; obtain ⟨c0, c1, c2, c3, c4⟩ := HD.out _ hF2; have y0 := hF2.cell HK0.out; dsimp only at c0 c1 c2 c3 c4))
      go_ret
      exact ⟨rfl, bthen hw1 hw2⟩
    have d1 : decide (k < 1) = false := decide_eq_false g1
    have g2 : (M : Int) < k := by omega
    clear hin g1 g3 g4
    go_enter Tryz.func12, Tryz.ntmps12
    go_wp2_with (first
      | (go_at_call 31; refine HPL.out.mono ?_; rintro e w1 ⟨rfl, hw1⟩; have hF1 := hF.below hw1; obtain ⟨c0, c1, c2, c3, c4⟩ := HD.out _ hF1; have y0 := hF1.cell HK0.out; dsimp only at c0 c1 c2 c3 c4)
      | (go_at_call 33; refine (HW.out _).mono ?_; rintro e w2 ⟨rfl, hw2⟩; have hF2 := hF1.below hw2; obtain ⟨c0, c1, c2, c3, c4⟩ := HD.out _ hF2; have y0 := hF2.cell HK0.out; dsimp only at c0 c1 c2 c3 c4)
      | (go_at_call 32; refine (HPj.out _ hF2).mono ?_; rintro e w3 ⟨A1, c1', F2, rfl, hc1, hN1, hw3, hG1, _⟩)
      | (go_at_call 15; refine (HSS.out _ F2 hG1 A1 _ c1' hN1).mono ?_; rintro e w4 ⟨A3, c3', rfl, _, _, hw4⟩; rw [HS18.out]))
    go_ret
    exact ⟨rfl, bthen (bthen (bthen hw1 hw2) hw3) hw4⟩
  have hin := Decidable.not_not.1 hin
  rw [if_pos hin] at hpl
  obtain ⟨hk1, hkM, hcl0, hclW⟩ := hin
  obtain ⟨kn, rfl⟩ : ∃ kn : Nat, k = (kn : Int) + 1 := ⟨(k - 1).toNat, by omega⟩
  obtain ⟨cn, rfl⟩ : ∃ cn : Nat, cl = (cn : Int) := ⟨cl.toNat, by omega⟩
  obtain ⟨U, hU⟩ : ∃ U, uptoN atomM t j = U := ⟨_, rfl⟩
  rw [hU] at hpl hua
  have hmul : kn * Wd ≤ 10000000 := Nat.le_trans (Nat.mul_le_mul (show kn ≤ 1000 by omega) hwb) (by omega)
  have hmz : (kn : Int) * (Wd : Int) = ((kn * Wd : Nat) : Int) := by rw [Int.natCast_mul]
  obtain ⟨KW, hKW⟩ : ∃ KW, kn * Wd = KW := ⟨_, rfl⟩
  rw [hKW] at hmz hmul
  rw [show (kn : Int) + 1 - 1 = (kn : Int) by omega, hmz] at hpl
  have hUb : U ≤ 10000000000 := by omega
  have hPn : P = ((U + KW + cn : Nat) : Int) := by rw [hpl]; omega
  subst hPn
  have w1_ : IntKind.i64.wrap ((kn : Int) + 1 - 1) = (kn : Int) := by rw [show (kn : Int) + 1 - 1 = (kn : Int) by omega]; exact wrap_i (by omega) (by omega)
  have w2_ : IntKind.i64.wrap ((kn : Int) * (Wd : Int)) = (KW : Int) := by rw [hmz]; exact wrap_i (by omega) (by omega)
  have w3_ : IntKind.i64.wrap ((U : Int) + (KW : Int)) = ((U + KW : Nat) : Int) := by rw [show (U : Int) + (KW : Int) = ((U + KW : Nat) : Int) by omega]; exact wrap_i (by omega) (by omega)
  obtain ⟨UK, hUK⟩ : ∃ UK, U + KW = UK := ⟨_, rfl⟩
  rw [hUK] at w3_ ⊢
  have w4_ : IntKind.i64.wrap ((UK : Int) + (cn : Int)) = ((UK + cn : Nat) : Int) := by rw [show (UK : Int) + (cn : Int) = ((UK + cn : Nat) : Int) by omega]; exact wrap_i (by omega) (by omega)
  obtain ⟨UKC, hUKC⟩ : ∃ UKC, UK + cn = UKC := ⟨_, rfl⟩
  rw [hUKC] at w4_ ⊢
  have d1 : decide ((kn : Int) + 1 < 1) = false := decide_eq_false (by omega)
  have d2 : decide ((M : Int) < (kn : Int) + 1) = false := decide_eq_false (by omega)
  have d3 : decide ((cn : Int) < 0) = false := decide_eq_false (by omega)
  have d4 : decide (Wd ≤ cn) = false := decide_eq_false (by omega)
  have HU := Lib.hid hU
  have hjc : j ≤ c := by omega
  clear hpl hK hd hmux hnd hps hun hno hx hks hxa hha hra hsp hWd hM hU hmz hKW hUK hUKC hk1 hkM hcl0 hclW hP2 hmul hua
  go_enter Tryz.func12, Tryz.ntmps12
  go_wp2_with (first
    | (go_at_call 31; refine HPL.out.mono ?_; rintro e w1 ⟨rfl, hw1⟩; have hF1 := hF.below hw1; obtain ⟨c0, c1, c2, c3, c4⟩ := HD.out _ hF1; have y0 := hF1.cell HK0.out; dsimp only at c0 c1 c2 c3 c4)
    | (go_at_call 33; refine (HW.out _).mono ?_; rintro e w2 ⟨rfl, hw2⟩; have hF2 := hF1.below hw2; obtain ⟨c0, c1, c2, c3, c4⟩ := HD.out _ hF2; have y0 := hF2.cell HK0.out; dsimp only at c0 c1 c2 c3 c4)
    | (go_at_call 32; refine (HPj.out _ hF2).mono ?_; rintro e w3 ⟨A1, c1', F2, rfl, hc1, hN1, hw3, hG1, _⟩)
    | (go_at_call 15; refine (HSS.out _ F2 hG1 A1 _ c1' hN1).mono ?_; rintro e w4 ⟨A3, c3', rfl, _, _, hw4⟩; rw [HS18.out]))
  have hb2 := bthen (bthen (bthen hw1 hw2) hw3) hw4
  clear hG1 hN1 hw3 hw4 y0 c0 c1 c2 c3 c4
  go_loopw [9, 10, 66] (fun v9 _ v66 wr => ∃ q : Nat, q ≤ j ∧ v66 = .int .i64 q ∧ v9 = .int .i64 (uptoN atomM t q : Nat) ∧ Below w.heap.size w wr) (fun _ _ v66 _ => j - (intOf v66).toNat)
  case atStart => exact ⟨0, Nat.zero_le _, rfl, rfl, hb2⟩
  case round =>
    obtain ⟨q, hq, rfl, rfl, hbl⟩ := hrel
    have hFr := hF.below hbl
    have hzl := hbl.size
    by_cases hlt : q < j
    · have hqI : (q : Int) < (j : Int) := by omega
      have hql : q < l.length := by omega
      have hqL : (q : Int) < (l.length : Int) := by omega
      obtain ⟨Aq, cq, _, hK, hd⟩ := HLL.out q hql
      have hkd := HKD.out q hql
      have hmux := HMU.out q hql
      have hnd := HND.out q hql
      have hps := HPS.out q hql
      have hua := HUA.out q (by omega)
      have hsa := uptoN_succ atomM t q
      obtain ⟨x', hx'⟩ : ∃ x, t.sub q = x := ⟨_, rfl⟩
      rw [hx'] at hkd hmux hnd hsa
      simp only [hx'] at hps
      obtain ⟨nd, hnde⟩ : ∃ nd, l[q] = nd := ⟨_, rfl⟩
      rw [hnde] at hkd hmux
      simp only [hnde] at hK hd
      obtain ⟨VA, hVA⟩ : ∃ V, uptoN atomM t (q + 1) = V := ⟨_, rfl⟩
      have HVA := Lib.hid hVA
      rw [hVA] at hsa
      obtain ⟨UA, hUA⟩ : ∃ V, uptoN atomM t q = V := ⟨_, rfl⟩
      rw [hUA] at hsa hua ⊢
      have hua' : UA ≤ 10000000000 := by omega
      obtain ⟨R, hR⟩ : ∃ R, x'.root = R := ⟨_, rfl⟩
      rw [hR] at hkd hmux
      obtain ⟨ks, hks⟩ : ∃ ks, x'.rootKids (q + 1 - x'.size) = ks := ⟨_, rfl⟩
      rw [hks] at hkd
      obtain ⟨kind, name, lo, hi', kk⟩ := R
      subst hkd
      dsimp only at hK hd hmux
      obtain ⟨c0, c1, c2, c3, c4⟩ := hd.sat hFr
      dsimp only at c0 c1 c2 c3 c4
      have hRX := Lib.hid hR
      clear hx' hR hks hlt hnde hVA hUA
      by_cases h17 : kind = 17
      · obtain ⟨h, a', hxa, hha, hra, hkk, hsp, hi1⟩ := hmux (.inr h17)
        obtain ⟨_, hwb', _⟩ := hnd h a' hxa hha
        obtain ⟨p1, p2, _, p3, p4', _⟩ := hps h a' hxa hra
        have hRX := hRX.out
        rw [hxa] at hRX
        have hRX : h = ⟨kind, name, lo, hi', kk⟩ := hRX
        subst hRX
        subst h17
        rw [hxa] at hsa
        replace hsa : VA = UA + stepsN a' * wideN ⟨17, name, lo, hi', kk⟩ := hsa
        have hkk : ks = [(q : Int) - 1] := hkk
        subst hkk
        have HW' := Lib.hid (fun X => rwide1_w ⟨17, name, lo, hi', kk⟩ hsp X)
        obtain ⟨Wq, hWq⟩ : ∃ Wd, wideN ⟨17, name, lo, hi', kk⟩ = Wd := ⟨_, rfl⟩
        rw [hWq] at HW' hwb' hsa
        dsimp only at HW'
        have HSS' := Lib.hid (fun (X : World) (G : Fz) (hX : Sat G X) (B : Option Addr) (m e : Nat) (hB : NodesF G B m (a'.flat 0)) => rsteps_w hX (a'.flat 0) (by omega) B m e hB)
        have HS18' : Hid ((zs (kindS (a'.flat 0) 18)).length = stepsN a') := Lib.hid (by rw [length_zs, p2])
        have HPt' := Lib.hid (fun (X : World) (h : Sat F X) => HPt.out X h ((q : Int) - 1) (by omega) (by omega))
        rw [p1] at HPt'
        obtain ⟨Mq, hMq⟩ : ∃ M, stepsN a' = M := ⟨_, rfl⟩
        rw [hMq] at HS18' p4' hsa
        generalize kindS (a'.flat 0) 18 = S18' at *
        generalize a'.flat 0 = qq' at *
        obtain ⟨ak', v, rfl, hv0, hk0⟩ := hK.at1 (k := 0) (by simp)
        obtain rfl : Value.int .i64 ((q : Int) - 1) = v := by simpa using hv0
        rw [show ak'.add 0 = ak' by unfold Addr.add; simp] at hk0
        have hmul : Mq * Wq ≤ 10000000 := Nat.le_trans (Nat.mul_le_mul p4' hwb') (by omega)
        have hmz : (Mq : Int) * (Wq : Int) = ((Mq * Wq : Nat) : Int) := by rw [Int.natCast_mul]
        obtain ⟨MW, hMW⟩ : ∃ MW, Mq * Wq = MW := ⟨_, rfl⟩
        rw [hMW] at hmz hmul hsa
        have wMW : IntKind.i64.wrap ((Mq : Int) * (Wq : Int)) = (MW : Int) := by rw [hmz]; exact wrap_i (by omega) (by omega)
        have wS : IntKind.i64.wrap ((UA : Int) + (MW : Int)) = (VA : Int) := by rw [show (UA : Int) + (MW : Int) = (VA : Int) by omega]; exact wrap_i (by omega) (by omega)
        have HDq := Lib.hid (fun (X : World) (hX : Sat F X) => hd.sat hX)
        have HKq := Lib.hid hk0
        have y0 := hFr.cell hk0
        clear hsa hWq hMq hMW hmz hmux hnd hxa hra hha hK hd hsp hl2 hps hv0 hk0 p1 p2 p3
        go_wp2_with fail
        go_region_held3 (fun w' => w'.cell? ⟨(ad.add (q * 5)).block, (ad.add (q * 5)).off + 2, none⟩ = some (.int .i64 lo) ∧ w'.cell? ⟨(ad.add (q * 5)).block, (ad.add (q * 5)).off + 3, none⟩ = some (.int .i64 hi') ∧ w'.cell? ⟨(ad.add (q * 5)).block, (ad.add (q * 5)).off + 4, none⟩ = some (.slice (some ak') 1 cq) ∧ w'.cell? ak' = some (.int .i64 ((q : Int) - 1))) (go_keep)
          (first
            | (go_at_call 33; refine (HW'.out _).mono ?_; rintro e w8 ⟨rfl, hw8⟩; have hB8 : Below wr.heap.size wr w8 := (by refine bel_trans ?_ hw8; first | exact bel_eqv hB7 rfl rfl rfl rfl); have hF8 := hFr.below hB8; have hd8 := HDq.out _ hF8; have s0 := hd8.2.2.1; have s1 := hd8.2.2.2.1; have s2 := hd8.2.2.2.2; have s3 := hF8.cell HKq.out; clear hd8; dsimp only at s0 s1 s2)
            | (go_at_call 15; refine (HSS'.out _ F2' (by first | exact hG6) A6 _ c6 hN6).mono ?_; rintro e w7 ⟨A7, c7, rfl, _, _, hw7⟩; rw [HS18'.out]; have hB7 : Below wr.heap.size wr w7 := (by refine bel_trans ?_ hw7; first | exact bel_eqv hB6 rfl rfl rfl rfl); have hF7 := hFr.below hB7; have hd7 := HDq.out _ hF7; have s0 := hd7.2.2.1; have s1 := hd7.2.2.2.1; have s2 := hd7.2.2.2.2; have s3 := hF7.cell HKq.out; clear hd7; dsimp only at s0 s1 s2)
            | (go_at_call 32; refine (HPt'.out _ (by first | exact hFr | exact hFr.drew)).mono ?_; rintro e w6 ⟨A6, c6, F2', rfl, hc6, hN6, hw6, hG6, _⟩; have hB6 : Below wr.heap.size wr w6 := (by refine bel_trans ?_ hw6; first | exact bel_eqv (Below.refl _ wr) rfl rfl rfl rfl); have hF6 := hFr.below hB6; have hd6 := HDq.out _ hF6; have s0 := hd6.2.2.1; have s1 := hd6.2.2.2.1; have s2 := hd6.2.2.2.2; have s3 := hF6.cell HKq.out; clear hd6; dsimp only at s0 s1 s2))
        all_goals
          go_wp2_with fail
          go_roundw
          case rel => exact ⟨q + 1, by omega, by go_num, by rw [HVA.out], bthen hbl hB8⟩
          case measure => simp [intOf]; omega
      · have hx0 : atomM x' = 0 := by
          cases x' with
          | leaf h => rfl
          | bin h a b => rfl
          | un h a =>
            have e : h = ⟨kind, name, lo, hi', kk⟩ := hRX.out
            subst e
            simp only [atomM]
            rw [if_neg h17]
        rw [hx0, Nat.add_zero] at hsa
        have hk : (kind == 17) = false := by rw [beq_eq_false_iff_ne]; exact h17
        have HVU : Hid (UA = VA) := Lib.hid hsa.symm
        clear hmux hnd hK hl2 hps hsa hx0 hd
        go_wp2_with fail
        go_roundw
        case rel => exact ⟨q + 1, by omega, by go_num, by rw [HVA.out, HVU.out], hbl⟩
        case measure => simp [intOf]; omega
    · obtain rfl : q = j := by omega
      have hdec : decide ((q : Int) < (q : Int)) = false := decide_eq_false (by omega)
      obtain ⟨c0, c1, c2, c3, c4⟩ := HD.out _ hFr
      dsimp only at c0 c1 c2 c3 c4
      rw [HU.out]
      go_wp2_with (go_at_call 33; refine (HW.out _).mono ?_; rintro e w9 ⟨rfl, hw9⟩)
      go_ret
      exact ⟨rfl, bthen hbl hw9⟩
end Go.Proofs.YtdbbooibkiicnaaGreat
