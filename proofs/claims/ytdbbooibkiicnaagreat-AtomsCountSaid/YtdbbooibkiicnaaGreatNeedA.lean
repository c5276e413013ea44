/- The walks of the reference's Wide, plain, size, parts. -/
import Derived.Test.YtdbbooibkiicnaaGreatBoundA
import Derived.Test.YtdbbooibkiicnaaGreatRPaths
set_option linter.unusedVariables false
set_option linter.unusedSimpArgs false
/-! The walks of the reference's Wide, plain, size, parts. -/
namespace Go.Proofs.YtdbbooibkiicnaaGreat
open Go.RowKit
set_option maxRecDepth 100000 in
theorem rwide1_w (h : Nd) (hs : spanS h.lo h.hi = true) (w : World) : Calls Tryz.prog 33 #[.agg #[.int .i64 h.lo, .int .i64 h.hi]] w fun e w' => e = .returned (.int .i64 (wideN h : Nat)) ∧ Below w.heap.size w w' := by
  obtain ⟨h1, h2, _⟩ := wideN_of hs
  have HB := Lib.hid (Blk.new w 60 #[.int .i64 h.lo, .int .i64 h.hi])
  obtain ⟨k0, k1, _, _⟩ := blkA HB.out
  have HM := Lib.hid (fun X => rmaySpan_b h.lo h.hi true hs X)
  obtain ⟨W, hW⟩ : ∃ W, wideN h = W := ⟨_, rfl⟩
  rw [hW] at h1 h2 ⊢
  unfold lastV at h1
  clear hs hW
  generalize h.lo = lo at *
  generalize h.hi = hi at *
  by_cases e : hi = -1
  · subst e
    rw [if_pos rfl] at h1
    have wS : IntKind.i64.wrap (lo + 1) = (W : Int) := by rw [h1]; exact wrap_i (by omega) (by omega)
    have H1 := Lib.hid h1
    clear h1
    go_enter Tryz.func33, Tryz.ntmps33
    go_wp2_with (go_at_call 60; refine (HM.out _).mono ?_; rintro e w1 ⟨rfl, hw1⟩; obtain ⟨q0, q1, _, _⟩ := blkA (HB.out.call hw1))
    go_ret
    exact ⟨by first | rfl | rw [← H1.out] | simp [wS], bthen (balloc _ _) hw1⟩
  · have hb : (hi == -1) = false := by rw [beq_eq_false_iff_ne]; exact e
    rw [if_neg e] at h1
    have wS : IntKind.i64.wrap (hi + 1) = (W : Int) := by rw [h1]; exact wrap_i (by omega) (by omega)
    have H1 := Lib.hid h1
    clear h1 e
    go_enter Tryz.func33, Tryz.ntmps33
    go_wp2_with (go_at_call 60; refine (HM.out _).mono ?_; rintro e w1 ⟨rfl, hw1⟩; obtain ⟨q0, q1, _, _⟩ := blkA (HB.out.call hw1))
    go_ret
    exact ⟨by first | rfl | rw [← H1.out] | simp [wS], bthen (balloc _ _) hw1⟩
set_option maxRecDepth 100000 in
theorem plain26_w {F : Fz} {w : World} (hF : Sat F w) (l : List Nd) (hn : l.length ≤ 1000) (A : Option Addr) (n c : Nat) (hl : NodesF F A n l) (b : Bool) (hb : (formL l && plainS l) = b) :
    Calls Tryz.prog 31 #[.slice A n c] w fun e w' => e = .returned (.bool b) ∧ Below w.heap.size w w' := by
  have h1 := fun (X : World) (h : Sat F X) b hb => rform_w h l hn A n c hl b hb
  have h2 := fun b hb => rplain_w hF l hn A n c hl b hb
  cases e1 : plainS l
  · have H2 := Lib.hid (h2 _ e1)
    have HB : Hid (b = false) := Lib.hid (by rw [← hb, e1, Bool.and_false])
    clear h1 h2 hb e1
    go_enter Tryz.func31, Tryz.ntmps31
    go_wp2_with (go_at_call 57; refine H2.out.mono ?_; rintro e w1 ⟨rfl, hw1⟩)
    go_ret
    exact ⟨by rw [HB.out] <;> rfl, hw1⟩
  · have H2 := Lib.hid (h2 _ e1)
    have H1 := Lib.hid (fun (X : World) (h : Sat F X) => h1 X h b (by rw [← hb, e1, Bool.and_true]))
    clear h1 h2 hb e1
    go_enter Tryz.func31, Tryz.ntmps31
    go_wp2_with (first
      | (go_at_call 57; refine H2.out.mono ?_; rintro e w1 ⟨rfl, hw1⟩)
      | (go_at_call 43; refine (H1.out _ (hF.below hw1)).mono ?_; rintro e w2 ⟨rfl, hw2⟩))
    go_ret
    exact ⟨rfl, bthen hw1 hw2⟩
end Go.Proofs.YtdbbooibkiicnaaGreat
/-! The walks of the reference's Atoms, Words, Once. -/
namespace Go.Proofs.YtdbbooibkiicnaaGreat
open Go.RowKit
/-- The part below a match: it is a list of its own, with as many steps. -/
theorem part_steps26 {l : List Nd} (hn : l.length ≤ 1000) {t : Tr} (ht : treeS l = some t) (i : Nat) (hi : i < l.length) (h : Nd) (a : Tr) (hx : t.sub i = .un h a) (hr : regS a.root.kind = true) :
    partL l ((i : Int) - 1) = a.flat 0 ∧ (kindS (a.flat 0) 18).length = stepsN a ∧ (kindS (a.flat 0) 19).length = testsT a ∧ (a.flat 0).length ≤ 1000 ∧ stepsN a ≤ 1000 ∧ testsT a ≤ 1000 := by
  have hlen := tree_len ht
  have hval := sub_valid t i (tree_valid ht)
  rw [hx] at hval
  simp only [validT, Bool.and_eq_true] at hval
  have hva := hval.2
  obtain ⟨hs1, hs2, _⟩ := sub_un_kid (by omega) hx
  have hp := a.size_pos
  have hpart : partL l ((i : Int) - 1) = a.flat 0 := by
    unfold partL
    rw [ht]
    simp only
    rw [if_pos ⟨by omega, by omega⟩, show ((i : Int) - 1).toNat = i - 1 by omega, hs2]
  obtain ⟨a', e1, e2, e3, e4, _⟩ := fold_flat a [] hva
  have ha' : treeS (a.flat 0) = some a' := by
    unfold treeS parseS
    rw [show (Tr.flat a 0) = Tr.flat a (total []) from rfl, e1]
  have hr' : regS a'.root.kind = true := by rw [e3]; exact hr
  have hsh := eq_shape (eq_of_flat a' a 0 (e4 0))
  have he : ownS (a.flat 0) = ownT a' 0 := by unfold ownS; rw [ha']; simp only; rw [if_pos hr']
  have hk18 : (kindS (a.flat 0) 18).length = stepsN a := by
    unfold kindS
    rw [he, ← shape_steps hsh]
    exact own_steps a' 0 _ [] [] (by simpa using tree_flat ha') rfl (regV_of (tree_valid ha') hr')
  have hk19 : (kindS (a.flat 0) 19).length = testsT a := by
    unfold kindS
    have := ownK_tests (tree_flat ha') (regV_of (tree_valid ha') hr')
    rw [he]
    refine (congrArg List.length this).trans ?_
    rw [shape_testsL 0 hsh e2, length_tests]
  have hql : (a.flat 0).length = a.size := Tr.length_flat a 0
  have hsb := stepsN_le a
  have htb := testsT_le a
  exact ⟨hpart, hk18, hk19, by omega, by omega, by omega⟩
set_option maxRecDepth 100000 in
set_option maxHeartbeats 4000000 in
theorem atoms26_w {F : Fz} {w : World} (hF : Sat F w) (l : List Nd) (hn : l.length ≤ 1000) (A : Option Addr) (n c : Nat) (hc : n ≤ c) (hl : NodesF F A n l) (N : Nat) (hN : onT atomsN l = N) :
    Calls Tryz.prog 10 #[.slice A n c] w fun e w' => e = .returned (.int .i64 (N : Nat)) ∧ Below w.heap.size w w' := by
  cases hb : (formL l && plainS l)
  · have h0 := onT_no (f := atomsN) hb
    rw [hN] at h0
    subst h0
    have HP := Lib.hid (plain26_w hF l hn A n c hl false hb)
    clear hN hb hl hn
    go_enter Tryz.func10, Tryz.ntmps10
    go_wp2_with (go_at_call 31; refine HP.out.mono ?_; rintro e w1 ⟨rfl, hw1⟩)
    go_ret
    exact ⟨rfl, hw1⟩
  obtain ⟨hf, hp, t, ht⟩ := plain_tree hb
  have hN2 := onT_yes (f := atomsN) hb ht
  rw [hN] at hN2
  have hlt := tree_len ht
  have hab := fun i hi => (atomM_le hn ht i hi).1
  have HUA := Lib.hid (fun i (hi : i ≤ l.length) => uptoN_le (g := atomM) (t := t) (n := l.length) (B := 10000000) hab i hi)
  have HALA : Hid (uptoN atomM t l.length = N) := Lib.hid (by rw [hlt, uptoN_all, ← atomsN_all, hN2])
  have HKD := Lib.hid (fun i (hi : i < l.length) => get_flat_root ht i hi)
  have HMU := Lib.hid (fun i (hi : i < l.length) hm => match_un ht i hi hm)
  have HND := Lib.hid (fun i (hi : i < l.length) => (node_bounds hn ht i hi).1)
  have HPS := Lib.hid (fun i (hi : i < l.length) h a hx hr => part_steps26 hn ht i hi h a hx hr)
  have HPL := Lib.hid (plain26_w hF l hn A n c hl true hb)
  have hPt := Lib.hid (fun (X : World) (h : Sat F X) i h1 h2 => rpart_w h l hn A n c hc hl i h1 h2)
  obtain ⟨hln, hl2⟩ := hl
  have hnn : n ≤ 1000 := by omega
  subst hln
  clear hab hN hb hf hp hN2 hlt ht hc
  go_enter Tryz.func10, Tryz.ntmps10
  go_wp2_with (go_at_call 31; refine HPL.out.mono ?_; rintro e w0 ⟨rfl, hw0⟩)
  have hF0 := hF.below hw0
  have hz0 := hw0.size
  go_loopw [3, 5, 11] (fun v3 _ v11 wr => ∃ i : Nat, i ≤ l.length ∧ v11 = .int .i64 i ∧ v3 = .int .i64 (uptoN atomM t i : Nat) ∧ Below w.heap.size w wr ∧ Below w0.heap.size w0 wr) (fun _ _ v11 _ => l.length - (intOf v11).toNat)
  case atStart => exact ⟨0, Nat.zero_le _, rfl, rfl, hw0, Below.refl _ _⟩
  case round =>
    obtain ⟨i, hi, rfl, rfl, hbl, hbl2⟩ := hrel
    have hFr := hF0.below hbl2
    have hzl := hbl.size
    have hzl2 := hbl2.size
    by_cases hlt : i < l.length
    · have hiI : (i : Int) < (l.length : Int) := by omega
      have hkd := HKD.out i hlt
      obtain ⟨ad, rfl, hL⟩ := hl2 (by omega)
      obtain ⟨Ak, ck, _, hK, hd⟩ := hL i hlt
      have hmux := HMU.out i hlt
      have hnd := HND.out i hlt
      have hps := HPS.out i hlt
      have hua := HUA.out i (by omega)
      have hsa := uptoN_succ atomM t i
      obtain ⟨x, hx⟩ : ∃ x, t.sub i = x := ⟨_, rfl⟩
      rw [hx] at hkd hmux hnd hsa
      simp only [hx] at hps
      generalize l[i] = nd at *
      obtain ⟨VA, hVA⟩ : ∃ V, uptoN atomM t (i + 1) = V := ⟨_, rfl⟩
      have HVA := Lib.hid hVA
      rw [hVA] at hsa
      clear hVA
      generalize uptoN atomM t i = UA at *
      have hua' : UA ≤ 10000000000 := by omega
      obtain ⟨R, hR⟩ : ∃ R, x.root = R := ⟨_, rfl⟩
      rw [hR] at hkd hmux
      obtain ⟨ks, hks⟩ : ∃ ks, x.rootKids (i + 1 - x.size) = ks := ⟨_, rfl⟩
      rw [hks] at hkd
      obtain ⟨kind, name, lo, hi', kk⟩ := R
      subst hkd
      dsimp only at hK hd hmux
      obtain ⟨c0, c1, c2, c3, c4⟩ := hd.sat hFr
      dsimp only at c0 c1 c2 c3 c4
      have hRX := Lib.hid hR
      clear hx hR hks hlt
      by_cases h17 : kind = 17
      · obtain ⟨h, a, hxa, hha, hra, hkk, hsp, hi1⟩ := hmux (.inr h17)
        obtain ⟨_, hwb, _⟩ := hnd h a hxa hha
        obtain ⟨p1, p2, _, p3, p4, _⟩ := hps h a hxa hra
        have hRX := hRX.out
        rw [hxa] at hRX
        have hRX : h = ⟨kind, name, lo, hi', kk⟩ := hRX
        subst hRX
        subst h17
        rw [hxa] at hsa
        replace hsa : VA = UA + stepsN a * wideN ⟨17, name, lo, hi', kk⟩ := hsa
        have HW := Lib.hid (fun X => rwide1_w ⟨17, name, lo, hi', kk⟩ hsp X)
        obtain ⟨Wd, hWd⟩ : ∃ Wd, wideN ⟨17, name, lo, hi', kk⟩ = Wd := ⟨_, rfl⟩
        rw [hWd] at HW hwb hsa
        dsimp only at hkk HW
        subst hkk
        have HSS := Lib.hid (fun (X : World) (G : Fz) (hX : Sat G X) (B : Option Addr) (m e : Nat) (hB : NodesF G B m (a.flat 0)) => rsteps_w hX (a.flat 0) (by omega) B m e hB)
        have HS18 : Hid ((zs (kindS (a.flat 0) 18)).length = stepsN a) := Lib.hid (by rw [length_zs, p2])
        have HPt := Lib.hid (fun (X : World) (h : Sat F X) => hPt.out X h ((i : Int) - 1) (by omega) (by omega))
        rw [p1] at HPt
        generalize kindS (a.flat 0) 18 = S18 at *
        generalize a.flat 0 = q at *
        generalize stepsN a = M at *
        obtain ⟨ak, v, rfl, hv0, hk0⟩ := hK.at1 (k := 0) (by simp)
        obtain rfl : Value.int .i64 ((i : Int) - 1) = v := by simpa using hv0
        rw [show ak.add 0 = ak by unfold Addr.add; simp] at hk0
        have hmul : M * Wd ≤ 10000000 := Nat.le_trans (Nat.mul_le_mul p4 hwb) (by omega)
        have hmz : (M : Int) * (Wd : Int) = ((M * Wd : Nat) : Int) := by rw [Int.natCast_mul]
        obtain ⟨MW, hMW⟩ : ∃ MW, M * Wd = MW := ⟨_, rfl⟩
        rw [hMW] at hmz hmul hsa
        have wMW : IntKind.i64.wrap ((M : Int) * (Wd : Int)) = (MW : Int) := by rw [hmz]; exact wrap_i (by omega) (by omega)
        have wS : IntKind.i64.wrap ((UA : Int) + (MW : Int)) = (VA : Int) := by rw [show (UA : Int) + (MW : Int) = (VA : Int) by omega]; exact wrap_i (by omega) (by omega)
        have HBA := Lib.hid (Blk.new wr 62 #[.int .i64 17, .string name, .int .i64 lo, .int .i64 hi', .slice (some ak) 1 ck])
        have hbA := balloc wr (.cells #[.int .i64 17, .string name, .int .i64 lo, .int .i64 hi', .slice (some ak) 1 ck] 62)
        obtain ⟨W, hW⟩ : ∃ W, W = wr.alloc (.cells #[.int .i64 17, .string name, .int .i64 lo, .int .i64 hi', .slice (some ak) 1 ck] 62) := ⟨_, rfl⟩
        rw [← hW] at HBA hbA
        obtain ⟨m0, m1, m2, m3, m4⟩ := blk5 HBA.out
        have hFA := hFr.below hbA
        have y0 := hFA.cell hk0
        have yl := hFA.clt hk0
        have hml := HBA.out.lt
        have HWX := Lib.hid hW
        clear hsa hWd hMW hmz hmux hnd hps hxa hra hha hK hd p1 p2 hsp hv0 hk0 hL hW hl2
        go_wp2_with fail
        rw [← HWX.out]
        go_region_held3 (fun w' => w'.cell? ⟨wr.heap.size, 2, none⟩ = some (.int .i64 lo) ∧ w'.cell? ⟨wr.heap.size, 3, none⟩ = some (.int .i64 hi') ∧ w'.cell? ⟨wr.heap.size, 4, none⟩ = some (.slice (some ak) 1 ck) ∧ w'.cell? ak = some (.int .i64 ((i : Int) - 1))) (go_keep)
          (first
            | (go_at_call 33; refine (HW.out _).mono ?_; rintro e w4 ⟨rfl, hw4⟩; have hB4 : Below W.heap.size W w4 := (by refine bel_trans ?_ hw4; first | exact bel_eqv hB3 rfl rfl rfl rfl); have s0 := (hB4.cell (p := ⟨wr.heap.size, 2, none⟩) hml).trans m2; have s1 := (hB4.cell (p := ⟨wr.heap.size, 3, none⟩) hml).trans m3; have s2 := (hB4.cell (p := ⟨wr.heap.size, 4, none⟩) hml).trans m4; have s3 := (hB4.cell (p := ak) yl).trans y0)
            | (go_at_call 15; refine (HSS.out _ F2 (by first | exact hG1) A1 _ c1' hN1).mono ?_; rintro e w3 ⟨A3, c3', rfl, _, _, hw3⟩; rw [HS18.out]; have hB3 : Below W.heap.size W w3 := (by refine bel_trans ?_ hw3; first | exact bel_eqv hB1 rfl rfl rfl rfl); have s0 := (hB3.cell (p := ⟨wr.heap.size, 2, none⟩) hml).trans m2; have s1 := (hB3.cell (p := ⟨wr.heap.size, 3, none⟩) hml).trans m3; have s2 := (hB3.cell (p := ⟨wr.heap.size, 4, none⟩) hml).trans m4; have s3 := (hB3.cell (p := ak) yl).trans y0)
            | (go_at_call 32; refine (HPt.out _ (by first | exact hFA | exact hFA.drew)).mono ?_; rintro e w1 ⟨A1, c1', F2, rfl, hc1, hN1, hw1, hG1, _⟩; have hB1 : Below W.heap.size W w1 := (by refine bel_trans ?_ hw1; first | exact bel_eqv (Below.refl _ W) rfl rfl rfl rfl); have s0 := (hB1.cell (p := ⟨wr.heap.size, 2, none⟩) hml).trans m2; have s1 := (hB1.cell (p := ⟨wr.heap.size, 3, none⟩) hml).trans m3; have s2 := (hB1.cell (p := ⟨wr.heap.size, 4, none⟩) hml).trans m4; have s3 := (hB1.cell (p := ak) yl).trans y0))
        all_goals
          go_wp2_with fail
          go_roundw
          case rel => exact ⟨i + 1, by omega, by go_num, by rw [HVA.out], hbl.trans ((bthen hbA hB4).mono hzl), hbl2.trans ((bthen hbA hB4).mono hzl2)⟩
          case measure => simp [intOf]; omega
      · have hx0 : atomM x = 0 := by
          cases x with
          | leaf h => rfl
          | bin h a b => rfl
          | un h a =>
            have e : h = ⟨kind, name, lo, hi', kk⟩ := hRX.out
            subst e
            simp only [atomM]
            rw [if_neg h17]
        rw [hx0, Nat.add_zero] at hsa
        have h17b : (kind == 17) = false := by rw [beq_eq_false_iff_ne]; exact h17
        have hbA := balloc wr (.cells #[.int .i64 kind, .string name, .int .i64 lo, .int .i64 hi', .slice Ak ks.length ck] 62)
        obtain ⟨m0, m1, m2, m3, m4⟩ := blk5 (Blk.new wr 62 #[.int .i64 kind, .string name, .int .i64 lo, .int .i64 hi', .slice Ak ks.length ck])
        have HsA := Lib.hid hsa
        clear hsa hmux hnd hps hK hd hx0 hL
        go_wp2_with fail
        go_roundw
        case rel => exact ⟨i + 1, by omega, by go_num, by rw [HVA.out, HsA.out], bthen hbl hbA, bthen hbl2 hbA⟩
        case measure => simp [intOf]; omega
    · obtain rfl : i = l.length := by omega
      have hdec : decide ((l.length : Int) < (l.length : Int)) = false := decide_eq_false (by omega)
      rw [HALA.out]
      go_wp2_with fail
      go_ret
      exact ⟨rfl, hbl⟩
end Go.Proofs.YtdbbooibkiicnaaGreat
