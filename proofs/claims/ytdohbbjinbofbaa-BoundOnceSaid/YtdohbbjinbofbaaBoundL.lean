/- The walk of the law BoundOnce. -/
import Derived.Test.YtdohbbjinbofbaaBoundJ
set_option linter.unusedVariables false
set_option linter.unusedSimpArgs false
namespace Go.Proofs.Ytdohbbjinbofbaa
open Go.RowKit
/-- The part below a match: it is a list of its own, with as many steps. -/
theorem part_steps {l : List Nd} (hn : l.length ≤ 1000) {t : Tr} (ht : treeS l = some t) (i : Nat) (hi : i < l.length) (h : Nd) (a : Tr) (hx : t.sub i = .un h a) (hr : regS a.root.kind = true) :
    partL l ((i : Int) - 1) = a.flat 0 ∧ (kindS (a.flat 0) 18).length = stepsN a ∧ (a.flat 0).length ≤ 1000 ∧ stepsN a ≤ 1000 := by
  have hlen := tree_len ht
  have hval := sub_valid t i (tree_valid ht)
  rw [hx] at hval
  simp only [validT, Bool.and_eq_true] at hval
  have hva := hval.2
  obtain ⟨hs1, hs2, _⟩ := sub_un_kid (by omega) hx
  have hp := a.size_pos
  have hpart : partL l ((i : Int) - 1) = a.flat 0 := by
    unfold partL
    rw [ht]
    simp only
    rw [if_pos ⟨by omega, by omega⟩, show ((i : Int) - 1).toNat = i - 1 by omega, hs2]
  obtain ⟨a', e1, e2, e3, e4, _⟩ := fold_flat a [] hva
  have ha' : treeS (a.flat 0) = some a' := by
    unfold treeS parseS
    rw [show (Tr.flat a 0) = Tr.flat a (total []) from rfl, e1]
  have hr' : regS a'.root.kind = true := by rw [e3]; exact hr
  have hsh := eq_shape (eq_of_flat a' a 0 (e4 0))
  have hk18 : (kindS (a.flat 0) 18).length = stepsN a := by
    unfold kindS
    have he : ownS (a.flat 0) = ownT a' 0 := by unfold ownS; rw [ha']; simp only; rw [if_pos hr']
    rw [he, ← shape_steps hsh]
    exact own_steps a' 0 _ [] [] (by simpa using tree_flat ha') rfl (regV_of (tree_valid ha') hr')
  have hql : (a.flat 0).length = a.size := Tr.length_flat a 0
  have hsb : stepsN a ≤ 1000 := by have := stepsN_le a; omega
  exact ⟨hpart, hk18, by omega, hsb⟩
set_option maxRecDepth 100000 in
set_option maxHeartbeats 4000000 in
theorem boundOnce_c {F : Fz} {w : World} (hF : Sat F w) (ns : List Nat) (hns : ∀ k ∈ ns, k < 65536) (B : Option Addr) (m d : Nat) (hr : Rd F 1 B m (ns.map encW)) :
    Calls Try.prog 3 #[.slice B m d] w fun e w' => e = .returned (.bool true) ∧ Below w.heap.size w w' := by
  have HMk := Lib.hid (make_w hF ns hns B m d hr true (makeT true ns) rfl)
  have hsz := (make_size true ns).1
  rw [← Tr.length_flat (makeT true ns) 0] at hsz
  obtain ⟨hf, _, hp⟩ := ok_form (make_ok true ns hns).1
  have hp := hp rfl
  obtain ⟨l, hl⟩ : ∃ l, (makeT true ns).flat 0 = l := ⟨_, rfl⟩
  rw [hl] at HMk hsz hf hp
  have hb : (formL l && plainS l) = true := by rw [hf, hp]; rfl
  obtain ⟨_, _, t, ht⟩ := plain_tree hb
  clear hl hr hns
  have hn : l.length ≤ 1000 := by omega
  have hlt := tree_len ht
  have hab := fun i hi => (atomM_le hn ht i hi).1
  have hbb := fun i hi => (atomM_le hn ht i hi).2
  have HUA := Lib.hid (fun i (hi : i ≤ l.length) => uptoN_le (g := atomM) (t := t) (n := l.length) (B := 10000000) hab i hi)
  have HUB := Lib.hid (fun i (hi : i ≤ l.length) => uptoN_le (g := backM) (t := t) (n := l.length) (B := 20000000) hbb i hi)
  have HALA : Hid (uptoN atomM t l.length = atomsN t) := Lib.hid (by rw [hlt, uptoN_all, ← atomsN_all])
  have HALB : Hid (uptoN backM t l.length = backN t) := Lib.hid (by rw [hlt, uptoN_all, ← backN_all])
  have HKD := Lib.hid (fun i (hi : i < l.length) => get_flat_root ht i hi)
  have HMU := Lib.hid (fun i (hi : i < l.length) hm => match_un ht i hi hm)
  have HND := Lib.hid (fun i (hi : i < l.length) => (node_bounds hn ht i hi).1)
  have HPS := Lib.hid (fun i (hi : i < l.length) h a hx hr => part_steps hn ht i hi h a hx hr)
  have hAT := onT_yes (f := atomsN) hb ht
  have hON := onT_yes (f := onceT) hb ht
  have hnb : l.length ≤ 100 := by omega
  have HB := Lib.hid hb
  have HT := Lib.hid ht
  clear hab hbb hlt hf hp hb ht
  go_enter Try.func3, Try.ntmps3
  go_wp2_with fail
  go_at_call 11
  refine HMk.out.mono ?_
  rintro e W ⟨A, c, F1, rfl, hc, hN, hbW, hF1, _⟩
  have hAt := Lib.hid (fun (X : World) (h : Sat F1 X) => batoms_w h l hn A l.length c hc hN (atomsN t) hAT)
  have hOn := Lib.hid (fun (X : World) (h : Sat F1 X) => bonce_w h l hn A l.length c hc hN (onceT t) hON)
  have hPt := Lib.hid (fun (X : World) (h : Sat F1 X) i h1 h2 => part_w h l hn A l.length c hc hN i h1 h2)
  obtain ⟨_, hl2⟩ := hN
  have hzW := hbW.size
  clear hAT hON
  go_wp2_with fail
  go_loopw [4, 5, 7, 8, 13] (fun v4 v5 _ _ v13 wr => ∃ i : Nat, i ≤ l.length ∧ v13 = .int .i64 i ∧ v4 = encU (1 + 2 * uptoN backM t i) ∧ v5 = .int .i64 (uptoN atomM t i : Nat) ∧ Below w.heap.size w wr ∧ Below W.heap.size W wr) (fun _ _ _ _ v13 _ => l.length - (intOf v13).toNat)
  case atStart => exact ⟨0, Nat.zero_le _, rfl, rfl, rfl, hbW, Below.refl _ _⟩
  case round =>
    obtain ⟨i, hi, rfl, rfl, rfl, hbl, hbl2⟩ := hrel
    have hFr := hF1.below hbl2
    have hzl := hbl.size
    have hzl2 := hbl2.size
    by_cases hlt : i < l.length
    · have hiI : (i : Int) < (l.length : Int) := by omega
      have hil : i < l.length := hlt
      have hkd := HKD.out i hil
      obtain ⟨ad, rfl, hL⟩ := hl2 (by omega)
      obtain ⟨Ak, ck, _, hK, hd⟩ := hL i hil
      have hmux := HMU.out i hil
      have hnd := HND.out i hil
      have hps := HPS.out i hil
      have hua := HUA.out i (by omega)
      have hub := HUB.out i (by omega)
      have hsa := uptoN_succ atomM t i
      have hsb := uptoN_succ backM t i
      obtain ⟨x, hx⟩ : ∃ x, t.sub i = x := ⟨_, rfl⟩
      rw [hx] at hkd hmux hnd hsa hsb
      simp only [hx] at hps
      generalize l[i] = nd at *
      obtain ⟨UA, hUA⟩ : ∃ UA, uptoN atomM t i = UA := ⟨_, rfl⟩
      obtain ⟨UB, hUB⟩ : ∃ UB, uptoN backM t i = UB := ⟨_, rfl⟩
      obtain ⟨VA, hVA⟩ : ∃ VA, uptoN atomM t (i + 1) = VA := ⟨_, rfl⟩
      obtain ⟨VB, hVB⟩ : ∃ VB, uptoN backM t (i + 1) = VB := ⟨_, rfl⟩
      rw [hUA] at hua hsa ⊢
      rw [hUB] at hub hsb ⊢
      rw [hVA] at hsa
      rw [hVB] at hsb
      have hua : UA ≤ 1000000000 := by omega
      have hub : UB ≤ 2000000000 := by omega
      obtain ⟨R, hR⟩ : ∃ R, x.root = R := ⟨_, rfl⟩
      rw [hR] at hkd hmux
      obtain ⟨ks, hks⟩ : ∃ ks, x.rootKids (i + 1 - x.size) = ks := ⟨_, rfl⟩
      rw [hks] at hkd
      obtain ⟨kind, name, lo, hi', kk⟩ := R
      subst hkd
      dsimp only at hK hd hmux
      obtain ⟨c0, c1, c2, c3, c4⟩ := hd.sat hFr
      dsimp only at c0 c1 c2 c3 c4
      have hRX := Lib.hid hR
      have hVAX := Lib.hid hVA
      have hVBX := Lib.hid hVB
      clear hUA hUB hVA hVB hx
      by_cases h17 : kind = 17
      · obtain ⟨h, a, hxa, hha, hra, hkk, hsp, hi1⟩ := hmux (.inr h17)
        obtain ⟨_, hwb, _⟩ := hnd h a hxa hha
        obtain ⟨p1, p2, p3, p4⟩ := hps h a hxa hra
        have hRX := hRX.out
        rw [hxa] at hRX
        have hRX : h = ⟨kind, name, lo, hi', kk⟩ := hRX
        subst hRX
        subst h17
        rw [hxa] at hsa hsb
        replace hsa : VA = UA + stepsN a * wideN ⟨17, name, lo, hi', kk⟩ := hsa
        replace hsb : VB = UB := hsb
        have HW := Lib.hid (fun X => wide_w ⟨17, name, lo, hi', kk⟩ hsp X)
        obtain ⟨Wd, hWd⟩ : ∃ Wd, wideN ⟨17, name, lo, hi', kk⟩ = Wd := ⟨_, rfl⟩
        rw [hWd] at HW hwb hsa
        dsimp only at hkk HW
        subst hkk
        have HSS := Lib.hid (fun (X : World) (G : Fz) (hX : Sat G X) (B : Option Addr) (m e : Nat) (hB : NodesF G B m (a.flat 0)) => steps_w hX (a.flat 0) (by omega) B m e hB)
        have HS18 : Hid ((zs (kindS (a.flat 0) 18)).length = stepsN a) := Lib.hid (by rw [length_zs, p2])
        have HPt := Lib.hid (fun (X : World) (h : Sat F1 X) => hPt.out X h ((i : Int) - 1) (by omega) (by omega))
        rw [p1] at HPt
        generalize kindS (a.flat 0) 18 = S18 at *
        generalize a.flat 0 = q at *
        generalize stepsN a = M at *
        obtain ⟨ak, v, rfl, hv0, hk0⟩ := hK.at1 (k := 0) (by simp)
        obtain rfl : Value.int .i64 ((i : Int) - 1) = v := by simpa using hv0
        rw [show ak.add 0 = ak by unfold Addr.add; simp] at hk0
        have hmul : M * Wd ≤ 10000000 := Nat.le_trans (Nat.mul_le_mul p4 hwb) (by omega)
        have hmz : (M : Int) * (Wd : Int) = ((M * Wd : Nat) : Int) := by rw [Int.natCast_mul]
        obtain ⟨MW, hMW⟩ : ∃ MW, M * Wd = MW := ⟨_, rfl⟩
        rw [hMW] at hmz hmul hsa
        have wMW : IntKind.i64.wrap ((M : Int) * (Wd : Int)) = (MW : Int) := by rw [hmz]; exact wrap_i (by omega) (by omega)
        have wS : IntKind.i64.wrap ((UA : Int) + (MW : Int)) = (VA : Int) := by rw [show (UA : Int) + (MW : Int) = (VA : Int) by omega]; exact wrap_i (by omega) (by omega)
        have HBA := Lib.hid (Blk.new wr 30 #[.int .i64 17, .string name, .int .i64 lo, .int .i64 hi', .slice (some ak) 1 ck])
        have hbA := balloc wr (.cells #[.int .i64 17, .string name, .int .i64 lo, .int .i64 hi', .slice (some ak) 1 ck] 30)
        obtain ⟨m0, m1, m2, m3, m4⟩ := blk5 HBA.out
        have hFA := hFr.below hbA
        have y0 := hFA.cell hk0
        have HsB := Lib.hid hsb
        clear hsa hsb hWd hMW hmz hmux hnd hps hxa hra hha hK hd p1 p2 hsp hv0 hk0 hL
        go_wp2_with (first
          | (go_at_call 13; refine (HPt.out _ hFA).mono ?_; rintro e w1 ⟨A1, c1', F2, rfl, hc1, hN1, hw1, hF2, _⟩)
          | (go_at_call 12; refine (HSS.out _ F2 hF2 A1 _ c1' hN1).mono ?_; rintro e w3 ⟨A3, c3', rfl, _, _, hw3⟩; rw [HS18.out]; obtain ⟨m0, m1, m2, m3, m4⟩ := blk5 ((HBA.out.call hw1).call hw3))
          | (go_at_call 14; refine (HW.out _).mono ?_; rintro e w4 ⟨rfl, hw4⟩))
        have hbf := bthen (bthen (bthen hbA hw1) hw3) hw4
        go_roundw
        case rel => exact ⟨i + 1, by omega, by go_num, by rw [hVBX.out, HsB.out], by rw [hVAX.out], bthen hbl hbf, bthen hbl2 hbf⟩
        case measure => simp [intOf]; omega
      by_cases h16 : kind = 16
      · obtain ⟨h, a, hxa, hha, hra, hkk, hsp, hi1⟩ := hmux (.inl h16)
        obtain ⟨_, hwb, _⟩ := hnd h a hxa hha
        obtain ⟨p1, p2, p3, p4⟩ := hps h a hxa hra
        have hRX := hRX.out
        rw [hxa] at hRX
        have hRX : h = ⟨kind, name, lo, hi', kk⟩ := hRX
        subst hRX
        subst h16
        rw [hxa] at hsa hsb
        replace hsa : VA = UA := hsa
        replace hsb : VB = UB + wideN ⟨16, name, lo, hi', kk⟩ * (stepsN a + 1) := hsb
        have HW := Lib.hid (fun X => wide_w ⟨16, name, lo, hi', kk⟩ hsp X)
        obtain ⟨Wd, hWd⟩ : ∃ Wd, wideN ⟨16, name, lo, hi', kk⟩ = Wd := ⟨_, rfl⟩
        rw [hWd] at HW hwb hsb
        dsimp only at hkk HW
        subst hkk
        have HSS := Lib.hid (fun (X : World) (G : Fz) (hX : Sat G X) (B : Option Addr) (m e : Nat) (hB : NodesF G B m (a.flat 0)) => steps_w hX (a.flat 0) (by omega) B m e hB)
        have HS18 : Hid ((zs (kindS (a.flat 0) 18)).length = stepsN a) := Lib.hid (by rw [length_zs, p2])
        have HPt := Lib.hid (fun (X : World) (h : Sat F1 X) => hPt.out X h ((i : Int) - 1) (by omega) (by omega))
        rw [p1] at HPt
        generalize kindS (a.flat 0) 18 = S18 at *
        generalize a.flat 0 = q at *
        generalize stepsN a = M at *
        obtain ⟨ak, v, rfl, hv0, hk0⟩ := hK.at1 (k := 0) (by simp)
        obtain rfl : Value.int .i64 ((i : Int) - 1) = v := by simpa using hv0
        rw [show ak.add 0 = ak by unfold Addr.add; simp] at hk0
        obtain ⟨M1, hM1⟩ : ∃ M1, M + 1 = M1 := ⟨_, rfl⟩
        rw [hM1] at hsb
        have hmul : Wd * M1 ≤ 20000000 := Nat.le_trans (Nat.mul_le_mul hwb (show M1 ≤ 2000 by omega)) (by omega)
        have hmz : (Wd : Int) * (M1 : Int) = ((Wd * M1 : Nat) : Int) := by rw [Int.natCast_mul]
        obtain ⟨MW, hMW⟩ : ∃ MW, Wd * M1 = MW := ⟨_, rfl⟩
        rw [hMW] at hmz hmul hsb
        obtain ⟨P, hP⟩ : ∃ P, 1 + 2 * UB = P := ⟨_, rfl⟩
        rw [hP]
        obtain ⟨M2, hM2⟩ : ∃ M2, 2 * MW = M2 := ⟨_, rfl⟩
        obtain ⟨Z, hZ⟩ : ∃ Z, P + M2 = Z := ⟨_, rfl⟩
        have wA : IntKind.i64.wrap ((M : Int) + 1) = (M1 : Int) := by rw [show (M : Int) + 1 = (M1 : Int) by omega]; exact wrap_i (by omega) (by omega)
        have wMW : IntKind.i64.wrap ((Wd : Int) * (M1 : Int)) = (MW : Int) := by rw [hmz]; exact wrap_i (by omega) (by omega)
        have wC : IntKind.u64.wrap (MW : Int) = (MW : Int) := wrap_u (by omega) (by omega)
        have wM2 : IntKind.u64.wrap (2 * (MW : Int)) = (M2 : Int) := by rw [show 2 * (MW : Int) = (M2 : Int) by omega]; exact wrap_u (by omega) (by omega)
        have wM2' : IntKind.u64.wrap ((MW : Int) * 2) = (M2 : Int) := by rw [show (MW : Int) * 2 = (M2 : Int) by omega]; exact wrap_u (by omega) (by omega)
        have wS : IntKind.u64.wrap ((P : Int) + (M2 : Int)) = (Z : Int) := by rw [show (P : Int) + (M2 : Int) = (Z : Int) by omega]; exact wrap_u (by omega) (by omega)
        have HZ : Hid (Z = 1 + 2 * VB) := Lib.hid (by omega)
        have HBA := Lib.hid (Blk.new wr 30 #[.int .i64 16, .string name, .int .i64 lo, .int .i64 hi', .slice (some ak) 1 ck])
        have hbA := balloc wr (.cells #[.int .i64 16, .string name, .int .i64 lo, .int .i64 hi', .slice (some ak) 1 ck] 30)
        obtain ⟨m0, m1, m2, m3, m4⟩ := blk5 HBA.out
        have hFA := hFr.below hbA
        have y0 := hFA.cell hk0
        have HsA := Lib.hid hsa
        clear hsa hsb hWd hMW hmz hM1 hM2 hP hZ hmux hnd hps hxa hra hha hK hd p1 p2 hsp hv0 hk0 hL
        go_wp2_with (first
          | (go_at_call 13; refine (HPt.out _ hFA).mono ?_; rintro e w1 ⟨A1, c1', F2, rfl, hc1, hN1, hw1, hF2, _⟩)
          | (go_at_call 12; refine (HSS.out _ F2 hF2 A1 _ c1' hN1).mono ?_; rintro e w3 ⟨A3, c3', rfl, _, _, hw3⟩; rw [HS18.out]; obtain ⟨m0, m1, m2, m3, m4⟩ := blk5 ((HBA.out.call hw1).call hw3))
          | (go_at_call 14; refine (HW.out _).mono ?_; rintro e w4 ⟨rfl, hw4⟩))
        have hbf := bthen (bthen (bthen hbA hw1) hw3) hw4
        go_roundw
        case rel => exact ⟨i + 1, by omega, by go_num, by rw [hVBX.out, ← HZ.out], by rw [hVAX.out, HsA.out], bthen hbl hbf, bthen hbl2 hbf⟩
        case measure => simp [intOf]; omega
      · have hx0 : atomM x = 0 ∧ backM x = 0 := by
          cases x with
          | leaf h => exact ⟨rfl, rfl⟩
          | bin h a b => exact ⟨rfl, rfl⟩
          | un h a =>
            have e : h = ⟨kind, name, lo, hi', kk⟩ := hRX.out
            subst e
            simp only [atomM, backM]
            rw [if_neg h17, if_neg h16]
            exact ⟨rfl, rfl⟩
        rw [hx0.1, Nat.add_zero] at hsa
        rw [hx0.2, Nat.add_zero] at hsb
        have h16b : (kind == 16) = false := by rw [beq_eq_false_iff_ne]; exact h16
        have h17b : (kind == 17) = false := by rw [beq_eq_false_iff_ne]; exact h17
        have h16c : (kind != 16) = true := by simp [bne, h16b]
        have h17c : (kind != 17) = true := by simp [bne, h17b]
        have hbA := balloc wr (.cells #[.int .i64 kind, .string name, .int .i64 lo, .int .i64 hi', .slice Ak ks.length ck] 30)
        obtain ⟨m0, m1, m2, m3, m4⟩ := blk5 (Blk.new wr 30 #[.int .i64 kind, .string name, .int .i64 lo, .int .i64 hi', .slice Ak ks.length ck])
        have HsA := Lib.hid hsa
        have HsB := Lib.hid hsb
        clear hsa hsb hmux hnd hps hK hd hx0 hL
        go_wp2_with fail
        go_roundw
        case rel => exact ⟨i + 1, by omega, by go_num, by rw [hVBX.out, HsB.out], by rw [hVAX.out, HsA.out], bthen hbl hbA, bthen hbl2 hbA⟩
        case measure => simp [intOf]; omega
    · obtain rfl : i = l.length := by omega
      have hdec : decide ((l.length : Int) < (l.length : Int)) = false := decide_eq_false (by omega)
      have hub := HUB.out l.length (Nat.le_refl _)
      rw [HALA.out, HALB.out]
      rw [HALB.out] at hub
      have hR : onceT t = onceV (atomsN t) (backN t) := rfl
      have hAt' := hAt.out
      have hOn' := hOn.out
      generalize onceT t = R at *
      generalize atomsN t = N at *
      generalize backN t = K at *
      have hub : K ≤ 2000000000 := by omega
      obtain ⟨V, hV⟩ : ∃ V, 1 + 2 * K = V := ⟨_, rfl⟩
      rw [hV]
      have HAt := Lib.hid hAt'
      clear hAt hOn hAt' HKD HMU HND HPS HUA HUB HALA HALB hPt
      by_cases h10 : 10 < N
      · have hR0 : R = 0 := by rw [hR]; unfold onceV; rw [if_pos h10]
        subst hR0
        have HOn := Lib.hid hOn'
        have h10I : (10 : Int) < (N : Int) := by omega
        clear hOn' hR h10
        go_wp2_with (first
          | (go_at_call 15; refine (HAt.out _ hFr).mono ?_; rintro e w1 ⟨rfl, hw1, hNb⟩)
          | (go_at_call 16; refine (HOn.out _ (hFr.below hw1)).mono ?_; rintro e w2 ⟨rfl, hw2⟩)
          | (go_at_call 17; refine (awake26_w _).mono ?_; rintro e w3 ⟨rfl, hw3⟩))
        go_ret
        exact ⟨by simp, bthen (bthen (bthen hbl hw1) hw2) hw3⟩
      have h10I : decide ((10 : Int) < (N : Int)) = false := decide_eq_false (by omega)
      by_cases h5 : 5 < N
      · have hR0 : R = 4611686018427387904 := by rw [hR]; unfold onceV; rw [if_neg h10, if_pos h5]
        subst hR0
        have HOn := Lib.hid hOn'
        have h5I : (5 : Int) < (N : Int) := by omega
        have h0b : ((N : Int) == 0) = false := by rw [beq_eq_false_iff_ne]; omega
        have h0n : ¬ N = 0 := by omega
        clear hOn' hR h10
        go_wp2_with (first
          | (go_at_call 15; refine (HAt.out _ hFr).mono ?_; rintro e w1 ⟨rfl, hw1, hNb⟩)
          | (go_at_call 16; refine (HOn.out _ (hFr.below hw1)).mono ?_; rintro e w2 ⟨rfl, hw2⟩)
          | (go_at_call 17; refine (awake26_w _).mono ?_; rintro e w3 ⟨rfl, hw3⟩))
        go_ret
        exact ⟨by simp, bthen (bthen (bthen hbl hw1) hw2) hw3⟩
      have hRV : R = V + funcsN N := by
        rw [hR]; unfold onceV; rw [if_neg h10, if_neg h5]; omega
      have hVb : V ≤ 100000000000 := by omega
      clear hR hV h10 h10I
      rcases (show N = 0 ∨ N = 1 ∨ N = 2 ∨ N = 3 ∨ N = 4 ∨ N = 5 by omega) with rfl | rfl | rfl | rfl | rfl | rfl
      · have hR0 : R = V := hRV
        rw [hR0] at hOn'
        have HOn := Lib.hid hOn'
        clear hRV hR0 hOn' h5
        go_wp2_with (first
          | (go_at_call 15; refine (HAt.out _ hFr).mono ?_; rintro e w1 ⟨rfl, hw1, hNb⟩)
          | (go_at_call 16; refine (HOn.out _ (hFr.below hw1)).mono ?_; rintro e w2 ⟨rfl, hw2⟩)
          | (go_at_call 17; refine (awake26_w _).mono ?_; rintro e w3 ⟨rfl, hw3⟩))
        go_ret
        exact ⟨by simp, bthen (bthen (bthen hbl hw1) hw2) hw3⟩
      · have hR0 : R = V + 4 := hRV
        obtain ⟨Z, hZ⟩ : ∃ Z, V + 4 = Z := ⟨_, rfl⟩
        have HZ := Lib.hid hZ
        rw [hR0, hZ] at hOn'
        have HOn := Lib.hid hOn'
        have wS : IntKind.u64.wrap ((V : Int) + 4) = (Z : Int) := by rw [show (V : Int) + 4 = (Z : Int) by omega]; exact wrap_u (by omega) (by omega)
        clear hRV hR0 hOn' hZ h5
        go_wp2_with (first
          | (go_at_call 15; refine (HAt.out _ hFr).mono ?_; rintro e w1 ⟨rfl, hw1, hNb⟩)
          | (go_at_call 16; refine (HOn.out _ (hFr.below hw1)).mono ?_; rintro e w2 ⟨rfl, hw2⟩)
          | (go_at_call 17; refine (awake26_w _).mono ?_; rintro e w3 ⟨rfl, hw3⟩))
        go_ret
        exact ⟨by have := HZ.out; simp; try omega, bthen (bthen (bthen hbl hw1) hw2) hw3⟩
      · have hR0 : R = V + 28 := hRV
        obtain ⟨Z, hZ⟩ : ∃ Z, V + 28 = Z := ⟨_, rfl⟩
        have HZ := Lib.hid hZ
        rw [hR0, hZ] at hOn'
        have HOn := Lib.hid hOn'
        have wS : IntKind.u64.wrap ((V : Int) + 28) = (Z : Int) := by rw [show (V : Int) + 28 = (Z : Int) by omega]; exact wrap_u (by omega) (by omega)
        clear hRV hR0 hOn' hZ h5
        go_wp2_with (first
          | (go_at_call 15; refine (HAt.out _ hFr).mono ?_; rintro e w1 ⟨rfl, hw1, hNb⟩)
          | (go_at_call 16; refine (HOn.out _ (hFr.below hw1)).mono ?_; rintro e w2 ⟨rfl, hw2⟩)
          | (go_at_call 17; refine (awake26_w _).mono ?_; rintro e w3 ⟨rfl, hw3⟩))
        go_ret
        exact ⟨by have := HZ.out; simp; try omega, bthen (bthen (bthen hbl hw1) hw2) hw3⟩
      · have hR0 : R = V + 508 := hRV
        obtain ⟨Z, hZ⟩ : ∃ Z, V + 508 = Z := ⟨_, rfl⟩
        have HZ := Lib.hid hZ
        rw [hR0, hZ] at hOn'
        have HOn := Lib.hid hOn'
        have wS : IntKind.u64.wrap ((V : Int) + 508) = (Z : Int) := by rw [show (V : Int) + 508 = (Z : Int) by omega]; exact wrap_u (by omega) (by omega)
        clear hRV hR0 hOn' hZ h5
        go_wp2_with (first
          | (go_at_call 15; refine (HAt.out _ hFr).mono ?_; rintro e w1 ⟨rfl, hw1, hNb⟩)
          | (go_at_call 16; refine (HOn.out _ (hFr.below hw1)).mono ?_; rintro e w2 ⟨rfl, hw2⟩)
          | (go_at_call 17; refine (awake26_w _).mono ?_; rintro e w3 ⟨rfl, hw3⟩))
        go_ret
        exact ⟨by have := HZ.out; simp; try omega, bthen (bthen (bthen hbl hw1) hw2) hw3⟩
      · have hR0 : R = V + 131068 := hRV
        obtain ⟨Z, hZ⟩ : ∃ Z, V + 131068 = Z := ⟨_, rfl⟩
        have HZ := Lib.hid hZ
        rw [hR0, hZ] at hOn'
        have HOn := Lib.hid hOn'
        have wS : IntKind.u64.wrap ((V : Int) + 131068) = (Z : Int) := by rw [show (V : Int) + 131068 = (Z : Int) by omega]; exact wrap_u (by omega) (by omega)
        clear hRV hR0 hOn' hZ h5
        go_wp2_with (first
          | (go_at_call 15; refine (HAt.out _ hFr).mono ?_; rintro e w1 ⟨rfl, hw1, hNb⟩)
          | (go_at_call 16; refine (HOn.out _ (hFr.below hw1)).mono ?_; rintro e w2 ⟨rfl, hw2⟩)
          | (go_at_call 17; refine (awake26_w _).mono ?_; rintro e w3 ⟨rfl, hw3⟩))
        go_ret
        exact ⟨by have := HZ.out; simp; try omega, bthen (bthen (bthen hbl hw1) hw2) hw3⟩
      · have hR0 : R = V + 8589934588 := hRV
        obtain ⟨Z, hZ⟩ : ∃ Z, V + 8589934588 = Z := ⟨_, rfl⟩
        have HZ := Lib.hid hZ
        rw [hR0, hZ] at hOn'
        have HOn := Lib.hid hOn'
        have wS : IntKind.u64.wrap ((V : Int) + 8589934588) = (Z : Int) := by rw [show (V : Int) + 8589934588 = (Z : Int) by omega]; exact wrap_u (by omega) (by omega)
        clear hRV hR0 hOn' hZ h5
        go_wp2_with (first
          | (go_at_call 15; refine (HAt.out _ hFr).mono ?_; rintro e w1 ⟨rfl, hw1, hNb⟩)
          | (go_at_call 16; refine (HOn.out _ (hFr.below hw1)).mono ?_; rintro e w2 ⟨rfl, hw2⟩)
          | (go_at_call 17; refine (awake26_w _).mono ?_; rintro e w3 ⟨rfl, hw3⟩))
        go_ret
        exact ⟨by have := HZ.out; simp; try omega, bthen (bthen (bthen hbl hw1) hw2) hw3⟩
end Go.Proofs.Ytdohbbjinbofbaa
