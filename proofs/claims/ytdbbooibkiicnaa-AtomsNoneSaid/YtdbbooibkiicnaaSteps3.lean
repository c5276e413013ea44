/- The walk of ahead of package steps. -/
import Derived.Test.YtdbbooibkiicnaaSteps2
set_option linter.unusedVariables false
set_option linter.unusedSimpArgs false
/-! The walk of ahead of package steps. -/
namespace Go.Proofs.Ytdbbooibkiicnaa
open Go.RowKit
attribute [local go_sem ↓] Go.wp_at_zero Go.wp_at_succ
/-- A plan of package steps lies in memory. -/
structure SPlan (F : Fz) (gp : Nat) (l : List Nd) (t : Tr) (z : Zf) (M : Nat) (ss : List Nat) (Al : Option Addr) (N cl : Nat) (As : Option Addr) (cs gu gz gf : Nat) : Prop where
  p0 : F.cell ⟨gp, 0, none⟩ = some (.slice Al N cl)
  p1 : F.cell ⟨gp, 1, none⟩ = some (.slice As M cs)
  p3 : F.cell ⟨gp, 3, none⟩ = some (.slice (some ⟨gu, 0, none⟩) N N)
  p4 : F.cell ⟨gp, 4, none⟩ = some (.slice (some ⟨gz, 0, none⟩) N N)
  p5 : F.cell ⟨gp, 5, none⟩ = some (.slice (some ⟨gf, 0, none⟩) N N)
  nodes : NodesF F Al N l
  tree : treeS l = some t
  len : t.size = N
  reg : regV t
  steps : ss = stepsL t 0
  stepn : ss.length = M
  rd : Rd F 1 As M (ss.map fun i => .int .i64 (i : Nat))
  up : ∀ i, i + 1 < N → (posT t i true 0 0).1 = true → F.cell ⟨gu, i, none⟩ = some (.int .i64 (parT t i : Nat))
  zero : ∀ i, i < N → F.cell ⟨gz, i, none⟩ = some (.bool (zerO t z i 0))
  first : ∀ i, i < N → ∃ v, F.cell ⟨gf, i, none⟩ = some v ∧ SetV F v (fstS (fstO t z i))
def RetSA (w : World) (O : Nat → Nat → Bool) (E : Nat → Bool) (e : Ending) (w' : World) : Prop :=
  ∃ v, e = .returned (.tuple #[v, .bool (E 0)]) ∧ Below w.heap.size w w' ∧ SetV (heapF w') v fun b => decide (b ≠ 0) && O (b - 1) 0
set_option maxRecDepth 100000 in
set_option maxHeartbeats 8000000 in
theorem sahead_w {F : Fz} {w : World} (hF : Sat F w) (gp : Nat) (l : List Nd) (t : Tr) (z : Zf) (M : Nat) (ss : List Nat) (Al : Option Addr) (N cl : Nat) (As : Option Addr) (cs gu gz gf : Nat) (hP : SPlan F gp l t z M ss Al N cl As cs gu gz gf) (hN : N ≤ 1000) (k : Int)
    (O : Nat → Nat → Bool) (E : Nat → Bool) (hOE : (O, E) = if 0 ≤ k then stateO z t k.toNat else (fun _ _ => false, fun _ => false)) :
    Calls Try.prog 66 #[.pointer (some ⟨gp, 0, none⟩), .int .i64 k] w (RetSA w O E) := by
  have hN1 : 1 ≤ N := by have := t.size_pos; have := hP.len; omega
  have hMs : M = stepsN t := by have := length_stepsL t 0 hP.reg; have := hP.stepn; rw [hP.steps] at this; omega
  have hMN : M ≤ N := by have := stepsN_le t; have := hP.len; omega
  have p0 := hF.cell hP.p0
  have p1 := hF.cell hP.p1
  have hrt : IntKind.i64.wrap ((N : Int) - 1) = ((N - 1 : Nat) : Int) := by rw [show (N : Int) - 1 = ((N - 1 : Nat) : Int) by omega]; exact IntWalk.i64_in _ (by omega)
  have hrt2 : (N : Int) - 1 = ((N - 1 : Nat) : Int) := by omega
  have HP := Lib.hid hP
  have HMS := Lib.hid hMs
  have hM : M ≤ 1000 := by omega
  have HOE := Lib.hid hOE
  clear hP hMs hMN hOE
  by_cases hneg : k < 0
  · have hOE2 := HOE.out
    rw [if_neg (by omega)] at hOE2
    injection hOE2 with e1 e2
    subst e1 e2
    have hd : decide (k < 0) = true := decide_eq_true hneg
    go_enter Try.func66, Try.ntmps66
    go_wp2_with fail
    go_ret2
    exact ⟨_, rfl, Below.refl _ _, (SetV.nil _).eq fun b => by simp⟩
  by_cases hbig : (M : Int) < k
  · have hOE2 := HOE.out
    rw [if_pos (by omega)] at hOE2
    unfold stateO at hOE2
    rw [if_neg (by omega), if_neg (by have := HMS.out; omega)] at hOE2
    injection hOE2 with e1 e2
    subst e1 e2
    have hd : decide (k < 0) = false := decide_eq_false hneg
    go_enter Try.func66, Try.ntmps66
    go_wp2_with fail
    go_ret2
    exact ⟨_, rfl, Below.refl _ _, (SetV.nil _).eq fun b => by simp⟩
  have hd : decide (k < 0) = false := decide_eq_false hneg
  have hd2 : decide ((M : Int) < k) = false := decide_eq_false hbig
  by_cases hk0 : k = 0
  · subst hk0
    have hOE2 := HOE.out
    rw [if_pos (by omega)] at hOE2
    unfold stateO at hOE2
    rw [if_pos (by rfl)] at hOE2
    injection hOE2 with e1 e2
    subst e1 e2
    obtain ⟨vf, hcf, hSf⟩ := HP.out.first (N - 1) (by omega)
    have hcz := HP.out.zero (N - 1) (by omega)
    have hpr : posT t (N - 1) true 0 0 = (true, 0, 0) := by rw [← HP.out.len]; exact pos_root t true 0 0
    have hsr : t.sub (N - 1) = t := by rw [← HP.out.len]; exact Tr.sub_root t
    unfold fstO at hSf
    unfold zerO at hcz
    rw [hpr, hsr] at hSf hcz
    dsimp only at hSf hcz
    obtain ⟨gs, A, n, c, rfl, hS1⟩ := id hSf
    have p4 := hF.cell HP.out.p4
    have p5 := hF.cell HP.out.p5
    have z0 := hF.cell hcz
    have f0 := hF.cell hcf
    have HS := Lib.hid hSf
    obtain ⟨R, hR⟩ : ∃ R, N - 1 = R := ⟨_, rfl⟩
    have hRI : (R : Int) < (N : Int) := by omega
    rw [hR] at hrt hrt2 z0 f0
    clear hcf hcz hpr hsr hSf hS1 hR HOE
    go_enter Try.func66, Try.ntmps66
    go_wp2_with fail
    go_quiet (fail)
    go_wp2_with fail
    go_ret2
    exact ⟨_, rfl, below_drewN (Below.refl _ _) _, (HS.out.heap (hF.drewN _)).eq fun b => rfl⟩
  · obtain ⟨st, rfl⟩ : ∃ st : Nat, k = (st : Int) + 1 := ⟨k.toNat - 1, by omega⟩
    have hstj : st < M := by omega
    have hOE2 := HOE.out
    rw [if_pos (by omega), show ((st : Int) + 1).toNat = st + 1 by omega] at hOE2
    unfold stateO at hOE2
    rw [if_neg (by omega), if_pos (by have := HMS.out; omega), Nat.add_sub_cancel] at hOE2
    have hO2 : O = (aheadO z t 0 0 st).1 := by have := congrArg Prod.fst hOE2; exact this
    have hE2 : E = (aheadO z t 0 0 st).2 := by have := congrArg Prod.snd hOE2; exact this
    subst hO2 hE2
    have hsl : (stepsL t 0).length = M := by rw [← HP.out.steps]; exact HP.out.stepn
    obtain ⟨q0, hq0⟩ : ∃ q0, (stepsL t 0)[st]? = some q0 := ⟨_, List.getElem?_eq_getElem (by omega)⟩
    obtain ⟨hU0, hA0, hA1⟩ := up_start HP.out.reg z hq0
    obtain ⟨as_, vs, eas, hvs, hcs⟩ := HP.out.rd.at1 hstj
    rw [HP.out.steps, List.getElem?_map, hq0] at hvs
    obtain rfl : Value.int .i64 (q0 : Nat) = vs := by simpa using hvs
    subst eas
    have cs0 := hF.cell hcs
    have hk0b : ((st : Int) + 1 == 0) = false := by rw [beq_eq_false_iff_ne]; omega
    have hstI : (st : Int) < (M : Int) := by omega
    have hd3 : decide ((st : Int) + 1 < 0) = false := decide_eq_false (by omega)
    have hd4 : decide ((M : Int) < (st : Int) + 1) = false := decide_eq_false (by omega)
    have HU0 := Lib.hid hU0
    have HA0 : Hid (SetV (heapF w) (.slice none 0 0) fun b => decide (b ≠ 0) && (aheadI t z st q0).1 (b - 1) 0) := Lib.hid ((SetV.nil _).eq fun b => by rw [hA0]; simp)
    have HA1 := Lib.hid (hA1 0)
    clear hOE2 HOE hq0 hvs hcs hk0 hsl hd hd2 hU0 hA0 hA1
    go_enter Try.func66, Try.ntmps66
    go_wp2_with fail
    obtain ⟨R, hR⟩ : ∃ R, N - 1 = R := ⟨_, rfl⟩
    have HR := Lib.hid hR
    rw [hR]
    clear hR hrt hrt2 cs0 p0 p1
    go_loopw [7, 8, 9] (fun v7 v8 _ wx => ∃ i : Nat, v8 = .int .i64 i ∧ UpI t st i ∧ SetV (heapF wx) v7 (fun b => decide (b ≠ 0) && (aheadI t z st i).1 (b - 1) 0) ∧ Hid ((aheadI t z st i).2 0 = true) ∧ Below w.heap.size w wx) (fun _ v8 _ _ => N - (intOf v8).toNat)
    case atStart => exact ⟨q0, rfl, HU0.out, HA0.out, HA1, Below.refl _ _⟩
    case round =>
      obtain ⟨i, rfl, hU, hS, HT, hbx⟩ := hrel
      obtain ⟨vs, A, n, c, rfl, hS1⟩ := id hS
      have hiN : i < N := by have := hU.1; have := HP.out.len; omega
      have hFx := hF.below hbx
      have HS := Lib.hid hS
      have HB := Lib.hid hbx
      have HU := Lib.hid hU
      clear hS1 hS hbx HU0 HA0 HA1
      by_cases hroot : i = R
      · have he : Hid (aheadI t z st i = aheadO z t 0 0 st) := Lib.hid (by
          have e : i = t.size - 1 := by rw [HP.out.len, HR.out]; exact hroot
          rw [e]
          unfold aheadI
          rw [pos_root, Tr.sub_root])
        have hdec1 : ((i : Int) != (R : Int)) = false := by rw [hroot]; simp
        have hdec2 : ((i : Int) == (R : Int)) = true := by rw [hroot]; simp
        clear hroot hU
        go_wp2_with fail
        go_ret2
        exact ⟨_, by rw [← he.out, HT.out]; rfl, HB.out, HS.out.eq fun b => by rw [he.out]⟩
      · have hneR : ((i : Int) != (R : Int)) = true := by rw [bne_iff_ne]; omega
        have hneR2 : ((i : Int) == (R : Int)) = false := by rw [beq_eq_false_iff_ne]; omega
        have hi1 : i + 1 < N := by have := HR.out; omega
        have hone := up_one HP.out.reg z hU (by rw [HP.out.len]; exact hi1)
        have hup := HP.out.up i hi1 hU.2.1
        obtain ⟨pj, hpj⟩ : ∃ pj, parT t i = pj := ⟨_, rfl⟩
        rw [hpj] at hone hup
        obtain ⟨hij, hUj, hways⟩ := hone
        have hjN : pj < N := by have := hUj.1; have := HP.out.len; omega
        obtain ⟨hln, hl2⟩ := HP.out.nodes
        obtain ⟨ad, rfl, hL⟩ := hl2 (by omega)
        obtain ⟨Ak, ck, hck, hK, hdn⟩ := hL pj (by omega)
        have hgr := get_flat_root HP.out.tree pj (by omega)
        have hkk := kidsN_eq HP.out.tree pj (by omega)
        obtain ⟨nd, hnd⟩ : ∃ nd, l[pj] = nd := ⟨_, rfl⟩
        rw [hnd] at hgr hkk
        simp only [hnd] at hK hdn hck
        have hkd : nd.kind = (t.sub pj).root.kind := by rw [hgr]
        rw [← hkd] at hways
        obtain ⟨kind, name, lo, hi', kk⟩ := nd
        dsimp only at hkk hkd hK hdn hck hways
        obtain ⟨K, hKk⟩ : ∃ K, kk.length = K := ⟨_, rfl⟩
        have hKb : K ≤ 2 := by have := kidsN_len t pj; rw [← hKk, hkk]; simpa [zs] using this
        obtain ⟨c0, c1, c2, c3, c4⟩ := hdn.sat hFx
        dsimp only at c0 c1 c2 c3 c4
        rw [hKk] at c4 hK hck
        have q0c := hFx.cell HP.out.p0
        have q3c := hFx.cell HP.out.p3
        have u0 := hFx.cell hup
        have hiI : (i : Int) < (N : Int) := by omega
        have hjI : (pj : Int) < (N : Int) := by omega
        have HUP := Lib.hid hup
        have HK := Lib.hid hK
        have HKK := Lib.hid hkk
        have HKL := Lib.hid hKk
        have HUj := Lib.hid hUj
        have HW := Lib.hid hways
        clear hup hK hkk hKk hUj hways hgr hnd hdn hL hl2 hln hkd hpj hU hroot
        go_wp2_with fail
        have x1 := World.new_ne wr _ q0c
        have x3 := World.new_ne wr _ u0
        have x4 := World.new_ne wr _ c0
        have x4' : wr.heap.size ≠ (ad.add (pj * 5)).block := x4
        go_region_held3 (fun w' => w'.cell? ⟨gp, 0, none⟩ = some (.slice (some ad) N cl) ∧ w'.cell? ⟨gp, 3, none⟩ = some (.slice (some ⟨gu, 0, none⟩) N N) ∧ w'.cell? ⟨gu, i, none⟩ = some (.int .i64 (pj : Nat)) ∧ w'.cell? (ad.add (pj * 5)) = some (.int .i64 kind) ∧ w'.cell? ⟨(ad.add (pj * 5)).block, (ad.add (pj * 5)).off + 1, none⟩ = some (.string name) ∧ w'.cell? ⟨(ad.add (pj * 5)).block, (ad.add (pj * 5)).off + 2, none⟩ = some (.int .i64 lo) ∧ w'.cell? ⟨(ad.add (pj * 5)).block, (ad.add (pj * 5)).off + 3, none⟩ = some (.int .i64 hi') ∧ w'.cell? ⟨(ad.add (pj * 5)).block, (ad.add (pj * 5)).off + 4, none⟩ = some (.slice Ak K ck)) (refine ⟨?_, ?_, ?_, ?_, ?_, ?_, ?_, ?_⟩ <;> go_keep) (fail)
        all_goals
          have hkn := Blk.drew (Blk.new wr 29 #[.int .i64 kind, .string name, .int .i64 lo, .int .i64 hi', .slice Ak K ck])
          have hbW := below_drewN (balloc wr (.cells #[.int .i64 kind, .string name, .int .i64 lo, .int .i64 hi', .slice Ak K ck] 29)) 1
          obtain ⟨W, hW⟩ : ∃ W, (wr.alloc (.cells #[.int .i64 kind, .string name, .int .i64 lo, .int .i64 hi', .slice Ak K ck] 29)).drew = W := ⟨_, rfl⟩
          have hbW' : Below wr.heap.size wr W := hW ▸ hbW
          rw [hW] at hkn ⊢
          obtain ⟨m0, m1, m2, m3, m4⟩ := blk5 hkn
          have hkl := hkn.lt
          have hFW := hFx.below hbW'
          have HSW := Lib.hid (HS.out.heap ((sat_heapF wr).below hbW'))
          have HBW := Lib.hid (bthen HB.out hbW')
          have q3c := hFW.cell HP.out.p3
          have u0 := hFW.cell HUP.out
          have q5c := hFW.cell HP.out.p5
          clear hW hbW hbW' hkn x1 x3 x4 x4' c0 c1 c2 c3 c4 q0c hFx
          rcases HW.out with ⟨hkd, hkk, e1, e2⟩ | ⟨hkd, ⟨ia, ib, hkk⟩, e1⟩ | ⟨hkd, ⟨ia, hia, hkk⟩, e1⟩ | ⟨hkd, ib, hib, hkk, e1, e2⟩
          · subst hkd
            obtain ⟨vf, hcf, hSf⟩ := HP.out.first i hiN
            obtain ⟨gf', Af, nf, cf, rfl, hh⟩ := id hSf
            have f0 := hFW.cell hcf
            have HO := Lib.hid (setV_or (sat_heapF W) hFW HSW.out hSf)
            have HA : Hid (∀ b, ((decide (b ≠ 0) && (aheadI t z st i).1 (b - 1) 0) || fstS (fstO t z i) b) = (decide (b ≠ 0) && (aheadI t z st pj).1 (b - 1) 0)) := Lib.hid (fun b => by rw [e1, HT.out]; unfold fstS; cases decide (b ≠ 0) <;> simp)
            have HT2 : Hid ((aheadI t z st pj).2 0 = true) := Lib.hid (by rw [e2]; exact HT.out)
            clear hcf hSf hh hkk e1 e2 HW
            go_wp2_with (go_at_call 68; refine HO.out.mono ?_; rintro e w4 ⟨v4, rfl, hb4, hS4⟩; have hF4 := hFW.below hb4; have r3 := hF4.cell HP.out.p3; have ru := hF4.cell HUP.out; obtain ⟨gs4, A4, n4, d4, rfl, hh4⟩ := id hS4; have HS4 := Lib.hid hS4; clear hh4 hS4)
            go_roundw
            case rel => exact ⟨pj, rfl, HUj.out, HS4.out.eq HA.out, HT2, bthen HBW.out hb4⟩
            case measure => simp [intOf]; omega
          · subst hkd
            have HS2 : Hid (SetV (heapF W) (.slice A n c) fun b => decide (b ≠ 0) && (aheadI t z st pj).1 (b - 1) 0) := Lib.hid (by rw [e1]; exact HSW.out)
            have HT2 : Hid ((aheadI t z st pj).2 0 = true) := Lib.hid (by rw [e1]; exact HT.out)
            clear hkk e1 HW
            go_wp2_with fail
            go_roundw
            case rel => exact ⟨pj, rfl, HUj.out, HS2.out, HT2, HBW.out⟩
            case measure => simp [intOf]; omega
          · subst hkd
            have HS2 : Hid (SetV (heapF W) (.slice A n c) fun b => decide (b ≠ 0) && (aheadI t z st pj).1 (b - 1) 0) := Lib.hid (by rw [e1]; exact HSW.out)
            have HT2 : Hid ((aheadI t z st pj).2 0 = true) := Lib.hid (by rw [e1]; exact HT.out)
            have hk2 : kk = [(ia : Int), (i : Int)] := by rw [HKK.out, hkk]; rfl
            have hK2 : K = 2 := by rw [← HKL.out, hk2]; rfl
            subst hK2
            have hKr := HK.out
            rw [hk2] at hKr
            obtain ⟨ak, vk, rfl, hv0, hk0⟩ := hKr.at1 (k := 0) (by omega)
            obtain rfl : Value.int .i64 (ia : Int) = vk := by simpa using hv0
            rw [show ak.add 0 = ak by unfold Addr.add; simp] at hk0
            have k0c := hFW.cell hk0
            have hne : ((ia : Int) == (i : Int)) = false := by rw [beq_eq_false_iff_ne]; omega
            clear hkk e1 HW hKr hv0 hk0 hk2
            go_wp2_with fail
            go_roundw
            case rel => exact ⟨pj, rfl, HUj.out, HS2.out, HT2, HBW.out⟩
            case measure => simp [intOf]; omega
          · subst hkd
            have hk2 : kk = [(i : Int), (ib : Int)] := by rw [HKK.out, hkk]; rfl
            have hK2 : K = 2 := by rw [← HKL.out, hk2]; rfl
            subst hK2
            have hKr := HK.out
            rw [hk2] at hKr
            obtain ⟨ak, vk, rfl, hv0, hk0⟩ := hKr.at1 (k := 0) (by omega)
            obtain rfl : Value.int .i64 (i : Int) = vk := by simpa using hv0
            rw [show ak.add 0 = ak by unfold Addr.add; simp] at hk0
            obtain ⟨ak', vk', eak, hv1, hk1⟩ := hKr.at1 (k := 1) (by omega)
            injection eak with eak
            subst eak
            obtain rfl : Value.int .i64 (ib : Int) = vk' := by simpa using hv1
            have hk1' : F.cell ⟨ak.block, ak.off + 1, none⟩ = some (.int .i64 (ib : Int)) := hk1
            have hibN : ib < N := by have := HP.out.len; omega
            have hibI : (ib : Int) < (N : Int) := by omega
            obtain ⟨vf, hcf, hSf⟩ := HP.out.first ib hibN
            obtain ⟨gf', Af, nf, cf, rfl, hh⟩ := id hSf
            have hcz := HP.out.zero ib hibN
            have f0 := hFW.cell hcf
            have k0c := hFW.cell hk0
            have k1c := hFW.cell hk1'
            have HO := Lib.hid (fun (X : World) (hb : Below W.heap.size W X) => setV_or ((sat_heapF W).below hb) (hFW.below hb) HSW.out hSf)
            have HA : Hid (∀ b, ((decide (b ≠ 0) && (aheadI t z st i).1 (b - 1) 0) || fstS (fstO t z ib) b) = (decide (b ≠ 0) && (aheadI t z st pj).1 (b - 1) 0)) := Lib.hid (fun b => by rw [e1, HT.out]; unfold fstS; cases decide (b ≠ 0) <;> simp)
            have HT2 : Hid ((aheadI t z st pj).2 0 = zerO t z ib 0) := Lib.hid (by rw [e2, HT.out]; rfl)
            have HCF := Lib.hid hcf
            have HK1 := Lib.hid hk1'
            have HCZ := Lib.hid hcz
            clear hcf hSf hh hkk e1 e2 HW hKr hv0 hv1 hk0 hk1 hk1' hk2 hcz
            have HKN := Lib.hid m4
            go_wp2_with fail
            go_region_held3 (fun w' => w'.cell? ⟨gp, 5, none⟩ = some (.slice (some ⟨gf, 0, none⟩) N N) ∧ w'.cell? ⟨wr.heap.size, 4, none⟩ = some (.slice (some ak) 2 ck) ∧ w'.cell? ⟨ak.block, ak.off + 1, none⟩ = some (.int .i64 (ib : Nat)) ∧ w'.cell? ⟨gf, ib, none⟩ = some (.slice Af nf cf)) (refine ⟨?_, ?_, ?_, ?_⟩ <;> go_keep)
              (first
                | (go_at_call 68; refine (HO.out W.drew (below_drewN (Below.refl _ _) 1)).mono ?_; rintro e w4 ⟨v4, rfl, hb4, hS4⟩; have hb4' : Below W.heap.size W w4 := undr hb4; have hF4 := hFW.below hb4'; have r5 := hF4.cell HP.out.p5; have rn := (hb4'.cell (p := ⟨wr.heap.size, 4, none⟩) hkl).trans HKN.out; have rk := hF4.cell HK1.out; have rf := hF4.cell HCF.out; obtain ⟨gs4, A4, n4, d4, rfl, hh4⟩ := id hS4; have HS4 := Lib.hid hS4; have HB4 := Lib.hid hb4'; clear hh4 hS4 hb4))
            have z4 := hF4.cell HCZ.out
            have p4 := hF4.cell HP.out.p4
            have p3 := hF4.cell HP.out.p3
            have u4 := hF4.cell HUP.out
            obtain ⟨Z, hZ⟩ : ∃ Z, zerO t z ib 0 = Z := ⟨_, rfl⟩
            have HZ := Lib.hid hZ
            rw [hZ] at z4
            clear hZ
            cases Z
            · go_wp2_with fail
              go_quiet (fail)
              go_wp2_with fail
              go_ret2
              obtain ⟨s1, s2⟩ := up_stop HP.out.reg z t.size pj (by omega) HUj.out (x := 0) (by rw [HT2.out]; exact HZ.out)
              exact ⟨_, by rw [s1]; rfl, below_drewN (bthen HBW.out HB4.out) _, (HS4.out.heap ((sat_heapF w4).drewN _)).eq fun b => by rw [HA.out, s2]⟩
            · go_wp2_with fail
              go_quiet (fail)
              go_wp2_with fail
              go_roundw
              case rel => exact ⟨pj, rfl, HUj.out, (HS4.out.heap ((sat_heapF w4).drewN _)).eq HA.out, Lib.hid (by rw [HT2.out]; exact HZ.out), below_drewN (bthen HBW.out HB4.out) _⟩
              case measure => simp [intOf]; omega
end Go.Proofs.Ytdbbooibkiicnaa
