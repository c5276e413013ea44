/- The walk of bound.Cells. -/
import Derived.Test.YtdohbbjinbofbaaGreatBoundT
import Derived.Test.YtdohbbjinbofbaaGreatBoundJ
set_option linter.unusedVariables false
set_option linter.unusedSimpArgs false
namespace Go.Proofs.YtdohbbjinbofbaaGreat
open Go.RowKit
set_option maxRecDepth 100000 in
set_option maxHeartbeats 8000000 in
theorem bcells_core {F : Fz} {w : World} (hF : Sat F w) (A : Option Addr) (n p c : Nat) (hnp : n = p + 1) (hn : n ≤ 1000) (hc : n ≤ c) (props room : Int) (P : Nat) (hP : min (max props 0) 64 = (P : Int)) (vs : List Nat) (K H Fl R : Nat) (hKb : K ≤ 1000000000) (hHb : H ≤ 1001000) (hFb : Fl ≤ 1000000000000) (hR : H * (3 + P) + K + Fl = R) (hlen : p < vs.length) (hK : vs[p] = K)
    (hFm : Calls Tryz.prog 46 #[.slice A n c] w fun e w' => e = .returned (.bool true) ∧ Below w.heap.size w w')
    (hRE : ∀ X, Sat F X → Calls Tryz.prog 55 #[.slice A n c, .int .i64 room] X fun e w' => ∃ g gv, e = .returned (.slice (some ⟨g, 0, none⟩) n n) ∧ AtB w' g gv n vs ∧ X.heap.size ≤ g ∧ X.heap.size ≤ gv ∧ Below X.heap.size X w')
    (hHd : ∀ X, Sat F X → Calls Tryz.prog 24 #[.slice A n c] X fun e w' => e = .returned (.int .i64 (H : Nat)) ∧ Below X.heap.size X w')
    (hO : ∀ X, Below w.heap.size w X → ∀ g gv gs gsv, w.heap.size ≤ g → gs ≠ g → gsv ≠ g → AtB X g gv n (List.replicate n 0) → AtB X gs gsv n vs →
      Calls Tryz.prog 48 #[.slice A n c, .func (.func 56) #[] #[.pointer (some ⟨gv, 0, none⟩), .pointer (some ⟨gsv, 0, none⟩)]] X fun e w' => e = .returned (encU Fl) ∧ AtB w' gs gsv n vs ∧ Below w.heap.size X w') :
    Calls Tryz.prog 28 #[.slice A n c, .int .i64 props, .int .i64 room] w fun e w' => e = .returned (encU R) ∧ Below w.heap.size w w' := by
  have hmf : ∀ (fn : Fn) (first cap : Array Value) (w : World), (Instr.makeFunc fn first cap).run Tryz.prog w = .ok (.func fn first cap) w := fun _ _ _ _ => rfl
  have hPb : P ≤ 64 := by omega
  have HRE := Lib.hid hRE
  have HO := Lib.hid hO
  have HHd := Lib.hid hHd
  have HFm := Lib.hid hFm
  have HK := Lib.hid hK
  have HR := Lib.hid hR
  have HP := Lib.hid hP
  have HZ : Hid (((List.replicate n 0).map encU).toArray = zeros (.int .u64 0) n) := Lib.hid (by simp [zeros])
  have hmk := fun X => mk49 (w := X) n hn
  have hpb : p ≤ 1000 := by omega
  have hpI : IntKind.i64.wrap ((n : Int) - 1) = (p : Int) := by rw [show (n : Int) - 1 = (p : Int) by omega]; exact wrap_i (by omega) (by omega)
  have hpn : (p : Int) < (n : Int) := by omega
  have hp0 : (0 : Int) ≤ (p : Int) := by omega
  clear hO hRE hc hFm hHd hK hR hP hnp
  go_enter Tryz.func28, Tryz.ntmps28
  go_wp2_with (go_at_call 46; refine HFm.out.mono ?_; rintro e w1 ⟨rfl, hw1⟩)
  have hF1 := hF.below hw1
  have hzw := hw1.size
  go_cut [7, 8] from 13 to 18 (fun a b wx => ∃ g gv gs gsv : Nat, a = .pointer (some ⟨gsv, 0, none⟩) ∧ b = .pointer (some ⟨gv, 0, none⟩) ∧ AtB wx g gv n (List.replicate n 0) ∧ AtB wx gs gsv n vs ∧ gs ≠ g ∧ gsv ≠ g ∧ w1.heap.size ≤ g ∧ Below w1.heap.size w1 wx)
  case first =>
    clear hKb hHb hFb hPb hF
    go_region_with (go_at_call 55; refine (HRE.out _ (by (repeat refine Sat.alloc ?_ _); exact hF1.drew)).mono ?_; rintro e w3 ⟨gs, gsv, rfl, hA, hg1, hg2, hw3⟩; (first | (refine (fun ek => ?_) (keep3 hw3); have hb3 := kb3 hw3; rw [sz3] at hg1 hg2; have f0 := (blk0 ek.1).1; have g0 := (blk0 ek.1).2; have f1 := (blk0 ek.2.1).1; have g1 := (blk0 ek.2.1).2; have f2 := (blk0 ek.2.2).1; have g2 := (blk0 ek.2.2).2; have l0 := ek.1.lt; have l1 := ek.2.1.lt; have l2 := ek.2.2.lt) | (refine (fun ek => ?_) (keep2 hw3); have hb3 := kb2 hw3; rw [sz2] at hg1 hg2; have f0 := (blk0 ek.1).1; have g0 := (blk0 ek.1).2; have f1 := (blk0 ek.2).1; have g1 := (blk0 ek.2).2; have l0 := ek.1.lt; have l1 := ek.2.lt) | (refine (fun ek => ?_) (keep1 hw3); have hb3 := kb1 hw3; rw [sz1] at hg1 hg2; have f0 := (blk0 ek).1; have g0 := (blk0 ek).2; have l0 := ek.lt) | (have hb3 := und hw3; have hg1 : w1.heap.size ≤ gs := hg1; have hg2 : w1.heap.size ≤ gsv := hg2; have ek := hA.at_; have hb3 : Below w1.heap.size w1 w3 := hb3)))
    all_goals
      have hA1 := hA.at_.lt
      have hA2 := hA.var.lt
      have hz3 := hb3.size
      have kA := hA.at_
      have kV := hA.var
      try have e1 := ek.1
      try have e2 := ek.2.1
      try have e3 := ek.2.2
      try have e4 := ek.2
      go_wp2_with fail
      go_meet
      refine ⟨?_, _, gs, _, rfl, rfl, ⟨List.length_replicate, ?_, ?_⟩, ⟨hA.len, ?_, ?_⟩, ?_, ?_, ?_, ?_⟩
      rotate_left 2
      all_goals (try rw [HZ.out])
      all_goals first
        | ((repeat (first | with_reducible (exact Blk.new _ _ _) | with_reducible (exact newS _ _ _ _ _) | with_reducible (exact newSS _ _ _ _ _ _ _) | with_reducible (exact newS2 _ _ _ _ _ _) | with_reducible (exact Blk.new2 _ _ _ _) | with_reducible (exact new3 _ _ _ _ _) | with_reducible assumption | with_reducible (refine setS (a := .slice none 0 0) ?_) | ((with_reducible (refine Blk.far ?_ ?_ _)); rotate_left; (first | omega | (simp <;> omega))) | with_reducible (refine Blk.alloc ?_ _))); done)
        | ((repeat (first | with_reducible assumption | ((with_reducible (refine Below.setCell ?_ ?_ _)); rotate_left; (first | omega | (simp <;> omega))) | ((with_reducible (refine Below.alloc ?_ ?_ _)); rotate_left; (first | omega | (simp <;> omega))))); done)
        | omega
        | (simp <;> omega)
  case rest =>
    obtain ⟨g, gv, gs, gsv, rfl, rfl, hAe, hAr, hn1, hn2, hg, hbW⟩ := hcut
    have hbw := hw1.trans (hbW.mono hzw)
    clear hmk
    go_wp2_with (go_at_call 48; refine (HO.out wc hbw g gv gs gsv (by omega) hn1 hn2 hAe hAr).mono ?_; rintro e w5 ⟨rfl, hA5, hw5⟩)
    have hb5 := hbw.trans hw5
    have hF5 := hF.below hb5
    have hP := HP.out
    obtain ⟨P3, hP3⟩ : ∃ P3, 3 + P = P3 := ⟨_, rfl⟩
    have hR := HR.out
    rw [hP3] at hR
    obtain ⟨HP3, hHP3⟩ : ∃ HP3, H * P3 = HP3 := ⟨_, rfl⟩
    have hHPb : HP3 ≤ 100000000 := by rw [← hHP3]; exact Nat.le_trans (Nat.mul_le_mul hHb (show P3 ≤ 67 by omega)) (by omega)
    have hHPz : (H : Int) * (P3 : Int) = (HP3 : Int) := by rw [← hHP3, Int.natCast_mul]
    rw [hHP3] at hR
    obtain ⟨T1, hT1⟩ : ∃ T1, HP3 + K = T1 := ⟨_, rfl⟩
    rw [hT1] at hR
    have wA : IntKind.u64.wrap (H : Int) = (H : Int) := wrap_u (by omega) (by omega)
    have wB : IntKind.i64.wrap (3 + (P : Int)) = (P3 : Int) := by rw [show 3 + (P : Int) = (P3 : Int) by omega]; exact wrap_i (by omega) (by omega)
    have wC : IntKind.u64.wrap (P3 : Int) = (P3 : Int) := wrap_u (by omega) (by omega)
    have wD : IntKind.u64.wrap ((H : Int) * (P3 : Int)) = (HP3 : Int) := by rw [hHPz]; exact wrap_u (by omega) (by omega)
    have wE : IntKind.u64.wrap ((HP3 : Int) + (K : Int)) = (T1 : Int) := by rw [show (HP3 : Int) + (K : Int) = (T1 : Int) by omega]; exact wrap_u (by omega) (by omega)
    have wF : IntKind.u64.wrap ((T1 : Int) + (Fl : Int)) = (R : Int) := by rw [show (T1 : Int) + (Fl : Int) = (R : Int) by omega]; exact wrap_u (by omega) (by omega)
    obtain ⟨u0, u1⟩ := blk1 hA5.var
    obtain ⟨b0, b1⟩ := blkU_cell hA5.at_ (i := p) hlen
    rw [HK.out] at b0
    have hlg := hA5.at_.lt
    have hlv := hA5.var.lt
    clear hP3 hHP3 hHPz hR hT1 HP HR HO HRE HK hKb hHb hFb hPb hAe hAr hn1 hn2 hg hbW hbw hw5 hw1 hF1 hF
    go_region_held3 (fun w' => w'.cell? ⟨gsv, 0, none⟩ = some (.slice (some ⟨gs, 0, none⟩) n n) ∧ w'.cell? ⟨gs, p, none⟩ = some (encU K)) (go_keep)
      (first
        | (go_at_call 24; refine (HHd.out _ (by first | exact hF5 | exact hF5.drew)).mono ?_; rintro e w6 ⟨rfl, hw6⟩; have hz : Below w5.heap.size w5 w6 := (by first | exact hw6 | exact ⟨hw6.os, hw6.tape, hw6.output, hw6.size, hw6.block⟩); have s0 := (hz.cell (p := ⟨gsv, 0, none⟩) hlv).trans u0; have s1 := (hz.cell (p := ⟨gs, p, none⟩) hlg).trans b0))
    all_goals
      go_wp2_with fail
      go_ret
      exact ⟨by simp [wA, wB, wC, wD, wE, wF], bthen hb5 hz⟩
theorem cellsT_le {P C : Nat} (hP : P ≤ 64) (hC : C ≤ 4096) {t : Tr} (hv : validT t = true) (hs : t.size ≤ 1000) : cellsT P C t ≤ 2000000000000 := by
  have h1 := restT_le t
  have h2 := extraT_le t
  have h3 := stayT_le hC t hv hs
  have h4 := fleetT_le hC t hv hs
  have h5 : t.size * t.size ≤ 1000000 := Nat.le_trans (Nat.mul_le_mul hs hs) (by omega)
  have h6 : (restT t + extraT t) * (3 + P) ≤ 100000000 := Nat.le_trans (Nat.mul_le_mul (show restT t + extraT t ≤ 1001000 by omega) (show 3 + P ≤ 67 by omega)) (by omega)
  unfold cellsT
  omega
set_option maxRecDepth 100000 in
set_option maxHeartbeats 1000000 in
theorem bcells_w {F : Fz} {w : World} (hF : Sat F w) (l : List Nd) (hn : l.length ≤ 1000) (A : Option Addr) (n c : Nat) (hc : n ≤ c) (hl : NodesF F A n l) (props room : Int) (P C : Nat) (hP : min (max props 0) 64 = (P : Int)) (hC : min (max room 1) 4096 = (C : Int)) (R : Nat) (hR : onT (cellsT P C) l = R) :
    Calls Tryz.prog 28 #[.slice A n c, .int .i64 props, .int .i64 room] w fun e w' => e = .returned (encU R) ∧ Below w.heap.size w w' ∧ R ≤ 2000000000000 := by
  have hnl : n = l.length := hl.1.symm
  have hlN := hl.cle hF.cle
  cases hb : (formL l && plainS l)
  · have h0 := onT_no (f := cellsT P C) hb
    rw [hR] at h0
    subst h0
    have HFm := Lib.hid (bform_w hF l hn A n c hl false hb)
    clear hR hb hl hn hlN hnl
    go_enter Tryz.func28, Tryz.ntmps28
    go_wp2_with (go_at_call 46; refine HFm.out.mono ?_; rintro e w1 ⟨rfl, hw1⟩)
    go_ret
    exact ⟨rfl, hw1, by omega⟩
  obtain ⟨hf, hp, t, ht⟩ := plain_tree hb
  have hR2 := onT_yes (f := cellsT P C) hb ht
  rw [hR] at hR2
  have hlt := tree_len ht
  have hval := tree_valid ht
  have hPb : P ≤ 64 := by omega
  have hCb : C ≤ 4096 := by omega
  have hRb : R ≤ 2000000000000 := by rw [hR2]; exact cellsT_le hPb hCb hval (by omega)
  have hsz : ∀ j, j < n → (t.sub j).size ≤ 1000 := fun j hj => by
    have h2 := Tr.sub_size_le t j (by omega)
    omega
  have hks : ∀ j, j < n → stayT C (t.sub j) ≤ 1099511627776 := fun j hj => by
    have h1 := stayT_le hCb (t.sub j) (sub_valid t j hval) (hsz j hj)
    have h2 := hsz j hj
    omega
  have hfs : ∀ j, j < n → fleetT C (t.sub j) ≤ 1099511627776 := fun j hj => by
    have h1 := fleetT_le hCb (t.sub j) (sub_valid t j hval) (hsz j hj)
    have h2 := hsz j hj
    omega
  have hz : atV (fleetT C) t n 0 = List.replicate n 0 := by
    apply List.ext_getElem
    · simp [atV]
    · intro j h1 h2
      simp [atV]
  have hroot : t.sub (l.length - 1) = t := by rw [hlt]; exact Tr.sub_root t
  have hrk := form_root hf ht
  have hpos := t.size_pos
  have hO := fun (X : World) (hX : Below w.heap.size w X) (g gv gs gsv : Nat) (hg : w.heap.size ≤ g) (hn1 : gs ≠ g) (hn2 : gsv ≠ g) (hAe0 : AtB X g gv n (List.replicate n 0)) (hAr : AtB X gs gsv n (atV (stayT C) t n n)) => over26_w (F := heapF w) (w := X) ((sat_heapF w).below hX) l hn A n c hc hlN hf hp ht 56 #[.pointer (some ⟨gv, 0, none⟩), .pointer (some ⟨gsv, 0, none⟩)] (enters_of Tryz.func56 (by kernel_rfl) rfl) w.heap.size heapF_lt hX.size
    (fun i X => AtB X g gv n (atV (fleetT C) t n i) ∧ AtB X gs gsv n (atV (stayT C) t n n)) (fun i => fleetT C (t.sub i)) (fun i X X' h hb => ⟨h.1.call hb, h.2.call hb⟩)
    (fun i hi hk X h => by
      have := get_flat_root ht i hi
      rw [this] at hk
      rw [atV_skip _ _ _ _ hk]; exact h)
    (fun i hi x hx hk X hX hB hI s Ak ck P pc Bl bn bc hR => by
      subst hx
      have hil : i < (atV (stayT C) t n n).length := by rw [atV_len]; omega
      have hget : (atV (stayT C) t n n)[i]'hil = stayT C (t.sub i) := by
        have h1 := atV_get (stayT C) t n n i (by omega)
        rw [List.getD, List.getElem?_eq_getElem hil] at h1
        simp only [Option.getD_some] at h1
        rw [h1, if_pos ⟨by omega, hk⟩]
      have hst := fleetT_step C hval i (by omega)
      have hba := bel_at (fleetT C) hval n i (by omega) (by omega) hk
      have hbn : bn ≤ 1000 := by
        have h1 := hR.1
        simp [zs] at h1
        have h2 := bel_len hn ht i hi
        omega
      refine (cellsF_w (t.sub i) g gv n _ hI.1 gs gsv _ hI.2 hn1 hn2 (by omega) i (by omega) (belM (t.sub i) i) (fun p hp => by have := (bel_mem hval i (by omega) hk p hp).1; omega) (fun v hv => atV_le (fleetT C) t n i 1099511627776 hfs v hv) (fun e => (match_facts hn ht i hi (matchS_iff.2 (.inr e))).1) s Ak (kidsT (t.sub i)).length ck P pc Bl bn bc hR hbn _ rfl (stayT C (t.sub i)) hil hget (hks i (by omega)) (fleetT C (t.sub i)) (by rw [hba]; exact hst)).mono ?_
      rintro e w' ⟨h1, h2, h4, h3⟩
      refine ⟨h1, ⟨?_, h4⟩, h3 _ hg hB⟩
      rw [atV_set _ _ _ _ (by omega) hk] at h2
      exact h2) ⟨hz ▸ hAe0, hAr⟩
  rw [hroot] at hO
  have hHd := fun (X : World) (h : Sat F X) => bheads_w h l hn A n c hc hl (restT t) (extraT t) (onT_yes hb ht) (onT_yes hb ht)
  have hRE := fun (X : World) (h : Sat F X) => stay_w h l hn A n c hc hl hb ht room C hC
  have hFm := bform_w hF l hn A n c hl true hb
  obtain ⟨p, hnp⟩ : ∃ p, n = p + 1 := ⟨n - 1, by omega⟩
  have hlen : p < (atV (stayT C) t n n).length := by rw [atV_len]; omega
  have hKv : (atV (stayT C) t n n)[p]'hlen = stayT C t := by
    have h1 := atV_get (stayT C) t n n p (by omega)
    rw [List.getD, List.getElem?_eq_getElem hlen] at h1
    simp only [Option.getD_some] at h1
    rw [h1, show p = l.length - 1 by omega, hroot, if_pos ⟨by omega, hrk⟩]
  have hr1 := restT_le t
  have hr2 := extraT_le t
  have hr3 := stayT_le hCb t hval (by omega)
  have hr4 := fleetT_le hCb t hval (by omega)
  have hr5 : t.size * t.size ≤ 1000000 := Nat.le_trans (Nat.mul_le_mul (show t.size ≤ 1000 by omega) (show t.size ≤ 1000 by omega)) (by omega)
  refine (bcells_core hF A n p c hnp (by omega) hc props room P hP (atV (stayT C) t n n) (stayT C t) (restT t + extraT t) (fleetT C t) R (by omega) (by omega) (by omega) (by rw [hR2]; rfl) hlen hKv hFm hRE (fun X h => (hHd X h).mono ?_) (fun X hX g gv gs gsv hg h1 h2 h3 h4 => (hO X hX g gv gs gsv hg h1 h2 h3 h4).mono ?_)).mono ?_
  · rintro e w' ⟨rfl, hw, _⟩
    exact ⟨rfl, hw⟩
  · rintro e w' ⟨rfl, hI, hw⟩
    exact ⟨rfl, hI.2, hw⟩
  · rintro e w' ⟨rfl, hw⟩
    exact ⟨rfl, hw, hRb⟩
end Go.Proofs.YtdohbbjinbofbaaGreat
