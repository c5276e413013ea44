/- The walk of lay: steps laid into where each one is ahead. -/
import Derived.Test.YtaomehlhopiblaaHand
import Derived.Test.YtaomehlhopiblaaPlanF
set_option linter.unusedVariables false
set_option linter.unusedSimpArgs false
namespace Go.Proofs.Ytaomehlhopiblaa
open Go.RowKit
attribute [local go_sem ↓] Go.wp_at_zero Go.wp_at_succ
theorem lay_one (O : Nat → Nat → Bool) (l : Fst) (q : Nat) (f : Nat → Bool) (j x : Nat) : upd (fun q x => O q x || inF l q x) q (fun x => or (O q x || inF l q x) (f x)) j x = (O j x || inF (l ++ [(q, f)]) j x) := by
  rw [inF_append, inF_cons, inF_nil]
  by_cases e : j = q
  · subst e
    rw [upd_same]
    simp [Bool.or_assoc]
  · rw [upd_ne e]
    have : (q == j) = false := by rw [beq_eq_false_iff_ne]; exact fun h => e h.symm
    simp [this]
theorem cut_mem {L : Fst} {f : Nat → Bool} {M : Nat} (h : ∀ p, p ∈ L → p.1 < M) : ∀ p, p ∈ cutL L f → p.1 < M := by
  intro p hp
  unfold cutL at hp
  obtain ⟨r, hr, rfl⟩ := List.mem_map.1 hp
  exact h r hr
theorem take_snoc {α : Type} {l : List α} {j : Nat} {p : α} (h : l[j]? = some p) : l.take (j + 1) = l.take j ++ [p] := by
  have hl : j < l.length := (List.getElem?_eq_some_iff.1 h).1
  rw [List.take_succ_eq_append_getElem hl, (List.getElem?_eq_some_iff.1 h).2]
set_option maxRecDepth 100000 in
set_option maxHeartbeats 4000000 in
theorem lay_w {F : Fz} {w : World} (hF : Sat F w) (m : Nat) (hm : m ≤ 10) (gp : Nat) (hp : F.cell ⟨gp, 0, none⟩ = some (.int .i64 (m : Nat))) (go M : Nat) (hgo : F go = none) (hM : M ≤ 1000) (O : Nat → Nat → Bool) (hZ : ZF w go M [go] m O)
    (A : Option Addr) (n c : Nat) (L : Fst) (hL : PlF m F A n L) (hn : n ≤ 1000) (hst : ∀ p, p ∈ L → p.1 < M) (V : Value) (f : Nat → Bool) (hV : WdF m F V f) :
    Calls Try.prog 72 #[.pointer (some ⟨gp, 0, none⟩), .slice (some ⟨go, 0, none⟩) M M, .slice A n c, V] w
      fun e w' => e = .returned (.tuple #[]) ∧ ZF w' go M [go] m (fun q x => O q x || inF (cutL L f) q x) ∧ Wr [go] w w' := by
  obtain ⟨AV, nV, cV, fV, eV, hh⟩ := id hV
  have HWi := Lib.hid (within_w hF m hm gp hp A n c L hL hn V f hV)
  subst eV
  have hst' := cut_mem (f := f) hst
  have hln : (cutL L f).length = n := by rw [length_cutL, hL.1]
  have hpl := hF.clt hp
  have hgl := hZ.lt
  have hpg : gp ≠ go := fun e => by subst e; unfold Fz.cell at hp; rw [hgo] at hp; cases hp
  obtain ⟨L', hL'⟩ : ∃ L', cutL L f = L' := ⟨_, rfl⟩
  rw [hL'] at HWi hst' hln ⊢
  have HLn := Lib.hid hln
  have HST := Lib.hid hst'
  have HP := Lib.hid hp
  have HCX := Lib.hid (cle_hx hF (Gs := [go]) (fun g hg => by simp at hg; subst hg; exact hgo) _ _ hp)
  have HZ := Lib.hid hZ
  have HGO := Lib.hid hgo
  clear hh hV hL' hL hst hst' hln hp hZ hgo
  go_enter Try.func72, Try.ntmps72
  go_wp2_with fail
  refine HWi.out.mono ?_
  rintro e w1 ⟨v1, F1, rfl, hO1, hF1, hw1, hle1⟩
  obtain ⟨A1, c1, rfl, hc1, hP1⟩ := hO1.doneX hF1 (Gs := [go]) (fun g hg => by simp at hg; subst hg; exact (hle1.2 g hgl).trans HGO.out) (fun g hg => by simp at hg; subst hg; exact hgl)
  rw [HLn.out] at hP1 hc1
  rw [HLn.out]
  have hZ1 := HZ.out.call hw1
  have hwr1 : Wr [go] w w1 := Wr.of_below hw1
  have hgpl1 : gp < w1.heap.size := Nat.lt_of_lt_of_le hpl hw1.size
  have hgl1 : go < w1.heap.size := Nat.lt_of_lt_of_le hgl hw1.size
  have HP1 := Lib.hid hP1
  clear hO1 hle1 hF1 hP1 HWi hw1 hF HZ HGO HP
  go_wp2_with fail
  go_loopw [9, 15] (fun _ v15 wr => ∃ j : Nat, j ≤ n ∧ v15 = .int .i64 j ∧ ZF wr go M [go] m (fun q x => O q x || inF (L'.take j) q x) ∧ Wr [go] w1 wr) (fun _ v15 _ => n - (intOf v15).toNat)
  case atStart => exact ⟨0, Nat.zero_le _, rfl, hZ1.same (fun j hj x hx => by simp [inF_nil]), Wr.refl _ _⟩
  case round =>
    obtain ⟨j, hj, rfl, hZr, hwr⟩ := hrel
    by_cases hlt : j < n
    · have hjI : (j : Int) < (n : Int) := by omega
      obtain ⟨p, hpj⟩ : ∃ p, L'[j]? = some p := ⟨_, List.getElem?_eq_getElem (by rw [HLn.out]; exact hlt)⟩
      obtain ⟨ad, y, rfl, hc0, hc1', hy⟩ := (HP1.out.cle hwr.cle).at_ hpj
      obtain ⟨Ay, ny, cy, fy, ey, hh⟩ := id hy
      subst ey
      have HTK := Lib.hid (take_snoc hpj)
      have hq := HST.out p (List.mem_of_getElem? hpj)
      have hsr := sat_hx wr [go]
      have z0 := hsr.cell hc0
      have z1 := hsr.cell hc1'
      have z2 := hsr.cell ((hwr1.trans hwr).cle _ _ HCX.out)
      obtain ⟨q, pf⟩ := p
      dsimp only at z0 z1 hq HTK hy
      have z1' : wr.cell? ⟨(ad.add (j * 2)).block, (ad.add (j * 2)).off + 1, none⟩ = some (.slice Ay ny cy) := by have := z1; rw [add_succ] at this; exact this
      have hqI : (q : Int) < (M : Int) := by omega
      have HY := Lib.hid hy
      clear hh hpj hc0 hc1' hy z1
      go_wp2_with fail
      have hkT := Blk.new wr 112 #[.int .i64 (q : Nat), .slice Ay ny cy]
      have hbW := balloc wr (.cells #[.int .i64 (q : Nat), .slice Ay ny cy] 112)
      obtain ⟨W, hW⟩ : ∃ W, wr.alloc (.cells #[.int .i64 (q : Nat), .slice Ay ny cy] 112) = W := ⟨_, rfl⟩
      rw [hW] at hkT hbW ⊢
      have hZW := hZr.call hbW
      obtain ⟨k0, k1, _, _⟩ := blkP2 hkT
      have hkl := hkT.lt
      have hgpr : gp < wr.heap.size := Nat.lt_of_lt_of_le hgpl1 hwr.size
      have hgor : go < wr.heap.size := Nat.lt_of_lt_of_le hgl1 hwr.size
      have p0 := (hbW.cell (p := ⟨gp, 0, none⟩) hgpr).trans z2
      have hgpl := Nat.lt_of_lt_of_le hgpr hbW.size
      obtain ⟨vo, zo, hvo⟩ := hZW.at_ hq
      obtain ⟨Ao, no, co, fo, eo, hh⟩ := id hvo
      subst eo
      have HOr := Lib.hid (fun (X : World) (hb : Below W.heap.size W X) => ql_or hm (w := X) (hvo.heap ((sat_hx W [go]).below hb)) ((HY.out.cle (Wr.of_below hbW).cle).heap ((sat_hx W [go]).below hb)))
      have HG : Hid (∀ g, g ∈ [go] → g < W.heap.size) := Lib.hid (fun g hg => by simp at hg; subst hg; exact Nat.lt_of_lt_of_le hgor hbW.size)
      have HZW := Lib.hid hZW
      have HBW := Lib.hid hbW
      have HWR := Lib.hid hwr
      have n0 : (⟨go, q, none⟩ : Addr) ≠ ⟨wr.heap.size, 0, none⟩ := addr_b (by omega)
      have n1 : (⟨go, q, none⟩ : Addr) ≠ ⟨wr.heap.size, 1, none⟩ := addr_b (by omega)
      have n2 : (⟨go, q, none⟩ : Addr) ≠ ⟨gp, 0, none⟩ := addr_b (Ne.symm hpg)
      clear hW hkT hbW hZW hvo hh hZr hwr z2 hZ1 hwr1
      refine wp_region_noPanic ?_
      refine wp_region_held_drew (S := (fun w' => w'.cell? ⟨wr.heap.size, 0, none⟩ = some (.int .i64 (q : Nat)) ∧ w'.cell? ⟨wr.heap.size, 1, none⟩ = some (.slice Ay ny cy) ∧ w'.cell? ⟨gp, 0, none⟩ = some (.int .i64 (m : Nat)))) (by kernel_rfl) ?hS0 (fun hHeld => ?hR0)
      case hS0 => (try dsimp only); go_keep
      case hR0 =>
        refine tk 0 (h := ?_)
        try simp only [pn]
        refine tk 1 (h := ?_)
        try simp only [pn]
        refine tk 2 (h := ?_)
        try simp only [pn]
        refine tk 3 (h := ?_)
        try simp only [pn]
        refine tk 4 (h := ?_)
        try simp only [pn]
        refine tk 5 (h := ?_)
        try simp only [pn]
        refine tk 6 (h := ?_)
        try simp only [pn]
        refine tk 7 (h := ?_)
        try simp only [pn]
        refine tk 8 (h := ?_)
        try simp only [pn]
        refine tk 9 (h := ?_)
        try simp only [pn]
        refine tk 10 (h := ?_)
        try simp only [pn]
        refine tk 12 (h := ?_)
        try simp only [pn]
        refine tk 13 (h := ?_)
        try simp only [pn]
        refine wpAnyH_ready (rs := [11]) (by kernel_rfl) (by simp) ?_
        refine AllReadyH.cons (o := ?sO1) ?sA1 (fun K hK => ?sB1) ?sC1
        case sA1 => simp only [List.getElem?_toArray, List.getElem?_cons_succ, List.getElem?_cons_zero]; rfl
        case sB1 =>
          go_simp
          refine hK.out _ _ ?kS2 (fun hHeld => ?kR2)
          case kS2 => (try dsimp only); go_keep
          case kR2 =>
            clear hK K
            try simp only [Act.put, List.setIfInBounds_toArray, List.set_cons_zero, List.set_cons_succ]
            refine wpAnyH_ready (rs := [14]) (by kernel_rfl) (by simp) ?_
            refine AllReadyH.cons (o := ?sO3) ?sA3 (fun K hK => ?sB3) ?sC3
            case sA3 => simp only [List.getElem?_toArray, List.getElem?_cons_succ, List.getElem?_cons_zero]; rfl
            case sB3 =>
              go_simp
              go_at_call 22; refine (HOr.out _ (below_drewN (Below.refl _ _) 1)).mono ?_; rintro e w5 hr5; refine (fun hr => ?_) (RetQL.hx hr5 (Gs := [go]) HG.out); obtain ⟨V5, rfl, hw5, hW5⟩ := hr; have hb5 : Below W.heap.size W w5 := undr hw5; obtain ⟨A5, n5, c5, f5, e5, hh⟩ := id hW5.wd; subst e5; have s0 := (hb5.cell (p := ⟨wr.heap.size, 0, none⟩) hkl).trans k0; have s1 := (hb5.cell (p := ⟨wr.heap.size, 1, none⟩) hkl).trans k1; have s2 := (hb5.cell (p := ⟨gp, 0, none⟩) hgpl).trans p0; have hZ5 := HZW.out.call hb5; refine (fun hz => ?_) (hZ5.at_ hq); obtain ⟨vi, zi, _⟩ := hz; have zs := hZ5.soft q; have HW5 := Lib.hid hW5; clear hh hW5 hr5 hw5
              try go_wp2_with fail
              refine hK.out _ _ ?kS4 (fun hHeld => ?kR4)
              case kS4 => (try dsimp only); go_keep
              case kR4 =>
                clear hK K
                try simp only [Act.put, List.setIfInBounds_toArray, List.set_cons_zero, List.set_cons_succ]
                refine tk 15 (h := ?_)
                try simp only [pn]
                refine wpAnyH_ready (rs := [16]) (by kernel_rfl) (by simp) ?_
                refine AllReadyH.cons (o := ?sO5) ?sA5 (fun K hK => ?sB5) ?sC5
                case sA5 => simp only [List.getElem?_toArray, List.getElem?_cons_succ, List.getElem?_cons_zero]; rfl
                case sB5 =>
                  go_simp
                  refine hK.out _ _ ?kS6 (fun hHeld => ?kR6)
                  case kS6 => (try dsimp only); exact ⟨cellNe n0 s0, cellNe n1 s1, cellNe n2 s2⟩
                  case kR6 =>
                    clear hK K
                    try simp only [Act.put, List.setIfInBounds_toArray, List.set_cons_zero, List.set_cons_succ]
                    refine wpAnyH_done (by kernel_rfl) ?_ _
                    refine NoPanic.normal ?_
                    go_wp2_with fail
                    go_roundw
                    case rel => exact ⟨j + 1, by omega, by go_num, (hZ5.set (by simp) hq HW5.out).same (fun j' hj' x hx => by rw [HTK.out]; exact lay_one _ _ _ _ _ _), ((HWR.out.call HBW.out).call hb5).set (by simp) q _⟩
                    case measure => simp [intOf]; omega
                case sC5 =>
                  exact AllReadyH.nil
            case sC3 =>
              exact AllReadyH.nil
        case sC1 =>
          exact AllReadyH.nil
    · obtain rfl : j = n := by omega
      have hdec : decide ((j : Int) < (j : Int)) = false := decide_eq_false (by omega)
      rw [show L'.take j = L' by rw [← HLn.out, List.take_length]] at hZr
      go_wp2_with fail
      go_end0
      exact ⟨rfl, hZr, hwr1.trans hwr⟩
end Go.Proofs.Ytaomehlhopiblaa
