/- The walk of ahead: where each step is ahead of a state. -/
import Derived.Test.YtaomehlhopiblaaPlanL
import Derived.Test.YtaomehlhopiblaaBoundA
set_option linter.unusedVariables false
set_option linter.unusedSimpArgs false
namespace Go.Proofs.Ytaomehlhopiblaa
open Go.RowKit
attribute [local go_sem ↓] Go.wp_at_zero Go.wp_at_succ
/-- A plan that is made: all of it frozen in F. -/
structure Plan (F : Fz) (gp m : Nat) (l : List Nd) (t : Tr) (z : Zf) (M : Nat) (ss : List Nat) (Al : Option Addr) (N cl : Nat) (As : Option Addr) (cs gu gz gf : Nat) : Prop where
  p0 : F.cell ⟨gp, 0, none⟩ = some (.int .i64 (m : Nat))
  p1 : F.cell ⟨gp, 1, none⟩ = some (.slice Al N cl)
  p2 : F.cell ⟨gp, 2, none⟩ = some (.slice As M cs)
  p3 : F.cell ⟨gp, 3, none⟩ = some (.slice (some ⟨gu, 0, none⟩) N N)
  p4 : F.cell ⟨gp, 4, none⟩ = some (.slice (some ⟨gz, 0, none⟩) N N)
  p5 : F.cell ⟨gp, 5, none⟩ = some (.slice (some ⟨gf, 0, none⟩) N N)
  nodes : NodesF F Al N l
  flat : l = t.flat 0
  len : t.size = N
  reg : regV t
  steps : ss = stepsL t 0
  stepn : ss.length = M
  rd : Rd F 1 As M (ss.map fun i => .int .i64 (i : Nat))
  up : ∀ i, i + 1 < N → F.cell ⟨gu, i, none⟩ = some (.int .i64 (parT t i : Nat))
  zero : ∀ i, i < N → ∃ v, F.cell ⟨gz, i, none⟩ = some v ∧ WdF m F v (zeroO z (posT t i true 0 0).1 (t.sub i) (posT t i true 0 0).2.1)
  first : ∀ i, i < N → ∃ A c, F.cell ⟨gf, i, none⟩ = some (.slice A (firstO z (posT t i true 0 0).1 (t.sub i) (posT t i true 0 0).2.1 (posT t i true 0 0).2.2).length c) ∧ PlF m F A (firstO z (posT t i true 0 0).1 (t.sub i) (posT t i true 0 0).2.1 (posT t i true 0 0).2.2).length (firstO z (posT t i true 0 0).1 (t.sub i) (posT t i true 0 0).2.1 (posT t i true 0 0).2.2)
theorem first_len (z : Zf) (o : Bool) : ∀ (t : Tr) (k s : Nat), (firstO z o t k s).length ≤ t.size
  | .leaf h, k, s => by unfold firstO; split <;> simp [Tr.size]
  | .un h a, k, s => by have := first_len z o a k s; unfold firstO; simp only [Tr.size]; split <;> simp <;> omega
  | .bin h a b, k, s => by
    have := first_len z o a k s
    have := first_len z o b (k + testsT a) (s + stepsN a)
    unfold firstO; simp only [Tr.size]
    split
    · simp; omega
    · split <;> simp <;> omega
theorem first_mem (z : Zf) (o : Bool) : ∀ (t : Tr) (k s : Nat), regV t → ∀ p, p ∈ firstO z o t k s → s ≤ p.1 ∧ p.1 < s + stepsN t
  | .leaf h, k, s, hv, p, hp => by
    unfold firstO at hp
    split at hp
    · simp at hp; subst hp; exact ⟨Nat.le_refl _, by simp [stepsN]⟩
    · simp at hp
  | .un h a, k, s, hv, p, hp => by
    unfold firstO at hp
    split at hp
    · rename_i h22
      have := first_mem z o a k s (hv.resolve_left (by omega)).2 p hp
      unfold stepsN
      rw [if_neg (by omega)]
      exact this
    · simp at hp
  | .bin h a b, k, s, hv, p, hp => by
    have h1 := first_mem z o a k s hv.2.1
    have h2 := first_mem z o b (k + testsT a) (s + stepsN a) hv.2.2
    unfold firstO at hp
    have hs : stepsN (.bin h a b) = stepsN a + stepsN b := rfl
    split at hp
    · rcases List.mem_append.1 hp with e | e
      · have := h1 p e; omega
      · have := h2 p e; omega
    · split at hp
      · rcases List.mem_append.1 hp with e | e
        · have := h1 p e; omega
        · obtain ⟨r, hr, rfl⟩ := List.mem_map.1 e
          have := h2 r hr
          show s ≤ r.1 ∧ r.1 < _
          omega
      · simp at hp
theorem ahead_un (z : Zf) {h : Nd} (h22 : h.kind = 22) (a : Tr) (k s st : Nat) : aheadO z (.un h a) k s st = (fun q x => (aheadO z a k s st).1 q x || ((aheadO z a k s st).2 x && inF (firstO z true a k s) q x), (aheadO z a k s st).2) := if_pos h22
theorem ahead_alt (z : Zf) {h : Nd} (h20 : h.kind = 20) (a b : Tr) (k s st : Nat) (hst : st < s + stepsN a) : aheadO z (.bin h a b) k s st = aheadO z a k s st := by
  conv => lhs; unfold aheadO
  rw [if_pos hst, if_pos h20]
theorem ahead_seq (z : Zf) {h : Nd} (h21 : h.kind = 21) (a b : Tr) (k s st : Nat) (hst : st < s + stepsN a) : aheadO z (.bin h a b) k s st = (fun q x => (aheadO z a k s st).1 q x || ((aheadO z a k s st).2 x && inF (firstO z true b (k + testsT a) (s + stepsN a)) q x), fun x => (aheadO z a k s st).2 x && zeroO z true b (k + testsT a) x) := by
  conv => lhs; unfold aheadO
  rw [if_pos hst, if_neg (by omega)]
theorem ahead_bin (z : Zf) (h : Nd) (a b : Tr) (k s st : Nat) (hst : ¬ st < s + stepsN a) : aheadO z (.bin h a b) k s st = aheadO z b (k + testsT a) (s + stepsN a) st := by
  conv => lhs; unfold aheadO
  rw [if_neg hst]
theorem inF_cut (L : Fst) (f : Nat → Bool) (q x : Nat) : inF (cutL L f) q x = (inF L q x && f x) := inF_map L f q x
/-- What ahead gives: where each step is ahead, and where there is an end. -/
def RetAh (m M : Nat) (w : World) (O : Nat → Nat → Bool) (E : Nat → Bool) (e : Ending) (w' : World) : Prop :=
  ∃ go v, e = .returned (.tuple #[.slice (some ⟨go, 0, none⟩) M M, v]) ∧ w.heap.size ≤ go ∧ Below w.heap.size w w' ∧ ZF w' go M [] m O ∧ WdG m (heapF w') v E
theorem cle_nil (w : World) (Gs : List Nat) : CLe (hx w Gs) (hx w []) := fun a v hc => by
  unfold Fz.cell at hc ⊢
  by_cases hg : a.block ∈ Gs
  · rw [hx_in hg] at hc; cases hc
  · rw [hx_out hg] at hc
    rw [hx_out (by simp)]
    exact hc
theorem ZB.out {w : World} {g N m : Nat} {Gs : List Nat} {p : Nat → Nat → Bool} (h : ZB w g N Gs m p) : ZB w g N [] m p :=
  let ⟨zs, h1, h2, h3⟩ := h
  ⟨zs, h1, h2, fun j hj => let ⟨v, e, hv⟩ := h3 j hj; ⟨v, e, hv.cle (cle_nil w Gs)⟩⟩
theorem ZP.out {w : World} {g M k m : Nat} {Gs : List Nat} {p : Nat → Nat → Bool} (h : ZP w g M k Gs m p) : ZP w g M k [] m p :=
  let ⟨zs, h1, h2, h3⟩ := h
  ⟨zs, h1, h2, fun j hj => let ⟨v, e, hv⟩ := h3 j hj; ⟨v, e, hv.cle (cle_nil w Gs)⟩⟩
theorem heap_hx (w : World) : hx w [] = heapF w := by funext b; exact hx_out (by simp)
theorem zb_new (w : World) (M m : Nat) (Gs : List Nat) : ZB (w.alloc (.cells (zeros (.slice none 0 0) M) 49)) w.heap.size M Gs m (fun _ _ => false) :=
  ⟨List.replicate M (.slice none 0 0), Blk.new w _ _, by simp, fun j hj => ⟨_, by simp [hj], WdF.nil _ _⟩⟩
theorem zp_new (w : World) (M m : Nat) (Gs : List Nat) : ZP (w.alloc (.cells (zeros (.slice none 0 0) M) 49)) w.heap.size M 0 Gs m (fun _ _ => false) :=
  ⟨List.replicate M (.slice none 0 0), Blk.new w _ _, by simp, fun j hj => absurd hj (by omega)⟩
set_option maxRecDepth 100000 in
set_option maxHeartbeats 8000000 in
theorem ahead_w {F : Fz} {w : World} (hF : Sat F w) (gp m : Nat) (hm : m ≤ 10) (l : List Nd) (t : Tr) (z : Zf) (M : Nat) (ss : List Nat) (Al : Option Addr) (N cl : Nat) (As : Option Addr) (cs gu gz gf : Nat) (hP : Plan F gp m l t z M ss Al N cl As cs gu gz gf) (hN : N ≤ 1000) (k : Int)
    (O : Nat → Nat → Bool) (E : Nat → Bool) (hOE : (O, E) = if 0 ≤ k then stateO z t k.toNat else (fun _ _ => false, fun _ => false)) :
    Calls Try.prog 61 #[.pointer (some ⟨gp, 0, none⟩), .int .i64 k] w (RetAh m M w O E) := by
  have hN1 : 1 ≤ N := by have := t.size_pos; have := hP.len; omega
  have hMs : M = stepsN t := by have := length_stepsL t 0 hP.reg; have := hP.stepn; rw [hP.steps] at this; omega
  have hMN : M ≤ N := by have := stepsN_le t; have := hP.len; omega
  have p0 := hF.cell hP.p0
  have p1 := hF.cell hP.p1
  have p2 := hF.cell hP.p2
  have hgpl := hF.clt hP.p0
  have HNO := Lib.hid (fun (X : World) => ql_no hm (w := X))
  have HY := Lib.hid (fun (X : World) => ql_yes hm (w := X))
  have hmk := fun (X : World) => makeR M (by omega) X
  have hrt : IntKind.i64.wrap ((N : Int) - 1) = ((N - 1 : Nat) : Int) := by rw [show (N : Int) - 1 = ((N - 1 : Nat) : Int) by omega]; exact IntWalk.i64_in _ (by omega)
  have hrt2 : (N : Int) - 1 = ((N - 1 : Nat) : Int) := by omega
  have HP := Lib.hid hP
  have hFgo := hF.none_ (Nat.le_refl _)
  have HMS := Lib.hid hMs
  have hM : M ≤ 1000 := by omega
  clear hP hMs hMN
  go_enter Try.func61, Try.ntmps61
  go_wp2_with fail
  have hZ1 := zp_new w M m [w.heap.size]
  have hb0 := balloc w (.cells (zeros (.slice none 0 0) M) 49)
  have hF1 := hF.below hb0
  have hgl1 := hZ1.lt
  obtain ⟨w1, hw1⟩ : ∃ w1, w.alloc (.cells (zeros (.slice none 0 0) M) 49) = w1 := ⟨_, rfl⟩
  rw [hw1] at hZ1 hb0 hF1 hgl1 ⊢
  obtain ⟨go, hgo⟩ : ∃ go, w.heap.size = go := ⟨_, rfl⟩
  have HGO := Lib.hid hgo
  rw [hgo] at hZ1 hgl1 hFgo hgpl ⊢
  have hGs : ∀ g, g ∈ [go] → F g = none := fun g hg => by simp at hg; subst hg; exact hFgo
  have HGS := Lib.hid hGs
  clear hw1 p0 p1 p2 hgo hGs hmk
  go_loopw [8, 26] (fun _ v26 wr => ∃ j : Nat, j ≤ M ∧ v26 = .int .i64 j ∧ ZP wr go M j [go] m (fun _ _ => false) ∧ Wr [go] w1 wr) (fun _ v26 _ => M - (intOf v26).toNat)
  case atStart => exact ⟨0, Nat.zero_le _, rfl, hZ1, Wr.refl _ _⟩
  case round =>
    obtain ⟨j, hj, rfl, hZr, hwr⟩ := hrel
    have hFr := hwr.sat hF1 HGS.out
    have p0 := hFr.cell HP.out.p0
    have p2 := hFr.cell HP.out.p2
    have hgr : go < wr.heap.size := hZr.lt
    by_cases hlt : j < M
    · have hjI : (j : Int) < (M : Int) := by omega
      go_wp2_with fail
      refine (HNO.out _).mono ?_
      rintro e w3 hr3
      obtain ⟨V3, rfl, hw3, hW3⟩ := RetQL.hx hr3 (Gs := [go]) (fun g hg => by simp at hg; subst hg; exact hgr)
      obtain ⟨A3, n3, c3, f3, e3, hh⟩ := id hW3.wd
      subst e3
      have hZ3 := hZr.call hw3
      obtain ⟨vi, zi⟩ := hZ3.any hlt
      have zs := hZ3.soft j
      have HW3 := Lib.hid hW3
      clear hh hr3 hW3
      go_wp2_with fail
      go_roundw
      case rel => exact ⟨j + 1, by omega, by go_num, (hZ3.put (k' := j + 1) (by simp) hlt (.inr ⟨rfl, rfl⟩) HW3.out).same (fun j' hj' x hx => by unfold upd; split <;> rfl), (hwr.call hw3).set (by simp) j _⟩
      case measure => simp [intOf]; omega
    · obtain rfl : j = M := by omega
      have hdec : decide ((j : Int) < (j : Int)) = false := decide_eq_false (by omega)
      have hbr : Below w.heap.size w wr := hb0.trans ((Wr.below hwr (B := w.heap.size) (fun g hg => by simp at hg; subst hg; rw [HGO.out]; exact Nat.le_refl _) hb0.size))
      have HBR := Lib.hid hbr
      have HZR : Hid (ZF wr go j [go] m (fun _ _ => false)) := Lib.hid hZr
      have HOE := Lib.hid hOE
      clear hbr hZr hOE hZ1 hb0 hF1 hwr
      by_cases hneg : k < 0
      · have hOE2 := HOE.out
        rw [if_neg (by omega)] at hOE2
        injection hOE2 with e1 e2
        subst e1 e2
        have hd : decide (k < 0) = true := decide_eq_true hneg
        go_wp2_with fail
        refine (HNO.out _).mono ?_
        rintro e w3 hr3
        obtain ⟨V3, rfl, hw3, hW3⟩ := RetQL.hx hr3 (Gs := []) (fun g hg => by simp at hg)
        rw [heap_hx] at hW3
        go_wp2_with fail
        go_ret2
        exact ⟨go, V3, rfl, by rw [HGO.out]; exact Nat.le_refl _, bthen HBR.out hw3, (HZR.out.call hw3).out, hW3⟩
      by_cases hbig : (j : Int) < k
      · have hOE2 := HOE.out
        rw [if_pos (by omega)] at hOE2
        unfold stateO at hOE2
        rw [if_neg (by omega), if_neg (by have := HMS.out; omega)] at hOE2
        injection hOE2 with e1 e2
        subst e1 e2
        have hd : decide (k < 0) = false := decide_eq_false hneg
        go_wp2_with fail
        refine (HNO.out _).mono ?_
        rintro e w3 hr3
        obtain ⟨V3, rfl, hw3, hW3⟩ := RetQL.hx hr3 (Gs := []) (fun g hg => by simp at hg)
        rw [heap_hx] at hW3
        go_wp2_with fail
        go_ret2
        exact ⟨go, V3, rfl, by rw [HGO.out]; exact Nat.le_refl _, bthen HBR.out hw3, (HZR.out.call hw3).out, hW3⟩
      have hd : decide (k < 0) = false := decide_eq_false hneg
      have hd2 : decide ((j : Int) < k) = false := decide_eq_false hbig
      by_cases hk0 : k = 0
      · subst hk0
        have hOE2 := HOE.out
        rw [if_pos (by omega)] at hOE2
        unfold stateO at hOE2
        rw [if_pos (by rfl)] at hOE2
        injection hOE2 with e1 e2
        subst e1 e2
        obtain ⟨Af, cf, hcf, hPf⟩ := HP.out.first (N - 1) (by omega)
        obtain ⟨vz, hcz, hWz⟩ := HP.out.zero (N - 1) (by omega)
        have hpr : posT t (N - 1) true 0 0 = (true, 0, 0) := by rw [← HP.out.len]; exact pos_root t true 0 0
        have hsr : t.sub (N - 1) = t := by rw [← HP.out.len]; exact Tr.sub_root t
        rw [hpr, hsr] at hcf hPf hWz
        dsimp only at hcf hPf hWz
        have hst : ∀ p, p ∈ firstO z true t 0 0 → p.1 < j := fun p hp => by have := first_mem z true t 0 0 HP.out.reg p hp; have := HMS.out; omega
        have hlen : (firstO z true t 0 0).length ≤ 1000 := by have := first_len z true t 0 0; have := HP.out.len; omega
        obtain ⟨Az, nz, cz, fz, ez, hh⟩ := id hWz
        subst ez
        have p5 := hFr.cell HP.out.p5
        have zf := hFr.cell hcf
        have HLY := Lib.hid (fun (X : World) (V : Value) (hX : Sat F X) (hZX : ZF X go j [go] m (fun _ _ => false)) (hV : WdG m (hx X [go]) V (fun _ => true)) => lay_w (sat_hx X [go]) m hm gp ((cle_hx hX HGS.out) _ _ HP.out.p0) go j (hx_in (by simp)) hM (fun _ _ => false) hZX Af _ cf _ (hPf.cle (cle_hx hX HGS.out)) hlen hst V (fun _ => true) hV.wd)
        have HOr := Lib.hid (fun (X : World) (hX : Sat F X) => ql_or hm (w := X) (hWz.heap hX) (WdF.nil m (heapF X)))
        have HST := Lib.hid hst
        obtain ⟨Lf, hLf⟩ : ∃ L, firstO z true t 0 0 = L := ⟨_, rfl⟩
        obtain ⟨Ez, hEz⟩ : ∃ L, zeroO z true t 0 = L := ⟨_, rfl⟩
        rw [hLf] at HLY zf hcf ⊢
        rw [hEz] at HOr ⊢
        have HLF := Lib.hid hLf
        have HEZ := Lib.hid hEz
        have HCF := Lib.hid hcf
        have HCZ := Lib.hid hcz
        obtain ⟨nf, hnf⟩ : ∃ n, Lf.length = n := ⟨_, rfl⟩
        rw [hnf] at HLY zf HCF
        obtain ⟨R, hR⟩ : ∃ R, N - 1 = R := ⟨_, rfl⟩
        have hRI : (R : Int) < (N : Int) := by omega
        rw [hR] at zf HCF HCZ hrt hrt2 ⊢
        clear hh hcf hcz hPf hWz hpr hsr hst hlen hLf hEz hnf hR hrt hrt2
        go_wp2_with fail
        go_region_held3 (fun w' => w'.cell? ⟨gp, 5, none⟩ = some (.slice (some ⟨gf, 0, none⟩) N N) ∧ w'.cell? ⟨gf, R, none⟩ = some (.slice Af nf cf) ∧ w'.cell? ⟨gp, 0, none⟩ = some (.int .i64 (m : Nat))) (go_keep)
          (first
            | (go_at_call 18; refine (HY.out _).mono ?_; rintro e w3 hr3; refine (fun hr => ?_) (RetQL.hx hr3 (Gs := [go]) (fun g hg => by simp at hg; subst hg; exact hgr)); obtain ⟨V3, rfl, hw3, hW3⟩ := hr; have hb3 : Below wr.heap.size wr w3 := undr hw3; have hF3 := hFr.below hb3; have s0 := hF3.cell HP.out.p5; have s1 := hF3.cell HCF.out; have s2 := hF3.cell HP.out.p0; have HW3 := Lib.hid hW3; have HZ3 := Lib.hid (HZR.out.call hb3); clear hW3 hr3 hw3)
            | (go_at_call 72; refine (HLY.out _ _ hF3 HZ3.out HW3.out).mono ?_; rintro e w4 ⟨rfl, hZ4, hwr4⟩; have hF4 := hwr4.sat hF3 HGS.out; have r0 := hF4.cell HP.out.p5; have r1 := hF4.cell HCF.out; have r2 := hF4.cell HP.out.p0; have HZ4 := Lib.hid hZ4; have HWR4 := Lib.hid hwr4; clear hZ4 hwr4))
        have p4 := hF4.cell HP.out.p4
        have z4 := hF4.cell HCZ.out
        go_wp2_with fail
        go_region_held3 (fun w' => w'.cell? ⟨gp, 4, none⟩ = some (.slice (some ⟨gz, 0, none⟩) N N) ∧ w'.cell? ⟨gz, R, none⟩ = some (.slice Az nz cz) ∧ w'.cell? ⟨gp, 0, none⟩ = some (.int .i64 (m : Nat))) (go_keep)
          (first
            | (go_at_call 22; refine (HOr.out _ hF4.drew).mono ?_; rintro e w5 hr5; refine (fun hr => ?_) (RetQL.hx hr5 (Gs := []) (fun g hg => by simp at hg)); obtain ⟨V5, rfl, hw5, hW5⟩ := hr; rw [heap_hx] at hW5; have hb5 : Below w4.heap.size w4 w5 := undr hw5; have hF5 := hF4.below hb5; have s3 := hF5.cell HP.out.p4; have s4 := hF5.cell HCZ.out; have s5 := hF5.cell HP.out.p0; have HW5 := Lib.hid hW5; clear hW5 hr5 hw5))
        go_wp2_with fail
        go_ret2
        have hbl : Below w.heap.size wr w4 := (hb3.mono HBR.out.size).trans (Wr.below HWR4.out (B := w.heap.size) (fun g hg => by simp at hg; subst hg; rw [HGO.out]; exact Nat.le_refl _) (Nat.le_trans HBR.out.size hb3.size))
        exact ⟨go, V5, rfl, by rw [HGO.out]; exact Nat.le_refl _, HBR.out.trans (hbl.trans (hb5.mono (Nat.le_trans HBR.out.size (Nat.le_trans hb3.size HWR4.out.size)))), ((HZ4.out.call hb5).out).same (fun j' hj' x hx => by show (false || inF (cutL Lf fun _ => true) j' x) = _; rw [Bool.false_or, show cutL Lf (fun _ => true) = Lf.map (fun p => (p.1, fun x => p.2 x && true)) from rfl, inF_map Lf (fun _ => true), Bool.and_true, HLF.out]), HW5.out.same (fun x hx => by rw [HEZ.out]; simp)⟩
      · obtain ⟨st, rfl⟩ : ∃ st : Nat, k = (st : Int) + 1 := ⟨k.toNat - 1, by omega⟩
        have hstj : st < j := by omega
        have hOE2 := HOE.out
        rw [if_pos (by omega), show ((st : Int) + 1).toNat = st + 1 by omega] at hOE2
        unfold stateO at hOE2
        rw [if_neg (by omega), if_pos (by have := HMS.out; omega), Nat.add_sub_cancel] at hOE2
        have hO2 : O = (aheadO z t 0 0 st).1 := by have := congrArg Prod.fst hOE2; exact this
        have hE2 : E = (aheadO z t 0 0 st).2 := by have := congrArg Prod.snd hOE2; exact this
        subst hO2 hE2
        have hsl : (stepsL t 0).length = j := by rw [← HP.out.steps]; exact HP.out.stepn
        obtain ⟨q0, hq0⟩ : ∃ q0, (stepsL t 0)[st]? = some q0 := ⟨_, List.getElem?_eq_getElem (by omega)⟩
        obtain ⟨_, hqN, ⟨hl0, hqs, _⟩, hqo, hqst⟩ := step_at t 0 st q0 0 0 HP.out.reg hq0
        rw [Nat.sub_zero] at hqN hqs hqo hqst
        rw [HP.out.len] at hqN
        obtain ⟨as_, vs, eas, hvs, hcs⟩ := HP.out.rd.at1 hstj
        rw [HP.out.steps, List.getElem?_map, hq0] at hvs
        obtain rfl : Value.int .i64 (q0 : Nat) = vs := by simpa using hvs
        subst eas
        have hk0b : ((st : Int) + 1 == 0) = false := by rw [beq_eq_false_iff_ne]; omega
        have hstI : (st : Int) < (j : Int) := by omega
        have hd3 : decide ((st : Int) + 1 < 0) = false := decide_eq_false (by omega)
        have hd4 : decide ((j : Int) < (st : Int) + 1) = false := decide_eq_false (by omega)
        have HH0 : Hid (q0 < N ∧ (posT t q0 true 0 0).1 = true ∧ (posT t q0 true 0 0).2.2 ≤ st ∧ st < (posT t q0 true 0 0).2.2 + stepsN (t.sub q0) ∧ (∀ q x, (aheadO z (t.sub q0) (posT t q0 true 0 0).2.1 (posT t q0 true 0 0).2.2 st).1 q x = false) ∧ ∀ x, (aheadO z (t.sub q0) (posT t q0 true 0 0).2.1 (posT t q0 true 0 0).2.2 st).2 x = true) := Lib.hid (by
          rw [hqs]
          exact ⟨hqN, hqo, by omega, by rw [hqst]; show st < 0 + st + 1; omega, fun _ _ => rfl, fun _ => rfl⟩)
        have HCS := Lib.hid hcs
        clear hOE2 HOE hq0 hqs hqo hqst hvs hcs hk0 hsl hd hd2 hqN
        go_wp2_with fail
        refine (HY.out _).mono ?_
        rintro e w3 hr3
        obtain ⟨V3, rfl, hw3, hW3⟩ := RetQL.hx hr3 (Gs := [go]) (fun g hg => by simp at hg; subst hg; exact hgr)
        have hF3 := hFr.below hw3
        have p23 := hF3.cell HP.out.p2
        have zs3 := hF3.cell HCS.out
        have hZ3 := HZR.out.call hw3
        clear hr3 p0 p2
        go_wp2_with fail
        have HF3 := Lib.hid hF3
        have hbr3 : Below w.heap.size w w3 := bthen HBR.out hw3
        have HB3 := Lib.hid hbr3
        have HH := HH0.out
        have hgl3 : go < w3.heap.size := Nat.lt_of_lt_of_le hgr hw3.size
        clear hFr hw3 HZR HBR HH0 zs3 p23 hbr3 hrt hrt2
        obtain ⟨R, hR⟩ : ∃ R, N - 1 = R := ⟨_, rfl⟩
        have HR := Lib.hid hR
        rw [hR]
        clear hR
        go_loopw [9, 10, 11] (fun v9 v10 _ wx => ∃ (i : Nat) (v : Value), v10 = .int .i64 i ∧ v = v9 ∧ i < N ∧ (posT t i true 0 0).1 = true ∧ (posT t i true 0 0).2.2 ≤ st ∧ st < (posT t i true 0 0).2.2 + stepsN (t.sub i) ∧ ZF wx go j [go] m (aheadO z (t.sub i) (posT t i true 0 0).2.1 (posT t i true 0 0).2.2 st).1 ∧ WdG m (hx wx [go]) v (aheadO z (t.sub i) (posT t i true 0 0).2.1 (posT t i true 0 0).2.2 st).2 ∧ Wr [go] w3 wx) (fun _ v10 _ _ => N - (intOf v10).toNat)
        case atStart => exact ⟨q0, _, rfl, rfl, HH.1, HH.2.1, HH.2.2.1, HH.2.2.2.1, hZ3.same (fun j hj x hx => (HH.2.2.2.2.1 j x).symm), hW3.same (fun x hx => (HH.2.2.2.2.2 x).symm), Wr.refl _ _⟩
        case round =>
          obtain ⟨i, v, rfl, rfl, hiN, hown, hs1, hs2, hZx, hWx, hwx⟩ := hrel
          have hFx := hwx.sat HF3.out HGS.out
          have hgx := hZx.lt
          obtain ⟨Av, nv, cv, fv, ev, hh⟩ := id hWx.wd
          subst ev
          clear hh HH
          have HZX := Lib.hid hZx
          have HWX := Lib.hid hWx
          have HWR := Lib.hid hwx
          clear hZx hWx hwx
          by_cases hroot : i = R
          · have hpr : posT t i true 0 0 = (true, 0, 0) := by rw [hroot, ← HR.out, ← HP.out.len]; exact pos_root t true 0 0
            have hsr : t.sub i = t := by rw [hroot, ← HR.out, ← HP.out.len]; exact Tr.sub_root t
            rw [hpr, hsr] at HZX HWX
            dsimp only at HZX HWX
            have hdec1 : ((i : Int) != (R : Int)) = false := by rw [hroot]; simp
            have hdec2 : ((i : Int) == (R : Int)) = true := by rw [hroot]; simp
            clear hroot hpr hsr hs1 hs2 hown
            go_wp2_with fail
            go_ret2
            have hwv := HWX.out.cle (cle_nil _ _)
            rw [heap_hx] at hwv
            exact ⟨go, _, rfl, by rw [HGO.out]; exact Nat.le_refl _, HB3.out.trans (Wr.below HWR.out (fun g hg => by simp at hg; subst hg; rw [HGO.out]; exact Nat.le_refl _) HB3.out.size), HZX.out.out, hwv⟩
          · have hneR : ((i : Int) != (R : Int)) = true := by rw [bne_iff_ne]; omega
            have hneR2 : ((i : Int) == (R : Int)) = false := by rw [beq_eq_false_iff_ne]; omega
            have hi1 : i + 1 < N := by have := HR.out; omega
            obtain ⟨hij, hjN, hpar⟩ := par_at t i (by rw [HP.out.len]; exact hi1)
            have hup := HP.out.up i hi1
            obtain ⟨pj, hpj⟩ : ∃ pj, parT t i = pj := ⟨_, rfl⟩
            rw [hpj] at hij hjN hpar hup
            have hjN' : pj < N := by rw [← HP.out.len]; exact hjN
            obtain ⟨hln, hl2⟩ := HP.out.nodes
            obtain ⟨ad, rfl, hL⟩ := hl2 (by omega)
            obtain ⟨Ak, ck, _, hK, hdn⟩ := hL pj (by omega)
            have hgf := Tr.get_flat t pj 0 hjN
            rw [← HP.out.flat, Nat.zero_add, List.getElem?_eq_getElem (by omega)] at hgf
            injection hgf with hgf
            obtain ⟨Ai, ci, hci, hPi⟩ := HP.out.first i hiN
            have p0 := hFx.cell HP.out.p0
            have p1 := hFx.cell HP.out.p1
            have p3 := hFx.cell HP.out.p3
            have p5 := hFx.cell HP.out.p5
            have u0 := hFx.cell hup
            have hiI : (i : Int) < (N : Int) := by omega
            have hjI : (pj : Int) < (N : Int) := by omega
            have hsti : ∀ p, p ∈ firstO z (posT t i true 0 0).1 (t.sub i) (posT t i true 0 0).2.1 (posT t i true 0 0).2.2 → p.1 < j := fun p hp => by
              have h1 := first_mem _ _ _ _ _ (own_regV t i 0 0 HP.out.reg (by rw [HP.out.len]; exact hiN) hown) p hp
              have h2 := pos_steps t i 0 0 HP.out.reg (by rw [HP.out.len]; exact hiN) hown
              have := HMS.out
              omega
            have hlni : (firstO z (posT t i true 0 0).1 (t.sub i) (posT t i true 0 0).2.1 (posT t i true 0 0).2.2).length ≤ 1000 := by
              have := first_len z (posT t i true 0 0).1 (t.sub i) (posT t i true 0 0).2.1 (posT t i true 0 0).2.2
              have := Tr.sub_size_le t i (by rw [HP.out.len]; exact hiN)
              omega
            have HUP := Lib.hid hup
            have HCI := Lib.hid hci
            rcases hpar with ⟨h, a, hxj, hij2⟩ | ⟨h, a, b, hxj, hij2⟩
            · obtain ⟨_, hpu⟩ := pos_un hjN hxj true 0 0
              obtain ⟨_, hak, _⟩ := kid_un hjN hxj
              rw [hxj] at hgf
              obtain rfl : i = pj - 1 := by omega
              rw [hpu] at hown hs1 hs2 hci hPi hsti hlni HZX HWX HCI
              simp only [Bool.and_eq_true, decide_eq_true_eq] at hown
              have hregj := own_regV t pj 0 0 HP.out.reg hjN hown.1
              rw [hxj] at hregj
              have h22 : h.kind = 22 := (hregj.resolve_left hown.2).1
              rw [hak] at hs2 hci hPi hsti hlni HZX HWX HCI
              have hoj := hown.1
              rw [hown.1, decide_eq_true hown.2] at hci hPi hsti hlni HCI
              simp only [Bool.and_self] at hci hPi hsti hlni HCI
              have hnd : l[pj].kind = 22 := by rw [hgf]; exact h22
              generalize l[pj] = nd at *
              obtain ⟨kind, name, lo, hi', kk⟩ := nd
              dsimp only at hnd hK hdn
              subst hnd
              obtain ⟨c0, c1, c2, c3, c4⟩ := hdn.sat hFx
              dsimp only at c0 c1 c2 c3 c4
              have HLY := Lib.hid (fun (X : World) (V : Value) (O' : Nat → Nat → Bool) (f : Nat → Bool) (hX : Sat F X) (hZX : ZF X go j [go] m O') (hV : WdG m (hx X [go]) V f) => lay_w (sat_hx X [go]) m hm gp ((cle_hx hX HGS.out) _ _ HP.out.p0) go j (hx_in (by simp)) hM O' hZX Ai _ ci _ (hPi.cle (cle_hx hX HGS.out)) hlni hsti V f hV.wd)
              obtain ⟨K0, hK0⟩ : ∃ x, (posT t pj true 0 0).2.1 = x := ⟨_, rfl⟩
              obtain ⟨S0, hS0⟩ : ∃ x, (posT t pj true 0 0).2.2 = x := ⟨_, rfl⟩
              have HK0 := Lib.hid hK0
              have HS0 := Lib.hid hS0
              rw [hK0, hS0] at HZX HWX HLY HCI
              rw [hS0] at hs1 hs2
              have f0 := hFx.cell HCI.out
              obtain ⟨nf, hnf⟩ : ∃ n, (firstO z true a K0 S0).length = n := ⟨_, rfl⟩
              rw [hnf] at HLY f0 HCI
              have HREL : Hid (∀ (f : Nat → Bool) (q x : Nat), ((aheadO z a K0 S0 st).1 q x || inF (cutL (firstO z true a K0 S0) (aheadO z a K0 S0 st).2) q x) = (aheadO z (.un h a) K0 S0 st).1 q x) := Lib.hid (fun _ q x => by
                rw [ahead_un z h22, inF_cut, Bool.and_comm])
              have HEND : Hid ((aheadO z (.un h a) K0 S0 st).2 = (aheadO z a K0 S0 st).2) := Lib.hid (by rw [ahead_un z h22])
              have hiJ : ((pj - 1 : Nat) : Int) < (N : Int) := by omega
              have HI1 : Hid (0 < pj) := Lib.hid (by omega)
              have HSJ : Hid (stepsN (Tr.un h a) = stepsN a) := Lib.hid (if_neg (by omega))
              have HTK : Hid (t.sub pj = .un h a ∧ (posT t pj true 0 0).1 = true ∧ (posT t pj true 0 0).2.1 = K0 ∧ (posT t pj true 0 0).2.2 = S0) := Lib.hid ⟨hxj, hoj, hK0, hS0⟩
              clear hak hgf hpu hown hregj h22 hoj hnf hK0 hS0 HK0 HS0 hL hl2 hln hK hdn hpj hij2 hci hPi hsti hlni hup
              go_wp2_with fail
              have x1 := World.new_ne wr _ p1
              have x3 := World.new_ne wr _ u0
              have x4 := World.new_ne wr _ c0
              have x4' : wr.heap.size ≠ (ad.add (pj * 5)).block := x4
              go_region_held3 (fun w' => w'.cell? ⟨gp, 1, none⟩ = some (.slice (some ad) N cl) ∧ w'.cell? ⟨gp, 3, none⟩ = some (.slice (some ⟨gu, 0, none⟩) N N) ∧ w'.cell? ⟨gu, pj - 1, none⟩ = some (.int .i64 (pj : Nat)) ∧ w'.cell? (ad.add (pj * 5)) = some (.int .i64 22) ∧ w'.cell? ⟨(ad.add (pj * 5)).block, (ad.add (pj * 5)).off + 1, none⟩ = some (.string name) ∧ w'.cell? ⟨(ad.add (pj * 5)).block, (ad.add (pj * 5)).off + 2, none⟩ = some (.int .i64 lo) ∧ w'.cell? ⟨(ad.add (pj * 5)).block, (ad.add (pj * 5)).off + 3, none⟩ = some (.int .i64 hi') ∧ w'.cell? ⟨(ad.add (pj * 5)).block, (ad.add (pj * 5)).off + 4, none⟩ = some (.slice Ak kk.length ck)) (refine ⟨?_, ?_, ?_, ?_, ?_, ?_, ?_, ?_⟩ <;> go_keep) (fail)
              all_goals
                have hkn := Blk.drew (Blk.new wr 48 #[.int .i64 22, .string name, .int .i64 lo, .int .i64 hi', .slice Ak kk.length ck])
                have hbW := below_drewN (balloc wr (.cells #[.int .i64 22, .string name, .int .i64 lo, .int .i64 hi', .slice Ak kk.length ck] 48)) 1
                obtain ⟨W, hW⟩ : ∃ W, (wr.alloc (.cells #[.int .i64 22, .string name, .int .i64 lo, .int .i64 hi', .slice Ak kk.length ck] 48)).drew = W := ⟨_, rfl⟩
                have hbW' : Below wr.heap.size wr W := hW ▸ hbW
                rw [hW] at hkn ⊢
                obtain ⟨m0, m1, m2, m3, m4⟩ := blk5 hkn
                have hFW := hFx.below hbW'
                have q5 := hFW.cell HP.out.p5
                have q0' := hFW.cell HCI.out
                have hZW := HZX.out.call hbW'
                have hVW := HWX.out.cle (Wr.of_below hbW').cle
                have HZW := Lib.hid hZW
                have HVW := Lib.hid hVW
                have HBW := Lib.hid hbW'
                clear hW hbW hbW' hkn hZW hVW hFx p0 p1 p3 p5 u0 c0 c1 c2 c3 c4 f0 x1 x3 x4 x4'
                go_wp2_with (go_at_call 72; refine (HLY.out _ _ _ _ hFW HZW.out HVW.out).mono ?_; rintro e w4 ⟨rfl, hZ4, hwr4⟩; have hF4 := hwr4.sat hFW HGS.out; have p34 := hF4.cell HP.out.p3; have u04 := hF4.cell HUP.out; have HZ4 := Lib.hid hZ4; have HWR4 := Lib.hid hwr4; clear hZ4 hwr4)
                go_roundw
                case rel =>
                  obtain ⟨k1, k2, k3, k4⟩ := HTK.out
                  refine ⟨pj, _, rfl, rfl, hjN', k2, by rw [k4]; exact hs1, by rw [k4, k1, HSJ.out]; exact hs2, ?_, ?_, ((HWR.out.call HBW.out).trans HWR4.out)⟩
                  · rw [k1, k3, k4]
                    exact HZ4.out.same (fun q _ x _ => HREL.out (fun _ => true) q x)
                  · rw [k1, k3, k4, HEND.out]
                    exact HVW.out.cle HWR4.out.cle
                case measure => simp [intOf]; omega
            -- BIN
            · obtain ⟨_, hpa, hpb⟩ := pos_bin hjN hxj true 0 0
              obtain ⟨_, hkb, hka⟩ := kid_bin hjN hxj
              have hap := a.size_pos
              have hbp := b.size_pos
              rw [hxj] at hgf
              clear hci hPi hsti hlni HCI
              rcases hij2 with hij2 | hij2
              · obtain rfl : i = pj - 1 := by omega
                rw [hpb, hkb] at hs2 HZX HWX
                rw [hpb] at hown hs1
                dsimp only at hown hs1 hs2 HZX HWX
                have hoj := hown
                have hregj := own_regV t pj 0 0 HP.out.reg hjN hoj
                rw [hxj] at hregj
                obtain ⟨K0, hK0⟩ : ∃ x, (posT t pj true 0 0).2.1 = x := ⟨_, rfl⟩
                obtain ⟨S0, hS0⟩ : ∃ x, (posT t pj true 0 0).2.2 = x := ⟨_, rfl⟩
                rw [hK0, hS0] at HZX HWX
                rw [hS0] at hs1 hs2
                rcases hregj.1 with hkd | hkd
                · skip
                  have hnd : l[pj].kind = 20 ∧ l[pj].kids = [((pj - 1 - b.size : Nat) : Int), ((pj - 1 : Nat) : Int)] := by
                    rw [hgf]
                    refine ⟨hkd, ?_⟩
                    show [((pj + 1 - (a.size + b.size + 1) + a.size : Nat) : Int) - 1, ((pj + 1 - (a.size + b.size + 1) + a.size + b.size : Nat) : Int) - 1] = _
                    simp only [List.cons.injEq, and_true]
                    constructor <;> omega
                  generalize l[pj] = nd at *
                  obtain ⟨kind, name, lo, hi', kk⟩ := nd
                  dsimp only at hnd hK hdn
                  obtain ⟨rfl, rfl⟩ := hnd
                  obtain ⟨c0, c1, c2, c3, c4⟩ := hdn.sat hFx
                  dsimp only at c0 c1 c2 c3 c4
                  obtain ⟨ak, vk, rfl, hv0, hk0⟩ := hK.at1 (k := 0) (by simp)
                  obtain rfl : Value.int .i64 ((pj - 1 - b.size : Nat) : Int) = vk := by simpa using hv0
                  rw [show ak.add 0 = ak by unfold Addr.add; simp] at hk0
                  obtain ⟨ak', vk', eak, hv1, hk1⟩ := hK.at1 (k := 1) (by simp)
                  injection eak with eak
                  subst eak
                  obtain rfl : Value.int .i64 ((pj - 1 : Nat) : Int) = vk' := by simpa using hv1
                  have hk1' : F.cell ⟨ak.block, ak.off + 1, none⟩ = some (.int .i64 ((pj - 1 : Nat) : Int)) := hk1
                  have HK0c := Lib.hid hk0
                  have HK1c := Lib.hid hk1'
                  have hiJ : ((pj - 1 : Nat) : Int) < (N : Int) := by omega
                  have HEQ : Hid (aheadO z (.bin h a b) K0 S0 st = aheadO z b (K0 + testsT a) (S0 + stepsN a) st) := Lib.hid (ahead_bin z h a b K0 S0 st (by omega))
                  have hkn' : (((pj - 1 - b.size : Nat) : Int) == ((pj - 1 : Nat) : Int)) = false := by rw [beq_eq_false_iff_ne]; have := b.size_pos; omega
                  have HSJ : Hid (S0 ≤ st ∧ st < S0 + stepsN (Tr.bin h a b)) := Lib.hid (by show S0 ≤ st ∧ st < S0 + (stepsN a + stepsN b); omega)
                  have HTK : Hid (t.sub pj = .bin h a b ∧ (posT t pj true 0 0).1 = true ∧ (posT t pj true 0 0).2.1 = K0 ∧ (posT t pj true 0 0).2.2 = S0) := Lib.hid ⟨hxj, hoj, hK0, hS0⟩
                  obtain ⟨ia, hia⟩ : ∃ x, pj - 1 - b.size = x := ⟨_, rfl⟩
                  obtain ⟨ib, hib⟩ : ∃ x, pj - 1 = x := ⟨_, rfl⟩
                  (try rw [hia] at hij); (try rw [hib] at hij)
                  (try rw [hia] at u0); (try rw [hib] at u0)
                  (try rw [hia] at HUP); (try rw [hib] at HUP)
                  (try rw [hia] at hiJ); (try rw [hib] at hiJ)
                  (try rw [hia] at hiI); (try rw [hib] at hiI)
                  (try rw [hia] at c4); (try rw [hib] at c4)
                  (try rw [hia] at HK0c); (try rw [hib] at HK0c)
                  (try rw [hia] at HK1c); (try rw [hib] at HK1c)
                  (try rw [hia] at hneR); (try rw [hib] at hneR)
                  (try rw [hia] at hneR2); (try rw [hib] at hneR2)
                  (try rw [hia] at hkn'); (try rw [hib] at hkn')
                  (try rw [hia]); (try rw [hib])
                  have hiaI : (ia : Int) < (N : Int) := by omega
                  have hibI : (ib : Int) < (N : Int) := by omega
                  clear hia hib hgf hpa hpb hkb hka hown hregj hoj hK0 hS0 hL hl2 hln hK hdn hpj hij2 hup hkd hv0 hv1 hk0 hk1 hk1' hs1 hs2
                  go_wp2_with fail
                  have x1 := World.new_ne wr _ p1
                  have x3 := World.new_ne wr _ u0
                  have x4 := World.new_ne wr _ c0
                  have x4' : wr.heap.size ≠ (ad.add (pj * 5)).block := x4
                  go_region_held3 (fun w' => w'.cell? ⟨gp, 1, none⟩ = some (.slice (some ad) N cl) ∧ w'.cell? ⟨gp, 3, none⟩ = some (.slice (some ⟨gu, 0, none⟩) N N) ∧ w'.cell? ⟨gu, ib, none⟩ = some (.int .i64 (pj : Nat)) ∧ w'.cell? (ad.add (pj * 5)) = some (.int .i64 20) ∧ w'.cell? ⟨(ad.add (pj * 5)).block, (ad.add (pj * 5)).off + 1, none⟩ = some (.string name) ∧ w'.cell? ⟨(ad.add (pj * 5)).block, (ad.add (pj * 5)).off + 2, none⟩ = some (.int .i64 lo) ∧ w'.cell? ⟨(ad.add (pj * 5)).block, (ad.add (pj * 5)).off + 3, none⟩ = some (.int .i64 hi') ∧ w'.cell? ⟨(ad.add (pj * 5)).block, (ad.add (pj * 5)).off + 4, none⟩ = some (.slice (some ak) 2 ck)) (refine ⟨?_, ?_, ?_, ?_, ?_, ?_, ?_, ?_⟩ <;> go_keep) (fail)
                  all_goals
                    have hkn := Blk.drew (Blk.new wr 48 #[.int .i64 20, .string name, .int .i64 lo, .int .i64 hi', .slice (some ak) 2 ck])
                    have hbW := below_drewN (balloc wr (.cells #[.int .i64 20, .string name, .int .i64 lo, .int .i64 hi', .slice (some ak) 2 ck] 48)) 1
                    obtain ⟨W, hW⟩ : ∃ W, (wr.alloc (.cells #[.int .i64 20, .string name, .int .i64 lo, .int .i64 hi', .slice (some ak) 2 ck] 48)).drew = W := ⟨_, rfl⟩
                    have hbW' : Below wr.heap.size wr W := hW ▸ hbW
                    rw [hW] at hkn ⊢
                    obtain ⟨m0, m1, m2, m3, m4⟩ := blk5 hkn
                    have hFW := hFx.below hbW'
                    have k0c := hFW.cell HK0c.out
                    have k1c := hFW.cell HK1c.out
                    have p34 := hFW.cell HP.out.p3
                    have u04 := hFW.cell HUP.out
                    have hZW := HZX.out.call hbW'
                    have hVW := HWX.out.cle (Wr.of_below hbW').cle
                    have HZW := Lib.hid hZW
                    have HVW := Lib.hid hVW
                    have HBW := Lib.hid hbW'
                    have hKN := Lib.hid hkn
                    clear hW hbW hbW' hkn hZW hVW hFx p0 p1 p3 p5 u0 c0 c1 c2 c3 c4 x1 x3 x4 x4'
                    go_wp2_with fail
                    go_roundw
                    case rel =>
                      obtain ⟨k1, k2, k3, k4⟩ := HTK.out
                      refine ⟨pj, _, rfl, rfl, hjN', k2, by rw [k4]; exact HSJ.out.1, by rw [k4, k1]; exact HSJ.out.2, ?_, ?_, (HWR.out.call HBW.out)⟩
                      · rw [k1, k3, k4, HEQ.out]
                        exact HZW.out
                      · rw [k1, k3, k4, HEQ.out]
                        exact HVW.out
                    case measure => simp [intOf]; omega
                · skip
                  have hnd : l[pj].kind = 21 ∧ l[pj].kids = [((pj - 1 - b.size : Nat) : Int), ((pj - 1 : Nat) : Int)] := by
                    rw [hgf]
                    refine ⟨hkd, ?_⟩
                    show [((pj + 1 - (a.size + b.size + 1) + a.size : Nat) : Int) - 1, ((pj + 1 - (a.size + b.size + 1) + a.size + b.size : Nat) : Int) - 1] = _
                    simp only [List.cons.injEq, and_true]
                    constructor <;> omega
                  generalize l[pj] = nd at *
                  obtain ⟨kind, name, lo, hi', kk⟩ := nd
                  dsimp only at hnd hK hdn
                  obtain ⟨rfl, rfl⟩ := hnd
                  obtain ⟨c0, c1, c2, c3, c4⟩ := hdn.sat hFx
                  dsimp only at c0 c1 c2 c3 c4
                  obtain ⟨ak, vk, rfl, hv0, hk0⟩ := hK.at1 (k := 0) (by simp)
                  obtain rfl : Value.int .i64 ((pj - 1 - b.size : Nat) : Int) = vk := by simpa using hv0
                  rw [show ak.add 0 = ak by unfold Addr.add; simp] at hk0
                  obtain ⟨ak', vk', eak, hv1, hk1⟩ := hK.at1 (k := 1) (by simp)
                  injection eak with eak
                  subst eak
                  obtain rfl : Value.int .i64 ((pj - 1 : Nat) : Int) = vk' := by simpa using hv1
                  have hk1' : F.cell ⟨ak.block, ak.off + 1, none⟩ = some (.int .i64 ((pj - 1 : Nat) : Int)) := hk1
                  have HK0c := Lib.hid hk0
                  have HK1c := Lib.hid hk1'
                  have hiJ : ((pj - 1 : Nat) : Int) < (N : Int) := by omega
                  have HEQ : Hid (aheadO z (.bin h a b) K0 S0 st = aheadO z b (K0 + testsT a) (S0 + stepsN a) st) := Lib.hid (ahead_bin z h a b K0 S0 st (by omega))
                  have hkn' : (((pj - 1 - b.size : Nat) : Int) == ((pj - 1 : Nat) : Int)) = false := by rw [beq_eq_false_iff_ne]; have := b.size_pos; omega
                  have HSJ : Hid (S0 ≤ st ∧ st < S0 + stepsN (Tr.bin h a b)) := Lib.hid (by show S0 ≤ st ∧ st < S0 + (stepsN a + stepsN b); omega)
                  have HTK : Hid (t.sub pj = .bin h a b ∧ (posT t pj true 0 0).1 = true ∧ (posT t pj true 0 0).2.1 = K0 ∧ (posT t pj true 0 0).2.2 = S0) := Lib.hid ⟨hxj, hoj, hK0, hS0⟩
                  obtain ⟨ia, hia⟩ : ∃ x, pj - 1 - b.size = x := ⟨_, rfl⟩
                  obtain ⟨ib, hib⟩ : ∃ x, pj - 1 = x := ⟨_, rfl⟩
                  (try rw [hia] at hij); (try rw [hib] at hij)
                  (try rw [hia] at u0); (try rw [hib] at u0)
                  (try rw [hia] at HUP); (try rw [hib] at HUP)
                  (try rw [hia] at hiJ); (try rw [hib] at hiJ)
                  (try rw [hia] at hiI); (try rw [hib] at hiI)
                  (try rw [hia] at c4); (try rw [hib] at c4)
                  (try rw [hia] at HK0c); (try rw [hib] at HK0c)
                  (try rw [hia] at HK1c); (try rw [hib] at HK1c)
                  (try rw [hia] at hneR); (try rw [hib] at hneR)
                  (try rw [hia] at hneR2); (try rw [hib] at hneR2)
                  (try rw [hia] at hkn'); (try rw [hib] at hkn')
                  (try rw [hia]); (try rw [hib])
                  have hiaI : (ia : Int) < (N : Int) := by omega
                  have hibI : (ib : Int) < (N : Int) := by omega
                  clear hia hib hgf hpa hpb hkb hka hown hregj hoj hK0 hS0 hL hl2 hln hK hdn hpj hij2 hup hkd hv0 hv1 hk0 hk1 hk1' hs1 hs2
                  go_wp2_with fail
                  have x1 := World.new_ne wr _ p1
                  have x3 := World.new_ne wr _ u0
                  have x4 := World.new_ne wr _ c0
                  have x4' : wr.heap.size ≠ (ad.add (pj * 5)).block := x4
                  go_region_held3 (fun w' => w'.cell? ⟨gp, 1, none⟩ = some (.slice (some ad) N cl) ∧ w'.cell? ⟨gp, 3, none⟩ = some (.slice (some ⟨gu, 0, none⟩) N N) ∧ w'.cell? ⟨gu, ib, none⟩ = some (.int .i64 (pj : Nat)) ∧ w'.cell? (ad.add (pj * 5)) = some (.int .i64 21) ∧ w'.cell? ⟨(ad.add (pj * 5)).block, (ad.add (pj * 5)).off + 1, none⟩ = some (.string name) ∧ w'.cell? ⟨(ad.add (pj * 5)).block, (ad.add (pj * 5)).off + 2, none⟩ = some (.int .i64 lo) ∧ w'.cell? ⟨(ad.add (pj * 5)).block, (ad.add (pj * 5)).off + 3, none⟩ = some (.int .i64 hi') ∧ w'.cell? ⟨(ad.add (pj * 5)).block, (ad.add (pj * 5)).off + 4, none⟩ = some (.slice (some ak) 2 ck)) (refine ⟨?_, ?_, ?_, ?_, ?_, ?_, ?_, ?_⟩ <;> go_keep) (fail)
                  all_goals
                    have hkn := Blk.drew (Blk.new wr 48 #[.int .i64 21, .string name, .int .i64 lo, .int .i64 hi', .slice (some ak) 2 ck])
                    have hbW := below_drewN (balloc wr (.cells #[.int .i64 21, .string name, .int .i64 lo, .int .i64 hi', .slice (some ak) 2 ck] 48)) 1
                    obtain ⟨W, hW⟩ : ∃ W, (wr.alloc (.cells #[.int .i64 21, .string name, .int .i64 lo, .int .i64 hi', .slice (some ak) 2 ck] 48)).drew = W := ⟨_, rfl⟩
                    have hbW' : Below wr.heap.size wr W := hW ▸ hbW
                    rw [hW] at hkn ⊢
                    obtain ⟨m0, m1, m2, m3, m4⟩ := blk5 hkn
                    have hFW := hFx.below hbW'
                    have k0c := hFW.cell HK0c.out
                    have k1c := hFW.cell HK1c.out
                    have p34 := hFW.cell HP.out.p3
                    have u04 := hFW.cell HUP.out
                    have hZW := HZX.out.call hbW'
                    have hVW := HWX.out.cle (Wr.of_below hbW').cle
                    have HZW := Lib.hid hZW
                    have HVW := Lib.hid hVW
                    have HBW := Lib.hid hbW'
                    have hKN := Lib.hid hkn
                    clear hW hbW hbW' hkn hZW hVW hFx p0 p1 p3 p5 u0 c0 c1 c2 c3 c4 x1 x3 x4 x4'
                    go_wp2_with fail
                    go_roundw
                    case rel =>
                      obtain ⟨k1, k2, k3, k4⟩ := HTK.out
                      refine ⟨pj, _, rfl, rfl, hjN', k2, by rw [k4]; exact HSJ.out.1, by rw [k4, k1]; exact HSJ.out.2, ?_, ?_, (HWR.out.call HBW.out)⟩
                      · rw [k1, k3, k4, HEQ.out]
                        exact HZW.out
                      · rw [k1, k3, k4, HEQ.out]
                        exact HVW.out
                    case measure => simp [intOf]; omega
              · obtain rfl : i = pj - 1 - b.size := by omega
                rw [hpa, hka] at HZX HWX
                rw [hpa] at hown hs1 hs2
                rw [hka] at hs2
                have hoj := hown
                have hregj := own_regV t pj 0 0 HP.out.reg hjN hoj
                rw [hxj] at hregj
                obtain ⟨K0, hK0⟩ : ∃ x, (posT t pj true 0 0).2.1 = x := ⟨_, rfl⟩
                obtain ⟨S0, hS0⟩ : ∃ x, (posT t pj true 0 0).2.2 = x := ⟨_, rfl⟩
                rw [hK0, hS0] at HZX HWX
                rw [hS0] at hs1 hs2
                rcases hregj.1 with hkd | hkd
                · skip
                  have hnd : l[pj].kind = 20 ∧ l[pj].kids = [((pj - 1 - b.size : Nat) : Int), ((pj - 1 : Nat) : Int)] := by
                    rw [hgf]
                    refine ⟨hkd, ?_⟩
                    show [((pj + 1 - (a.size + b.size + 1) + a.size : Nat) : Int) - 1, ((pj + 1 - (a.size + b.size + 1) + a.size + b.size : Nat) : Int) - 1] = _
                    simp only [List.cons.injEq, and_true]
                    constructor <;> omega
                  generalize l[pj] = nd at *
                  obtain ⟨kind, name, lo, hi', kk⟩ := nd
                  dsimp only at hnd hK hdn
                  obtain ⟨rfl, rfl⟩ := hnd
                  obtain ⟨c0, c1, c2, c3, c4⟩ := hdn.sat hFx
                  dsimp only at c0 c1 c2 c3 c4
                  obtain ⟨ak, vk, rfl, hv0, hk0⟩ := hK.at1 (k := 0) (by simp)
                  obtain rfl : Value.int .i64 ((pj - 1 - b.size : Nat) : Int) = vk := by simpa using hv0
                  rw [show ak.add 0 = ak by unfold Addr.add; simp] at hk0
                  obtain ⟨ak', vk', eak, hv1, hk1⟩ := hK.at1 (k := 1) (by simp)
                  injection eak with eak
                  subst eak
                  obtain rfl : Value.int .i64 ((pj - 1 : Nat) : Int) = vk' := by simpa using hv1
                  have hk1' : F.cell ⟨ak.block, ak.off + 1, none⟩ = some (.int .i64 ((pj - 1 : Nat) : Int)) := hk1
                  have HK0c := Lib.hid hk0
                  have HK1c := Lib.hid hk1'
                  have hiJ : ((pj - 1 - b.size : Nat) : Int) < (N : Int) := by omega
                  have HEQ : Hid (aheadO z (.bin h a b) K0 S0 st = aheadO z a K0 S0 st) := Lib.hid (ahead_alt z hkd a b K0 S0 st hs2)
                  have HSJ : Hid (S0 ≤ st ∧ st < S0 + stepsN (Tr.bin h a b)) := Lib.hid (by show S0 ≤ st ∧ st < S0 + (stepsN a + stepsN b); omega)
                  have HTK : Hid (t.sub pj = .bin h a b ∧ (posT t pj true 0 0).1 = true ∧ (posT t pj true 0 0).2.1 = K0 ∧ (posT t pj true 0 0).2.2 = S0) := Lib.hid ⟨hxj, hoj, hK0, hS0⟩
                  obtain ⟨ia, hia⟩ : ∃ x, pj - 1 - b.size = x := ⟨_, rfl⟩
                  obtain ⟨ib, hib⟩ : ∃ x, pj - 1 = x := ⟨_, rfl⟩
                  (try rw [hia] at hij); (try rw [hib] at hij)
                  (try rw [hia] at u0); (try rw [hib] at u0)
                  (try rw [hia] at HUP); (try rw [hib] at HUP)
                  (try rw [hia] at hiJ); (try rw [hib] at hiJ)
                  (try rw [hia] at hiI); (try rw [hib] at hiI)
                  (try rw [hia] at c4); (try rw [hib] at c4)
                  (try rw [hia] at HK0c); (try rw [hib] at HK0c)
                  (try rw [hia] at HK1c); (try rw [hib] at HK1c)
                  (try rw [hia] at hneR); (try rw [hib] at hneR)
                  (try rw [hia] at hneR2); (try rw [hib] at hneR2)
                  (try rw [hia]); (try rw [hib])
                  have hiaI : (ia : Int) < (N : Int) := by omega
                  have hibI : (ib : Int) < (N : Int) := by omega
                  clear hia hib hgf hpa hpb hkb hka hown hregj hoj hK0 hS0 hL hl2 hln hK hdn hpj hij2 hup hkd hv0 hv1 hk0 hk1 hk1' hs1 hs2
                  go_wp2_with fail
                  have x1 := World.new_ne wr _ p1
                  have x3 := World.new_ne wr _ u0
                  have x4 := World.new_ne wr _ c0
                  have x4' : wr.heap.size ≠ (ad.add (pj * 5)).block := x4
                  go_region_held3 (fun w' => w'.cell? ⟨gp, 1, none⟩ = some (.slice (some ad) N cl) ∧ w'.cell? ⟨gp, 3, none⟩ = some (.slice (some ⟨gu, 0, none⟩) N N) ∧ w'.cell? ⟨gu, ia, none⟩ = some (.int .i64 (pj : Nat)) ∧ w'.cell? (ad.add (pj * 5)) = some (.int .i64 20) ∧ w'.cell? ⟨(ad.add (pj * 5)).block, (ad.add (pj * 5)).off + 1, none⟩ = some (.string name) ∧ w'.cell? ⟨(ad.add (pj * 5)).block, (ad.add (pj * 5)).off + 2, none⟩ = some (.int .i64 lo) ∧ w'.cell? ⟨(ad.add (pj * 5)).block, (ad.add (pj * 5)).off + 3, none⟩ = some (.int .i64 hi') ∧ w'.cell? ⟨(ad.add (pj * 5)).block, (ad.add (pj * 5)).off + 4, none⟩ = some (.slice (some ak) 2 ck)) (refine ⟨?_, ?_, ?_, ?_, ?_, ?_, ?_, ?_⟩ <;> go_keep) (fail)
                  all_goals
                    have hkn := Blk.drew (Blk.new wr 48 #[.int .i64 20, .string name, .int .i64 lo, .int .i64 hi', .slice (some ak) 2 ck])
                    have hbW := below_drewN (balloc wr (.cells #[.int .i64 20, .string name, .int .i64 lo, .int .i64 hi', .slice (some ak) 2 ck] 48)) 1
                    obtain ⟨W, hW⟩ : ∃ W, (wr.alloc (.cells #[.int .i64 20, .string name, .int .i64 lo, .int .i64 hi', .slice (some ak) 2 ck] 48)).drew = W := ⟨_, rfl⟩
                    have hbW' : Below wr.heap.size wr W := hW ▸ hbW
                    rw [hW] at hkn ⊢
                    obtain ⟨m0, m1, m2, m3, m4⟩ := blk5 hkn
                    have hFW := hFx.below hbW'
                    have k0c := hFW.cell HK0c.out
                    have k1c := hFW.cell HK1c.out
                    have p34 := hFW.cell HP.out.p3
                    have u04 := hFW.cell HUP.out
                    have hZW := HZX.out.call hbW'
                    have hVW := HWX.out.cle (Wr.of_below hbW').cle
                    have HZW := Lib.hid hZW
                    have HVW := Lib.hid hVW
                    have HBW := Lib.hid hbW'
                    have hKN := Lib.hid hkn
                    clear hW hbW hbW' hkn hZW hVW hFx p0 p1 p3 p5 u0 c0 c1 c2 c3 c4 x1 x3 x4 x4'
                    go_wp2_with fail
                    go_roundw
                    case rel =>
                      obtain ⟨k1, k2, k3, k4⟩ := HTK.out
                      refine ⟨pj, _, rfl, rfl, hjN', k2, by rw [k4]; exact HSJ.out.1, by rw [k4, k1]; exact HSJ.out.2, ?_, ?_, (HWR.out.call HBW.out)⟩
                      · rw [k1, k3, k4, HEQ.out]
                        exact HZW.out
                      · rw [k1, k3, k4, HEQ.out]
                        exact HVW.out
                    case measure => simp [intOf]; omega
                · skip
                  have HNG : Hid (wr.heap.size ∉ [go]) := Lib.hid (by simp; omega)
                  have hnd : l[pj].kind = 21 ∧ l[pj].kids = [((pj - 1 - b.size : Nat) : Int), ((pj - 1 : Nat) : Int)] := by
                    rw [hgf]
                    refine ⟨hkd, ?_⟩
                    show [((pj + 1 - (a.size + b.size + 1) + a.size : Nat) : Int) - 1, ((pj + 1 - (a.size + b.size + 1) + a.size + b.size : Nat) : Int) - 1] = _
                    simp only [List.cons.injEq, and_true]
                    constructor <;> omega
                  generalize l[pj] = nd at *
                  obtain ⟨kind, name, lo, hi', kk⟩ := nd
                  dsimp only at hnd hK hdn
                  obtain ⟨rfl, rfl⟩ := hnd
                  obtain ⟨c0, c1, c2, c3, c4⟩ := hdn.sat hFx
                  dsimp only at c0 c1 c2 c3 c4
                  obtain ⟨ak, vk, rfl, hv0, hk0⟩ := hK.at1 (k := 0) (by simp)
                  obtain rfl : Value.int .i64 ((pj - 1 - b.size : Nat) : Int) = vk := by simpa using hv0
                  rw [show ak.add 0 = ak by unfold Addr.add; simp] at hk0
                  obtain ⟨ak', vk', eak, hv1, hk1⟩ := hK.at1 (k := 1) (by simp)
                  injection eak with eak
                  subst eak
                  obtain rfl : Value.int .i64 ((pj - 1 : Nat) : Int) = vk' := by simpa using hv1
                  have hk1' : F.cell ⟨ak.block, ak.off + 1, none⟩ = some (.int .i64 ((pj - 1 : Nat) : Int)) := hk1
                  have HK0c := Lib.hid hk0
                  have HK1c := Lib.hid hk1'
                  have hiJ : ((pj - 1 - b.size : Nat) : Int) < (N : Int) := by omega
                  obtain ⟨Ai, ci, hci, hPi⟩ := HP.out.first (pj - 1) (by omega)
                  obtain ⟨vz, hcz, hWz⟩ := HP.out.zero (pj - 1) (by omega)
                  rw [hpb, hkb] at hci hPi hWz
                  dsimp only at hci hPi hWz
                  rw [hoj, hK0, hS0] at hci hPi
                  rw [hoj, hK0] at hWz
                  obtain ⟨Az, nz, cz, fz, ez, hh⟩ := id hWz
                  subst ez
                  clear hh
                  have hb0 := pos_steps t (pj - 1) 0 0 HP.out.reg (by rw [HP.out.len]; omega) (by rw [hpb]; exact hoj)
                  rw [hpb, hkb] at hb0
                  dsimp only at hb0
                  rw [hS0] at hb0
                  have hsti : ∀ p, p ∈ firstO z true b (K0 + testsT a) (S0 + stepsN a) → p.1 < j := fun p hp => by have h1 := first_mem z true b _ _ hregj.2.2 p hp; have := HMS.out; omega
                  have hlni : (firstO z true b (K0 + testsT a) (S0 + stepsN a)).length ≤ 1000 := by have := first_len z true b (K0 + testsT a) (S0 + stepsN a); have := Tr.sub_size_le t (pj - 1) (by rw [HP.out.len]; omega); rw [hkb] at this; omega
                  have HLY := Lib.hid (fun (X : World) (V : Value) (O' : Nat → Nat → Bool) (f : Nat → Bool) (hX : Sat F X) (hZX : ZF X go j [go] m O') (hV : WdG m (hx X [go]) V f) => lay_w (sat_hx X [go]) m hm gp ((cle_hx hX HGS.out) _ _ HP.out.p0) go j (hx_in (by simp)) hM O' hZX Ai _ ci _ (hPi.cle (cle_hx hX HGS.out)) hlni hsti V f hV.wd)
                  have HAN := Lib.hid (fun (X : World) (V : Value) (f : Nat → Bool) (hX : Sat F X) (hV : WdG m (hx X [go]) V f) => ql_and hm (w := X) (hV.wd.heap (sat_hx X [go])) (hWz.heap hX))
                  have HCI := Lib.hid hci
                  have HCZ := Lib.hid hcz
                  obtain ⟨nf, hnf⟩ : ∃ n, (firstO z true b (K0 + testsT a) (S0 + stepsN a)).length = n := ⟨_, rfl⟩
                  rw [hnf] at HLY HCI
                  have HREL : Hid (∀ q x : Nat, ((aheadO z a K0 S0 st).1 q x || inF (cutL (firstO z true b (K0 + testsT a) (S0 + stepsN a)) (aheadO z a K0 S0 st).2) q x) = (aheadO z (.bin h a b) K0 S0 st).1 q x) := Lib.hid (fun q x => by rw [ahead_seq z hkd a b K0 S0 st hs2, inF_cut, Bool.and_comm])
                  have HEND : Hid (∀ x, and ((aheadO z a K0 S0 st).2 x) (zeroO z true b (K0 + testsT a) x) = (aheadO z (.bin h a b) K0 S0 st).2 x) := Lib.hid (fun x => by rw [ahead_seq z hkd a b K0 S0 st hs2])
                  clear hci hcz hPi hWz hsti hlni hnf hb0
                  have HSJ : Hid (S0 ≤ st ∧ st < S0 + stepsN (Tr.bin h a b)) := Lib.hid (by show S0 ≤ st ∧ st < S0 + (stepsN a + stepsN b); omega)
                  have HTK : Hid (t.sub pj = .bin h a b ∧ (posT t pj true 0 0).1 = true ∧ (posT t pj true 0 0).2.1 = K0 ∧ (posT t pj true 0 0).2.2 = S0) := Lib.hid ⟨hxj, hoj, hK0, hS0⟩
                  obtain ⟨ia, hia⟩ : ∃ x, pj - 1 - b.size = x := ⟨_, rfl⟩
                  obtain ⟨ib, hib⟩ : ∃ x, pj - 1 = x := ⟨_, rfl⟩
                  (try rw [hia] at hij); (try rw [hib] at hij)
                  (try rw [hia] at u0); (try rw [hib] at u0)
                  (try rw [hia] at HUP); (try rw [hib] at HUP)
                  (try rw [hia] at hiJ); (try rw [hib] at hiJ)
                  (try rw [hia] at hiI); (try rw [hib] at hiI)
                  (try rw [hia] at c4); (try rw [hib] at c4)
                  (try rw [hia] at HK0c); (try rw [hib] at HK0c)
                  (try rw [hia] at HK1c); (try rw [hib] at HK1c)
                  (try rw [hia] at hneR); (try rw [hib] at hneR)
                  (try rw [hia] at hneR2); (try rw [hib] at hneR2)
                  (try rw [hia] at HCI); (try rw [hib] at HCI)
                  (try rw [hia] at HCZ); (try rw [hib] at HCZ)
                  (try rw [hia]); (try rw [hib])
                  have hiaI : (ia : Int) < (N : Int) := by omega
                  have hibI : (ib : Int) < (N : Int) := by omega
                  clear hia hib hgf hpa hpb hkb hka hown hregj hoj hK0 hS0 hL hl2 hln hK hdn hpj hij2 hup hkd hv0 hv1 hk0 hk1 hk1' hs1 hs2
                  go_wp2_with fail
                  have x1 := World.new_ne wr _ p1
                  have x3 := World.new_ne wr _ u0
                  have x4 := World.new_ne wr _ c0
                  have x4' : wr.heap.size ≠ (ad.add (pj * 5)).block := x4
                  go_region_held3 (fun w' => w'.cell? ⟨gp, 1, none⟩ = some (.slice (some ad) N cl) ∧ w'.cell? ⟨gp, 3, none⟩ = some (.slice (some ⟨gu, 0, none⟩) N N) ∧ w'.cell? ⟨gu, ia, none⟩ = some (.int .i64 (pj : Nat)) ∧ w'.cell? (ad.add (pj * 5)) = some (.int .i64 21) ∧ w'.cell? ⟨(ad.add (pj * 5)).block, (ad.add (pj * 5)).off + 1, none⟩ = some (.string name) ∧ w'.cell? ⟨(ad.add (pj * 5)).block, (ad.add (pj * 5)).off + 2, none⟩ = some (.int .i64 lo) ∧ w'.cell? ⟨(ad.add (pj * 5)).block, (ad.add (pj * 5)).off + 3, none⟩ = some (.int .i64 hi') ∧ w'.cell? ⟨(ad.add (pj * 5)).block, (ad.add (pj * 5)).off + 4, none⟩ = some (.slice (some ak) 2 ck)) (refine ⟨?_, ?_, ?_, ?_, ?_, ?_, ?_, ?_⟩ <;> go_keep) (fail)
                  all_goals
                    have hkn := Blk.drew (Blk.new wr 48 #[.int .i64 21, .string name, .int .i64 lo, .int .i64 hi', .slice (some ak) 2 ck])
                    have hbW := below_drewN (balloc wr (.cells #[.int .i64 21, .string name, .int .i64 lo, .int .i64 hi', .slice (some ak) 2 ck] 48)) 1
                    obtain ⟨W, hW⟩ : ∃ W, (wr.alloc (.cells #[.int .i64 21, .string name, .int .i64 lo, .int .i64 hi', .slice (some ak) 2 ck] 48)).drew = W := ⟨_, rfl⟩
                    have hbW' : Below wr.heap.size wr W := hW ▸ hbW
                    rw [hW] at hkn ⊢
                    obtain ⟨m0, m1, m2, m3, m4⟩ := blk5 hkn
                    have hFW := hFx.below hbW'
                    have k0c := hFW.cell HK0c.out
                    have k1c := hFW.cell HK1c.out
                    have p34 := hFW.cell HP.out.p3
                    have u04 := hFW.cell HUP.out
                    have hZW := HZX.out.call hbW'
                    have hVW := HWX.out.cle (Wr.of_below hbW').cle
                    have HZW := Lib.hid hZW
                    have HVW := Lib.hid hVW
                    have HBW := Lib.hid hbW'
                    have hKN := Lib.hid hkn
                    clear hW hbW hbW' hkn hZW hVW hFx p0 p1 p3 p5 u0 c0 c1 c2 c3 c4 x1 x3 x4 x4'
                    have q5 := hFW.cell HP.out.p5
                    have qf := hFW.cell HCI.out
                    have hkl := hKN.out.lt
                    go_wp2_with fail
                    go_region_held3 (fun w' => w'.cell? ⟨gp, 5, none⟩ = some (.slice (some ⟨gf, 0, none⟩) N N) ∧ w'.cell? ⟨wr.heap.size, 4, none⟩ = some (.slice (some ak) 2 ck) ∧ w'.cell? ⟨ak.block, ak.off + 1, none⟩ = some (.int .i64 (ib : Nat)) ∧ w'.cell? ⟨gf, ib, none⟩ = some (.slice Ai nf ci)) (refine ⟨?_, ?_, ?_, ?_⟩ <;> go_keep)
                      (first
                        | (go_at_call 72; refine (HLY.out W.drew _ _ _ hFW HZW.out HVW.out).mono ?_; rintro e w4 ⟨rfl, hZ4, hwr4⟩; have hwr4' : Wr [go] W w4 := ⟨hwr4.os, hwr4.tape, hwr4.output, hwr4.size, hwr4.block⟩; have hF4 := hwr4'.sat hFW HGS.out; have r0 := hF4.cell HP.out.p5; have hK4 := hwr4'.blk hKN.out HNG.out; have hk4 := blk5 hK4; have r1 := hk4.2.2.2.2; have r2 := hF4.cell HK1c.out; have r3 := hF4.cell HCI.out; have HZ4 := Lib.hid hZ4; have HWR4 := Lib.hid hwr4'; have HK4 := Lib.hid hK4; clear hZ4 hwr4 hK4))
                    obtain ⟨m0', m1', m2', m3', m4'⟩ := blk5 HK4.out
                    have q4 := hF4.cell HP.out.p4
                    have qz := hF4.cell HCZ.out
                    have q0c := hF4.cell HP.out.p0
                    have HVW4 := Lib.hid (HVW.out.cle HWR4.out.cle)
                    have hg4 : ∀ g, g ∈ [go] → g < w4.heap.size := fun g hg => by simp at hg; subst hg; exact HZ4.out.lt
                    have hkl4 := HK4.out.lt
                    go_wp2_with fail
                    go_region_held3 (fun w' => w'.cell? ⟨gp, 0, none⟩ = some (.int .i64 (m : Nat)) ∧ w'.cell? ⟨gp, 4, none⟩ = some (.slice (some ⟨gz, 0, none⟩) N N) ∧ w'.cell? ⟨wr.heap.size, 4, none⟩ = some (.slice (some ak) 2 ck) ∧ w'.cell? ⟨ak.block, ak.off + 1, none⟩ = some (.int .i64 (ib : Nat)) ∧ w'.cell? ⟨gz, ib, none⟩ = some (.slice Az nz cz)) (refine ⟨?_, ?_, ?_, ?_, ?_⟩ <;> go_keep)
                      (first
                        | (go_at_call 21; refine (HAN.out w4.drew _ _ hF4 HVW4.out).mono ?_; rintro e w5 hr5; refine (fun hr => ?_) (RetQL.hx hr5 (Gs := [go]) hg4); obtain ⟨V5, rfl, hw5, hW5⟩ := hr; have hb5 : Below w4.heap.size w4 w5 := undr hw5; have hF5 := hF4.below hb5; have s0 := hF5.cell HP.out.p0; have s1 := hF5.cell HP.out.p4; have s2 := (hb5.cell (p := ⟨wr.heap.size, 4, none⟩) hkl4).trans m4'; have s3 := hF5.cell HK1c.out; have s4 := hF5.cell HCZ.out; have HW5 := Lib.hid hW5; clear hW5 hr5 hw5))
                    have p35 := hF5.cell HP.out.p3
                    have u05 := hF5.cell HUP.out
                    go_wp2_with fail
                    go_roundw
                    case rel =>
                      obtain ⟨k1, k2, k3, k4⟩ := HTK.out
                      refine ⟨pj, _, rfl, rfl, hjN', k2, by rw [k4]; exact HSJ.out.1, by rw [k4, k1]; exact HSJ.out.2, ?_, ?_, (((HWR.out.call HBW.out).trans HWR4.out).call hb5)⟩
                      · rw [k1, k3, k4]
                        exact (HZ4.out.call hb5).same (fun q _ x _ => HREL.out q x)
                      · rw [k1, k3, k4]
                        exact HW5.out.same (fun x _ => HEND.out x)
                    case measure => simp [intOf]; omega
            -- END
end Go.Proofs.Ytaomehlhopiblaa
