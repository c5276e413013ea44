/- The walks of size, form, Count and Place of package atoms. -/
import Derived.Test.YtaomehlhopiblaaBoundA
import Derived.Test.YtaomehlhopiblaaOwn
import Derived.Deep.QuietTactic
import Derived.BigQuiet
set_option linter.unusedVariables false
set_option linter.unusedSimpArgs false
namespace Go.Proofs.Ytaomehlhopiblaa
open Go.RowKit
set_option maxRecDepth 100000 in
theorem aform_w {F : Fz} {w : World} (hF : Sat F w) (l : List Nd) (hn : l.length ≤ 1000) (A : Option Addr) (n c : Nat) (hl : NodesF F A n l) (b : Bool) (hb : (formL l && plainS l) = b) :
    Calls Try.prog 55 #[.slice A n c] w fun e w' => e = .returned (.bool b) ∧ Below w.heap.size w w' := by
  have h1 := fun b hb => form_w hF l hn A n c hl b hb
  have h2 := fun (X : World) (h : Sat F X) b hb => plain_w h l hn A n c hl b hb
  cases e1 : formL l
  · have H1 := Lib.hid (h1 _ e1)
    have HB : Hid (b = false) := Lib.hid (by rw [← hb, e1]; rfl)
    clear h1 h2 hb e1
    go_enter Try.func55, Try.ntmps55
    go_wp2_with (go_at_call 32; refine H1.out.mono ?_; rintro e w1 ⟨rfl, hw1⟩)
    go_ret
    exact ⟨by rw [HB.out]; rfl, hw1⟩
  · have H1 := Lib.hid (h1 _ e1)
    have H2 := Lib.hid (fun (X : World) (h : Sat F X) => h2 X h b (by rw [← hb, e1]; rfl))
    clear h1 h2 hb e1
    go_enter Try.func55, Try.ntmps55
    go_wp2_with (first
      | (go_at_call 32; refine H1.out.mono ?_; rintro e w1 ⟨rfl, hw1⟩)
      | (go_at_call 33; refine (H2.out _ (hF.below hw1)).mono ?_; rintro e w2 ⟨rfl, hw2⟩))
    go_ret
    exact ⟨rfl, bthen hw1 hw2⟩
set_option maxRecDepth 100000 in
theorem scount_w {F : Fz} {w : World} (hF : Sat F w) (l : List Nd) (hn : l.length ≤ 1000) (A : Option Addr) (n c : Nat) (hl : NodesF F A n l) (S : Nat) (hS : (kindS l 18).length = S) :
    Calls Try.prog 36 #[.slice A n c] w fun e w' => e = .returned (.int .i64 (S : Nat)) ∧ Below w.heap.size w w' := by
  have H1 := Lib.hid (steps_wF hF l hn A n c hl)
  have HS : Hid ((zs (kindS l 18)).length = S) := Lib.hid (by rw [length_zs, hS])
  generalize kindS l 18 = K at *
  clear hS hl hn
  go_enter Try.func36, Try.ntmps36
  go_wp2_with (go_at_call 57; refine H1.out.mono ?_; rintro e w1 ⟨A1, c1, rfl, _, _, hw1, _⟩; rw [HS.out])
  go_ret
  exact ⟨rfl, hw1⟩
set_option maxRecDepth 100000 in
set_option maxHeartbeats 2000000 in
theorem asize_w {F : Fz} {w : World} (hF : Sat F w) (l : List Nd) (hn : l.length ≤ 1000) (A : Option Addr) (n c : Nat) (hc : n ≤ c) (hl : NodesF F A n l) {t : Tr} (ht : treeS l = some t) (i : Nat) (hi : i < l.length) (h : Nd) (a : Tr) (hx : t.sub i = .un h a) (hra : regS a.root.kind = true) (hsp : spanS h.lo h.hi = true)
    (K : Int) (name : ByteArray) (Ak : Option Addr) (ck : Nat) (hK : Rd F 1 Ak 1 [.int .i64 ((i : Int) - 1)]) :
    Calls Try.prog 56 #[.slice A n c, .agg #[.int .i64 K, .string name, .int .i64 h.lo, .int .i64 h.hi, .slice Ak 1 ck]] w fun e w' => e = .returned (.tuple #[.int .i64 (stepsN a : Nat), .int .i64 (wideN h : Nat)]) ∧ Below w.heap.size w w' := by
  obtain ⟨p1, p2, p3, p4⟩ := part_steps hn ht i hi h a hx hra
  have HW := Lib.hid (fun X => wide_w h hsp X)
  have HSC := Lib.hid (fun (X : World) (G : Fz) (hX : Sat G X) (B : Option Addr) (m e : Nat) (hB : NodesF G B m (a.flat 0)) => scount_w hX (a.flat 0) p3 B m e hB (stepsN a) p2)
  have HPt := Lib.hid (fun (X : World) (hX : Sat F X) => part_w hX l hn A n c hc hl ((i : Int) - 1) (by omega) (by omega))
  rw [p1] at HPt
  obtain ⟨ak, v, rfl, hv0, hk0⟩ := hK.at1 (k := 0) (by simp)
  obtain rfl : Value.int .i64 ((i : Int) - 1) = v := by simpa using hv0
  rw [show ak.add 0 = ak by unfold Addr.add; simp] at hk0
  have HBA := Lib.hid (Blk.new w 48 #[.int .i64 K, .string name, .int .i64 h.lo, .int .i64 h.hi, .slice (some ak) 1 ck])
  have hbA := balloc w (.cells #[.int .i64 K, .string name, .int .i64 h.lo, .int .i64 h.hi, .slice (some ak) 1 ck] 48)
  generalize a.flat 0 = q at *
  generalize stepsN a = M at *
  generalize wideN h = Wd at *
  generalize h.lo = lo at *
  generalize h.hi = hi' at *
  obtain ⟨W, hW⟩ : ∃ W, W = w.alloc (.cells #[.int .i64 K, .string name, .int .i64 lo, .int .i64 hi', .slice (some ak) 1 ck] 48) := ⟨_, rfl⟩
  rw [← hW] at HBA hbA
  obtain ⟨m0, m1, m2, m3, m4⟩ := blk5 HBA.out
  have hFA := hF.below hbA
  have y0 := hFA.cell hk0
  have yl := hFA.clt hk0
  have hml := HBA.out.lt
  have HWX := Lib.hid hW
  clear hW hl hn hi hx hra hsp p1 p2 hv0 hk0 hK ht p3 p4 hc hF
  go_enter Try.func56, Try.ntmps56
  go_wp2_with fail
  rw [← HWX.out]
  go_region_held3 (fun w' => w'.cell? ⟨w.heap.size, 2, none⟩ = some (.int .i64 lo) ∧ w'.cell? ⟨w.heap.size, 3, none⟩ = some (.int .i64 hi') ∧ w'.cell? ⟨w.heap.size, 4, none⟩ = some (.slice (some ak) 1 ck) ∧ w'.cell? ak = some (.int .i64 ((i : Int) - 1))) (go_keep)
    (first
      | (go_at_call 44; refine (HW.out _).mono ?_; rintro e w4 ⟨rfl, hw4⟩; have hB4 : Below W.heap.size W w4 := (by refine bel_trans ?_ hw4; first | exact bel_eqv hB3 rfl rfl rfl rfl); have s0 := (hB4.cell (p := ⟨w.heap.size, 2, none⟩) hml).trans m2; have s1 := (hB4.cell (p := ⟨w.heap.size, 3, none⟩) hml).trans m3; have s2 := (hB4.cell (p := ⟨w.heap.size, 4, none⟩) hml).trans m4; have s3 := (hB4.cell (p := ak) yl).trans y0)
      | (go_at_call 36; refine (HSC.out _ F2 (by first | exact hG1) A1 _ c1' hN1).mono ?_; rintro e w3 ⟨rfl, hw3⟩; have hB3 : Below W.heap.size W w3 := (by refine bel_trans ?_ hw3; first | exact bel_eqv hB1 rfl rfl rfl rfl); have s0 := (hB3.cell (p := ⟨w.heap.size, 2, none⟩) hml).trans m2; have s1 := (hB3.cell (p := ⟨w.heap.size, 3, none⟩) hml).trans m3; have s2 := (hB3.cell (p := ⟨w.heap.size, 4, none⟩) hml).trans m4; have s3 := (hB3.cell (p := ak) yl).trans y0)
      | (go_at_call 34; refine (HPt.out _ (by first | exact hFA | exact hFA.drew)).mono ?_; rintro e w1 ⟨A1, c1', F2, rfl, hc1, hN1, hw1, hG1, _⟩; have hB1 : Below W.heap.size W w1 := (by refine bel_trans ?_ hw1; first | exact bel_eqv (Below.refl _ W) rfl rfl rfl rfl); have s0 := (hB1.cell (p := ⟨w.heap.size, 2, none⟩) hml).trans m2; have s1 := (hB1.cell (p := ⟨w.heap.size, 3, none⟩) hml).trans m3; have s2 := (hB1.cell (p := ⟨w.heap.size, 4, none⟩) hml).trans m4; have s3 := (hB1.cell (p := ak) yl).trans y0))
  all_goals
    go_wp2_with fail
    go_ret2
    exact ⟨rfl, bthen hbA hB4⟩
set_option maxRecDepth 100000 in
set_option maxHeartbeats 4000000 in
theorem acount_w {F : Fz} {w : World} (hF : Sat F w) (l : List Nd) (hn : l.length ≤ 1000) (A : Option Addr) (n c : Nat) (hc : n ≤ c) (hl : NodesF F A n l) (N : Nat) (hN : onT atomsN l = N) :
    Calls Try.prog 35 #[.slice A n c] w fun e w' => e = .returned (.int .i64 (N : Nat)) ∧ Below w.heap.size w w' := by
  cases hb : (formL l && plainS l)
  · have h0 := onT_no (f := atomsN) hb
    rw [hN] at h0
    subst h0
    have HP := Lib.hid (aform_w hF l hn A n c hl false hb)
    clear hN hb hl hn
    go_enter Try.func35, Try.ntmps35
    go_wp2_with (go_at_call 55; refine HP.out.mono ?_; rintro e w1 ⟨rfl, hw1⟩)
    go_ret
    exact ⟨rfl, hw1⟩
  obtain ⟨hf, hp, t, ht⟩ := plain_tree hb
  have hN2 := onT_yes (f := atomsN) hb ht
  rw [hN] at hN2
  have hlt := tree_len ht
  have hab := fun i hi => (atomM_le hn ht i hi).1
  have HUA := Lib.hid (fun i (hi : i ≤ l.length) => uptoN_le (g := atomM) (t := t) (n := l.length) (B := 10000000) hab i hi)
  have HALA : Hid (uptoN atomM t l.length = N) := Lib.hid (by rw [hlt, uptoN_all, ← atomsN_all, hN2])
  have HKD := Lib.hid (fun i (hi : i < l.length) => get_flat_root ht i hi)
  have HMU := Lib.hid (fun i (hi : i < l.length) hm => match_un ht i hi hm)
  have HND := Lib.hid (fun i (hi : i < l.length) => (node_bounds hn ht i hi).1)
  have HPL := Lib.hid (aform_w hF l hn A n c hl true hb)
  have HSZ := Lib.hid (fun (X : World) (hX : Sat F X) i hi h a hx hra hsp K name Ak ck hK => asize_w hX l hn A n c hc hl ht i hi h a hx hra hsp K name Ak ck hK)
  obtain ⟨hln, hl2⟩ := hl
  have hnn : n ≤ 1000 := by omega
  subst hln
  clear hab hN hb hf hp hN2 hlt ht hc
  go_enter Try.func35, Try.ntmps35
  go_wp2_with (go_at_call 55; refine HPL.out.mono ?_; rintro e w0 ⟨rfl, hw0⟩)
  have hF0 := hF.below hw0
  have hz0 := hw0.size
  go_loopw [3, 5, 6, 7, 13] (fun v3 _ _ _ v13 wr => ∃ i : Nat, i ≤ l.length ∧ v13 = .int .i64 i ∧ v3 = .int .i64 (uptoN atomM t i : Nat) ∧ Below w.heap.size w wr ∧ Below w0.heap.size w0 wr) (fun _ _ _ _ v13 _ => l.length - (intOf v13).toNat)
  case atStart => exact ⟨0, Nat.zero_le _, rfl, rfl, hw0, Below.refl _ _⟩
  case round =>
    obtain ⟨i, hi, rfl, rfl, hbl, hbl2⟩ := hrel
    have hFr := hF0.below hbl2
    have hzl := hbl.size
    have hzl2 := hbl2.size
    by_cases hlt : i < l.length
    · have hiI : (i : Int) < (l.length : Int) := by omega
      have hkd := HKD.out i hlt
      obtain ⟨ad, rfl, hL⟩ := hl2 (by omega)
      obtain ⟨Ak, ck, _, hK, hd⟩ := hL i hlt
      have hmux := HMU.out i hlt
      have hnd := HND.out i hlt
      have hua := HUA.out i (by omega)
      have hsa := uptoN_succ atomM t i
      have hsz := fun (X : World) (hX : Sat F X) => HSZ.out X hX i hlt
      obtain ⟨x, hx⟩ : ∃ x, t.sub i = x := ⟨_, rfl⟩
      rw [hx] at hkd hmux hnd hsa
      simp only [hx] at hsz
      generalize l[i] = nd at *
      obtain ⟨VA, hVA⟩ : ∃ V, uptoN atomM t (i + 1) = V := ⟨_, rfl⟩
      have HVA := Lib.hid hVA
      rw [hVA] at hsa
      clear hVA
      generalize uptoN atomM t i = UA at *
      have hua' : UA ≤ 10000000000 := by omega
      obtain ⟨R, hR⟩ : ∃ R, x.root = R := ⟨_, rfl⟩
      rw [hR] at hkd hmux
      obtain ⟨ks, hks⟩ : ∃ ks, x.rootKids (i + 1 - x.size) = ks := ⟨_, rfl⟩
      rw [hks] at hkd
      obtain ⟨kind, name, lo, hi', kk⟩ := R
      subst hkd
      dsimp only at hK hd hmux
      obtain ⟨c0, c1, c2, c3, c4⟩ := hd.sat hFr
      dsimp only at c0 c1 c2 c3 c4
      have hRX := Lib.hid hR
      clear hx hR hks hlt hd hL
      by_cases h17 : kind = 17
      · obtain ⟨h, a, hxa, hha, hra, hkk, hsp, hi1⟩ := hmux (.inr h17)
        obtain ⟨_, hwb, p4, _⟩ := hnd h a hxa hha
        have hRX := hRX.out
        rw [hxa] at hRX
        have hRX : h = ⟨kind, name, lo, hi', kk⟩ := hRX
        subst hRX
        subst h17
        rw [hxa] at hsa
        replace hsa : VA = UA + stepsN a * wideN ⟨17, name, lo, hi', kk⟩ := hsa
        have hkk : ks = [(i : Int) - 1] := hkk
        subst hkk
        have HS := Lib.hid (fun (X : World) (hX : Sat F X) => hsz X hX ⟨17, name, lo, hi', kk⟩ a hxa hra hsp 17 name Ak ck hK)
        obtain ⟨Wd, hWd⟩ : ∃ Wd, wideN ⟨17, name, lo, hi', kk⟩ = Wd := ⟨_, rfl⟩
        rw [hWd] at HS hwb hsa
        generalize stepsN a = M at *
        have hmul : M * Wd ≤ 10000000 := Nat.le_trans (Nat.mul_le_mul p4 hwb) (by omega)
        have hmz : (M : Int) * (Wd : Int) = ((M * Wd : Nat) : Int) := by rw [Int.natCast_mul]
        obtain ⟨MW, hMW⟩ : ∃ MW, M * Wd = MW := ⟨_, rfl⟩
        rw [hMW] at hmz hmul hsa
        have wMW : IntKind.i64.wrap ((M : Int) * (Wd : Int)) = (MW : Int) := by rw [hmz]; exact wrap_i (by omega) (by omega)
        have wS : IntKind.i64.wrap ((UA : Int) + (MW : Int)) = (VA : Int) := by rw [show (UA : Int) + (MW : Int) = (VA : Int) by omega]; exact wrap_i (by omega) (by omega)
        have hbA := balloc wr (.cells #[.int .i64 17, .string name, .int .i64 lo, .int .i64 hi', .slice Ak 1 ck] 48)
        obtain ⟨m0, m1, m2, m3, m4⟩ := blk5 (Blk.new wr 48 #[.int .i64 17, .string name, .int .i64 lo, .int .i64 hi', .slice Ak 1 ck])
        have hFA := hFr.below hbA
        clear hsa hWd hMW hmz hmux hnd hxa hra hha hK hsp hl2 hsz
        go_wp2_with (go_at_call 56; refine (HS.out _ hFA).mono ?_; rintro e w4 ⟨rfl, hw4⟩)
        go_roundw
        case rel => exact ⟨i + 1, by omega, by go_num, by rw [HVA.out], bthen hbl (bthen hbA hw4), bthen hbl2 (bthen hbA hw4)⟩
        case measure => simp [intOf]; omega
      · have hx0 : atomM x = 0 := by
          cases x with
          | leaf h => rfl
          | bin h a b => rfl
          | un h a =>
            have e : h = ⟨kind, name, lo, hi', kk⟩ := hRX.out
            subst e
            simp only [atomM]
            rw [if_neg h17]
        rw [hx0, Nat.add_zero] at hsa
        have hbA := balloc wr (.cells #[.int .i64 kind, .string name, .int .i64 lo, .int .i64 hi', .slice Ak ks.length ck] 48)
        obtain ⟨m0, m1, m2, m3, m4⟩ := blk5 (Blk.new wr 48 #[.int .i64 kind, .string name, .int .i64 lo, .int .i64 hi', .slice Ak ks.length ck])
        have hk : (kind == 17) = false := by rw [beq_eq_false_iff_ne]; exact h17
        have HVU : Hid (UA = VA) := Lib.hid hsa.symm
        clear hmux hnd hK hl2 hsz hsa hx0
        go_wp2_with fail
        go_roundw
        case rel => exact ⟨i + 1, by omega, by go_num, by rw [HVA.out, HVU.out], bthen hbl hbA, bthen hbl2 hbA⟩
        case measure => simp [intOf]; omega
    · obtain rfl : i = l.length := by omega
      have hdec : decide ((l.length : Int) < (l.length : Int)) = false := decide_eq_false (by omega)
      go_wp2_with fail
      go_ret
      exact ⟨by rw [HALA.out]; rfl, hbl⟩
/-- The number of an atom. -/
def placeN (t : Tr) (i : Nat) (k c : Int) : Int := match t.sub i with
  | .un h a => if h.kind = 17 ∧ 1 ≤ k ∧ k ≤ stepsN a ∧ 0 ≤ c ∧ c < wideN h then (uptoN atomM t i : Nat) + (k - 1) * (wideN h : Nat) + c else -1
  | _ => -1
def placeL (l : List Nd) (i k c : Int) : Int := if (formL l && plainS l) = true ∧ 0 ≤ i ∧ i < l.length then (match treeS l with | some t => placeN t i.toNat k c | none => -1) else -1
theorem placeN_no {t : Tr} {i : Nat} (k c : Int) (h : (t.sub i).root.kind ≠ 17) : placeN t i k c = -1 := by
  unfold placeN
  cases hx : t.sub i with
  | leaf _ => rfl
  | bin _ _ _ => rfl
  | un nd a =>
    rw [hx] at h
    show (if _ then _ else _) = _
    rw [if_neg (fun e => h e.1)]
theorem placeN_un {t : Tr} {i : Nat} {h : Nd} {a : Tr} (hx : t.sub i = .un h a) (h17 : h.kind = 17) (k c : Int) : placeN t i k c = if 1 ≤ k ∧ k ≤ stepsN a ∧ 0 ≤ c ∧ c < wideN h then (uptoN atomM t i : Nat) + (k - 1) * (wideN h : Nat) + c else -1 := by
  unfold placeN
  rw [hx]
  show (if _ then _ else _) = _
  simp [h17]
set_option maxRecDepth 100000 in
set_option maxHeartbeats 8000000 in
theorem aplace_w {F : Fz} {w : World} (hF : Sat F w) (l : List Nd) (hn : l.length ≤ 1000) (A : Option Addr) (n c : Nat) (hc : n ≤ c) (hl : NodesF F A n l) (i k cl : Int) (P : Int) (hP : placeL l i k cl = P) :
    Calls Try.prog 47 #[.slice A n c, .int .i64 i, .int .i64 k, .int .i64 cl] w fun e w' => e = .returned (.int .i64 P) ∧ Below w.heap.size w w' := by
  cases hb : (formL l && plainS l)
  · have h0 : P = -1 := by rw [← hP]; unfold placeL; rw [if_neg (fun e => by rw [hb] at e; cases e.1)]
    subst h0
    have HP := Lib.hid (aform_w hF l hn A n c hl false hb)
    clear hP hb hl hn
    go_enter Try.func47, Try.ntmps47
    go_wp2_with (go_at_call 55; refine HP.out.mono ?_; rintro e w1 ⟨rfl, hw1⟩)
    go_ret
    exact ⟨rfl, hw1⟩
  have HPL := Lib.hid (aform_w hF l hn A n c hl true hb)
  by_cases hi : ¬ (0 ≤ i ∧ i < l.length)
  · have h0 : P = -1 := by rw [← hP]; unfold placeL; rw [if_neg (fun e => hi e.2)]
    subst h0
    obtain ⟨rfl, _⟩ := hl
    by_cases hneg : i < 0
    · clear hP hb hn hi
      go_enter Try.func47, Try.ntmps47
      go_wp2_with (go_at_call 55; refine HPL.out.mono ?_; rintro e w1 ⟨rfl, hw1⟩)
      go_ret
      exact ⟨rfl, hw1⟩
    · have hd : decide (i < 0) = false := decide_eq_false hneg
      have hge : (l.length : Int) ≤ i := by omega
      clear hP hb hn hi hneg
      go_enter Try.func47, Try.ntmps47
      go_wp2_with (go_at_call 55; refine HPL.out.mono ?_; rintro e w1 ⟨rfl, hw1⟩)
      go_ret
      exact ⟨rfl, hw1⟩
  obtain ⟨h0, hil⟩ := Decidable.not_not.1 hi
  obtain ⟨hf, hp, t, ht⟩ := plain_tree hb
  obtain ⟨j, rfl⟩ : ∃ j : Nat, i = (j : Int) := ⟨i.toNat, by omega⟩
  have hjl : j < l.length := by omega
  have hP2 : placeN t j k cl = P := by rw [← hP]; unfold placeL; rw [if_pos ⟨hb, h0, hil⟩, ht]; rfl
  clear hi hP
  have hlt := tree_len ht
  have hab := fun i hi => (atomM_le hn ht i hi).1
  have HUA := Lib.hid (fun i (hi : i ≤ l.length) => uptoN_le (g := atomM) (t := t) (n := l.length) (B := 10000000) hab i hi)
  have HKD := Lib.hid (fun i (hi : i < l.length) => get_flat_root ht i hi)
  have HMU := Lib.hid (fun i (hi : i < l.length) hm => match_un ht i hi hm)
  have HND := Lib.hid (fun i (hi : i < l.length) => (node_bounds hn ht i hi).1)
  have HSZ := Lib.hid (fun (X : World) (hX : Sat F X) i hi h a hx hra hsp K name Ak ck hK => asize_w hX l hn A n c hc hl ht i hi h a hx hra hsp K name Ak ck hK)
  obtain ⟨hln, hl2⟩ := hl
  have hnn : n ≤ 1000 := by omega
  subst hln
  clear hab hb hf hp hlt ht
  have hdi : decide ((j : Int) < 0) = false := decide_eq_false (by omega)
  have hdl : decide (l.length ≤ j) = false := decide_eq_false (by omega)
  have hjI : (j : Int) < (l.length : Int) := by omega
  obtain ⟨ad, rfl, hL⟩ := hl2 (by omega)
  obtain ⟨Ak, ck, _, hK, hd⟩ := hL j hjl
  have hkd := HKD.out j hjl
  have hmux := HMU.out j hjl
  have hnd := HND.out j hjl
  have hua := HUA.out j (by omega)
  have hsz := fun (X : World) (hX : Sat F X) => HSZ.out X hX j hjl
  have HLL := Lib.hid hL
  have hno := fun h => placeN_no (t := t) (i := j) k cl h
  have hun := fun h a hx h17 => placeN_un (t := t) (i := j) (h := h) (a := a) hx h17 k cl
  obtain ⟨x, hx⟩ : ∃ x, t.sub j = x := ⟨_, rfl⟩
  rw [hx] at hkd hmux hnd hno
  simp only [hx] at hsz hun
  obtain ⟨nd, hnde⟩ : ∃ nd, l[j] = nd := ⟨_, rfl⟩
  rw [hnde] at hkd hmux
  simp only [hnde] at hK hd
  clear hnde hL
  rw [hP2] at hno hun
  obtain ⟨R, hR⟩ : ∃ R, x.root = R := ⟨_, rfl⟩
  rw [hR] at hkd hmux hno
  obtain ⟨ks, hks⟩ : ∃ ks, x.rootKids (j + 1 - x.size) = ks := ⟨_, rfl⟩
  rw [hks] at hkd
  obtain ⟨kind, name, lo, hi', kk⟩ := R
  subst hkd
  dsimp only at hK hd hmux hno
  by_cases h17 : ¬ kind = 17
  · obtain rfl := hno h17
    have hkn : (kind != 17) = true := by rw [bne_iff_ne]; exact h17
    have HD := Lib.hid (fun (X : World) (hX : Sat F X) => (hd.sat hX).1)
    clear hl2 hK hd hmux hnd hsz hun hno hx hR hks h17 HSZ HLL hP2
    go_enter Try.func47, Try.ntmps47
    go_wp2_with (go_at_call 55; refine HPL.out.mono ?_; rintro e w1 ⟨rfl, hw1⟩; have c0 := HD.out _ (hF.below hw1); dsimp only at c0)
    go_ret
    exact ⟨rfl, hw1⟩
  have h17 := Decidable.not_not.1 h17
  obtain ⟨h, a, hxa, hha, hra, hkk, hsp, hi1⟩ := hmux (.inr h17)
  obtain ⟨_, hwb, p4, _⟩ := hnd h a hxa hha
  rw [hxa] at hR
  have hR : h = ⟨kind, name, lo, hi', kk⟩ := hR
  subst hR
  subst h17
  have hkk : ks = [(j : Int) - 1] := hkk
  subst hkk
  have HS := Lib.hid (fun (X : World) (hX : Sat F X) => hsz X hX ⟨17, name, lo, hi', kk⟩ a hxa hra hsp 17 name Ak ck hK)
  have hpl := hun _ a hxa rfl
  obtain ⟨Wd, hWd⟩ : ∃ Wd, wideN ⟨17, name, lo, hi', kk⟩ = Wd := ⟨_, rfl⟩
  rw [hWd] at HS hwb hpl
  obtain ⟨M, hM⟩ : ∃ M, stepsN a = M := ⟨_, rfl⟩
  rw [hM] at HS p4 hpl
  have HD := Lib.hid (fun (X : World) (hX : Sat F X) => hd.sat hX)
  by_cases hin : ¬ (1 ≤ k ∧ k ≤ M ∧ 0 ≤ cl ∧ cl < Wd)
  · rw [if_neg hin] at hpl
    subst hpl
    clear hK hd hmux hnd hsz hun hno hx hks HSZ HLL hP2 hxa hha hra hsp hWd hM
    by_cases g1 : k < 1
    · clear hin
      go_enter Try.func47, Try.ntmps47
      go_wp2_with (first
        | (go_at_call 55; refine HPL.out.mono ?_; rintro e w1 ⟨rfl, hw1⟩; have hF1 := hF.below hw1; obtain ⟨c0, c1, c2, c3, c4⟩ := HD.out _ hF1; dsimp only at c0 c1 c2 c3 c4)
        | (go_at_call 56; refine (HS.out _ hF1).mono ?_; rintro e w2 ⟨rfl, hw2⟩))
      go_ret
      exact ⟨rfl, bthen hw1 hw2⟩
    have d1 : decide (k < 1) = false := decide_eq_false g1
    by_cases g2 : (M : Int) < k
    · clear hin g1
      go_enter Try.func47, Try.ntmps47
      go_wp2_with (first
        | (go_at_call 55; refine HPL.out.mono ?_; rintro e w1 ⟨rfl, hw1⟩; have hF1 := hF.below hw1; obtain ⟨c0, c1, c2, c3, c4⟩ := HD.out _ hF1; dsimp only at c0 c1 c2 c3 c4)
        | (go_at_call 56; refine (HS.out _ hF1).mono ?_; rintro e w2 ⟨rfl, hw2⟩))
      go_ret
      exact ⟨rfl, bthen hw1 hw2⟩
    have d2 : decide ((M : Int) < k) = false := decide_eq_false g2
    by_cases g3 : cl < 0
    · clear hin g1 g2
      go_enter Try.func47, Try.ntmps47
      go_wp2_with (first
        | (go_at_call 55; refine HPL.out.mono ?_; rintro e w1 ⟨rfl, hw1⟩; have hF1 := hF.below hw1; obtain ⟨c0, c1, c2, c3, c4⟩ := HD.out _ hF1; dsimp only at c0 c1 c2 c3 c4)
        | (go_at_call 56; refine (HS.out _ hF1).mono ?_; rintro e w2 ⟨rfl, hw2⟩))
      go_ret
      exact ⟨rfl, bthen hw1 hw2⟩
    have d3 : decide (cl < 0) = false := decide_eq_false g3
    have g4 : (Wd : Int) ≤ cl := by omega
    clear hin g1 g2 g3
    go_enter Try.func47, Try.ntmps47
    go_wp2_with (first
      | (go_at_call 55; refine HPL.out.mono ?_; rintro e w1 ⟨rfl, hw1⟩; have hF1 := hF.below hw1; obtain ⟨c0, c1, c2, c3, c4⟩ := HD.out _ hF1; dsimp only at c0 c1 c2 c3 c4)
      | (go_at_call 56; refine (HS.out _ hF1).mono ?_; rintro e w2 ⟨rfl, hw2⟩))
    go_ret
    exact ⟨rfl, bthen hw1 hw2⟩
  have hin := Decidable.not_not.1 hin
  rw [if_pos hin] at hpl
  obtain ⟨hk1, hkM, hcl0, hclW⟩ := hin
  obtain ⟨kn, rfl⟩ : ∃ kn : Nat, k = (kn : Int) + 1 := ⟨(k - 1).toNat, by omega⟩
  obtain ⟨cn, rfl⟩ : ∃ cn : Nat, cl = (cn : Int) := ⟨cl.toNat, by omega⟩
  obtain ⟨U, hU⟩ : ∃ U, uptoN atomM t j = U := ⟨_, rfl⟩
  rw [hU] at hpl hua
  have hmul : kn * Wd ≤ 10000000 := Nat.le_trans (Nat.mul_le_mul (show kn ≤ 1000 by omega) hwb) (by omega)
  have hmz : (kn : Int) * (Wd : Int) = ((kn * Wd : Nat) : Int) := by rw [Int.natCast_mul]
  obtain ⟨KW, hKW⟩ : ∃ KW, kn * Wd = KW := ⟨_, rfl⟩
  rw [hKW] at hmz hmul
  rw [show (kn : Int) + 1 - 1 = (kn : Int) by omega, hmz] at hpl
  have hUb : U ≤ 10000000000 := by omega
  have hPn : P = ((U + KW + cn : Nat) : Int) := by rw [hpl]; omega
  subst hPn
  have w1_ : IntKind.i64.wrap ((kn : Int) + 1 - 1) = (kn : Int) := by rw [show (kn : Int) + 1 - 1 = (kn : Int) by omega]; exact wrap_i (by omega) (by omega)
  have w2_ : IntKind.i64.wrap ((kn : Int) * (Wd : Int)) = (KW : Int) := by rw [hmz]; exact wrap_i (by omega) (by omega)
  have w3_ : IntKind.i64.wrap ((U : Int) + (KW : Int)) = ((U + KW : Nat) : Int) := by rw [show (U : Int) + (KW : Int) = ((U + KW : Nat) : Int) by omega]; exact wrap_i (by omega) (by omega)
  obtain ⟨UK, hUK⟩ : ∃ UK, U + KW = UK := ⟨_, rfl⟩
  rw [hUK] at w3_ ⊢
  have w4_ : IntKind.i64.wrap ((UK : Int) + (cn : Int)) = ((UK + cn : Nat) : Int) := by rw [show (UK : Int) + (cn : Int) = ((UK + cn : Nat) : Int) by omega]; exact wrap_i (by omega) (by omega)
  obtain ⟨UKC, hUKC⟩ : ∃ UKC, UK + cn = UKC := ⟨_, rfl⟩
  rw [hUKC] at w4_ ⊢
  have d1 : decide ((kn : Int) + 1 < 1) = false := decide_eq_false (by omega)
  have d2 : decide ((M : Int) < (kn : Int) + 1) = false := decide_eq_false (by omega)
  have d3 : decide ((cn : Int) < 0) = false := decide_eq_false (by omega)
  have d4 : decide (Wd ≤ cn) = false := decide_eq_false (by omega)
  have HU := Lib.hid hU
  have hjc : j ≤ c := by omega
  clear hpl hK hd hmux hnd hsz hun hno hx hks hxa hha hra hsp hWd hM hU hmz hKW hUK hUKC hk1 hkM hcl0 hclW hP2 hmul hua
  go_enter Try.func47, Try.ntmps47
  go_wp2_with (first
    | (go_at_call 55; refine HPL.out.mono ?_; rintro e w1 ⟨rfl, hw1⟩; have hF1 := hF.below hw1; obtain ⟨c0, c1, c2, c3, c4⟩ := HD.out _ hF1; dsimp only at c0 c1 c2 c3 c4)
    | (go_at_call 56; refine (HS.out _ hF1).mono ?_; rintro e w2 ⟨rfl, hw2⟩))
  have hb2 := bthen hw1 hw2
  go_loopw [11, 13, 14, 15, 66] (fun v11 _ _ _ v66 wr => ∃ q : Nat, q ≤ j ∧ v66 = .int .i64 q ∧ v11 = .int .i64 (uptoN atomM t q : Nat) ∧ Below w.heap.size w wr) (fun _ _ _ _ v66 _ => j - (intOf v66).toNat)
  case atStart => exact ⟨0, Nat.zero_le _, rfl, rfl, hb2⟩
  case round =>
    obtain ⟨q, hq, rfl, rfl, hbl⟩ := hrel
    have hFr := hF.below hbl
    have hzl := hbl.size
    by_cases hlt : q < j
    · have hqI : (q : Int) < (j : Int) := by omega
      have hql : q < l.length := by omega
      obtain ⟨Aq, cq, _, hK, hd⟩ := HLL.out q hql
      have hkd := HKD.out q hql
      have hmux := HMU.out q hql
      have hnd := HND.out q hql
      have hua := HUA.out q (by omega)
      have hsa := uptoN_succ atomM t q
      have hsz := fun (X : World) (hX : Sat F X) => HSZ.out X hX q hql
      obtain ⟨x', hx'⟩ : ∃ x, t.sub q = x := ⟨_, rfl⟩
      rw [hx'] at hkd hmux hnd hsa
      simp only [hx'] at hsz
      obtain ⟨nd, hnde⟩ : ∃ nd, l[q] = nd := ⟨_, rfl⟩
      rw [hnde] at hkd hmux
      simp only [hnde] at hK hd
      obtain ⟨VA, hVA⟩ : ∃ V, uptoN atomM t (q + 1) = V := ⟨_, rfl⟩
      have HVA := Lib.hid hVA
      rw [hVA] at hsa
      obtain ⟨UA, hUA⟩ : ∃ V, uptoN atomM t q = V := ⟨_, rfl⟩
      rw [hUA] at hsa hua ⊢
      have hua' : UA ≤ 10000000000 := by omega
      obtain ⟨R, hR⟩ : ∃ R, x'.root = R := ⟨_, rfl⟩
      rw [hR] at hkd hmux
      obtain ⟨ks, hks⟩ : ∃ ks, x'.rootKids (q + 1 - x'.size) = ks := ⟨_, rfl⟩
      rw [hks] at hkd
      obtain ⟨kind, name, lo, hi', kk⟩ := R
      subst hkd
      dsimp only at hK hd hmux
      obtain ⟨c0, c1, c2, c3, c4⟩ := hd.sat hFr
      dsimp only at c0 c1 c2 c3 c4
      have hRX := Lib.hid hR
      clear hx' hR hks hlt hd hnde hVA hUA
      by_cases h17 : kind = 17
      · obtain ⟨h, a', hxa, hha, hra, hkk, hsp, hi1⟩ := hmux (.inr h17)
        obtain ⟨_, hwb', p4', _⟩ := hnd h a' hxa hha
        have hRX := hRX.out
        rw [hxa] at hRX
        have hRX : h = ⟨kind, name, lo, hi', kk⟩ := hRX
        subst hRX
        subst h17
        rw [hxa] at hsa
        replace hsa : VA = UA + stepsN a' * wideN ⟨17, name, lo, hi', kk⟩ := hsa
        have hkk : ks = [(q : Int) - 1] := hkk
        subst hkk
        have HS' := Lib.hid (fun (X : World) (hX : Sat F X) => hsz X hX ⟨17, name, lo, hi', kk⟩ a' hxa hra hsp 17 name Aq cq hK)
        obtain ⟨Wq, hWq⟩ : ∃ Wd, wideN ⟨17, name, lo, hi', kk⟩ = Wd := ⟨_, rfl⟩
        rw [hWq] at HS' hwb' hsa
        obtain ⟨Mq, hMq⟩ : ∃ M, stepsN a' = M := ⟨_, rfl⟩
        rw [hMq] at HS' p4' hsa
        have hmul : Mq * Wq ≤ 10000000 := Nat.le_trans (Nat.mul_le_mul p4' hwb') (by omega)
        have hmz : (Mq : Int) * (Wq : Int) = ((Mq * Wq : Nat) : Int) := by rw [Int.natCast_mul]
        obtain ⟨MW, hMW⟩ : ∃ MW, Mq * Wq = MW := ⟨_, rfl⟩
        rw [hMW] at hmz hmul hsa
        have wMW : IntKind.i64.wrap ((Mq : Int) * (Wq : Int)) = (MW : Int) := by rw [hmz]; exact wrap_i (by omega) (by omega)
        have wS : IntKind.i64.wrap ((UA : Int) + (MW : Int)) = (VA : Int) := by rw [show (UA : Int) + (MW : Int) = (VA : Int) by omega]; exact wrap_i (by omega) (by omega)
        have hbA := balloc wr (.cells #[.int .i64 17, .string name, .int .i64 lo, .int .i64 hi', .slice Aq 1 cq] 48)
        obtain ⟨m0, m1, m2, m3, m4⟩ := blk5 (Blk.new wr 48 #[.int .i64 17, .string name, .int .i64 lo, .int .i64 hi', .slice Aq 1 cq])
        have hFA := hFr.below hbA
        clear hsa hWq hMq hMW hmz hmux hnd hxa hra hha hK hsp hl2 hsz
        go_wp2_with (go_at_call 56; refine (HS'.out _ hFA).mono ?_; rintro e w4 ⟨rfl, hw4⟩)
        go_roundw
        case rel => exact ⟨q + 1, by omega, by go_num, by rw [HVA.out], bthen hbl (bthen hbA hw4)⟩
        case measure => simp [intOf]; omega
      · have hx0 : atomM x' = 0 := by
          cases x' with
          | leaf h => rfl
          | bin h a b => rfl
          | un h a =>
            have e : h = ⟨kind, name, lo, hi', kk⟩ := hRX.out
            subst e
            simp only [atomM]
            rw [if_neg h17]
        rw [hx0, Nat.add_zero] at hsa
        have hbA := balloc wr (.cells #[.int .i64 kind, .string name, .int .i64 lo, .int .i64 hi', .slice Aq ks.length cq] 48)
        obtain ⟨m0, m1, m2, m3, m4⟩ := blk5 (Blk.new wr 48 #[.int .i64 kind, .string name, .int .i64 lo, .int .i64 hi', .slice Aq ks.length cq])
        have hk : (kind == 17) = false := by rw [beq_eq_false_iff_ne]; exact h17
        have HVU : Hid (UA = VA) := Lib.hid hsa.symm
        clear hmux hnd hK hl2 hsz hsa hx0
        go_wp2_with fail
        go_roundw
        case rel => exact ⟨q + 1, by omega, by go_num, by rw [HVA.out, HVU.out], bthen hbl hbA⟩
        case measure => simp [intOf]; omega
    · obtain rfl : q = j := by omega
      have hdec : decide ((q : Int) < (q : Int)) = false := decide_eq_false (by omega)
      rw [HU.out]
      go_wp2_with fail
      go_ret
      exact ⟨rfl, hbl⟩
end Go.Proofs.Ytaomehlhopiblaa
