/- The walk of the law TurnBack. -/
import Derived.Test.YtedeppgipciblaaTurnMakes
import Derived.Deep.RegionHeld3
set_option linter.unusedVariables false
set_option linter.unusedSimpArgs false
/-! What is turned twice. Plain lemmas. -/
namespace Go.Proofs.Ytedeppgipciblaa
theorem eq_testTr : ∀ {s t : Tr} (_ : EqT s t) (i : Nat) (x : Tr), (testTr s)[i]? = some x → ∃ y, (testTr t)[i]? = some y ∧ EqT x y
  | .leaf _, .leaf _, _, i, x, h => by simp [testTr] at h
  | .un h a, .un h' a', e, i, x, hx => by
    have hk := kind_of_nd e.1
    by_cases h1 : h'.kind = 19
    · simp only [testTr, hk, h1, if_true] at hx ⊢
      obtain ⟨hi, e2⟩ := List.getElem?_eq_some_iff.1 hx
      obtain rfl : i = 0 := by simp at hi; exact hi
      simp at e2
      subst e2
      exact ⟨_, rfl, e⟩
    · simp only [testTr, hk, h1, if_false] at hx ⊢
      exact eq_testTr e.2 i x hx
  | .bin h a b, .bin h' a' b', e, i, x, hx => by
    have hl : (testTr a).length = (testTr a').length := by rw [length_testTr, length_testTr, shape_tests (eq_shape e.2.1)]
    simp only [testTr] at hx ⊢
    by_cases hi : i < (testTr a).length
    · rw [List.getElem?_append_left hi] at hx
      rw [List.getElem?_append_left (by rw [← hl]; exact hi)]
      exact eq_testTr e.2.1 i x hx
    · rw [List.getElem?_append_right (by omega)] at hx
      rw [List.getElem?_append_right (by omega), ← hl]
      exact eq_testTr e.2.2 _ x hx
theorem kind_tests {l : List Nd} {t : Tr} (ht : treeS l = some t) (hr : regS t.root.kind = true) : kindS l 19 = testsL t 0 ∧ (kindS l 18).length = stepsN t := by
  have hv := regV_of (tree_valid ht) hr
  have he : ownS l = ownT t 0 := by unfold ownS; rw [ht]; simp only; rw [if_pos hr]
  constructor
  · unfold kindS; rw [he]; exact ownK_tests (tree_flat ht) hv
  · unfold kindS; rw [he]; exact own_steps t 0 l [] [] (by simpa using tree_flat ht) rfl hv
theorem back_facts {l : List Nd} (h : regL l = true) : ∃ N, (kindS l 19).length = N ∧ (kindS (turnL l) 19).length = N ∧ (ordL l).length = N ∧ (ordL (turnL l)).length = N ∧ (kindS l 18).length = (kindS (turnL l) 18).length ∧
    ∀ k, k < N → ∃ q s pa pb x, (ordL l)[k]? = some q ∧ (ordL (turnL l))[k]? = some s ∧ (ordL l)[s]? = some k ∧ (kindS l 19)[q]? = some pa ∧ (kindS (turnL l) 19)[k]? = some pb ∧ q < N ∧ s < N ∧ pa < l.length ∧ pb < (turnL l).length ∧ partL l (pa : Int) = x ∧ partL (turnL l) (pb : Int) = x ∧ mayS x = true ∧ x.length ≤ l.length := by
  obtain ⟨t, ht, hr, _⟩ := ownS_yes h
  obtain ⟨t', ht', he, hr'⟩ := turn_tree ht hr
  obtain ⟨h1, h2⟩ := kind_tests ht hr
  obtain ⟨h3, h4⟩ := kind_tests ht' hr'
  have hsh := eq_shape he
  have e1 : testsT t' = testsT t := by rw [shape_tests hsh, tests_turn]
  refine ⟨testsT t, by rw [h1, length_tests], by rw [h3, length_tests, e1], by rw [(turn_yes ht hr).2, length_ord], by rw [ordL_turn ht hr, length_ord, tests_turn], by rw [h2, h4, shape_steps hsh, steps_turn], ?_⟩
  intro k hk
  obtain ⟨q, q1, q2, q3⟩ := ord_test t 0 k hk
  rw [Nat.zero_add] at q1
  obtain ⟨s, s1, s2⟩ := ord_ord t 0 0 k hk
  rw [Nat.zero_add] at s1 s2
  have hs : s < testsT t := by have := (List.getElem?_eq_some_iff.1 s2).1; rw [length_ord] at this; exact this
  have ha : (testsL t 0)[q]? = some ((testsL t 0)[q]'(by rw [length_tests]; exact q2)) := List.getElem?_eq_getElem _
  have hb : (testsL t' 0)[k]? = some ((testsL t' 0)[k]'(by rw [length_tests, e1]; exact hk)) := List.getElem?_eq_getElem _
  obtain ⟨_, a2, a3⟩ := tests_sub t 0 q _ ha
  obtain ⟨_, b2, b3⟩ := tests_sub t' 0 k _ hb
  obtain ⟨y, y1, y2⟩ := eq_testTr he k _ b3
  rw [q3, a3] at y1
  injection y1 with y1
  subst y1
  generalize (testsL t 0)[q]'(by rw [length_tests]; exact q2) = pa at *
  generalize (testsL t' 0)[k]'(by rw [length_tests, e1]; exact hk) = pb at *
  rw [Nat.sub_zero] at a2 a3 b2 b3 y2
  have hl := tree_len ht
  have hl' := tree_len ht'
  have p1 : partL l (pa : Int) = (t.sub pa).flat 0 := by unfold partL; rw [ht]; simp only; rw [if_pos ⟨by omega, by omega⟩, Int.toNat_natCast]
  have p2 : partL (turnL l) (pb : Int) = (t'.sub pb).flat 0 := by unfold partL; rw [ht']; simp only; rw [if_pos ⟨by omega, by omega⟩, Int.toNat_natCast]
  refine ⟨q, s, pa, pb, (t.sub pa).flat 0, by rw [(turn_yes ht hr).2]; exact q1, by rw [ordL_turn ht hr]; exact s1, by rw [(turn_yes ht hr).2]; exact s2, by rw [h1]; exact ha, by rw [h3]; exact hb, q2, hs, by omega, by omega, p1, by rw [p2]; exact flat_of_eq y2 0, may_valid (sub_valid t pa (tree_valid ht)), ?_⟩
  rw [Tr.length_flat]
  have := Tr.sub_size_le t pa a2
  omega
end Go.Proofs.Ytedeppgipciblaa
/-! The walk. -/
namespace Go.Proofs.Ytedeppgipciblaa
open Go.RowKit
theorem zs_get {xs : List Nat} {k x : Nat} (h : xs[k]? = some x) : ((zs xs).map encI)[k]? = some (encI (x : Nat)) := by unfold zs; rw [List.getElem?_map, List.getElem?_map, h]; rfl
/-- A number of a row that is read. -/
theorem row_at {F : Fz} {A : Option Addr} {n : Nat} {xs : List Nat} (h : Rd F 1 A n ((zs xs).map encI)) {k x : Nat} (hk : k < n) (hx : xs[k]? = some x) : ∃ ad, A = some ad ∧ F.cell (ad.add k) = some (.int .i64 (x : Int)) := by
  obtain ⟨ad, v, e, hv, hc⟩ := h.at1 hk
  rw [zs_get hx] at hv
  injection hv with hv
  subst hv
  exact ⟨ad, e, hc⟩
set_option maxRecDepth 100000 in
set_option maxHeartbeats 4000000 in
theorem turnBack_c {F : Fz} {w : World} (hF : Sat F w) (ns : List Nat) (hns : ∀ k ∈ ns, k < 65536) (B : Option Addr) (m d : Nat) (hr : Rd F 1 B m (ns.map encW)) :
    Calls Try.prog 4 #[.slice B m d] w fun e w' => e = .returned (.bool true) ∧ Below w.heap.size w w' := by
  have hRg := Lib.hid (reg5_w hF ns hns B m d hr false (regT false ns) rfl)
  have hrn0 := (make_size false ns).2
  obtain ⟨tr, htr, hrk⟩ := ok_regS (make_ok false ns hns).2
  rw [← Tr.length_flat (regT false ns) 0] at hrn0
  obtain ⟨r, hre⟩ : ∃ r, (regT false ns).flat 0 = r := ⟨_, rfl⟩
  rw [hre] at hRg hrn0 htr
  have hreg : regL r = true := by unfold regL; rw [htr]; exact hrk
  clear hre hr hns htr hrk
  obtain ⟨nr, hnr⟩ : ∃ nr, r.length = nr := ⟨_, rfl⟩
  have HNR := Lib.hid hnr
  have hrn : r.length ≤ 1000 := by omega
  have htn : (turnL r).length ≤ 1000 := Nat.le_trans (turnL_len r) hrn
  have htt := turnL_turn hreg
  have htreg := turnL_reg hreg
  have hkr := turnL_kids (turnL r)
  rw [htt] at hkr
  obtain ⟨N, n1, n2, n3, n4, n5, hback⟩ := back_facts hreg
  have hN : N ≤ 1000 := by have := kindS_len r 19; omega
  obtain ⟨t, hte⟩ : ∃ t, turnL r = t := ⟨_, rfl⟩
  rw [hte] at htn htt htreg n2 n4 n5 hback
  obtain ⟨nt, hnt⟩ : ∃ nt, t.length = nt := ⟨_, rfl⟩
  have HNT := Lib.hid hnt
  obtain ⟨M, hM⟩ : ∃ M, (kindS r 18).length = M := ⟨_, rfl⟩
  rw [hM] at n5
  have HTE := Lib.hid hte
  have HTT := Lib.hid htt
  have HTR := Lib.hid htreg
  have HKR := Lib.hid hkr
  have HBK := Lib.hid hback
  have HN1 : Hid ((zs (kindS r 19)).length = N) := Lib.hid (by rw [length_zs]; exact n1)
  have HN2 : Hid ((zs (kindS t 19)).length = N) := Lib.hid (by rw [length_zs]; exact n2)
  have HN3 : Hid ((zs (ordL r)).length = N) := Lib.hid (by rw [length_zs]; exact n3)
  have HN4 : Hid ((zs (ordL t)).length = N) := Lib.hid (by rw [length_zs]; exact n4)
  have HN5 : Hid ((zs (kindS t 18)).length = M) := Lib.hid (by rw [length_zs]; exact n5.symm)
  have HN6 : Hid ((zs (kindS r 18)).length = M) := Lib.hid (by rw [length_zs]; exact hM)
  have HRN := Lib.hid hrn
  have HTN := Lib.hid htn
  have hMb : M ≤ 1000 := by have := kindS_len r 18; omega
  have hnrb : nr ≤ 1000 := by omega
  have hntb : nt ≤ 1000 := by omega
  clear hnr hnt hM hte htt htreg hkr hback n1 n2 n3 n4 n5 hrn0 hreg hrn htn
  go_enter Try.func4, Try.ntmps4
  go_wp2_with fail
  go_at_call 10
  refine hRg.out.mono ?_
  rintro e W ⟨Ar, cr, F1, rfl, hcr, hrN1, hbW, hF1, hle1⟩
  rw [HNR.out] at hrN1 hcr
  rw [HNR.out]
  have hrN := hrN1.cle hF1.cle
  have hT1 := turn_w r.length r (Nat.le_refl _) HRN.out (heapF W) W (sat_heapF W) Ar nr cr hcr hrN
  rw [HTE.out] at hT1
  have HT1 := Lib.hid hT1
  clear hT1 hrN1 hle1
  go_wp2_with fail
  go_at_call 13
  refine HT1.out.mono ?_
  rintro e x0 ⟨At, ct, F2, rfl, hct, hN2, b0, hF2, _⟩
  rw [HNT.out] at hN2 hct
  rw [HNT.out]
  have hrN0 := hrN.cle (cle_below b0)
  have htN0 := hN2.cle hF2.cle
  have q0 := bthen hbW b0
  clear hN2 hF2 hrN
  have HOr := Lib.hid (fun (X : World) (h : Sat (heapF x0) X) => tOrder_w h r HRN.out Ar nr cr hrN0)
  have HOt := Lib.hid (fun (X : World) (h : Sat (heapF x0) X) => tOrder_w h t HTN.out At nt ct htN0)
  have HTr := Lib.hid (fun (X : World) (h : Sat (heapF x0) X) => tests_w h r HRN.out Ar nr cr hrN0)
  have HTt := Lib.hid (fun (X : World) (h : Sat (heapF x0) X) => tests_w h t HTN.out At nt ct htN0)
  have HSr := Lib.hid (fun (X : World) (h : Sat (heapF x0) X) => steps_w h r HRN.out Ar nr cr hrN0)
  have HSt := Lib.hid (fun (X : World) (h : Sat (heapF x0) X) => steps_w h t HTN.out At nt ct htN0)
  have HRt := Lib.hid (fun (X : World) (h : Sat (heapF x0) X) => treg_w h t HTN.out At nt ct htN0 true HTR.out)
  have HTT2 := Lib.hid (fun (X : World) (h : Sat (heapF x0) X) => turn_w t.length t (Nat.le_refl _) HTN.out (heapF x0) X h At nt ct hct htN0)
  rw [HTT.out] at HTT2
  have HPr := Lib.hid (fun (X : World) (h : Sat (heapF x0) X) (i : Int) (h1 : -9223372036854775808 ≤ i) (h2 : i ≤ 9223372036854775807) => part_w h r HRN.out Ar nr cr hcr hrN0 i h1 h2)
  have HPt := Lib.hid (fun (X : World) (h : Sat (heapF x0) X) (i : Int) (h1 : -9223372036854775808 ≤ i) (h2 : i ≤ 9223372036854775807) => part_w h t HTN.out At nt ct hct htN0 i h1 h2)
  have HRN0 := Lib.hid hrN0
  clear htN0 hrN0
  go_wp2_with fail
  go_at_call 15
  refine (HOr.out _ (sat_heapF x0)).mono ?_
  rintro e x1 ⟨Ao, co, rfl, _, ro, b1⟩
  rw [HN3.out] at ro
  rw [HN3.out]
  have g1 := (sat_heapF x0).below b1
  go_wp2_with fail
  go_at_call 15
  refine (HOt.out _ g1).mono ?_
  rintro e x2 ⟨Ap, cp, rfl, _, rp, b2⟩
  rw [HN4.out] at rp
  rw [HN4.out]
  have g2 := g1.below b2
  go_wp2_with fail
  go_at_call 17
  refine (HTr.out _ g2).mono ?_
  rintro e x3 ⟨Aa, ca, rfl, _, ra, b3⟩
  rw [HN1.out] at ra
  rw [HN1.out]
  have g3 := g2.below b3
  go_wp2_with fail
  go_at_call 17
  refine (HTt.out _ g3).mono ?_
  rintro e x4 ⟨Ab, cb, rfl, _, rb, b4⟩
  rw [HN2.out] at rb
  rw [HN2.out]
  have g4 := g3.below b4
  go_wp2_with fail
  go_at_call 18
  refine (HRt.out _ g4).mono ?_
  rintro e x5 ⟨rfl, b5⟩
  have g5 := g4.below b5
  go_wp2_with fail
  go_at_call 13
  refine (HTT2.out _ g5).mono ?_
  rintro e x6 ⟨A6, c6, F6, rfl, _, n6, b6, hF6, _⟩
  have g6 := g5.below b6
  have b06 := bthen (bthen (bthen (bthen (bthen b1 b2) b3) b4) b5) b6
  have hS := sameNodes_w (sat_heapF x6) r r A6 Ar _ nr c6 cr (by have := HRN.out; omega) (n6.cle hF6.cle) (HRN0.out.cle (cle_below b06)) HKR.out true (by simp)
  go_wp2_with fail
  go_at_call 12
  refine hS.mono ?_
  rintro e x7 ⟨rfl, b7⟩
  have g7 := g6.below b7
  go_wp2_with fail
  go_at_call 19
  refine (HSr.out _ g7).mono ?_
  rintro e x8 ⟨A8, c8, rfl, _, _, b8⟩
  rw [HN6.out]
  have g8 := g7.below b8
  go_wp2_with fail
  go_at_call 19
  refine (HSt.out _ g8).mono ?_
  rintro e x9 ⟨A9, c9, rfl, _, _, b9⟩
  rw [HN5.out]
  have g9 := g8.below b9
  have b49 := bthen (bthen (bthen (bthen b5 b6) b7) b8) b9
  have so := ro.cle (((cle_below b2).trans (cle_below b3)).trans ((cle_below b4).trans (cle_below b49)))
  have sp := rp.cle ((cle_below b3).trans ((cle_below b4).trans (cle_below b49)))
  have sa := ra.cle ((cle_below b4).trans (cle_below b49))
  have sb := rb.cle (cle_below b49)
  have b09 : Below x0.heap.size x0 x9 := bthen (bthen (bthen b06 b7) b8) b9
  have hbl := bthen q0 b09
  clear ro rp ra rb g1 g2 g3 g4 g5 g6 g7 g8 b1 b2 b3 b4 b5 b6 b7 b8 b9 b06 b49 hS n6 hF6
  go_wp2_with fail
  go_loopw [9, 64] (fun _ v wr => ∃ j : Nat, j ≤ N ∧ v = .int .i64 j ∧ Below x9.heap.size x9 wr) (fun _ v _ => N - (intOf v).toNat)
  case atStart => exact ⟨0, Nat.zero_le _, rfl, Below.refl _ _⟩
  case round =>
    obtain ⟨j, hj, rfl, hbw⟩ := hrel
    have h9 := (sat_heapF x9).below hbw
    have h0 := (sat_heapF x0).below (b09.trans (hbw.mono b09.size))
    by_cases hjN : j < N
    · obtain ⟨q, s, pa, pb, x, f1, f2, f3, f4, f5, hq, hs, hpa, hpb, f6, f7, f8, f9⟩ := HBK.out j hjN
      obtain ⟨ao, rfl, co1⟩ := row_at so hjN f1
      obtain ⟨ap, rfl, cp1⟩ := row_at sp hjN f2
      obtain ⟨ao2, e2, co2⟩ := row_at so hs f3
      injection e2 with e2
      subst e2
      obtain ⟨aa, rfl, ca1⟩ := row_at sa hq f4
      obtain ⟨ab, rfl, cb1⟩ := row_at sb hjN f5
      have hjI : (j : Int) < (N : Int) := by omega
      have hqI : (q : Int) < (N : Int) := by omega
      have hsI : (s : Int) < (N : Int) := by omega
      have hP1 := fun X h => HPr.out X h (pa : Int) (by omega) (by have := HRN.out; omega)
      have hP2 := fun X h => HPt.out X h (pb : Int) (by omega) (by have := HTN.out; omega)
      rw [f6] at hP1
      rw [f7] at hP2
      have HP1 := Lib.hid hP1
      have HP2 := Lib.hid hP2
      have HMX := Lib.hid f8
      have HLX : Hid (x.length ≤ 1000) := Lib.hid (by have := HRN.out; omega)
      have HC1 := Lib.hid co1
      have HC2 := Lib.hid cp1
      have HC3 := Lib.hid co2
      have HC4 := Lib.hid ca1
      have HC5 := Lib.hid cb1
      have z1 := h9.cell co1
      have z2 := h9.cell cp1
      have z3 := h9.cell co2
      have z4 := h9.cell ca1
      have z5 := h9.cell cb1
      clear hP1 hP2 f1 f2 f3 f4 f5 f6 f7 f8 f9 co1 cp1 co2 ca1 cb1 hpa hpb so sp sa sb
      have d1 : decide ((N : Int) ≤ (q : Int)) = false := decide_eq_false (by omega)
      have d2 : decide ((N : Int) ≤ (s : Int)) = false := decide_eq_false (by omega)
      have d3 : decide (N ≤ q) = false := decide_eq_false (by omega)
      have d4 : decide (N ≤ s) = false := decide_eq_false (by omega)
      have d5 : ((j : Int) != (j : Int)) = false := by simp
      go_wp2_with fail
      go_region_held3 (fun w' => w'.cell? (ao.add j) = some (.int .i64 (q : Int)) ∧ w'.cell? (ap.add j) = some (.int .i64 (s : Int)) ∧ w'.cell? (ao.add s) = some (.int .i64 (j : Int)) ∧ w'.cell? (aa.add q) = some (.int .i64 (pa : Int)) ∧ w'.cell? (ab.add j) = some (.int .i64 (pb : Int))) (go_keep)
        (first
          | (go_at_call 20; refine (same_w (sat_heapF w4) x x A3 A4 _ _ c3 c4 HLX.out (hN3.cle (cle_below hw4)) hN4 true (by simp [HMX.out])).mono ?_; rintro e w5 ⟨rfl, hw5⟩; have hB5 : Below wr.heap.size wr w5 := bel_trans hB4 hw5; have s5 := h9.below hB5; have r0 := s5.cell HC1.out; have r1 := s5.cell HC2.out; have r2 := s5.cell HC3.out; have r3 := s5.cell HC4.out; have r4 := s5.cell HC5.out)
          | (go_at_call 21; refine (HP2.out w3 (h0.below hB3)).mono ?_; rintro e w4 ⟨A4, c4, F4, rfl, hc4, hN4', hw4, hF4, _⟩; have hN4 := hN4'.cle hF4.cle; have hB4 : Below wr.heap.size wr w4 := bel_trans hB3 hw4; have s4 := h9.below hB4; have r0 := s4.cell HC1.out; have r1 := s4.cell HC2.out; have r2 := s4.cell HC3.out; have r3 := s4.cell HC4.out; have r4 := s4.cell HC5.out)
          | (go_at_call 21; refine (HP1.out _ (by first | exact h0)).mono ?_; rintro e w3 ⟨A3, c3, F3, rfl, hc3, hN3', hw3, hF3, _⟩; have hN3 := hN3'.cle hF3.cle; have hB3 : Below wr.heap.size wr w3 := (by refine bel_trans ?_ hw3; first | exact bel_eqv (Below.refl _ wr) rfl rfl rfl rfl); have s3 := h9.below hB3; have r0 := s3.cell HC1.out; have r1 := s3.cell HC2.out; have r2 := s3.cell HC3.out; have r3 := s3.cell HC4.out; have r4 := s3.cell HC5.out))
      all_goals
        go_wp2_with fail
        go_roundw
        case rel => exact ⟨j + 1, by omega, by go_num, bthen hbw hB5⟩
        case measure => simp [intOf]; omega
    · obtain rfl : j = N := by omega
      have hdec : decide ((j : Int) < (j : Int)) = false := decide_eq_false (by omega)
      clear h9 h0
      go_wp2_with (go_at_call 9; refine (awake20_w _).mono ?_; rintro e w6 ⟨rfl, hz⟩)
      go_ret
      exact ⟨rfl, bthen (bthen hbl hbw) hz⟩
end Go.Proofs.Ytedeppgipciblaa
