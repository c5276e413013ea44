/- The walks of the reference's Names, Ids, May, Holds of layer 8, of HasTime, apart. -/
import Derived.Test.YtdbbooibkiicnaaGreatSatB
import Derived.Test.YtdbbooibkiicnaaGreatRPart
import Derived.Test.YtdbbooibkiicnaaGreatMk8E
set_option linter.unusedVariables false
set_option linter.unusedSimpArgs false
namespace Go.Proofs.YtdbbooibkiicnaaGreat
open Go.RowKit
theorem rNameB_w (s : ByteArray) (w : World) : Calls Tryz.prog 106 #[.string s] w fun e w' => e = .returned (.bool (nameS s.data.toList)) ∧ Below w.heap.size w w' := (rName_w s w).mono fun _ _ ⟨h, e⟩ => ⟨h, e ▸ Below.refl _ _⟩
set_option maxRecDepth 100000 in
set_option maxHeartbeats 1000000 in
theorem names8_w {F : Fz} {w : World} (hF : Sat F w) (ss : List ByteArray) (A : Option Addr) (n c : Nat) (hc : n ≤ c) (hr : Rd F 1 A n (ss.map Value.string)) (R : Bool) (hR : namesOk ss = R) :
    Calls Tryz.prog 72 #[.slice A n c] w fun e w' => e = .returned (.bool R) ∧ Below w.heap.size w w' := by
  have hl : ss.length = n := by have := hr.1; simp at this; omega
  unfold namesOk at hR
  rw [hl] at hR
  by_cases hbig : 64 < n
  · rw [decide_eq_false (by omega)] at hR
    obtain rfl : false = R := hR
    have hI : (64 : Int) < (n : Int) := by omega
    clear hr hl
    go_enter Tryz.func72, Tryz.ntmps72
    go_wp2_with fail
    go_ret
    exact ⟨rfl, Below.refl _ _⟩
  rw [decide_eq_true (by omega), Bool.true_and] at hR
  have hI : decide ((64 : Int) < (n : Int)) = false := decide_eq_false (by omega)
  have hI2 : decide (64 < n) = false := decide_eq_false hbig
  have hnb : n ≤ 64 := by omega
  have HL := Lib.hid hl
  have HR := Lib.hid hR
  have HRd := Lib.hid hr
  clear hl hR hbig
  go_enter Tryz.func72, Tryz.ntmps72
  go_wp2_with fail
  go_loopw [3, 4, 10] (fun _ _ v10 wr => ∃ j : Nat, j ≤ n ∧ v10 = .int .i64 j ∧ allI (nameAt ss) (n - j) j = R ∧ Below w.heap.size w wr) (fun _ _ v10 _ => n - (intOf v10).toNat)
  case atStart => exact ⟨0, Nat.zero_le _, rfl, HR.out, Below.refl _ _⟩
  case round =>
    obtain ⟨j, hj, rfl, hf, hb⟩ := hrel
    have hFr := hF.below hb
    by_cases hlt : j < n
    · have hjI : (j : Int) < (n : Int) := by omega
      obtain ⟨ad, v, rfl, hv, hcell⟩ := hr.at1 hlt
      obtain ⟨s, hs⟩ : ∃ s, ss[j]? = some s := ⟨_, List.getElem?_eq_getElem (by have := HL.out; omega)⟩
      obtain rfl : Value.string s = v := by simpa [hs] using hv
      have hcw := hFr.cell hcell
      obtain ⟨m, hm⟩ : ∃ m, n - j = m + 1 := ⟨n - j - 1, by omega⟩
      have HM : Hid (n - (j + 1) = m) := Lib.hid (by omega)
      rw [hm] at hf
      unfold allI nameAt at hf
      rw [hs] at hf
      dsimp only at hf
      have hjc : j ≤ c := by omega
      obtain ⟨a, ha⟩ : ∃ a, nameS s.data.toList = a := ⟨_, rfl⟩
      obtain ⟨b, hb'⟩ : ∃ b, hasS (ss.take j) s = b := ⟨_, rfl⟩
      have HN := Lib.hid (fun X => ha ▸ rNameB_w s X)
      have HC := Lib.hid (fun (X : World) (h : Sat F X) => containsS_w h (ss.take j) (some ad) j c (by omega) (by have := rd_take HRd.out (k := j) (by omega); rwa [← List.map_take] at this) s b hb')
      rw [ha, hb'] at hf
      have HF := Lib.hid hf
      clear hm hv hs hcell hf ha hb' hr HR
      cases a with
      | false =>
        obtain rfl : false = R := HF.out
        clear HF HRd
        go_wp2_with (go_at_call 106; refine (HN.out _).mono ?_; rintro e w1 ⟨rfl, hw1⟩)
        go_ret
        exact ⟨rfl, bthen hb hw1⟩
      | true =>
        cases b with
        | true =>
          obtain rfl : false = R := HF.out
          clear HF HRd
          go_wp2_with (first
            | (go_at_call 106; refine (HN.out _).mono ?_; rintro e w1 ⟨rfl, hw1⟩)
            | (go_at_call 112; refine (HC.out _ (hFr.below hw1)).mono ?_; rintro e w2 ⟨rfl, rfl⟩))
          go_ret
          exact ⟨rfl, bthen hb hw1⟩
        | false =>
          clear HRd
          go_wp2_with (first
            | (go_at_call 106; refine (HN.out _).mono ?_; rintro e w1 ⟨rfl, hw1⟩)
            | (go_at_call 112; refine (HC.out _ (hFr.below hw1)).mono ?_; rintro e w2 ⟨rfl, rfl⟩))
          go_roundw
          case rel => exact ⟨j + 1, by omega, by go_num, by rw [HM.out]; exact HF.out, bthen hb hw1⟩
          case measure => simp [intOf]; omega
    · obtain rfl : j = n := by omega
      have hdec : decide ((j : Int) < (j : Int)) = false := decide_eq_false (by omega)
      rw [Nat.sub_self] at hf
      obtain rfl : true = R := hf
      go_wp2_with fail
      go_ret
      exact ⟨rfl, hb⟩
set_option maxRecDepth 100000 in
set_option maxHeartbeats 1000000 in
theorem idsR8_w {F : Fz} {w : World} (hF : Sat F w) (zs : List Int) (A : Option Addr) (n c : Nat) (hn : n ≤ 1000000000) (hr : Rd F 1 A n (zs.map (Value.int .i64))) (p : Int) (R : Bool) (hR : idsOk zs p = R) :
    Calls Tryz.prog 73 #[.slice A n c, .int .i64 p] w fun e w' => e = .returned (.bool R) ∧ w = w' := by
  have hl : zs.length = n := by have := hr.1; simp at this; omega
  unfold idsOk at hR
  rw [hl] at hR
  have HL := Lib.hid hl
  have HR := Lib.hid hR
  clear hl hR
  go_enter Tryz.func73, Tryz.ntmps73
  go_wp2_with fail
  go_loop [5, 6, 9] (fun _ _ v9 => ∃ j : Nat, j ≤ n ∧ v9 = .int .i64 j ∧ allI (idAt zs p) (n - j) j = R) (fun _ _ v9 => n - (intOf v9).toNat)
  case atStart => exact ⟨0, Nat.zero_le _, rfl, HR.out⟩
  case round =>
    obtain ⟨j, hj, rfl, hf⟩ := hrel
    by_cases hlt : j < n
    · have hjI : (j : Int) < (n : Int) := by omega
      obtain ⟨ad, v, eA, hv, hcell⟩ := hr.at1 hlt
      subst eA
      obtain ⟨z, hz⟩ : ∃ z, zs[j]? = some z := ⟨_, List.getElem?_eq_getElem (by have := HL.out; omega)⟩
      obtain rfl : Value.int .i64 z = v := by simpa [hz] using hv
      have hcw := hF.cell hcell
      obtain ⟨m, hm⟩ : ∃ m, n - j = m + 1 := ⟨n - j - 1, by omega⟩
      have HM : Hid (n - (j + 1) = m) := Lib.hid (by omega)
      rw [hm] at hf
      unfold allI idAt at hf
      rw [hz] at hf
      dsimp only at hf
      have HF := Lib.hid hf
      clear hm hv hz hcell hf HR
      by_cases g1 : z < 0
      · obtain rfl : false = R := by rw [← HF.out, decide_eq_false (by omega)]; rfl
        clear HF hr
        go_wp2_with fail
        go_ret
        exact ⟨rfl, rfl⟩
      have d1 : decide (z < 0) = false := decide_eq_false g1
      by_cases g2 : p ≤ z
      · obtain rfl : false = R := by rw [← HF.out, decide_eq_true (show 0 ≤ z by omega), decide_eq_false (show ¬ z < p by omega)]; rfl
        clear HF hr
        go_wp2_with fail
        go_ret
        exact ⟨rfl, rfl⟩
      have d2 : decide (p ≤ z) = false := decide_eq_false g2
      have HF2 := HF.out
      rw [decide_eq_true (show 0 ≤ z by omega), decide_eq_true (show z < p by omega), Bool.true_and, Bool.true_and] at HF2
      clear HF
      by_cases g3 : j = 0
      · have d3 : decide ((0 : Int) < (j : Int)) = false := decide_eq_false (by omega)
        have d3' : decide (0 < j) = false := decide_eq_false (by omega)
        rw [decide_eq_true g3, Bool.true_or, Bool.true_and] at HF2
        have HF3 := Lib.hid HF2
        clear HF2 hr g1 g2 g3
        go_wp2_with fail
        go_round
        case rel => exact ⟨j + 1, by omega, by go_num, by rw [HM.out]; exact HF3.out⟩
        case measure => simp [intOf]; omega
      · have d3 : (0 : Int) < (j : Int) := by omega
        obtain ⟨ad', v', e', hv', hc'⟩ := hr.at1 (k := j - 1) (by omega)
        injection e' with e'
        subst e'
        obtain ⟨y, hy⟩ : ∃ y, zs[j - 1]? = some y := ⟨_, List.getElem?_eq_getElem (by have := HL.out; omega)⟩
        obtain rfl : Value.int .i64 y = v' := by simpa [hy] using hv'
        have hcp := hF.cell hc'
        have hjp : IntKind.i64.wrap ((j : Int) - 1) = ((j - 1 : Nat) : Int) := by rw [show (j : Int) - 1 = ((j - 1 : Nat) : Int) by omega]; exact IntWalk.i64_in _ (by omega)
        have hjp2 : (j : Int) - 1 = ((j - 1 : Nat) : Int) := by omega
        have hjp3 : ((j - 1 : Nat) : Int) < (n : Int) := by omega
        rw [List.getD, hy, Option.getD_some, decide_eq_false g3, Bool.false_or] at HF2
        by_cases g4 : z ≤ y
        · rw [decide_eq_false (show ¬ y < z by omega)] at HF2
          obtain rfl : false = R := HF2
          clear hv' hy hc' hr g1 g2 g3
          go_wp2_with fail
          go_ret
          exact ⟨rfl, rfl⟩
        · rw [decide_eq_true (show y < z by omega), Bool.true_and] at HF2
          have HF3 := Lib.hid HF2
          have d4 : decide (z ≤ y) = false := decide_eq_false g4
          clear HF2 hv' hy hc' hr g1 g2 g3 g4
          go_wp2_with fail
          go_round
          case rel => exact ⟨j + 1, by omega, by go_num, by rw [HM.out]; exact HF3.out⟩
          case measure => simp [intOf]; omega
    · obtain rfl : j = n := by omega
      have hdec : decide ((j : Int) < (j : Int)) = false := decide_eq_false (by omega)
      rw [Nat.sub_self] at hf
      obtain rfl : true = R := hf
      go_wp2_with fail
      go_ret
      exact ⟨rfl, rfl⟩
set_option maxRecDepth 100000 in
set_option maxHeartbeats 2000000 in
theorem mayR8_w {F : Fz} {w : World} (hF : Sat F w) (ss : List ByteArray) (es : List Evt) (An : Option Addr) (nn cn : Nat) (hcn : nn ≤ cn) (hN : Rd F 1 An nn (ss.map Value.string)) (Ae : Option Addr) (ne ce : Nat) (hne : ne ≤ 1000000000) (hE : EvsF F Ae ne es) (hid : ∀ e ∈ es, e.ids.length ≤ 1000000000) (R : Bool) (hR : mayT ss es = R) :
    Calls Tryz.prog 42 #[.agg #[.slice An nn cn, .slice Ae ne ce]] w fun e w' => e = .returned (.bool R) ∧ Below w.heap.size w w' := by
  have hb0 := balloc w (.cells #[.slice An nn cn, .slice Ae ne ce] 43)
  have HB := Lib.hid (Blk.new w 43 #[.slice An nn cn, .slice Ae ne ce])
  have hF0 := hF.below hb0
  obtain ⟨t0, t1, _, _⟩ := blkA HB.out
  have hls : ss.length = nn := by have := hN.1; simp at this; omega
  have hle : es.length = ne := hE.1
  unfold mayT at hR
  rw [hls, hle] at hR
  have HE := Lib.hid hE
  have HL := Lib.hid hle
  have HID := Lib.hid hid
  obtain ⟨a, ha⟩ : ∃ a, namesOk ss = a := ⟨_, rfl⟩
  rw [ha] at hR
  have HNm := Lib.hid (names8_w hF0 ss An nn cn hcn hN a ha)
  clear ha hN hle hls hid hE
  cases a with
  | false =>
    obtain rfl : false = R := hR
    go_enter Tryz.func42, Tryz.ntmps42
    go_wp2_with (go_at_call 72; refine HNm.out.mono ?_; rintro e w1 ⟨rfl, hw1⟩)
    go_ret
    exact ⟨rfl, bthen hb0 hw1⟩
  | true =>
    rw [Bool.true_and] at hR
    have HR := Lib.hid hR
    clear hR
    go_enter Tryz.func42, Tryz.ntmps42
    go_wp2_with (go_at_call 72; refine HNm.out.mono ?_; rintro e w1 ⟨rfl, hw1⟩; obtain ⟨t0, t1, _, _⟩ := blkA (HB.out.call hw1))
    have hb1 := bthen hb0 hw1
    have HB1 := Lib.hid (HB.out.call hw1)
    go_loopw [3, 4, 12] (fun _ _ v12 wr => ∃ j : Nat, j ≤ ne ∧ v12 = .int .i64 j ∧ allI (evtAt nn es) (ne - j) j = R ∧ Below w.heap.size w wr ∧ Below w1.heap.size w1 wr) (fun _ _ v12 _ => ne - (intOf v12).toNat)
    case atStart => exact ⟨0, Nat.zero_le _, rfl, HR.out, hb1, Below.refl _ _⟩
    case round =>
      obtain ⟨j, hj, rfl, hf, hb, hb'⟩ := hrel
      have hFr := hF.below hb
      by_cases hlt : j < ne
      · have hjI : (j : Int) < (ne : Int) := by omega
        have hjl : j < es.length := by have := HL.out; omega
        obtain ⟨ad, eA, hh⟩ := HE.out.2 (by omega)
        obtain ⟨htj, Ai, ci, hci, hri, hc0, hc1⟩ := hh j hjl
        have hidl := HID.out _ (List.getElem_mem hjl)
        obtain ⟨m, hm⟩ : ∃ m, ne - j = m + 1 := ⟨ne - j - 1, by omega⟩
        have HM : Hid (ne - (j + 1) = m) := Lib.hid (by omega)
        rw [hm] at hf
        unfold allI evtAt at hf
        rw [List.getElem?_eq_getElem hjl] at hf
        dsimp only at hf
        obtain ⟨ev, hev⟩ : ∃ ev, es[j] = ev := ⟨_, rfl⟩
        rw [hev] at hf hri hc0 hc1 hci htj hidl
        obtain ⟨tj, ids⟩ := ev
        dsimp only at hf hri hc0 hc1 hci htj hidl
        obtain ⟨a, ha⟩ : ∃ a, idsOk ids nn = a := ⟨_, rfl⟩
        rw [ha] at hf
        obtain ⟨ni, hni⟩ : ∃ ni, ids.length = ni := ⟨_, rfl⟩
        rw [hni] at hri hc1 hidl
        have HI := Lib.hid (fun (X : World) (h : Sat F X) => idsR8_w h ids Ai ni ci hidl hri nn a ha)
        subst eA
        have hbA := balloc wr (.cells #[.int .u64 (tj : Nat), .slice Ai ni ci] 46)
        obtain ⟨e0, e1, _, _⟩ := blkA (Blk.new wr 46 #[.int .u64 (tj : Nat), .slice Ai ni ci])
        have hFA := hFr.below hbA
        have hbA1 := bthen hb hbA
        have hbA2 := bthen hb' hbA
        obtain ⟨t0, t1, _, _⟩ := blkA (HB1.out.call hbA2)
        have z0 := hFr.cell hc0
        have z1 : wr.cell? ⟨(ad.add (j * 2)).block, (ad.add (j * 2)).off + 1, none⟩ = some (.slice Ai ni ci) := hFr.cell hc1
        have HF := Lib.hid hf
        by_cases g0 : a = false
        · subst g0
          obtain rfl : false = R := HF.out
          clear hf HF hm ha hni hev hh hri hc0 hc1 hci htj
          go_wp2_with fail
          go_quiet ((go_at_call 73; exact quiet_eq (HI.out _ (hFA.drewN _))))
          go_wp2_with fail
          go_ret
          exact ⟨rfl, below_drewN hbA1 _⟩
        obtain rfl : a = true := by cases a; exact absurd rfl g0; rfl
        by_cases g1 : j = 0
        · have d3 : decide ((0 : Int) < (j : Int)) = false := decide_eq_false (by omega)
          have d3' : decide (0 < j) = false := decide_eq_false (by omega)
          have HF3 : Hid (allI (evtAt nn es) m (j + 1) = R) := Lib.hid (by have := HF.out; rw [decide_eq_true g1] at this; exact this)
          clear hf HF hm ha hni hev hh hri hc0 hc1 hci htj g0 g1
          go_wp2_with fail
          go_quiet ((go_at_call 73; exact quiet_eq (HI.out _ (hFA.drewN _))))
          go_wp2_with fail
          go_roundw
          case rel => exact ⟨j + 1, by omega, by go_num, by rw [HM.out]; exact HF3.out, below_drewN hbA1 _, below_drewN hbA2 _⟩
          case measure => simp [intOf]; omega
        · have d3 : (0 : Int) < (j : Int) := by omega
          have d3' : decide (0 < j) = true := decide_eq_true (by omega)
          obtain ⟨htp, ad', e', hcp⟩ := HE.out.at_ (i := j - 1) (by omega)
          injection e' with e'
          subst e'
          have zp := hFA.cell hcp
          obtain ⟨tp, htp'⟩ : ∃ tp, timeE es (j - 1) = tp := ⟨_, rfl⟩
          rw [htp'] at zp
          have hjp : IntKind.i64.wrap ((j : Int) - 1) = ((j - 1 : Nat) : Int) := by rw [show (j : Int) - 1 = ((j - 1 : Nat) : Int) by omega]; exact IntWalk.i64_in _ (by omega)
          have hjp2 : (j : Int) - 1 = ((j - 1 : Nat) : Int) := by omega
          have hjp3 : ((j - 1 : Nat) : Int) < (ne : Int) := by omega
          have HF2 : (decide (tp ≤ tj) && allI (evtAt nn es) m (j + 1)) = R := by have := HF.out; rw [decide_eq_false g1, htp'] at this; exact this
          by_cases g2 : tj < tp
          · rw [decide_eq_false (by omega)] at HF2
            obtain rfl : false = R := HF2
            have g2I : (tj : Int) < (tp : Int) := by omega
            have g2d' : decide (tj < tp) = true := decide_eq_true g2
            clear hf HF hm ha hni hev hh hri hc0 hc1 hci htj g0 g1 htp htp' hcp
            go_wp2_with fail
            go_quiet ((go_at_call 73; exact quiet_eq (HI.out _ (hFA.drewN _))))
            go_wp2_with fail
            go_ret
            exact ⟨rfl, below_drewN hbA1 _⟩
          · rw [decide_eq_true (show tp ≤ tj by omega), Bool.true_and] at HF2
            have HF3 := Lib.hid HF2
            have g2d : decide ((tj : Int) < (tp : Int)) = false := decide_eq_false (by omega)
            have g2d' : decide (tj < tp) = false := decide_eq_false g2
            clear hf HF HF2 hm ha hni hev hh hri hc0 hc1 hci htj g0 g1 htp htp' hcp g2
            go_wp2_with fail
            go_quiet ((go_at_call 73; exact quiet_eq (HI.out _ (hFA.drewN _))))
            go_wp2_with fail
            go_roundw
            case rel => exact ⟨j + 1, by omega, by go_num, by rw [HM.out]; exact HF3.out, below_drewN hbA1 _, below_drewN hbA2 _⟩
            case measure => simp [intOf]; omega
      · obtain rfl : j = ne := by omega
        have hdec : decide ((j : Int) < (j : Int)) = false := decide_eq_false (by omega)
        rw [Nat.sub_self] at hf
        obtain rfl : true = R := hf
        go_wp2_with fail
        go_ret
        exact ⟨rfl, hb⟩
set_option maxRecDepth 100000 in
theorem rhasT_w (lo hi : Int) (hs : spanS lo hi = true) (d : Nat) (hd : d < 18446744073709551616) (w : World) : Calls Tryz.prog 115 #[.agg #[.int .i64 lo, .int .i64 hi], .int .u64 d] w fun e w' => e = .returned (.bool (hasD lo hi d)) ∧ Below w.heap.size w w' := by
  have hb := hs
  unfold spanS at hb
  rw [decide_eq_true_iff] at hb
  obtain ⟨h1, h2, h3⟩ := hb
  have HM := Lib.hid (fun X => hs ▸ rmaySpan_w lo hi X)
  have HB := Lib.hid (Blk.new w 60 #[.int .i64 lo, .int .i64 hi])
  obtain ⟨k0, k1, _, _⟩ := blkA HB.out
  have wL : IntKind.u64.wrap lo = lo := wrap_u64 h1 (by omega)
  obtain ⟨R, hR⟩ : ∃ R, hasD lo hi d = R := ⟨_, rfl⟩
  rw [hR]
  have HR := Lib.hid hR
  clear hR hs
  by_cases g1 : lo ≤ (d : Int)
  · by_cases g2 : hi = -1
    · subst g2
      have e : R = true := by rw [← HR.out]; unfold hasD; exact decide_eq_true ⟨g1, .inl rfl⟩
      subst e
      clear h3 HR
      go_enter Tryz.func115, Tryz.ntmps115
      go_wp2_with (go_at_call 60; refine (HM.out _).mono ?_; rintro e w1 ⟨rfl, hw1⟩; obtain ⟨q0, q1, _, _⟩ := blkA (HB.out.call hw1))
      go_ret
      exact ⟨by first | rfl | simp, bthen (balloc _ _) hw1⟩
    · have hne : (hi == -1) = false := by rw [beq_eq_false_iff_ne]; exact g2
      have wH : IntKind.u64.wrap hi = hi := wrap_u64 (by omega) (by omega)
      by_cases g3 : (d : Int) ≤ hi
      · have e : R = true := by rw [← HR.out]; unfold hasD; exact decide_eq_true ⟨g1, .inr g3⟩
        subst e
        clear h3 HR g2
        go_enter Tryz.func115, Tryz.ntmps115
        go_wp2_with (go_at_call 60; refine (HM.out _).mono ?_; rintro e w1 ⟨rfl, hw1⟩; obtain ⟨q0, q1, _, _⟩ := blkA (HB.out.call hw1))
        go_ret
        exact ⟨by first | rfl | simp, bthen (balloc _ _) hw1⟩
      · have e : R = false := by rw [← HR.out]; unfold hasD; exact decide_eq_false (fun h => h.2.elim g2 g3)
        subst e
        have g3d : decide ((d : Int) ≤ hi) = false := decide_eq_false g3
        clear h3 HR g2 g3
        go_enter Tryz.func115, Tryz.ntmps115
        go_wp2_with (go_at_call 60; refine (HM.out _).mono ?_; rintro e w1 ⟨rfl, hw1⟩; obtain ⟨q0, q1, _, _⟩ := blkA (HB.out.call hw1))
        go_ret
        exact ⟨by first | rfl | simp, bthen (balloc _ _) hw1⟩
  · have e : R = false := by rw [← HR.out]; unfold hasD; exact decide_eq_false (fun h => g1 h.1)
    subst e
    have g1d : decide (lo ≤ (d : Int)) = false := decide_eq_false g1
    clear h3 HR g1
    go_enter Tryz.func115, Tryz.ntmps115
    go_wp2_with (go_at_call 60; refine (HM.out _).mono ?_; rintro e w1 ⟨rfl, hw1⟩; obtain ⟨q0, q1, _, _⟩ := blkA (HB.out.call hw1))
    go_ret
    exact ⟨by first | rfl | simp, bthen (balloc _ _) hw1⟩
set_option maxRecDepth 100000 in
theorem apart14_w {F : Fz} {w : World} (hF : Sat F w) (es : List Evt) (An : Option Addr) (nn cn : Nat) (Ae : Option Addr) (ne ce : Nat) (hE : EvsF F Ae ne es) (i j : Nat) (hi : i < ne) (hj : j < ne) :
    Calls Tryz.prog 116 #[.agg #[.slice An nn cn, .slice Ae ne ce], .int .i64 i, .int .i64 j] w fun e w' => e = .returned (.int .u64 (gapE es i j : Nat)) ∧ Below w.heap.size w w' := by
  obtain ⟨hti, ad, rfl, hci⟩ := hE.at_ hi
  obtain ⟨htj, ad', e', hcj⟩ := hE.at_ hj
  injection e' with e'
  subst e'
  have hiI : (i : Int) < (ne : Int) := by omega
  have hjI : (j : Int) < (ne : Int) := by omega
  obtain ⟨G, hG⟩ : ∃ G, gapE es i j = G := ⟨_, rfl⟩
  rw [hG]
  unfold gapE at hG
  generalize timeE es i = ti at *
  generalize timeE es j = tj at *
  have hbA := balloc w (.cells #[.slice An nn cn, .slice (some ad) ne ce] 43)
  obtain ⟨k0, k1, _, _⟩ := blkA (Blk.new w 43 #[.slice An nn cn, .slice (some ad) ne ce])
  have hFA := hF.below hbA
  have c0 := hFA.cell hci
  have c1 := hFA.cell hcj
  rcases Nat.le_total ti tj with h1 | h1
  · have hmx : max (ti : Int) (tj : Int) = (tj : Int) := by omega
    have hmn : min (ti : Int) (tj : Int) = (ti : Int) := by omega
    have w1 : IntKind.u64.wrap ((tj : Int) - (ti : Int)) = (G : Int) := by rw [wrap_u64 (by omega) (by omega)]; omega
    clear hE hG hci hcj
    go_enter Tryz.func116, Tryz.ntmps116
    go_wp2_with fail
    go_quiet (fail)
    go_wp2_with fail
    go_ret
    exact ⟨rfl, below_drewN hbA _⟩
  · have hmx : max (ti : Int) (tj : Int) = (ti : Int) := by omega
    have hmn : min (ti : Int) (tj : Int) = (tj : Int) := by omega
    have w1 : IntKind.u64.wrap ((ti : Int) - (tj : Int)) = (G : Int) := by rw [wrap_u64 (by omega) (by omega)]; omega
    clear hE hG hci hcj
    go_enter Tryz.func116, Tryz.ntmps116
    go_wp2_with fail
    go_quiet (fail)
    go_wp2_with fail
    go_ret
    exact ⟨rfl, below_drewN hbA _⟩
theorem firstR_neg {p : Nat → Bool} : ∀ {m i : Nat}, 0 ≤ firstI p m i ∨ firstI p m i = -1
  | 0, _ => .inr rfl
  | m + 1, i => by
    unfold firstI
    split
    · left; omega
    · exact firstR_neg
theorem ids_nonneg {zs : List Int} {p : Int} (h : idsOk zs p = true) : hasZ zs (-1) = false := by
  rw [Bool.eq_false_iff]
  intro hc
  have hm := hasZ_iff.1 hc
  obtain ⟨i, hi, e⟩ := List.getElem_of_mem hm
  unfold idsOk at h
  have h2 := allI_iff.1 h i (Nat.zero_le _) (by omega)
  unfold idAt at h2
  rw [List.getElem?_eq_getElem hi, e] at h2
  simp at h2
set_option maxRecDepth 100000 in
set_option maxHeartbeats 1000000 in
theorem holdsR8_w {F : Fz} {w : World} (hF : Sat F w) (ss : List ByteArray) (es : List Evt) (An : Option Addr) (nn cn : Nat) (hcn : nn ≤ cn) (hnn : nn ≤ 1000000) (hN : Rd F 1 An nn (ss.map Value.string)) (Ae : Option Addr) (ne ce : Nat) (hne : ne ≤ 1000000000) (hE : EvsF F Ae ne es) (hid : ∀ e ∈ es, e.ids.length ≤ 1000000000) (hM : mayT ss es = true) (i : Nat) (hi : i < ne) (name : ByteArray) (R : Bool) (hR : holdsT ss es i name = R) :
    Calls Tryz.prog 135 #[.agg #[.slice An nn cn, .slice Ae ne ce], .int .i64 (i : Nat), .string name] w fun e w' => e = .returned (.bool R) ∧ Below w.heap.size w w' := by
  have hb0 := balloc w (.cells #[.slice An nn cn, .slice Ae ne ce] 43)
  have HB := Lib.hid (Blk.new w 43 #[.slice An nn cn, .slice Ae ne ce])
  have hF0 := hF.below hb0
  obtain ⟨t0, t1, _, _⟩ := blkA HB.out
  have hil : i < es.length := by have := hE.1; omega
  have HMy := Lib.hid (mayR8_w hF0 ss es An nn cn hcn hN Ae ne ce hne hE hid true hM)
  obtain ⟨ad, eA, hh⟩ := hE.2 (by omega)
  obtain ⟨hti, Ai, ci, hci, hri, hc0, hc1⟩ := hh i hil
  have hidl := hid _ (List.getElem_mem hil)
  have hnon : hasZ es[i].ids (-1) = false := by
    unfold mayT at hM
    rw [Bool.and_eq_true] at hM
    have h2 := allI_iff.1 hM.2 i (Nat.zero_le _) (by omega)
    unfold evtAt at h2
    rw [List.getElem?_eq_getElem hil] at h2
    simp only [Bool.and_eq_true] at h2
    exact ids_nonneg h2.1
  unfold holdsT at hR
  rw [List.getElem?_eq_getElem hil] at hR
  dsimp only at hR
  obtain ⟨ids, hids⟩ : ∃ ids, es[i].ids = ids := ⟨_, rfl⟩
  rw [hids] at hR hri hc1 hidl hnon
  obtain ⟨ni, hni⟩ : ∃ ni, ids.length = ni := ⟨_, rfl⟩
  rw [hni] at hri hc1 hidl
  obtain ⟨K, hK⟩ : ∃ K, idxS ss name = K := ⟨_, rfl⟩
  rw [hK] at hR
  have hKm : 0 ≤ K ∨ K = -1 := by
    rw [← hK]
    unfold idxS
    exact firstR_neg
  have HI := Lib.hid (fun (X : World) (h : Sat F X) => indexS_w h ss An nn cn hnn hN name K hK)
  have HC := Lib.hid (fun (X : World) (h : Sat F X) => hR ▸ containsZ_w h ids Ai ni ci hidl hri K)
  subst eA
  have HC1 := Lib.hid hc1
  have hd : decide ((i : Int) < 0) = false := decide_eq_false (by omega)
  have hd2 : decide (ne ≤ i) = false := decide_eq_false (by omega)
  have hiI : (i : Int) < (ne : Int) := by omega
  rcases hKm with hK0 | hK0
  · have dK : decide (0 ≤ K) = true := decide_eq_true hK0
    clear hE hid hh hti hci hri hc0 hc1 hids hni hK hR hN hM hil hnon
    go_enter Tryz.func135, Tryz.ntmps135
    go_wp2_with (go_at_call 42; refine HMy.out.mono ?_; rintro e w1 ⟨rfl, hw1⟩; obtain ⟨t0, t1, _, _⟩ := blkA (HB.out.call hw1); have hb1 := bthen hb0 hw1; have hF1 := hF.below hb1; have z1 : w1.cell? ⟨(ad.add (i * 2)).block, (ad.add (i * 2)).off + 1, none⟩ = some (.slice Ai ni ci) := hF1.cell HC1.out)
    go_at_call 123
    refine (HI.out _ hF1).mono ?_
    rintro e w2 ⟨rfl, rfl⟩
    go_wp2_with fail
    go_at_call 122
    refine (HC.out _ hF1).mono ?_
    rintro e w3 ⟨rfl, hw3⟩
    go_wp2_with fail
    go_ret
    exact ⟨rfl, by first | exact bthen hb1 hw3 | (obtain ⟨k, rfl⟩ := hw3; exact below_drewN hb1 k) | (subst hw3; exact hb1)⟩
  · subst hK0
    obtain rfl : false = R := by rw [← hR, hnon]
    clear hE hid hh hti hci hri hc0 hc1 hids hni hK hR hN hM hil hnon HC
    go_enter Tryz.func135, Tryz.ntmps135
    go_wp2_with (go_at_call 42; refine HMy.out.mono ?_; rintro e w1 ⟨rfl, hw1⟩; obtain ⟨t0, t1, _, _⟩ := blkA (HB.out.call hw1); have hb1 := bthen hb0 hw1; have hF1 := hF.below hb1)
    go_at_call 123
    refine (HI.out _ hF1).mono ?_
    rintro e w2 ⟨rfl, rfl⟩
    go_wp2_with fail
    go_ret
    exact ⟨rfl, hb1⟩
end Go.Proofs.YtdbbooibkiicnaaGreat
