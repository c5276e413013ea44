/- The walks of the reference's Names, Ids, May, Holds of layer 8, of HasTime, apart. -/
import Derived.Test.YtgmbicjcfhmcdaaSatB
import Derived.Test.YtgmbicjcfhmcdaaJoin
import Derived.Test.YtgmbicjcfhmcdaaMk8E
set_option linter.unusedVariables false
set_option linter.unusedSimpArgs false
namespace Go.Proofs.Ytgmbicjcfhmcdaa
open Go.RowKit
theorem rNameB_w (s : ByteArray) (w : World) : Calls Try.prog 46 #[.string s] w fun e w' => e = .returned (.bool (nameS s.data.toList)) ∧ Below w.heap.size w w' := (rName_w s w).mono fun _ _ ⟨h, e⟩ => ⟨h, e ▸ Below.refl _ _⟩
set_option maxRecDepth 100000 in
set_option maxHeartbeats 1000000 in
theorem names8_w {F : Fz} {w : World} (hF : Sat F w) (ss : List ByteArray) (A : Option Addr) (n c : Nat) (hc : n ≤ c) (hr : Rd F 1 A n (ss.map Value.string)) (R : Bool) (hR : namesOk ss = R) :
    Calls Try.prog 37 #[.slice A n c] w fun e w' => e = .returned (.bool R) ∧ Below w.heap.size w w' := by
  have hl : ss.length = n := by have := hr.1; simp at this; omega
  unfold namesOk at hR
  rw [hl] at hR
  by_cases hbig : 64 < n
  · rw [decide_eq_false (by omega)] at hR
    obtain rfl : false = R := hR
    have hI : (64 : Int) < (n : Int) := by omega
    clear hr hl
    go_enter Try.func37, Try.ntmps37
    go_wp2_with fail
    go_ret
    exact ⟨rfl, Below.refl _ _⟩
  rw [decide_eq_true (by omega), Bool.true_and] at hR
  have hI : decide ((64 : Int) < (n : Int)) = false := decide_eq_false (by omega)
  have hI2 : decide (64 < n) = false := decide_eq_false hbig
  have hnb : n ≤ 64 := by omega
  have HL := Lib.hid hl
  have HR := Lib.hid hR
  have HRd := Lib.hid hr
  clear hl hR hbig
  go_enter Try.func37, Try.ntmps37
  go_wp2_with fail
  go_loopw [3, 4, 10] (fun _ _ v10 wr => ∃ j : Nat, j ≤ n ∧ v10 = .int .i64 j ∧ allI (nameAt ss) (n - j) j = R ∧ Below w.heap.size w wr) (fun _ _ v10 _ => n - (intOf v10).toNat)
  case atStart => exact ⟨0, Nat.zero_le _, rfl, HR.out, Below.refl _ _⟩
  case round =>
    obtain ⟨j, hj, rfl, hf, hb⟩ := hrel
    have hFr := hF.below hb
    by_cases hlt : j < n
    · have hjI : (j : Int) < (n : Int) := by omega
      obtain ⟨ad, v, rfl, hv, hcell⟩ := hr.at1 hlt
      obtain ⟨s, hs⟩ : ∃ s, ss[j]? = some s := ⟨_, List.getElem?_eq_getElem (by have := HL.out; omega)⟩
      obtain rfl : Value.string s = v := by simpa [hs] using hv
      have hcw := hFr.cell hcell
      obtain ⟨m, hm⟩ : ∃ m, n - j = m + 1 := ⟨n - j - 1, by omega⟩
      have HM : Hid (n - (j + 1) = m) := Lib.hid (by omega)
      rw [hm] at hf
      unfold allI nameAt at hf
      rw [hs] at hf
      dsimp only at hf
      have hjc : j ≤ c := by omega
      obtain ⟨a, ha⟩ : ∃ a, nameS s.data.toList = a := ⟨_, rfl⟩
      obtain ⟨b, hb'⟩ : ∃ b, hasS (ss.take j) s = b := ⟨_, rfl⟩
      have HN := Lib.hid (fun X => ha ▸ rNameB_w s X)
      have HC := Lib.hid (fun (X : World) (h : Sat F X) => containsS_w h (ss.take j) (some ad) j c (by omega) (by have := rd_take HRd.out (k := j) (by omega); rwa [← List.map_take] at this) s b hb')
      rw [ha, hb'] at hf
      have HF := Lib.hid hf
      clear hm hv hs hcell hf ha hb' hr HR
      cases a with
      | false =>
        obtain rfl : false = R := HF.out
        clear HF HRd
        go_wp2_with (go_at_call 46; refine (HN.out _).mono ?_; rintro e w1 ⟨rfl, hw1⟩)
        go_ret
        exact ⟨rfl, bthen hb hw1⟩
      | true =>
        cases b with
        | true =>
          obtain rfl : false = R := HF.out
          clear HF HRd
          go_wp2_with (first
            | (go_at_call 46; refine (HN.out _).mono ?_; rintro e w1 ⟨rfl, hw1⟩)
            | (go_at_call 25; refine (HC.out _ (hFr.below hw1)).mono ?_; rintro e w2 ⟨rfl, rfl⟩))
          go_ret
          exact ⟨rfl, bthen hb hw1⟩
        | false =>
          clear HRd
          go_wp2_with (first
            | (go_at_call 46; refine (HN.out _).mono ?_; rintro e w1 ⟨rfl, hw1⟩)
            | (go_at_call 25; refine (HC.out _ (hFr.below hw1)).mono ?_; rintro e w2 ⟨rfl, rfl⟩))
          go_roundw
          case rel => exact ⟨j + 1, by omega, by go_num, by rw [HM.out]; exact HF.out, bthen hb hw1⟩
          case measure => simp [intOf]; omega
    · obtain rfl : j = n := by omega
      have hdec : decide ((j : Int) < (j : Int)) = false := decide_eq_false (by omega)
      rw [Nat.sub_self] at hf
      obtain rfl : true = R := hf
      go_wp2_with fail
      go_ret
      exact ⟨rfl, hb⟩
set_option maxRecDepth 100000 in
set_option maxHeartbeats 1000000 in
theorem idsR8_w {F : Fz} {w : World} (hF : Sat F w) (zs : List Int) (A : Option Addr) (n c : Nat) (hn : n ≤ 1000000000) (hr : Rd F 1 A n (zs.map (Value.int .i64))) (p : Int) (R : Bool) (hR : idsOk zs p = R) :
    Calls Try.prog 38 #[.slice A n c, .int .i64 p] w fun e w' => e = .returned (.bool R) ∧ w = w' := by
  have hl : zs.length = n := by have := hr.1; simp at this; omega
  unfold idsOk at hR
  rw [hl] at hR
  have HL := Lib.hid hl
  have HR := Lib.hid hR
  clear hl hR
  go_enter Try.func38, Try.ntmps38
  go_wp2_with fail
  go_loop [5, 6, 9] (fun _ _ v9 => ∃ j : Nat, j ≤ n ∧ v9 = .int .i64 j ∧ allI (idAt zs p) (n - j) j = R) (fun _ _ v9 => n - (intOf v9).toNat)
  case atStart => exact ⟨0, Nat.zero_le _, rfl, HR.out⟩
  case round =>
    obtain ⟨j, hj, rfl, hf⟩ := hrel
    by_cases hlt : j < n
    · have hjI : (j : Int) < (n : Int) := by omega
      obtain ⟨ad, v, eA, hv, hcell⟩ := hr.at1 hlt
      subst eA
      obtain ⟨z, hz⟩ : ∃ z, zs[j]? = some z := ⟨_, List.getElem?_eq_getElem (by have := HL.out; omega)⟩
      obtain rfl : Value.int .i64 z = v := by simpa [hz] using hv
      have hcw := hF.cell hcell
      obtain ⟨m, hm⟩ : ∃ m, n - j = m + 1 := ⟨n - j - 1, by omega⟩
      have HM : Hid (n - (j + 1) = m) := Lib.hid (by omega)
      rw [hm] at hf
      unfold allI idAt at hf
      rw [hz] at hf
      dsimp only at hf
      have HF := Lib.hid hf
      clear hm hv hz hcell hf HR
      by_cases g1 : z < 0
      · obtain rfl : false = R := by rw [← HF.out, decide_eq_false (by omega)]; rfl
        clear HF hr
        go_wp2_with fail
        go_ret
        exact ⟨rfl, rfl⟩
      have d1 : decide (z < 0) = false := decide_eq_false g1
      by_cases g2 : p ≤ z
      · obtain rfl : false = R := by rw [← HF.out, decide_eq_true (show 0 ≤ z by omega), decide_eq_false (show ¬ z < p by omega)]; rfl
        clear HF hr
        go_wp2_with fail
        go_ret
        exact ⟨rfl, rfl⟩
      have d2 : decide (p ≤ z) = false := decide_eq_false g2
      have HF2 := HF.out
      rw [decide_eq_true (show 0 ≤ z by omega), decide_eq_true (show z < p by omega), Bool.true_and, Bool.true_and] at HF2
      clear HF
      by_cases g3 : j = 0
      · have d3 : decide ((0 : Int) < (j : Int)) = false := decide_eq_false (by omega)
        have d3' : decide (0 < j) = false := decide_eq_false (by omega)
        rw [decide_eq_true g3, Bool.true_or, Bool.true_and] at HF2
        have HF3 := Lib.hid HF2
        clear HF2 hr g1 g2 g3
        go_wp2_with fail
        go_round
        case rel => exact ⟨j + 1, by omega, by go_num, by rw [HM.out]; exact HF3.out⟩
        case measure => simp [intOf]; omega
      · have d3 : (0 : Int) < (j : Int) := by omega
        obtain ⟨ad', v', e', hv', hc'⟩ := hr.at1 (k := j - 1) (by omega)
        injection e' with e'
        subst e'
        obtain ⟨y, hy⟩ : ∃ y, zs[j - 1]? = some y := ⟨_, List.getElem?_eq_getElem (by have := HL.out; omega)⟩
        obtain rfl : Value.int .i64 y = v' := by simpa [hy] using hv'
        have hcp := hF.cell hc'
        have hjp : IntKind.i64.wrap ((j : Int) - 1) = ((j - 1 : Nat) : Int) := by rw [show (j : Int) - 1 = ((j - 1 : Nat) : Int) by omega]; exact IntWalk.i64_in _ (by omega)
        have hjp2 : (j : Int) - 1 = ((j - 1 : Nat) : Int) := by omega
        have hjp3 : ((j - 1 : Nat) : Int) < (n : Int) := by omega
        rw [List.getD, hy, Option.getD_some, decide_eq_false g3, Bool.false_or] at HF2
        by_cases g4 : z ≤ y
        · rw [decide_eq_false (show ¬ y < z by omega)] at HF2
          obtain rfl : false = R := HF2
          clear hv' hy hc' hr g1 g2 g3
          go_wp2_with fail
          go_ret
          exact ⟨rfl, rfl⟩
        · rw [decide_eq_true (show y < z by omega), Bool.true_and] at HF2
          have HF3 := Lib.hid HF2
          have d4 : decide (z ≤ y) = false := decide_eq_false g4
          clear HF2 hv' hy hc' hr g1 g2 g3 g4
          go_wp2_with fail
          go_round
          case rel => exact ⟨j + 1, by omega, by go_num, by rw [HM.out]; exact HF3.out⟩
          case measure => simp [intOf]; omega
    · obtain rfl : j = n := by omega
      have hdec : decide ((j : Int) < (j : Int)) = false := decide_eq_false (by omega)
      rw [Nat.sub_self] at hf
      obtain rfl : true = R := hf
      go_wp2_with fail
      go_ret
      exact ⟨rfl, rfl⟩
set_option maxRecDepth 100000 in
set_option maxHeartbeats 2000000 in
theorem mayR8_w {F : Fz} {w : World} (hF : Sat F w) (ss : List ByteArray) (es : List Evt) (An : Option Addr) (nn cn : Nat) (hcn : nn ≤ cn) (hN : Rd F 1 An nn (ss.map Value.string)) (Ae : Option Addr) (ne ce : Nat) (hne : ne ≤ 1000000000) (hE : EvsF F Ae ne es) (hid : ∀ e ∈ es, e.ids.length ≤ 1000000000) (R : Bool) (hR : mayT ss es = R) :
    Calls Try.prog 24 #[.agg #[.slice An nn cn, .slice Ae ne ce]] w fun e w' => e = .returned (.bool R) ∧ Below w.heap.size w w' := by
  have hb0 := balloc w (.cells #[.slice An nn cn, .slice Ae ne ce] 27)
  have HB := Lib.hid (Blk.new w 27 #[.slice An nn cn, .slice Ae ne ce])
  have hF0 := hF.below hb0
  obtain ⟨t0, t1, _, _⟩ := blkA HB.out
  have hls : ss.length = nn := by have := hN.1; simp at this; omega
  have hle : es.length = ne := hE.1
  unfold mayT at hR
  rw [hls, hle] at hR
  have HE := Lib.hid hE
  have HL := Lib.hid hle
  have HID := Lib.hid hid
  obtain ⟨a, ha⟩ : ∃ a, namesOk ss = a := ⟨_, rfl⟩
  rw [ha] at hR
  have HNm := Lib.hid (names8_w hF0 ss An nn cn hcn hN a ha)
  clear ha hN hle hls hid hE
  cases a with
  | false =>
    obtain rfl : false = R := hR
    go_enter Try.func24, Try.ntmps24
    go_wp2_with (go_at_call 37; refine HNm.out.mono ?_; rintro e w1 ⟨rfl, hw1⟩)
    go_ret
    exact ⟨rfl, bthen hb0 hw1⟩
  | true =>
    rw [Bool.true_and] at hR
    have HR := Lib.hid hR
    clear hR
    go_enter Try.func24, Try.ntmps24
    go_wp2_with (go_at_call 37; refine HNm.out.mono ?_; rintro e w1 ⟨rfl, hw1⟩; obtain ⟨t0, t1, _, _⟩ := blkA (HB.out.call hw1))
    have hb1 := bthen hb0 hw1
    have HB1 := Lib.hid (HB.out.call hw1)
    go_loopw [3, 4, 12] (fun _ _ v12 wr => ∃ j : Nat, j ≤ ne ∧ v12 = .int .i64 j ∧ allI (evtAt nn es) (ne - j) j = R ∧ Below w.heap.size w wr ∧ Below w1.heap.size w1 wr) (fun _ _ v12 _ => ne - (intOf v12).toNat)
    case atStart => exact ⟨0, Nat.zero_le _, rfl, HR.out, hb1, Below.refl _ _⟩
    case round =>
      obtain ⟨j, hj, rfl, hf, hb, hb'⟩ := hrel
      have hFr := hF.below hb
      by_cases hlt : j < ne
      · have hjI : (j : Int) < (ne : Int) := by omega
        have hjl : j < es.length := by have := HL.out; omega
        obtain ⟨ad, eA, hh⟩ := HE.out.2 (by omega)
        obtain ⟨htj, Ai, ci, hci, hri, hc0, hc1⟩ := hh j hjl
        have hidl := HID.out _ (List.getElem_mem hjl)
        obtain ⟨m, hm⟩ : ∃ m, ne - j = m + 1 := ⟨ne - j - 1, by omega⟩
        have HM : Hid (ne - (j + 1) = m) := Lib.hid (by omega)
        rw [hm] at hf
        unfold allI evtAt at hf
        rw [List.getElem?_eq_getElem hjl] at hf
        dsimp only at hf
        obtain ⟨ev, hev⟩ : ∃ ev, es[j] = ev := ⟨_, rfl⟩
        rw [hev] at hf hri hc0 hc1 hci htj hidl
        obtain ⟨tj, ids⟩ := ev
        dsimp only at hf hri hc0 hc1 hci htj hidl
        obtain ⟨a, ha⟩ : ∃ a, idsOk ids nn = a := ⟨_, rfl⟩
        rw [ha] at hf
        obtain ⟨ni, hni⟩ : ∃ ni, ids.length = ni := ⟨_, rfl⟩
        rw [hni] at hri hc1 hidl
        have HI := Lib.hid (fun (X : World) (h : Sat F X) => idsR8_w h ids Ai ni ci hidl hri nn a ha)
        subst eA
        have hbA := balloc wr (.cells #[.int .u64 (tj : Nat), .slice Ai ni ci] 31)
        obtain ⟨e0, e1, _, _⟩ := blkA (Blk.new wr 31 #[.int .u64 (tj : Nat), .slice Ai ni ci])
        have hFA := hFr.below hbA
        have hbA1 := bthen hb hbA
        have hbA2 := bthen hb' hbA
        obtain ⟨t0, t1, _, _⟩ := blkA (HB1.out.call hbA2)
        have z0 := hFr.cell hc0
        have z1 : wr.cell? ⟨(ad.add (j * 2)).block, (ad.add (j * 2)).off + 1, none⟩ = some (.slice Ai ni ci) := hFr.cell hc1
        have HF := Lib.hid hf
        by_cases g0 : a = false
        · subst g0
          obtain rfl : false = R := HF.out
          clear hf HF hm ha hni hev hh hri hc0 hc1 hci htj
          go_wp2_with fail
          go_quiet ((go_at_call 38; exact quiet_eq (HI.out _ (hFA.drewN _))))
          go_wp2_with fail
          go_ret
          exact ⟨rfl, below_drewN hbA1 _⟩
        obtain rfl : a = true := by cases a; exact absurd rfl g0; rfl
        by_cases g1 : j = 0
        · have d3 : decide ((0 : Int) < (j : Int)) = false := decide_eq_false (by omega)
          have d3' : decide (0 < j) = false := decide_eq_false (by omega)
          have HF3 : Hid (allI (evtAt nn es) m (j + 1) = R) := Lib.hid (by have := HF.out; rw [decide_eq_true g1] at this; exact this)
          clear hf HF hm ha hni hev hh hri hc0 hc1 hci htj g0 g1
          go_wp2_with fail
          go_quiet ((go_at_call 38; exact quiet_eq (HI.out _ (hFA.drewN _))))
          go_wp2_with fail
          go_roundw
          case rel => exact ⟨j + 1, by omega, by go_num, by rw [HM.out]; exact HF3.out, below_drewN hbA1 _, below_drewN hbA2 _⟩
          case measure => simp [intOf]; omega
        · have d3 : (0 : Int) < (j : Int) := by omega
          have d3' : decide (0 < j) = true := decide_eq_true (by omega)
          obtain ⟨htp, ad', e', hcp⟩ := HE.out.at_ (i := j - 1) (by omega)
          injection e' with e'
          subst e'
          have zp := hFA.cell hcp
          obtain ⟨tp, htp'⟩ : ∃ tp, timeE es (j - 1) = tp := ⟨_, rfl⟩
          rw [htp'] at zp
          have hjp : IntKind.i64.wrap ((j : Int) - 1) = ((j - 1 : Nat) : Int) := by rw [show (j : Int) - 1 = ((j - 1 : Nat) : Int) by omega]; exact IntWalk.i64_in _ (by omega)
          have hjp2 : (j : Int) - 1 = ((j - 1 : Nat) : Int) := by omega
          have hjp3 : ((j - 1 : Nat) : Int) < (ne : Int) := by omega
          have HF2 : (decide (tp ≤ tj) && allI (evtAt nn es) m (j + 1)) = R := by have := HF.out; rw [decide_eq_false g1, htp'] at this; exact this
          by_cases g2 : tj < tp
          · rw [decide_eq_false (by omega)] at HF2
            obtain rfl : false = R := HF2
            have g2I : (tj : Int) < (tp : Int) := by omega
            have g2d' : decide (tj < tp) = true := decide_eq_true g2
            clear hf HF hm ha hni hev hh hri hc0 hc1 hci htj g0 g1 htp htp' hcp
            go_wp2_with fail
            go_quiet ((go_at_call 38; exact quiet_eq (HI.out _ (hFA.drewN _))))
            go_wp2_with fail
            go_ret
            exact ⟨rfl, below_drewN hbA1 _⟩
          · rw [decide_eq_true (show tp ≤ tj by omega), Bool.true_and] at HF2
            have HF3 := Lib.hid HF2
            have g2d : decide ((tj : Int) < (tp : Int)) = false := decide_eq_false (by omega)
            have g2d' : decide (tj < tp) = false := decide_eq_false g2
            clear hf HF HF2 hm ha hni hev hh hri hc0 hc1 hci htj g0 g1 htp htp' hcp g2
            go_wp2_with fail
            go_quiet ((go_at_call 38; exact quiet_eq (HI.out _ (hFA.drewN _))))
            go_wp2_with fail
            go_roundw
            case rel => exact ⟨j + 1, by omega, by go_num, by rw [HM.out]; exact HF3.out, below_drewN hbA1 _, below_drewN hbA2 _⟩
            case measure => simp [intOf]; omega
      · obtain rfl : j = ne := by omega
        have hdec : decide ((j : Int) < (j : Int)) = false := decide_eq_false (by omega)
        rw [Nat.sub_self] at hf
        obtain rfl : true = R := hf
        go_wp2_with fail
        go_ret
        exact ⟨rfl, hb⟩
end Go.Proofs.Ytgmbicjcfhmcdaa
