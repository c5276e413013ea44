/- The walks of slices.Clone on strings and of trace.copied. -/
import Derived.Test.YtdbbooibkiicnaaCp8
import Derived.Test.YtdbbooibkiicnaaMoved
import Derived.Test.YtdbbooibkiicnaaSatCut
import Derived.Test.YtdbbooibkiicnaaSatF
import Derived.Test.YtdbbooibkiicnaaNodes2
set_option linter.unusedVariables false
set_option linter.unusedSimpArgs false
/-! The walks of slices.Clone on strings and of trace.copied. -/
namespace Go.Proofs.Ytdbbooibkiicnaa
open Go.RowKit
attribute [local go_sem ↓] Go.wp_at_zero Go.wp_at_succ
set_option maxRecDepth 100000 in
theorem cloneS_w {F : Fz} {w : World} (hF : Sat F w) (ss : List ByteArray) (A : Option Addr) (n c : Nat) (hn : n ≤ 100000) (hk : Rd F 1 A n (ss.map Value.string)) :
    Calls Try.prog 94 #[.slice A n c] w fun e w' => ∃ v, e = .returned v ∧ Own noF w' w.heap.size 9 1 v n (ss.map Value.string) ∧ Below w.heap.size w w' := by
  have q22 : ∀ (w : World) (a : Option Addr) (n c n' c' : Nat), (binOp .eql 38 (.slice a n c) (.slice none n' c')).run Try.prog w = .ok (.bool a.isNone) w := fun w a n c n' c' => Lib.run_eql_slice_nil w _ _ a n c n' c' Try.underlying38
  rcases A with _ | ad
  · have hn0 : n = 0 := by
      rcases Nat.eq_zero_or_pos n with h0 | h0
      · exact h0
      · obtain ⟨ad, h, _⟩ := hk.2 h0
        cases h
    subst hn0
    have hk0 : ss.map Value.string = [] := List.eq_nil_of_length_eq_zero (by simpa using hk.1)
    rw [hk0]
    go_enter Try.func94, Try.ntmps94
    go_wp2_with fail
    go_ret
    exact ⟨_, rfl, Own.nil _ _ _ _ _, Below.refl _ _⟩
  · go_enter Try.func94, Try.ntmps94
    go_wp2_with (at_builtin; refine wpList_pushAll rfl (.tmp 5) (.tmp 6) _ rfl 9 (.string ⟨#[]⟩) 1 16 Try.underlying38 (by kernel_rfl) rfl (by omega) (B := w.heap.size) (Own.empty noF w w.heap.size _ 1 (sat_noF _) rfl (Nat.le_refl _)) (sat_noF _) (by rfl) (some ad) n c (ss.map Value.string) (by rfl) (hF.alloc _) hk (by intro u hu; simp at hu; obtain ⟨s, _, rfl⟩ := hu; rfl) (by simp [maxLen]; omega) (by omega) (by simp) ?_; intro v1 w1 hO1 hF1 hb1 hg1 hat1)
    go_ret
    exact ⟨_, rfl, by simpa using hO1, (balloc _ _).trans hb1⟩
set_option maxRecDepth 100000 in
set_option maxHeartbeats 2000000 in
theorem copied_w {F : Fz} {w : World} (hF : Sat F w) (ss : List ByteArray) (es : List Evt) (An : Option Addr) (nn cn : Nat) (hnn : nn ≤ 1000) (hN : Rd F 1 An nn (ss.map Value.string)) (Ae : Option Addr) (ne ne0 ce : Nat) (hne : ne ≤ 1000) (hle : ne ≤ ne0) (hce : ne0 ≤ ce) (hE : EvsF F Ae ne es) (hid : ∀ e ∈ es, e.ids.length ≤ 1000) :
    Calls Try.prog 57 #[.agg #[.slice An nn cn, .slice Ae ne0 ce], .int .i64 (ne : Nat)] w (RetTr w ss es) := by
  have hsl : ss.length = nn := by have := hN.1; simpa using this
  have hb0 : Below w.heap.size w ((w.alloc (.cells #[.slice An nn cn, .slice Ae ne0 ce] 41)).alloc (.cells #[.slice none 0 0, .slice none 0 0] 41)) := (balloc _ _).alloc (by simp) _
  have HR0 := Lib.hid ((Blk.new w 41 #[.slice An nn cn, .slice Ae ne0 ce]).alloc (.cells #[.slice none 0 0, .slice none 0 0] 41))
  have HR1 := Lib.hid (Blk.new2 w (.cells #[.slice An nn cn, .slice Ae ne0 ce] 41) 41 #[.slice none 0 0, .slice none 0 0])
  obtain ⟨W0, hW0⟩ : ∃ W0, W0 = (w.alloc (.cells #[.slice An nn cn, .slice Ae ne0 ce] 41)).alloc (.cells #[.slice none 0 0, .slice none 0 0] 41) := ⟨_, rfl⟩
  have hz0 : W0.heap.size = w.heap.size + 1 + 1 := by rw [hW0]; simp
  rw [← hW0] at HR0 HR1 hb0
  have HCL := Lib.hid (cloneS_w (hF.below hb0) ss An nn cn (by omega) hN)
  have HE := Lib.hid hE
  have HID := Lib.hid hid
  have HSL := Lib.hid hsl
  have HW0 := Lib.hid hW0
  have hll : w.heap.size < W0.heap.size := by omega
  obtain ⟨r0, r1, _, _⟩ := blkA HR0.out
  have hleI : (ne : Int) ≤ (ne0 : Int) := by omega
  have hceI : (ne0 : Int) ≤ (ce : Int) := by omega
  have hceI2 : (ne : Int) ≤ (ce : Int) := by omega
  clear hN hE hid hsl hW0
  go_enter Try.func57, Try.ntmps57
  go_wp2_with (go_at_call 94; rw [← HW0.out]; refine HCL.out.mono ?_; rintro e w1 ⟨v1, rfl, hO1, hb1⟩; obtain ⟨A2, c2, rfl, hc2⟩ := hO1.shape; have hzA : w.heap.size + 1 + 1 ≤ w1.heap.size := (by have := hb1.size; omega); have hlA : w.heap.size < w1.heap.size := (by omega); obtain ⟨q2, q3, _, _⟩ := blkA (HR0.out.call hb1))
  have hbA : Below w.heap.size w w1 := bthen hb0 hb1
  have hR0 := HR0.out.call hb1
  have hR1 := HR1.out.call hb1
  obtain ⟨A2', c2', e2, _, hRd⟩ := hO1.rdH
  injection e2 with e21 e22 e23
  subst e21 e23
  have hAb : ∀ a, A2 = some a → w.heap.size + 1 + 1 ≤ a.block ∧ a.block < w1.heap.size := fun a ha => by subst ha; have := hO1.1.lt a.block rfl; omega
  obtain ⟨gt, hgt⟩ : ∃ gt, gt = w1.heap.size := ⟨_, rfl⟩
  obtain ⟨N, hN⟩ : ∃ N, N = w1.alloc (.cells #[.slice A2 nn c2, .slice none 0 0] 41) := ⟨_, rfl⟩
  have hBN : Blk N gt 41 #[.slice A2 nn c2, .slice none 0 0] := by rw [hN, hgt]; exact Blk.new _ _ _
  have hbN : Below w1.heap.size w1 N := by rw [hN]; exact balloc _ _
  have hzN : N.heap.size = gt + 1 := by rw [hN, hgt]; simp
  have hRX : Rd (hx N [gt]) 1 A2 nn (ss.map Value.string) := rd_hxG (rd_call hRd hbN) (fun _ a ha => by simp; have := (hAb a ha).2; omega)
  have hR0N := hR0.call hbN
  have hR1N := hR1.call hbN
  have hbNN := bthen hbA hbN
  obtain ⟨k0, k1, _, _⟩ := blkA hBN
  obtain ⟨q0', q1', _, _⟩ := blkA hR0N
  have HN := Lib.hid hN
  have HGT := Lib.hid hgt
  have hgtl : w.heap.size + 1 + 1 ≤ gt := by omega
  clear hbN hR0 hR1 hO1 hb1 hRd hbA hN r0 r1 hb0
  rw [← HN.out]
  rw [← hgt]
  clear hgt
  go_loopw [7, 17] (fun _ v14 wr => ∃ (m : Nat) (ve : Value), m ≤ ne ∧ v14 = .int .i64 m ∧ Blk wr gt 41 #[.slice A2 nn c2, ve] ∧ OwnE wr (gt + 1) ve (es.take m) ∧ Wr [gt] N wr) (fun _ v14 _ => ne - (intOf v14).toNat)
  case atStart => exact ⟨0, .slice none 0 0, Nat.zero_le _, rfl, hBN, by simpa using OwnE.nil N _, .refl _ _⟩
  case round =>
    obtain ⟨m, ve, hm, rfl, hB, hO, hwr⟩ := hrel
    have hzr := hwr.size
    have hFr : Sat F wr := hF.below (hbNN.trans (hwr.below (fun g hg => by simp at hg; omega) hbNN.size))
    by_cases hmn : m < ne
    · have hmI : (m : Int) < (ne : Int) := by omega
      have hml : m < es.length := by have := HE.out.1; omega
      obtain ⟨ad, rfl, hh⟩ := HE.out.2 (by omega)
      obtain ⟨htm, Ai, ci, hci, hri, hc0, hc1⟩ := hh m hml
      have hidl := HID.out _ (List.getElem_mem hml)
      have hst : es.take (m + 1) = es.take m ++ [es[m]] := List.take_succ_eq_append_getElem hml
      clear hh
      generalize es[m] = ev at *
      obtain ⟨tm, ids⟩ := ev
      dsimp only at htm hci hri hc0 hc1 hidl
      obtain ⟨es1, hes1⟩ : ∃ es1, es.take m = es1 := ⟨_, rfl⟩
      obtain ⟨es2, hes2⟩ : ∃ es2, es.take (m + 1) = es2 := ⟨_, rfl⟩
      have hel : es1.length ≤ 1000 := by rw [← hes1, List.length_take]; omega
      rw [hes1, hes2] at hst
      rw [hes1] at hO
      have HES2 := Lib.hid hes2
      have HST := Lib.hid hst
      obtain ⟨Av, cv, rfl, hcv⟩ := hO.shape
      have hOl := hO.lt
      obtain ⟨L, hL⟩ : ∃ L, es1.length = L := ⟨_, rfl⟩
      obtain ⟨L2, hL2⟩ : ∃ L2, es2.length = L2 := ⟨_, rfl⟩
      rw [hL] at hO hB hOl hcv hel
      have HL := Lib.hid hL
      have HL2 := Lib.hid hL2
      obtain ⟨ni, hni⟩ : ∃ ni, ids.length = ni := ⟨_, rfl⟩
      rw [hni] at hci hri hc1 hidl
      have HNI := Lib.hid hni
      have z0 := hFr.cell hc0
      have z1 : wr.cell? ⟨(ad.add (m * 2)).block, (ad.add (m * 2)).off + 1, none⟩ = some (.slice Ai ni ci) := hFr.cell hc1
      have HRI := Lib.hid hri
      have HO := Lib.hid hO
      have HB := Lib.hid hB
      have HWR := Lib.hid hwr
      have HFR := Lib.hid hFr
      clear hst hes1 hes2 hL hL2 hni hO hB hwr hFr hri hc0 hc1
      obtain ⟨W, hW⟩ : ∃ W, W = wr.alloc (.cells #[.int .u64 (tm : Nat), .slice Ai ni ci] 45) := ⟨_, rfl⟩
      obtain ⟨gw, hgw⟩ : ∃ gw, gw = wr.heap.size := ⟨_, rfl⟩
      have hBW : Blk W gw 45 #[.int .u64 (tm : Nat), .slice Ai ni ci] := by rw [hW, hgw]; exact Blk.new _ _ _
      have hbW : Below wr.heap.size wr W := by rw [hW]; exact balloc _ _
      have hzW : W.heap.size = gw + 1 := by rw [hW, hgw]; simp
      have hWl : gt < gw := by omega
      have hW2 : gt < W.heap.size := by omega
      have hW3 : gw < W.heap.size := by omega
      have hOl2 : ∀ g, (Value.slice Av L cv).ownBlock = some g → gt + 1 ≤ g ∧ g < W.heap.size := fun g hg => ⟨(hOl g hg).1, by have := (hOl g hg).2; omega⟩
      have HW := Lib.hid hW
      have HBW := Lib.hid hBW
      have HBT := Lib.hid (HB.out.call hbW)
      have HOW := Lib.hid (HO.out.call hbW)
      have HWW := Lib.hid (HWR.out.call hbW)
      have HFW := Lib.hid (HFR.out.below hbW)
      obtain ⟨j0, j1, _, _⟩ := blkA hBW
      obtain ⟨k0, k1, k2, k3⟩ := blkA HBT.out
      have HCI := Lib.hid (fun (X : World) (h : Sat F X) => clone_w h ids Ai ni ci (by omega) HRI.out)
      clear hW hBW hbW hzW
      go_wp2_with fail
      rw [← HW.out, ← hgw]
      have HGW := Lib.hid hgw
      clear hgw
      go_region_law (first
        | (go_simp; go_at_call 76; refine (HCI.out _ (by first | exact HFW.out | exact HFW.out.drew)).mono ?_; rintro e w2 ⟨v2, rfl, hO2, hb2', _⟩; obtain ⟨Ai2, ci2, rfl, hci2⟩ := hO2.shape; have hb2 : Below W.heap.size W w2 := (by refine bel_trans ?_ hb2'; exact bel_eqv (Below.refl _ W) rfl rfl rfl rfl); have hz2 := hb2.size; have hgt2 : gt < w2.heap.size := (by omega); have hgw2 : gw < w2.heap.size := (by omega); obtain ⟨k0, k1, k2, k3⟩ := blkA (HBT.out.call hb2); obtain ⟨j0, j1, _, _⟩ := blkA (HBW.out.call hb2); obtain ⟨A9, c9, e9, _, hr2⟩ := hO2.rdH; injection e9 with e91 e92 e93; subst e91 e93; have hfi : (∀ a, Ai2 = some a → W.heap.size ≤ a.block) := (fun a ha => hO2.fresh a ha))
        | (refine step_pushE rfl (.tmp 22) (.tmp 29) (by rfl) (B := gt + 1) (v := .slice Av L cv) (es := es1) ((HOW.out.call hb2).alloc _) (by rfl) ⟨tm, ids⟩ htm Ai2 ci2 (by rw [HNI.out]; exact hci2) (by rw [HNI.out]; exact rd_call hr2 (balloc _ _)) (fun h0 a ha => ⟨by have h1 := hfi a ha; show gt + 1 ≤ a.block; omega, fun q => by have h1 := hfi a ha; have := (hOl2 _ q).2; omega⟩) _ 1 (by rfl) (by rw [HNI.out]; exact Blk.new w2 _ _) (by rw [HL.out]; omega) (by simp; omega) ?_; intro v4 w4 hO4 hb4 hg4' hat4; rw [← HST.out] at hO4; obtain ⟨A4, c4, hv4, hc4⟩ := hO4.shape; rw [HL2.out] at hv4 hc4; subst hv4; have hg4 : (w2.alloc (.cells #[.int .u64 (tm : Nat), .slice Ai2 ni ci2] 45)).grownBy w4 _ := gb_src hg4' rfl rfl rfl rfl; have hBw := ((HBT.out.call hb2).alloc _).grown hg4 (fun e => by have := (hOl2 _ e.symm).1; omega); obtain ⟨k0, k1, k2, k3⟩ := blkA hBw))
      all_goals
        have hB5 := hBw.set_ 1 (.slice A4 L2 c4)
        have hO5 := hO4.set (p := ⟨gt, 1, none⟩) (by show gt < gt + 1; omega) (.slice A4 L2 c4)
        have hb24 : Below (gt + 1) W w4 := (by refine Below.trans ?_ hb4; exact bel_eqv ((hb2.mono (by omega)).alloc (by omega) _) rfl rfl rfl rfl)
        have hw5 := (HWW.out.bel (by rw [hzN]; exact hb24)).set (g := gt) (by simp) 1 (.slice A4 L2 c4)
        rw [← HES2.out] at hO5
        go_wp2_with fail
        go_roundw
        case rel => exact ⟨m + 1, .slice A4 L2 c4, by omega, by go_num, hB5, hO5, hw5⟩
        case measure => simp [intOf]; omega
    · obtain rfl : m = ne := by omega
      have hdec : decide ((m : Int) < (m : Int)) = false := decide_eq_false (by omega)
      have hTK : es.take m = es := by rw [← HE.out.1, List.take_length]
      rw [hTK] at hO
      have hR1' := hwr.blk hR1N (by simp; omega)
      obtain ⟨k0, k1, k2, k3⟩ := blkA hB
      obtain ⟨r0, r1, r2, r3⟩ := blkA hR1'
      have hbl : Below w.heap.size w wr := hbNN.trans (hwr.below (fun g hg => by simp at hg; omega) hbNN.size)
      obtain ⟨Av, cv, hv, _⟩ := hO.shape
      obtain ⟨Lv, hLv⟩ : ∃ Lv, es.length = Lv := ⟨_, rfl⟩
      rw [hLv] at hv
      subst hv
      have hbl2 := (hbl.setCell (p := ⟨w.heap.size + 1, 0, none⟩) (by show w.heap.size ≤ w.heap.size + 1; omega) (.slice A2 nn c2)).setCell (p := ⟨w.heap.size + 1, 1, none⟩) (by show w.heap.size ≤ w.heap.size + 1; omega) (.slice Av Lv cv)
      have hO2 := (hO.set (p := ⟨w.heap.size + 1, 0, none⟩) (by show w.heap.size + 1 < gt + 1; omega) (.slice A2 nn c2)).set (p := ⟨w.heap.size + 1, 1, none⟩) (by show w.heap.size + 1 < gt + 1; omega) (.slice Av Lv cv)
      have hN1 : Rd (heapF wr) 1 A2 nn (ss.map Value.string) := (hRX.cle hwr.cle).heap (sat_hx wr [gt])
      have hNb : ∀ a, A2 = some a → 0 < nn → a.block ≠ w.heap.size + 1 := fun a ha _ => by have := (hAb a ha).1; omega
      have hN2 : Rd (heapF ((wr.setCell ⟨w.heap.size + 1, 0, none⟩ (.slice A2 nn c2)).setCell ⟨w.heap.size + 1, 1, none⟩ (.slice Av Lv cv))) 1 A2 nn (ss.map Value.string) :=
        rd_same (rd_same hN1 fun h0 a ha => Below.heap_setCell wr ⟨w.heap.size + 1, 0, none⟩ _ _ (hNb a ha h0)) fun h0 a ha => Below.heap_setCell _ ⟨w.heap.size + 1, 1, none⟩ _ _ (hNb a ha h0)
      have HFIN := Lib.hid (And.intro hbl2 (And.intro hO2 hN2))
      clear hbl2 hO2 hN2 hN1 hTK hLv hR1' hB hO hwr
      go_wp2_with fail
      exact bodyPost_ret (v := .agg #[.slice A2 nn c2, .slice Av Lv cv]) (by simp [results, Try.results57, go_sem, k0, k1, r0, r1]) rfl ⟨A2, c2, .slice Av Lv cv, gt + 1, by rw [HSL.out], by rw [HSL.out]; exact hc2, by rw [HSL.out]; exact HFIN.out.2.2, HFIN.out.2.1, by omega, fun h0 a ha => ⟨by have := (hAb a ha).1; omega, by have := (hAb a ha).2; rw [HGT.out]; omega⟩, HFIN.out.1⟩
end Go.Proofs.Ytdbbooibkiicnaa
/-! The walk of trace.Cut, of a trace that may be, within its events. -/
namespace Go.Proofs.Ytdbbooibkiicnaa
open Go.RowKit
theorem RetTr.from_ {w w1 w' : World} {ss : List ByteArray} {es : List Evt} {e : Ending} (h : RetTr w1 ss es e w') (hb : Below w.heap.size w w1) : RetTr w ss es e w' := by
  obtain ⟨An, cn, ve, B, h1, h2, h3, h4, h5, h6, h7⟩ := h
  have hz := hb.size
  exact ⟨An, cn, ve, B, h1, h2, h3, h4, by omega, fun h0 a ha => ⟨by have := (h6 h0 a ha).1; omega, (h6 h0 a ha).2⟩, bthen hb h7⟩
set_option maxRecDepth 100000 in
set_option maxHeartbeats 2000000 in
theorem cut8_w {F : Fz} {w : World} (hF : Sat F w) (ss : List ByteArray) (es : List Evt) (An : Option Addr) (nn cn : Nat) (hcn : nn ≤ cn) (hnn : nn ≤ 1000) (hN : Rd F 1 An nn (ss.map Value.string)) (Ae : Option Addr) (ne ce : Nat) (hne : ne ≤ 1000) (hce : ne ≤ ce) (hE : EvsF F Ae ne es) (hid : ∀ e ∈ es, e.ids.length ≤ 1000) (hM : mayT ss es = true) (k : Nat) (hk : k ≤ ne)
    (hEk : EvsF F Ae k (es.take k)) :
    Calls Try.prog 24 #[.agg #[.slice An nn cn, .slice Ae ne ce], .int .i64 (k : Nat)] w (RetTr w ss (es.take k)) := by
  have HMy := Lib.hid (fun (X : World) (h : Sat F X) => mayT_w h ss es An nn cn hcn hN Ae ne ce (by omega) hE (fun e he => Nat.le_trans (hid e he) (by omega)) true hM)
  have HCP := Lib.hid (fun (X : World) (h : Sat F X) => copied_w h ss (es.take k) An nn cn hnn hN Ae k ne ce (by omega) hk hce hEk (fun e he => hid e (List.mem_of_mem_take he)))
  obtain ⟨g, hg⟩ : ∃ g, g = w.heap.size := ⟨_, rfl⟩
  obtain ⟨W, hW⟩ : ∃ W, W = (w.alloc (.cells #[.slice An nn cn, .slice Ae ne ce] 41)).alloc (.cells #[.slice none 0 0, .slice none 0 0] 41) := ⟨_, rfl⟩
  have HB0 : Hid (Blk W g 41 #[.slice An nn cn, .slice Ae ne ce]) := Lib.hid (by rw [hW, hg]; exact (Blk.new _ _ _).alloc _)
  have HB1 : Hid (Blk W (g + 1) 41 #[.slice none 0 0, .slice none 0 0]) := Lib.hid (by rw [hW, hg]; exact Blk.new2 _ _ _ _)
  have hb0 : Below w.heap.size w W := by rw [hW]; exact (balloc _ _).alloc (by simp) _
  have HF0 := Lib.hid (hF.below hb0)
  have HBW := Lib.hid hb0
  obtain ⟨t0, t1, _, _⟩ := blkA HB0.out
  obtain ⟨k0, k1, k2, k3⟩ := blkA HB1.out
  have hgl := HB1.out.lt
  have hgw : w.heap.size ≤ g := by omega
  have HW := Lib.hid hW
  have HG := Lib.hid hg
  have hkI : (k : Int) ≤ (ne : Int) := by omega
  have hk0 : (0 : Int) ≤ (k : Int) := by omega
  clear hM hE hN hid hEk hW hg hb0 hF
  go_enter Try.func24, Try.ntmps24
  go_wp2_with fail
  rw [← HW.out, ← HG.out]
  go_at_call 50
  refine (HMy.out _ HF0.out).mono ?_
  rintro e w1 ⟨rfl, hb1⟩
  obtain ⟨t0, t1, _, _⟩ := blkA (HB0.out.call hb1)
  obtain ⟨k0, k1, k2, k3⟩ := blkA (HB1.out.call hb1)
  have HF1 := Lib.hid (HF0.out.below hb1)
  have HB1' := HB1.out.call hb1
  have HB1 := Lib.hid (bthen HBW.out hb1)
  have hmx : max (k : Int) 0 = (k : Int) := by omega
  have hmn : min (k : Int) (ne : Int) = (k : Int) := by omega
  clear hb1
  go_wp2_with fail
  go_at_call 57
  refine (HCP.out _ HF1.out).mono ?_
  rintro e w2 ⟨A2, c2, ve, B, rfl, hc2, hN2, hO2, hB2, hAb2, hb2⟩
  obtain ⟨Av, cv, rfl, hcv⟩ := hO2.shape
  obtain ⟨L, hL⟩ : ∃ L, (es.take k).length = L := ⟨_, rfl⟩
  obtain ⟨S, hS⟩ : ∃ S, ss.length = S := ⟨_, rfl⟩
  rw [hL] at hO2
  rw [hL]
  rw [hS] at hN2 hAb2 hc2
  rw [hS]
  have hz2 := hb2.size
  have hz1 := HB1.out.size
  have hgl1 : g + 1 < w1.heap.size := by have := HB1'.lt; omega
  obtain ⟨r0, r1, r2, r3⟩ := blkA (HB1'.call hb2)
  have hbl2 := ((bthen HB1.out hb2).setCell (p := ⟨g + 1, 0, none⟩) (by show w.heap.size ≤ g + 1; omega) (.slice A2 S c2)).setCell (p := ⟨g + 1, 1, none⟩) (by show w.heap.size ≤ g + 1; omega) (.slice Av L cv)
  have hO3 := (hO2.set (p := ⟨g + 1, 0, none⟩) (by show g + 1 < B; omega) (.slice A2 S c2)).set (p := ⟨g + 1, 1, none⟩) (by show g + 1 < B; omega) (.slice Av L cv)
  have hNb : ∀ a, A2 = some a → 0 < S → a.block ≠ g + 1 := fun a ha h0 => by have := (hAb2 h0 a ha).1; omega
  have hN3 : Rd (heapF ((w2.setCell ⟨g + 1, 0, none⟩ (.slice A2 S c2)).setCell ⟨g + 1, 1, none⟩ (.slice Av L cv))) 1 A2 S (ss.map Value.string) :=
    rd_same (rd_same hN2 fun h0 a ha => Below.heap_setCell w2 ⟨g + 1, 0, none⟩ _ _ (hNb a ha h0)) fun h0 a ha => Below.heap_setCell _ ⟨g + 1, 1, none⟩ _ _ (hNb a ha h0)
  have HFIN := Lib.hid (And.intro hbl2 (And.intro hO3 (And.intro hN3 (And.intro hAb2 (And.intro hc2 hS)))))
  have hBB : w.heap.size ≤ B := by have := HBW.out.size; omega
  have hw1B : w.heap.size ≤ w1.heap.size := hz1
  clear hbl2 hO2 hO3 hN2 hN3 hAb2 hc2 hS hNb hL
  go_wp2_with fail
  exact bodyPost_ret (v := .agg #[.slice A2 S c2, .slice Av L cv]) (by simp [results, Try.results24, go_sem, k0, k1, r0, r1]) rfl ⟨A2, c2, .slice Av L cv, B, by rw [HFIN.out.2.2.2.2.2], by rw [HFIN.out.2.2.2.2.2]; exact HFIN.out.2.2.2.2.1, by rw [HFIN.out.2.2.2.2.2]; exact HFIN.out.2.2.1, HFIN.out.2.1, hBB, fun h0 a ha => by rw [HFIN.out.2.2.2.2.2] at h0; have := HFIN.out.2.2.2.1 h0 a ha; exact ⟨by omega, this.2⟩, HFIN.out.1⟩
end Go.Proofs.Ytdbbooibkiicnaa
/-! The walk of law 15's Past. -/
namespace Go.Proofs.Ytdbbooibkiicnaa
open Go.RowKit
attribute [local go_sem ↓] Go.wp_at_zero Go.wp_at_succ
set_option maxRecDepth 100000 in
set_option maxHeartbeats 4000000 in
theorem past_w {F : Fz} {w : World} (hF : Sat F w) (p : Bool) (l : List Nd) (hn : l.length ≤ 1000) (A : Option Addr) (n c : Nat) (hl : NodesF F A n l) :
    Calls Try.prog 23 #[.slice A n c, .bool p] w (RetN F w (l.map (pastN p))) := by
  have hnl := hl.1
  have HL := Lib.hid hl
  have HNL := Lib.hid hnl
  have hnb : n ≤ 1000 := by omega
  clear hl hnl
  go_enter Try.func23, Try.ntmps23
  go_wp2_with fail
  go_loopw [5, 10] (fun v5 v10 wr => ∃ (m : Nat) (A5 : Option Addr) (c5 : Nat), m ≤ n ∧ v10 = .int .i64 m ∧ v5 = .slice A5 m c5 ∧ m ≤ c5 ∧ OwnN F wr w.heap.size (.slice A5 m c5) ((l.take m).map (pastN p)) ∧ Sat F wr ∧ Below w.heap.size w wr) (fun _ v10 _ => n - (intOf v10).toNat)
  case atStart => exact ⟨0, none, 0, Nat.zero_le _, rfl, rfl, Nat.le_refl _, OwnN.nil _ _ _, hF, Below.refl _ _⟩
  case round =>
    obtain ⟨m, A5, c5, hm, rfl, rfl, hc5, hO, hFr, hbl⟩ := hrel
    have hz := hbl.size
    by_cases hmn : m < n
    · have hmI : (m : Int) < (n : Int) := by omega
      have hml : m < l.length := by rw [HNL.out]; exact hmn
      obtain ⟨ad, eA, hL⟩ := HL.out.2 (by omega)
      obtain ⟨Ak, ck, hck, hK, hd⟩ := hL m hml
      have hst : (l.take (m + 1)).map (pastN p) = (l.take m).map (pastN p) ++ [pastN p l[m]] := by rw [List.take_succ_eq_append_getElem hml, List.map_append]; rfl
      clear hL
      generalize l[m] = nd at *
      obtain ⟨kind, name, lo, hi', kk⟩ := nd
      dsimp only at hK hd hck
      obtain ⟨K, hKk⟩ : ∃ K, kk.length = K := ⟨_, rfl⟩
      obtain ⟨c0, c1, c2, c3, c4⟩ := hd.sat hFr
      dsimp only at c0 c1 c2 c3 c4
      rw [hKk] at c4
      have HKK := Lib.hid hKk
      have HK := Lib.hid hK
      have HCK := Lib.hid hck
      have HST := Lib.hid hst
      have HO := Lib.hid hO
      have HFR := Lib.hid hFr
      have hlen : ((l.take m).map (pastN p)).length = m := by simp; omega
      have hlen2 : ((l.take (m + 1)).map (pastN p)).length = m + 1 := by simp; omega
      have HLE := Lib.hid hlen
      have HLE2 := Lib.hid hlen2
      have hlt := hO.lt
      subst eA
      clear hKk hK hd hck hst hO hlen hlen2 hFr
      have key : (p = true ∧ kind = 9) ∨ (p = true ∧ kind = 15) ∨ (p = true ∧ kind = 17) ∨ (p = true ∧ kind = 12) ∨ (p = true ∧ kind = 13) ∨ (p = false ∧ kind = 8) ∨ (p = false ∧ kind = 14) ∨ (p = false ∧ kind = 16) ∨ (p = false ∧ kind = 10) ∨ (p = false ∧ kind = 11) ∨ (p = true ∧ kind ≠ 9 ∧ kind ≠ 15 ∧ kind ≠ 17 ∧ kind ≠ 12 ∧ kind ≠ 13) ∨ (p = false ∧ kind ≠ 8 ∧ kind ≠ 14 ∧ kind ≠ 16 ∧ kind ≠ 10 ∧ kind ≠ 11) := by
        cases p <;> simp <;> omega
      rcases key with ⟨rfl, rfl⟩ | ⟨rfl, rfl⟩ | ⟨rfl, rfl⟩ | ⟨rfl, rfl⟩ | ⟨rfl, rfl⟩ | ⟨rfl, rfl⟩ | ⟨rfl, rfl⟩ | ⟨rfl, rfl⟩ | ⟨rfl, rfl⟩ | ⟨rfl, rfl⟩ | ⟨rfl, g1, g2, g3, g4, g5⟩ | ⟨rfl, g1, g2, g3, g4, g5⟩
      · try (have f1 : (kind == 9) = false := (by rw [beq_eq_false_iff_ne]; assumption))
        try (have f1 : (kind == 15) = false := (by rw [beq_eq_false_iff_ne]; assumption))
        try (have f1 : (kind == 17) = false := (by rw [beq_eq_false_iff_ne]; assumption))
        try (have f1 : (kind == 12) = false := (by rw [beq_eq_false_iff_ne]; assumption))
        try (have f1 : (kind == 13) = false := (by rw [beq_eq_false_iff_ne]; assumption))
        try (have f1 : (kind == 8) = false := (by rw [beq_eq_false_iff_ne]; assumption))
        try (have f1 : (kind == 14) = false := (by rw [beq_eq_false_iff_ne]; assumption))
        try (have f1 : (kind == 16) = false := (by rw [beq_eq_false_iff_ne]; assumption))
        try (have f1 : (kind == 10) = false := (by rw [beq_eq_false_iff_ne]; assumption))
        try (have f1 : (kind == 11) = false := (by rw [beq_eq_false_iff_ne]; assumption))
        have hpn : pastN true ⟨9, name, lo, hi', kk⟩ = ⟨8, name, lo, hi', kk⟩ := by
          first
            | rfl
            | (unfold pastN pastK; simp [g1, g2, g3, g4, g5])
        have HPN := Lib.hid hpn
        try clear g1 g2 g3 g4 g5
        clear hpn
        have HBN := Lib.hid (Blk.new2 wr (.cells #[.int .i64 8, .string name, .int .i64 lo, .int .i64 hi', .slice Ak K ck] 29) 29 #[.int .i64 8, .string name, .int .i64 lo, .int .i64 hi', .slice Ak K ck])
        go_wp2_with (at_builtin; refine wpList_pushN rfl (.tmp 90) (.tmp 92) rfl ((HO.out.alloc _).alloc _) ((HFR.out.alloc _).alloc _) (by rfl) (wr.heap.size + 1) 1 ⟨8, name, lo, hi', kk⟩ Ak ck (by rfl) (by rw [HKK.out]; exact HBN.out) HCK.out HK.out (by rw [HLE.out]; omega) (by simp; omega) ?_; intro v2 w2 hO2 hFF hb2 hg2 hat2; rw [← HPN.out, ← HST.out] at hO2; obtain ⟨A', cp', hv2, hcp'⟩ := hO2.shape; rw [HLE2.out] at hv2 hcp'; subst hv2)
        go_roundw
        case rel => exact ⟨m + 1, A', cp', by omega, by go_num, rfl, hcp', hO2, hFF, ((hbl.alloc (by omega) _).alloc (by simp; omega) _).trans hb2⟩
        case measure => simp [intOf]; omega
      · try (have f1 : (kind == 9) = false := (by rw [beq_eq_false_iff_ne]; assumption))
        try (have f1 : (kind == 15) = false := (by rw [beq_eq_false_iff_ne]; assumption))
        try (have f1 : (kind == 17) = false := (by rw [beq_eq_false_iff_ne]; assumption))
        try (have f1 : (kind == 12) = false := (by rw [beq_eq_false_iff_ne]; assumption))
        try (have f1 : (kind == 13) = false := (by rw [beq_eq_false_iff_ne]; assumption))
        try (have f1 : (kind == 8) = false := (by rw [beq_eq_false_iff_ne]; assumption))
        try (have f1 : (kind == 14) = false := (by rw [beq_eq_false_iff_ne]; assumption))
        try (have f1 : (kind == 16) = false := (by rw [beq_eq_false_iff_ne]; assumption))
        try (have f1 : (kind == 10) = false := (by rw [beq_eq_false_iff_ne]; assumption))
        try (have f1 : (kind == 11) = false := (by rw [beq_eq_false_iff_ne]; assumption))
        have hpn : pastN true ⟨15, name, lo, hi', kk⟩ = ⟨14, name, lo, hi', kk⟩ := by
          first
            | rfl
            | (unfold pastN pastK; simp [g1, g2, g3, g4, g5])
        have HPN := Lib.hid hpn
        try clear g1 g2 g3 g4 g5
        clear hpn
        have HBN := Lib.hid (Blk.new2 wr (.cells #[.int .i64 14, .string name, .int .i64 lo, .int .i64 hi', .slice Ak K ck] 29) 29 #[.int .i64 14, .string name, .int .i64 lo, .int .i64 hi', .slice Ak K ck])
        go_wp2_with (at_builtin; refine wpList_pushN rfl (.tmp 90) (.tmp 92) rfl ((HO.out.alloc _).alloc _) ((HFR.out.alloc _).alloc _) (by rfl) (wr.heap.size + 1) 1 ⟨14, name, lo, hi', kk⟩ Ak ck (by rfl) (by rw [HKK.out]; exact HBN.out) HCK.out HK.out (by rw [HLE.out]; omega) (by simp; omega) ?_; intro v2 w2 hO2 hFF hb2 hg2 hat2; rw [← HPN.out, ← HST.out] at hO2; obtain ⟨A', cp', hv2, hcp'⟩ := hO2.shape; rw [HLE2.out] at hv2 hcp'; subst hv2)
        go_roundw
        case rel => exact ⟨m + 1, A', cp', by omega, by go_num, rfl, hcp', hO2, hFF, ((hbl.alloc (by omega) _).alloc (by simp; omega) _).trans hb2⟩
        case measure => simp [intOf]; omega
      · try (have f1 : (kind == 9) = false := (by rw [beq_eq_false_iff_ne]; assumption))
        try (have f1 : (kind == 15) = false := (by rw [beq_eq_false_iff_ne]; assumption))
        try (have f1 : (kind == 17) = false := (by rw [beq_eq_false_iff_ne]; assumption))
        try (have f1 : (kind == 12) = false := (by rw [beq_eq_false_iff_ne]; assumption))
        try (have f1 : (kind == 13) = false := (by rw [beq_eq_false_iff_ne]; assumption))
        try (have f1 : (kind == 8) = false := (by rw [beq_eq_false_iff_ne]; assumption))
        try (have f1 : (kind == 14) = false := (by rw [beq_eq_false_iff_ne]; assumption))
        try (have f1 : (kind == 16) = false := (by rw [beq_eq_false_iff_ne]; assumption))
        try (have f1 : (kind == 10) = false := (by rw [beq_eq_false_iff_ne]; assumption))
        try (have f1 : (kind == 11) = false := (by rw [beq_eq_false_iff_ne]; assumption))
        have hpn : pastN true ⟨17, name, lo, hi', kk⟩ = ⟨16, name, lo, hi', kk⟩ := by
          first
            | rfl
            | (unfold pastN pastK; simp [g1, g2, g3, g4, g5])
        have HPN := Lib.hid hpn
        try clear g1 g2 g3 g4 g5
        clear hpn
        have HBN := Lib.hid (Blk.new2 wr (.cells #[.int .i64 16, .string name, .int .i64 lo, .int .i64 hi', .slice Ak K ck] 29) 29 #[.int .i64 16, .string name, .int .i64 lo, .int .i64 hi', .slice Ak K ck])
        go_wp2_with (at_builtin; refine wpList_pushN rfl (.tmp 90) (.tmp 92) rfl ((HO.out.alloc _).alloc _) ((HFR.out.alloc _).alloc _) (by rfl) (wr.heap.size + 1) 1 ⟨16, name, lo, hi', kk⟩ Ak ck (by rfl) (by rw [HKK.out]; exact HBN.out) HCK.out HK.out (by rw [HLE.out]; omega) (by simp; omega) ?_; intro v2 w2 hO2 hFF hb2 hg2 hat2; rw [← HPN.out, ← HST.out] at hO2; obtain ⟨A', cp', hv2, hcp'⟩ := hO2.shape; rw [HLE2.out] at hv2 hcp'; subst hv2)
        go_roundw
        case rel => exact ⟨m + 1, A', cp', by omega, by go_num, rfl, hcp', hO2, hFF, ((hbl.alloc (by omega) _).alloc (by simp; omega) _).trans hb2⟩
        case measure => simp [intOf]; omega
      · try (have f1 : (kind == 9) = false := (by rw [beq_eq_false_iff_ne]; assumption))
        try (have f1 : (kind == 15) = false := (by rw [beq_eq_false_iff_ne]; assumption))
        try (have f1 : (kind == 17) = false := (by rw [beq_eq_false_iff_ne]; assumption))
        try (have f1 : (kind == 12) = false := (by rw [beq_eq_false_iff_ne]; assumption))
        try (have f1 : (kind == 13) = false := (by rw [beq_eq_false_iff_ne]; assumption))
        try (have f1 : (kind == 8) = false := (by rw [beq_eq_false_iff_ne]; assumption))
        try (have f1 : (kind == 14) = false := (by rw [beq_eq_false_iff_ne]; assumption))
        try (have f1 : (kind == 16) = false := (by rw [beq_eq_false_iff_ne]; assumption))
        try (have f1 : (kind == 10) = false := (by rw [beq_eq_false_iff_ne]; assumption))
        try (have f1 : (kind == 11) = false := (by rw [beq_eq_false_iff_ne]; assumption))
        have hpn : pastN true ⟨12, name, lo, hi', kk⟩ = ⟨10, name, lo, hi', kk⟩ := by
          first
            | rfl
            | (unfold pastN pastK; simp [g1, g2, g3, g4, g5])
        have HPN := Lib.hid hpn
        try clear g1 g2 g3 g4 g5
        clear hpn
        have HBN := Lib.hid (Blk.new2 wr (.cells #[.int .i64 10, .string name, .int .i64 lo, .int .i64 hi', .slice Ak K ck] 29) 29 #[.int .i64 10, .string name, .int .i64 lo, .int .i64 hi', .slice Ak K ck])
        go_wp2_with (at_builtin; refine wpList_pushN rfl (.tmp 90) (.tmp 92) rfl ((HO.out.alloc _).alloc _) ((HFR.out.alloc _).alloc _) (by rfl) (wr.heap.size + 1) 1 ⟨10, name, lo, hi', kk⟩ Ak ck (by rfl) (by rw [HKK.out]; exact HBN.out) HCK.out HK.out (by rw [HLE.out]; omega) (by simp; omega) ?_; intro v2 w2 hO2 hFF hb2 hg2 hat2; rw [← HPN.out, ← HST.out] at hO2; obtain ⟨A', cp', hv2, hcp'⟩ := hO2.shape; rw [HLE2.out] at hv2 hcp'; subst hv2)
        go_roundw
        case rel => exact ⟨m + 1, A', cp', by omega, by go_num, rfl, hcp', hO2, hFF, ((hbl.alloc (by omega) _).alloc (by simp; omega) _).trans hb2⟩
        case measure => simp [intOf]; omega
      · try (have f1 : (kind == 9) = false := (by rw [beq_eq_false_iff_ne]; assumption))
        try (have f1 : (kind == 15) = false := (by rw [beq_eq_false_iff_ne]; assumption))
        try (have f1 : (kind == 17) = false := (by rw [beq_eq_false_iff_ne]; assumption))
        try (have f1 : (kind == 12) = false := (by rw [beq_eq_false_iff_ne]; assumption))
        try (have f1 : (kind == 13) = false := (by rw [beq_eq_false_iff_ne]; assumption))
        try (have f1 : (kind == 8) = false := (by rw [beq_eq_false_iff_ne]; assumption))
        try (have f1 : (kind == 14) = false := (by rw [beq_eq_false_iff_ne]; assumption))
        try (have f1 : (kind == 16) = false := (by rw [beq_eq_false_iff_ne]; assumption))
        try (have f1 : (kind == 10) = false := (by rw [beq_eq_false_iff_ne]; assumption))
        try (have f1 : (kind == 11) = false := (by rw [beq_eq_false_iff_ne]; assumption))
        have hpn : pastN true ⟨13, name, lo, hi', kk⟩ = ⟨11, name, lo, hi', kk⟩ := by
          first
            | rfl
            | (unfold pastN pastK; simp [g1, g2, g3, g4, g5])
        have HPN := Lib.hid hpn
        try clear g1 g2 g3 g4 g5
        clear hpn
        have HBN := Lib.hid (Blk.new2 wr (.cells #[.int .i64 11, .string name, .int .i64 lo, .int .i64 hi', .slice Ak K ck] 29) 29 #[.int .i64 11, .string name, .int .i64 lo, .int .i64 hi', .slice Ak K ck])
        go_wp2_with (at_builtin; refine wpList_pushN rfl (.tmp 90) (.tmp 92) rfl ((HO.out.alloc _).alloc _) ((HFR.out.alloc _).alloc _) (by rfl) (wr.heap.size + 1) 1 ⟨11, name, lo, hi', kk⟩ Ak ck (by rfl) (by rw [HKK.out]; exact HBN.out) HCK.out HK.out (by rw [HLE.out]; omega) (by simp; omega) ?_; intro v2 w2 hO2 hFF hb2 hg2 hat2; rw [← HPN.out, ← HST.out] at hO2; obtain ⟨A', cp', hv2, hcp'⟩ := hO2.shape; rw [HLE2.out] at hv2 hcp'; subst hv2)
        go_roundw
        case rel => exact ⟨m + 1, A', cp', by omega, by go_num, rfl, hcp', hO2, hFF, ((hbl.alloc (by omega) _).alloc (by simp; omega) _).trans hb2⟩
        case measure => simp [intOf]; omega
      · try (have f1 : (kind == 9) = false := (by rw [beq_eq_false_iff_ne]; assumption))
        try (have f1 : (kind == 15) = false := (by rw [beq_eq_false_iff_ne]; assumption))
        try (have f1 : (kind == 17) = false := (by rw [beq_eq_false_iff_ne]; assumption))
        try (have f1 : (kind == 12) = false := (by rw [beq_eq_false_iff_ne]; assumption))
        try (have f1 : (kind == 13) = false := (by rw [beq_eq_false_iff_ne]; assumption))
        try (have f1 : (kind == 8) = false := (by rw [beq_eq_false_iff_ne]; assumption))
        try (have f1 : (kind == 14) = false := (by rw [beq_eq_false_iff_ne]; assumption))
        try (have f1 : (kind == 16) = false := (by rw [beq_eq_false_iff_ne]; assumption))
        try (have f1 : (kind == 10) = false := (by rw [beq_eq_false_iff_ne]; assumption))
        try (have f1 : (kind == 11) = false := (by rw [beq_eq_false_iff_ne]; assumption))
        have hpn : pastN false ⟨8, name, lo, hi', kk⟩ = ⟨9, name, lo, hi', kk⟩ := by
          first
            | rfl
            | (unfold pastN pastK; simp [g1, g2, g3, g4, g5])
        have HPN := Lib.hid hpn
        try clear g1 g2 g3 g4 g5
        clear hpn
        have HBN := Lib.hid (Blk.new2 wr (.cells #[.int .i64 9, .string name, .int .i64 lo, .int .i64 hi', .slice Ak K ck] 29) 29 #[.int .i64 9, .string name, .int .i64 lo, .int .i64 hi', .slice Ak K ck])
        go_wp2_with (at_builtin; refine wpList_pushN rfl (.tmp 90) (.tmp 92) rfl ((HO.out.alloc _).alloc _) ((HFR.out.alloc _).alloc _) (by rfl) (wr.heap.size + 1) 1 ⟨9, name, lo, hi', kk⟩ Ak ck (by rfl) (by rw [HKK.out]; exact HBN.out) HCK.out HK.out (by rw [HLE.out]; omega) (by simp; omega) ?_; intro v2 w2 hO2 hFF hb2 hg2 hat2; rw [← HPN.out, ← HST.out] at hO2; obtain ⟨A', cp', hv2, hcp'⟩ := hO2.shape; rw [HLE2.out] at hv2 hcp'; subst hv2)
        go_roundw
        case rel => exact ⟨m + 1, A', cp', by omega, by go_num, rfl, hcp', hO2, hFF, ((hbl.alloc (by omega) _).alloc (by simp; omega) _).trans hb2⟩
        case measure => simp [intOf]; omega
      · try (have f1 : (kind == 9) = false := (by rw [beq_eq_false_iff_ne]; assumption))
        try (have f1 : (kind == 15) = false := (by rw [beq_eq_false_iff_ne]; assumption))
        try (have f1 : (kind == 17) = false := (by rw [beq_eq_false_iff_ne]; assumption))
        try (have f1 : (kind == 12) = false := (by rw [beq_eq_false_iff_ne]; assumption))
        try (have f1 : (kind == 13) = false := (by rw [beq_eq_false_iff_ne]; assumption))
        try (have f1 : (kind == 8) = false := (by rw [beq_eq_false_iff_ne]; assumption))
        try (have f1 : (kind == 14) = false := (by rw [beq_eq_false_iff_ne]; assumption))
        try (have f1 : (kind == 16) = false := (by rw [beq_eq_false_iff_ne]; assumption))
        try (have f1 : (kind == 10) = false := (by rw [beq_eq_false_iff_ne]; assumption))
        try (have f1 : (kind == 11) = false := (by rw [beq_eq_false_iff_ne]; assumption))
        have hpn : pastN false ⟨14, name, lo, hi', kk⟩ = ⟨15, name, lo, hi', kk⟩ := by
          first
            | rfl
            | (unfold pastN pastK; simp [g1, g2, g3, g4, g5])
        have HPN := Lib.hid hpn
        try clear g1 g2 g3 g4 g5
        clear hpn
        have HBN := Lib.hid (Blk.new2 wr (.cells #[.int .i64 15, .string name, .int .i64 lo, .int .i64 hi', .slice Ak K ck] 29) 29 #[.int .i64 15, .string name, .int .i64 lo, .int .i64 hi', .slice Ak K ck])
        go_wp2_with (at_builtin; refine wpList_pushN rfl (.tmp 90) (.tmp 92) rfl ((HO.out.alloc _).alloc _) ((HFR.out.alloc _).alloc _) (by rfl) (wr.heap.size + 1) 1 ⟨15, name, lo, hi', kk⟩ Ak ck (by rfl) (by rw [HKK.out]; exact HBN.out) HCK.out HK.out (by rw [HLE.out]; omega) (by simp; omega) ?_; intro v2 w2 hO2 hFF hb2 hg2 hat2; rw [← HPN.out, ← HST.out] at hO2; obtain ⟨A', cp', hv2, hcp'⟩ := hO2.shape; rw [HLE2.out] at hv2 hcp'; subst hv2)
        go_roundw
        case rel => exact ⟨m + 1, A', cp', by omega, by go_num, rfl, hcp', hO2, hFF, ((hbl.alloc (by omega) _).alloc (by simp; omega) _).trans hb2⟩
        case measure => simp [intOf]; omega
      · try (have f1 : (kind == 9) = false := (by rw [beq_eq_false_iff_ne]; assumption))
        try (have f1 : (kind == 15) = false := (by rw [beq_eq_false_iff_ne]; assumption))
        try (have f1 : (kind == 17) = false := (by rw [beq_eq_false_iff_ne]; assumption))
        try (have f1 : (kind == 12) = false := (by rw [beq_eq_false_iff_ne]; assumption))
        try (have f1 : (kind == 13) = false := (by rw [beq_eq_false_iff_ne]; assumption))
        try (have f1 : (kind == 8) = false := (by rw [beq_eq_false_iff_ne]; assumption))
        try (have f1 : (kind == 14) = false := (by rw [beq_eq_false_iff_ne]; assumption))
        try (have f1 : (kind == 16) = false := (by rw [beq_eq_false_iff_ne]; assumption))
        try (have f1 : (kind == 10) = false := (by rw [beq_eq_false_iff_ne]; assumption))
        try (have f1 : (kind == 11) = false := (by rw [beq_eq_false_iff_ne]; assumption))
        have hpn : pastN false ⟨16, name, lo, hi', kk⟩ = ⟨17, name, lo, hi', kk⟩ := by
          first
            | rfl
            | (unfold pastN pastK; simp [g1, g2, g3, g4, g5])
        have HPN := Lib.hid hpn
        try clear g1 g2 g3 g4 g5
        clear hpn
        have HBN := Lib.hid (Blk.new2 wr (.cells #[.int .i64 17, .string name, .int .i64 lo, .int .i64 hi', .slice Ak K ck] 29) 29 #[.int .i64 17, .string name, .int .i64 lo, .int .i64 hi', .slice Ak K ck])
        go_wp2_with (at_builtin; refine wpList_pushN rfl (.tmp 90) (.tmp 92) rfl ((HO.out.alloc _).alloc _) ((HFR.out.alloc _).alloc _) (by rfl) (wr.heap.size + 1) 1 ⟨17, name, lo, hi', kk⟩ Ak ck (by rfl) (by rw [HKK.out]; exact HBN.out) HCK.out HK.out (by rw [HLE.out]; omega) (by simp; omega) ?_; intro v2 w2 hO2 hFF hb2 hg2 hat2; rw [← HPN.out, ← HST.out] at hO2; obtain ⟨A', cp', hv2, hcp'⟩ := hO2.shape; rw [HLE2.out] at hv2 hcp'; subst hv2)
        go_roundw
        case rel => exact ⟨m + 1, A', cp', by omega, by go_num, rfl, hcp', hO2, hFF, ((hbl.alloc (by omega) _).alloc (by simp; omega) _).trans hb2⟩
        case measure => simp [intOf]; omega
      · try (have f1 : (kind == 9) = false := (by rw [beq_eq_false_iff_ne]; assumption))
        try (have f1 : (kind == 15) = false := (by rw [beq_eq_false_iff_ne]; assumption))
        try (have f1 : (kind == 17) = false := (by rw [beq_eq_false_iff_ne]; assumption))
        try (have f1 : (kind == 12) = false := (by rw [beq_eq_false_iff_ne]; assumption))
        try (have f1 : (kind == 13) = false := (by rw [beq_eq_false_iff_ne]; assumption))
        try (have f1 : (kind == 8) = false := (by rw [beq_eq_false_iff_ne]; assumption))
        try (have f1 : (kind == 14) = false := (by rw [beq_eq_false_iff_ne]; assumption))
        try (have f1 : (kind == 16) = false := (by rw [beq_eq_false_iff_ne]; assumption))
        try (have f1 : (kind == 10) = false := (by rw [beq_eq_false_iff_ne]; assumption))
        try (have f1 : (kind == 11) = false := (by rw [beq_eq_false_iff_ne]; assumption))
        have hpn : pastN false ⟨10, name, lo, hi', kk⟩ = ⟨12, name, lo, hi', kk⟩ := by
          first
            | rfl
            | (unfold pastN pastK; simp [g1, g2, g3, g4, g5])
        have HPN := Lib.hid hpn
        try clear g1 g2 g3 g4 g5
        clear hpn
        have HBN := Lib.hid (Blk.new2 wr (.cells #[.int .i64 12, .string name, .int .i64 lo, .int .i64 hi', .slice Ak K ck] 29) 29 #[.int .i64 12, .string name, .int .i64 lo, .int .i64 hi', .slice Ak K ck])
        go_wp2_with (at_builtin; refine wpList_pushN rfl (.tmp 90) (.tmp 92) rfl ((HO.out.alloc _).alloc _) ((HFR.out.alloc _).alloc _) (by rfl) (wr.heap.size + 1) 1 ⟨12, name, lo, hi', kk⟩ Ak ck (by rfl) (by rw [HKK.out]; exact HBN.out) HCK.out HK.out (by rw [HLE.out]; omega) (by simp; omega) ?_; intro v2 w2 hO2 hFF hb2 hg2 hat2; rw [← HPN.out, ← HST.out] at hO2; obtain ⟨A', cp', hv2, hcp'⟩ := hO2.shape; rw [HLE2.out] at hv2 hcp'; subst hv2)
        go_roundw
        case rel => exact ⟨m + 1, A', cp', by omega, by go_num, rfl, hcp', hO2, hFF, ((hbl.alloc (by omega) _).alloc (by simp; omega) _).trans hb2⟩
        case measure => simp [intOf]; omega
      · try (have f1 : (kind == 9) = false := (by rw [beq_eq_false_iff_ne]; assumption))
        try (have f1 : (kind == 15) = false := (by rw [beq_eq_false_iff_ne]; assumption))
        try (have f1 : (kind == 17) = false := (by rw [beq_eq_false_iff_ne]; assumption))
        try (have f1 : (kind == 12) = false := (by rw [beq_eq_false_iff_ne]; assumption))
        try (have f1 : (kind == 13) = false := (by rw [beq_eq_false_iff_ne]; assumption))
        try (have f1 : (kind == 8) = false := (by rw [beq_eq_false_iff_ne]; assumption))
        try (have f1 : (kind == 14) = false := (by rw [beq_eq_false_iff_ne]; assumption))
        try (have f1 : (kind == 16) = false := (by rw [beq_eq_false_iff_ne]; assumption))
        try (have f1 : (kind == 10) = false := (by rw [beq_eq_false_iff_ne]; assumption))
        try (have f1 : (kind == 11) = false := (by rw [beq_eq_false_iff_ne]; assumption))
        have hpn : pastN false ⟨11, name, lo, hi', kk⟩ = ⟨13, name, lo, hi', kk⟩ := by
          first
            | rfl
            | (unfold pastN pastK; simp [g1, g2, g3, g4, g5])
        have HPN := Lib.hid hpn
        try clear g1 g2 g3 g4 g5
        clear hpn
        have HBN := Lib.hid (Blk.new2 wr (.cells #[.int .i64 13, .string name, .int .i64 lo, .int .i64 hi', .slice Ak K ck] 29) 29 #[.int .i64 13, .string name, .int .i64 lo, .int .i64 hi', .slice Ak K ck])
        go_wp2_with (at_builtin; refine wpList_pushN rfl (.tmp 90) (.tmp 92) rfl ((HO.out.alloc _).alloc _) ((HFR.out.alloc _).alloc _) (by rfl) (wr.heap.size + 1) 1 ⟨13, name, lo, hi', kk⟩ Ak ck (by rfl) (by rw [HKK.out]; exact HBN.out) HCK.out HK.out (by rw [HLE.out]; omega) (by simp; omega) ?_; intro v2 w2 hO2 hFF hb2 hg2 hat2; rw [← HPN.out, ← HST.out] at hO2; obtain ⟨A', cp', hv2, hcp'⟩ := hO2.shape; rw [HLE2.out] at hv2 hcp'; subst hv2)
        go_roundw
        case rel => exact ⟨m + 1, A', cp', by omega, by go_num, rfl, hcp', hO2, hFF, ((hbl.alloc (by omega) _).alloc (by simp; omega) _).trans hb2⟩
        case measure => simp [intOf]; omega
      · try (have f1 : (kind == 9) = false := (by rw [beq_eq_false_iff_ne]; assumption))
        try (have f1 : (kind == 15) = false := (by rw [beq_eq_false_iff_ne]; assumption))
        try (have f1 : (kind == 17) = false := (by rw [beq_eq_false_iff_ne]; assumption))
        try (have f1 : (kind == 12) = false := (by rw [beq_eq_false_iff_ne]; assumption))
        try (have f1 : (kind == 13) = false := (by rw [beq_eq_false_iff_ne]; assumption))
        try (have f1 : (kind == 8) = false := (by rw [beq_eq_false_iff_ne]; assumption))
        try (have f1 : (kind == 14) = false := (by rw [beq_eq_false_iff_ne]; assumption))
        try (have f1 : (kind == 16) = false := (by rw [beq_eq_false_iff_ne]; assumption))
        try (have f1 : (kind == 10) = false := (by rw [beq_eq_false_iff_ne]; assumption))
        try (have f1 : (kind == 11) = false := (by rw [beq_eq_false_iff_ne]; assumption))
        have hpn : pastN true ⟨kind, name, lo, hi', kk⟩ = ⟨kind, name, lo, hi', kk⟩ := by
          first
            | rfl
            | (unfold pastN pastK; simp [g1, g2, g3, g4, g5])
        have HPN := Lib.hid hpn
        try clear g1 g2 g3 g4 g5
        clear hpn
        have HBN := Lib.hid (Blk.new2 wr (.cells #[.int .i64 kind, .string name, .int .i64 lo, .int .i64 hi', .slice Ak K ck] 29) 29 #[.int .i64 kind, .string name, .int .i64 lo, .int .i64 hi', .slice Ak K ck])
        go_wp2_with (at_builtin; refine wpList_pushN rfl (.tmp 90) (.tmp 92) rfl ((HO.out.alloc _).alloc _) ((HFR.out.alloc _).alloc _) (by rfl) (wr.heap.size + 1) 1 ⟨kind, name, lo, hi', kk⟩ Ak ck (by rfl) (by rw [HKK.out]; exact HBN.out) HCK.out HK.out (by rw [HLE.out]; omega) (by simp; omega) ?_; intro v2 w2 hO2 hFF hb2 hg2 hat2; rw [← HPN.out, ← HST.out] at hO2; obtain ⟨A', cp', hv2, hcp'⟩ := hO2.shape; rw [HLE2.out] at hv2 hcp'; subst hv2)
        go_roundw
        case rel => exact ⟨m + 1, A', cp', by omega, by go_num, rfl, hcp', hO2, hFF, ((hbl.alloc (by omega) _).alloc (by simp; omega) _).trans hb2⟩
        case measure => simp [intOf]; omega
      · try (have f1 : (kind == 9) = false := (by rw [beq_eq_false_iff_ne]; assumption))
        try (have f1 : (kind == 15) = false := (by rw [beq_eq_false_iff_ne]; assumption))
        try (have f1 : (kind == 17) = false := (by rw [beq_eq_false_iff_ne]; assumption))
        try (have f1 : (kind == 12) = false := (by rw [beq_eq_false_iff_ne]; assumption))
        try (have f1 : (kind == 13) = false := (by rw [beq_eq_false_iff_ne]; assumption))
        try (have f1 : (kind == 8) = false := (by rw [beq_eq_false_iff_ne]; assumption))
        try (have f1 : (kind == 14) = false := (by rw [beq_eq_false_iff_ne]; assumption))
        try (have f1 : (kind == 16) = false := (by rw [beq_eq_false_iff_ne]; assumption))
        try (have f1 : (kind == 10) = false := (by rw [beq_eq_false_iff_ne]; assumption))
        try (have f1 : (kind == 11) = false := (by rw [beq_eq_false_iff_ne]; assumption))
        have hpn : pastN false ⟨kind, name, lo, hi', kk⟩ = ⟨kind, name, lo, hi', kk⟩ := by
          first
            | rfl
            | (unfold pastN pastK; simp [g1, g2, g3, g4, g5])
        have HPN := Lib.hid hpn
        try clear g1 g2 g3 g4 g5
        clear hpn
        have HBN := Lib.hid (Blk.new2 wr (.cells #[.int .i64 kind, .string name, .int .i64 lo, .int .i64 hi', .slice Ak K ck] 29) 29 #[.int .i64 kind, .string name, .int .i64 lo, .int .i64 hi', .slice Ak K ck])
        go_wp2_with (at_builtin; refine wpList_pushN rfl (.tmp 90) (.tmp 92) rfl ((HO.out.alloc _).alloc _) ((HFR.out.alloc _).alloc _) (by rfl) (wr.heap.size + 1) 1 ⟨kind, name, lo, hi', kk⟩ Ak ck (by rfl) (by rw [HKK.out]; exact HBN.out) HCK.out HK.out (by rw [HLE.out]; omega) (by simp; omega) ?_; intro v2 w2 hO2 hFF hb2 hg2 hat2; rw [← HPN.out, ← HST.out] at hO2; obtain ⟨A', cp', hv2, hcp'⟩ := hO2.shape; rw [HLE2.out] at hv2 hcp'; subst hv2)
        go_roundw
        case rel => exact ⟨m + 1, A', cp', by omega, by go_num, rfl, hcp', hO2, hFF, ((hbl.alloc (by omega) _).alloc (by simp; omega) _).trans hb2⟩
        case measure => simp [intOf]; omega
    · obtain rfl : m = n := by omega
      have hdec : decide ((m : Int) < (m : Int)) = false := decide_eq_false (by omega)
      have hTK : l.take m = l := by rw [← HNL.out, List.take_length]
      rw [hTK] at hO
      have hlen : (l.map (pastN p)).length = m := by rw [List.length_map, HNL.out]
      obtain ⟨F5, A5', c5', e5, hc5', hN5, hF5, hle5, _⟩ := hO.freeze hFr w (Nat.le_refl _)
      rw [hlen] at e5 hc5' hN5
      injection e5 with e51 e52 e53
      subst e51 e53
      have HLE := Lib.hid hlen
      clear hTK hO hlen
      go_wp2_with fail
      go_ret
      exact ⟨A5, c5, F5, by rw [HLE.out]; rfl, by rw [HLE.out]; exact hc5', by rw [HLE.out]; exact hN5, hbl, hF5, hle5⟩
end Go.Proofs.Ytdbbooibkiicnaa
