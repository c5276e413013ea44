/- The walk of law 8's Copy. -/
import Derived.Test.YtdbbooibkiicnaaMk8E
set_option linter.unusedVariables false
set_option linter.unusedSimpArgs false
namespace Go.Proofs.Ytdbbooibkiicnaa
open Go.RowKit
attribute [local go_sem ↓] Go.wp_at_zero Go.wp_at_succ
theorem rd_hxG {w : World} {Gs : List Nat} {A : Option Addr} {n : Nat} {xs : List Value} (h : Rd (heapF w) 1 A n xs) (hg : 0 < n → ∀ a, A = some a → a.block ∉ Gs) : Rd (hx w Gs) 1 A n xs := by
  refine ⟨h.1, fun h0 => ?_⟩
  obtain ⟨ad, e, hc⟩ := h.2 h0
  refine ⟨ad, e, fun j u hu => ?_⟩
  have := hc j u hu
  unfold Fz.cell at this ⊢
  rw [hx_out (by rw [block_of_add]; exact hg h0 ad e)]
  exact this
set_option maxRecDepth 100000 in
set_option maxHeartbeats 2000000 in
theorem copy8_w {F : Fz} {w : World} (hF : Sat F w) (ss : List ByteArray) (es : List Evt) (An : Option Addr) (nn cn : Nat) (hnn : nn ≤ 1000) (hN : Rd F 1 An nn (ss.map Value.string)) (Ae : Option Addr) (ne ce : Nat) (hne : ne ≤ 1000) (hE : EvsF F Ae ne es) (hid : ∀ e ∈ es, e.ids.length ≤ 1000) :
    Calls Try.prog 17 #[.agg #[.slice An nn cn, .slice Ae ne ce]] w (RetTr w ss es) := by
  have hsl : ss.length = nn := by have := hN.1; simpa using this
  have hb0 : Below w.heap.size w (((w.alloc (.cells #[.slice An nn cn, .slice Ae ne ce] 41)).alloc (.cells #[.slice none 0 0, .slice none 0 0] 41)).alloc (.cells #[] 9)) := ((balloc _ _).alloc (by simp) _).alloc (by simp; omega) _
  have HR0 := Lib.hid ((Blk.new w 41 #[.slice An nn cn, .slice Ae ne ce]).alloc (.cells #[.slice none 0 0, .slice none 0 0] 41))
  have HR1 := Lib.hid (Blk.new2 w (.cells #[.slice An nn cn, .slice Ae ne ce] 41) 41 #[.slice none 0 0, .slice none 0 0])
  obtain ⟨W0, hW0⟩ : ∃ W0, W0 = (w.alloc (.cells #[.slice An nn cn, .slice Ae ne ce] 41)).alloc (.cells #[.slice none 0 0, .slice none 0 0] 41) := ⟨_, rfl⟩
  have hz0 : W0.heap.size = w.heap.size + 1 + 1 := by rw [hW0]; simp
  have hOe : Own noF (W0.alloc (.cells #[] 9)) (w.heap.size + 1 + 1) 9 1 (.slice (some ⟨w.heap.size + 1 + 1, 0, none⟩) 0 0) 0 [] := by rw [← hz0]; exact Own.empty noF W0 W0.heap.size _ _ (sat_noF _) rfl (Nat.le_refl _)
  rw [← hW0] at HR0 HR1 hb0
  have hFe := hF.below hb0
  have HFE := Lib.hid hFe
  have HN := Lib.hid hN
  have HE := Lib.hid hE
  have HID := Lib.hid hid
  have HSL := Lib.hid hsl
  have HW0 := Lib.hid hW0
  have HZ0 := Lib.hid hz0
  have HOE := Lib.hid hOe
  obtain ⟨q0, q1, _, _⟩ := blkA (HR0.out.alloc (.cells #[] 9))
  have hll : w.heap.size < W0.heap.size := by omega
  obtain ⟨r0, r1, _, _⟩ := blkA HR0.out
  clear hN hE hid hsl hW0 hOe hFe
  go_enter Try.func17, Try.ntmps17
  go_wp2_with (at_builtin; first
    | (rw [← HW0.out]; refine wpList_pushAll rfl (.tmp 6) (.tmp 8) _ rfl 9 (.string ⟨#[]⟩) 1 16 Try.underlying38 (by kernel_rfl) rfl (by omega) HOE.out (sat_noF _) (by first | rfl | (rw [HZ0.out]; rfl)) An nn cn (ss.map Value.string) (by rfl) HFE.out HN.out (by intro u hu; simp at hu; obtain ⟨s, _, rfl⟩ := hu; rfl) (by simp [maxLen]; omega) (by omega) (by simp; omega) ?_; intro v1 w1 hO1 _ hb1 hg1 hat1; rw [Nat.zero_add, List.nil_append] at hO1; obtain ⟨A2, c2, rfl, hc2⟩ := hO1.shape; have hzA : w.heap.size + 1 + 1 ≤ w1.heap.size := (by have := hb1.size; simp at this; omega); have hlA : w.heap.size < w1.heap.size := (by omega); obtain ⟨q2, q3, _, _⟩ := blkA (HR0.out.call ((balloc W0 _).trans (hb1.mono (by omega))))))
  have hbA : Below w.heap.size w w1 := hb0.trans (hb1.mono (by omega))
  have hR0 := HR0.out.call ((balloc W0 _).trans (hb1.mono (by omega)))
  have hR1 := HR1.out.call ((balloc W0 _).trans (hb1.mono (by omega)))
  obtain ⟨A2', c2', e2, _, hRd⟩ := hO1.rdH
  injection e2 with e21 e22 e23
  subst e21 e23
  have hAb : ∀ a, A2 = some a → w.heap.size + 1 + 1 ≤ a.block ∧ a.block < w1.heap.size := fun a ha => by subst ha; exact hO1.1.lt a.block rfl
  obtain ⟨gt, hgt⟩ : ∃ gt, gt = w1.heap.size := ⟨_, rfl⟩
  obtain ⟨N, hN⟩ : ∃ N, N = w1.alloc (.cells #[.slice A2 nn c2, .slice none 0 0] 41) := ⟨_, rfl⟩
  have hBN : Blk N gt 41 #[.slice A2 nn c2, .slice none 0 0] := by rw [hN, hgt]; exact Blk.new _ _ _
  have hbN : Below w1.heap.size w1 N := by rw [hN]; exact balloc _ _
  have hzN : N.heap.size = gt + 1 := by rw [hN, hgt]; simp
  have hRX : Rd (hx N [gt]) 1 A2 nn (ss.map Value.string) := rd_hxG (rd_call hRd hbN) (fun _ a ha => by simp; have := (hAb a ha).2; omega)
  have hR0N := hR0.call hbN
  have hR1N := hR1.call hbN
  have hbNN := bthen hbA hbN
  obtain ⟨k0, k1, _, _⟩ := blkA hBN
  obtain ⟨q0', q1', _, _⟩ := blkA hR0N
  have HN := Lib.hid hN
  have HGT := Lib.hid hgt
  have hgtl : w.heap.size + 1 + 1 ≤ gt := by omega
  clear hbN hR0 hR1 hO1 hg1 hat1 hb1 hRd hbA hN q0 q1 r0 r1 hb0
  rw [← HN.out]
  rw [← hgt]
  clear hgt
  go_loopw [5, 14] (fun _ v14 wr => ∃ (m : Nat) (ve : Value), m ≤ ne ∧ v14 = .int .i64 m ∧ Blk wr gt 41 #[.slice A2 nn c2, ve] ∧ OwnE wr (gt + 1) ve (es.take m) ∧ Wr [gt] N wr) (fun _ v14 _ => ne - (intOf v14).toNat)
  case atStart => exact ⟨0, .slice none 0 0, Nat.zero_le _, rfl, hBN, by simpa using OwnE.nil N _, .refl _ _⟩
  case round =>
    obtain ⟨m, ve, hm, rfl, hB, hO, hwr⟩ := hrel
    have hzr := hwr.size
    have hFr : Sat F wr := hF.below (hbNN.trans (hwr.below (fun g hg => by simp at hg; omega) hbNN.size))
    by_cases hmn : m < ne
    · have hmI : (m : Int) < (ne : Int) := by omega
      have hml : m < es.length := by have := HE.out.1; omega
      obtain ⟨ad, rfl, hh⟩ := HE.out.2 (by omega)
      obtain ⟨htm, Ai, ci, hci, hri, hc0, hc1⟩ := hh m hml
      have hidl := HID.out _ (List.getElem_mem hml)
      have hst : es.take (m + 1) = es.take m ++ [es[m]] := List.take_succ_eq_append_getElem hml
      clear hh
      generalize es[m] = ev at *
      obtain ⟨tm, ids⟩ := ev
      dsimp only at htm hci hri hc0 hc1 hidl
      obtain ⟨es1, hes1⟩ : ∃ es1, es.take m = es1 := ⟨_, rfl⟩
      obtain ⟨es2, hes2⟩ : ∃ es2, es.take (m + 1) = es2 := ⟨_, rfl⟩
      have hel : es1.length ≤ 1000 := by rw [← hes1, List.length_take]; omega
      rw [hes1, hes2] at hst
      rw [hes1] at hO
      have HES2 := Lib.hid hes2
      have HST := Lib.hid hst
      obtain ⟨Av, cv, rfl, hcv⟩ := hO.shape
      have hOl := hO.lt
      obtain ⟨L, hL⟩ : ∃ L, es1.length = L := ⟨_, rfl⟩
      obtain ⟨L2, hL2⟩ : ∃ L2, es2.length = L2 := ⟨_, rfl⟩
      rw [hL] at hO hB hOl hcv hel
      have HL := Lib.hid hL
      have HL2 := Lib.hid hL2
      obtain ⟨ni, hni⟩ : ∃ ni, ids.length = ni := ⟨_, rfl⟩
      rw [hni] at hci hri hc1 hidl
      have HNI := Lib.hid hni
      have z0 := hFr.cell hc0
      have z1 : wr.cell? ⟨(ad.add (m * 2)).block, (ad.add (m * 2)).off + 1, none⟩ = some (.slice Ai ni ci) := hFr.cell hc1
      have HRI := Lib.hid hri
      have HO := Lib.hid hO
      have HB := Lib.hid hB
      have HWR := Lib.hid hwr
      have HFR := Lib.hid hFr
      clear hst hes1 hes2 hL hL2 hni hO hB hwr hFr hri hc0 hc1
      obtain ⟨W, hW⟩ : ∃ W, W = wr.alloc (.cells #[.int .u64 (tm : Nat), .slice Ai ni ci] 45) := ⟨_, rfl⟩
      obtain ⟨gw, hgw⟩ : ∃ gw, gw = wr.heap.size := ⟨_, rfl⟩
      have hBW : Blk W gw 45 #[.int .u64 (tm : Nat), .slice Ai ni ci] := by rw [hW, hgw]; exact Blk.new _ _ _
      have hbW : Below wr.heap.size wr W := by rw [hW]; exact balloc _ _
      have hzW : W.heap.size = gw + 1 := by rw [hW, hgw]; simp
      have hWl : gt < gw := by omega
      have hW2 : gt < W.heap.size := by omega
      have hW3 : gw < W.heap.size := by omega
      have hOl2 : ∀ g, (Value.slice Av L cv).ownBlock = some g → gt + 1 ≤ g ∧ g < W.heap.size := fun g hg => ⟨(hOl g hg).1, by have := (hOl g hg).2; omega⟩
      have HW := Lib.hid hW
      have HBW := Lib.hid hBW
      have HBT := Lib.hid (HB.out.call hbW)
      have HOW := Lib.hid (HO.out.call hbW)
      have HWW := Lib.hid (HWR.out.call hbW)
      have HFW := Lib.hid (HFR.out.below hbW)
      obtain ⟨j0, j1, _, _⟩ := blkA hBW
      obtain ⟨k0, k1, k2, k3⟩ := blkA HBT.out
      have hOe : Own noF (W.alloc (.cells #[] 3)) W.heap.size 3 1 (.slice (some ⟨W.heap.size, 0, none⟩) 0 0) 0 [] := Own.empty noF W W.heap.size _ _ (sat_noF _) rfl (Nat.le_refl _)
      have HOE := Lib.hid hOe
      clear hW hBW hOe hbW hzW
      go_wp2_with fail
      rw [← HW.out, ← hgw]
      have HGW := Lib.hid hgw
      clear hgw
      go_region_law (first
        | (refine step_pushAll rfl (.tmp 22) (.tmp 24) _ (by rfl) 3 (.int .i64 0) 1 8 Try.underlying27 (by kernel_rfl) rfl (by omega) (F := noF) (B := W.heap.size) HOE.out (sat_noF _) (by rfl) Ai ni ci (ids.map (Value.int .i64)) (by rfl) (F' := F) (HFW.out.alloc _) HRI.out (by intro u hu; simp at hu; obtain ⟨s, _, rfl⟩ := hu; rfl) (by simp [maxLen]; omega) (by omega) (by simp) ?_; intro v2 w2 hO2 _ hb2' hg2 hat2; rw [Nat.zero_add, List.nil_append] at hO2; obtain ⟨Ai2, ci2, rfl, hci2⟩ := hO2.shape; have hb2 : Below W.heap.size W w2 := (by refine Below.trans ?_ hb2'; exact bel_eqv (balloc W _) rfl rfl rfl rfl); have hz2 := hb2.size; have hgt2 : gt < w2.heap.size := (by omega); have hgw2 : gw < w2.heap.size := (by omega); obtain ⟨k0, k1, k2, k3⟩ := blkA (HBT.out.call hb2); obtain ⟨j0, j1, _, _⟩ := blkA (HBW.out.call hb2); obtain ⟨A9, c9, e9, _, hr2⟩ := hO2.rdH; injection e9 with e91 e92 e93; subst e91 e93; have hfi : (∀ a, Ai2 = some a → W.heap.size ≤ a.block) := (fun a ha => hO2.fresh a ha))
        | (refine step_pushE rfl (.tmp 19) (.tmp 27) (by rfl) (B := gt + 1) (v := .slice Av L cv) (es := es1) ((HOW.out.call hb2).alloc _) (by rfl) ⟨tm, ids⟩ htm Ai2 ci2 (by rw [HNI.out]; exact hci2) (by rw [HNI.out]; exact rd_call hr2 (balloc _ _)) (fun h0 a ha => ⟨by have h1 := hfi a ha; show gt + 1 ≤ a.block; omega, fun q => by have h1 := hfi a ha; have := (hOl2 _ q).2; omega⟩) _ 1 (by rfl) (by rw [HNI.out]; exact Blk.new w2 _ _) (by rw [HL.out]; omega) (by simp; omega) ?_; intro v4 w4 hO4 hb4 hg4' hat4; rw [← HST.out] at hO4; obtain ⟨A4, c4, hv4, hc4⟩ := hO4.shape; rw [HL2.out] at hv4 hc4; subst hv4; have hg4 : (w2.alloc (.cells #[.int .u64 (tm : Nat), .slice Ai2 ni ci2] 45)).grownBy w4 _ := gb_src hg4' rfl rfl rfl rfl; have hBw := ((HBT.out.call hb2).alloc _).grown hg4 (fun e => by have := (hOl2 _ e.symm).1; omega); obtain ⟨k0, k1, k2, k3⟩ := blkA hBw))
      all_goals
        have hB5 := hBw.set_ 1 (.slice A4 L2 c4)
        have hO5 := hO4.set (p := ⟨gt, 1, none⟩) (by show gt < gt + 1; omega) (.slice A4 L2 c4)
        have hb24 : Below (gt + 1) W w4 := (by refine Below.trans ?_ hb4; exact bel_eqv ((hb2.mono (by omega)).alloc (by omega) _) rfl rfl rfl rfl)
        have hw5 := (HWW.out.bel (by rw [hzN]; exact hb24)).set (g := gt) (by simp) 1 (.slice A4 L2 c4)
        rw [← HES2.out] at hO5
        go_wp2_with fail
        go_roundw
        case rel => exact ⟨m + 1, .slice A4 L2 c4, by omega, by go_num, hB5, hO5, hw5⟩
        case measure => simp [intOf]; omega
    · obtain rfl : m = ne := by omega
      have hdec : decide ((m : Int) < (m : Int)) = false := decide_eq_false (by omega)
      have hTK : es.take m = es := by rw [← HE.out.1, List.take_length]
      rw [hTK] at hO
      have hR1' := hwr.blk hR1N (by simp; omega)
      obtain ⟨k0, k1, k2, k3⟩ := blkA hB
      obtain ⟨r0, r1, r2, r3⟩ := blkA hR1'
      have hbl : Below w.heap.size w wr := hbNN.trans (hwr.below (fun g hg => by simp at hg; omega) hbNN.size)
      obtain ⟨Av, cv, hv, _⟩ := hO.shape
      obtain ⟨Lv, hLv⟩ : ∃ Lv, es.length = Lv := ⟨_, rfl⟩
      rw [hLv] at hv
      subst hv
      have hbl2 := (hbl.setCell (p := ⟨w.heap.size + 1, 0, none⟩) (by show w.heap.size ≤ w.heap.size + 1; omega) (.slice A2 nn c2)).setCell (p := ⟨w.heap.size + 1, 1, none⟩) (by show w.heap.size ≤ w.heap.size + 1; omega) (.slice Av Lv cv)
      have hO2 := (hO.set (p := ⟨w.heap.size + 1, 0, none⟩) (by show w.heap.size + 1 < gt + 1; omega) (.slice A2 nn c2)).set (p := ⟨w.heap.size + 1, 1, none⟩) (by show w.heap.size + 1 < gt + 1; omega) (.slice Av Lv cv)
      have hN1 : Rd (heapF wr) 1 A2 nn (ss.map Value.string) := (hRX.cle hwr.cle).heap (sat_hx wr [gt])
      have hNb : ∀ a, A2 = some a → 0 < nn → a.block ≠ w.heap.size + 1 := fun a ha _ => by have := (hAb a ha).1; omega
      have hN2 : Rd (heapF ((wr.setCell ⟨w.heap.size + 1, 0, none⟩ (.slice A2 nn c2)).setCell ⟨w.heap.size + 1, 1, none⟩ (.slice Av Lv cv))) 1 A2 nn (ss.map Value.string) :=
        rd_same (rd_same hN1 fun h0 a ha => Below.heap_setCell wr ⟨w.heap.size + 1, 0, none⟩ _ _ (hNb a ha h0)) fun h0 a ha => Below.heap_setCell _ ⟨w.heap.size + 1, 1, none⟩ _ _ (hNb a ha h0)
      have HFIN := Lib.hid (And.intro hbl2 (And.intro hO2 hN2))
      clear hbl2 hO2 hN2 hN1 hTK hLv hR1' hB hO hwr
      go_wp2_with fail
      exact bodyPost_ret (v := .agg #[.slice A2 nn c2, .slice Av Lv cv]) (by simp [results, Try.results17, go_sem, k0, k1, r0, r1]) rfl ⟨A2, c2, .slice Av Lv cv, gt + 1, by rw [HSL.out], by rw [HSL.out]; exact hc2, by rw [HSL.out]; exact HFIN.out.2.2, HFIN.out.2.1, by omega, fun h0 a ha => ⟨by have := (hAb a ha).1; omega, by have := (hAb a ha).2; rw [HGT.out]; omega⟩, HFIN.out.1⟩
end Go.Proofs.Ytdbbooibkiicnaa
