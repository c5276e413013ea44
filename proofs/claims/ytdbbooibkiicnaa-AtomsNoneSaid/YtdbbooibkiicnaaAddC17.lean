/- Walks of the pile's add: those that move a tree. -/
import Derived.Test.YtdbbooibkiicnaaAddX
set_option linter.unusedVariables false
set_option linter.unusedSimpArgs false
namespace Go.Proofs.Ytdbbooibkiicnaa
open Go.RowKit
attribute [local go_sem ↓] Go.wp_at_zero Go.wp_at_succ
set_option maxRecDepth 100000 in
set_option maxHeartbeats 4000000 in
theorem add_17 {F : Fz} {w0 w : World} (hF : Sat F w) (hw : w0.heap.size ≤ w.heap.size) (t : Tr) (f r : List Tr) (hs : totT (f) + totT (t :: r) ≤ 900) (A A' : Option Addr) (c c' : Nat)
    (hf : OwnR F w w0.heap.size (.slice A (f.length) c) (memL (f))) (hr : OwnR F w w0.heap.size (.slice A' (r.length + 1) c') (memL (t :: r))) (hap : Apart (.slice A (f.length) c) (.slice A' (r.length + 1) c')) (arg : Nat) (harg : arg ≤ 3000) :
    Calls Try.prog 71 #[.agg #[.slice A (f.length) c, .slice A' (r.length + 1) c'], .int .i64 (17 : Int), .int .i64 (arg : Int)] w (RetA F w0 w (.un (ndS 17 (spanLo arg) (spanHi arg)) t :: f, r)) := by
  obtain ⟨N, hN⟩ : ∃ N, N = (w.alloc (.cells #[.slice A (f.length) c, .slice A' (r.length + 1) c'] 77)).alloc (.cells #[.slice none 0 0, .slice none 0 0] 77) := ⟨_, rfl⟩
  have hbN : Below w0.heap.size w N := hN ▸ (((Below.refl _ _).alloc hw _).alloc (by simp; omega) _)
  have hFN : Sat F N := hN ▸ ((hF.alloc _).alloc _)
  have hfN : OwnR F N w0.heap.size (.slice A (f.length) c) (memL (f)) := hN ▸ ((hf.alloc _).alloc _)
  have hrN : OwnR F N w0.heap.size (.slice A' (r.length + 1) c') (memL (t :: r)) := hN ▸ ((hr.alloc _).alloc _)
  have hBN : Blk N w.heap.size 77 #[.slice A (f.length) c, .slice A' (r.length + 1) c'] := hN ▸ ((Blk.new _ _ _).alloc _)
  have hRN : Blk N (w.heap.size + 1) 77 #[.slice none 0 0, .slice none 0 0] := hN ▸ (Blk.new2 _ _ _ _)
  have hzN : N.heap.size = w.heap.size + 2 := by rw [hN]; simp
  have hlr := fun g h => (hr.lt g h).2
  have hlf := fun g h => (hf.lt g h).2
  have hg0 : F w.heap.size = none := hF.none_ (Nat.le_refl _)
  have hg1 : F (w.heap.size + 1) = none := hF.none_ (Nat.le_succ _)
  (try simp only [totT_cons] at hs)
  have HG0 := Lib.hid hg0
  have HG1 := Lib.hid hg1
  have HN := Lib.hid hN
  clear hN hf hr hg0 hg1
  have hm := hrN
  rw [memL_cons] at hm
  obtain ⟨he0, hcc, xs, hrd0, hvx⟩ := hm.rd2
  clear he0
  obtain ⟨Ai, ci, hci, hNi, hxi⟩ := hvx.at_ r.length (by rw [List.length_append, length_memL]; simp)
  have hgl : (memL r ++ [t.flat 0])[r.length]'(by rw [List.length_append, length_memL]; simp) = t.flat 0 := by
    rw [List.getElem_append_right (by rw [length_memL]; exact Nat.le_refl _)]
    simp [length_memL]
  rw [hgl] at hci hNi hxi
  obtain ⟨ad, u, had, hu, hcell⟩ := hrd0.at1 (k := r.length) (by omega)
  rw [hxi] at hu
  injection hu with hu
  subst hu
  subst had
  have hz0 := (sat_heapF N).cell hcell
  have hzl := (sat_heapF N).clt hcell
  have hcut := fun (X : World) (h : OwnR F X w0.heap.size (.slice (some ad) (r.length + 1) c') (memL (t :: r))) => h.cut (k := r.length) (by omega)
  have htk : (memL (t :: r)).take r.length = memL r := by rw [memL_cons, List.take_left' (length_memL _)]
  have HO := Lib.hid (fun (X : World) (h : Sat F X) => over_w h (ndS 17 (spanLo arg) (spanHi arg)) none 0 0 (t.flat 0) [] (by rw [Tr.length_flat]; omega) (by simp) Ai none (t.flat 0).length 0 ci 0 hNi (NodesF.nil _ _) (fun n hn => by cases hn))
  have HOV := Lib.hid (over_un (ndS 17 (spanLo arg) (spanHi arg)) t)
  have HCUT := Lib.hid (fun (X : World) (G : Fz) (h : OwnR G X w0.heap.size (.slice (some ad) (r.length + 1) c') (memL (t :: r))) => (htk ▸ h.cut (k := r.length) (by omega) : OwnR G X w0.heap.size (.slice (some ad) r.length c') (memL r)))
  have hln : (memL f).length + 1 ≤ 1000000 := by have := totT_len f; rw [length_memL]; omega
  obtain ⟨k0, k1, k2, k3⟩ := blk2 hBN
  obtain ⟨q0, q1, q2, q3⟩ := blk2 hRN
  clear hm hgl hxi htk
  have hk0 : (0 : Int) ≤ (r.length : Int) := by omega
  have hk1 : (r.length : Int) < (r.length : Int) + 1 := by omega
  have hk2 : (r.length : Int) ≤ (c' : Int) := by omega
  have HMEM : Hid (memL f ++ [overL (ndS 17 (spanLo arg) (spanHi arg)) (t.flat 0) []] = memL (.un (ndS 17 (spanLo arg) (spanHi arg)) t :: f)) := Lib.hid (by rw [memL_cons, over_un])
  have hgl : w.heap.size < N.heap.size := by omega
  have hfl : r.length ≤ 900 := by have := totT_len r; omega
  have hwa : IntKind.i64.wrap 33 = 33 := by decide
  have hwb : IntKind.i64.wrap 17 = 17 := by decide
  have hwc : IntKind.i64.wrap (33 - 16) = 17 := by decide
  go_enter Try.func71, Try.ntmps71
  go_wp2_with fail
  rw [← HN.out]
  go_region_law (first
      | (go_simp; go_at_call 109; refine (span_w (arg : Int) (by omega) (by omega) _).mono ?_; rintro e w1 ⟨rfl, hb1'⟩; have hb1 : Below N.heap.size N w1 := (by refine bel_trans ?_ hb1'; exact bel_eqv (Below.refl _ N) rfl rfl rfl rfl); have hs1 := hb1.size; have hg1l : w.heap.size < w1.heap.size := (by omega); obtain ⟨k0, k1, k2, k3⟩ := blk2 (hBN.call hb1); obtain ⟨q0, q1, q2, q3⟩ := blk2 (hRN.call hb1); have hz := (hb1.cell (p := ad.add r.length) hzl).trans hz0)
      | (go_simp; go_at_call 56; refine (HO.out _ (by first | exact hFN.below hb1 | exact hFN)).mono ?_; rintro e w2 ⟨A2, c2, F2, rfl, hc2, hN2, hb2', hF2, hle2'⟩; have hb2 : Below N.heap.size N w2 := (by refine bel_trans ?_ hb2'; first | exact bel_eqv hb1 rfl rfl rfl rfl | exact bel_eqv (Below.refl _ N) rfl rfl rfl rfl); have hle2 : Fle N F F2 := hle2'.old (by first | exact hb1.size | exact Nat.le_refl _); have hs2 := hb2.size; have hg2l : w.heap.size < w2.heap.size := (by omega); obtain ⟨k0, k1, k2, k3⟩ := blk2 (hBN.call hb2); obtain ⟨q0, q1, q2, q3⟩ := blk2 (hRN.call hb2); have hz := (hb2.cell (p := ad.add r.length) hzl).trans hz0)
      | ((refine step_allR rfl (.tmp 96) (.tmp 109) (by rfl) (F := F2) (B := w0.heap.size) (((hfN.le hle2).call hb2).alloc _) (hF2.alloc _) (by rfl) (some ⟨_, 0, none⟩) 1 _ [overL (ndS 17 (spanLo arg) (spanHi arg)) (t.flat 0) []] [.slice A2 (overL (ndS 17 (spanLo arg) (spanHi arg)) (t.flat 0) []).length c2] (by rfl) (sat_heapF _) (rd_one (Blk.new w2 _ _)) (RowsV.one hc2 hN2) hln (by simp; have := hbN.size; omega) ?_; intro v4 w4 hO4 hF4 hb4 hg4' hat4; rw [HMEM.out] at hO4; obtain ⟨A4, c4, hv4, _⟩ := hO4.shape; rw [length_memL] at hv4; subst hv4; have hg4 : (w2.alloc (.cells #[.slice A2 (overL (ndS 17 (spanLo arg) (spanHi arg)) (t.flat 0) []).length c2] 23)).grownBy w4 _ := gb_src hg4' rfl rfl rfl rfl; have hBw := ((hBN.call hb2).alloc _).grown hg4 (fun e => by have := hlf _ e.symm; omega); have hRw := ((hRN.call hb2).alloc _).grown hg4 (fun e => by have := hlf _ e.symm; omega); obtain ⟨k0, k1, k2, k3⟩ := blk2 hBw; obtain ⟨q0, q1, q2, q3⟩ := blk2 hRw; have hFr := (((hrN.le hle2).call hb2).alloc _).kept hg4 hap.or; have hb4N : Below w0.heap.size w w4 := (by refine Below.trans ?_ hb4; exact bel_eqv ((hbN.trans (hb2.mono (Nat.le_trans hw hbN.size))).alloc (Nat.le_trans (Nat.le_trans hw hbN.size) hb2.size) _) rfl rfl rfl rfl))))
  all_goals go_wp2_with fail
  all_goals
    have hnn : ∀ b, (Value.slice A4 (f.length + 1) c4).ownBlock = some b → b ≠ w.heap.size ∧ b ≠ w.heap.size + 1 := (fun g h => by rcases hat4 with q | q; (· have q2 := h.symm.trans q; have := hlf g q2.symm; omega); (· have q2 := h.symm.trans q; simp at q2; omega))
    have hnc : ∀ b, (Value.slice (some ad) (r.length) c').ownBlock = some b → b ≠ w.heap.size ∧ b ≠ w.heap.size + 1 := (fun g h => by have := hlr g (by rw [own_len]; exact h); omega)
    have hrn := hO4.setFar (a := ⟨w.heap.size, 0, none⟩) (fun e => (hnn _ e).1 rfl) (.slice A4 (f.length + 1) c4)
    have hrc := (HCUT.out _ _ hFr).setFar (a := ⟨w.heap.size, 0, none⟩) (fun e => (hnc _ e).1 rfl) (.slice A4 (f.length + 1) c4)
    have hf2 := hF4.setCell (p := ⟨w.heap.size, 0, none⟩) ((hle2.2 _ (by omega)).trans HG0.out) (.slice A4 (f.length + 1) c4)
    have hbb := hb4N.setCell (p := ⟨w.heap.size, 0, none⟩) hw (.slice A4 (f.length + 1) c4)
    have hap4 : Apart (.slice A4 (f.length + 1) c4) (.slice (some ad) (r.length) c') := ((hap.push (fun g h => by have := hlr g h; simp; omega) hat4).len)
    exact bodyPost_ret (v := .agg #[.slice A4 (f.length + 1) c4, .slice (some ad) (r.length) c']) (by simp [results, Try.results71, go_sem, k0, k1, q0, q1]) rfl ⟨_, _, _, _, _, rfl, fin3 hrn hrc hap4 hbb hf2 (oldF hle2 (Nat.le_trans hw hbN.size)) w.heap.size hw ((hle2.2 _ (by omega)).trans HG0.out) ((hle2.2 _ (by omega)).trans HG1.out) hnn hnc _ _ _ _⟩
end Go.Proofs.Ytdbbooibkiicnaa
