/- Walks of the pile's add: those that move a tree. -/
import Derived.Test.YtdbbooibkiicnaaAddX
set_option linter.unusedVariables false
set_option linter.unusedSimpArgs false
namespace Go.Proofs.Ytdbbooibkiicnaa
open Go.RowKit
attribute [local go_sem ↓] Go.wp_at_zero Go.wp_at_succ
set_option maxRecDepth 100000 in
set_option maxHeartbeats 4000000 in
theorem add_20 {F : Fz} {w0 w : World} (hF : Sat F w) (hw : w0.heap.size ≤ w.heap.size) (t : Tr) (f r : List Tr) (hs : totT (t :: f) + totT (r) ≤ 900) (A A' : Option Addr) (c c' : Nat)
    (hf : OwnR F w w0.heap.size (.slice A (f.length + 1) c) (memL (t :: f))) (hr : OwnR F w w0.heap.size (.slice A' (r.length) c') (memL (r))) (hap : Apart (.slice A (f.length + 1) c) (.slice A' (r.length) c')) (arg : Nat) (harg : arg ≤ 3000) :
    Calls Try.prog 71 #[.agg #[.slice A (f.length + 1) c, .slice A' (r.length) c'], .int .i64 (20 : Int), .int .i64 (arg : Int)] w (RetA F w0 w (f, .un (ndK 19) t :: r)) := by
  obtain ⟨N, hN⟩ : ∃ N, N = (w.alloc (.cells #[.slice A (f.length + 1) c, .slice A' (r.length) c'] 77)).alloc (.cells #[.slice none 0 0, .slice none 0 0] 77) := ⟨_, rfl⟩
  have hbN : Below w0.heap.size w N := hN ▸ (((Below.refl _ _).alloc hw _).alloc (by simp; omega) _)
  have hFN : Sat F N := hN ▸ ((hF.alloc _).alloc _)
  have hfN : OwnR F N w0.heap.size (.slice A (f.length + 1) c) (memL (t :: f)) := hN ▸ ((hf.alloc _).alloc _)
  have hrN : OwnR F N w0.heap.size (.slice A' (r.length) c') (memL (r)) := hN ▸ ((hr.alloc _).alloc _)
  have hBN : Blk N w.heap.size 77 #[.slice A (f.length + 1) c, .slice A' (r.length) c'] := hN ▸ ((Blk.new _ _ _).alloc _)
  have hRN : Blk N (w.heap.size + 1) 77 #[.slice none 0 0, .slice none 0 0] := hN ▸ (Blk.new2 _ _ _ _)
  have hzN : N.heap.size = w.heap.size + 2 := by rw [hN]; simp
  have hlr := fun g h => (hr.lt g h).2
  have hlf := fun g h => (hf.lt g h).2
  have hg0 : F w.heap.size = none := hF.none_ (Nat.le_refl _)
  have hg1 : F (w.heap.size + 1) = none := hF.none_ (Nat.le_succ _)
  (try simp only [totT_cons] at hs)
  have HG0 := Lib.hid hg0
  have HG1 := Lib.hid hg1
  have HN := Lib.hid hN
  clear hN hf hr hg0 hg1
  have hm := hfN
  rw [memL_cons] at hm
  obtain ⟨he0, hcc, xs, hrd0, hvx⟩ := hm.rd2
  clear he0
  obtain ⟨Ai, ci, hci, hNi, hxi⟩ := hvx.at_ f.length (by rw [List.length_append, length_memL]; simp)
  have hgl : (memL f ++ [t.flat 0])[f.length]'(by rw [List.length_append, length_memL]; simp) = t.flat 0 := by
    rw [List.getElem_append_right (by rw [length_memL]; exact Nat.le_refl _)]
    simp [length_memL]
  rw [hgl] at hci hNi hxi
  obtain ⟨ad, u, had, hu, hcell⟩ := hrd0.at1 (k := f.length) (by omega)
  rw [hxi] at hu
  injection hu with hu
  subst hu
  subst had
  have hz0 := (sat_heapF N).cell hcell
  have hzl := (sat_heapF N).clt hcell
  have hcut := fun (X : World) (h : OwnR F X w0.heap.size (.slice (some ad) (f.length + 1) c) (memL (t :: f))) => h.cut (k := f.length) (by omega)
  have htk : (memL (t :: f)).take f.length = memL f := by rw [memL_cons, List.take_left' (length_memL _)]
  have HO := Lib.hid (fun (X : World) (h : Sat F X) => over_w h (ndK 19) none 0 0 (t.flat 0) [] (by rw [Tr.length_flat]; omega) (by simp) Ai none (t.flat 0).length 0 ci 0 hNi (NodesF.nil _ _) (fun n hn => by cases hn))
  have HOV := Lib.hid (over_un (ndK 19) t)
  have HCUT := Lib.hid (fun (X : World) (G : Fz) (h : OwnR G X w0.heap.size (.slice (some ad) (f.length + 1) c) (memL (t :: f))) => (htk ▸ h.cut (k := f.length) (by omega) : OwnR G X w0.heap.size (.slice (some ad) f.length c) (memL f)))
  have hln : (memL r).length + 1 ≤ 1000000 := by have := totT_len r; rw [length_memL]; omega
  obtain ⟨k0, k1, k2, k3⟩ := blk2 hBN
  obtain ⟨q0, q1, q2, q3⟩ := blk2 hRN
  clear hm hgl hxi htk
  have hk0 : (0 : Int) ≤ (f.length : Int) := by omega
  have hk1 : (f.length : Int) < (f.length : Int) + 1 := by omega
  have hk2 : (f.length : Int) ≤ (c : Int) := by omega
  have HMEM : Hid (memL r ++ [overL (ndK 19) (t.flat 0) []] = memL (.un (ndK 19) t :: r)) := Lib.hid (by rw [memL_cons, over_un])
  have hgl : w.heap.size < N.heap.size := by omega
  have hfl : f.length ≤ 900 := by have := totT_len f; omega
  go_enter Try.func71, Try.ntmps71
  go_wp2_with fail
  rw [← HN.out]
  go_region_law (first
      | (go_simp; go_at_call 56; refine (HO.out _ (by first | exact hFN.below hb1 | exact hFN)).mono ?_; rintro e w2 ⟨A2, c2, F2, rfl, hc2, hN2, hb2', hF2, hle2'⟩; have hb2 : Below N.heap.size N w2 := (by refine bel_trans ?_ hb2'; first | exact bel_eqv hb1 rfl rfl rfl rfl | exact bel_eqv (Below.refl _ N) rfl rfl rfl rfl); have hle2 : Fle N F F2 := hle2'.old (by first | exact hb1.size | exact Nat.le_refl _); have hs2 := hb2.size; have hg2l : w.heap.size < w2.heap.size := (by omega); obtain ⟨k0, k1, k2, k3⟩ := blk2 (hBN.call hb2); obtain ⟨q0, q1, q2, q3⟩ := blk2 (hRN.call hb2); have hz := (hb2.cell (p := ad.add f.length) hzl).trans hz0)
      | ((refine step_allR rfl (.tmp 137) (.tmp 145) (by rfl) (F := F2) (B := w0.heap.size) (((hrN.le hle2).call hb2).alloc _) (hF2.alloc _) (by rfl) (some ⟨_, 0, none⟩) 1 _ [overL (ndK 19) (t.flat 0) []] [.slice A2 (overL (ndK 19) (t.flat 0) []).length c2] (by rfl) (sat_heapF _) (rd_one (Blk.new w2 _ _)) (RowsV.one hc2 hN2) hln (by simp; have := hbN.size; omega) ?_; intro v4 w4 hO4 hF4 hb4 hg4' hat4; rw [HMEM.out] at hO4; obtain ⟨A4, c4, hv4, _⟩ := hO4.shape; rw [length_memL] at hv4; subst hv4; have hg4 : (w2.alloc (.cells #[.slice A2 (overL (ndK 19) (t.flat 0) []).length c2] 23)).grownBy w4 _ := gb_src hg4' rfl rfl rfl rfl; have hBw := ((hBN.call hb2).alloc _).grown hg4 (fun e => by have := hlr _ e.symm; omega); have hRw := ((hRN.call hb2).alloc _).grown hg4 (fun e => by have := hlr _ e.symm; omega); obtain ⟨k0, k1, k2, k3⟩ := blk2 hBw; obtain ⟨q0, q1, q2, q3⟩ := blk2 hRw; have hFr := (((hfN.le hle2).call hb2).alloc _).kept hg4 hap.symm.or; have hb4N : Below w0.heap.size w w4 := (by refine Below.trans ?_ hb4; exact bel_eqv ((hbN.trans (hb2.mono (Nat.le_trans hw hbN.size))).alloc (Nat.le_trans (Nat.le_trans hw hbN.size) hb2.size) _) rfl rfl rfl rfl))))
  all_goals go_wp2_with fail
  all_goals
    have hnn : ∀ b, (Value.slice A4 (r.length + 1) c4).ownBlock = some b → b ≠ w.heap.size ∧ b ≠ w.heap.size + 1 := (fun g h => by rcases hat4 with q | q; (· have q2 := h.symm.trans q; have := hlr g q2.symm; omega); (· have q2 := h.symm.trans q; simp at q2; omega))
    have hnc : ∀ b, (Value.slice (some ad) (f.length) c).ownBlock = some b → b ≠ w.heap.size ∧ b ≠ w.heap.size + 1 := (fun g h => by have := hlf g (by rw [own_len]; exact h); omega)
    have hrn := hO4.setFar (a := ⟨w.heap.size, 1, none⟩) (fun e => (hnn _ e).1 rfl) (.slice A4 (r.length + 1) c4)
    have hrc := (HCUT.out _ _ hFr).setFar (a := ⟨w.heap.size, 1, none⟩) (fun e => (hnc _ e).1 rfl) (.slice A4 (r.length + 1) c4)
    have hf2 := hF4.setCell (p := ⟨w.heap.size, 1, none⟩) ((hle2.2 _ (by omega)).trans HG0.out) (.slice A4 (r.length + 1) c4)
    have hbb := hb4N.setCell (p := ⟨w.heap.size, 1, none⟩) hw (.slice A4 (r.length + 1) c4)
    have hap4 : Apart (.slice (some ad) (f.length) c) (.slice A4 (r.length + 1) c4) := ((hap.symm.push (fun g h => by have := hlf g h; simp; omega) hat4).len).symm
    exact bodyPost_ret (v := .agg #[.slice (some ad) (f.length) c, .slice A4 (r.length + 1) c4]) (by simp [results, Try.results71, go_sem, k0, k1, q0, q1]) rfl ⟨_, _, _, _, _, rfl, fin3 hrc hrn hap4 hbb hf2 (oldF hle2 (Nat.le_trans hw hbN.size)) w.heap.size hw ((hle2.2 _ (by omega)).trans HG0.out) ((hle2.2 _ (by omega)).trans HG1.out) hnc hnn _ _ _ _⟩
end Go.Proofs.Ytdbbooibkiicnaa
