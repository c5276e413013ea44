/- Walks of the pile's add: those that push a leaf. -/
import Derived.Test.YtdbbooibkiicnaaAddX
set_option linter.unusedVariables false
set_option linter.unusedSimpArgs false
namespace Go.Proofs.Ytdbbooibkiicnaa
open Go.RowKit
attribute [local go_sem ↓] Go.wp_at_zero Go.wp_at_succ
/-- A list of one node without kids, in a block of its own, is frozen. -/
theorem freeze_one {F : Fz} {w : World} (hF : Sat F w) {g : Nat} {k : Int} {nm : ByteArray} (h : Blk w g 29 #[.int .i64 k, .string nm, .int .i64 0, .int .i64 0, .slice none 0 0]) :
    ∃ o, Sat (F.put g o) w ∧ NodesF (F.put g o) (some ⟨g, 0, none⟩) 1 [⟨k, nm, 0, 0, []⟩] := by
  obtain ⟨o, h1, h2⟩ := (BlkL.of (xs := ndVals ⟨k, nm, 0, 0, []⟩ none 0) h).freeze hF (n := 1) (size := 5) rfl
  exact ⟨o, h1, (NodesV.one (n := ⟨k, nm, 0, 0, []⟩) (A := none) (c := 0) (Nat.le_refl _) Rd.nil).toF h2⟩
set_option maxRecDepth 100000 in
set_option maxHeartbeats 4000000 in
theorem add_18 {F : Fz} {w0 w : World} (hF : Sat F w) (hw : w0.heap.size ≤ w.heap.size) (f r : List Tr) (hs : totT f + totT r ≤ 900) (A A' : Option Addr) (c c' : Nat)
    (hf : OwnR F w w0.heap.size (.slice A f.length c) (memL f)) (hr : OwnR F w w0.heap.size (.slice A' r.length c') (memL r)) (hap : Apart (.slice A f.length c) (.slice A' r.length c')) (arg : Nat) (harg : arg ≤ 3000) :
    Calls Try.prog 71 #[.agg #[.slice A f.length c, .slice A' r.length c'], .int .i64 (18 : Int), .int .i64 (arg : Int)] w (RetA F w0 w (f, .leaf (ndK 18) :: r)) := by
  obtain ⟨N, hN⟩ : ∃ N, N = (w.alloc (.cells #[.slice A f.length c, .slice A' r.length c'] 77)).alloc (.cells #[.slice none 0 0, .slice none 0 0] 77) := ⟨_, rfl⟩
  have hbN : Below w0.heap.size w N := hN ▸ (((Below.refl _ _).alloc hw _).alloc (by simp; omega) _)
  have hFN : Sat F N := hN ▸ ((hF.alloc _).alloc _)
  have hfN : OwnR F N w0.heap.size (.slice A f.length c) (memL f) := hN ▸ ((hf.alloc _).alloc _)
  have hrN : OwnR F N w0.heap.size (.slice A' r.length c') (memL r) := hN ▸ ((hr.alloc _).alloc _)
  have hBN : Blk N w.heap.size 77 #[.slice A f.length c, .slice A' r.length c'] := hN ▸ ((Blk.new _ _ _).alloc _)
  have hRN : Blk N (w.heap.size + 1) 77 #[.slice none 0 0, .slice none 0 0] := hN ▸ (Blk.new2 _ _ _ _)
  have hzN : N.heap.size = w.heap.size + 2 := by rw [hN]; simp
  have hlr := fun g h => (hr.lt g h).2
  have hlf := fun g h => (hf.lt g h).2
  have hg0 : F w.heap.size = none := hF.none_ (Nat.le_refl _)
  have hg1 : F (w.heap.size + 1) = none := hF.none_ (Nat.le_succ _)
  have HG0 := Lib.hid hg0
  have HG1 := Lib.hid hg1
  have HN := Lib.hid hN
  clear hN hf hr hg0 hg1
  obtain ⟨o, hS, hNo⟩ := freeze_one (hFN.alloc _) (Blk.new N 29 #[.int .i64 18, .string ⟨#[]⟩, .int .i64 0, .int .i64 0, .slice none 0 0])
  rw [hzN] at hS hNo
  have hle : Fle w0 F (F.put (w.heap.size + 2) o) := Fle.put o (hFN.none_ (by omega)) (by omega)
  have hput : ∀ g, g < w.heap.size + 2 → (F.put (w.heap.size + 2) o) g = F g := fun g h => by unfold Fz.put; rw [if_neg (by omega)]
  generalize hF2e : F.put (w.heap.size + 2) o = F2 at *
  have hB3 := Blk.new2 N (.cells #[.int .i64 18, .string ⟨#[]⟩, .int .i64 0, .int .i64 0, .slice none 0 0] 29) 23 #[.slice (some ⟨w.heap.size + 2, 0, none⟩) 1 1]
  rw [hzN] at hB3
  have hrd := rd_one hB3
  have hrM := ((hrN.alloc (.cells #[.int .i64 18, .string ⟨#[]⟩, .int .i64 0, .int .i64 0, .slice none 0 0] 29)).alloc (.cells #[.slice (some ⟨w.heap.size + 2, 0, none⟩) 1 1] 23)).le2 hle.cle (fun g h => hput g (by have := hlr g h; omega))
  have hfM := ((hfN.alloc (.cells #[.int .i64 18, .string ⟨#[]⟩, .int .i64 0, .int .i64 0, .slice none 0 0] 29)).alloc (.cells #[.slice (some ⟨w.heap.size + 2, 0, none⟩) 1 1] 23)).le2 hle.cle (fun g h => hput g (by have := hlf g h; omega))
  have hBM := (hBN.alloc (.cells #[.int .i64 18, .string ⟨#[]⟩, .int .i64 0, .int .i64 0, .slice none 0 0] 29)).alloc (.cells #[.slice (some ⟨w.heap.size + 2, 0, none⟩) 1 1] 23)
  have hRM := (hRN.alloc (.cells #[.int .i64 18, .string ⟨#[]⟩, .int .i64 0, .int .i64 0, .slice none 0 0] 29)).alloc (.cells #[.slice (some ⟨w.heap.size + 2, 0, none⟩) 1 1] 23)
  have hbM := (hbN.alloc (o := .cells #[.int .i64 18, .string ⟨#[]⟩, .int .i64 0, .int .i64 0, .slice none 0 0] 29) (Nat.le_trans hw hbN.size)).alloc (o := .cells #[.slice (some ⟨w.heap.size + 2, 0, none⟩) 1 1] 23) (by simp; have := hbN.size; omega)
  have hln : (memL r).length + 1 ≤ 1000000 := by have := totT_len r; rw [length_memL]; omega
  have HMEM : Hid (memL r ++ [[ndK 18]] = memL (.leaf (ndK 18) :: r)) := Lib.hid (memL_cons (.leaf (ndK 18)) r).symm
  have HF2 := Lib.hid hF2e
  clear hF2e
  go_enter Try.func71, Try.ntmps71
  go_wp2_with (at_builtin; rw [← HN.out]; refine wpList_allR rfl (.tmp 121) (.tmp 124) rfl (F := F2) hrM (hS.alloc _) (by rfl) (some ⟨w.heap.size + 2 + 1, 0, none⟩) 1 1 [[ndK 18]] [.slice (some ⟨w.heap.size + 2, 0, none⟩) 1 1] (by rfl) (sat_heapF _) hrd (RowsV.one (Nat.le_refl _) hNo) hln (by simp; omega) ?_; intro v2 w2 hO2 hF2 hb2 hg2 hat2; rw [HMEM.out] at hO2; obtain ⟨A2, c2, hv2, _⟩ := hO2.shape; rw [length_memL] at hv2; subst hv2; obtain ⟨k0, k1, k2, k3⟩ := blk2 (hBM.grown hg2 (fun e => by have := hlr _ e.symm; omega)); obtain ⟨q0, q1, q2, q3⟩ := blk2 (hRM.grown hg2 (fun e => by have := hlr _ e.symm; omega)))
  all_goals exact bodyPost_ret (v := .agg #[.slice A (f.length) c, .slice A2 (r.length + 1) c2]) (by simp [results, Try.results71, go_sem, k0, k1, q0, q1]) rfl ⟨_, _, _, _, _, rfl, fin3 (hfM.kept hg2 hap.symm.or) hO2 (hap.symm.push (fun g h => by have := hlf g h; simp; omega) hat2).symm (hbM.trans hb2) hF2 hle w.heap.size hw ((hput _ (by omega)).trans HG0.out) ((hput _ (by omega)).trans HG1.out) (fun g h => by have := hlf g h; omega) (fun g h => by rcases hat2 with e | e <;> rw [h] at e; (· have := hlr g e.symm; omega); (· simp at e; omega)) _ _ _ _⟩
set_option maxRecDepth 100000 in
set_option maxHeartbeats 4000000 in
theorem add_19 {F : Fz} {w0 w : World} (hF : Sat F w) (hw : w0.heap.size ≤ w.heap.size) (f r : List Tr) (hs : totT f + totT r ≤ 900) (A A' : Option Addr) (c c' : Nat)
    (hf : OwnR F w w0.heap.size (.slice A f.length c) (memL f)) (hr : OwnR F w w0.heap.size (.slice A' r.length c') (memL r)) (hap : Apart (.slice A f.length c) (.slice A' r.length c')) (arg : Nat) (harg : arg ≤ 3000) :
    Calls Try.prog 71 #[.agg #[.slice A f.length c, .slice A' r.length c'], .int .i64 (19 : Int), .int .i64 (arg : Int)] w (RetA F w0 w (f, .leaf (ndK 18) :: r)) := by
  obtain ⟨N, hN⟩ : ∃ N, N = (w.alloc (.cells #[.slice A f.length c, .slice A' r.length c'] 77)).alloc (.cells #[.slice none 0 0, .slice none 0 0] 77) := ⟨_, rfl⟩
  have hbN : Below w0.heap.size w N := hN ▸ (((Below.refl _ _).alloc hw _).alloc (by simp; omega) _)
  have hFN : Sat F N := hN ▸ ((hF.alloc _).alloc _)
  have hfN : OwnR F N w0.heap.size (.slice A f.length c) (memL f) := hN ▸ ((hf.alloc _).alloc _)
  have hrN : OwnR F N w0.heap.size (.slice A' r.length c') (memL r) := hN ▸ ((hr.alloc _).alloc _)
  have hBN : Blk N w.heap.size 77 #[.slice A f.length c, .slice A' r.length c'] := hN ▸ ((Blk.new _ _ _).alloc _)
  have hRN : Blk N (w.heap.size + 1) 77 #[.slice none 0 0, .slice none 0 0] := hN ▸ (Blk.new2 _ _ _ _)
  have hzN : N.heap.size = w.heap.size + 2 := by rw [hN]; simp
  have hlr := fun g h => (hr.lt g h).2
  have hlf := fun g h => (hf.lt g h).2
  have hg0 : F w.heap.size = none := hF.none_ (Nat.le_refl _)
  have hg1 : F (w.heap.size + 1) = none := hF.none_ (Nat.le_succ _)
  have HG0 := Lib.hid hg0
  have HG1 := Lib.hid hg1
  have HN := Lib.hid hN
  clear hN hf hr hg0 hg1
  obtain ⟨o, hS, hNo⟩ := freeze_one (hFN.alloc _) (Blk.new N 29 #[.int .i64 18, .string ⟨#[]⟩, .int .i64 0, .int .i64 0, .slice none 0 0])
  rw [hzN] at hS hNo
  have hle : Fle w0 F (F.put (w.heap.size + 2) o) := Fle.put o (hFN.none_ (by omega)) (by omega)
  have hput : ∀ g, g < w.heap.size + 2 → (F.put (w.heap.size + 2) o) g = F g := fun g h => by unfold Fz.put; rw [if_neg (by omega)]
  generalize hF2e : F.put (w.heap.size + 2) o = F2 at *
  have hB3 := Blk.new2 N (.cells #[.int .i64 18, .string ⟨#[]⟩, .int .i64 0, .int .i64 0, .slice none 0 0] 29) 23 #[.slice (some ⟨w.heap.size + 2, 0, none⟩) 1 1]
  rw [hzN] at hB3
  have hrd := rd_one hB3
  have hrM := ((hrN.alloc (.cells #[.int .i64 18, .string ⟨#[]⟩, .int .i64 0, .int .i64 0, .slice none 0 0] 29)).alloc (.cells #[.slice (some ⟨w.heap.size + 2, 0, none⟩) 1 1] 23)).le2 hle.cle (fun g h => hput g (by have := hlr g h; omega))
  have hfM := ((hfN.alloc (.cells #[.int .i64 18, .string ⟨#[]⟩, .int .i64 0, .int .i64 0, .slice none 0 0] 29)).alloc (.cells #[.slice (some ⟨w.heap.size + 2, 0, none⟩) 1 1] 23)).le2 hle.cle (fun g h => hput g (by have := hlf g h; omega))
  have hBM := (hBN.alloc (.cells #[.int .i64 18, .string ⟨#[]⟩, .int .i64 0, .int .i64 0, .slice none 0 0] 29)).alloc (.cells #[.slice (some ⟨w.heap.size + 2, 0, none⟩) 1 1] 23)
  have hRM := (hRN.alloc (.cells #[.int .i64 18, .string ⟨#[]⟩, .int .i64 0, .int .i64 0, .slice none 0 0] 29)).alloc (.cells #[.slice (some ⟨w.heap.size + 2, 0, none⟩) 1 1] 23)
  have hbM := (hbN.alloc (o := .cells #[.int .i64 18, .string ⟨#[]⟩, .int .i64 0, .int .i64 0, .slice none 0 0] 29) (Nat.le_trans hw hbN.size)).alloc (o := .cells #[.slice (some ⟨w.heap.size + 2, 0, none⟩) 1 1] 23) (by simp; have := hbN.size; omega)
  have hln : (memL r).length + 1 ≤ 1000000 := by have := totT_len r; rw [length_memL]; omega
  have HMEM : Hid (memL r ++ [[ndK 18]] = memL (.leaf (ndK 18) :: r)) := Lib.hid (memL_cons (.leaf (ndK 18)) r).symm
  have HF2 := Lib.hid hF2e
  clear hF2e
  go_enter Try.func71, Try.ntmps71
  go_wp2_with (at_builtin; rw [← HN.out]; refine wpList_allR rfl (.tmp 121) (.tmp 124) rfl (F := F2) hrM (hS.alloc _) (by rfl) (some ⟨w.heap.size + 2 + 1, 0, none⟩) 1 1 [[ndK 18]] [.slice (some ⟨w.heap.size + 2, 0, none⟩) 1 1] (by rfl) (sat_heapF _) hrd (RowsV.one (Nat.le_refl _) hNo) hln (by simp; omega) ?_; intro v2 w2 hO2 hF2 hb2 hg2 hat2; rw [HMEM.out] at hO2; obtain ⟨A2, c2, hv2, _⟩ := hO2.shape; rw [length_memL] at hv2; subst hv2; obtain ⟨k0, k1, k2, k3⟩ := blk2 (hBM.grown hg2 (fun e => by have := hlr _ e.symm; omega)); obtain ⟨q0, q1, q2, q3⟩ := blk2 (hRM.grown hg2 (fun e => by have := hlr _ e.symm; omega)))
  all_goals exact bodyPost_ret (v := .agg #[.slice A (f.length) c, .slice A2 (r.length + 1) c2]) (by simp [results, Try.results71, go_sem, k0, k1, q0, q1]) rfl ⟨_, _, _, _, _, rfl, fin3 (hfM.kept hg2 hap.symm.or) hO2 (hap.symm.push (fun g h => by have := hlf g h; simp; omega) hat2).symm (hbM.trans hb2) hF2 hle w.heap.size hw ((hput _ (by omega)).trans HG0.out) ((hput _ (by omega)).trans HG1.out) (fun g h => by have := hlf g h; omega) (fun g h => by rcases hat2 with e | e <;> rw [h] at e; (· have := hlr g e.symm; omega); (· simp at e; omega)) _ _ _ _⟩
set_option maxRecDepth 100000 in
set_option maxHeartbeats 4000000 in
theorem add_0_0 {F : Fz} {w0 w : World} (hF : Sat F w) (hw : w0.heap.size ≤ w.heap.size) (f r : List Tr) (hs : totT f + totT r ≤ 900) (A A' : Option Addr) (c c' : Nat)
    (hf : OwnR F w w0.heap.size (.slice A f.length c) (memL f)) (hr : OwnR F w w0.heap.size (.slice A' r.length c') (memL r)) (hap : Apart (.slice A f.length c) (.slice A' r.length c')) (arg : Nat) (harg : arg ≤ 3000) (hm : (arg : Int) % 2 = 0) :
    Calls Try.prog 71 #[.agg #[.slice A f.length c, .slice A' r.length c'], .int .i64 (0 : Int), .int .i64 (arg : Int)] w (RetA F w0 w (.leaf (ndK 1) :: f, r)) := by
  obtain ⟨N, hN⟩ : ∃ N, N = (w.alloc (.cells #[.slice A f.length c, .slice A' r.length c'] 77)).alloc (.cells #[.slice none 0 0, .slice none 0 0] 77) := ⟨_, rfl⟩
  have hbN : Below w0.heap.size w N := hN ▸ (((Below.refl _ _).alloc hw _).alloc (by simp; omega) _)
  have hFN : Sat F N := hN ▸ ((hF.alloc _).alloc _)
  have hfN : OwnR F N w0.heap.size (.slice A f.length c) (memL f) := hN ▸ ((hf.alloc _).alloc _)
  have hrN : OwnR F N w0.heap.size (.slice A' r.length c') (memL r) := hN ▸ ((hr.alloc _).alloc _)
  have hBN : Blk N w.heap.size 77 #[.slice A f.length c, .slice A' r.length c'] := hN ▸ ((Blk.new _ _ _).alloc _)
  have hRN : Blk N (w.heap.size + 1) 77 #[.slice none 0 0, .slice none 0 0] := hN ▸ (Blk.new2 _ _ _ _)
  have hzN : N.heap.size = w.heap.size + 2 := by rw [hN]; simp
  have hlr := fun g h => (hr.lt g h).2
  have hlf := fun g h => (hf.lt g h).2
  have hg0 : F w.heap.size = none := hF.none_ (Nat.le_refl _)
  have hg1 : F (w.heap.size + 1) = none := hF.none_ (Nat.le_succ _)
  have HG0 := Lib.hid hg0
  have HG1 := Lib.hid hg1
  have HN := Lib.hid hN
  clear hN hf hr hg0 hg1
  obtain ⟨o, hS, hNo⟩ := freeze_one (hFN.alloc _) (Blk.new N 29 #[.int .i64 1, .string ⟨#[]⟩, .int .i64 0, .int .i64 0, .slice none 0 0])
  rw [hzN] at hS hNo
  have hle : Fle w0 F (F.put (w.heap.size + 2) o) := Fle.put o (hFN.none_ (by omega)) (by omega)
  have hput : ∀ g, g < w.heap.size + 2 → (F.put (w.heap.size + 2) o) g = F g := fun g h => by unfold Fz.put; rw [if_neg (by omega)]
  generalize hF2e : F.put (w.heap.size + 2) o = F2 at *
  have hB3 := Blk.new2 N (.cells #[.int .i64 1, .string ⟨#[]⟩, .int .i64 0, .int .i64 0, .slice none 0 0] 29) 23 #[.slice (some ⟨w.heap.size + 2, 0, none⟩) 1 1]
  rw [hzN] at hB3
  have hrd := rd_one hB3
  have hrM := ((hrN.alloc (.cells #[.int .i64 1, .string ⟨#[]⟩, .int .i64 0, .int .i64 0, .slice none 0 0] 29)).alloc (.cells #[.slice (some ⟨w.heap.size + 2, 0, none⟩) 1 1] 23)).le2 hle.cle (fun g h => hput g (by have := hlr g h; omega))
  have hfM := ((hfN.alloc (.cells #[.int .i64 1, .string ⟨#[]⟩, .int .i64 0, .int .i64 0, .slice none 0 0] 29)).alloc (.cells #[.slice (some ⟨w.heap.size + 2, 0, none⟩) 1 1] 23)).le2 hle.cle (fun g h => hput g (by have := hlf g h; omega))
  have hBM := (hBN.alloc (.cells #[.int .i64 1, .string ⟨#[]⟩, .int .i64 0, .int .i64 0, .slice none 0 0] 29)).alloc (.cells #[.slice (some ⟨w.heap.size + 2, 0, none⟩) 1 1] 23)
  have hRM := (hRN.alloc (.cells #[.int .i64 1, .string ⟨#[]⟩, .int .i64 0, .int .i64 0, .slice none 0 0] 29)).alloc (.cells #[.slice (some ⟨w.heap.size + 2, 0, none⟩) 1 1] 23)
  have hbM := (hbN.alloc (o := .cells #[.int .i64 1, .string ⟨#[]⟩, .int .i64 0, .int .i64 0, .slice none 0 0] 29) (Nat.le_trans hw hbN.size)).alloc (o := .cells #[.slice (some ⟨w.heap.size + 2, 0, none⟩) 1 1] 23) (by simp; have := hbN.size; omega)
  have hln : (memL f).length + 1 ≤ 1000000 := by have := totT_len f; rw [length_memL]; omega
  have HMEM : Hid (memL f ++ [[ndK 1]] = memL (.leaf (ndK 1) :: f)) := Lib.hid (memL_cons (.leaf (ndK 1)) f).symm
  have HF2 := Lib.hid hF2e
  clear hF2e
  go_enter Try.func71, Try.ntmps71
  go_wp2_with (at_builtin; rw [← HN.out]; refine wpList_allR rfl (.tmp 18) (.tmp 24) rfl (F := F2) hfM (hS.alloc _) (by rfl) (some ⟨w.heap.size + 2 + 1, 0, none⟩) 1 1 [[ndK 1]] [.slice (some ⟨w.heap.size + 2, 0, none⟩) 1 1] (by rfl) (sat_heapF _) hrd (RowsV.one (Nat.le_refl _) hNo) hln (by simp; omega) ?_; intro v2 w2 hO2 hF2 hb2 hg2 hat2; rw [HMEM.out] at hO2; obtain ⟨A2, c2, hv2, _⟩ := hO2.shape; rw [length_memL] at hv2; subst hv2; obtain ⟨k0, k1, k2, k3⟩ := blk2 (hBM.grown hg2 (fun e => by have := hlf _ e.symm; omega)); obtain ⟨q0, q1, q2, q3⟩ := blk2 (hRM.grown hg2 (fun e => by have := hlf _ e.symm; omega)))
  all_goals exact bodyPost_ret (v := .agg #[.slice A2 (f.length + 1) c2, .slice A' (r.length) c']) (by simp [results, Try.results71, go_sem, k0, k1, q0, q1]) rfl ⟨_, _, _, _, _, rfl, fin3 hO2 (hrM.kept hg2 hap.or) (hap.push (fun g h => by have := hlr g h; simp; omega) hat2) (hbM.trans hb2) hF2 hle w.heap.size hw ((hput _ (by omega)).trans HG0.out) ((hput _ (by omega)).trans HG1.out) (fun g h => by rcases hat2 with e | e <;> rw [h] at e; (· have := hlf g e.symm; omega); (· simp at e; omega)) (fun g h => by have := hlr g h; omega) _ _ _ _⟩
set_option maxRecDepth 100000 in
set_option maxHeartbeats 4000000 in
theorem add_0_1 {F : Fz} {w0 w : World} (hF : Sat F w) (hw : w0.heap.size ≤ w.heap.size) (f r : List Tr) (hs : totT f + totT r ≤ 900) (A A' : Option Addr) (c c' : Nat)
    (hf : OwnR F w w0.heap.size (.slice A f.length c) (memL f)) (hr : OwnR F w w0.heap.size (.slice A' r.length c') (memL r)) (hap : Apart (.slice A f.length c) (.slice A' r.length c')) (arg : Nat) (harg : arg ≤ 3000) (hm : (arg : Int) % 2 = 1) :
    Calls Try.prog 71 #[.agg #[.slice A f.length c, .slice A' r.length c'], .int .i64 (0 : Int), .int .i64 (arg : Int)] w (RetA F w0 w (.leaf (ndK 2) :: f, r)) := by
  obtain ⟨N, hN⟩ : ∃ N, N = (w.alloc (.cells #[.slice A f.length c, .slice A' r.length c'] 77)).alloc (.cells #[.slice none 0 0, .slice none 0 0] 77) := ⟨_, rfl⟩
  have hbN : Below w0.heap.size w N := hN ▸ (((Below.refl _ _).alloc hw _).alloc (by simp; omega) _)
  have hFN : Sat F N := hN ▸ ((hF.alloc _).alloc _)
  have hfN : OwnR F N w0.heap.size (.slice A f.length c) (memL f) := hN ▸ ((hf.alloc _).alloc _)
  have hrN : OwnR F N w0.heap.size (.slice A' r.length c') (memL r) := hN ▸ ((hr.alloc _).alloc _)
  have hBN : Blk N w.heap.size 77 #[.slice A f.length c, .slice A' r.length c'] := hN ▸ ((Blk.new _ _ _).alloc _)
  have hRN : Blk N (w.heap.size + 1) 77 #[.slice none 0 0, .slice none 0 0] := hN ▸ (Blk.new2 _ _ _ _)
  have hzN : N.heap.size = w.heap.size + 2 := by rw [hN]; simp
  have hlr := fun g h => (hr.lt g h).2
  have hlf := fun g h => (hf.lt g h).2
  have hg0 : F w.heap.size = none := hF.none_ (Nat.le_refl _)
  have hg1 : F (w.heap.size + 1) = none := hF.none_ (Nat.le_succ _)
  have HG0 := Lib.hid hg0
  have HG1 := Lib.hid hg1
  have HN := Lib.hid hN
  clear hN hf hr hg0 hg1
  obtain ⟨o, hS, hNo⟩ := freeze_one (hFN.alloc _) (Blk.new N 29 #[.int .i64 2, .string ⟨#[]⟩, .int .i64 0, .int .i64 0, .slice none 0 0])
  rw [hzN] at hS hNo
  have hle : Fle w0 F (F.put (w.heap.size + 2) o) := Fle.put o (hFN.none_ (by omega)) (by omega)
  have hput : ∀ g, g < w.heap.size + 2 → (F.put (w.heap.size + 2) o) g = F g := fun g h => by unfold Fz.put; rw [if_neg (by omega)]
  generalize hF2e : F.put (w.heap.size + 2) o = F2 at *
  have hB3 := Blk.new2 N (.cells #[.int .i64 2, .string ⟨#[]⟩, .int .i64 0, .int .i64 0, .slice none 0 0] 29) 23 #[.slice (some ⟨w.heap.size + 2, 0, none⟩) 1 1]
  rw [hzN] at hB3
  have hrd := rd_one hB3
  have hrM := ((hrN.alloc (.cells #[.int .i64 2, .string ⟨#[]⟩, .int .i64 0, .int .i64 0, .slice none 0 0] 29)).alloc (.cells #[.slice (some ⟨w.heap.size + 2, 0, none⟩) 1 1] 23)).le2 hle.cle (fun g h => hput g (by have := hlr g h; omega))
  have hfM := ((hfN.alloc (.cells #[.int .i64 2, .string ⟨#[]⟩, .int .i64 0, .int .i64 0, .slice none 0 0] 29)).alloc (.cells #[.slice (some ⟨w.heap.size + 2, 0, none⟩) 1 1] 23)).le2 hle.cle (fun g h => hput g (by have := hlf g h; omega))
  have hBM := (hBN.alloc (.cells #[.int .i64 2, .string ⟨#[]⟩, .int .i64 0, .int .i64 0, .slice none 0 0] 29)).alloc (.cells #[.slice (some ⟨w.heap.size + 2, 0, none⟩) 1 1] 23)
  have hRM := (hRN.alloc (.cells #[.int .i64 2, .string ⟨#[]⟩, .int .i64 0, .int .i64 0, .slice none 0 0] 29)).alloc (.cells #[.slice (some ⟨w.heap.size + 2, 0, none⟩) 1 1] 23)
  have hbM := (hbN.alloc (o := .cells #[.int .i64 2, .string ⟨#[]⟩, .int .i64 0, .int .i64 0, .slice none 0 0] 29) (Nat.le_trans hw hbN.size)).alloc (o := .cells #[.slice (some ⟨w.heap.size + 2, 0, none⟩) 1 1] 23) (by simp; have := hbN.size; omega)
  have hln : (memL f).length + 1 ≤ 1000000 := by have := totT_len f; rw [length_memL]; omega
  have HMEM : Hid (memL f ++ [[ndK 2]] = memL (.leaf (ndK 2) :: f)) := Lib.hid (memL_cons (.leaf (ndK 2)) f).symm
  have HF2 := Lib.hid hF2e
  clear hF2e
  go_enter Try.func71, Try.ntmps71
  go_wp2_with (at_builtin; rw [← HN.out]; refine wpList_allR rfl (.tmp 18) (.tmp 24) rfl (F := F2) hfM (hS.alloc _) (by rfl) (some ⟨w.heap.size + 2 + 1, 0, none⟩) 1 1 [[ndK 2]] [.slice (some ⟨w.heap.size + 2, 0, none⟩) 1 1] (by rfl) (sat_heapF _) hrd (RowsV.one (Nat.le_refl _) hNo) hln (by simp; omega) ?_; intro v2 w2 hO2 hF2 hb2 hg2 hat2; rw [HMEM.out] at hO2; obtain ⟨A2, c2, hv2, _⟩ := hO2.shape; rw [length_memL] at hv2; subst hv2; obtain ⟨k0, k1, k2, k3⟩ := blk2 (hBM.grown hg2 (fun e => by have := hlf _ e.symm; omega)); obtain ⟨q0, q1, q2, q3⟩ := blk2 (hRM.grown hg2 (fun e => by have := hlf _ e.symm; omega)))
  all_goals exact bodyPost_ret (v := .agg #[.slice A2 (f.length + 1) c2, .slice A' (r.length) c']) (by simp [results, Try.results71, go_sem, k0, k1, q0, q1]) rfl ⟨_, _, _, _, _, rfl, fin3 hO2 (hrM.kept hg2 hap.or) (hap.push (fun g h => by have := hlr g h; simp; omega) hat2) (hbM.trans hb2) hF2 hle w.heap.size hw ((hput _ (by omega)).trans HG0.out) ((hput _ (by omega)).trans HG1.out) (fun g h => by rcases hat2 with e | e <;> rw [h] at e; (· have := hlf g e.symm; omega); (· simp at e; omega)) (fun g h => by have := hlr g h; omega) _ _ _ _⟩
set_option maxRecDepth 100000 in
set_option maxHeartbeats 4000000 in
theorem add_1_0 {F : Fz} {w0 w : World} (hF : Sat F w) (hw : w0.heap.size ≤ w.heap.size) (f r : List Tr) (hs : totT f + totT r ≤ 900) (A A' : Option Addr) (c c' : Nat)
    (hf : OwnR F w w0.heap.size (.slice A f.length c) (memL f)) (hr : OwnR F w w0.heap.size (.slice A' r.length c') (memL r)) (hap : Apart (.slice A f.length c) (.slice A' r.length c')) (arg : Nat) (harg : arg ≤ 3000) (hm : (arg : Int) % 3 = 0) :
    Calls Try.prog 71 #[.agg #[.slice A f.length c, .slice A' r.length c'], .int .i64 (1 : Int), .int .i64 (arg : Int)] w (RetA F w0 w (.leaf (ndP 0) :: f, r)) := by
  obtain ⟨N, hN⟩ : ∃ N, N = (w.alloc (.cells #[.slice A f.length c, .slice A' r.length c'] 77)).alloc (.cells #[.slice none 0 0, .slice none 0 0] 77) := ⟨_, rfl⟩
  have hbN : Below w0.heap.size w N := hN ▸ (((Below.refl _ _).alloc hw _).alloc (by simp; omega) _)
  have hFN : Sat F N := hN ▸ ((hF.alloc _).alloc _)
  have hfN : OwnR F N w0.heap.size (.slice A f.length c) (memL f) := hN ▸ ((hf.alloc _).alloc _)
  have hrN : OwnR F N w0.heap.size (.slice A' r.length c') (memL r) := hN ▸ ((hr.alloc _).alloc _)
  have hBN : Blk N w.heap.size 77 #[.slice A f.length c, .slice A' r.length c'] := hN ▸ ((Blk.new _ _ _).alloc _)
  have hRN : Blk N (w.heap.size + 1) 77 #[.slice none 0 0, .slice none 0 0] := hN ▸ (Blk.new2 _ _ _ _)
  have hzN : N.heap.size = w.heap.size + 2 := by rw [hN]; simp
  have hlr := fun g h => (hr.lt g h).2
  have hlf := fun g h => (hf.lt g h).2
  have hg0 : F w.heap.size = none := hF.none_ (Nat.le_refl _)
  have hg1 : F (w.heap.size + 1) = none := hF.none_ (Nat.le_succ _)
  have HG0 := Lib.hid hg0
  have HG1 := Lib.hid hg1
  have HN := Lib.hid hN
  clear hN hf hr hg0 hg1
  obtain ⟨o, hS, hNo⟩ := freeze_one (hFN.alloc _) (Blk.new N 29 #[.int .i64 3, .string ⟨#[112]⟩, .int .i64 0, .int .i64 0, .slice none 0 0])
  rw [hzN] at hS hNo
  have hle : Fle w0 F (F.put (w.heap.size + 2) o) := Fle.put o (hFN.none_ (by omega)) (by omega)
  have hput : ∀ g, g < w.heap.size + 2 → (F.put (w.heap.size + 2) o) g = F g := fun g h => by unfold Fz.put; rw [if_neg (by omega)]
  generalize hF2e : F.put (w.heap.size + 2) o = F2 at *
  have hB3 := Blk.new2 N (.cells #[.int .i64 3, .string ⟨#[112]⟩, .int .i64 0, .int .i64 0, .slice none 0 0] 29) 23 #[.slice (some ⟨w.heap.size + 2, 0, none⟩) 1 1]
  rw [hzN] at hB3
  have hrd := rd_one hB3
  have hrM := ((hrN.alloc (.cells #[.int .i64 3, .string ⟨#[112]⟩, .int .i64 0, .int .i64 0, .slice none 0 0] 29)).alloc (.cells #[.slice (some ⟨w.heap.size + 2, 0, none⟩) 1 1] 23)).le2 hle.cle (fun g h => hput g (by have := hlr g h; omega))
  have hfM := ((hfN.alloc (.cells #[.int .i64 3, .string ⟨#[112]⟩, .int .i64 0, .int .i64 0, .slice none 0 0] 29)).alloc (.cells #[.slice (some ⟨w.heap.size + 2, 0, none⟩) 1 1] 23)).le2 hle.cle (fun g h => hput g (by have := hlf g h; omega))
  have hBM := (hBN.alloc (.cells #[.int .i64 3, .string ⟨#[112]⟩, .int .i64 0, .int .i64 0, .slice none 0 0] 29)).alloc (.cells #[.slice (some ⟨w.heap.size + 2, 0, none⟩) 1 1] 23)
  have hRM := (hRN.alloc (.cells #[.int .i64 3, .string ⟨#[112]⟩, .int .i64 0, .int .i64 0, .slice none 0 0] 29)).alloc (.cells #[.slice (some ⟨w.heap.size + 2, 0, none⟩) 1 1] 23)
  have hbM := (hbN.alloc (o := .cells #[.int .i64 3, .string ⟨#[112]⟩, .int .i64 0, .int .i64 0, .slice none 0 0] 29) (Nat.le_trans hw hbN.size)).alloc (o := .cells #[.slice (some ⟨w.heap.size + 2, 0, none⟩) 1 1] 23) (by simp; have := hbN.size; omega)
  have hln : (memL f).length + 1 ≤ 1000000 := by have := totT_len f; rw [length_memL]; omega
  have HMEM : Hid (memL f ++ [[ndP 0]] = memL (.leaf (ndP 0) :: f)) := Lib.hid (memL_cons (.leaf (ndP 0)) f).symm
  have HF2 := Lib.hid hF2e
  clear hF2e
  have hix : ∀ W : World, (Instr.index 136 (.agg #[.string ⟨#[112]⟩, .string ⟨#[113]⟩, .string ⟨#[114]⟩]) (.int .i64 0)).run Try.prog W = .ok (.string ⟨#[112]⟩) W := fun W => by simp [Instr.index, run_underlying Try.underlying136, asIntOf, go_sem, part]
  have hmt : (arg : Int).tmod 3 = 0 := by rw [Int.tmod_eq_emod_of_nonneg (by omega)]; exact hm
  obtain ⟨k0, k1, k2, k3⟩ := blk2 hBN
  obtain ⟨a0, a1, a2, a3⟩ := blk2 (hBN.alloc (.cells #[.int .i64 3, .string ⟨#[112]⟩, .int .i64 0, .int .i64 0, .slice none 0 0] 29))
  obtain ⟨m0, m1, m2, m3⟩ := blk2 hBM
  go_enter Try.func71, Try.ntmps71
  go_wp2_with fail
  rw [← HN.out]
  go_region_law ((refine step_allR rfl (.tmp 31) (.tmp 38) (by rfl) (F := F2) hfM (hS.alloc _) (by rfl) (some ⟨w.heap.size + 2 + 1, 0, none⟩) 1 1 [[ndP 0]] [.slice (some ⟨w.heap.size + 2, 0, none⟩) 1 1] (by rfl) (sat_heapF _) hrd (RowsV.one (Nat.le_refl _) hNo) hln (by simp; omega) ?_; intro v2 w2 hO2 hF2 hb2 hg2' hat2; have hg2 : ((N.alloc (.cells #[.int .i64 3, .string ⟨#[112]⟩, .int .i64 0, .int .i64 0, .slice none 0 0] 29)).alloc (.cells #[.slice (some ⟨w.heap.size + 2, 0, none⟩) 1 1] 23)).grownBy w2 _ := gb_src hg2' rfl rfl rfl rfl; rw [HMEM.out] at hO2; obtain ⟨A2, c2, hv2, _⟩ := hO2.shape; rw [length_memL] at hv2; subst hv2; obtain ⟨p0, p1, p2, p3⟩ := blk2 (hBM.grown hg2 (fun e => by have := hlf _ e.symm; omega)); obtain ⟨q0, q1, q2, q3⟩ := blk2 (hRM.grown hg2 (fun e => by have := hlf _ e.symm; omega))))
  all_goals go_wp2_with fail
  all_goals exact bodyPost_ret (v := .agg #[.slice A2 (f.length + 1) c2, .slice A' (r.length) c']) (by simp [results, Try.results71, go_sem, p0, p1, q0, q1]) rfl ⟨_, _, _, _, _, rfl, fin3 hO2 (hrM.kept hg2 hap.or) (hap.push (fun g h => by have := hlr g h; simp; omega) hat2) (by refine Below.trans ?_ hb2; exact bel_eqv hbM rfl rfl rfl rfl) hF2 hle w.heap.size hw ((hput _ (by omega)).trans HG0.out) ((hput _ (by omega)).trans HG1.out) (fun g h => by rcases hat2 with e | e <;> rw [h] at e; (· have := hlf g e.symm; omega); (· simp at e; omega)) (fun g h => by have := hlr g h; omega) _ _ _ _⟩
set_option maxRecDepth 100000 in
set_option maxHeartbeats 4000000 in
theorem add_1_1 {F : Fz} {w0 w : World} (hF : Sat F w) (hw : w0.heap.size ≤ w.heap.size) (f r : List Tr) (hs : totT f + totT r ≤ 900) (A A' : Option Addr) (c c' : Nat)
    (hf : OwnR F w w0.heap.size (.slice A f.length c) (memL f)) (hr : OwnR F w w0.heap.size (.slice A' r.length c') (memL r)) (hap : Apart (.slice A f.length c) (.slice A' r.length c')) (arg : Nat) (harg : arg ≤ 3000) (hm : (arg : Int) % 3 = 1) :
    Calls Try.prog 71 #[.agg #[.slice A f.length c, .slice A' r.length c'], .int .i64 (1 : Int), .int .i64 (arg : Int)] w (RetA F w0 w (.leaf (ndP 1) :: f, r)) := by
  obtain ⟨N, hN⟩ : ∃ N, N = (w.alloc (.cells #[.slice A f.length c, .slice A' r.length c'] 77)).alloc (.cells #[.slice none 0 0, .slice none 0 0] 77) := ⟨_, rfl⟩
  have hbN : Below w0.heap.size w N := hN ▸ (((Below.refl _ _).alloc hw _).alloc (by simp; omega) _)
  have hFN : Sat F N := hN ▸ ((hF.alloc _).alloc _)
  have hfN : OwnR F N w0.heap.size (.slice A f.length c) (memL f) := hN ▸ ((hf.alloc _).alloc _)
  have hrN : OwnR F N w0.heap.size (.slice A' r.length c') (memL r) := hN ▸ ((hr.alloc _).alloc _)
  have hBN : Blk N w.heap.size 77 #[.slice A f.length c, .slice A' r.length c'] := hN ▸ ((Blk.new _ _ _).alloc _)
  have hRN : Blk N (w.heap.size + 1) 77 #[.slice none 0 0, .slice none 0 0] := hN ▸ (Blk.new2 _ _ _ _)
  have hzN : N.heap.size = w.heap.size + 2 := by rw [hN]; simp
  have hlr := fun g h => (hr.lt g h).2
  have hlf := fun g h => (hf.lt g h).2
  have hg0 : F w.heap.size = none := hF.none_ (Nat.le_refl _)
  have hg1 : F (w.heap.size + 1) = none := hF.none_ (Nat.le_succ _)
  have HG0 := Lib.hid hg0
  have HG1 := Lib.hid hg1
  have HN := Lib.hid hN
  clear hN hf hr hg0 hg1
  obtain ⟨o, hS, hNo⟩ := freeze_one (hFN.alloc _) (Blk.new N 29 #[.int .i64 3, .string ⟨#[113]⟩, .int .i64 0, .int .i64 0, .slice none 0 0])
  rw [hzN] at hS hNo
  have hle : Fle w0 F (F.put (w.heap.size + 2) o) := Fle.put o (hFN.none_ (by omega)) (by omega)
  have hput : ∀ g, g < w.heap.size + 2 → (F.put (w.heap.size + 2) o) g = F g := fun g h => by unfold Fz.put; rw [if_neg (by omega)]
  generalize hF2e : F.put (w.heap.size + 2) o = F2 at *
  have hB3 := Blk.new2 N (.cells #[.int .i64 3, .string ⟨#[113]⟩, .int .i64 0, .int .i64 0, .slice none 0 0] 29) 23 #[.slice (some ⟨w.heap.size + 2, 0, none⟩) 1 1]
  rw [hzN] at hB3
  have hrd := rd_one hB3
  have hrM := ((hrN.alloc (.cells #[.int .i64 3, .string ⟨#[113]⟩, .int .i64 0, .int .i64 0, .slice none 0 0] 29)).alloc (.cells #[.slice (some ⟨w.heap.size + 2, 0, none⟩) 1 1] 23)).le2 hle.cle (fun g h => hput g (by have := hlr g h; omega))
  have hfM := ((hfN.alloc (.cells #[.int .i64 3, .string ⟨#[113]⟩, .int .i64 0, .int .i64 0, .slice none 0 0] 29)).alloc (.cells #[.slice (some ⟨w.heap.size + 2, 0, none⟩) 1 1] 23)).le2 hle.cle (fun g h => hput g (by have := hlf g h; omega))
  have hBM := (hBN.alloc (.cells #[.int .i64 3, .string ⟨#[113]⟩, .int .i64 0, .int .i64 0, .slice none 0 0] 29)).alloc (.cells #[.slice (some ⟨w.heap.size + 2, 0, none⟩) 1 1] 23)
  have hRM := (hRN.alloc (.cells #[.int .i64 3, .string ⟨#[113]⟩, .int .i64 0, .int .i64 0, .slice none 0 0] 29)).alloc (.cells #[.slice (some ⟨w.heap.size + 2, 0, none⟩) 1 1] 23)
  have hbM := (hbN.alloc (o := .cells #[.int .i64 3, .string ⟨#[113]⟩, .int .i64 0, .int .i64 0, .slice none 0 0] 29) (Nat.le_trans hw hbN.size)).alloc (o := .cells #[.slice (some ⟨w.heap.size + 2, 0, none⟩) 1 1] 23) (by simp; have := hbN.size; omega)
  have hln : (memL f).length + 1 ≤ 1000000 := by have := totT_len f; rw [length_memL]; omega
  have HMEM : Hid (memL f ++ [[ndP 1]] = memL (.leaf (ndP 1) :: f)) := Lib.hid (memL_cons (.leaf (ndP 1)) f).symm
  have HF2 := Lib.hid hF2e
  clear hF2e
  have hix : ∀ W : World, (Instr.index 136 (.agg #[.string ⟨#[112]⟩, .string ⟨#[113]⟩, .string ⟨#[114]⟩]) (.int .i64 1)).run Try.prog W = .ok (.string ⟨#[113]⟩) W := fun W => by simp [Instr.index, run_underlying Try.underlying136, asIntOf, go_sem, part]
  have hmt : (arg : Int).tmod 3 = 1 := by rw [Int.tmod_eq_emod_of_nonneg (by omega)]; exact hm
  obtain ⟨k0, k1, k2, k3⟩ := blk2 hBN
  obtain ⟨a0, a1, a2, a3⟩ := blk2 (hBN.alloc (.cells #[.int .i64 3, .string ⟨#[113]⟩, .int .i64 0, .int .i64 0, .slice none 0 0] 29))
  obtain ⟨m0, m1, m2, m3⟩ := blk2 hBM
  go_enter Try.func71, Try.ntmps71
  go_wp2_with fail
  rw [← HN.out]
  go_region_law ((refine step_allR rfl (.tmp 31) (.tmp 38) (by rfl) (F := F2) hfM (hS.alloc _) (by rfl) (some ⟨w.heap.size + 2 + 1, 0, none⟩) 1 1 [[ndP 1]] [.slice (some ⟨w.heap.size + 2, 0, none⟩) 1 1] (by rfl) (sat_heapF _) hrd (RowsV.one (Nat.le_refl _) hNo) hln (by simp; omega) ?_; intro v2 w2 hO2 hF2 hb2 hg2' hat2; have hg2 : ((N.alloc (.cells #[.int .i64 3, .string ⟨#[113]⟩, .int .i64 0, .int .i64 0, .slice none 0 0] 29)).alloc (.cells #[.slice (some ⟨w.heap.size + 2, 0, none⟩) 1 1] 23)).grownBy w2 _ := gb_src hg2' rfl rfl rfl rfl; rw [HMEM.out] at hO2; obtain ⟨A2, c2, hv2, _⟩ := hO2.shape; rw [length_memL] at hv2; subst hv2; obtain ⟨p0, p1, p2, p3⟩ := blk2 (hBM.grown hg2 (fun e => by have := hlf _ e.symm; omega)); obtain ⟨q0, q1, q2, q3⟩ := blk2 (hRM.grown hg2 (fun e => by have := hlf _ e.symm; omega))))
  all_goals go_wp2_with fail
  all_goals exact bodyPost_ret (v := .agg #[.slice A2 (f.length + 1) c2, .slice A' (r.length) c']) (by simp [results, Try.results71, go_sem, p0, p1, q0, q1]) rfl ⟨_, _, _, _, _, rfl, fin3 hO2 (hrM.kept hg2 hap.or) (hap.push (fun g h => by have := hlr g h; simp; omega) hat2) (by refine Below.trans ?_ hb2; exact bel_eqv hbM rfl rfl rfl rfl) hF2 hle w.heap.size hw ((hput _ (by omega)).trans HG0.out) ((hput _ (by omega)).trans HG1.out) (fun g h => by rcases hat2 with e | e <;> rw [h] at e; (· have := hlf g e.symm; omega); (· simp at e; omega)) (fun g h => by have := hlr g h; omega) _ _ _ _⟩
set_option maxRecDepth 100000 in
set_option maxHeartbeats 4000000 in
theorem add_1_2 {F : Fz} {w0 w : World} (hF : Sat F w) (hw : w0.heap.size ≤ w.heap.size) (f r : List Tr) (hs : totT f + totT r ≤ 900) (A A' : Option Addr) (c c' : Nat)
    (hf : OwnR F w w0.heap.size (.slice A f.length c) (memL f)) (hr : OwnR F w w0.heap.size (.slice A' r.length c') (memL r)) (hap : Apart (.slice A f.length c) (.slice A' r.length c')) (arg : Nat) (harg : arg ≤ 3000) (hm : (arg : Int) % 3 = 2) :
    Calls Try.prog 71 #[.agg #[.slice A f.length c, .slice A' r.length c'], .int .i64 (1 : Int), .int .i64 (arg : Int)] w (RetA F w0 w (.leaf (ndP 2) :: f, r)) := by
  obtain ⟨N, hN⟩ : ∃ N, N = (w.alloc (.cells #[.slice A f.length c, .slice A' r.length c'] 77)).alloc (.cells #[.slice none 0 0, .slice none 0 0] 77) := ⟨_, rfl⟩
  have hbN : Below w0.heap.size w N := hN ▸ (((Below.refl _ _).alloc hw _).alloc (by simp; omega) _)
  have hFN : Sat F N := hN ▸ ((hF.alloc _).alloc _)
  have hfN : OwnR F N w0.heap.size (.slice A f.length c) (memL f) := hN ▸ ((hf.alloc _).alloc _)
  have hrN : OwnR F N w0.heap.size (.slice A' r.length c') (memL r) := hN ▸ ((hr.alloc _).alloc _)
  have hBN : Blk N w.heap.size 77 #[.slice A f.length c, .slice A' r.length c'] := hN ▸ ((Blk.new _ _ _).alloc _)
  have hRN : Blk N (w.heap.size + 1) 77 #[.slice none 0 0, .slice none 0 0] := hN ▸ (Blk.new2 _ _ _ _)
  have hzN : N.heap.size = w.heap.size + 2 := by rw [hN]; simp
  have hlr := fun g h => (hr.lt g h).2
  have hlf := fun g h => (hf.lt g h).2
  have hg0 : F w.heap.size = none := hF.none_ (Nat.le_refl _)
  have hg1 : F (w.heap.size + 1) = none := hF.none_ (Nat.le_succ _)
  have HG0 := Lib.hid hg0
  have HG1 := Lib.hid hg1
  have HN := Lib.hid hN
  clear hN hf hr hg0 hg1
  obtain ⟨o, hS, hNo⟩ := freeze_one (hFN.alloc _) (Blk.new N 29 #[.int .i64 3, .string ⟨#[114]⟩, .int .i64 0, .int .i64 0, .slice none 0 0])
  rw [hzN] at hS hNo
  have hle : Fle w0 F (F.put (w.heap.size + 2) o) := Fle.put o (hFN.none_ (by omega)) (by omega)
  have hput : ∀ g, g < w.heap.size + 2 → (F.put (w.heap.size + 2) o) g = F g := fun g h => by unfold Fz.put; rw [if_neg (by omega)]
  generalize hF2e : F.put (w.heap.size + 2) o = F2 at *
  have hB3 := Blk.new2 N (.cells #[.int .i64 3, .string ⟨#[114]⟩, .int .i64 0, .int .i64 0, .slice none 0 0] 29) 23 #[.slice (some ⟨w.heap.size + 2, 0, none⟩) 1 1]
  rw [hzN] at hB3
  have hrd := rd_one hB3
  have hrM := ((hrN.alloc (.cells #[.int .i64 3, .string ⟨#[114]⟩, .int .i64 0, .int .i64 0, .slice none 0 0] 29)).alloc (.cells #[.slice (some ⟨w.heap.size + 2, 0, none⟩) 1 1] 23)).le2 hle.cle (fun g h => hput g (by have := hlr g h; omega))
  have hfM := ((hfN.alloc (.cells #[.int .i64 3, .string ⟨#[114]⟩, .int .i64 0, .int .i64 0, .slice none 0 0] 29)).alloc (.cells #[.slice (some ⟨w.heap.size + 2, 0, none⟩) 1 1] 23)).le2 hle.cle (fun g h => hput g (by have := hlf g h; omega))
  have hBM := (hBN.alloc (.cells #[.int .i64 3, .string ⟨#[114]⟩, .int .i64 0, .int .i64 0, .slice none 0 0] 29)).alloc (.cells #[.slice (some ⟨w.heap.size + 2, 0, none⟩) 1 1] 23)
  have hRM := (hRN.alloc (.cells #[.int .i64 3, .string ⟨#[114]⟩, .int .i64 0, .int .i64 0, .slice none 0 0] 29)).alloc (.cells #[.slice (some ⟨w.heap.size + 2, 0, none⟩) 1 1] 23)
  have hbM := (hbN.alloc (o := .cells #[.int .i64 3, .string ⟨#[114]⟩, .int .i64 0, .int .i64 0, .slice none 0 0] 29) (Nat.le_trans hw hbN.size)).alloc (o := .cells #[.slice (some ⟨w.heap.size + 2, 0, none⟩) 1 1] 23) (by simp; have := hbN.size; omega)
  have hln : (memL f).length + 1 ≤ 1000000 := by have := totT_len f; rw [length_memL]; omega
  have HMEM : Hid (memL f ++ [[ndP 2]] = memL (.leaf (ndP 2) :: f)) := Lib.hid (memL_cons (.leaf (ndP 2)) f).symm
  have HF2 := Lib.hid hF2e
  clear hF2e
  have hix : ∀ W : World, (Instr.index 136 (.agg #[.string ⟨#[112]⟩, .string ⟨#[113]⟩, .string ⟨#[114]⟩]) (.int .i64 2)).run Try.prog W = .ok (.string ⟨#[114]⟩) W := fun W => by simp [Instr.index, run_underlying Try.underlying136, asIntOf, go_sem, part]
  have hmt : (arg : Int).tmod 3 = 2 := by rw [Int.tmod_eq_emod_of_nonneg (by omega)]; exact hm
  obtain ⟨k0, k1, k2, k3⟩ := blk2 hBN
  obtain ⟨a0, a1, a2, a3⟩ := blk2 (hBN.alloc (.cells #[.int .i64 3, .string ⟨#[114]⟩, .int .i64 0, .int .i64 0, .slice none 0 0] 29))
  obtain ⟨m0, m1, m2, m3⟩ := blk2 hBM
  go_enter Try.func71, Try.ntmps71
  go_wp2_with fail
  rw [← HN.out]
  go_region_law ((refine step_allR rfl (.tmp 31) (.tmp 38) (by rfl) (F := F2) hfM (hS.alloc _) (by rfl) (some ⟨w.heap.size + 2 + 1, 0, none⟩) 1 1 [[ndP 2]] [.slice (some ⟨w.heap.size + 2, 0, none⟩) 1 1] (by rfl) (sat_heapF _) hrd (RowsV.one (Nat.le_refl _) hNo) hln (by simp; omega) ?_; intro v2 w2 hO2 hF2 hb2 hg2' hat2; have hg2 : ((N.alloc (.cells #[.int .i64 3, .string ⟨#[114]⟩, .int .i64 0, .int .i64 0, .slice none 0 0] 29)).alloc (.cells #[.slice (some ⟨w.heap.size + 2, 0, none⟩) 1 1] 23)).grownBy w2 _ := gb_src hg2' rfl rfl rfl rfl; rw [HMEM.out] at hO2; obtain ⟨A2, c2, hv2, _⟩ := hO2.shape; rw [length_memL] at hv2; subst hv2; obtain ⟨p0, p1, p2, p3⟩ := blk2 (hBM.grown hg2 (fun e => by have := hlf _ e.symm; omega)); obtain ⟨q0, q1, q2, q3⟩ := blk2 (hRM.grown hg2 (fun e => by have := hlf _ e.symm; omega))))
  all_goals go_wp2_with fail
  all_goals exact bodyPost_ret (v := .agg #[.slice A2 (f.length + 1) c2, .slice A' (r.length) c']) (by simp [results, Try.results71, go_sem, p0, p1, q0, q1]) rfl ⟨_, _, _, _, _, rfl, fin3 hO2 (hrM.kept hg2 hap.or) (hap.push (fun g h => by have := hlr g h; simp; omega) hat2) (by refine Below.trans ?_ hb2; exact bel_eqv hbM rfl rfl rfl rfl) hF2 hle w.heap.size hw ((hput _ (by omega)).trans HG0.out) ((hput _ (by omega)).trans HG1.out) (fun g h => by rcases hat2 with e | e <;> rw [h] at e; (· have := hlf g e.symm; omega); (· simp at e; omega)) (fun g h => by have := hlr g h; omega) _ _ _ _⟩
set_option maxRecDepth 100000 in
set_option maxHeartbeats 4000000 in
theorem add_2_0 {F : Fz} {w0 w : World} (hF : Sat F w) (hw : w0.heap.size ≤ w.heap.size) (f r : List Tr) (hs : totT f + totT r ≤ 900) (A A' : Option Addr) (c c' : Nat)
    (hf : OwnR F w w0.heap.size (.slice A f.length c) (memL f)) (hr : OwnR F w w0.heap.size (.slice A' r.length c') (memL r)) (hap : Apart (.slice A f.length c) (.slice A' r.length c')) (arg : Nat) (harg : arg ≤ 3000) (hm : (arg : Int) % 3 = 0) :
    Calls Try.prog 71 #[.agg #[.slice A f.length c, .slice A' r.length c'], .int .i64 (2 : Int), .int .i64 (arg : Int)] w (RetA F w0 w (.leaf (ndP 0) :: f, r)) := by
  obtain ⟨N, hN⟩ : ∃ N, N = (w.alloc (.cells #[.slice A f.length c, .slice A' r.length c'] 77)).alloc (.cells #[.slice none 0 0, .slice none 0 0] 77) := ⟨_, rfl⟩
  have hbN : Below w0.heap.size w N := hN ▸ (((Below.refl _ _).alloc hw _).alloc (by simp; omega) _)
  have hFN : Sat F N := hN ▸ ((hF.alloc _).alloc _)
  have hfN : OwnR F N w0.heap.size (.slice A f.length c) (memL f) := hN ▸ ((hf.alloc _).alloc _)
  have hrN : OwnR F N w0.heap.size (.slice A' r.length c') (memL r) := hN ▸ ((hr.alloc _).alloc _)
  have hBN : Blk N w.heap.size 77 #[.slice A f.length c, .slice A' r.length c'] := hN ▸ ((Blk.new _ _ _).alloc _)
  have hRN : Blk N (w.heap.size + 1) 77 #[.slice none 0 0, .slice none 0 0] := hN ▸ (Blk.new2 _ _ _ _)
  have hzN : N.heap.size = w.heap.size + 2 := by rw [hN]; simp
  have hlr := fun g h => (hr.lt g h).2
  have hlf := fun g h => (hf.lt g h).2
  have hg0 : F w.heap.size = none := hF.none_ (Nat.le_refl _)
  have hg1 : F (w.heap.size + 1) = none := hF.none_ (Nat.le_succ _)
  have HG0 := Lib.hid hg0
  have HG1 := Lib.hid hg1
  have HN := Lib.hid hN
  clear hN hf hr hg0 hg1
  obtain ⟨o, hS, hNo⟩ := freeze_one (hFN.alloc _) (Blk.new N 29 #[.int .i64 3, .string ⟨#[112]⟩, .int .i64 0, .int .i64 0, .slice none 0 0])
  rw [hzN] at hS hNo
  have hle : Fle w0 F (F.put (w.heap.size + 2) o) := Fle.put o (hFN.none_ (by omega)) (by omega)
  have hput : ∀ g, g < w.heap.size + 2 → (F.put (w.heap.size + 2) o) g = F g := fun g h => by unfold Fz.put; rw [if_neg (by omega)]
  generalize hF2e : F.put (w.heap.size + 2) o = F2 at *
  have hB3 := Blk.new2 N (.cells #[.int .i64 3, .string ⟨#[112]⟩, .int .i64 0, .int .i64 0, .slice none 0 0] 29) 23 #[.slice (some ⟨w.heap.size + 2, 0, none⟩) 1 1]
  rw [hzN] at hB3
  have hrd := rd_one hB3
  have hrM := ((hrN.alloc (.cells #[.int .i64 3, .string ⟨#[112]⟩, .int .i64 0, .int .i64 0, .slice none 0 0] 29)).alloc (.cells #[.slice (some ⟨w.heap.size + 2, 0, none⟩) 1 1] 23)).le2 hle.cle (fun g h => hput g (by have := hlr g h; omega))
  have hfM := ((hfN.alloc (.cells #[.int .i64 3, .string ⟨#[112]⟩, .int .i64 0, .int .i64 0, .slice none 0 0] 29)).alloc (.cells #[.slice (some ⟨w.heap.size + 2, 0, none⟩) 1 1] 23)).le2 hle.cle (fun g h => hput g (by have := hlf g h; omega))
  have hBM := (hBN.alloc (.cells #[.int .i64 3, .string ⟨#[112]⟩, .int .i64 0, .int .i64 0, .slice none 0 0] 29)).alloc (.cells #[.slice (some ⟨w.heap.size + 2, 0, none⟩) 1 1] 23)
  have hRM := (hRN.alloc (.cells #[.int .i64 3, .string ⟨#[112]⟩, .int .i64 0, .int .i64 0, .slice none 0 0] 29)).alloc (.cells #[.slice (some ⟨w.heap.size + 2, 0, none⟩) 1 1] 23)
  have hbM := (hbN.alloc (o := .cells #[.int .i64 3, .string ⟨#[112]⟩, .int .i64 0, .int .i64 0, .slice none 0 0] 29) (Nat.le_trans hw hbN.size)).alloc (o := .cells #[.slice (some ⟨w.heap.size + 2, 0, none⟩) 1 1] 23) (by simp; have := hbN.size; omega)
  have hln : (memL f).length + 1 ≤ 1000000 := by have := totT_len f; rw [length_memL]; omega
  have HMEM : Hid (memL f ++ [[ndP 0]] = memL (.leaf (ndP 0) :: f)) := Lib.hid (memL_cons (.leaf (ndP 0)) f).symm
  have HF2 := Lib.hid hF2e
  clear hF2e
  have hix : ∀ W : World, (Instr.index 136 (.agg #[.string ⟨#[112]⟩, .string ⟨#[113]⟩, .string ⟨#[114]⟩]) (.int .i64 0)).run Try.prog W = .ok (.string ⟨#[112]⟩) W := fun W => by simp [Instr.index, run_underlying Try.underlying136, asIntOf, go_sem, part]
  have hmt : (arg : Int).tmod 3 = 0 := by rw [Int.tmod_eq_emod_of_nonneg (by omega)]; exact hm
  obtain ⟨k0, k1, k2, k3⟩ := blk2 hBN
  obtain ⟨a0, a1, a2, a3⟩ := blk2 (hBN.alloc (.cells #[.int .i64 3, .string ⟨#[112]⟩, .int .i64 0, .int .i64 0, .slice none 0 0] 29))
  obtain ⟨m0, m1, m2, m3⟩ := blk2 hBM
  go_enter Try.func71, Try.ntmps71
  go_wp2_with fail
  rw [← HN.out]
  go_region_law ((refine step_allR rfl (.tmp 31) (.tmp 38) (by rfl) (F := F2) hfM (hS.alloc _) (by rfl) (some ⟨w.heap.size + 2 + 1, 0, none⟩) 1 1 [[ndP 0]] [.slice (some ⟨w.heap.size + 2, 0, none⟩) 1 1] (by rfl) (sat_heapF _) hrd (RowsV.one (Nat.le_refl _) hNo) hln (by simp; omega) ?_; intro v2 w2 hO2 hF2 hb2 hg2' hat2; have hg2 : ((N.alloc (.cells #[.int .i64 3, .string ⟨#[112]⟩, .int .i64 0, .int .i64 0, .slice none 0 0] 29)).alloc (.cells #[.slice (some ⟨w.heap.size + 2, 0, none⟩) 1 1] 23)).grownBy w2 _ := gb_src hg2' rfl rfl rfl rfl; rw [HMEM.out] at hO2; obtain ⟨A2, c2, hv2, _⟩ := hO2.shape; rw [length_memL] at hv2; subst hv2; obtain ⟨p0, p1, p2, p3⟩ := blk2 (hBM.grown hg2 (fun e => by have := hlf _ e.symm; omega)); obtain ⟨q0, q1, q2, q3⟩ := blk2 (hRM.grown hg2 (fun e => by have := hlf _ e.symm; omega))))
  all_goals go_wp2_with fail
  all_goals exact bodyPost_ret (v := .agg #[.slice A2 (f.length + 1) c2, .slice A' (r.length) c']) (by simp [results, Try.results71, go_sem, p0, p1, q0, q1]) rfl ⟨_, _, _, _, _, rfl, fin3 hO2 (hrM.kept hg2 hap.or) (hap.push (fun g h => by have := hlr g h; simp; omega) hat2) (by refine Below.trans ?_ hb2; exact bel_eqv hbM rfl rfl rfl rfl) hF2 hle w.heap.size hw ((hput _ (by omega)).trans HG0.out) ((hput _ (by omega)).trans HG1.out) (fun g h => by rcases hat2 with e | e <;> rw [h] at e; (· have := hlf g e.symm; omega); (· simp at e; omega)) (fun g h => by have := hlr g h; omega) _ _ _ _⟩
set_option maxRecDepth 100000 in
set_option maxHeartbeats 4000000 in
theorem add_2_1 {F : Fz} {w0 w : World} (hF : Sat F w) (hw : w0.heap.size ≤ w.heap.size) (f r : List Tr) (hs : totT f + totT r ≤ 900) (A A' : Option Addr) (c c' : Nat)
    (hf : OwnR F w w0.heap.size (.slice A f.length c) (memL f)) (hr : OwnR F w w0.heap.size (.slice A' r.length c') (memL r)) (hap : Apart (.slice A f.length c) (.slice A' r.length c')) (arg : Nat) (harg : arg ≤ 3000) (hm : (arg : Int) % 3 = 1) :
    Calls Try.prog 71 #[.agg #[.slice A f.length c, .slice A' r.length c'], .int .i64 (2 : Int), .int .i64 (arg : Int)] w (RetA F w0 w (.leaf (ndP 1) :: f, r)) := by
  obtain ⟨N, hN⟩ : ∃ N, N = (w.alloc (.cells #[.slice A f.length c, .slice A' r.length c'] 77)).alloc (.cells #[.slice none 0 0, .slice none 0 0] 77) := ⟨_, rfl⟩
  have hbN : Below w0.heap.size w N := hN ▸ (((Below.refl _ _).alloc hw _).alloc (by simp; omega) _)
  have hFN : Sat F N := hN ▸ ((hF.alloc _).alloc _)
  have hfN : OwnR F N w0.heap.size (.slice A f.length c) (memL f) := hN ▸ ((hf.alloc _).alloc _)
  have hrN : OwnR F N w0.heap.size (.slice A' r.length c') (memL r) := hN ▸ ((hr.alloc _).alloc _)
  have hBN : Blk N w.heap.size 77 #[.slice A f.length c, .slice A' r.length c'] := hN ▸ ((Blk.new _ _ _).alloc _)
  have hRN : Blk N (w.heap.size + 1) 77 #[.slice none 0 0, .slice none 0 0] := hN ▸ (Blk.new2 _ _ _ _)
  have hzN : N.heap.size = w.heap.size + 2 := by rw [hN]; simp
  have hlr := fun g h => (hr.lt g h).2
  have hlf := fun g h => (hf.lt g h).2
  have hg0 : F w.heap.size = none := hF.none_ (Nat.le_refl _)
  have hg1 : F (w.heap.size + 1) = none := hF.none_ (Nat.le_succ _)
  have HG0 := Lib.hid hg0
  have HG1 := Lib.hid hg1
  have HN := Lib.hid hN
  clear hN hf hr hg0 hg1
  obtain ⟨o, hS, hNo⟩ := freeze_one (hFN.alloc _) (Blk.new N 29 #[.int .i64 3, .string ⟨#[113]⟩, .int .i64 0, .int .i64 0, .slice none 0 0])
  rw [hzN] at hS hNo
  have hle : Fle w0 F (F.put (w.heap.size + 2) o) := Fle.put o (hFN.none_ (by omega)) (by omega)
  have hput : ∀ g, g < w.heap.size + 2 → (F.put (w.heap.size + 2) o) g = F g := fun g h => by unfold Fz.put; rw [if_neg (by omega)]
  generalize hF2e : F.put (w.heap.size + 2) o = F2 at *
  have hB3 := Blk.new2 N (.cells #[.int .i64 3, .string ⟨#[113]⟩, .int .i64 0, .int .i64 0, .slice none 0 0] 29) 23 #[.slice (some ⟨w.heap.size + 2, 0, none⟩) 1 1]
  rw [hzN] at hB3
  have hrd := rd_one hB3
  have hrM := ((hrN.alloc (.cells #[.int .i64 3, .string ⟨#[113]⟩, .int .i64 0, .int .i64 0, .slice none 0 0] 29)).alloc (.cells #[.slice (some ⟨w.heap.size + 2, 0, none⟩) 1 1] 23)).le2 hle.cle (fun g h => hput g (by have := hlr g h; omega))
  have hfM := ((hfN.alloc (.cells #[.int .i64 3, .string ⟨#[113]⟩, .int .i64 0, .int .i64 0, .slice none 0 0] 29)).alloc (.cells #[.slice (some ⟨w.heap.size + 2, 0, none⟩) 1 1] 23)).le2 hle.cle (fun g h => hput g (by have := hlf g h; omega))
  have hBM := (hBN.alloc (.cells #[.int .i64 3, .string ⟨#[113]⟩, .int .i64 0, .int .i64 0, .slice none 0 0] 29)).alloc (.cells #[.slice (some ⟨w.heap.size + 2, 0, none⟩) 1 1] 23)
  have hRM := (hRN.alloc (.cells #[.int .i64 3, .string ⟨#[113]⟩, .int .i64 0, .int .i64 0, .slice none 0 0] 29)).alloc (.cells #[.slice (some ⟨w.heap.size + 2, 0, none⟩) 1 1] 23)
  have hbM := (hbN.alloc (o := .cells #[.int .i64 3, .string ⟨#[113]⟩, .int .i64 0, .int .i64 0, .slice none 0 0] 29) (Nat.le_trans hw hbN.size)).alloc (o := .cells #[.slice (some ⟨w.heap.size + 2, 0, none⟩) 1 1] 23) (by simp; have := hbN.size; omega)
  have hln : (memL f).length + 1 ≤ 1000000 := by have := totT_len f; rw [length_memL]; omega
  have HMEM : Hid (memL f ++ [[ndP 1]] = memL (.leaf (ndP 1) :: f)) := Lib.hid (memL_cons (.leaf (ndP 1)) f).symm
  have HF2 := Lib.hid hF2e
  clear hF2e
  have hix : ∀ W : World, (Instr.index 136 (.agg #[.string ⟨#[112]⟩, .string ⟨#[113]⟩, .string ⟨#[114]⟩]) (.int .i64 1)).run Try.prog W = .ok (.string ⟨#[113]⟩) W := fun W => by simp [Instr.index, run_underlying Try.underlying136, asIntOf, go_sem, part]
  have hmt : (arg : Int).tmod 3 = 1 := by rw [Int.tmod_eq_emod_of_nonneg (by omega)]; exact hm
  obtain ⟨k0, k1, k2, k3⟩ := blk2 hBN
  obtain ⟨a0, a1, a2, a3⟩ := blk2 (hBN.alloc (.cells #[.int .i64 3, .string ⟨#[113]⟩, .int .i64 0, .int .i64 0, .slice none 0 0] 29))
  obtain ⟨m0, m1, m2, m3⟩ := blk2 hBM
  go_enter Try.func71, Try.ntmps71
  go_wp2_with fail
  rw [← HN.out]
  go_region_law ((refine step_allR rfl (.tmp 31) (.tmp 38) (by rfl) (F := F2) hfM (hS.alloc _) (by rfl) (some ⟨w.heap.size + 2 + 1, 0, none⟩) 1 1 [[ndP 1]] [.slice (some ⟨w.heap.size + 2, 0, none⟩) 1 1] (by rfl) (sat_heapF _) hrd (RowsV.one (Nat.le_refl _) hNo) hln (by simp; omega) ?_; intro v2 w2 hO2 hF2 hb2 hg2' hat2; have hg2 : ((N.alloc (.cells #[.int .i64 3, .string ⟨#[113]⟩, .int .i64 0, .int .i64 0, .slice none 0 0] 29)).alloc (.cells #[.slice (some ⟨w.heap.size + 2, 0, none⟩) 1 1] 23)).grownBy w2 _ := gb_src hg2' rfl rfl rfl rfl; rw [HMEM.out] at hO2; obtain ⟨A2, c2, hv2, _⟩ := hO2.shape; rw [length_memL] at hv2; subst hv2; obtain ⟨p0, p1, p2, p3⟩ := blk2 (hBM.grown hg2 (fun e => by have := hlf _ e.symm; omega)); obtain ⟨q0, q1, q2, q3⟩ := blk2 (hRM.grown hg2 (fun e => by have := hlf _ e.symm; omega))))
  all_goals go_wp2_with fail
  all_goals exact bodyPost_ret (v := .agg #[.slice A2 (f.length + 1) c2, .slice A' (r.length) c']) (by simp [results, Try.results71, go_sem, p0, p1, q0, q1]) rfl ⟨_, _, _, _, _, rfl, fin3 hO2 (hrM.kept hg2 hap.or) (hap.push (fun g h => by have := hlr g h; simp; omega) hat2) (by refine Below.trans ?_ hb2; exact bel_eqv hbM rfl rfl rfl rfl) hF2 hle w.heap.size hw ((hput _ (by omega)).trans HG0.out) ((hput _ (by omega)).trans HG1.out) (fun g h => by rcases hat2 with e | e <;> rw [h] at e; (· have := hlf g e.symm; omega); (· simp at e; omega)) (fun g h => by have := hlr g h; omega) _ _ _ _⟩
set_option maxRecDepth 100000 in
set_option maxHeartbeats 4000000 in
theorem add_2_2 {F : Fz} {w0 w : World} (hF : Sat F w) (hw : w0.heap.size ≤ w.heap.size) (f r : List Tr) (hs : totT f + totT r ≤ 900) (A A' : Option Addr) (c c' : Nat)
    (hf : OwnR F w w0.heap.size (.slice A f.length c) (memL f)) (hr : OwnR F w w0.heap.size (.slice A' r.length c') (memL r)) (hap : Apart (.slice A f.length c) (.slice A' r.length c')) (arg : Nat) (harg : arg ≤ 3000) (hm : (arg : Int) % 3 = 2) :
    Calls Try.prog 71 #[.agg #[.slice A f.length c, .slice A' r.length c'], .int .i64 (2 : Int), .int .i64 (arg : Int)] w (RetA F w0 w (.leaf (ndP 2) :: f, r)) := by
  obtain ⟨N, hN⟩ : ∃ N, N = (w.alloc (.cells #[.slice A f.length c, .slice A' r.length c'] 77)).alloc (.cells #[.slice none 0 0, .slice none 0 0] 77) := ⟨_, rfl⟩
  have hbN : Below w0.heap.size w N := hN ▸ (((Below.refl _ _).alloc hw _).alloc (by simp; omega) _)
  have hFN : Sat F N := hN ▸ ((hF.alloc _).alloc _)
  have hfN : OwnR F N w0.heap.size (.slice A f.length c) (memL f) := hN ▸ ((hf.alloc _).alloc _)
  have hrN : OwnR F N w0.heap.size (.slice A' r.length c') (memL r) := hN ▸ ((hr.alloc _).alloc _)
  have hBN : Blk N w.heap.size 77 #[.slice A f.length c, .slice A' r.length c'] := hN ▸ ((Blk.new _ _ _).alloc _)
  have hRN : Blk N (w.heap.size + 1) 77 #[.slice none 0 0, .slice none 0 0] := hN ▸ (Blk.new2 _ _ _ _)
  have hzN : N.heap.size = w.heap.size + 2 := by rw [hN]; simp
  have hlr := fun g h => (hr.lt g h).2
  have hlf := fun g h => (hf.lt g h).2
  have hg0 : F w.heap.size = none := hF.none_ (Nat.le_refl _)
  have hg1 : F (w.heap.size + 1) = none := hF.none_ (Nat.le_succ _)
  have HG0 := Lib.hid hg0
  have HG1 := Lib.hid hg1
  have HN := Lib.hid hN
  clear hN hf hr hg0 hg1
  obtain ⟨o, hS, hNo⟩ := freeze_one (hFN.alloc _) (Blk.new N 29 #[.int .i64 3, .string ⟨#[114]⟩, .int .i64 0, .int .i64 0, .slice none 0 0])
  rw [hzN] at hS hNo
  have hle : Fle w0 F (F.put (w.heap.size + 2) o) := Fle.put o (hFN.none_ (by omega)) (by omega)
  have hput : ∀ g, g < w.heap.size + 2 → (F.put (w.heap.size + 2) o) g = F g := fun g h => by unfold Fz.put; rw [if_neg (by omega)]
  generalize hF2e : F.put (w.heap.size + 2) o = F2 at *
  have hB3 := Blk.new2 N (.cells #[.int .i64 3, .string ⟨#[114]⟩, .int .i64 0, .int .i64 0, .slice none 0 0] 29) 23 #[.slice (some ⟨w.heap.size + 2, 0, none⟩) 1 1]
  rw [hzN] at hB3
  have hrd := rd_one hB3
  have hrM := ((hrN.alloc (.cells #[.int .i64 3, .string ⟨#[114]⟩, .int .i64 0, .int .i64 0, .slice none 0 0] 29)).alloc (.cells #[.slice (some ⟨w.heap.size + 2, 0, none⟩) 1 1] 23)).le2 hle.cle (fun g h => hput g (by have := hlr g h; omega))
  have hfM := ((hfN.alloc (.cells #[.int .i64 3, .string ⟨#[114]⟩, .int .i64 0, .int .i64 0, .slice none 0 0] 29)).alloc (.cells #[.slice (some ⟨w.heap.size + 2, 0, none⟩) 1 1] 23)).le2 hle.cle (fun g h => hput g (by have := hlf g h; omega))
  have hBM := (hBN.alloc (.cells #[.int .i64 3, .string ⟨#[114]⟩, .int .i64 0, .int .i64 0, .slice none 0 0] 29)).alloc (.cells #[.slice (some ⟨w.heap.size + 2, 0, none⟩) 1 1] 23)
  have hRM := (hRN.alloc (.cells #[.int .i64 3, .string ⟨#[114]⟩, .int .i64 0, .int .i64 0, .slice none 0 0] 29)).alloc (.cells #[.slice (some ⟨w.heap.size + 2, 0, none⟩) 1 1] 23)
  have hbM := (hbN.alloc (o := .cells #[.int .i64 3, .string ⟨#[114]⟩, .int .i64 0, .int .i64 0, .slice none 0 0] 29) (Nat.le_trans hw hbN.size)).alloc (o := .cells #[.slice (some ⟨w.heap.size + 2, 0, none⟩) 1 1] 23) (by simp; have := hbN.size; omega)
  have hln : (memL f).length + 1 ≤ 1000000 := by have := totT_len f; rw [length_memL]; omega
  have HMEM : Hid (memL f ++ [[ndP 2]] = memL (.leaf (ndP 2) :: f)) := Lib.hid (memL_cons (.leaf (ndP 2)) f).symm
  have HF2 := Lib.hid hF2e
  clear hF2e
  have hix : ∀ W : World, (Instr.index 136 (.agg #[.string ⟨#[112]⟩, .string ⟨#[113]⟩, .string ⟨#[114]⟩]) (.int .i64 2)).run Try.prog W = .ok (.string ⟨#[114]⟩) W := fun W => by simp [Instr.index, run_underlying Try.underlying136, asIntOf, go_sem, part]
  have hmt : (arg : Int).tmod 3 = 2 := by rw [Int.tmod_eq_emod_of_nonneg (by omega)]; exact hm
  obtain ⟨k0, k1, k2, k3⟩ := blk2 hBN
  obtain ⟨a0, a1, a2, a3⟩ := blk2 (hBN.alloc (.cells #[.int .i64 3, .string ⟨#[114]⟩, .int .i64 0, .int .i64 0, .slice none 0 0] 29))
  obtain ⟨m0, m1, m2, m3⟩ := blk2 hBM
  go_enter Try.func71, Try.ntmps71
  go_wp2_with fail
  rw [← HN.out]
  go_region_law ((refine step_allR rfl (.tmp 31) (.tmp 38) (by rfl) (F := F2) hfM (hS.alloc _) (by rfl) (some ⟨w.heap.size + 2 + 1, 0, none⟩) 1 1 [[ndP 2]] [.slice (some ⟨w.heap.size + 2, 0, none⟩) 1 1] (by rfl) (sat_heapF _) hrd (RowsV.one (Nat.le_refl _) hNo) hln (by simp; omega) ?_; intro v2 w2 hO2 hF2 hb2 hg2' hat2; have hg2 : ((N.alloc (.cells #[.int .i64 3, .string ⟨#[114]⟩, .int .i64 0, .int .i64 0, .slice none 0 0] 29)).alloc (.cells #[.slice (some ⟨w.heap.size + 2, 0, none⟩) 1 1] 23)).grownBy w2 _ := gb_src hg2' rfl rfl rfl rfl; rw [HMEM.out] at hO2; obtain ⟨A2, c2, hv2, _⟩ := hO2.shape; rw [length_memL] at hv2; subst hv2; obtain ⟨p0, p1, p2, p3⟩ := blk2 (hBM.grown hg2 (fun e => by have := hlf _ e.symm; omega)); obtain ⟨q0, q1, q2, q3⟩ := blk2 (hRM.grown hg2 (fun e => by have := hlf _ e.symm; omega))))
  all_goals go_wp2_with fail
  all_goals exact bodyPost_ret (v := .agg #[.slice A2 (f.length + 1) c2, .slice A' (r.length) c']) (by simp [results, Try.results71, go_sem, p0, p1, q0, q1]) rfl ⟨_, _, _, _, _, rfl, fin3 hO2 (hrM.kept hg2 hap.or) (hap.push (fun g h => by have := hlr g h; simp; omega) hat2) (by refine Below.trans ?_ hb2; exact bel_eqv hbM rfl rfl rfl rfl) hF2 hle w.heap.size hw ((hput _ (by omega)).trans HG0.out) ((hput _ (by omega)).trans HG1.out) (fun g h => by rcases hat2 with e | e <;> rw [h] at e; (· have := hlf g e.symm; omega); (· simp at e; omega)) (fun g h => by have := hlr g h; omega) _ _ _ _⟩
set_option maxRecDepth 100000 in
set_option maxHeartbeats 4000000 in
theorem add_3_0 {F : Fz} {w0 w : World} (hF : Sat F w) (hw : w0.heap.size ≤ w.heap.size) (f r : List Tr) (hs : totT f + totT r ≤ 900) (A A' : Option Addr) (c c' : Nat)
    (hf : OwnR F w w0.heap.size (.slice A f.length c) (memL f)) (hr : OwnR F w w0.heap.size (.slice A' r.length c') (memL r)) (hap : Apart (.slice A f.length c) (.slice A' r.length c')) (arg : Nat) (harg : arg ≤ 3000) (hm : (arg : Int) % 3 = 0) :
    Calls Try.prog 71 #[.agg #[.slice A f.length c, .slice A' r.length c'], .int .i64 (3 : Int), .int .i64 (arg : Int)] w (RetA F w0 w (.leaf (ndP 0) :: f, r)) := by
  obtain ⟨N, hN⟩ : ∃ N, N = (w.alloc (.cells #[.slice A f.length c, .slice A' r.length c'] 77)).alloc (.cells #[.slice none 0 0, .slice none 0 0] 77) := ⟨_, rfl⟩
  have hbN : Below w0.heap.size w N := hN ▸ (((Below.refl _ _).alloc hw _).alloc (by simp; omega) _)
  have hFN : Sat F N := hN ▸ ((hF.alloc _).alloc _)
  have hfN : OwnR F N w0.heap.size (.slice A f.length c) (memL f) := hN ▸ ((hf.alloc _).alloc _)
  have hrN : OwnR F N w0.heap.size (.slice A' r.length c') (memL r) := hN ▸ ((hr.alloc _).alloc _)
  have hBN : Blk N w.heap.size 77 #[.slice A f.length c, .slice A' r.length c'] := hN ▸ ((Blk.new _ _ _).alloc _)
  have hRN : Blk N (w.heap.size + 1) 77 #[.slice none 0 0, .slice none 0 0] := hN ▸ (Blk.new2 _ _ _ _)
  have hzN : N.heap.size = w.heap.size + 2 := by rw [hN]; simp
  have hlr := fun g h => (hr.lt g h).2
  have hlf := fun g h => (hf.lt g h).2
  have hg0 : F w.heap.size = none := hF.none_ (Nat.le_refl _)
  have hg1 : F (w.heap.size + 1) = none := hF.none_ (Nat.le_succ _)
  have HG0 := Lib.hid hg0
  have HG1 := Lib.hid hg1
  have HN := Lib.hid hN
  clear hN hf hr hg0 hg1
  obtain ⟨o, hS, hNo⟩ := freeze_one (hFN.alloc _) (Blk.new N 29 #[.int .i64 3, .string ⟨#[112]⟩, .int .i64 0, .int .i64 0, .slice none 0 0])
  rw [hzN] at hS hNo
  have hle : Fle w0 F (F.put (w.heap.size + 2) o) := Fle.put o (hFN.none_ (by omega)) (by omega)
  have hput : ∀ g, g < w.heap.size + 2 → (F.put (w.heap.size + 2) o) g = F g := fun g h => by unfold Fz.put; rw [if_neg (by omega)]
  generalize hF2e : F.put (w.heap.size + 2) o = F2 at *
  have hB3 := Blk.new2 N (.cells #[.int .i64 3, .string ⟨#[112]⟩, .int .i64 0, .int .i64 0, .slice none 0 0] 29) 23 #[.slice (some ⟨w.heap.size + 2, 0, none⟩) 1 1]
  rw [hzN] at hB3
  have hrd := rd_one hB3
  have hrM := ((hrN.alloc (.cells #[.int .i64 3, .string ⟨#[112]⟩, .int .i64 0, .int .i64 0, .slice none 0 0] 29)).alloc (.cells #[.slice (some ⟨w.heap.size + 2, 0, none⟩) 1 1] 23)).le2 hle.cle (fun g h => hput g (by have := hlr g h; omega))
  have hfM := ((hfN.alloc (.cells #[.int .i64 3, .string ⟨#[112]⟩, .int .i64 0, .int .i64 0, .slice none 0 0] 29)).alloc (.cells #[.slice (some ⟨w.heap.size + 2, 0, none⟩) 1 1] 23)).le2 hle.cle (fun g h => hput g (by have := hlf g h; omega))
  have hBM := (hBN.alloc (.cells #[.int .i64 3, .string ⟨#[112]⟩, .int .i64 0, .int .i64 0, .slice none 0 0] 29)).alloc (.cells #[.slice (some ⟨w.heap.size + 2, 0, none⟩) 1 1] 23)
  have hRM := (hRN.alloc (.cells #[.int .i64 3, .string ⟨#[112]⟩, .int .i64 0, .int .i64 0, .slice none 0 0] 29)).alloc (.cells #[.slice (some ⟨w.heap.size + 2, 0, none⟩) 1 1] 23)
  have hbM := (hbN.alloc (o := .cells #[.int .i64 3, .string ⟨#[112]⟩, .int .i64 0, .int .i64 0, .slice none 0 0] 29) (Nat.le_trans hw hbN.size)).alloc (o := .cells #[.slice (some ⟨w.heap.size + 2, 0, none⟩) 1 1] 23) (by simp; have := hbN.size; omega)
  have hln : (memL f).length + 1 ≤ 1000000 := by have := totT_len f; rw [length_memL]; omega
  have HMEM : Hid (memL f ++ [[ndP 0]] = memL (.leaf (ndP 0) :: f)) := Lib.hid (memL_cons (.leaf (ndP 0)) f).symm
  have HF2 := Lib.hid hF2e
  clear hF2e
  have hix : ∀ W : World, (Instr.index 136 (.agg #[.string ⟨#[112]⟩, .string ⟨#[113]⟩, .string ⟨#[114]⟩]) (.int .i64 0)).run Try.prog W = .ok (.string ⟨#[112]⟩) W := fun W => by simp [Instr.index, run_underlying Try.underlying136, asIntOf, go_sem, part]
  have hmt : (arg : Int).tmod 3 = 0 := by rw [Int.tmod_eq_emod_of_nonneg (by omega)]; exact hm
  obtain ⟨k0, k1, k2, k3⟩ := blk2 hBN
  obtain ⟨a0, a1, a2, a3⟩ := blk2 (hBN.alloc (.cells #[.int .i64 3, .string ⟨#[112]⟩, .int .i64 0, .int .i64 0, .slice none 0 0] 29))
  obtain ⟨m0, m1, m2, m3⟩ := blk2 hBM
  go_enter Try.func71, Try.ntmps71
  go_wp2_with fail
  rw [← HN.out]
  go_region_law ((refine step_allR rfl (.tmp 31) (.tmp 38) (by rfl) (F := F2) hfM (hS.alloc _) (by rfl) (some ⟨w.heap.size + 2 + 1, 0, none⟩) 1 1 [[ndP 0]] [.slice (some ⟨w.heap.size + 2, 0, none⟩) 1 1] (by rfl) (sat_heapF _) hrd (RowsV.one (Nat.le_refl _) hNo) hln (by simp; omega) ?_; intro v2 w2 hO2 hF2 hb2 hg2' hat2; have hg2 : ((N.alloc (.cells #[.int .i64 3, .string ⟨#[112]⟩, .int .i64 0, .int .i64 0, .slice none 0 0] 29)).alloc (.cells #[.slice (some ⟨w.heap.size + 2, 0, none⟩) 1 1] 23)).grownBy w2 _ := gb_src hg2' rfl rfl rfl rfl; rw [HMEM.out] at hO2; obtain ⟨A2, c2, hv2, _⟩ := hO2.shape; rw [length_memL] at hv2; subst hv2; obtain ⟨p0, p1, p2, p3⟩ := blk2 (hBM.grown hg2 (fun e => by have := hlf _ e.symm; omega)); obtain ⟨q0, q1, q2, q3⟩ := blk2 (hRM.grown hg2 (fun e => by have := hlf _ e.symm; omega))))
  all_goals go_wp2_with fail
  all_goals exact bodyPost_ret (v := .agg #[.slice A2 (f.length + 1) c2, .slice A' (r.length) c']) (by simp [results, Try.results71, go_sem, p0, p1, q0, q1]) rfl ⟨_, _, _, _, _, rfl, fin3 hO2 (hrM.kept hg2 hap.or) (hap.push (fun g h => by have := hlr g h; simp; omega) hat2) (by refine Below.trans ?_ hb2; exact bel_eqv hbM rfl rfl rfl rfl) hF2 hle w.heap.size hw ((hput _ (by omega)).trans HG0.out) ((hput _ (by omega)).trans HG1.out) (fun g h => by rcases hat2 with e | e <;> rw [h] at e; (· have := hlf g e.symm; omega); (· simp at e; omega)) (fun g h => by have := hlr g h; omega) _ _ _ _⟩
set_option maxRecDepth 100000 in
set_option maxHeartbeats 4000000 in
theorem add_3_1 {F : Fz} {w0 w : World} (hF : Sat F w) (hw : w0.heap.size ≤ w.heap.size) (f r : List Tr) (hs : totT f + totT r ≤ 900) (A A' : Option Addr) (c c' : Nat)
    (hf : OwnR F w w0.heap.size (.slice A f.length c) (memL f)) (hr : OwnR F w w0.heap.size (.slice A' r.length c') (memL r)) (hap : Apart (.slice A f.length c) (.slice A' r.length c')) (arg : Nat) (harg : arg ≤ 3000) (hm : (arg : Int) % 3 = 1) :
    Calls Try.prog 71 #[.agg #[.slice A f.length c, .slice A' r.length c'], .int .i64 (3 : Int), .int .i64 (arg : Int)] w (RetA F w0 w (.leaf (ndP 1) :: f, r)) := by
  obtain ⟨N, hN⟩ : ∃ N, N = (w.alloc (.cells #[.slice A f.length c, .slice A' r.length c'] 77)).alloc (.cells #[.slice none 0 0, .slice none 0 0] 77) := ⟨_, rfl⟩
  have hbN : Below w0.heap.size w N := hN ▸ (((Below.refl _ _).alloc hw _).alloc (by simp; omega) _)
  have hFN : Sat F N := hN ▸ ((hF.alloc _).alloc _)
  have hfN : OwnR F N w0.heap.size (.slice A f.length c) (memL f) := hN ▸ ((hf.alloc _).alloc _)
  have hrN : OwnR F N w0.heap.size (.slice A' r.length c') (memL r) := hN ▸ ((hr.alloc _).alloc _)
  have hBN : Blk N w.heap.size 77 #[.slice A f.length c, .slice A' r.length c'] := hN ▸ ((Blk.new _ _ _).alloc _)
  have hRN : Blk N (w.heap.size + 1) 77 #[.slice none 0 0, .slice none 0 0] := hN ▸ (Blk.new2 _ _ _ _)
  have hzN : N.heap.size = w.heap.size + 2 := by rw [hN]; simp
  have hlr := fun g h => (hr.lt g h).2
  have hlf := fun g h => (hf.lt g h).2
  have hg0 : F w.heap.size = none := hF.none_ (Nat.le_refl _)
  have hg1 : F (w.heap.size + 1) = none := hF.none_ (Nat.le_succ _)
  have HG0 := Lib.hid hg0
  have HG1 := Lib.hid hg1
  have HN := Lib.hid hN
  clear hN hf hr hg0 hg1
  obtain ⟨o, hS, hNo⟩ := freeze_one (hFN.alloc _) (Blk.new N 29 #[.int .i64 3, .string ⟨#[113]⟩, .int .i64 0, .int .i64 0, .slice none 0 0])
  rw [hzN] at hS hNo
  have hle : Fle w0 F (F.put (w.heap.size + 2) o) := Fle.put o (hFN.none_ (by omega)) (by omega)
  have hput : ∀ g, g < w.heap.size + 2 → (F.put (w.heap.size + 2) o) g = F g := fun g h => by unfold Fz.put; rw [if_neg (by omega)]
  generalize hF2e : F.put (w.heap.size + 2) o = F2 at *
  have hB3 := Blk.new2 N (.cells #[.int .i64 3, .string ⟨#[113]⟩, .int .i64 0, .int .i64 0, .slice none 0 0] 29) 23 #[.slice (some ⟨w.heap.size + 2, 0, none⟩) 1 1]
  rw [hzN] at hB3
  have hrd := rd_one hB3
  have hrM := ((hrN.alloc (.cells #[.int .i64 3, .string ⟨#[113]⟩, .int .i64 0, .int .i64 0, .slice none 0 0] 29)).alloc (.cells #[.slice (some ⟨w.heap.size + 2, 0, none⟩) 1 1] 23)).le2 hle.cle (fun g h => hput g (by have := hlr g h; omega))
  have hfM := ((hfN.alloc (.cells #[.int .i64 3, .string ⟨#[113]⟩, .int .i64 0, .int .i64 0, .slice none 0 0] 29)).alloc (.cells #[.slice (some ⟨w.heap.size + 2, 0, none⟩) 1 1] 23)).le2 hle.cle (fun g h => hput g (by have := hlf g h; omega))
  have hBM := (hBN.alloc (.cells #[.int .i64 3, .string ⟨#[113]⟩, .int .i64 0, .int .i64 0, .slice none 0 0] 29)).alloc (.cells #[.slice (some ⟨w.heap.size + 2, 0, none⟩) 1 1] 23)
  have hRM := (hRN.alloc (.cells #[.int .i64 3, .string ⟨#[113]⟩, .int .i64 0, .int .i64 0, .slice none 0 0] 29)).alloc (.cells #[.slice (some ⟨w.heap.size + 2, 0, none⟩) 1 1] 23)
  have hbM := (hbN.alloc (o := .cells #[.int .i64 3, .string ⟨#[113]⟩, .int .i64 0, .int .i64 0, .slice none 0 0] 29) (Nat.le_trans hw hbN.size)).alloc (o := .cells #[.slice (some ⟨w.heap.size + 2, 0, none⟩) 1 1] 23) (by simp; have := hbN.size; omega)
  have hln : (memL f).length + 1 ≤ 1000000 := by have := totT_len f; rw [length_memL]; omega
  have HMEM : Hid (memL f ++ [[ndP 1]] = memL (.leaf (ndP 1) :: f)) := Lib.hid (memL_cons (.leaf (ndP 1)) f).symm
  have HF2 := Lib.hid hF2e
  clear hF2e
  have hix : ∀ W : World, (Instr.index 136 (.agg #[.string ⟨#[112]⟩, .string ⟨#[113]⟩, .string ⟨#[114]⟩]) (.int .i64 1)).run Try.prog W = .ok (.string ⟨#[113]⟩) W := fun W => by simp [Instr.index, run_underlying Try.underlying136, asIntOf, go_sem, part]
  have hmt : (arg : Int).tmod 3 = 1 := by rw [Int.tmod_eq_emod_of_nonneg (by omega)]; exact hm
  obtain ⟨k0, k1, k2, k3⟩ := blk2 hBN
  obtain ⟨a0, a1, a2, a3⟩ := blk2 (hBN.alloc (.cells #[.int .i64 3, .string ⟨#[113]⟩, .int .i64 0, .int .i64 0, .slice none 0 0] 29))
  obtain ⟨m0, m1, m2, m3⟩ := blk2 hBM
  go_enter Try.func71, Try.ntmps71
  go_wp2_with fail
  rw [← HN.out]
  go_region_law ((refine step_allR rfl (.tmp 31) (.tmp 38) (by rfl) (F := F2) hfM (hS.alloc _) (by rfl) (some ⟨w.heap.size + 2 + 1, 0, none⟩) 1 1 [[ndP 1]] [.slice (some ⟨w.heap.size + 2, 0, none⟩) 1 1] (by rfl) (sat_heapF _) hrd (RowsV.one (Nat.le_refl _) hNo) hln (by simp; omega) ?_; intro v2 w2 hO2 hF2 hb2 hg2' hat2; have hg2 : ((N.alloc (.cells #[.int .i64 3, .string ⟨#[113]⟩, .int .i64 0, .int .i64 0, .slice none 0 0] 29)).alloc (.cells #[.slice (some ⟨w.heap.size + 2, 0, none⟩) 1 1] 23)).grownBy w2 _ := gb_src hg2' rfl rfl rfl rfl; rw [HMEM.out] at hO2; obtain ⟨A2, c2, hv2, _⟩ := hO2.shape; rw [length_memL] at hv2; subst hv2; obtain ⟨p0, p1, p2, p3⟩ := blk2 (hBM.grown hg2 (fun e => by have := hlf _ e.symm; omega)); obtain ⟨q0, q1, q2, q3⟩ := blk2 (hRM.grown hg2 (fun e => by have := hlf _ e.symm; omega))))
  all_goals go_wp2_with fail
  all_goals exact bodyPost_ret (v := .agg #[.slice A2 (f.length + 1) c2, .slice A' (r.length) c']) (by simp [results, Try.results71, go_sem, p0, p1, q0, q1]) rfl ⟨_, _, _, _, _, rfl, fin3 hO2 (hrM.kept hg2 hap.or) (hap.push (fun g h => by have := hlr g h; simp; omega) hat2) (by refine Below.trans ?_ hb2; exact bel_eqv hbM rfl rfl rfl rfl) hF2 hle w.heap.size hw ((hput _ (by omega)).trans HG0.out) ((hput _ (by omega)).trans HG1.out) (fun g h => by rcases hat2 with e | e <;> rw [h] at e; (· have := hlf g e.symm; omega); (· simp at e; omega)) (fun g h => by have := hlr g h; omega) _ _ _ _⟩
set_option maxRecDepth 100000 in
set_option maxHeartbeats 4000000 in
theorem add_3_2 {F : Fz} {w0 w : World} (hF : Sat F w) (hw : w0.heap.size ≤ w.heap.size) (f r : List Tr) (hs : totT f + totT r ≤ 900) (A A' : Option Addr) (c c' : Nat)
    (hf : OwnR F w w0.heap.size (.slice A f.length c) (memL f)) (hr : OwnR F w w0.heap.size (.slice A' r.length c') (memL r)) (hap : Apart (.slice A f.length c) (.slice A' r.length c')) (arg : Nat) (harg : arg ≤ 3000) (hm : (arg : Int) % 3 = 2) :
    Calls Try.prog 71 #[.agg #[.slice A f.length c, .slice A' r.length c'], .int .i64 (3 : Int), .int .i64 (arg : Int)] w (RetA F w0 w (.leaf (ndP 2) :: f, r)) := by
  obtain ⟨N, hN⟩ : ∃ N, N = (w.alloc (.cells #[.slice A f.length c, .slice A' r.length c'] 77)).alloc (.cells #[.slice none 0 0, .slice none 0 0] 77) := ⟨_, rfl⟩
  have hbN : Below w0.heap.size w N := hN ▸ (((Below.refl _ _).alloc hw _).alloc (by simp; omega) _)
  have hFN : Sat F N := hN ▸ ((hF.alloc _).alloc _)
  have hfN : OwnR F N w0.heap.size (.slice A f.length c) (memL f) := hN ▸ ((hf.alloc _).alloc _)
  have hrN : OwnR F N w0.heap.size (.slice A' r.length c') (memL r) := hN ▸ ((hr.alloc _).alloc _)
  have hBN : Blk N w.heap.size 77 #[.slice A f.length c, .slice A' r.length c'] := hN ▸ ((Blk.new _ _ _).alloc _)
  have hRN : Blk N (w.heap.size + 1) 77 #[.slice none 0 0, .slice none 0 0] := hN ▸ (Blk.new2 _ _ _ _)
  have hzN : N.heap.size = w.heap.size + 2 := by rw [hN]; simp
  have hlr := fun g h => (hr.lt g h).2
  have hlf := fun g h => (hf.lt g h).2
  have hg0 : F w.heap.size = none := hF.none_ (Nat.le_refl _)
  have hg1 : F (w.heap.size + 1) = none := hF.none_ (Nat.le_succ _)
  have HG0 := Lib.hid hg0
  have HG1 := Lib.hid hg1
  have HN := Lib.hid hN
  clear hN hf hr hg0 hg1
  obtain ⟨o, hS, hNo⟩ := freeze_one (hFN.alloc _) (Blk.new N 29 #[.int .i64 3, .string ⟨#[114]⟩, .int .i64 0, .int .i64 0, .slice none 0 0])
  rw [hzN] at hS hNo
  have hle : Fle w0 F (F.put (w.heap.size + 2) o) := Fle.put o (hFN.none_ (by omega)) (by omega)
  have hput : ∀ g, g < w.heap.size + 2 → (F.put (w.heap.size + 2) o) g = F g := fun g h => by unfold Fz.put; rw [if_neg (by omega)]
  generalize hF2e : F.put (w.heap.size + 2) o = F2 at *
  have hB3 := Blk.new2 N (.cells #[.int .i64 3, .string ⟨#[114]⟩, .int .i64 0, .int .i64 0, .slice none 0 0] 29) 23 #[.slice (some ⟨w.heap.size + 2, 0, none⟩) 1 1]
  rw [hzN] at hB3
  have hrd := rd_one hB3
  have hrM := ((hrN.alloc (.cells #[.int .i64 3, .string ⟨#[114]⟩, .int .i64 0, .int .i64 0, .slice none 0 0] 29)).alloc (.cells #[.slice (some ⟨w.heap.size + 2, 0, none⟩) 1 1] 23)).le2 hle.cle (fun g h => hput g (by have := hlr g h; omega))
  have hfM := ((hfN.alloc (.cells #[.int .i64 3, .string ⟨#[114]⟩, .int .i64 0, .int .i64 0, .slice none 0 0] 29)).alloc (.cells #[.slice (some ⟨w.heap.size + 2, 0, none⟩) 1 1] 23)).le2 hle.cle (fun g h => hput g (by have := hlf g h; omega))
  have hBM := (hBN.alloc (.cells #[.int .i64 3, .string ⟨#[114]⟩, .int .i64 0, .int .i64 0, .slice none 0 0] 29)).alloc (.cells #[.slice (some ⟨w.heap.size + 2, 0, none⟩) 1 1] 23)
  have hRM := (hRN.alloc (.cells #[.int .i64 3, .string ⟨#[114]⟩, .int .i64 0, .int .i64 0, .slice none 0 0] 29)).alloc (.cells #[.slice (some ⟨w.heap.size + 2, 0, none⟩) 1 1] 23)
  have hbM := (hbN.alloc (o := .cells #[.int .i64 3, .string ⟨#[114]⟩, .int .i64 0, .int .i64 0, .slice none 0 0] 29) (Nat.le_trans hw hbN.size)).alloc (o := .cells #[.slice (some ⟨w.heap.size + 2, 0, none⟩) 1 1] 23) (by simp; have := hbN.size; omega)
  have hln : (memL f).length + 1 ≤ 1000000 := by have := totT_len f; rw [length_memL]; omega
  have HMEM : Hid (memL f ++ [[ndP 2]] = memL (.leaf (ndP 2) :: f)) := Lib.hid (memL_cons (.leaf (ndP 2)) f).symm
  have HF2 := Lib.hid hF2e
  clear hF2e
  have hix : ∀ W : World, (Instr.index 136 (.agg #[.string ⟨#[112]⟩, .string ⟨#[113]⟩, .string ⟨#[114]⟩]) (.int .i64 2)).run Try.prog W = .ok (.string ⟨#[114]⟩) W := fun W => by simp [Instr.index, run_underlying Try.underlying136, asIntOf, go_sem, part]
  have hmt : (arg : Int).tmod 3 = 2 := by rw [Int.tmod_eq_emod_of_nonneg (by omega)]; exact hm
  obtain ⟨k0, k1, k2, k3⟩ := blk2 hBN
  obtain ⟨a0, a1, a2, a3⟩ := blk2 (hBN.alloc (.cells #[.int .i64 3, .string ⟨#[114]⟩, .int .i64 0, .int .i64 0, .slice none 0 0] 29))
  obtain ⟨m0, m1, m2, m3⟩ := blk2 hBM
  go_enter Try.func71, Try.ntmps71
  go_wp2_with fail
  rw [← HN.out]
  go_region_law ((refine step_allR rfl (.tmp 31) (.tmp 38) (by rfl) (F := F2) hfM (hS.alloc _) (by rfl) (some ⟨w.heap.size + 2 + 1, 0, none⟩) 1 1 [[ndP 2]] [.slice (some ⟨w.heap.size + 2, 0, none⟩) 1 1] (by rfl) (sat_heapF _) hrd (RowsV.one (Nat.le_refl _) hNo) hln (by simp; omega) ?_; intro v2 w2 hO2 hF2 hb2 hg2' hat2; have hg2 : ((N.alloc (.cells #[.int .i64 3, .string ⟨#[114]⟩, .int .i64 0, .int .i64 0, .slice none 0 0] 29)).alloc (.cells #[.slice (some ⟨w.heap.size + 2, 0, none⟩) 1 1] 23)).grownBy w2 _ := gb_src hg2' rfl rfl rfl rfl; rw [HMEM.out] at hO2; obtain ⟨A2, c2, hv2, _⟩ := hO2.shape; rw [length_memL] at hv2; subst hv2; obtain ⟨p0, p1, p2, p3⟩ := blk2 (hBM.grown hg2 (fun e => by have := hlf _ e.symm; omega)); obtain ⟨q0, q1, q2, q3⟩ := blk2 (hRM.grown hg2 (fun e => by have := hlf _ e.symm; omega))))
  all_goals go_wp2_with fail
  all_goals exact bodyPost_ret (v := .agg #[.slice A2 (f.length + 1) c2, .slice A' (r.length) c']) (by simp [results, Try.results71, go_sem, p0, p1, q0, q1]) rfl ⟨_, _, _, _, _, rfl, fin3 hO2 (hrM.kept hg2 hap.or) (hap.push (fun g h => by have := hlr g h; simp; omega) hat2) (by refine Below.trans ?_ hb2; exact bel_eqv hbM rfl rfl rfl rfl) hF2 hle w.heap.size hw ((hput _ (by omega)).trans HG0.out) ((hput _ (by omega)).trans HG1.out) (fun g h => by rcases hat2 with e | e <;> rw [h] at e; (· have := hlf g e.symm; omega); (· simp at e; omega)) (fun g h => by have := hlr g h; omega) _ _ _ _⟩
end Go.Proofs.Ytdbbooibkiicnaa
