/- Walks of the pile's add. -/
import Derived.Test.YtdbbooibkiicnaaAddX
set_option linter.unusedVariables false
set_option linter.unusedSimpArgs false
namespace Go.Proofs.Ytdbbooibkiicnaa
open Go.RowKit
attribute [local go_sem ↓] Go.wp_at_zero Go.wp_at_succ
set_option maxRecDepth 100000 in
set_option maxHeartbeats 4000000 in
theorem add_4 {F : Fz} {w0 w : World} (hF : Sat F w) (hw : w0.heap.size ≤ w.heap.size) (t : Tr) (f r : List Tr) (hs : totT (t :: f) + totT (r) ≤ 900) (A A' : Option Addr) (c c' : Nat)
    (hf : OwnR F w w0.heap.size (.slice A (f.length + 1) c) (memL (t :: f))) (hr : OwnR F w w0.heap.size (.slice A' (r.length) c') (memL (r))) (hap : Apart (.slice A (f.length + 1) c) (.slice A' (r.length) c')) (arg : Nat) (harg : arg ≤ 3000) :
    Calls Try.prog 71 #[.agg #[.slice A (f.length + 1) c, .slice A' (r.length) c'], .int .i64 (4 : Int), .int .i64 (arg : Int)] w (RetA F w0 w (.un (ndK 4) t :: f, r)) := by
  obtain ⟨N, hN⟩ : ∃ N, N = (w.alloc (.cells #[.slice A (f.length + 1) c, .slice A' (r.length) c'] 77)).alloc (.cells #[.slice none 0 0, .slice none 0 0] 77) := ⟨_, rfl⟩
  have hbN : Below w0.heap.size w N := hN ▸ (((Below.refl _ _).alloc hw _).alloc (by simp; omega) _)
  have hFN : Sat F N := hN ▸ ((hF.alloc _).alloc _)
  have hfN : OwnR F N w0.heap.size (.slice A (f.length + 1) c) (memL (t :: f)) := hN ▸ ((hf.alloc _).alloc _)
  have hrN : OwnR F N w0.heap.size (.slice A' (r.length) c') (memL (r)) := hN ▸ ((hr.alloc _).alloc _)
  have hBN : Blk N w.heap.size 77 #[.slice A (f.length + 1) c, .slice A' (r.length) c'] := hN ▸ ((Blk.new _ _ _).alloc _)
  have hRN : Blk N (w.heap.size + 1) 77 #[.slice none 0 0, .slice none 0 0] := hN ▸ (Blk.new2 _ _ _ _)
  have hzN : N.heap.size = w.heap.size + 2 := by rw [hN]; simp
  have hlr := fun g h => (hr.lt g h).2
  have hlf := fun g h => (hf.lt g h).2
  have hg0 : F w.heap.size = none := hF.none_ (Nat.le_refl _)
  have hg1 : F (w.heap.size + 1) = none := hF.none_ (Nat.le_succ _)
  (try simp only [totT_cons] at hs)
  have HG0 := Lib.hid hg0
  have HG1 := Lib.hid hg1
  have HN := Lib.hid hN
  clear hN hf hr hg0 hg1
  have HC := Lib.hid (fun (X : World) (G : Fz) (h : Sat G X) (h2 : OwnR G X w0.heap.size (.slice A (f.length + 1) c) (memL (t :: f))) => row_one h (by rw [totT_cons]; omega) h2 (ndK 4) none 0 0)
  go_enter Try.func71, Try.ntmps71
  go_wp2_with (go_at_call 107; rw [← HN.out]; refine (HC.out N F hFN hfN).mono ?_; rintro e w2 ⟨A2, c2, F2, rfl, hO2, hb2, hF2, hle2⟩; obtain ⟨k0, k1, k2, k3⟩ := blk2 (hBN.call hb2); obtain ⟨q0, q1, q2, q3⟩ := blk2 (hRN.call hb2))
  all_goals exact bodyPost_ret (v := .agg #[.slice A2 (f.length + 1) c2, .slice A' (r.length) c']) (by simp [results, Try.results71, go_sem, k0, k1, q0, q1]) rfl ⟨_, _, _, _, _, rfl, fin3 (hO2.base (by have := hbN.size; omega)) (((hrN.le hle2).call hb2)) (apart_lt (S := N.heap.size) (fun g h => by have := (hO2.lt g h).1; omega) (fun g h => by have := hlr g h; omega)) (hbN.trans (hb2.mono (Nat.le_trans hw hbN.size))) hF2 (oldF hle2 (by have := hbN.size; omega)) w.heap.size hw ((hle2.2 _ (by omega)).trans HG0.out) ((hle2.2 _ (by omega)).trans HG1.out) (fun g h => by have := (hO2.lt g h).1; omega) (fun g h => by have := hlr g h; omega) _ _ _ _⟩
set_option maxRecDepth 100000 in
set_option maxHeartbeats 4000000 in
theorem add_4_0 {F : Fz} {w0 w : World} (hF : Sat F w) (hw : w0.heap.size ≤ w.heap.size) (r : List Tr) (hs : totT ([]) + totT (r) ≤ 900) (A A' : Option Addr) (c c' : Nat)
    (hf : OwnR F w w0.heap.size (.slice A (0) c) (memL ([]))) (hr : OwnR F w w0.heap.size (.slice A' (r.length) c') (memL (r))) (hap : Apart (.slice A (0) c) (.slice A' (r.length) c')) (arg : Nat) (harg : arg ≤ 3000) :
    Calls Try.prog 71 #[.agg #[.slice A (0) c, .slice A' (r.length) c'], .int .i64 (4 : Int), .int .i64 (arg : Int)] w (RetA F w0 w ([], r)) := by
  obtain ⟨N, hN⟩ : ∃ N, N = (w.alloc (.cells #[.slice A (0) c, .slice A' (r.length) c'] 77)).alloc (.cells #[.slice none 0 0, .slice none 0 0] 77) := ⟨_, rfl⟩
  have hbN : Below w0.heap.size w N := hN ▸ (((Below.refl _ _).alloc hw _).alloc (by simp; omega) _)
  have hFN : Sat F N := hN ▸ ((hF.alloc _).alloc _)
  have hfN : OwnR F N w0.heap.size (.slice A (0) c) (memL ([])) := hN ▸ ((hf.alloc _).alloc _)
  have hrN : OwnR F N w0.heap.size (.slice A' (r.length) c') (memL (r)) := hN ▸ ((hr.alloc _).alloc _)
  have hBN : Blk N w.heap.size 77 #[.slice A (0) c, .slice A' (r.length) c'] := hN ▸ ((Blk.new _ _ _).alloc _)
  have hRN : Blk N (w.heap.size + 1) 77 #[.slice none 0 0, .slice none 0 0] := hN ▸ (Blk.new2 _ _ _ _)
  have hzN : N.heap.size = w.heap.size + 2 := by rw [hN]; simp
  have hlr := fun g h => (hr.lt g h).2
  have hlf := fun g h => (hf.lt g h).2
  have hg0 : F w.heap.size = none := hF.none_ (Nat.le_refl _)
  have hg1 : F (w.heap.size + 1) = none := hF.none_ (Nat.le_succ _)
  (try simp only [totT_cons] at hs)
  have HG0 := Lib.hid hg0
  have HG1 := Lib.hid hg1
  have HN := Lib.hid hN
  clear hN hf hr hg0 hg1
  go_enter Try.func71, Try.ntmps71
  go_wp2_with (go_at_call 107; rw [← HN.out]; refine (one_nil (w := N) A c (ndK 4) none 0 0).mono ?_; rintro e w2 ⟨rfl, hb2⟩; obtain ⟨k0, k1, k2, k3⟩ := blk2 (hBN.call hb2); obtain ⟨q0, q1, q2, q3⟩ := blk2 (hRN.call hb2))
  all_goals exact bodyPost_ret (v := .agg #[.slice A (0) c, .slice A' (r.length) c']) (by simp [results, Try.results71, go_sem, k0, k1, q0, q1]) rfl ⟨_, _, _, _, _, rfl, fin3 (hfN.call hb2) (hrN.call hb2) hap (hbN.trans (hb2.mono (Nat.le_trans hw hbN.size))) (hFN.below hb2) (Fle.refl _ _) w.heap.size hw HG0.out HG1.out (fun g h => by have := hlf g h; omega) (fun g h => by have := hlr g h; omega) _ _ _ _⟩
set_option maxRecDepth 100000 in
set_option maxHeartbeats 4000000 in
theorem add_8 {F : Fz} {w0 w : World} (hF : Sat F w) (hw : w0.heap.size ≤ w.heap.size) (t : Tr) (f r : List Tr) (hs : totT (t :: f) + totT (r) ≤ 900) (A A' : Option Addr) (c c' : Nat)
    (hf : OwnR F w w0.heap.size (.slice A (f.length + 1) c) (memL (t :: f))) (hr : OwnR F w w0.heap.size (.slice A' (r.length) c') (memL (r))) (hap : Apart (.slice A (f.length + 1) c) (.slice A' (r.length) c')) (arg : Nat) (harg : arg ≤ 3000) :
    Calls Try.prog 71 #[.agg #[.slice A (f.length + 1) c, .slice A' (r.length) c'], .int .i64 (8 : Int), .int .i64 (arg : Int)] w (RetA F w0 w (.un (ndS 8 (spanLo arg) (spanHi arg)) t :: f, r)) := by
  obtain ⟨N, hN⟩ : ∃ N, N = (w.alloc (.cells #[.slice A (f.length + 1) c, .slice A' (r.length) c'] 77)).alloc (.cells #[.slice none 0 0, .slice none 0 0] 77) := ⟨_, rfl⟩
  have hbN : Below w0.heap.size w N := hN ▸ (((Below.refl _ _).alloc hw _).alloc (by simp; omega) _)
  have hFN : Sat F N := hN ▸ ((hF.alloc _).alloc _)
  have hfN : OwnR F N w0.heap.size (.slice A (f.length + 1) c) (memL (t :: f)) := hN ▸ ((hf.alloc _).alloc _)
  have hrN : OwnR F N w0.heap.size (.slice A' (r.length) c') (memL (r)) := hN ▸ ((hr.alloc _).alloc _)
  have hBN : Blk N w.heap.size 77 #[.slice A (f.length + 1) c, .slice A' (r.length) c'] := hN ▸ ((Blk.new _ _ _).alloc _)
  have hRN : Blk N (w.heap.size + 1) 77 #[.slice none 0 0, .slice none 0 0] := hN ▸ (Blk.new2 _ _ _ _)
  have hzN : N.heap.size = w.heap.size + 2 := by rw [hN]; simp
  have hlr := fun g h => (hr.lt g h).2
  have hlf := fun g h => (hf.lt g h).2
  have hg0 : F w.heap.size = none := hF.none_ (Nat.le_refl _)
  have hg1 : F (w.heap.size + 1) = none := hF.none_ (Nat.le_succ _)
  (try simp only [totT_cons] at hs)
  have HG0 := Lib.hid hg0
  have HG1 := Lib.hid hg1
  have HN := Lib.hid hN
  clear hN hf hr hg0 hg1
  have HC := Lib.hid (fun (X : World) (G : Fz) (h : Sat G X) (h2 : OwnR G X w0.heap.size (.slice A (f.length + 1) c) (memL (t :: f))) => row_one h (by rw [totT_cons]; omega) h2 (ndS 8 (spanLo arg) (spanHi arg)) none 0 0)
  obtain ⟨k0, k1, k2, k3⟩ := blk2 hBN
  obtain ⟨q0, q1, q2, q3⟩ := blk2 hRN
  have hgl : w.heap.size < N.heap.size := by omega
  go_enter Try.func71, Try.ntmps71
  go_wp2_with fail
  rw [← HN.out]
  go_region_with (first
      | (go_at_call 109; refine (span_w (arg : Int) (by omega) (by omega) _).mono ?_; rintro e w1 ⟨rfl, hb1'⟩; have hb1 : Below N.heap.size N w1 := (by refine bel_trans ?_ hb1'; exact bel_eqv (Below.refl _ N) rfl rfl rfl rfl); have hs1 := hb1.size; obtain ⟨k0, k1, k2, k3⟩ := blk2 (hBN.call hb1); obtain ⟨q0, q1, q2, q3⟩ := blk2 (hRN.call hb1))
      | (go_at_call 107; refine (HC.out _ F (hFN.below hb1) (hfN.call hb1)).mono ?_; rintro e w2 ⟨A2, c2, F2, rfl, hO2, hb2', hF2, hle2'⟩; have hb2 : Below w1.heap.size w1 w2 := (by refine bel_trans ?_ hb2'; exact bel_eqv (Below.refl _ w1) rfl rfl rfl rfl); have hle2 : Fle w1 F F2 := hle2'; have hs2 := hb2.size; obtain ⟨k0, k1, k2, k3⟩ := blk2 ((hBN.call hb1).call hb2); obtain ⟨q0, q1, q2, q3⟩ := blk2 ((hRN.call hb1).call hb2)))
  all_goals go_wp2_with fail
  all_goals exact bodyPost_ret (v := .agg #[.slice A2 (f.length + 1) c2, .slice A' (r.length) c']) (by simp [results, Try.results71, go_sem, k0, k1, q0, q1]) rfl ⟨_, _, _, _, _, rfl, fin3 (hO2.base (by have := hbN.size; have := hb1.size; have := hb2.size; omega)) ((((hrN.call hb1).le hle2).call hb2)) (apart_lt (S := N.heap.size) (fun g h => by have := (hO2.lt g h).1; have := hb1.size; omega) (fun g h => by have := hlr g h; omega)) ((hbN.trans (hb1.mono (Nat.le_trans hw hbN.size))).trans (hb2.mono (Nat.le_trans hw (Nat.le_trans hbN.size hb1.size)))) hF2 (oldF hle2 (by have := hbN.size; have := hb1.size; omega)) w.heap.size hw ((hle2.2 _ (by have := hb1.size; omega)).trans HG0.out) ((hle2.2 _ (by have := hb1.size; omega)).trans HG1.out) (fun g h => by have := (hO2.lt g h).1; have := hb1.size; omega) (fun g h => by have := hlr g h; omega) _ _ _ _⟩
set_option maxRecDepth 100000 in
set_option maxHeartbeats 4000000 in
theorem add_8_0 {F : Fz} {w0 w : World} (hF : Sat F w) (hw : w0.heap.size ≤ w.heap.size) (r : List Tr) (hs : totT ([]) + totT (r) ≤ 900) (A A' : Option Addr) (c c' : Nat)
    (hf : OwnR F w w0.heap.size (.slice A (0) c) (memL ([]))) (hr : OwnR F w w0.heap.size (.slice A' (r.length) c') (memL (r))) (hap : Apart (.slice A (0) c) (.slice A' (r.length) c')) (arg : Nat) (harg : arg ≤ 3000) :
    Calls Try.prog 71 #[.agg #[.slice A (0) c, .slice A' (r.length) c'], .int .i64 (8 : Int), .int .i64 (arg : Int)] w (RetA F w0 w ([], r)) := by
  obtain ⟨N, hN⟩ : ∃ N, N = (w.alloc (.cells #[.slice A (0) c, .slice A' (r.length) c'] 77)).alloc (.cells #[.slice none 0 0, .slice none 0 0] 77) := ⟨_, rfl⟩
  have hbN : Below w0.heap.size w N := hN ▸ (((Below.refl _ _).alloc hw _).alloc (by simp; omega) _)
  have hFN : Sat F N := hN ▸ ((hF.alloc _).alloc _)
  have hfN : OwnR F N w0.heap.size (.slice A (0) c) (memL ([])) := hN ▸ ((hf.alloc _).alloc _)
  have hrN : OwnR F N w0.heap.size (.slice A' (r.length) c') (memL (r)) := hN ▸ ((hr.alloc _).alloc _)
  have hBN : Blk N w.heap.size 77 #[.slice A (0) c, .slice A' (r.length) c'] := hN ▸ ((Blk.new _ _ _).alloc _)
  have hRN : Blk N (w.heap.size + 1) 77 #[.slice none 0 0, .slice none 0 0] := hN ▸ (Blk.new2 _ _ _ _)
  have hzN : N.heap.size = w.heap.size + 2 := by rw [hN]; simp
  have hlr := fun g h => (hr.lt g h).2
  have hlf := fun g h => (hf.lt g h).2
  have hg0 : F w.heap.size = none := hF.none_ (Nat.le_refl _)
  have hg1 : F (w.heap.size + 1) = none := hF.none_ (Nat.le_succ _)
  (try simp only [totT_cons] at hs)
  have HG0 := Lib.hid hg0
  have HG1 := Lib.hid hg1
  have HN := Lib.hid hN
  clear hN hf hr hg0 hg1
  obtain ⟨k0, k1, k2, k3⟩ := blk2 hBN
  obtain ⟨q0, q1, q2, q3⟩ := blk2 hRN
  go_enter Try.func71, Try.ntmps71
  go_wp2_with fail
  rw [← HN.out]
  go_region_with (first
      | (go_at_call 109; refine (span_w (arg : Int) (by omega) (by omega) _).mono ?_; rintro e w1 ⟨rfl, hb1'⟩; have hb1 : Below N.heap.size N w1 := (by refine bel_trans ?_ hb1'; exact bel_eqv (Below.refl _ N) rfl rfl rfl rfl); obtain ⟨k0, k1, k2, k3⟩ := blk2 (hBN.call hb1); obtain ⟨q0, q1, q2, q3⟩ := blk2 (hRN.call hb1))
      | (go_at_call 107; refine (one_nil (w := _) A c (ndS 8 (spanLo arg) (spanHi arg)) none 0 0).mono ?_; rintro e w2 ⟨rfl, hb2'⟩; have hb2 : Below w1.heap.size w1 w2 := (by refine bel_trans ?_ hb2'; exact bel_eqv (Below.refl _ w1) rfl rfl rfl rfl); obtain ⟨k0, k1, k2, k3⟩ := blk2 ((hBN.call hb1).call hb2); obtain ⟨q0, q1, q2, q3⟩ := blk2 ((hRN.call hb1).call hb2)))
  all_goals go_wp2_with fail
  all_goals exact bodyPost_ret (v := .agg #[.slice A (0) c, .slice A' (r.length) c']) (by simp [results, Try.results71, go_sem, k0, k1, q0, q1]) rfl ⟨_, _, _, _, _, rfl, fin3 ((hfN.call hb1).call hb2) ((hrN.call hb1).call hb2) hap ((hbN.trans (hb1.mono (Nat.le_trans hw hbN.size))).trans (hb2.mono (Nat.le_trans hw (Nat.le_trans hbN.size hb1.size)))) ((hFN.below hb1).below hb2) (Fle.refl _ _) w.heap.size hw HG0.out HG1.out (fun g h => by have := hlf g h; omega) (fun g h => by have := hlr g h; omega) _ _ _ _⟩
set_option maxRecDepth 100000 in
set_option maxHeartbeats 4000000 in
theorem add_9 {F : Fz} {w0 w : World} (hF : Sat F w) (hw : w0.heap.size ≤ w.heap.size) (t : Tr) (f r : List Tr) (hs : totT (t :: f) + totT (r) ≤ 900) (A A' : Option Addr) (c c' : Nat)
    (hf : OwnR F w w0.heap.size (.slice A (f.length + 1) c) (memL (t :: f))) (hr : OwnR F w w0.heap.size (.slice A' (r.length) c') (memL (r))) (hap : Apart (.slice A (f.length + 1) c) (.slice A' (r.length) c')) (arg : Nat) (harg : arg ≤ 3000) :
    Calls Try.prog 71 #[.agg #[.slice A (f.length + 1) c, .slice A' (r.length) c'], .int .i64 (9 : Int), .int .i64 (arg : Int)] w (RetA F w0 w (.un (ndS 9 (spanLo arg) (spanHi arg)) t :: f, r)) := by
  obtain ⟨N, hN⟩ : ∃ N, N = (w.alloc (.cells #[.slice A (f.length + 1) c, .slice A' (r.length) c'] 77)).alloc (.cells #[.slice none 0 0, .slice none 0 0] 77) := ⟨_, rfl⟩
  have hbN : Below w0.heap.size w N := hN ▸ (((Below.refl _ _).alloc hw _).alloc (by simp; omega) _)
  have hFN : Sat F N := hN ▸ ((hF.alloc _).alloc _)
  have hfN : OwnR F N w0.heap.size (.slice A (f.length + 1) c) (memL (t :: f)) := hN ▸ ((hf.alloc _).alloc _)
  have hrN : OwnR F N w0.heap.size (.slice A' (r.length) c') (memL (r)) := hN ▸ ((hr.alloc _).alloc _)
  have hBN : Blk N w.heap.size 77 #[.slice A (f.length + 1) c, .slice A' (r.length) c'] := hN ▸ ((Blk.new _ _ _).alloc _)
  have hRN : Blk N (w.heap.size + 1) 77 #[.slice none 0 0, .slice none 0 0] := hN ▸ (Blk.new2 _ _ _ _)
  have hzN : N.heap.size = w.heap.size + 2 := by rw [hN]; simp
  have hlr := fun g h => (hr.lt g h).2
  have hlf := fun g h => (hf.lt g h).2
  have hg0 : F w.heap.size = none := hF.none_ (Nat.le_refl _)
  have hg1 : F (w.heap.size + 1) = none := hF.none_ (Nat.le_succ _)
  (try simp only [totT_cons] at hs)
  have HG0 := Lib.hid hg0
  have HG1 := Lib.hid hg1
  have HN := Lib.hid hN
  clear hN hf hr hg0 hg1
  have HC := Lib.hid (fun (X : World) (G : Fz) (h : Sat G X) (h2 : OwnR G X w0.heap.size (.slice A (f.length + 1) c) (memL (t :: f))) => row_one h (by rw [totT_cons]; omega) h2 (ndS 9 (spanLo arg) (spanHi arg)) none 0 0)
  obtain ⟨k0, k1, k2, k3⟩ := blk2 hBN
  obtain ⟨q0, q1, q2, q3⟩ := blk2 hRN
  have hgl : w.heap.size < N.heap.size := by omega
  go_enter Try.func71, Try.ntmps71
  go_wp2_with fail
  rw [← HN.out]
  go_region_with (first
      | (go_at_call 109; refine (span_w (arg : Int) (by omega) (by omega) _).mono ?_; rintro e w1 ⟨rfl, hb1'⟩; have hb1 : Below N.heap.size N w1 := (by refine bel_trans ?_ hb1'; exact bel_eqv (Below.refl _ N) rfl rfl rfl rfl); have hs1 := hb1.size; obtain ⟨k0, k1, k2, k3⟩ := blk2 (hBN.call hb1); obtain ⟨q0, q1, q2, q3⟩ := blk2 (hRN.call hb1))
      | (go_at_call 107; refine (HC.out _ F (hFN.below hb1) (hfN.call hb1)).mono ?_; rintro e w2 ⟨A2, c2, F2, rfl, hO2, hb2', hF2, hle2'⟩; have hb2 : Below w1.heap.size w1 w2 := (by refine bel_trans ?_ hb2'; exact bel_eqv (Below.refl _ w1) rfl rfl rfl rfl); have hle2 : Fle w1 F F2 := hle2'; have hs2 := hb2.size; obtain ⟨k0, k1, k2, k3⟩ := blk2 ((hBN.call hb1).call hb2); obtain ⟨q0, q1, q2, q3⟩ := blk2 ((hRN.call hb1).call hb2)))
  all_goals go_wp2_with fail
  all_goals exact bodyPost_ret (v := .agg #[.slice A2 (f.length + 1) c2, .slice A' (r.length) c']) (by simp [results, Try.results71, go_sem, k0, k1, q0, q1]) rfl ⟨_, _, _, _, _, rfl, fin3 (hO2.base (by have := hbN.size; have := hb1.size; have := hb2.size; omega)) ((((hrN.call hb1).le hle2).call hb2)) (apart_lt (S := N.heap.size) (fun g h => by have := (hO2.lt g h).1; have := hb1.size; omega) (fun g h => by have := hlr g h; omega)) ((hbN.trans (hb1.mono (Nat.le_trans hw hbN.size))).trans (hb2.mono (Nat.le_trans hw (Nat.le_trans hbN.size hb1.size)))) hF2 (oldF hle2 (by have := hbN.size; have := hb1.size; omega)) w.heap.size hw ((hle2.2 _ (by have := hb1.size; omega)).trans HG0.out) ((hle2.2 _ (by have := hb1.size; omega)).trans HG1.out) (fun g h => by have := (hO2.lt g h).1; have := hb1.size; omega) (fun g h => by have := hlr g h; omega) _ _ _ _⟩
set_option maxRecDepth 100000 in
set_option maxHeartbeats 4000000 in
theorem add_9_0 {F : Fz} {w0 w : World} (hF : Sat F w) (hw : w0.heap.size ≤ w.heap.size) (r : List Tr) (hs : totT ([]) + totT (r) ≤ 900) (A A' : Option Addr) (c c' : Nat)
    (hf : OwnR F w w0.heap.size (.slice A (0) c) (memL ([]))) (hr : OwnR F w w0.heap.size (.slice A' (r.length) c') (memL (r))) (hap : Apart (.slice A (0) c) (.slice A' (r.length) c')) (arg : Nat) (harg : arg ≤ 3000) :
    Calls Try.prog 71 #[.agg #[.slice A (0) c, .slice A' (r.length) c'], .int .i64 (9 : Int), .int .i64 (arg : Int)] w (RetA F w0 w ([], r)) := by
  obtain ⟨N, hN⟩ : ∃ N, N = (w.alloc (.cells #[.slice A (0) c, .slice A' (r.length) c'] 77)).alloc (.cells #[.slice none 0 0, .slice none 0 0] 77) := ⟨_, rfl⟩
  have hbN : Below w0.heap.size w N := hN ▸ (((Below.refl _ _).alloc hw _).alloc (by simp; omega) _)
  have hFN : Sat F N := hN ▸ ((hF.alloc _).alloc _)
  have hfN : OwnR F N w0.heap.size (.slice A (0) c) (memL ([])) := hN ▸ ((hf.alloc _).alloc _)
  have hrN : OwnR F N w0.heap.size (.slice A' (r.length) c') (memL (r)) := hN ▸ ((hr.alloc _).alloc _)
  have hBN : Blk N w.heap.size 77 #[.slice A (0) c, .slice A' (r.length) c'] := hN ▸ ((Blk.new _ _ _).alloc _)
  have hRN : Blk N (w.heap.size + 1) 77 #[.slice none 0 0, .slice none 0 0] := hN ▸ (Blk.new2 _ _ _ _)
  have hzN : N.heap.size = w.heap.size + 2 := by rw [hN]; simp
  have hlr := fun g h => (hr.lt g h).2
  have hlf := fun g h => (hf.lt g h).2
  have hg0 : F w.heap.size = none := hF.none_ (Nat.le_refl _)
  have hg1 : F (w.heap.size + 1) = none := hF.none_ (Nat.le_succ _)
  (try simp only [totT_cons] at hs)
  have HG0 := Lib.hid hg0
  have HG1 := Lib.hid hg1
  have HN := Lib.hid hN
  clear hN hf hr hg0 hg1
  obtain ⟨k0, k1, k2, k3⟩ := blk2 hBN
  obtain ⟨q0, q1, q2, q3⟩ := blk2 hRN
  go_enter Try.func71, Try.ntmps71
  go_wp2_with fail
  rw [← HN.out]
  go_region_with (first
      | (go_at_call 109; refine (span_w (arg : Int) (by omega) (by omega) _).mono ?_; rintro e w1 ⟨rfl, hb1'⟩; have hb1 : Below N.heap.size N w1 := (by refine bel_trans ?_ hb1'; exact bel_eqv (Below.refl _ N) rfl rfl rfl rfl); obtain ⟨k0, k1, k2, k3⟩ := blk2 (hBN.call hb1); obtain ⟨q0, q1, q2, q3⟩ := blk2 (hRN.call hb1))
      | (go_at_call 107; refine (one_nil (w := _) A c (ndS 9 (spanLo arg) (spanHi arg)) none 0 0).mono ?_; rintro e w2 ⟨rfl, hb2'⟩; have hb2 : Below w1.heap.size w1 w2 := (by refine bel_trans ?_ hb2'; exact bel_eqv (Below.refl _ w1) rfl rfl rfl rfl); obtain ⟨k0, k1, k2, k3⟩ := blk2 ((hBN.call hb1).call hb2); obtain ⟨q0, q1, q2, q3⟩ := blk2 ((hRN.call hb1).call hb2)))
  all_goals go_wp2_with fail
  all_goals exact bodyPost_ret (v := .agg #[.slice A (0) c, .slice A' (r.length) c']) (by simp [results, Try.results71, go_sem, k0, k1, q0, q1]) rfl ⟨_, _, _, _, _, rfl, fin3 ((hfN.call hb1).call hb2) ((hrN.call hb1).call hb2) hap ((hbN.trans (hb1.mono (Nat.le_trans hw hbN.size))).trans (hb2.mono (Nat.le_trans hw (Nat.le_trans hbN.size hb1.size)))) ((hFN.below hb1).below hb2) (Fle.refl _ _) w.heap.size hw HG0.out HG1.out (fun g h => by have := hlf g h; omega) (fun g h => by have := hlr g h; omega) _ _ _ _⟩
set_option maxRecDepth 100000 in
set_option maxHeartbeats 4000000 in
theorem add_10 {F : Fz} {w0 w : World} (hF : Sat F w) (hw : w0.heap.size ≤ w.heap.size) (t : Tr) (f r : List Tr) (hs : totT (t :: f) + totT (r) ≤ 900) (A A' : Option Addr) (c c' : Nat)
    (hf : OwnR F w w0.heap.size (.slice A (f.length + 1) c) (memL (t :: f))) (hr : OwnR F w w0.heap.size (.slice A' (r.length) c') (memL (r))) (hap : Apart (.slice A (f.length + 1) c) (.slice A' (r.length) c')) (arg : Nat) (harg : arg ≤ 3000) :
    Calls Try.prog 71 #[.agg #[.slice A (f.length + 1) c, .slice A' (r.length) c'], .int .i64 (10 : Int), .int .i64 (arg : Int)] w (RetA F w0 w (.un (ndS 10 (spanLo arg) (spanHi arg)) t :: f, r)) := by
  obtain ⟨N, hN⟩ : ∃ N, N = (w.alloc (.cells #[.slice A (f.length + 1) c, .slice A' (r.length) c'] 77)).alloc (.cells #[.slice none 0 0, .slice none 0 0] 77) := ⟨_, rfl⟩
  have hbN : Below w0.heap.size w N := hN ▸ (((Below.refl _ _).alloc hw _).alloc (by simp; omega) _)
  have hFN : Sat F N := hN ▸ ((hF.alloc _).alloc _)
  have hfN : OwnR F N w0.heap.size (.slice A (f.length + 1) c) (memL (t :: f)) := hN ▸ ((hf.alloc _).alloc _)
  have hrN : OwnR F N w0.heap.size (.slice A' (r.length) c') (memL (r)) := hN ▸ ((hr.alloc _).alloc _)
  have hBN : Blk N w.heap.size 77 #[.slice A (f.length + 1) c, .slice A' (r.length) c'] := hN ▸ ((Blk.new _ _ _).alloc _)
  have hRN : Blk N (w.heap.size + 1) 77 #[.slice none 0 0, .slice none 0 0] := hN ▸ (Blk.new2 _ _ _ _)
  have hzN : N.heap.size = w.heap.size + 2 := by rw [hN]; simp
  have hlr := fun g h => (hr.lt g h).2
  have hlf := fun g h => (hf.lt g h).2
  have hg0 : F w.heap.size = none := hF.none_ (Nat.le_refl _)
  have hg1 : F (w.heap.size + 1) = none := hF.none_ (Nat.le_succ _)
  (try simp only [totT_cons] at hs)
  have HG0 := Lib.hid hg0
  have HG1 := Lib.hid hg1
  have HN := Lib.hid hN
  clear hN hf hr hg0 hg1
  have HC := Lib.hid (fun (X : World) (G : Fz) (h : Sat G X) (h2 : OwnR G X w0.heap.size (.slice A (f.length + 1) c) (memL (t :: f))) => row_one h (by rw [totT_cons]; omega) h2 (ndS 10 (spanLo arg) (spanHi arg)) none 0 0)
  obtain ⟨k0, k1, k2, k3⟩ := blk2 hBN
  obtain ⟨q0, q1, q2, q3⟩ := blk2 hRN
  have hgl : w.heap.size < N.heap.size := by omega
  go_enter Try.func71, Try.ntmps71
  go_wp2_with fail
  rw [← HN.out]
  go_region_with (first
      | (go_at_call 109; refine (span_w (arg : Int) (by omega) (by omega) _).mono ?_; rintro e w1 ⟨rfl, hb1'⟩; have hb1 : Below N.heap.size N w1 := (by refine bel_trans ?_ hb1'; exact bel_eqv (Below.refl _ N) rfl rfl rfl rfl); have hs1 := hb1.size; obtain ⟨k0, k1, k2, k3⟩ := blk2 (hBN.call hb1); obtain ⟨q0, q1, q2, q3⟩ := blk2 (hRN.call hb1))
      | (go_at_call 107; refine (HC.out _ F (hFN.below hb1) (hfN.call hb1)).mono ?_; rintro e w2 ⟨A2, c2, F2, rfl, hO2, hb2', hF2, hle2'⟩; have hb2 : Below w1.heap.size w1 w2 := (by refine bel_trans ?_ hb2'; exact bel_eqv (Below.refl _ w1) rfl rfl rfl rfl); have hle2 : Fle w1 F F2 := hle2'; have hs2 := hb2.size; obtain ⟨k0, k1, k2, k3⟩ := blk2 ((hBN.call hb1).call hb2); obtain ⟨q0, q1, q2, q3⟩ := blk2 ((hRN.call hb1).call hb2)))
  all_goals go_wp2_with fail
  all_goals exact bodyPost_ret (v := .agg #[.slice A2 (f.length + 1) c2, .slice A' (r.length) c']) (by simp [results, Try.results71, go_sem, k0, k1, q0, q1]) rfl ⟨_, _, _, _, _, rfl, fin3 (hO2.base (by have := hbN.size; have := hb1.size; have := hb2.size; omega)) ((((hrN.call hb1).le hle2).call hb2)) (apart_lt (S := N.heap.size) (fun g h => by have := (hO2.lt g h).1; have := hb1.size; omega) (fun g h => by have := hlr g h; omega)) ((hbN.trans (hb1.mono (Nat.le_trans hw hbN.size))).trans (hb2.mono (Nat.le_trans hw (Nat.le_trans hbN.size hb1.size)))) hF2 (oldF hle2 (by have := hbN.size; have := hb1.size; omega)) w.heap.size hw ((hle2.2 _ (by have := hb1.size; omega)).trans HG0.out) ((hle2.2 _ (by have := hb1.size; omega)).trans HG1.out) (fun g h => by have := (hO2.lt g h).1; have := hb1.size; omega) (fun g h => by have := hlr g h; omega) _ _ _ _⟩
set_option maxRecDepth 100000 in
set_option maxHeartbeats 4000000 in
theorem add_10_0 {F : Fz} {w0 w : World} (hF : Sat F w) (hw : w0.heap.size ≤ w.heap.size) (r : List Tr) (hs : totT ([]) + totT (r) ≤ 900) (A A' : Option Addr) (c c' : Nat)
    (hf : OwnR F w w0.heap.size (.slice A (0) c) (memL ([]))) (hr : OwnR F w w0.heap.size (.slice A' (r.length) c') (memL (r))) (hap : Apart (.slice A (0) c) (.slice A' (r.length) c')) (arg : Nat) (harg : arg ≤ 3000) :
    Calls Try.prog 71 #[.agg #[.slice A (0) c, .slice A' (r.length) c'], .int .i64 (10 : Int), .int .i64 (arg : Int)] w (RetA F w0 w ([], r)) := by
  obtain ⟨N, hN⟩ : ∃ N, N = (w.alloc (.cells #[.slice A (0) c, .slice A' (r.length) c'] 77)).alloc (.cells #[.slice none 0 0, .slice none 0 0] 77) := ⟨_, rfl⟩
  have hbN : Below w0.heap.size w N := hN ▸ (((Below.refl _ _).alloc hw _).alloc (by simp; omega) _)
  have hFN : Sat F N := hN ▸ ((hF.alloc _).alloc _)
  have hfN : OwnR F N w0.heap.size (.slice A (0) c) (memL ([])) := hN ▸ ((hf.alloc _).alloc _)
  have hrN : OwnR F N w0.heap.size (.slice A' (r.length) c') (memL (r)) := hN ▸ ((hr.alloc _).alloc _)
  have hBN : Blk N w.heap.size 77 #[.slice A (0) c, .slice A' (r.length) c'] := hN ▸ ((Blk.new _ _ _).alloc _)
  have hRN : Blk N (w.heap.size + 1) 77 #[.slice none 0 0, .slice none 0 0] := hN ▸ (Blk.new2 _ _ _ _)
  have hzN : N.heap.size = w.heap.size + 2 := by rw [hN]; simp
  have hlr := fun g h => (hr.lt g h).2
  have hlf := fun g h => (hf.lt g h).2
  have hg0 : F w.heap.size = none := hF.none_ (Nat.le_refl _)
  have hg1 : F (w.heap.size + 1) = none := hF.none_ (Nat.le_succ _)
  (try simp only [totT_cons] at hs)
  have HG0 := Lib.hid hg0
  have HG1 := Lib.hid hg1
  have HN := Lib.hid hN
  clear hN hf hr hg0 hg1
  obtain ⟨k0, k1, k2, k3⟩ := blk2 hBN
  obtain ⟨q0, q1, q2, q3⟩ := blk2 hRN
  go_enter Try.func71, Try.ntmps71
  go_wp2_with fail
  rw [← HN.out]
  go_region_with (first
      | (go_at_call 109; refine (span_w (arg : Int) (by omega) (by omega) _).mono ?_; rintro e w1 ⟨rfl, hb1'⟩; have hb1 : Below N.heap.size N w1 := (by refine bel_trans ?_ hb1'; exact bel_eqv (Below.refl _ N) rfl rfl rfl rfl); obtain ⟨k0, k1, k2, k3⟩ := blk2 (hBN.call hb1); obtain ⟨q0, q1, q2, q3⟩ := blk2 (hRN.call hb1))
      | (go_at_call 107; refine (one_nil (w := _) A c (ndS 10 (spanLo arg) (spanHi arg)) none 0 0).mono ?_; rintro e w2 ⟨rfl, hb2'⟩; have hb2 : Below w1.heap.size w1 w2 := (by refine bel_trans ?_ hb2'; exact bel_eqv (Below.refl _ w1) rfl rfl rfl rfl); obtain ⟨k0, k1, k2, k3⟩ := blk2 ((hBN.call hb1).call hb2); obtain ⟨q0, q1, q2, q3⟩ := blk2 ((hRN.call hb1).call hb2)))
  all_goals go_wp2_with fail
  all_goals exact bodyPost_ret (v := .agg #[.slice A (0) c, .slice A' (r.length) c']) (by simp [results, Try.results71, go_sem, k0, k1, q0, q1]) rfl ⟨_, _, _, _, _, rfl, fin3 ((hfN.call hb1).call hb2) ((hrN.call hb1).call hb2) hap ((hbN.trans (hb1.mono (Nat.le_trans hw hbN.size))).trans (hb2.mono (Nat.le_trans hw (Nat.le_trans hbN.size hb1.size)))) ((hFN.below hb1).below hb2) (Fle.refl _ _) w.heap.size hw HG0.out HG1.out (fun g h => by have := hlf g h; omega) (fun g h => by have := hlr g h; omega) _ _ _ _⟩
set_option maxRecDepth 100000 in
set_option maxHeartbeats 4000000 in
theorem add_11 {F : Fz} {w0 w : World} (hF : Sat F w) (hw : w0.heap.size ≤ w.heap.size) (t : Tr) (f r : List Tr) (hs : totT (t :: f) + totT (r) ≤ 900) (A A' : Option Addr) (c c' : Nat)
    (hf : OwnR F w w0.heap.size (.slice A (f.length + 1) c) (memL (t :: f))) (hr : OwnR F w w0.heap.size (.slice A' (r.length) c') (memL (r))) (hap : Apart (.slice A (f.length + 1) c) (.slice A' (r.length) c')) (arg : Nat) (harg : arg ≤ 3000) :
    Calls Try.prog 71 #[.agg #[.slice A (f.length + 1) c, .slice A' (r.length) c'], .int .i64 (11 : Int), .int .i64 (arg : Int)] w (RetA F w0 w (.un (ndS 11 (spanLo arg) (spanHi arg)) t :: f, r)) := by
  obtain ⟨N, hN⟩ : ∃ N, N = (w.alloc (.cells #[.slice A (f.length + 1) c, .slice A' (r.length) c'] 77)).alloc (.cells #[.slice none 0 0, .slice none 0 0] 77) := ⟨_, rfl⟩
  have hbN : Below w0.heap.size w N := hN ▸ (((Below.refl _ _).alloc hw _).alloc (by simp; omega) _)
  have hFN : Sat F N := hN ▸ ((hF.alloc _).alloc _)
  have hfN : OwnR F N w0.heap.size (.slice A (f.length + 1) c) (memL (t :: f)) := hN ▸ ((hf.alloc _).alloc _)
  have hrN : OwnR F N w0.heap.size (.slice A' (r.length) c') (memL (r)) := hN ▸ ((hr.alloc _).alloc _)
  have hBN : Blk N w.heap.size 77 #[.slice A (f.length + 1) c, .slice A' (r.length) c'] := hN ▸ ((Blk.new _ _ _).alloc _)
  have hRN : Blk N (w.heap.size + 1) 77 #[.slice none 0 0, .slice none 0 0] := hN ▸ (Blk.new2 _ _ _ _)
  have hzN : N.heap.size = w.heap.size + 2 := by rw [hN]; simp
  have hlr := fun g h => (hr.lt g h).2
  have hlf := fun g h => (hf.lt g h).2
  have hg0 : F w.heap.size = none := hF.none_ (Nat.le_refl _)
  have hg1 : F (w.heap.size + 1) = none := hF.none_ (Nat.le_succ _)
  (try simp only [totT_cons] at hs)
  have HG0 := Lib.hid hg0
  have HG1 := Lib.hid hg1
  have HN := Lib.hid hN
  clear hN hf hr hg0 hg1
  have HC := Lib.hid (fun (X : World) (G : Fz) (h : Sat G X) (h2 : OwnR G X w0.heap.size (.slice A (f.length + 1) c) (memL (t :: f))) => row_one h (by rw [totT_cons]; omega) h2 (ndS 11 (spanLo arg) (spanHi arg)) none 0 0)
  obtain ⟨k0, k1, k2, k3⟩ := blk2 hBN
  obtain ⟨q0, q1, q2, q3⟩ := blk2 hRN
  have hgl : w.heap.size < N.heap.size := by omega
  go_enter Try.func71, Try.ntmps71
  go_wp2_with fail
  rw [← HN.out]
  go_region_with (first
      | (go_at_call 109; refine (span_w (arg : Int) (by omega) (by omega) _).mono ?_; rintro e w1 ⟨rfl, hb1'⟩; have hb1 : Below N.heap.size N w1 := (by refine bel_trans ?_ hb1'; exact bel_eqv (Below.refl _ N) rfl rfl rfl rfl); have hs1 := hb1.size; obtain ⟨k0, k1, k2, k3⟩ := blk2 (hBN.call hb1); obtain ⟨q0, q1, q2, q3⟩ := blk2 (hRN.call hb1))
      | (go_at_call 107; refine (HC.out _ F (hFN.below hb1) (hfN.call hb1)).mono ?_; rintro e w2 ⟨A2, c2, F2, rfl, hO2, hb2', hF2, hle2'⟩; have hb2 : Below w1.heap.size w1 w2 := (by refine bel_trans ?_ hb2'; exact bel_eqv (Below.refl _ w1) rfl rfl rfl rfl); have hle2 : Fle w1 F F2 := hle2'; have hs2 := hb2.size; obtain ⟨k0, k1, k2, k3⟩ := blk2 ((hBN.call hb1).call hb2); obtain ⟨q0, q1, q2, q3⟩ := blk2 ((hRN.call hb1).call hb2)))
  all_goals go_wp2_with fail
  all_goals exact bodyPost_ret (v := .agg #[.slice A2 (f.length + 1) c2, .slice A' (r.length) c']) (by simp [results, Try.results71, go_sem, k0, k1, q0, q1]) rfl ⟨_, _, _, _, _, rfl, fin3 (hO2.base (by have := hbN.size; have := hb1.size; have := hb2.size; omega)) ((((hrN.call hb1).le hle2).call hb2)) (apart_lt (S := N.heap.size) (fun g h => by have := (hO2.lt g h).1; have := hb1.size; omega) (fun g h => by have := hlr g h; omega)) ((hbN.trans (hb1.mono (Nat.le_trans hw hbN.size))).trans (hb2.mono (Nat.le_trans hw (Nat.le_trans hbN.size hb1.size)))) hF2 (oldF hle2 (by have := hbN.size; have := hb1.size; omega)) w.heap.size hw ((hle2.2 _ (by have := hb1.size; omega)).trans HG0.out) ((hle2.2 _ (by have := hb1.size; omega)).trans HG1.out) (fun g h => by have := (hO2.lt g h).1; have := hb1.size; omega) (fun g h => by have := hlr g h; omega) _ _ _ _⟩
set_option maxRecDepth 100000 in
set_option maxHeartbeats 4000000 in
theorem add_11_0 {F : Fz} {w0 w : World} (hF : Sat F w) (hw : w0.heap.size ≤ w.heap.size) (r : List Tr) (hs : totT ([]) + totT (r) ≤ 900) (A A' : Option Addr) (c c' : Nat)
    (hf : OwnR F w w0.heap.size (.slice A (0) c) (memL ([]))) (hr : OwnR F w w0.heap.size (.slice A' (r.length) c') (memL (r))) (hap : Apart (.slice A (0) c) (.slice A' (r.length) c')) (arg : Nat) (harg : arg ≤ 3000) :
    Calls Try.prog 71 #[.agg #[.slice A (0) c, .slice A' (r.length) c'], .int .i64 (11 : Int), .int .i64 (arg : Int)] w (RetA F w0 w ([], r)) := by
  obtain ⟨N, hN⟩ : ∃ N, N = (w.alloc (.cells #[.slice A (0) c, .slice A' (r.length) c'] 77)).alloc (.cells #[.slice none 0 0, .slice none 0 0] 77) := ⟨_, rfl⟩
  have hbN : Below w0.heap.size w N := hN ▸ (((Below.refl _ _).alloc hw _).alloc (by simp; omega) _)
  have hFN : Sat F N := hN ▸ ((hF.alloc _).alloc _)
  have hfN : OwnR F N w0.heap.size (.slice A (0) c) (memL ([])) := hN ▸ ((hf.alloc _).alloc _)
  have hrN : OwnR F N w0.heap.size (.slice A' (r.length) c') (memL (r)) := hN ▸ ((hr.alloc _).alloc _)
  have hBN : Blk N w.heap.size 77 #[.slice A (0) c, .slice A' (r.length) c'] := hN ▸ ((Blk.new _ _ _).alloc _)
  have hRN : Blk N (w.heap.size + 1) 77 #[.slice none 0 0, .slice none 0 0] := hN ▸ (Blk.new2 _ _ _ _)
  have hzN : N.heap.size = w.heap.size + 2 := by rw [hN]; simp
  have hlr := fun g h => (hr.lt g h).2
  have hlf := fun g h => (hf.lt g h).2
  have hg0 : F w.heap.size = none := hF.none_ (Nat.le_refl _)
  have hg1 : F (w.heap.size + 1) = none := hF.none_ (Nat.le_succ _)
  (try simp only [totT_cons] at hs)
  have HG0 := Lib.hid hg0
  have HG1 := Lib.hid hg1
  have HN := Lib.hid hN
  clear hN hf hr hg0 hg1
  obtain ⟨k0, k1, k2, k3⟩ := blk2 hBN
  obtain ⟨q0, q1, q2, q3⟩ := blk2 hRN
  go_enter Try.func71, Try.ntmps71
  go_wp2_with fail
  rw [← HN.out]
  go_region_with (first
      | (go_at_call 109; refine (span_w (arg : Int) (by omega) (by omega) _).mono ?_; rintro e w1 ⟨rfl, hb1'⟩; have hb1 : Below N.heap.size N w1 := (by refine bel_trans ?_ hb1'; exact bel_eqv (Below.refl _ N) rfl rfl rfl rfl); obtain ⟨k0, k1, k2, k3⟩ := blk2 (hBN.call hb1); obtain ⟨q0, q1, q2, q3⟩ := blk2 (hRN.call hb1))
      | (go_at_call 107; refine (one_nil (w := _) A c (ndS 11 (spanLo arg) (spanHi arg)) none 0 0).mono ?_; rintro e w2 ⟨rfl, hb2'⟩; have hb2 : Below w1.heap.size w1 w2 := (by refine bel_trans ?_ hb2'; exact bel_eqv (Below.refl _ w1) rfl rfl rfl rfl); obtain ⟨k0, k1, k2, k3⟩ := blk2 ((hBN.call hb1).call hb2); obtain ⟨q0, q1, q2, q3⟩ := blk2 ((hRN.call hb1).call hb2)))
  all_goals go_wp2_with fail
  all_goals exact bodyPost_ret (v := .agg #[.slice A (0) c, .slice A' (r.length) c']) (by simp [results, Try.results71, go_sem, k0, k1, q0, q1]) rfl ⟨_, _, _, _, _, rfl, fin3 ((hfN.call hb1).call hb2) ((hrN.call hb1).call hb2) hap ((hbN.trans (hb1.mono (Nat.le_trans hw hbN.size))).trans (hb2.mono (Nat.le_trans hw (Nat.le_trans hbN.size hb1.size)))) ((hFN.below hb1).below hb2) (Fle.refl _ _) w.heap.size hw HG0.out HG1.out (fun g h => by have := hlf g h; omega) (fun g h => by have := hlr g h; omega) _ _ _ _⟩
end Go.Proofs.Ytdbbooibkiicnaa
