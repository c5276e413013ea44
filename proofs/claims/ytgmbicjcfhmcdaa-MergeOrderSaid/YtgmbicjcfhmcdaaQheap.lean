/- The walks of container/heap over the queue: down, up, Init, Fix, Pop. -/
import Derived.Test.YtgmbicjcfhmcdaaQueue
set_option linter.unusedVariables false
set_option linter.unusedSimpArgs false
/-! The walks of container/heap over the queue: down, up, Init, Fix, Pop. -/
namespace Go.Proofs.Ytgmbicjcfhmcdaa
open Go.RowKit
attribute [local go_sem ↓] Go.wp_at_zero Go.wp_at_succ
/-- The queue in memory. -/
structure QM (F : Fz) (w : World) (gq g c B : Nat) (S : Nat → Addr × Nat) (E : Nat → List Evt) (n : Nat) (xs : List Ln) : Prop where
  ptr : Blk w gq 53 #[.slice (some ⟨g, 0, none⟩) n c]
  row : Own F w B 55 2 (.slice (some ⟨g, 0, none⟩) n c) n (linesC S E xs)
  sat : Sat F w
  ne : gq ≠ g
  len : xs.length = n
  ok : ∀ x ∈ xs, LnF F S E x
theorem QM.drewN {F : Fz} {w : World} {gq g c B n : Nat} {S : Nat → Addr × Nat} {E : Nat → List Evt} {xs : List Ln} (h : QM F w gq g c B S E n xs) (k : Nat) : QM F (w.drewN k) gq g c B S E n xs :=
  ⟨h.ptr.drewN k, h.row.drewN k, h.sat.drewN k, h.ne, h.len, h.ok⟩
theorem drew2 (w : World) (a b : Nat) : (w.drewN a).drewN b = w.drewN (a + b) := by
  induction b generalizing a with
  | zero => rfl
  | succ b ih => rw [← World.drew_drewN (n := b), ih]; rfl
theorem QM.cell {F : Fz} {w : World} {gq g c B n : Nat} {S : Nat → Addr × Nat} {E : Nat → List Evt} {xs : List Ln} (h : QM F w gq g c B S E n xs) : w.cell? ⟨gq, 0, none⟩ = some (.slice (some ⟨g, 0, none⟩) n c) := by rw [h.ptr.cell]; rfl
theorem QM.less {F : Fz} {w : World} {gq g c B n : Nat} {S : Nat → Addr × Nat} {E : Nat → List Evt} {xs : List Ln} (h : QM F w gq g c B S E n xs) (hn : n ≤ 1000) (m i j : Nat) (hi : i < n) (hj : j < n) :
    Calls Try.prog 104 #[.slice (some ⟨g, 0, none⟩) n c, .int .i64 i, .int .i64 j] (w.drewN m) fun e w' => e = .returned (.bool (ltL tmV (xs.getD i default) (xs.getD j default))) ∧ ∃ q, w' = w.drewN q :=
  (qless_w (h.sat.drewN m) S E xs h.ok g n c B h.len hn (h.row.drewN m) i j hi hj).mono fun e w' ⟨he, q, hq⟩ => ⟨he, m + q, by rw [hq, drew2]⟩
theorem QM.swap {F : Fz} {w : World} {gq g c B n : Nat} {S : Nat → Addr × Nat} {E : Nat → List Evt} {xs : List Ln} (h : QM F w gq g c B S E n xs) (hn : n ≤ 1000) (m i j : Nat) (hi : i < n) (hj : j < n) :
    Calls Try.prog 106 #[.slice (some ⟨g, 0, none⟩) n c, .int .i64 i, .int .i64 j] (w.drewN m) fun e w' => e = .returned (.tuple #[]) ∧ QM F w' gq g c B S E n (swapL xs i j) ∧ Wr [g] w w' :=
  (qswap_w (h.sat.drewN m) S E xs g n c B h.len hn (h.row.drewN m) i j hi hj).mono fun e w' ⟨he, h1, h2, h3⟩ => ⟨he, ⟨h3.blk (h.ptr.drewN m) (by have := h.ne; simp; omega), h1, h2, h.ne, by rw [length_swapL]; exact h.len, fun x hx => h.ok x ((swapL_perm xs (by rw [h.len]; exact hi) (by rw [h.len]; exact hj)).mem_iff.1 hx)⟩, ⟨h3.os, h3.tape, h3.output, h3.size, h3.block⟩⟩
theorem downS_stop {α : Type} [Inhabited α] (lt : α → α → Bool) {f n i : Nat} {xs : List α} (h : n ≤ 2 * i + 1) : downS lt f xs n i = (xs, i) := by
  cases f with
  | zero => rfl
  | succ f => unfold downS; rw [if_pos h]
theorem downS_go {α : Type} [Inhabited α] (lt : α → α → Bool) {n i k : Nat} {xs : List α} (h : 2 * i + 1 < n) (hk : kidH lt xs n i = k) (hl : lt (xs.getD k default) (xs.getD i default) = true) : downS lt (n - i) xs n i = downS lt (n - k) (swapL xs i k) n k := by
  obtain ⟨f, hf⟩ : ∃ f, n - i = f + 1 := ⟨n - i - 1, by omega⟩
  obtain ⟨h1, h2, _⟩ := kid_bounds lt xs n i h
  rw [hk] at h1 h2
  rw [hf]
  conv => lhs; unfold downS
  rw [if_neg (by omega), hk, if_pos hl]
  exact down_fuel lt f (n - k) _ n k (by omega) (by omega)
theorem downS_leave {α : Type} [Inhabited α] (lt : α → α → Bool) {n i k : Nat} {xs : List α} (h : 2 * i + 1 < n) (hk : kidH lt xs n i = k) (hl : lt (xs.getD k default) (xs.getD i default) = false) : downS lt (n - i) xs n i = (xs, i) := by
  obtain ⟨f, hf⟩ : ∃ f, n - i = f + 1 := ⟨n - i - 1, by omega⟩
  rw [hf]
  unfold downS
  rw [if_neg (by omega), hk, if_neg (by rw [hl]; simp)]
set_option maxRecDepth 100000 in
set_option maxHeartbeats 4000000 in
theorem qdown_w {F : Fz} {w : World} {gq g c B N : Nat} {S : Nat → Addr × Nat} {E : Nat → List Evt} {xs : List Ln} (h : QM F w gq g c B S E N xs) (hN : N ≤ 1000) (i0 n : Nat) (hn : n ≤ N) (hi : i0 ≤ n) (f : Nat) (hf : n - i0 ≤ f) :
    Calls Try.prog 34 #[.iface 51 (.pointer (some ⟨gq, 0, none⟩)), .int .i64 i0, .int .i64 n] w fun e w' => e = .returned (.bool (decide (i0 < (downS (ltL tmV) f xs n i0).2))) ∧ QM F w' gq g c B S E N (downS (ltL tmV) f xs n i0).1 ∧ Wr [g] w w' := by
  obtain ⟨R, hR⟩ : ∃ R, downS (ltL tmV) f xs n i0 = R := ⟨_, rfl⟩
  rw [hR]
  have HR : Hid (downS (ltL tmV) (n - i0) xs n i0 = R) := Lib.hid (by rw [← hR]; exact down_fuel _ _ _ _ _ _ (Nat.le_refl _) hf)
  have eL : ∀ (args : Array Value) (X : World), Sem.run Try.prog (callFunc 104 args) X = .ok (.enter 104 args) X := enters_of Try.func104 (by kernel_rfl) rfl
  have eS : ∀ (args : Array Value) (X : World), Sem.run Try.prog (callFunc 106 args) X = .ok (.enter 106 args) X := enters_of Try.func106 (by kernel_rfl) rfl
  have H := Lib.hid h
  clear h hR hf
  go_enter Try.func34, Try.ntmps34
  go_wp2_with fail
  go_loopw [7, 8, 9, 10] (fun v7 _ _ _ wr => ∃ (i : Nat) (ys : List Ln), v7 = .int .i64 i ∧ i0 ≤ i ∧ i ≤ n ∧ QM F wr gq g c B S E N ys ∧ Hid (downS (ltL tmV) (n - i) ys n i = R) ∧ Wr [g] w wr) (fun v7 _ _ _ _ => n - (intOf v7).toNat)
  case atStart => exact ⟨i0, xs, rfl, Nat.le_refl _, hi, H.out, HR, Wr.refl _ _⟩
  case round =>
    obtain ⟨i, ys, rfl, hi0, hin, hQ, HD, hwr⟩ := hrel
    have HQ := Lib.hid hQ
    have HW := Lib.hid hwr
    have hlen := hQ.len
    clear hQ hwr HR H
    by_cases hstop : n ≤ 2 * i + 1
    · have hsI : (n : Int) ≤ 2 * (i : Int) + 1 := by omega
      have HE : Hid (R = (ys, i)) := Lib.hid (by rw [← HD.out, downS_stop _ hstop])
      clear hlen
      go_wp2_with fail
      go_ret
      exact ⟨by rw [HE.out]; first | rfl | simp, by rw [HE.out]; exact HQ.out, HW.out⟩
    · obtain ⟨j1, hj1⟩ : ∃ j1, 2 * i + 1 = j1 := ⟨_, rfl⟩
      have hj1I : 2 * (i : Int) + 1 = (j1 : Int) := by omega
      have hs1 : ¬ (n : Int) ≤ (j1 : Int) := by omega
      have hs2 : ¬ (j1 : Int) < 0 := by omega
      obtain ⟨j2, hj2⟩ : ∃ j2, j1 + 1 = j2 := ⟨_, rfl⟩
      have hj2I : (j1 : Int) + 1 = (j2 : Int) := by omega
      have HJ : Hid (j1 = 2 * i + 1 ∧ j2 = 2 * i + 2 ∧ j1 < n) := Lib.hid (by omega)
      have hjb : j2 ≤ 3000 := by omega
      have HLEN := Lib.hid hlen
      have hmL : ∀ k m, Sem.run Try.prog (method (k + 1) 51 (.pointer (some ⟨gq, 0, none⟩)) "Less") (wr.drewN m) = .ok (104, .slice (some ⟨g, 0, none⟩) N c) (wr.drewN m) := fun k m => q_less k (HQ.out.drewN m).cell
      have hmS : ∀ k m, Sem.run Try.prog (method (k + 1) 51 (.pointer (some ⟨gq, 0, none⟩)) "Swap") (wr.drewN m) = .ok (106, .slice (some ⟨g, 0, none⟩) N c) (wr.drewN m) := fun k m => q_swap k (HQ.out.drewN m).cell
      have hmL0 : ∀ k, Sem.run Try.prog (method (k + 1) 51 (.pointer (some ⟨gq, 0, none⟩)) "Less") wr = .ok (104, .slice (some ⟨g, 0, none⟩) N c) wr := fun k => hmL k 0
      clear hlen hj1 hj2 hstop
      by_cases h2 : j2 < n
      · have h2I : (j2 : Int) < (n : Int) := by omega
        have HL1 := Lib.hid (HQ.out.less hN 0 j2 j1 (by omega) (by have := HJ.out; omega))
        obtain ⟨b1, hb1⟩ : ∃ b, ltL tmV (ys.getD j2 default) (ys.getD j1 default) = b := ⟨_, rfl⟩
        rw [hb1] at HL1
        cases b1
        · have hk : kidH (ltL tmV) ys n i = j1 := by
            unfold kidH
            obtain ⟨e1, e2, _⟩ := HJ.out
            rw [← e1, ← e2, hb1]; simp
          have HL2 := Lib.hid (fun m => HQ.out.less hN m j1 i (by have := HJ.out; omega) (by have := HJ.out; omega))
          have HSW := Lib.hid (fun m => HQ.out.swap hN m i j1 (by have := HJ.out; omega) (by have := HJ.out; omega))
          have HK := Lib.hid hk
          obtain ⟨b2, hb2⟩ : ∃ b, ltL tmV (ys.getD j1 default) (ys.getD i default) = b := ⟨_, rfl⟩
          rw [hb2] at HL2
          clear hk
          cases b2
          · have HE : Hid (R = (ys, i)) := Lib.hid (by rw [← HD.out, downS_leave _ (by have := HJ.out; omega) HK.out hb2])
            clear hb2 hb1
            go_wp2_with (first
              | (go_at_fn 104; refine (HL2.out q1).mono ?_; rintro e w3 ⟨rfl, q2, rfl⟩)
              | (go_at_fn 104; refine HL1.out.mono ?_; rintro e w2 ⟨rfl, q1, rfl⟩))
            go_ret
            exact ⟨by rw [HE.out]; first | rfl | simp, by rw [HE.out]; exact HQ.out.drewN q2, ⟨HW.out.os, HW.out.tape, HW.out.output, HW.out.size, HW.out.block⟩⟩
          · have HE : Hid (downS (ltL tmV) (n - j1) (swapL ys i j1) n j1 = R) := Lib.hid (by rw [← HD.out, downS_go _ (by have := HJ.out; omega) HK.out hb2])
            clear hb2 hb1
            go_wp2_with (first
              | (go_at_fn 104; refine (HL2.out q1).mono ?_; rintro e w3 ⟨rfl, q2, rfl⟩)
              | (go_at_fn 106; refine (HSW.out q2).mono ?_; rintro e w4 ⟨rfl, hQ4, hW4⟩)
              | (go_at_fn 104; refine HL1.out.mono ?_; rintro e w2 ⟨rfl, q1, rfl⟩))
            go_roundw
            case rel => exact ⟨j1, swapL ys i j1, rfl, by have := HJ.out; omega, by have := HJ.out; omega, hQ4, HE, HW.out.trans hW4⟩
            case measure => have := HJ.out; simp [intOf]; omega
        · have hk : kidH (ltL tmV) ys n i = j2 := by
            unfold kidH
            obtain ⟨e1, e2, _⟩ := HJ.out
            rw [← e1, ← e2, hb1]; simp; omega
          have HL2 := Lib.hid (fun m => HQ.out.less hN m j2 i (by have := HJ.out; omega) (by have := HJ.out; omega))
          have HSW := Lib.hid (fun m => HQ.out.swap hN m i j2 (by have := HJ.out; omega) (by have := HJ.out; omega))
          have HK := Lib.hid hk
          obtain ⟨b2, hb2⟩ : ∃ b, ltL tmV (ys.getD j2 default) (ys.getD i default) = b := ⟨_, rfl⟩
          rw [hb2] at HL2
          clear hk
          cases b2
          · have HE : Hid (R = (ys, i)) := Lib.hid (by rw [← HD.out, downS_leave _ (by have := HJ.out; omega) HK.out hb2])
            clear hb2 hb1
            go_wp2_with (first
              | (go_at_fn 104; refine (HL2.out q1).mono ?_; rintro e w3 ⟨rfl, q2, rfl⟩)
              | (go_at_fn 104; refine HL1.out.mono ?_; rintro e w2 ⟨rfl, q1, rfl⟩))
            go_ret
            exact ⟨by rw [HE.out]; first | rfl | simp, by rw [HE.out]; exact HQ.out.drewN q2, ⟨HW.out.os, HW.out.tape, HW.out.output, HW.out.size, HW.out.block⟩⟩
          · have HE : Hid (downS (ltL tmV) (n - j2) (swapL ys i j2) n j2 = R) := Lib.hid (by rw [← HD.out, downS_go _ (by have := HJ.out; omega) HK.out hb2])
            clear hb2 hb1
            go_wp2_with (first
              | (go_at_fn 104; refine (HL2.out q1).mono ?_; rintro e w3 ⟨rfl, q2, rfl⟩)
              | (go_at_fn 106; refine (HSW.out q2).mono ?_; rintro e w4 ⟨rfl, hQ4, hW4⟩)
              | (go_at_fn 104; refine HL1.out.mono ?_; rintro e w2 ⟨rfl, q1, rfl⟩))
            go_roundw
            case rel => exact ⟨j2, swapL ys i j2, rfl, by have := HJ.out; omega, by have := HJ.out; omega, hQ4, HE, HW.out.trans hW4⟩
            case measure => have := HJ.out; simp [intOf]; omega
      · have h2I : ¬ (j2 : Int) < (n : Int) := by omega
        have hk : kidH (ltL tmV) ys n i = j1 := by
          unfold kidH
          obtain ⟨e1, e2, _⟩ := HJ.out
          rw [← e1, ← e2, if_neg (fun h => h2 h.1)]
        have HL2 := Lib.hid (fun m => HQ.out.less hN m j1 i (by have := HJ.out; omega) (by have := HJ.out; omega))
        have HSW := Lib.hid (fun m => HQ.out.swap hN m i j1 (by have := HJ.out; omega) (by have := HJ.out; omega))
        have HK := Lib.hid hk
        obtain ⟨b2, hb2⟩ : ∃ b, ltL tmV (ys.getD j1 default) (ys.getD i default) = b := ⟨_, rfl⟩
        rw [hb2] at HL2
        clear hk
        cases b2
        · have HE : Hid (R = (ys, i)) := Lib.hid (by rw [← HD.out, downS_leave _ (by have := HJ.out; omega) HK.out hb2])
          clear hb2
          go_wp2_with (first
            | (go_at_fn 104; refine (HL2.out 0).mono ?_; rintro e w3 ⟨rfl, q2, rfl⟩))
          go_ret
          exact ⟨by rw [HE.out]; first | rfl | simp, by rw [HE.out]; exact HQ.out.drewN q2, ⟨HW.out.os, HW.out.tape, HW.out.output, HW.out.size, HW.out.block⟩⟩
        · have HE : Hid (downS (ltL tmV) (n - j1) (swapL ys i j1) n j1 = R) := Lib.hid (by rw [← HD.out, downS_go _ (by have := HJ.out; omega) HK.out hb2])
          clear hb2
          go_wp2_with (first
            | (go_at_fn 104; refine (HL2.out 0).mono ?_; rintro e w3 ⟨rfl, q2, rfl⟩)
            | (go_at_fn 106; refine (HSW.out q2).mono ?_; rintro e w4 ⟨rfl, hQ4, hW4⟩))
          go_roundw
          case rel => exact ⟨j1, swapL ys i j1, rfl, by have := HJ.out; omega, by have := HJ.out; omega, hQ4, HE, HW.out.trans hW4⟩
          case measure => have := HJ.out; simp [intOf]; omega
set_option maxRecDepth 100000 in
theorem qup0_w {w : World} (v : Value) : Calls Try.prog 36 #[v, .int .i64 0] w fun e w' => e = .returned (.tuple #[]) ∧ w = w' := by
  go_enter Try.func36, Try.ntmps36
  go_wp2_with fail
  go_loop [1, 4] (fun v1 _ => v1 = .int .i64 0) (fun _ _ => 0)
  case atStart => rfl
  case round =>
    obtain rfl := hrel
    go_wp2_with fail
    go_end0
    exact ⟨rfl, rfl⟩
theorem qlen_w {w : World} (A : Option Addr) (n c : Nat) : Calls Try.prog 20 #[.slice A n c] w fun e w' => e = .returned (.int .i64 n) ∧ w = w' := by
  go_enter Try.func20, Try.ntmps20
  go_wp2_with fail
  go_ret
  exact ⟨rfl, rfl⟩
theorem enterL : ∀ (args : Array Value) (X : World), Sem.run Try.prog (callFunc 20 args) X = .ok (.enter 20 args) X := enters_of Try.func20 (by kernel_rfl) rfl
theorem enterS : ∀ (args : Array Value) (X : World), Sem.run Try.prog (callFunc 106 args) X = .ok (.enter 106 args) X := enters_of Try.func106 (by kernel_rfl) rfl
theorem enterP : ∀ (args : Array Value) (X : World), Sem.run Try.prog (callFunc 105 args) X = .ok (.enter 105 args) X := enters_of Try.func105 (by kernel_rfl) rfl
set_option maxRecDepth 100000 in
set_option maxHeartbeats 2000000 in
theorem qfix_w {F : Fz} {w : World} {gq g c B N : Nat} {S : Nat → Addr × Nat} {E : Nat → List Evt} {xs : List Ln} (h : QM F w gq g c B S E N xs) (hN : N ≤ 1000) :
    Calls Try.prog 23 #[.iface 51 (.pointer (some ⟨gq, 0, none⟩)), .int .i64 0] w fun e w' => e = .returned (.tuple #[]) ∧ QM F w' gq g c B S E N (downS (ltL tmV) N xs N 0).1 ∧ Wr [g] w w' := by
  have HD := Lib.hid (fun m => qdown_w (h.drewN m) hN 0 N (Nat.le_refl _) (Nat.zero_le _) N (by omega))
  have hmN : ∀ k, Sem.run Try.prog (method (k + 1) 51 (.pointer (some ⟨gq, 0, none⟩)) "Len") w = .ok (20, .slice (some ⟨g, 0, none⟩) N c) w := fun k => q_len k h.cell
  have eN := enterL
  obtain ⟨b, hb⟩ : ∃ b, decide (0 < (downS (ltL tmV) N xs N 0).2) = b := ⟨_, rfl⟩
  rw [hb] at HD
  clear h hb
  cases b
  · go_enter Try.func23, Try.ntmps23
    go_wp2_with (first
      | (go_at_fn 20; refine (qlen_w _ N c).mono ?_; rintro e w1 ⟨rfl, rfl⟩)
      | (go_at_call 34; refine (HD.out 0).mono ?_; rintro e w2 ⟨rfl, hQ, hW⟩)
      | (go_at_call 36; refine (qup0_w _).mono ?_; rintro e w3 ⟨rfl, rfl⟩))
    go_end0
    exact ⟨rfl, hQ, hW⟩
  · go_enter Try.func23, Try.ntmps23
    go_wp2_with (first
      | (go_at_fn 20; refine (qlen_w _ N c).mono ?_; rintro e w1 ⟨rfl, rfl⟩)
      | (go_at_call 34; refine (HD.out 0).mono ?_; rintro e w2 ⟨rfl, hQ, hW⟩))
    go_end0
    exact ⟨rfl, hQ, hW⟩
set_option maxRecDepth 100000 in
set_option maxHeartbeats 2000000 in
theorem qinit_w {F : Fz} {w : World} {gq g c B N : Nat} {S : Nat → Addr × Nat} {E : Nat → List Evt} {xs : List Ln} (h : QM F w gq g c B S E N xs) (hN : N ≤ 1000) :
    Calls Try.prog 19 #[.iface 51 (.pointer (some ⟨gq, 0, none⟩))] w fun e w' => e = .returned (.tuple #[]) ∧ QM F w' gq g c B S E N (initS (ltL tmV) (N / 2) xs) ∧ Wr [g] w w' := by
  have hmN : ∀ k, Sem.run Try.prog (method (k + 1) 51 (.pointer (some ⟨gq, 0, none⟩)) "Len") w = .ok (20, .slice (some ⟨g, 0, none⟩) N c) w := fun k => q_len k h.cell
  have eN := enterL
  obtain ⟨K, hK⟩ : ∃ K, N / 2 = K := ⟨_, rfl⟩
  have hKI : (N : Int) / 2 = (K : Int) := by omega
  have hKb : K ≤ 500 := by omega
  have HKN : Hid (K ≤ N) := Lib.hid (by omega)
  rw [hK]
  obtain ⟨R, hR⟩ : ∃ R, initS (ltL tmV) K xs = R := ⟨_, rfl⟩
  rw [hR]
  have HR := Lib.hid hR
  have H := Lib.hid h
  clear h hK hR
  go_enter Try.func19, Try.ntmps19
  go_wp2_with (go_at_fn 20; refine (qlen_w _ N c).mono ?_; rintro e w1 ⟨rfl, rfl⟩)
  go_loopw [3] (fun v3 wr => ∃ (k : Nat) (ys : List Ln), v3 = .int .i64 ((k : Int) - 1) ∧ k ≤ K ∧ QM F wr gq g c B S E N ys ∧ Hid (initS (ltL tmV) k ys = R) ∧ Wr [g] w wr) (fun v3 _ => (intOf v3 + 1).toNat)
  case atStart => exact ⟨K, xs, rfl, Nat.le_refl _, H.out, HR, Wr.refl _ _⟩
  case round =>
    obtain ⟨k, ys, rfl, hk, hQ, HI, hwr⟩ := hrel
    have hlen := hQ.len
    rcases k with _ | k
    · have HE : Hid (ys = R) := Lib.hid HI.out
      have HQ := Lib.hid hQ
      have HW := Lib.hid hwr
      clear hQ hwr hlen
      go_wp2_with fail
      go_end0
      exact ⟨rfl, by rw [← HE.out]; exact HQ.out, HW.out⟩
    · have hk1 : ((k + 1 : Nat) : Int) - 1 = (k : Int) := by omega
      have HE : Hid (initS (ltL tmV) k (downS (ltL tmV) N ys N k).1 = R) := Lib.hid (by rw [← HI.out]; show _ = initS (ltL tmV) k (downS (ltL tmV) ys.length ys ys.length k).1; rw [hlen])
      have HD := Lib.hid (qdown_w hQ hN k N (Nat.le_refl _) (by have := HKN.out; omega) N (by omega))
      have HW := Lib.hid hwr
      have hk0 : ¬ (k : Int) < 0 := by omega
      rw [hk1]
      clear hQ hwr hlen
      go_wp2_with (go_at_call 34; refine HD.out.mono ?_; rintro e w2 ⟨rfl, hQ2, hW2⟩)
      go_roundw
      case rel => exact ⟨k, _, rfl, by omega, hQ2, HE, HW.out.trans hW2⟩
      case measure => simp [intOf]
theorem own_take {F : Fz} {w : World} {B : Nat} {e : TypeId} {s n c k : Nat} {A : Option Addr} {xs : List Value} (h : Own F w B e s (.slice A n c) n xs) (hk : k ≤ n) (hA : A ≠ none) : Own F w B e s (.slice A k c) k (xs.take (k * s)) := by
  obtain ⟨⟨hl, h1⟩, h2⟩ := h
  have hle : k * s ≤ n * s := Nat.mul_le_mul_right s hk
  rcases h1 with ⟨h3, _⟩ | ⟨g, cap, cur, h3, hbase, hb, h5, h6, h7, h8⟩
  · injection h3 with h3; exact absurd h3 hA
  · injection h3 with h3 _ h4
    subst h3 h4
    refine ⟨⟨by simp; omega, .inr ⟨g, c, cur, rfl, hbase, hb, by omega, h6, h7, ?_⟩⟩, fun g' hg => h2 g' (by simpa [Value.ownBlock] using hg)⟩
    rw [← h8, List.take_take, Nat.min_eq_left hle]
theorem lines_take (S : Nat → Addr × Nat) (E : Nat → List Evt) : ∀ (xs : List Ln) (k : Nat), linesC S E (xs.take k) = (linesC S E xs).take (k * 2)
  | [], k => by simp [linesC]
  | y :: xs, 0 => by simp [linesC]
  | y :: xs, k + 1 => by
    obtain ⟨a, b, e⟩ : ∃ a b, ∀ zs, linesC S E (y :: zs) = a :: b :: linesC S E zs := ⟨_, _, fun _ => rfl⟩
    rw [List.take_succ_cons, e, e, lines_take S E xs k, show (k + 1) * 2 = k * 2 + 1 + 1 by omega]
    simp
set_option maxRecDepth 100000 in
set_option maxHeartbeats 2000000 in
theorem qpopm_w {F : Fz} {w : World} {gq g c B N : Nat} {S : Nat → Addr × Nat} {E : Nat → List Evt} {xs : List Ln} (h : QM F w gq g c B S E (N + 1) xs) (hN : N + 1 ≤ 1000) (hgF : F gq = none) (hc : N + 1 ≤ c) :
    Calls Try.prog 105 #[.pointer (some ⟨gq, 0, none⟩)] w fun e w' => (∃ v, e = .returned v) ∧ QM F w' gq g c B S E N (xs.take N) ∧ Wr [gq] w w' := by
  have hc0 := h.cell
  have hz := h.ptr.frozen 0
  obtain ⟨c1, c2, _, _⟩ := line_cells h.len h.row (i := N) (by omega)
  obtain ⟨ax, nx, cx, bx, hax⟩ : ∃ ax nx cx bx, lnC S E (xs.getD N default) = [.slice (some ax) nx cx, .int .i64 (bx : Nat)] := ⟨_, _, _, _, rfl⟩
  rw [hax] at c1 c2
  replace c1 : w.cell? ⟨g, N * 2, none⟩ = some (.slice (some ax) nx cx) := c1
  replace c2 : w.cell? ⟨g, N * 2 + 1, none⟩ = some (.int .i64 (bx : Nat)) := c2
  have hNI : ((N + 1 : Nat) : Int) - 1 = (N : Int) := by omega
  have hNl : (N : Int) < ((N + 1 : Nat) : Int) := by omega
  have hcI : (N : Int) ≤ (c : Int) := by omega
  have hgl := h.ptr.lt
  have HF : Hid (QM F ((w.setCell ⟨gq, 0, none⟩ (.slice (some ⟨g, 0, none⟩) N c)).alloc (.cells #[.slice (some ax) nx cx, .int .i64 (bx : Nat)] 55)) gq g c B S E N (xs.take N)) := Lib.hid (by
    have hp := (h.ptr.set_ 0 (.slice (some ⟨g, 0, none⟩) N c)).alloc (.cells #[.slice (some ax) nx cx, .int .i64 (bx : Nat)] 55)
    refine ⟨hp, ?_, (h.sat.setCell (p := ⟨gq, 0, none⟩) hgF _).alloc _, h.ne, by rw [List.length_take, h.len]; omega, fun x hx => h.ok x (List.mem_of_mem_take hx)⟩
    rw [lines_take]
    exact ((own_take h.row (by omega) (by simp)).setFar (a := ⟨gq, 0, none⟩) (by simp [Value.ownBlock]; have := h.ne; omega) _).alloc _)
  have HW : Hid (Wr [gq] w ((w.setCell ⟨gq, 0, none⟩ (.slice (some ⟨g, 0, none⟩) N c)).alloc (.cells #[.slice (some ax) nx cx, .int .i64 (bx : Nat)] 55))) := Lib.hid (((Wr.refl _ _).set (by simp) 0 _).alloc _)
  clear h hax hgF
  go_enter Try.func105, Try.ntmps105
  go_wp2_with fail
  go_ret
  exact ⟨⟨_, rfl⟩, HF.out, HW.out⟩
set_option maxRecDepth 100000 in
set_option maxHeartbeats 2000000 in
theorem qpop_w {F : Fz} {w : World} {gq g c B N : Nat} {S : Nat → Addr × Nat} {E : Nat → List Evt} {xs : List Ln} (h : QM F w gq g c B S E (N + 1) xs) (hN : N + 1 ≤ 1000) (hgF : F gq = none) (hc : N + 1 ≤ c) :
    Calls Try.prog 22 #[.iface 51 (.pointer (some ⟨gq, 0, none⟩))] w fun e w' => (∃ v, e = .returned v) ∧ QM F w' gq g c B S E N ((popS (ltL tmV) xs).take N) ∧ Wr [g, gq] w w' := by
  have hmN : ∀ k, Sem.run Try.prog (method (k + 1) 51 (.pointer (some ⟨gq, 0, none⟩)) "Len") w = .ok (20, .slice (some ⟨g, 0, none⟩) (N + 1) c) w := fun k => q_len k h.cell
  have hmS : ∀ k, Sem.run Try.prog (method (k + 1) 51 (.pointer (some ⟨gq, 0, none⟩)) "Swap") w = .ok (106, .slice (some ⟨g, 0, none⟩) (N + 1) c) w := fun k => q_swap k h.cell
  have eN := enterL
  have eS := enterS
  have eP := enterP
  have hNI : ((N + 1 : Nat) : Int) - 1 = (N : Int) := by omega
  have HSW := Lib.hid (h.swap hN 0 0 N (by omega) (by omega))
  have HP : Hid (popS (ltL tmV) xs = (downS (ltL tmV) N (swapL xs 0 N) N 0).1) := Lib.hid (by unfold popS; rw [h.len, Nat.add_sub_cancel])
  have hmP : ∀ (X : World) (n : Nat), X.cell? ⟨gq, 0, none⟩ = some (.slice (some ⟨g, 0, none⟩) n c) → ∀ k, Sem.run Try.prog (method (k + 1) 51 (.pointer (some ⟨gq, 0, none⟩)) "Pop") X = .ok (105, .pointer (some ⟨gq, 0, none⟩)) X := fun X n hX k => q_pop k hX
  have HMP := Lib.hid hmP
  clear h hmP
  go_enter Try.func22, Try.ntmps22
  go_wp2_with (first
    | (go_at_fn 20; refine (qlen_w _ (N + 1) c).mono ?_; rintro e w1 ⟨rfl, rfl⟩)
    | (go_at_fn 106; refine HSW.out.mono ?_; rintro e w2 ⟨rfl, hQ2, hW2⟩; have HD2 := Lib.hid (qdown_w hQ2 hN 0 N (by omega) (Nat.zero_le _) N (by omega)))
    | (go_at_call 34; refine HD2.out.mono ?_; rintro e w3 ⟨rfl, hQ3, hW3⟩; have hm3 := HMP.out w3 _ hQ3.cell; have HM3 := Lib.hid (qpopm_w hQ3 hN hgF hc))
    | (go_at_fn 105; refine HM3.out.mono ?_; rintro e w4 ⟨⟨v4, rfl⟩, hQ4, hW4⟩))
  go_ret
  exact ⟨⟨_, rfl⟩, by rw [HP.out]; exact hQ4, ((hW2.trans hW3).more (by simp)).trans (hW4.more (by simp))⟩
end Go.Proofs.Ytgmbicjcfhmcdaa
