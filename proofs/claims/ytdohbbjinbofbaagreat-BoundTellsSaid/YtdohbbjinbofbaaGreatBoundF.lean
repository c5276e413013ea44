/- The walks of the bound's functions. -/
import Derived.Test.YtdohbbjinbofbaaGreatBoundA
set_option linter.unusedVariables false
set_option linter.unusedSimpArgs false
/-! The walks of the bound's functions. -/
namespace Go.Proofs.YtdohbbjinbofbaaGreat
open Go.RowKit
set_option maxRecDepth 100000 in
theorem overNo_w {F : Fz} {w : World} (hF : Sat F w) (l : List Nd) (hn : l.length ≤ 1000) (A : Option Addr) (n c : Nat) (hl : NodesF F A n l) (hb : (formL l && plainS l) = false) (v : Value) :
    Calls Tryz.prog 48 #[.slice A n c, v] w fun e w' => e = .returned (encU 0) ∧ Below w.heap.size w w' := by
  have HFm := Lib.hid (bform_w hF l hn A n c hl false hb)
  clear hl hb hn
  go_enter Tryz.func48, Tryz.ntmps48
  go_wp2_with (go_at_call 46; refine HFm.out.mono ?_; rintro e w1 ⟨rfl, hw1⟩)
  go_ret
  exact ⟨rfl, hw1⟩
/-- A formula without sugar is a tree. -/
theorem plain_tree {l : List Nd} (hb : (formL l && plainS l) = true) : formL l = true ∧ plainS l = true ∧ ∃ t, treeS l = some t := by
  rw [Bool.and_eq_true] at hb
  refine ⟨hb.1, hb.2, ?_⟩
  have := hb.1
  unfold formL at this
  cases ht : treeS l with
  | none => rw [ht] at this; cases this
  | some t => exact ⟨t, rfl⟩
def onT (f : Tr → Nat) (l : List Nd) : Nat := if (formL l && plainS l) = true then (match treeS l with | some t => f t | none => 0) else 0
theorem onT_no {f : Tr → Nat} {l : List Nd} (hb : (formL l && plainS l) = false) : onT f l = 0 := by unfold onT; rw [hb]; rfl
theorem onT_yes {f : Tr → Nat} {l : List Nd} {t : Tr} (hb : (formL l && plainS l) = true) (ht : treeS l = some t) : onT f l = f t := by unfold onT; rw [if_pos hb, ht]
theorem heapF_lt {w : World} : ∀ b o, heapF w b = some o → b < w.heap.size := fun b o h => (Array.getElem?_eq_some_iff.1 h).1
theorem skip_zero {l : List Nd} {t : Tr} (ht : treeS l = some t) (i : Nat) (hi : i < l.length) (h : 18 ≤ l[i].kind) : atomM (t.sub i) = 0 ∧ backM (t.sub i) = 0 := by
  have := get_flat_root ht i hi
  rw [this] at h
  have h' : 18 ≤ (t.sub i).root.kind := h
  cases hx : t.sub i with
  | leaf _ => exact ⟨rfl, rfl⟩
  | bin _ _ _ => exact ⟨rfl, rfl⟩
  | un nd a =>
    rw [hx] at h'
    have h2 : 18 ≤ nd.kind := h'
    simp only [atomM, backM]
    rw [if_neg (by omega), if_neg (by omega)]
    exact ⟨rfl, rfl⟩
set_option maxRecDepth 100000 in
set_option maxHeartbeats 1000000 in
theorem batoms_w {F : Fz} {w : World} (hF : Sat F w) (l : List Nd) (hn : l.length ≤ 1000) (A : Option Addr) (n c : Nat) (hc : n ≤ c) (hl : NodesF F A n l) (N : Nat) (hN : onT atomsN l = N) :
    Calls Tryz.prog 25 #[.slice A n c] w fun e w' => e = .returned (.int .i64 (N : Nat)) ∧ Below w.heap.size w w' ∧ N ≤ 10000000000 := by
  have hmf : ∀ (fn : Fn) (first cap : Array Value) (w : World), (Instr.makeFunc fn first cap).run Tryz.prog w = .ok (.func fn first cap) w := fun _ _ _ _ => rfl
  have hlN := hl.cle hF.cle
  have hb1 := balloc w (.cells #[encU 0] 46)
  cases hb : (formL l && plainS l)
  · have h0 := onT_no (f := atomsN) hb
    rw [hN] at h0
    subst h0
    have HO := Lib.hid (fun v => overNo_w ((sat_heapF w).below hb1) l hn A n c hlN hb v)
    have hB := Lib.hid (Blk.new w 46 #[encU 0])
    clear hN hb hl hlN hn
    go_enter Tryz.func25, Tryz.ntmps25
    go_wp2_with (go_at_call 48; refine (HO.out _).mono ?_; rintro e w3 ⟨rfl, hw3⟩; obtain ⟨q0, q1⟩ := blk1 (hB.out.call hw3))
    go_ret
    exact ⟨rfl, bthen hb1 hw3, by omega⟩
  · obtain ⟨hf, hp, t, ht⟩ := plain_tree hb
    have hN2 := onT_yes (f := atomsN) hb ht
    rw [hN] at hN2
    have hlt := tree_len ht
    have hbound := fun i hi => (atomM_le hn ht i hi).1
    have hup := fun i (hi : i ≤ l.length) => uptoN_le (g := atomM) (t := t) (n := l.length) (B := 10000000) hbound i hi
    have hall : uptoN atomM t l.length = N := by rw [hlt, uptoN_all, ← atomsN_all, hN2]
    have hNb : N ≤ 10000000000 := by
      have := hup l.length (Nat.le_refl _)
      rw [hall] at this
      exact Nat.le_trans this (by omega)
    have hO := over26_w (F := heapF w) (w := w.alloc (.cells #[encU 0] 46)) ((sat_heapF w).below hb1) l hn A n c hc hlN hf hp ht 51 #[.pointer (some ⟨w.heap.size, 0, none⟩)] (enters_of Tryz.func51 (by kernel_rfl) rfl) w.heap.size heapF_lt (by simp)
      (fun i X => Blk X w.heap.size 46 #[encU (uptoN atomM t i)]) (fun _ => 0) (fun i X X' h hb => h.call hb)
      (fun i hi hk X h => by rw [uptoN_succ, (skip_zero ht i hi hk).1, Nat.add_zero]; exact h)
      (fun i hi x hx hk X hX hB hI s Ak ck P pc Bl bn bc hR => by
        have hb := node_bounds hn ht i hi
        rw [hx] at hb
        refine (atomsF_w x w.heap.size _ hI (Nat.le_trans (hup i (by omega)) (by omega)) (fun h a e hk => ⟨(hb.1 h a e hk).1, (hb.1 h a e hk).2.1, (hb.1 h a e hk).2.2.1⟩) (fun e => hb.2 (.inr e)) i s Ak (kidsT x).length ck P pc Bl bn bc).mono ?_
        rintro e w' ⟨h1, h2, h3⟩
        exact ⟨h1, by rw [uptoN_succ, hx]; exact h2, h3 _ (Nat.le_refl _) hB⟩)
      (by exact Blk.new w 46 #[encU 0])
    rw [hall] at hO
    have HO := Lib.hid hO
    clear hO hN hb hf hp ht hN2 hlt hbound hup hall hl hlN hn
    go_enter Tryz.func25, Tryz.ntmps25
    go_wp2_with (go_at_call 48; refine HO.out.mono ?_; rintro e w3 ⟨rfl, hI, hw3⟩; obtain ⟨q0, q1⟩ := blk1 hI)
    go_ret
    exact ⟨rfl, hb1.trans hw3, hNb⟩
end Go.Proofs.YtdohbbjinbofbaaGreat
/-! The walk of bound.Once. -/
namespace Go.Proofs.YtdohbbjinbofbaaGreat
open Go.RowKit
/-- What one pass keeps for the functions of n atoms. -/
def funcsN (n : Nat) : Nat := if n = 0 then 0 else 2 * (2 ^ (2 ^ n) - 2)
def onceV (n b : Nat) : Nat := if 10 < n then 0 else if 5 < n then 4611686018427387904 else 1 + funcsN n + 2 * b
def onceT (t : Tr) : Nat := onceV (atomsN t) (backN t)
theorem funcsN_le {n : Nat} (h : n ≤ 5) : funcsN n ≤ 8589934588 := by
  rcases (show n = 0 ∨ n = 1 ∨ n = 2 ∨ n = 3 ∨ n = 4 ∨ n = 5 by omega) with rfl | rfl | rfl | rfl | rfl | rfl <;> decide
set_option maxRecDepth 100000 in
set_option maxHeartbeats 2000000 in
theorem bonce_w {F : Fz} {w : World} (hF : Sat F w) (l : List Nd) (hn : l.length ≤ 1000) (A : Option Addr) (n c : Nat) (hc : n ≤ c) (hl : NodesF F A n l) (R : Nat) (hR : onT onceT l = R) :
    Calls Tryz.prog 26 #[.slice A n c] w fun e w' => e = .returned (encU R) ∧ Below w.heap.size w w' := by
  have hmf : ∀ (fn : Fn) (first cap : Array Value) (w : World), (Instr.makeFunc fn first cap).run Tryz.prog w = .ok (.func fn first cap) w := fun _ _ _ _ => rfl
  obtain ⟨N, hN⟩ : ∃ N, onT atomsN l = N := ⟨_, rfl⟩
  have HAT := Lib.hid (batoms_w hF l hn A n c hc hl N hN)
  cases hb : (formL l && plainS l)
  · have h0 := onT_no (f := onceT) hb
    rw [hR] at h0
    subst h0
    have HFm := Lib.hid (fun (X : World) (h : Sat F X) => bform_w h l hn A n c hl false hb)
    clear hR hb hl hn hN
    go_enter Tryz.func26, Tryz.ntmps26
    go_wp2_with (first
      | (go_at_call 25; refine HAT.out.mono ?_; rintro e w1 ⟨rfl, hw1, hNb⟩)
      | (go_at_call 46; refine (HFm.out _ (hF.below hw1)).mono ?_; rintro e w2 ⟨rfl, hw2⟩))
    go_ret
    exact ⟨rfl, bthen hw1 hw2⟩
  · obtain ⟨hf, hp, t, ht⟩ := plain_tree hb
    have hR2 := onT_yes (f := onceT) hb ht
    have hN2 := onT_yes (f := atomsN) hb ht
    rw [hN] at hN2
    have hR3 : R = onceV N (backN t) := by rw [← hR, hR2, hN2]; rfl
    have HFm := Lib.hid (fun (X : World) (h : Sat F X) => bform_w h l hn A n c hl true hb)
    by_cases h10 : 10 < N
    · have hR4 : R = 0 := by rw [hR3]; unfold onceV; rw [if_pos h10]
      subst hR4
      have h10I : (10 : Int) < (N : Int) := by omega
      clear hR hb hl hn hN hR2 hR3 hN2 hf hp ht
      go_enter Tryz.func26, Tryz.ntmps26
      go_wp2_with (first
        | (go_at_call 25; refine HAT.out.mono ?_; rintro e w1 ⟨rfl, hw1, hNb⟩)
        | (go_at_call 46; refine (HFm.out _ (hF.below hw1)).mono ?_; rintro e w2 ⟨rfl, hw2⟩))
      go_ret
      exact ⟨rfl, bthen hw1 hw2⟩
    have h10I : decide ((10 : Int) < (N : Int)) = false := decide_eq_false (by omega)
    by_cases h5 : 5 < N
    · have hR4 : R = 4611686018427387904 := by rw [hR3]; unfold onceV; rw [if_neg h10, if_pos h5]
      subst hR4
      have h5I : (5 : Int) < (N : Int) := by omega
      clear hR hb hl hn hN hR2 hR3 hN2 hf hp ht h10
      go_enter Tryz.func26, Tryz.ntmps26
      go_wp2_with (first
        | (go_at_call 25; refine HAT.out.mono ?_; rintro e w1 ⟨rfl, hw1, hNb⟩)
        | (go_at_call 46; refine (HFm.out _ (hF.below hw1)).mono ?_; rintro e w2 ⟨rfl, hw2⟩))
      go_ret
      exact ⟨rfl, bthen hw1 hw2⟩
    have h5I : decide ((5 : Int) < (N : Int)) = false := decide_eq_false (by omega)
    have hN5 : N ≤ 5 := by omega
    have hR4 : R = 1 + funcsN N + 2 * backN t := by rw [hR3]; unfold onceV; rw [if_neg h10, if_neg h5]
    obtain ⟨P, hP⟩ : ∃ P, 1 + funcsN N = P := ⟨_, rfl⟩
    have hPb : P ≤ 8589934589 := by have := funcsN_le hN5; omega
    rw [hP] at hR4
    have hlt := tree_len ht
    have hbound := fun i hi => (atomM_le hn ht i hi).2
    have hup := fun i (hi : i ≤ l.length) => uptoN_le (g := backM) (t := t) (n := l.length) (B := 20000000) hbound i hi
    have hall : uptoN backM t l.length = backN t := by rw [hlt, uptoN_all, ← backN_all]
    have hRb : R ≤ 100000000000 := by
      have := hup l.length (Nat.le_refl _)
      rw [hall] at this
      have h2 : l.length * 20000000 ≤ 20000000000 := by omega
      omega
    have hO := fun (X : World) (hX : Below w.heap.size w X) (g : Nat) (hg : w.heap.size ≤ g) (hB : Blk X g 46 #[encU P]) => over26_w (F := heapF w) (w := X) ((sat_heapF w).below hX) l hn A n c hc (hl.cle hF.cle) hf hp ht 53 #[.pointer (some ⟨g, 0, none⟩)] (enters_of Tryz.func53 (by kernel_rfl) rfl) w.heap.size heapF_lt hX.size
      (fun i X => Blk X g 46 #[encU (P + 2 * uptoN backM t i)]) (fun _ => 0) (fun i X X' h hb => h.call hb)
      (fun i hi hk X h => by rw [uptoN_succ, (skip_zero ht i hi hk).2, Nat.add_zero]; exact h)
      (fun i hi x hx hk X hX hB hI s Ak ck Pp pc Bl bn bc hRr => by
        have hb := node_bounds hn ht i hi
        rw [hx] at hb
        have hbb := hup i (by omega)
        refine (onceF_w x g _ hI (by have : i * 20000000 ≤ 20000000000 := by omega
                                     omega) (fun h a e hk => ⟨(hb.1 h a e (hk.elim .inl .inl)).1, (hb.1 h a e (hk.elim .inl .inl)).2.1, (hb.1 h a e (hk.elim .inl .inl)).2.2.1⟩) (fun e => hb.2 (.inl e)) i s Ak (kidsT x).length ck Pp pc Bl bn bc).mono ?_
        rintro e w' ⟨h1, h2, h3⟩
        exact ⟨h1, by rw [uptoN_succ, hx, Nat.mul_add, ← Nat.add_assoc]; exact h2, h3 _ hg hB⟩)
      (by simpa [uptoN, sumL] using hB)
    rw [hall, ← hR4] at hO
    have HO := Lib.hid hO
    have HP := Lib.hid hP
    clear hO hR hb hl hn hN hR2 hR3 hN2 hf hp ht h10 h5 hR4 hP hlt hbound hup hall
    rcases (show N = 0 ∨ N = 1 ∨ N = 2 ∨ N = 3 ∨ N = 4 ∨ N = 5 by omega) with rfl | rfl | rfl | rfl | rfl | rfl
    · obtain rfl : P = 1 := HP.out.symm
      clear hPb h10I h5I hN5
      go_enter Tryz.func26, Tryz.ntmps26
      go_wp2_with (first
        | (go_at_call 25; refine HAT.out.mono ?_; rintro e w1 ⟨rfl, hw1, hNb⟩)
        | (go_at_call 46; refine (HFm.out _ (hF.below hw1)).mono ?_; rintro e w2 ⟨rfl, hw2⟩; have hb2 := bthen (bthen hw1 hw2) (balloc w2 (.cells #[encU 1] 46)); have hz2 := (bthen hw1 hw2).size)
        | (go_at_call 48; refine (HO.out _ hb2 w2.heap.size hz2 (Blk.new w2 46 #[encU 1])).mono ?_; rintro e w3 ⟨rfl, hI, hw3⟩; obtain ⟨q0, q1⟩ := blk1 hI))
      go_ret
      exact ⟨by simp; omega, by first | exact hb2.trans hw3 | exact hb2.drew.trans hw3⟩
    · obtain rfl : P = 5 := HP.out.symm
      clear hPb h10I h5I hN5
      go_enter Tryz.func26, Tryz.ntmps26
      go_wp2_with (first
        | (go_at_call 25; refine HAT.out.mono ?_; rintro e w1 ⟨rfl, hw1, hNb⟩)
        | (go_at_call 46; refine (HFm.out _ (hF.below hw1)).mono ?_; rintro e w2 ⟨rfl, hw2⟩))
      have hz2 := (bthen hw1 hw2).size
      have hB2 := Blk.new w2 46 #[encU 5]
      have hb2 := bthen (bthen hw1 hw2) (balloc w2 (.cells #[encU 5] 46))
      go_region
      all_goals
        go_wp2_with (go_at_call 48; refine (HO.out _ (by first | exact hb2.drew | exact hb2) w2.heap.size hz2 (by first | exact hB2.drewN 1 | exact hB2)).mono ?_; rintro e w3 ⟨rfl, hI, hw3⟩; obtain ⟨q0, q1⟩ := blk1 hI)
        go_ret
        exact ⟨by simp; omega, by first | exact hb2.trans hw3 | exact hb2.drew.trans hw3⟩
    · obtain rfl : P = 29 := HP.out.symm
      clear hPb h10I h5I hN5
      go_enter Tryz.func26, Tryz.ntmps26
      go_wp2_with (first
        | (go_at_call 25; refine HAT.out.mono ?_; rintro e w1 ⟨rfl, hw1, hNb⟩)
        | (go_at_call 46; refine (HFm.out _ (hF.below hw1)).mono ?_; rintro e w2 ⟨rfl, hw2⟩))
      have hz2 := (bthen hw1 hw2).size
      have hB2 := Blk.new w2 46 #[encU 29]
      have hb2 := bthen (bthen hw1 hw2) (balloc w2 (.cells #[encU 29] 46))
      go_region
      all_goals
        go_wp2_with (go_at_call 48; refine (HO.out _ (by first | exact hb2.drew | exact hb2) w2.heap.size hz2 (by first | exact hB2.drewN 1 | exact hB2)).mono ?_; rintro e w3 ⟨rfl, hI, hw3⟩; obtain ⟨q0, q1⟩ := blk1 hI)
        go_ret
        exact ⟨by simp; omega, by first | exact hb2.trans hw3 | exact hb2.drew.trans hw3⟩
    · obtain rfl : P = 509 := HP.out.symm
      clear hPb h10I h5I hN5
      go_enter Tryz.func26, Tryz.ntmps26
      go_wp2_with (first
        | (go_at_call 25; refine HAT.out.mono ?_; rintro e w1 ⟨rfl, hw1, hNb⟩)
        | (go_at_call 46; refine (HFm.out _ (hF.below hw1)).mono ?_; rintro e w2 ⟨rfl, hw2⟩))
      have hz2 := (bthen hw1 hw2).size
      have hB2 := Blk.new w2 46 #[encU 509]
      have hb2 := bthen (bthen hw1 hw2) (balloc w2 (.cells #[encU 509] 46))
      go_region
      all_goals
        go_wp2_with (go_at_call 48; refine (HO.out _ (by first | exact hb2.drew | exact hb2) w2.heap.size hz2 (by first | exact hB2.drewN 1 | exact hB2)).mono ?_; rintro e w3 ⟨rfl, hI, hw3⟩; obtain ⟨q0, q1⟩ := blk1 hI)
        go_ret
        exact ⟨by simp; omega, by first | exact hb2.trans hw3 | exact hb2.drew.trans hw3⟩
    · obtain rfl : P = 131069 := HP.out.symm
      clear hPb h10I h5I hN5
      go_enter Tryz.func26, Tryz.ntmps26
      go_wp2_with (first
        | (go_at_call 25; refine HAT.out.mono ?_; rintro e w1 ⟨rfl, hw1, hNb⟩)
        | (go_at_call 46; refine (HFm.out _ (hF.below hw1)).mono ?_; rintro e w2 ⟨rfl, hw2⟩))
      have hz2 := (bthen hw1 hw2).size
      have hB2 := Blk.new w2 46 #[encU 131069]
      have hb2 := bthen (bthen hw1 hw2) (balloc w2 (.cells #[encU 131069] 46))
      go_region
      all_goals
        go_wp2_with (go_at_call 48; refine (HO.out _ (by first | exact hb2.drew | exact hb2) w2.heap.size hz2 (by first | exact hB2.drewN 1 | exact hB2)).mono ?_; rintro e w3 ⟨rfl, hI, hw3⟩; obtain ⟨q0, q1⟩ := blk1 hI)
        go_ret
        exact ⟨by simp; omega, by first | exact hb2.trans hw3 | exact hb2.drew.trans hw3⟩
    · obtain rfl : P = 8589934589 := HP.out.symm
      clear hPb h10I h5I hN5
      go_enter Tryz.func26, Tryz.ntmps26
      go_wp2_with (first
        | (go_at_call 25; refine HAT.out.mono ?_; rintro e w1 ⟨rfl, hw1, hNb⟩)
        | (go_at_call 46; refine (HFm.out _ (hF.below hw1)).mono ?_; rintro e w2 ⟨rfl, hw2⟩))
      have hz2 := (bthen hw1 hw2).size
      have hB2 := Blk.new w2 46 #[encU 8589934589]
      have hb2 := bthen (bthen hw1 hw2) (balloc w2 (.cells #[encU 8589934589] 46))
      go_region
      all_goals
        go_wp2_with (go_at_call 48; refine (HO.out _ (by first | exact hb2.drew | exact hb2) w2.heap.size hz2 (by first | exact hB2.drewN 1 | exact hB2)).mono ?_; rintro e w3 ⟨rfl, hI, hw3⟩; obtain ⟨q0, q1⟩ := blk1 hI)
        go_ret
        exact ⟨by simp; omega, by first | exact hb2.trans hw3 | exact hb2.drew.trans hw3⟩
end Go.Proofs.YtdohbbjinbofbaaGreat
