/- The walk of the law BoundGrows. -/
import Derived.Test.YtdohbbjinbofbaaBoundZ
import Derived.Test.YtdohbbjinbofbaaBoundU
set_option linter.unusedVariables false
set_option linter.unusedSimpArgs false
namespace Go.Proofs.Ytdohbbjinbofbaa
open Go.RowKit
set_option maxRecDepth 100000 in
theorem clip_w (x : Int) (P : Nat) (hP : min (max x 0) 64 = (P : Int)) (w : World) : Calls Try.prog 23 #[.int .i64 x] w fun e w' => e = .returned (.int .i64 (P : Nat)) ∧ Below w.heap.size w w' := by
  go_enter Try.func23, Try.ntmps23
  go_wp2_with fail
  go_ret
  exact ⟨rfl, Below.refl _ _⟩
set_option maxRecDepth 100000 in
set_option maxHeartbeats 4000000 in
theorem boundGrows_c {F : Fz} {w : World} (hF : Sat F w) (ns : List Nat) (hns : ∀ k ∈ ns, k < 65536) (B : Option Addr) (m d : Nat) (hr : Rd F 1 B m (ns.map encW)) (props room more wide : Int) :
    Calls Try.prog 6 #[.slice B m d, .int .i64 props, .int .i64 room, .int .i64 more, .int .i64 wide] w fun e w' => e = .returned (.bool true) ∧ Below w.heap.size w w' := by
  have HMk := Lib.hid (make_w hF ns hns B m d hr true (makeT true ns) rfl)
  have hsz := (make_size true ns).1
  rw [← Tr.length_flat (makeT true ns) 0] at hsz
  obtain ⟨hf, _, hp⟩ := ok_form (make_ok true ns hns).1
  have hp := hp rfl
  obtain ⟨l, hl⟩ : ∃ l, (makeT true ns).flat 0 = l := ⟨_, rfl⟩
  rw [hl] at HMk hsz hf hp
  have hb : (formL l && plainS l) = true := by rw [hf, hp]; rfl
  obtain ⟨_, _, t, ht⟩ := plain_tree hb
  clear hl hr hns
  have hn : l.length ≤ 1000 := by omega
  obtain ⟨P0, hP0⟩ : ∃ P0 : Nat, min (max props 0) 64 = (P0 : Int) := ⟨(min (max props 0) 64).toNat, by omega⟩
  obtain ⟨C0, hC0⟩ : ∃ C0 : Nat, min (max room 1) 4096 = (C0 : Int) := ⟨(min (max room 1) 4096).toNat, by omega⟩
  obtain ⟨p', hp'⟩ : ∃ p', max props more = p' := ⟨_, rfl⟩
  obtain ⟨r', hr'⟩ : ∃ r', max room wide = r' := ⟨_, rfl⟩
  obtain ⟨P1, hP1⟩ : ∃ P1 : Nat, min (max p' 0) 64 = (P1 : Int) := ⟨(min (max p' 0) 64).toNat, by omega⟩
  obtain ⟨C1, hC1⟩ : ∃ C1 : Nat, min (max r' 1) 4096 = (C1 : Int) := ⟨(min (max r' 1) 4096).toNat, by omega⟩
  have hPP : P0 ≤ P1 := by omega
  have hCC : C0 ≤ C1 := by omega
  have h1 := cellsT_mono hPP hCC t
  have h2 := cellsT_more (C := C0) hPP t
  have hb0 := cellsT_le (P := P0) (C := C0) (by omega) (by omega) (tree_valid ht) (by rw [← tree_len ht]; omega)
  have hb1 := cellsT_le (P := P1) (C := C1) (by omega) (by omega) (tree_valid ht) (by rw [← tree_len ht]; omega)
  have hb2 := cellsT_le (P := P1) (C := C0) (by omega) (by omega) (tree_valid ht) (by rw [← tree_len ht]; omega)
  have e0 := onT_yes (f := cellsT P0 C0) hb ht
  have e1 := onT_yes (f := cellsT P1 C1) hb ht
  have e2 := onT_yes (f := cellsT P1 C0) hb ht
  have e3 := onT_yes (f := restT) hb ht
  have e4 := onT_yes (f := extraT) hb ht
  have hC := fun (X : World) (F1 : Fz) (h : Sat F1 X) (A : Option Addr) (c : Nat) (hc : l.length ≤ c) (hN : NodesF F1 A l.length l) => bcells_w h l hn A l.length c hc hN
  have hHd := fun (X : World) (F1 : Fz) (h : Sat F1 X) (A : Option Addr) (c : Nat) (hc : l.length ≤ c) (hN : NodesF F1 A l.length l) => bheads_w h l hn A l.length c hc hN (restT t) (extraT t) e3 e4
  have hC0' := fun X F1 h A c hc hN => hC X F1 h A c hc hN props room P0 C0 hP0 hC0 _ e0
  have hC1' := fun X F1 h A c hc hN => hC X F1 h A c hc hN p' r' P1 C1 hP1 hC1 _ e1
  have hC2' := fun X F1 h A c hc hN => hC X F1 h A c hc hN p' room P1 C0 hP1 hC0 _ e2
  have hC3' := fun X F1 h A c hc hN => hC X F1 h A c hc hN (P0 : Int) (C0 : Int) P0 C0 (by omega) (by omega) _ e0
  have hK0 := Lib.hid (fun X => clip_w props P0 hP0 X)
  have hK1 := Lib.hid (fun X => clip_w p' P1 hP1 X)
  generalize cellsT P0 C0 t = V0 at *
  generalize cellsT P1 C1 t = V1 at *
  generalize cellsT P1 C0 t = V2 at *
  obtain ⟨H, hH⟩ : ∃ H, restT t + extraT t = H := ⟨_, rfl⟩
  rw [hH] at h2 hHd
  obtain ⟨Pd, hPd⟩ : ∃ Pd, P1 - P0 = Pd := ⟨_, rfl⟩
  rw [hPd] at h2
  obtain ⟨D, hD⟩ : ∃ D, H * Pd = D := ⟨_, rfl⟩
  rw [hD] at h2
  have hDz : (H : Int) * (Pd : Int) = (D : Int) := by rw [← hD, Int.natCast_mul]
  have wA : IntKind.u64.wrap ((V2 : Int) - (V0 : Int)) = (D : Int) := by rw [show (V2 : Int) - (V0 : Int) = (D : Int) by omega]; exact wrap_u (by omega) (by omega)
  have wB : IntKind.i64.wrap ((P1 : Int) - (P0 : Int)) = (Pd : Int) := by rw [show (P1 : Int) - (P0 : Int) = (Pd : Int) by omega]; exact wrap_i (by omega) (by omega)
  have wC : IntKind.i64.wrap ((H : Int) * (Pd : Int)) = (D : Int) := by rw [hDz]; exact wrap_i (by omega) (by omega)
  have wD : IntKind.u64.wrap (D : Int) = (D : Int) := wrap_u (by omega) (by omega)
  have hge : (V0 : Int) ≤ (V1 : Int) := by omega
  have HC0 := Lib.hid hC0'
  have HC1 := Lib.hid hC1'
  have HC2 := Lib.hid hC2'
  have HC3 := Lib.hid hC3'
  have HHd := Lib.hid hHd
  have hn5 : l.length ≤ 1000 := hn
  clear hC hC0' hC1' hC2' hC3' hHd e0 e1 e2 e3 e4 hb0 hb1 hb2 hPP hCC h1 h2 hP0 hP1 hC1 hf hp hb ht hH hPd hD hDz hsz
  go_enter Try.func6, Try.ntmps6
  go_wp2_with fail
  go_at_call 11
  refine HMk.out.mono ?_
  rintro e W ⟨A, c, F1, rfl, hc, hN, hbW, hF1, _⟩
  have HN := Lib.hid hN
  have HC := Lib.hid hc
  clear hN
  go_wp2_with fail
  go_at_call 21
  refine (HC0.out _ F1 hF1 A c HC.out HN.out).mono ?_
  rintro e w1 ⟨rfl, hw1, _⟩
  have hF2 := hF1.below hw1
  go_wp2_with fail
  go_at_call 21
  refine (HC1.out _ F1 hF2 A c HC.out HN.out).mono ?_
  rintro e w2 ⟨rfl, hw2, _⟩
  have hF3 := hF2.below hw2
  go_wp2_with fail
  go_at_call 21
  refine (HC2.out _ F1 hF3 A c HC.out HN.out).mono ?_
  rintro e w3 ⟨rfl, hw3, _⟩
  have hF4 := hF3.below hw3
  go_wp2_with fail
  go_at_call 20
  refine (HHd.out _ F1 hF4 A c HC.out HN.out).mono ?_
  rintro e w4 ⟨rfl, hw4, _⟩
  have hF5 := hF4.below hw4
  go_wp2_with fail
  go_at_call 23
  refine (hK1.out _).mono ?_
  rintro e w5 ⟨rfl, hw5⟩
  have hF6 := hF5.below hw5
  go_wp2_with fail
  go_at_call 23
  refine (hK0.out _).mono ?_
  rintro e w6 ⟨rfl, hw6⟩
  have hF7 := hF6.below hw6
  go_wp2_with fail
  go_at_call 23
  refine (hK0.out _).mono ?_
  rintro e w7 ⟨rfl, hw7⟩
  have hF8 := hF7.below hw7
  go_wp2_with fail
  go_at_call 21
  refine (HC3.out _ F1 hF8 A c HC.out HN.out).mono ?_
  rintro e w8 ⟨rfl, hw8, _⟩
  go_wp2_with fail
  go_at_call 17
  refine (awake26_w _).mono ?_
  rintro e w9 ⟨rfl, hw9⟩
  go_wp2_with fail
  go_ret
  exact ⟨by simp, bthen (bthen (bthen (bthen (bthen (bthen (bthen (bthen (bthen hbW hw1) hw2) hw3) hw4) hw5) hw6) hw7) hw8) hw9⟩
end Go.Proofs.Ytdohbbjinbofbaa
