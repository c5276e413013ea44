/- The walk of the law AtomsCount. -/
import Derived.Test.YtdbbooibkiicnaaGreatAw29
import Derived.Test.YtdbbooibkiicnaaGreatRPlace
import Derived.Test.YtdbbooibkiicnaaGreatBuild
set_option linter.unusedVariables false
set_option linter.unusedSimpArgs false
namespace Go.Proofs.YtdbbooibkiicnaaGreat
open Go.RowKit
set_option maxRecDepth 100000 in
theorem atomsCount_big {w : World} (A : Option Addr) (n c : Nat) (hn : 1000 < n) (B : Option Addr) (m d : Nat) (plain : Bool) (i k cl : Int) :
    Calls Tryz.prog 3 #[.slice A n c, .slice B m d, .bool plain, .int .i64 i, .int .i64 k, .int .i64 cl] w fun e w' => e = .returned (.bool true) ∧ Below w.heap.size w w' := by
  have hnI : (1000 : Int) < (n : Int) := by omega
  go_enter Tryz.func3, Tryz.ntmps3
  go_wp2_with (go_at_call 7; refine (awake29_w _).mono ?_; rintro e w1 ⟨rfl, hw1⟩)
  go_ret
  exact ⟨rfl, hw1⟩
set_option maxRecDepth 100000 in
set_option maxHeartbeats 2000000 in
theorem atomsCount_c {F : Fz} {w : World} (hF : Sat F w) (l : List Nd) (A : Option Addr) (n c : Nat) (hn : n ≤ 1000) (hc : n ≤ c) (hl : NodesF F A n l) (ns : List Nat) (hns : ∀ k ∈ ns, k < 65536) (B : Option Addr) (m d : Nat) (hr : Rd F 1 B m (ns.map encW)) (plain : Bool) (i k cl : Int) :
    Calls Tryz.prog 3 #[.slice A n c, .slice B m d, .bool plain, .int .i64 i, .int .i64 k, .int .i64 cl] w fun e w' => e = .returned (.bool true) ∧ Below w.heap.size w w' := by
  have HMk := Lib.hid (make_w hF ns hns B m d hr plain (makeT plain ns) rfl)
  have hsz := (make_size plain ns).1
  rw [← Tr.length_flat (makeT plain ns) 0] at hsz
  obtain ⟨f, hf⟩ : ∃ f, (makeT plain ns).flat 0 = f := ⟨_, rfl⟩
  rw [hf] at HMk hsz
  have hln : l.length ≤ 1000 := by have := hl.1; omega
  have hfn : f.length ≤ 1000 := by omega
  obtain ⟨N, hN⟩ : ∃ N, onT atomsN l = N := ⟨_, rfl⟩
  obtain ⟨P, hP⟩ : ∃ P, placeL l i k cl = P := ⟨_, rfl⟩
  obtain ⟨N', hN'⟩ : ∃ N, onT atomsN f = N := ⟨_, rfl⟩
  obtain ⟨P', hP'⟩ : ∃ P, placeL f i k cl = P := ⟨_, rfl⟩
  have H1 := Lib.hid (fun (X : World) (h : Sat F X) => acount_w h l hln A n c hc hl N hN)
  have H2 := Lib.hid (fun (X : World) (h : Sat F X) => atoms26_w h l hln A n c hc hl N hN)
  have H3 := Lib.hid (fun (X : World) (h : Sat F X) => aplace_w h l hln A n c hc hl i k cl P hP)
  have H4 := Lib.hid (fun (X : World) (h : Sat F X) => rplace26_w h l hln A n c hc hl i k cl P hP)
  have hnI : decide ((1000 : Int) < (n : Int)) = false := decide_eq_false (by omega)
  clear hf hP hN hl hln hr hns
  go_enter Tryz.func3, Tryz.ntmps3
  go_wp2_with fail
  go_at_call 8
  refine HMk.out.mono ?_
  rintro e W ⟨A5, c5, F1, rfl, hc5, hN5, hbW, hF1, _⟩
  have hFW := hF.below hbW
  have H5 := Lib.hid (fun (X : World) (h : Sat F1 X) => acount_w h f hfn A5 f.length c5 hc5 hN5 N' hN')
  have H6 := Lib.hid (fun (X : World) (h : Sat F1 X) => atoms26_w h f hfn A5 f.length c5 hc5 hN5 N' hN')
  have H7 := Lib.hid (fun (X : World) (h : Sat F1 X) => aplace_w h f hfn A5 f.length c5 hc5 hN5 i k cl P' hP')
  have H8 := Lib.hid (fun (X : World) (h : Sat F1 X) => rplace26_w h f hfn A5 f.length c5 hc5 hN5 i k cl P' hP')
  clear hN5 hP' hN'
  go_wp2_with fail
  refine (H1.out _ hFW).mono ?_
  rintro e w1 ⟨rfl, hw1⟩
  have hS1 := hFW.below hw1
  go_wp2_with fail
  refine (H2.out _ hS1).mono ?_
  rintro e w2 ⟨rfl, hw2⟩
  have hS2 := hS1.below hw2
  go_wp2_with fail
  refine (H3.out _ hS2).mono ?_
  rintro e w3 ⟨rfl, hw3⟩
  have hS3 := hS2.below hw3
  go_wp2_with fail
  refine (H4.out _ hS3).mono ?_
  rintro e w4 ⟨rfl, hw4⟩
  have hb4 := bthen (bthen (bthen hw1 hw2) hw3) hw4
  have hS4 := hF1.below hb4
  go_wp2_with fail
  refine (H5.out _ hS4).mono ?_
  rintro e w5 ⟨rfl, hw5⟩
  have hS5 := hS4.below hw5
  go_wp2_with fail
  refine (H6.out _ hS5).mono ?_
  rintro e w6 ⟨rfl, hw6⟩
  have hS6 := hS5.below hw6
  go_wp2_with fail
  refine (H7.out _ hS6).mono ?_
  rintro e w7 ⟨rfl, hw7⟩
  have hS7 := hS6.below hw7
  go_wp2_with fail
  refine (H8.out _ hS7).mono ?_
  rintro e w8 ⟨rfl, hw8⟩
  go_wp2_with fail
  refine (awake29_w _).mono ?_
  rintro e w9 ⟨rfl, hw9⟩
  go_wp2_with fail
  go_ret
  exact ⟨by first | rfl | simp, bthen hbW (bthen (bthen (bthen (bthen (bthen hb4 hw5) hw6) hw7) hw8) hw9)⟩
end Go.Proofs.YtdbbooibkiicnaaGreat
