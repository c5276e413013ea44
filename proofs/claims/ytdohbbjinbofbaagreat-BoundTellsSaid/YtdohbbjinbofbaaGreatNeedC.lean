/- The walk of the reference's need: two kids. -/
import Derived.Test.YtdohbbjinbofbaaGreatNeed
set_option linter.unusedVariables false
set_option linter.unusedSimpArgs false
namespace Go.Proofs.YtdohbbjinbofbaaGreat
open Go.RowKit
theorem newS4 (w : World) (g : Nat) (a b c d : Value) (t : TypeId) (cs : Array Value) : Blk (((((w.setCell ⟨g, 0, none⟩ a).setCell ⟨g, 1, none⟩ b).setCell ⟨g, 2, none⟩ c).setCell ⟨g, 3, none⟩ d).alloc (.cells cs t)) w.heap.size t cs := by
  have := Blk.new ((((w.setCell ⟨g, 0, none⟩ a).setCell ⟨g, 1, none⟩ b).setCell ⟨g, 2, none⟩ c).setCell ⟨g, 3, none⟩ d) t cs
  simpa using this
theorem blkNew {w : World} {g : Nat} {t : TypeId} {cs : Array Value} (h : w.heap.size = g) : Blk (w.alloc (.cells cs t)) g t cs := h ▸ Blk.new w t cs
set_option maxRecDepth 100000 in
set_option maxHeartbeats 8000000 in
theorem needBin_w {F : Fz} {w : World} (hF : Sat F w) (l : List Nd) (A : Option Addr) (n c : Nat) (hl : NodesF F A n l) (i : Nat) (hi : i < l.length) (hk : l[i].kind = 5 ∨ l[i].kind = 6) (C : Int) (j1 j2 : Int) (hkk : l[i].kids = [j1, j2]) (R E S Fl R' E' S' Fl' : Nat) (hb1 : R + R' ≤ 1000000) (hb3 : S + S' ≤ 2000000000000)
    (hK : ∀ X, Sat F X → Calls Tryz.prog 54 #[.slice A n c, .int .i64 j1, .int .i64 C] X (RetNeed R E S Fl X))
    (hK' : ∀ X, Sat F X → Calls Tryz.prog 54 #[.slice A n c, .int .i64 j2, .int .i64 C] X (RetNeed R' E' S' Fl' X)) :
    Calls Tryz.prog 54 #[.slice A n c, .int .i64 (i : Nat), .int .i64 C] w (RetNeed (R + R') (max E E') (S + S') (max Fl Fl') w) := by
  obtain ⟨hln, hl2⟩ := hl
  obtain ⟨ad, rfl, hL⟩ := hl2 (by omega)
  obtain ⟨Ak, ck, _, hKd, hd⟩ := hL i hi
  obtain ⟨c0, c1, c2, c3, c4⟩ := hd.sat (hF.alloc (.cells #[.int .i64 0, .int .i64 0, .int .i64 0, .int .i64 0] 49))
  have hiI : (i : Int) < (n : Int) := by omega
  generalize l[i] = nd at *
  obtain ⟨kind, name, lo, hi', kk⟩ := nd
  dsimp only at *
  subst hkk
  obtain ⟨ak, v, rfl, hv0, hk0⟩ := hKd.at1 (k := 0) (by simp)
  obtain rfl : Value.int .i64 j1 = v := by simpa using hv0
  rw [show ak.add 0 = ak by unfold Addr.add; simp] at hk0
  obtain ⟨ak', v', e', hv1, hk1⟩ := hKd.at1 (k := 1) (by simp)
  injection e' with e'
  subst e'
  obtain rfl : Value.int .i64 j2 = v' := by simpa using hv1
  have hb2 := (balloc w (.cells #[.int .i64 0, .int .i64 0, .int .i64 0, .int .i64 0] 49)).alloc (by simp) (.cells #[.int .i64 kind, .string name, .int .i64 lo, .int .i64 hi', .slice (some ak) 2 ck] 45)
  have hF2 := hF.below hb2
  have y0 := hF2.cell hk0
  have y1 : ((w.alloc (.cells #[.int .i64 0, .int .i64 0, .int .i64 0, .int .i64 0] 49)).alloc (.cells #[.int .i64 kind, .string name, .int .i64 lo, .int .i64 hi', .slice (some ak) 2 ck] 45)).cell? ⟨ak.block, ak.off + 1, none⟩ = some (.int .i64 j2) := hF2.cell hk1
  have yl := hF.clt hk0
  have HBr := Lib.hid ((Blk.new w 49 #[.int .i64 0, .int .i64 0, .int .i64 0, .int .i64 0]).alloc (.cells #[.int .i64 kind, .string name, .int .i64 lo, .int .i64 hi', .slice (some ak) 2 ck] 45))
  have HBn := Lib.hid (Blk.new2 w (.cells #[.int .i64 0, .int .i64 0, .int .i64 0, .int .i64 0] 49) 45 #[.int .i64 kind, .string name, .int .i64 lo, .int .i64 hi', .slice (some ak) 2 ck])
  have hz2 : ((w.alloc (.cells #[.int .i64 0, .int .i64 0, .int .i64 0, .int .i64 0] 49)).alloc (.cells #[.int .i64 kind, .string name, .int .i64 lo, .int .i64 hi', .slice (some ak) 2 ck] 45)).heap.size = w.heap.size + 2 := by simp
  obtain ⟨W, hW⟩ : ∃ W, W = (w.alloc (.cells #[.int .i64 0, .int .i64 0, .int .i64 0, .int .i64 0] 49)).alloc (.cells #[.int .i64 kind, .string name, .int .i64 lo, .int .i64 hi', .slice (some ak) 2 ck] 45) := ⟨_, rfl⟩
  rw [← hW] at hb2 hF2 y0 y1 HBr HBn hz2
  have hal := hF2.clt hk0
  have HW := Lib.hid hW
  have HK := Lib.hid hK
  have HK' := Lib.hid hK'
  clear hl2 hL hd hln hKd hK hK' hv0 hk0 hv1 hk1 hW
  have h45 : kind = 5 ∨ kind = 6 := hk
  clear hk
  go_enter Tryz.func54, Tryz.ntmps54
  have h4f : (kind == 4) = false := by rcases h45 with rfl | rfl <;> rfl
  go_upto_if 31 with (fail)
  go_cut [31] from 31 to 33 (fun v wx => v = .bool true ∧ wx = W)
  case first =>
    rcases h45 with rfl | rfl
    all_goals
      go_wp2_with fail
      go_meet
      exact ⟨rfl, HW.out.symm⟩
  case rest =>
    obtain ⟨rfl, hwc⟩ := hcut
    obtain rfl : W = wc := hwc.symm
    go_wp2_with fail
    obtain ⟨m0, m1, m2, m3, m4⟩ := blk5 HBn.out
    go_cut [8, 9] from 34 to 47 (fun a b wx => ∃ g8 g9 : Nat, a = .pointer (some ⟨g8, 0, none⟩) ∧ b = .pointer (some ⟨g9, 0, none⟩) ∧ Blk wx g8 49 #[.int .i64 (R : Nat), .int .i64 (E : Nat), .int .i64 (S : Nat), .int .i64 (Fl : Nat)] ∧ Blk wx g9 49 #[.int .i64 (R' : Nat), .int .i64 (E' : Nat), .int .i64 (S' : Nat), .int .i64 (Fl' : Nat)] ∧ Below W.heap.size W wx)
    case first =>
      have hnl := HBn.out.lt
      have hne1 : W.heap.size ≠ w.heap.size + 1 := by omega
      have hne2 : W.heap.size ≠ ak.block := by omega
      clear hz2 HBr hb1 hb3 hb2 m0 m1 m2 m3 c0 c1 c2 c3 c4 HW hF
      have hb0 : Below W.heap.size W W.drew := bel_eqv (Below.refl _ W) rfl rfl rfl rfl
      refine wp_region_noPanic ?_
      refine wp_region_held_drew (S := (fun w' => w'.cell? ⟨w.heap.size + 1, 4, none⟩ = some (.slice (some ak) 2 ck) ∧ w'.cell? ak = some (.int .i64 j1) ∧ w'.cell? ⟨ak.block, ak.off + 1, none⟩ = some (.int .i64 j2))) (by kernel_rfl) ?hS0 (fun hHeld => ?hR0)
      case hS0 => (try dsimp only); exact (⟨(Below.cell hb0 (p := ⟨w.heap.size + 1, 4, none⟩) hnl).trans m4, (Below.cell hb0 (p := ak) hal).trans y0, (Below.cell hb0 (p := ⟨ak.block, ak.off + 1, none⟩) hal).trans y1⟩)
      case hR0 =>
        refine wpAnyH_take (i := 0) (oi := ?tO1) (v := ?tV1) ?tA1 (by kernel_rfl) (by kernel_rfl) (by kernel_rfl) (fun _ _ _ h => h) (Or.inl ⟨?tB1, ?tC1⟩) (by assumption) ?tD1
        case tA1 => (first | (simp only [List.getElem?_toArray, List.getElem?_cons_succ, List.getElem?_cons_zero]; done) | (simp only [List.getElem?_toArray, List.getElem?_cons_succ, List.getElem?_cons_zero]; rfl))
        case tB1 => rfl
        case tC1 => (intro w hSw; (try dsimp only at hSw); go_simp; try with_reducible rfl)
        try simp only [Act.put, List.setIfInBounds_toArray, List.set_cons_zero, List.set_cons_succ]
        refine wpAnyH_take (i := 1) (oi := ?tO2) (v := ?tV2) ?tA2 (by kernel_rfl) (by kernel_rfl) (by kernel_rfl) (fun _ _ _ h => h) (Or.inl ⟨?tB2, ?tC2⟩) (by assumption) ?tD2
        case tA2 => (first | (simp only [List.getElem?_toArray, List.getElem?_cons_succ, List.getElem?_cons_zero]; done) | (simp only [List.getElem?_toArray, List.getElem?_cons_succ, List.getElem?_cons_zero]; rfl))
        case tB2 => rfl
        case tC2 => (intro w hSw; (try dsimp only at hSw); go_simp; try with_reducible rfl)
        try simp only [Act.put, List.setIfInBounds_toArray, List.set_cons_zero, List.set_cons_succ]
        refine wpAnyH_take (i := 2) (oi := ?tO3) (v := ?tV3) ?tA3 (by kernel_rfl) (by kernel_rfl) (by kernel_rfl) (fun _ _ _ h => h) (Or.inl ⟨?tB3, ?tC3⟩) (by assumption) ?tD3
        case tA3 => (first | (simp only [List.getElem?_toArray, List.getElem?_cons_succ, List.getElem?_cons_zero]; done) | (simp only [List.getElem?_toArray, List.getElem?_cons_succ, List.getElem?_cons_zero]; rfl))
        case tB3 => rfl
        case tC3 => (intro w hSw; (try dsimp only at hSw); go_simp; try with_reducible rfl)
        try simp only [Act.put, List.setIfInBounds_toArray, List.set_cons_zero, List.set_cons_succ]
        refine wpAnyH_take (i := 3) (oi := ?tO4) (v := ?tV4) ?tA4 (by kernel_rfl) (by kernel_rfl) (by kernel_rfl) (fun _ _ _ h => h) (Or.inl ⟨?tB4, ?tC4⟩) (by assumption) ?tD4
        case tA4 => (first | (simp only [List.getElem?_toArray, List.getElem?_cons_succ, List.getElem?_cons_zero]; done) | (simp only [List.getElem?_toArray, List.getElem?_cons_succ, List.getElem?_cons_zero]; rfl))
        case tB4 => rfl
        case tC4 => (intro w hSw; (try dsimp only at hSw); go_simp; try with_reducible rfl)
        try simp only [Act.put, List.setIfInBounds_toArray, List.set_cons_zero, List.set_cons_succ]
        refine wpAnyH_take (i := 4) (oi := ?tO5) (v := ?tV5) ?tA5 (by kernel_rfl) (by kernel_rfl) (by kernel_rfl) (fun _ _ _ h => h) (Or.inl ⟨?tB5, ?tC5⟩) (by assumption) ?tD5
        case tA5 => (first | (simp only [List.getElem?_toArray, List.getElem?_cons_succ, List.getElem?_cons_zero]; done) | (simp only [List.getElem?_toArray, List.getElem?_cons_succ, List.getElem?_cons_zero]; rfl))
        case tB5 => rfl
        case tC5 => (intro w hSw; (try dsimp only at hSw); go_simp; try with_reducible rfl)
        try simp only [Act.put, List.setIfInBounds_toArray, List.set_cons_zero, List.set_cons_succ]
        refine wpAnyH_take (i := 5) (oi := ?tO6) (v := ?tV6) ?tA6 (by kernel_rfl) (by kernel_rfl) (by kernel_rfl) (fun _ _ _ h => h) (Or.inl ⟨?tB6, ?tC6⟩) (by assumption) ?tD6
        case tA6 => (first | (simp only [List.getElem?_toArray, List.getElem?_cons_succ, List.getElem?_cons_zero]; done) | (simp only [List.getElem?_toArray, List.getElem?_cons_succ, List.getElem?_cons_zero]; rfl))
        case tB6 => rfl
        case tC6 => (intro w hSw; (try dsimp only at hSw); go_simp; try with_reducible rfl)
        try simp only [Act.put, List.setIfInBounds_toArray, List.set_cons_zero, List.set_cons_succ]
        refine wpAnyH_take (i := 7) (oi := ?tO7) (v := ?tV7) ?tA7 (by kernel_rfl) (by kernel_rfl) (by kernel_rfl) (fun _ _ _ h => h) (Or.inl ⟨?tB7, ?tC7⟩) (by assumption) ?tD7
        case tA7 => (first | (simp only [List.getElem?_toArray, List.getElem?_cons_succ, List.getElem?_cons_zero]; done) | (simp only [List.getElem?_toArray, List.getElem?_cons_succ, List.getElem?_cons_zero]; rfl))
        case tB7 => rfl
        case tC7 => (intro w hSw; (try dsimp only at hSw); go_simp; try with_reducible rfl)
        try simp only [Act.put, List.setIfInBounds_toArray, List.set_cons_zero, List.set_cons_succ]
        refine wpAnyH_take (i := 8) (oi := ?tO8) (v := ?tV8) ?tA8 (by kernel_rfl) (by kernel_rfl) (by kernel_rfl) (fun _ _ _ h => h) (Or.inl ⟨?tB8, ?tC8⟩) (by assumption) ?tD8
        case tA8 => (first | (simp only [List.getElem?_toArray, List.getElem?_cons_succ, List.getElem?_cons_zero]; done) | (simp only [List.getElem?_toArray, List.getElem?_cons_succ, List.getElem?_cons_zero]; rfl))
        case tB8 => rfl
        case tC8 => (intro w hSw; (try dsimp only at hSw); go_simp; try with_reducible rfl)
        try simp only [Act.put, List.setIfInBounds_toArray, List.set_cons_zero, List.set_cons_succ]
        refine wpAnyH_take (i := 9) (oi := ?tO9) (v := ?tV9) ?tA9 (by kernel_rfl) (by kernel_rfl) (by kernel_rfl) (fun _ _ _ h => h) (Or.inl ⟨?tB9, ?tC9⟩) (by assumption) ?tD9
        case tA9 => (first | (simp only [List.getElem?_toArray, List.getElem?_cons_succ, List.getElem?_cons_zero]; done) | (simp only [List.getElem?_toArray, List.getElem?_cons_succ, List.getElem?_cons_zero]; rfl))
        case tB9 => rfl
        case tC9 => (intro w hSw; (try dsimp only at hSw); go_simp; try with_reducible rfl)
        try simp only [Act.put, List.setIfInBounds_toArray, List.set_cons_zero, List.set_cons_succ]
        refine wpAnyH_take (i := 10) (oi := ?tO10) (v := ?tV10) ?tA10 (by kernel_rfl) (by kernel_rfl) (by kernel_rfl) (fun _ _ _ h => h) (Or.inl ⟨?tB10, ?tC10⟩) (by assumption) ?tD10
        case tA10 => (first | (simp only [List.getElem?_toArray, List.getElem?_cons_succ, List.getElem?_cons_zero]; done) | (simp only [List.getElem?_toArray, List.getElem?_cons_succ, List.getElem?_cons_zero]; rfl))
        case tB10 => rfl
        case tC10 => (intro w hSw; (try dsimp only at hSw); go_simp; try with_reducible rfl)
        try simp only [Act.put, List.setIfInBounds_toArray, List.set_cons_zero, List.set_cons_succ]
        refine wpAnyH_take (i := 11) (oi := ?tO11) (v := ?tV11) ?tA11 (by kernel_rfl) (by kernel_rfl) (by kernel_rfl) (fun _ _ _ h => h) (Or.inl ⟨?tB11, ?tC11⟩) (by assumption) ?tD11
        case tA11 => (first | (simp only [List.getElem?_toArray, List.getElem?_cons_succ, List.getElem?_cons_zero]; done) | (simp only [List.getElem?_toArray, List.getElem?_cons_succ, List.getElem?_cons_zero]; rfl))
        case tB11 => rfl
        case tC11 => (intro w hSw; (try dsimp only at hSw); go_simp; try with_reducible rfl)
        try simp only [Act.put, List.setIfInBounds_toArray, List.set_cons_zero, List.set_cons_succ]
        refine wpAnyH_take (i := 12) (oi := ?tO12) (v := ?tV12) ?tA12 (by kernel_rfl) (by kernel_rfl) (by kernel_rfl) (fun _ _ _ h => h) (Or.inl ⟨?tB12, ?tC12⟩) (by assumption) ?tD12
        case tA12 => (first | (simp only [List.getElem?_toArray, List.getElem?_cons_succ, List.getElem?_cons_zero]; done) | (simp only [List.getElem?_toArray, List.getElem?_cons_succ, List.getElem?_cons_zero]; rfl))
        case tB12 => rfl
        case tC12 => (intro w hSw; (try dsimp only at hSw); go_simp; try with_reducible rfl)
        try simp only [Act.put, List.setIfInBounds_toArray, List.set_cons_zero, List.set_cons_succ]
        refine wpAnyH_ready (rs := [6, 14, 15]) (by kernel_rfl) (by simp) ?_
        refine AllReadyH.cons (o := ?sO1) ?sA1 (fun K hK => ?sB1) ?sC1
        case sA1 => (first | (simp only [List.getElem?_toArray, List.getElem?_cons_succ, List.getElem?_cons_zero]; done) | (simp only [List.getElem?_toArray, List.getElem?_cons_succ, List.getElem?_cons_zero]; rfl))
        case sB1 =>
          go_simp
          go_at_call 54; refine (HK.out _ (hF2.below hb0)).mono ?_; rintro e wo2 ⟨rfl, hwo2⟩; unfold needV
          have hbo2 : Below W.heap.size W wo2 := Below.trans hb0 (Below.mono hwo2 (hb0).size)
          have hz_2 := (hbo2).size
          have s_2 : (fun w' => w'.cell? ⟨w.heap.size + 1, 4, none⟩ = some (.slice (some ak) 2 ck) ∧ w'.cell? ak = some (.int .i64 j1) ∧ w'.cell? ⟨ak.block, ak.off + 1, none⟩ = some (.int .i64 j2)) wo2 := (⟨(Below.cell hbo2 (p := ⟨w.heap.size + 1, 4, none⟩) hnl).trans m4, (Below.cell hbo2 (p := ak) hal).trans y0, (Below.cell hbo2 (p := ⟨ak.block, ak.off + 1, none⟩) hal).trans y1⟩)
          try go_wp2_with fail
          refine hK.out _ _ ?kS3 (fun hHeld => ?kR3)
          case kS3 => (try dsimp only); exact s_2
          case kR3 =>
            clear hK K
            try simp only [Act.put, List.setIfInBounds_toArray, List.set_cons_zero, List.set_cons_succ]
            refine wpAnyH_ready (rs := [13, 14, 15]) (by kernel_rfl) (by simp) ?_
            refine AllReadyH.cons (o := ?sO4) ?sA4 (fun K hK => ?sB4) ?sC4
            case sA4 => (first | (simp only [List.getElem?_toArray, List.getElem?_cons_succ, List.getElem?_cons_zero]; done) | (simp only [List.getElem?_toArray, List.getElem?_cons_succ, List.getElem?_cons_zero]; rfl))
            case sB4 =>
              go_simp
              go_at_call 54; refine (HK'.out _ (hF2.below hbo2)).mono ?_; rintro e wo5 ⟨rfl, hwo5⟩; unfold needV
              have hbo5 : Below W.heap.size W wo5 := Below.trans hbo2 (Below.mono hwo5 (hbo2).size)
              have hz_5 := (hbo5).size
              have s_5 : (fun w' => w'.cell? ⟨w.heap.size + 1, 4, none⟩ = some (.slice (some ak) 2 ck) ∧ w'.cell? ak = some (.int .i64 j1) ∧ w'.cell? ⟨ak.block, ak.off + 1, none⟩ = some (.int .i64 j2)) wo5 := (⟨(Below.cell hbo5 (p := ⟨w.heap.size + 1, 4, none⟩) hnl).trans m4, (Below.cell hbo5 (p := ak) hal).trans y0, (Below.cell hbo5 (p := ⟨ak.block, ak.off + 1, none⟩) hal).trans y1⟩)
              try go_wp2_with fail
              refine hK.out _ _ ?kS6 (fun hHeld => ?kR6)
              case kS6 => (try dsimp only); exact s_5
              case kR6 =>
                clear hK K
                try simp only [Act.put, List.setIfInBounds_toArray, List.set_cons_zero, List.set_cons_succ]
                refine wpAnyH_ready (rs := [14, 15]) (by kernel_rfl) (by simp) ?_
                refine AllReadyH.cons (o := ?sO7) ?sA7 (fun K hK => ?sB7) ?sC7
                case sA7 => (first | (simp only [List.getElem?_toArray, List.getElem?_cons_succ, List.getElem?_cons_zero]; done) | (simp only [List.getElem?_toArray, List.getElem?_cons_succ, List.getElem?_cons_zero]; rfl))
                case sB7 =>
                  go_simp
                  have hbo8 : Below W.heap.size W (wo5.alloc (.cells #[.int .i64 0, .int .i64 0, .int .i64 0, .int .i64 0] 49)) := Below.alloc hbo5 (hbo5).size (.cells #[.int .i64 0, .int .i64 0, .int .i64 0, .int .i64 0] 49)
                  have k8_8 : Blk (wo5.alloc (.cells #[.int .i64 0, .int .i64 0, .int .i64 0, .int .i64 0] 49)) (wo5.heap.size) 49 #[.int .i64 0, .int .i64 0, .int .i64 0, .int .i64 0] := blkNew (by simp)
                  refine hK.out _ _ ?kS9 (fun hHeld => ?kR9)
                  case kS9 => (try dsimp only); go_keep
                  case kR9 =>
                    clear hK K
                    try simp only [Act.put, List.setIfInBounds_toArray, List.set_cons_zero, List.set_cons_succ]
                    refine wpAnyH_ready (rs := [15]) (by kernel_rfl) (by simp) ?_
                    refine AllReadyH.cons (o := ?sO10) ?sA10 (fun K hK => ?sB10) ?sC10
                    case sA10 => (first | (simp only [List.getElem?_toArray, List.getElem?_cons_succ, List.getElem?_cons_zero]; done) | (simp only [List.getElem?_toArray, List.getElem?_cons_succ, List.getElem?_cons_zero]; rfl))
                    case sB10 =>
                      go_simp
                      have hbo11 : Below W.heap.size W ((wo5.alloc (.cells #[.int .i64 0, .int .i64 0, .int .i64 0, .int .i64 0] 49)).alloc (.cells #[.int .i64 0, .int .i64 0, .int .i64 0, .int .i64 0] 49)) := Below.alloc hbo8 (hbo8).size (.cells #[.int .i64 0, .int .i64 0, .int .i64 0, .int .i64 0] 49)
                      have k8_11 : Blk ((wo5.alloc (.cells #[.int .i64 0, .int .i64 0, .int .i64 0, .int .i64 0] 49)).alloc (.cells #[.int .i64 0, .int .i64 0, .int .i64 0, .int .i64 0] 49)) (wo5.heap.size) 49 #[.int .i64 0, .int .i64 0, .int .i64 0, .int .i64 0] := Blk.alloc k8_8 (.cells #[.int .i64 0, .int .i64 0, .int .i64 0, .int .i64 0] 49)
                      have k9_11 : Blk ((wo5.alloc (.cells #[.int .i64 0, .int .i64 0, .int .i64 0, .int .i64 0] 49)).alloc (.cells #[.int .i64 0, .int .i64 0, .int .i64 0, .int .i64 0] 49)) (wo5.heap.size + 1) 49 #[.int .i64 0, .int .i64 0, .int .i64 0, .int .i64 0] := blkNew (by simp)
                      refine hK.out _ _ ?kS12 (fun hHeld => ?kR12)
                      case kS12 => (try dsimp only); go_keep
                      case kR12 =>
                        clear hK K
                        try simp only [Act.put, List.setIfInBounds_toArray, List.set_cons_zero, List.set_cons_succ]
                        refine wpAnyH_ready (rs := [16]) (by kernel_rfl) (by simp) ?_
                        refine AllReadyH.cons (o := ?sO13) ?sA13 (fun K hK => ?sB13) ?sC13
                        case sA13 => (first | (simp only [List.getElem?_toArray, List.getElem?_cons_succ, List.getElem?_cons_zero]; done) | (simp only [List.getElem?_toArray, List.getElem?_cons_succ, List.getElem?_cons_zero]; rfl))
                        case sB13 =>
                          -- store 16
                          have n89_14 : (wo5.heap.size) ≠ (wo5.heap.size + 1) := by omega
                          have n98_14 : (wo5.heap.size + 1) ≠ (wo5.heap.size) := by omega
                          have hg8_14 : W.heap.size ≤ wo5.heap.size := by omega
                          have hg9_14 : W.heap.size ≤ wo5.heap.size + 1 := by omega
                          go_simp
                          refine hK.out _ _ ?kS15 (fun hHeld => ?kR15)
                          case kS15 => (try dsimp only); go_keep
                          case kR15 =>
                            clear hK K
                            try simp only [Act.put, List.setIfInBounds_toArray, List.set_cons_zero, List.set_cons_succ]
                            refine wpAnyH_ready (rs := [17]) (by kernel_rfl) (by simp) ?_
                            refine AllReadyH.cons (o := ?sO16) ?sA16 (fun K hK => ?sB16) ?sC16
                            case sA16 => (first | (simp only [List.getElem?_toArray, List.getElem?_cons_succ, List.getElem?_cons_zero]; done) | (simp only [List.getElem?_toArray, List.getElem?_cons_succ, List.getElem?_cons_zero]; rfl))
                            case sB16 =>
                              -- store 17
                              go_simp
                              refine hK.out _ _ ?kS18 (fun hHeld => ?kR18)
                              case kS18 => (try dsimp only); (first | go_keep)
                              case kR18 =>
                                clear hK K
                                try simp only [Act.put, List.setIfInBounds_toArray, List.set_cons_zero, List.set_cons_succ]
                                refine wpAnyH_done (by kernel_rfl) ?_ _
                                refine NoPanic.normal ?_
                                go_wp2_with fail
                                go_meet
                                refine ⟨_, _, rfl, rfl, ?_, ?_, ?_⟩
                                rotate_left 2
                                focus ((repeat (first | with_reducible assumption | ((with_reducible (refine bel4 ?_ ?_ _ _ _ _)); rotate_left; (first | omega | (simp <;> omega))) | ((with_reducible (refine Below.alloc ?_ ?_ _)); rotate_left; (first | omega | (simp <;> omega))))); done)
                                all_goals focus ((repeat (first | with_reducible (exact Blk.new _ _ _) | with_reducible (exact Blk.new2 _ _ _ _) | with_reducible (exact newS4 _ _ _ _ _ _ _ _) | with_reducible assumption | with_reducible (refine set4 (a := .int .i64 0) (b := .int .i64 0) (c := .int .i64 0) (d := .int .i64 0) ?_ _ _ _ _) | ((with_reducible (refine far4 ?_ ?_ _ _ _ _)); rotate_left; (first | omega | (simp <;> omega))) | with_reducible (refine Blk.alloc ?_ _))); done)
                            case sC16 =>
                              exact AllReadyH.nil
                        case sC13 =>
                          exact AllReadyH.nil
                    case sC10 =>
                      exact AllReadyH.nil
                case sC7 =>
                  refine AllReadyH.cons (o := ?sO19) ?sA19 (fun K hK => ?sB19) ?sC19
                  case sA19 => (first | (simp only [List.getElem?_toArray, List.getElem?_cons_succ, List.getElem?_cons_zero]; done) | (simp only [List.getElem?_toArray, List.getElem?_cons_succ, List.getElem?_cons_zero]; rfl))
                  case sB19 =>
                    go_simp
                    have hbo20 : Below W.heap.size W (wo5.alloc (.cells #[.int .i64 0, .int .i64 0, .int .i64 0, .int .i64 0] 49)) := Below.alloc hbo5 (hbo5).size (.cells #[.int .i64 0, .int .i64 0, .int .i64 0, .int .i64 0] 49)
                    have k9_20 : Blk (wo5.alloc (.cells #[.int .i64 0, .int .i64 0, .int .i64 0, .int .i64 0] 49)) (wo5.heap.size) 49 #[.int .i64 0, .int .i64 0, .int .i64 0, .int .i64 0] := blkNew (by simp)
                    refine hK.out _ _ ?kS21 (fun hHeld => ?kR21)
                    case kS21 => (try dsimp only); go_keep
                    case kR21 =>
                      clear hK K
                      try simp only [Act.put, List.setIfInBounds_toArray, List.set_cons_zero, List.set_cons_succ]
                      refine wpAnyH_ready (rs := [14]) (by kernel_rfl) (by simp) ?_
                      refine AllReadyH.cons (o := ?sO22) ?sA22 (fun K hK => ?sB22) ?sC22
                      case sA22 => (first | (simp only [List.getElem?_toArray, List.getElem?_cons_succ, List.getElem?_cons_zero]; done) | (simp only [List.getElem?_toArray, List.getElem?_cons_succ, List.getElem?_cons_zero]; rfl))
                      case sB22 =>
                        go_simp
                        have hbo23 : Below W.heap.size W ((wo5.alloc (.cells #[.int .i64 0, .int .i64 0, .int .i64 0, .int .i64 0] 49)).alloc (.cells #[.int .i64 0, .int .i64 0, .int .i64 0, .int .i64 0] 49)) := Below.alloc hbo20 (hbo20).size (.cells #[.int .i64 0, .int .i64 0, .int .i64 0, .int .i64 0] 49)
                        have k9_23 : Blk ((wo5.alloc (.cells #[.int .i64 0, .int .i64 0, .int .i64 0, .int .i64 0] 49)).alloc (.cells #[.int .i64 0, .int .i64 0, .int .i64 0, .int .i64 0] 49)) (wo5.heap.size) 49 #[.int .i64 0, .int .i64 0, .int .i64 0, .int .i64 0] := Blk.alloc k9_20 (.cells #[.int .i64 0, .int .i64 0, .int .i64 0, .int .i64 0] 49)
                        have k8_23 : Blk ((wo5.alloc (.cells #[.int .i64 0, .int .i64 0, .int .i64 0, .int .i64 0] 49)).alloc (.cells #[.int .i64 0, .int .i64 0, .int .i64 0, .int .i64 0] 49)) (wo5.heap.size + 1) 49 #[.int .i64 0, .int .i64 0, .int .i64 0, .int .i64 0] := blkNew (by simp)
                        refine hK.out _ _ ?kS24 (fun hHeld => ?kR24)
                        case kS24 => (try dsimp only); go_keep
                        case kR24 =>
                          clear hK K
                          try simp only [Act.put, List.setIfInBounds_toArray, List.set_cons_zero, List.set_cons_succ]
                          refine wpAnyH_ready (rs := [16]) (by kernel_rfl) (by simp) ?_
                          refine AllReadyH.cons (o := ?sO25) ?sA25 (fun K hK => ?sB25) ?sC25
                          case sA25 => (first | (simp only [List.getElem?_toArray, List.getElem?_cons_succ, List.getElem?_cons_zero]; done) | (simp only [List.getElem?_toArray, List.getElem?_cons_succ, List.getElem?_cons_zero]; rfl))
                          case sB25 =>
                            -- store 16
                            have n89_26 : (wo5.heap.size + 1) ≠ (wo5.heap.size) := by omega
                            have n98_26 : (wo5.heap.size) ≠ (wo5.heap.size + 1) := by omega
                            have hg8_26 : W.heap.size ≤ wo5.heap.size + 1 := by omega
                            have hg9_26 : W.heap.size ≤ wo5.heap.size := by omega
                            go_simp
                            refine hK.out _ _ ?kS27 (fun hHeld => ?kR27)
                            case kS27 => (try dsimp only); go_keep
                            case kR27 =>
                              clear hK K
                              try simp only [Act.put, List.setIfInBounds_toArray, List.set_cons_zero, List.set_cons_succ]
                              refine wpAnyH_ready (rs := [17]) (by kernel_rfl) (by simp) ?_
                              refine AllReadyH.cons (o := ?sO28) ?sA28 (fun K hK => ?sB28) ?sC28
                              case sA28 => (first | (simp only [List.getElem?_toArray, List.getElem?_cons_succ, List.getElem?_cons_zero]; done) | (simp only [List.getElem?_toArray, List.getElem?_cons_succ, List.getElem?_cons_zero]; rfl))
                              case sB28 =>
                                -- store 17
                                go_simp
                                refine hK.out _ _ ?kS30 (fun hHeld => ?kR30)
                                case kS30 => (try dsimp only); (first | go_keep)
                                case kR30 =>
                                  clear hK K
                                  try simp only [Act.put, List.setIfInBounds_toArray, List.set_cons_zero, List.set_cons_succ]
                                  refine wpAnyH_done (by kernel_rfl) ?_ _
                                  refine NoPanic.normal ?_
                                  go_wp2_with fail
                                  go_meet
                                  refine ⟨_, _, rfl, rfl, ?_, ?_, ?_⟩
                                  rotate_left 2
                                  focus ((repeat (first | with_reducible assumption | ((with_reducible (refine bel4 ?_ ?_ _ _ _ _)); rotate_left; (first | omega | (simp <;> omega))) | ((with_reducible (refine Below.alloc ?_ ?_ _)); rotate_left; (first | omega | (simp <;> omega))))); done)
                                  all_goals focus ((repeat (first | with_reducible (exact Blk.new _ _ _) | with_reducible (exact Blk.new2 _ _ _ _) | with_reducible (exact newS4 _ _ _ _ _ _ _ _) | with_reducible assumption | with_reducible (refine set4 (a := .int .i64 0) (b := .int .i64 0) (c := .int .i64 0) (d := .int .i64 0) ?_ _ _ _ _) | ((with_reducible (refine far4 ?_ ?_ _ _ _ _)); rotate_left; (first | omega | (simp <;> omega))) | with_reducible (refine Blk.alloc ?_ _))); done)
                              case sC28 =>
                                exact AllReadyH.nil
                          case sC25 =>
                            exact AllReadyH.nil
                      case sC22 =>
                        exact AllReadyH.nil
                  case sC19 =>
                    exact AllReadyH.nil
            case sC4 =>
              refine AllReadyH.cons (o := ?sO31) ?sA31 (fun K hK => ?sB31) ?sC31
              case sA31 => (first | (simp only [List.getElem?_toArray, List.getElem?_cons_succ, List.getElem?_cons_zero]; done) | (simp only [List.getElem?_toArray, List.getElem?_cons_succ, List.getElem?_cons_zero]; rfl))
              case sB31 =>
                go_simp
                have hbo32 : Below W.heap.size W (wo2.alloc (.cells #[.int .i64 0, .int .i64 0, .int .i64 0, .int .i64 0] 49)) := Below.alloc hbo2 (hbo2).size (.cells #[.int .i64 0, .int .i64 0, .int .i64 0, .int .i64 0] 49)
                have k8_32 : Blk (wo2.alloc (.cells #[.int .i64 0, .int .i64 0, .int .i64 0, .int .i64 0] 49)) (wo2.heap.size) 49 #[.int .i64 0, .int .i64 0, .int .i64 0, .int .i64 0] := blkNew (by simp)
                refine hK.out _ _ ?kS33 (fun hHeld => ?kR33)
                case kS33 => (try dsimp only); go_keep
                case kR33 =>
                  clear hK K
                  try simp only [Act.put, List.setIfInBounds_toArray, List.set_cons_zero, List.set_cons_succ]
                  refine wpAnyH_ready (rs := [13, 15]) (by kernel_rfl) (by simp) ?_
                  refine AllReadyH.cons (o := ?sO34) ?sA34 (fun K hK => ?sB34) ?sC34
                  case sA34 => (first | (simp only [List.getElem?_toArray, List.getElem?_cons_succ, List.getElem?_cons_zero]; done) | (simp only [List.getElem?_toArray, List.getElem?_cons_succ, List.getElem?_cons_zero]; rfl))
                  case sB34 =>
                    go_simp
                    go_at_call 54; refine (HK'.out _ (hF2.below hbo32)).mono ?_; rintro e wo35 ⟨rfl, hwo35⟩; unfold needV
                    have hbo35 : Below W.heap.size W wo35 := Below.trans hbo32 (Below.mono hwo35 (hbo32).size)
                    have hz_35 := (hbo35).size
                    have k8_35 := Blk.call k8_32 hwo35
                    have lk8_35 := (k8_35).lt
                    have s_35 : (fun w' => w'.cell? ⟨w.heap.size + 1, 4, none⟩ = some (.slice (some ak) 2 ck) ∧ w'.cell? ak = some (.int .i64 j1) ∧ w'.cell? ⟨ak.block, ak.off + 1, none⟩ = some (.int .i64 j2)) wo35 := (⟨(Below.cell hbo35 (p := ⟨w.heap.size + 1, 4, none⟩) hnl).trans m4, (Below.cell hbo35 (p := ak) hal).trans y0, (Below.cell hbo35 (p := ⟨ak.block, ak.off + 1, none⟩) hal).trans y1⟩)
                    try go_wp2_with fail
                    refine hK.out _ _ ?kS36 (fun hHeld => ?kR36)
                    case kS36 => (try dsimp only); exact s_35
                    case kR36 =>
                      clear hK K
                      try simp only [Act.put, List.setIfInBounds_toArray, List.set_cons_zero, List.set_cons_succ]
                      refine wpAnyH_ready (rs := [15]) (by kernel_rfl) (by simp) ?_
                      refine AllReadyH.cons (o := ?sO37) ?sA37 (fun K hK => ?sB37) ?sC37
                      case sA37 => (first | (simp only [List.getElem?_toArray, List.getElem?_cons_succ, List.getElem?_cons_zero]; done) | (simp only [List.getElem?_toArray, List.getElem?_cons_succ, List.getElem?_cons_zero]; rfl))
                      case sB37 =>
                        go_simp
                        have hbo38 : Below W.heap.size W (wo35.alloc (.cells #[.int .i64 0, .int .i64 0, .int .i64 0, .int .i64 0] 49)) := Below.alloc hbo35 (hbo35).size (.cells #[.int .i64 0, .int .i64 0, .int .i64 0, .int .i64 0] 49)
                        have k8_38 : Blk (wo35.alloc (.cells #[.int .i64 0, .int .i64 0, .int .i64 0, .int .i64 0] 49)) (wo2.heap.size) 49 #[.int .i64 0, .int .i64 0, .int .i64 0, .int .i64 0] := Blk.alloc k8_35 (.cells #[.int .i64 0, .int .i64 0, .int .i64 0, .int .i64 0] 49)
                        have k9_38 : Blk (wo35.alloc (.cells #[.int .i64 0, .int .i64 0, .int .i64 0, .int .i64 0] 49)) (wo35.heap.size) 49 #[.int .i64 0, .int .i64 0, .int .i64 0, .int .i64 0] := blkNew (by simp)
                        refine hK.out _ _ ?kS39 (fun hHeld => ?kR39)
                        case kS39 => (try dsimp only); go_keep
                        case kR39 =>
                          clear hK K
                          try simp only [Act.put, List.setIfInBounds_toArray, List.set_cons_zero, List.set_cons_succ]
                          refine wpAnyH_ready (rs := [16]) (by kernel_rfl) (by simp) ?_
                          refine AllReadyH.cons (o := ?sO40) ?sA40 (fun K hK => ?sB40) ?sC40
                          case sA40 => (first | (simp only [List.getElem?_toArray, List.getElem?_cons_succ, List.getElem?_cons_zero]; done) | (simp only [List.getElem?_toArray, List.getElem?_cons_succ, List.getElem?_cons_zero]; rfl))
                          case sB40 =>
                            -- store 16
                            have n89_41 : (wo2.heap.size) ≠ (wo35.heap.size) := by omega
                            have n98_41 : (wo35.heap.size) ≠ (wo2.heap.size) := by omega
                            have hg8_41 : W.heap.size ≤ wo2.heap.size := by omega
                            have hg9_41 : W.heap.size ≤ wo35.heap.size := by omega
                            obtain ⟨a0_41, a1_41, a2_41, a3_41, b0_41, b1_41, b2_41, b3_41⟩ := blk4 k8_35
                            go_simp
                            refine hK.out _ _ ?kS42 (fun hHeld => ?kR42)
                            case kS42 => (try dsimp only); (first | go_keep | exact (⟨(Below.cell (bel4 hbo35 hg8_41 (.int .i64 (R : Nat)) (.int .i64 (E : Nat)) (.int .i64 (S : Nat)) (.int .i64 (Fl : Nat))) (p := ⟨w.heap.size + 1, 4, none⟩) hnl).trans m4, (Below.cell (bel4 hbo35 hg8_41 (.int .i64 (R : Nat)) (.int .i64 (E : Nat)) (.int .i64 (S : Nat)) (.int .i64 (Fl : Nat))) (p := ak) hal).trans y0, (Below.cell (bel4 hbo35 hg8_41 (.int .i64 (R : Nat)) (.int .i64 (E : Nat)) (.int .i64 (S : Nat)) (.int .i64 (Fl : Nat))) (p := ⟨ak.block, ak.off + 1, none⟩) hal).trans y1⟩) | exact (⟨(Below.cell (Below.alloc (bel4 hbo35 hg8_41 (.int .i64 (R : Nat)) (.int .i64 (E : Nat)) (.int .i64 (S : Nat)) (.int .i64 (Fl : Nat))) (by simp <;> omega) _) (p := ⟨w.heap.size + 1, 4, none⟩) hnl).trans m4, (Below.cell (Below.alloc (bel4 hbo35 hg8_41 (.int .i64 (R : Nat)) (.int .i64 (E : Nat)) (.int .i64 (S : Nat)) (.int .i64 (Fl : Nat))) (by simp <;> omega) _) (p := ak) hal).trans y0, (Below.cell (Below.alloc (bel4 hbo35 hg8_41 (.int .i64 (R : Nat)) (.int .i64 (E : Nat)) (.int .i64 (S : Nat)) (.int .i64 (Fl : Nat))) (by simp <;> omega) _) (p := ⟨ak.block, ak.off + 1, none⟩) hal).trans y1⟩) | exact (⟨(Below.cell (Below.alloc (Below.alloc (bel4 hbo35 hg8_41 (.int .i64 (R : Nat)) (.int .i64 (E : Nat)) (.int .i64 (S : Nat)) (.int .i64 (Fl : Nat))) (by simp <;> omega) _) (by simp <;> omega) _) (p := ⟨w.heap.size + 1, 4, none⟩) hnl).trans m4, (Below.cell (Below.alloc (Below.alloc (bel4 hbo35 hg8_41 (.int .i64 (R : Nat)) (.int .i64 (E : Nat)) (.int .i64 (S : Nat)) (.int .i64 (Fl : Nat))) (by simp <;> omega) _) (by simp <;> omega) _) (p := ak) hal).trans y0, (Below.cell (Below.alloc (Below.alloc (bel4 hbo35 hg8_41 (.int .i64 (R : Nat)) (.int .i64 (E : Nat)) (.int .i64 (S : Nat)) (.int .i64 (Fl : Nat))) (by simp <;> omega) _) (by simp <;> omega) _) (p := ⟨ak.block, ak.off + 1, none⟩) hal).trans y1⟩))
                            case kR42 =>
                              clear hK K
                              try simp only [Act.put, List.setIfInBounds_toArray, List.set_cons_zero, List.set_cons_succ]
                              refine wpAnyH_ready (rs := [17]) (by kernel_rfl) (by simp) ?_
                              refine AllReadyH.cons (o := ?sO43) ?sA43 (fun K hK => ?sB43) ?sC43
                              case sA43 => (first | (simp only [List.getElem?_toArray, List.getElem?_cons_succ, List.getElem?_cons_zero]; done) | (simp only [List.getElem?_toArray, List.getElem?_cons_succ, List.getElem?_cons_zero]; rfl))
                              case sB43 =>
                                -- store 17
                                go_simp
                                refine hK.out _ _ ?kS45 (fun hHeld => ?kR45)
                                case kS45 => (try dsimp only); (first | go_keep | exact (⟨(Below.cell (Below.alloc (bel4 hbo35 hg8_41 (.int .i64 (R : Nat)) (.int .i64 (E : Nat)) (.int .i64 (S : Nat)) (.int .i64 (Fl : Nat))) (by simp <;> omega) _) (p := ⟨w.heap.size + 1, 4, none⟩) hnl).trans m4, (Below.cell (Below.alloc (bel4 hbo35 hg8_41 (.int .i64 (R : Nat)) (.int .i64 (E : Nat)) (.int .i64 (S : Nat)) (.int .i64 (Fl : Nat))) (by simp <;> omega) _) (p := ak) hal).trans y0, (Below.cell (Below.alloc (bel4 hbo35 hg8_41 (.int .i64 (R : Nat)) (.int .i64 (E : Nat)) (.int .i64 (S : Nat)) (.int .i64 (Fl : Nat))) (by simp <;> omega) _) (p := ⟨ak.block, ak.off + 1, none⟩) hal).trans y1⟩))
                                case kR45 =>
                                  clear hK K
                                  try simp only [Act.put, List.setIfInBounds_toArray, List.set_cons_zero, List.set_cons_succ]
                                  refine wpAnyH_done (by kernel_rfl) ?_ _
                                  refine NoPanic.normal ?_
                                  go_wp2_with fail
                                  go_meet
                                  refine ⟨_, _, rfl, rfl, ?_, ?_, ?_⟩
                                  rotate_left 2
                                  focus ((repeat (first | with_reducible assumption | ((with_reducible (refine bel4 ?_ ?_ _ _ _ _)); rotate_left; (first | omega | (simp <;> omega))) | ((with_reducible (refine Below.alloc ?_ ?_ _)); rotate_left; (first | omega | (simp <;> omega))))); done)
                                  all_goals focus ((repeat (first | with_reducible (exact Blk.new _ _ _) | with_reducible (exact Blk.new2 _ _ _ _) | with_reducible (exact newS4 _ _ _ _ _ _ _ _) | with_reducible assumption | with_reducible (refine set4 (a := .int .i64 0) (b := .int .i64 0) (c := .int .i64 0) (d := .int .i64 0) ?_ _ _ _ _) | ((with_reducible (refine far4 ?_ ?_ _ _ _ _)); rotate_left; (first | omega | (simp <;> omega))) | with_reducible (refine Blk.alloc ?_ _))); done)
                              case sC43 =>
                                exact AllReadyH.nil
                          case sC40 =>
                            exact AllReadyH.nil
                      case sC37 =>
                        exact AllReadyH.nil
                  case sC34 =>
                    refine AllReadyH.cons (o := ?sO46) ?sA46 (fun K hK => ?sB46) ?sC46
                    case sA46 => (first | (simp only [List.getElem?_toArray, List.getElem?_cons_succ, List.getElem?_cons_zero]; done) | (simp only [List.getElem?_toArray, List.getElem?_cons_succ, List.getElem?_cons_zero]; rfl))
                    case sB46 =>
                      go_simp
                      have hbo47 : Below W.heap.size W ((wo2.alloc (.cells #[.int .i64 0, .int .i64 0, .int .i64 0, .int .i64 0] 49)).alloc (.cells #[.int .i64 0, .int .i64 0, .int .i64 0, .int .i64 0] 49)) := Below.alloc hbo32 (hbo32).size (.cells #[.int .i64 0, .int .i64 0, .int .i64 0, .int .i64 0] 49)
                      have k8_47 : Blk ((wo2.alloc (.cells #[.int .i64 0, .int .i64 0, .int .i64 0, .int .i64 0] 49)).alloc (.cells #[.int .i64 0, .int .i64 0, .int .i64 0, .int .i64 0] 49)) (wo2.heap.size) 49 #[.int .i64 0, .int .i64 0, .int .i64 0, .int .i64 0] := Blk.alloc k8_32 (.cells #[.int .i64 0, .int .i64 0, .int .i64 0, .int .i64 0] 49)
                      have k9_47 : Blk ((wo2.alloc (.cells #[.int .i64 0, .int .i64 0, .int .i64 0, .int .i64 0] 49)).alloc (.cells #[.int .i64 0, .int .i64 0, .int .i64 0, .int .i64 0] 49)) (wo2.heap.size + 1) 49 #[.int .i64 0, .int .i64 0, .int .i64 0, .int .i64 0] := blkNew (by simp)
                      refine hK.out _ _ ?kS48 (fun hHeld => ?kR48)
                      case kS48 => (try dsimp only); go_keep
                      case kR48 =>
                        clear hK K
                        try simp only [Act.put, List.setIfInBounds_toArray, List.set_cons_zero, List.set_cons_succ]
                        refine wpAnyH_ready (rs := [13]) (by kernel_rfl) (by simp) ?_
                        refine AllReadyH.cons (o := ?sO49) ?sA49 (fun K hK => ?sB49) ?sC49
                        case sA49 => (first | (simp only [List.getElem?_toArray, List.getElem?_cons_succ, List.getElem?_cons_zero]; done) | (simp only [List.getElem?_toArray, List.getElem?_cons_succ, List.getElem?_cons_zero]; rfl))
                        case sB49 =>
                          go_simp
                          go_at_call 54; refine (HK'.out _ (hF2.below hbo47)).mono ?_; rintro e wo50 ⟨rfl, hwo50⟩; unfold needV
                          have hbo50 : Below W.heap.size W wo50 := Below.trans hbo47 (Below.mono hwo50 (hbo47).size)
                          have hz_50 := (hbo50).size
                          have k8_50 := Blk.call k8_47 hwo50
                          have lk8_50 := (k8_50).lt
                          have k9_50 := Blk.call k9_47 hwo50
                          have lk9_50 := (k9_50).lt
                          have s_50 : (fun w' => w'.cell? ⟨w.heap.size + 1, 4, none⟩ = some (.slice (some ak) 2 ck) ∧ w'.cell? ak = some (.int .i64 j1) ∧ w'.cell? ⟨ak.block, ak.off + 1, none⟩ = some (.int .i64 j2)) wo50 := (⟨(Below.cell hbo50 (p := ⟨w.heap.size + 1, 4, none⟩) hnl).trans m4, (Below.cell hbo50 (p := ak) hal).trans y0, (Below.cell hbo50 (p := ⟨ak.block, ak.off + 1, none⟩) hal).trans y1⟩)
                          try go_wp2_with fail
                          refine hK.out _ _ ?kS51 (fun hHeld => ?kR51)
                          case kS51 => (try dsimp only); exact s_50
                          case kR51 =>
                            clear hK K
                            try simp only [Act.put, List.setIfInBounds_toArray, List.set_cons_zero, List.set_cons_succ]
                            refine wpAnyH_ready (rs := [16]) (by kernel_rfl) (by simp) ?_
                            refine AllReadyH.cons (o := ?sO52) ?sA52 (fun K hK => ?sB52) ?sC52
                            case sA52 => (first | (simp only [List.getElem?_toArray, List.getElem?_cons_succ, List.getElem?_cons_zero]; done) | (simp only [List.getElem?_toArray, List.getElem?_cons_succ, List.getElem?_cons_zero]; rfl))
                            case sB52 =>
                              -- store 16
                              have n89_53 : (wo2.heap.size) ≠ (wo2.heap.size + 1) := by omega
                              have n98_53 : (wo2.heap.size + 1) ≠ (wo2.heap.size) := by omega
                              have hg8_53 : W.heap.size ≤ wo2.heap.size := by omega
                              have hg9_53 : W.heap.size ≤ wo2.heap.size + 1 := by omega
                              obtain ⟨a0_53, a1_53, a2_53, a3_53, b0_53, b1_53, b2_53, b3_53⟩ := blk4 k8_50
                              obtain ⟨c0_53, c1_53, c2_53, c3_53, d0_53, d1_53, d2_53, d3_53⟩ := blk4 k9_50
                              go_simp
                              refine hK.out _ _ ?kS54 (fun hHeld => ?kR54)
                              case kS54 => (try dsimp only); (first | go_keep | exact (⟨(Below.cell (bel4 hbo50 hg8_53 (.int .i64 (R : Nat)) (.int .i64 (E : Nat)) (.int .i64 (S : Nat)) (.int .i64 (Fl : Nat))) (p := ⟨w.heap.size + 1, 4, none⟩) hnl).trans m4, (Below.cell (bel4 hbo50 hg8_53 (.int .i64 (R : Nat)) (.int .i64 (E : Nat)) (.int .i64 (S : Nat)) (.int .i64 (Fl : Nat))) (p := ak) hal).trans y0, (Below.cell (bel4 hbo50 hg8_53 (.int .i64 (R : Nat)) (.int .i64 (E : Nat)) (.int .i64 (S : Nat)) (.int .i64 (Fl : Nat))) (p := ⟨ak.block, ak.off + 1, none⟩) hal).trans y1⟩) | exact (⟨(Below.cell (Below.alloc (bel4 hbo50 hg8_53 (.int .i64 (R : Nat)) (.int .i64 (E : Nat)) (.int .i64 (S : Nat)) (.int .i64 (Fl : Nat))) (by simp <;> omega) _) (p := ⟨w.heap.size + 1, 4, none⟩) hnl).trans m4, (Below.cell (Below.alloc (bel4 hbo50 hg8_53 (.int .i64 (R : Nat)) (.int .i64 (E : Nat)) (.int .i64 (S : Nat)) (.int .i64 (Fl : Nat))) (by simp <;> omega) _) (p := ak) hal).trans y0, (Below.cell (Below.alloc (bel4 hbo50 hg8_53 (.int .i64 (R : Nat)) (.int .i64 (E : Nat)) (.int .i64 (S : Nat)) (.int .i64 (Fl : Nat))) (by simp <;> omega) _) (p := ⟨ak.block, ak.off + 1, none⟩) hal).trans y1⟩) | exact (⟨(Below.cell (Below.alloc (Below.alloc (bel4 hbo50 hg8_53 (.int .i64 (R : Nat)) (.int .i64 (E : Nat)) (.int .i64 (S : Nat)) (.int .i64 (Fl : Nat))) (by simp <;> omega) _) (by simp <;> omega) _) (p := ⟨w.heap.size + 1, 4, none⟩) hnl).trans m4, (Below.cell (Below.alloc (Below.alloc (bel4 hbo50 hg8_53 (.int .i64 (R : Nat)) (.int .i64 (E : Nat)) (.int .i64 (S : Nat)) (.int .i64 (Fl : Nat))) (by simp <;> omega) _) (by simp <;> omega) _) (p := ak) hal).trans y0, (Below.cell (Below.alloc (Below.alloc (bel4 hbo50 hg8_53 (.int .i64 (R : Nat)) (.int .i64 (E : Nat)) (.int .i64 (S : Nat)) (.int .i64 (Fl : Nat))) (by simp <;> omega) _) (by simp <;> omega) _) (p := ⟨ak.block, ak.off + 1, none⟩) hal).trans y1⟩))
                              case kR54 =>
                                clear hK K
                                try simp only [Act.put, List.setIfInBounds_toArray, List.set_cons_zero, List.set_cons_succ]
                                refine wpAnyH_ready (rs := [17]) (by kernel_rfl) (by simp) ?_
                                refine AllReadyH.cons (o := ?sO55) ?sA55 (fun K hK => ?sB55) ?sC55
                                case sA55 => (first | (simp only [List.getElem?_toArray, List.getElem?_cons_succ, List.getElem?_cons_zero]; done) | (simp only [List.getElem?_toArray, List.getElem?_cons_succ, List.getElem?_cons_zero]; rfl))
                                case sB55 =>
                                  -- store 17
                                  go_simp
                                  refine hK.out _ _ ?kS57 (fun hHeld => ?kR57)
                                  case kS57 => (try dsimp only); (first | go_keep | exact (⟨(Below.cell (bel4 (bel4 hbo50 hg8_53 (.int .i64 (R : Nat)) (.int .i64 (E : Nat)) (.int .i64 (S : Nat)) (.int .i64 (Fl : Nat))) hg9_53 (.int .i64 (R' : Nat)) (.int .i64 (E' : Nat)) (.int .i64 (S' : Nat)) (.int .i64 (Fl' : Nat))) (p := ⟨w.heap.size + 1, 4, none⟩) hnl).trans m4, (Below.cell (bel4 (bel4 hbo50 hg8_53 (.int .i64 (R : Nat)) (.int .i64 (E : Nat)) (.int .i64 (S : Nat)) (.int .i64 (Fl : Nat))) hg9_53 (.int .i64 (R' : Nat)) (.int .i64 (E' : Nat)) (.int .i64 (S' : Nat)) (.int .i64 (Fl' : Nat))) (p := ak) hal).trans y0, (Below.cell (bel4 (bel4 hbo50 hg8_53 (.int .i64 (R : Nat)) (.int .i64 (E : Nat)) (.int .i64 (S : Nat)) (.int .i64 (Fl : Nat))) hg9_53 (.int .i64 (R' : Nat)) (.int .i64 (E' : Nat)) (.int .i64 (S' : Nat)) (.int .i64 (Fl' : Nat))) (p := ⟨ak.block, ak.off + 1, none⟩) hal).trans y1⟩))
                                  case kR57 =>
                                    clear hK K
                                    try simp only [Act.put, List.setIfInBounds_toArray, List.set_cons_zero, List.set_cons_succ]
                                    refine wpAnyH_done (by kernel_rfl) ?_ _
                                    refine NoPanic.normal ?_
                                    go_wp2_with fail
                                    go_meet
                                    refine ⟨_, _, rfl, rfl, ?_, ?_, ?_⟩
                                    rotate_left 2
                                    focus ((repeat (first | with_reducible assumption | ((with_reducible (refine bel4 ?_ ?_ _ _ _ _)); rotate_left; (first | omega | (simp <;> omega))) | ((with_reducible (refine Below.alloc ?_ ?_ _)); rotate_left; (first | omega | (simp <;> omega))))); done)
                                    all_goals focus ((repeat (first | with_reducible (exact Blk.new _ _ _) | with_reducible (exact Blk.new2 _ _ _ _) | with_reducible (exact newS4 _ _ _ _ _ _ _ _) | with_reducible assumption | with_reducible (refine set4 (a := .int .i64 0) (b := .int .i64 0) (c := .int .i64 0) (d := .int .i64 0) ?_ _ _ _ _) | ((with_reducible (refine far4 ?_ ?_ _ _ _ _)); rotate_left; (first | omega | (simp <;> omega))) | with_reducible (refine Blk.alloc ?_ _))); done)
                                case sC55 =>
                                  exact AllReadyH.nil
                            case sC52 =>
                              exact AllReadyH.nil
                        case sC49 =>
                          exact AllReadyH.nil
                    case sC46 =>
                      exact AllReadyH.nil
              case sC31 =>
                refine AllReadyH.cons (o := ?sO58) ?sA58 (fun K hK => ?sB58) ?sC58
                case sA58 => (first | (simp only [List.getElem?_toArray, List.getElem?_cons_succ, List.getElem?_cons_zero]; done) | (simp only [List.getElem?_toArray, List.getElem?_cons_succ, List.getElem?_cons_zero]; rfl))
                case sB58 =>
                  go_simp
                  have hbo59 : Below W.heap.size W (wo2.alloc (.cells #[.int .i64 0, .int .i64 0, .int .i64 0, .int .i64 0] 49)) := Below.alloc hbo2 (hbo2).size (.cells #[.int .i64 0, .int .i64 0, .int .i64 0, .int .i64 0] 49)
                  have k9_59 : Blk (wo2.alloc (.cells #[.int .i64 0, .int .i64 0, .int .i64 0, .int .i64 0] 49)) (wo2.heap.size) 49 #[.int .i64 0, .int .i64 0, .int .i64 0, .int .i64 0] := blkNew (by simp)
                  refine hK.out _ _ ?kS60 (fun hHeld => ?kR60)
                  case kS60 => (try dsimp only); go_keep
                  case kR60 =>
                    clear hK K
                    try simp only [Act.put, List.setIfInBounds_toArray, List.set_cons_zero, List.set_cons_succ]
                    refine wpAnyH_ready (rs := [13, 14]) (by kernel_rfl) (by simp) ?_
                    refine AllReadyH.cons (o := ?sO61) ?sA61 (fun K hK => ?sB61) ?sC61
                    case sA61 => (first | (simp only [List.getElem?_toArray, List.getElem?_cons_succ, List.getElem?_cons_zero]; done) | (simp only [List.getElem?_toArray, List.getElem?_cons_succ, List.getElem?_cons_zero]; rfl))
                    case sB61 =>
                      go_simp
                      go_at_call 54; refine (HK'.out _ (hF2.below hbo59)).mono ?_; rintro e wo62 ⟨rfl, hwo62⟩; unfold needV
                      have hbo62 : Below W.heap.size W wo62 := Below.trans hbo59 (Below.mono hwo62 (hbo59).size)
                      have hz_62 := (hbo62).size
                      have k9_62 := Blk.call k9_59 hwo62
                      have lk9_62 := (k9_62).lt
                      have s_62 : (fun w' => w'.cell? ⟨w.heap.size + 1, 4, none⟩ = some (.slice (some ak) 2 ck) ∧ w'.cell? ak = some (.int .i64 j1) ∧ w'.cell? ⟨ak.block, ak.off + 1, none⟩ = some (.int .i64 j2)) wo62 := (⟨(Below.cell hbo62 (p := ⟨w.heap.size + 1, 4, none⟩) hnl).trans m4, (Below.cell hbo62 (p := ak) hal).trans y0, (Below.cell hbo62 (p := ⟨ak.block, ak.off + 1, none⟩) hal).trans y1⟩)
                      try go_wp2_with fail
                      refine hK.out _ _ ?kS63 (fun hHeld => ?kR63)
                      case kS63 => (try dsimp only); exact s_62
                      case kR63 =>
                        clear hK K
                        try simp only [Act.put, List.setIfInBounds_toArray, List.set_cons_zero, List.set_cons_succ]
                        refine wpAnyH_ready (rs := [14]) (by kernel_rfl) (by simp) ?_
                        refine AllReadyH.cons (o := ?sO64) ?sA64 (fun K hK => ?sB64) ?sC64
                        case sA64 => (first | (simp only [List.getElem?_toArray, List.getElem?_cons_succ, List.getElem?_cons_zero]; done) | (simp only [List.getElem?_toArray, List.getElem?_cons_succ, List.getElem?_cons_zero]; rfl))
                        case sB64 =>
                          go_simp
                          have hbo65 : Below W.heap.size W (wo62.alloc (.cells #[.int .i64 0, .int .i64 0, .int .i64 0, .int .i64 0] 49)) := Below.alloc hbo62 (hbo62).size (.cells #[.int .i64 0, .int .i64 0, .int .i64 0, .int .i64 0] 49)
                          have k9_65 : Blk (wo62.alloc (.cells #[.int .i64 0, .int .i64 0, .int .i64 0, .int .i64 0] 49)) (wo2.heap.size) 49 #[.int .i64 0, .int .i64 0, .int .i64 0, .int .i64 0] := Blk.alloc k9_62 (.cells #[.int .i64 0, .int .i64 0, .int .i64 0, .int .i64 0] 49)
                          have k8_65 : Blk (wo62.alloc (.cells #[.int .i64 0, .int .i64 0, .int .i64 0, .int .i64 0] 49)) (wo62.heap.size) 49 #[.int .i64 0, .int .i64 0, .int .i64 0, .int .i64 0] := blkNew (by simp)
                          refine hK.out _ _ ?kS66 (fun hHeld => ?kR66)
                          case kS66 => (try dsimp only); go_keep
                          case kR66 =>
                            clear hK K
                            try simp only [Act.put, List.setIfInBounds_toArray, List.set_cons_zero, List.set_cons_succ]
                            refine wpAnyH_ready (rs := [16]) (by kernel_rfl) (by simp) ?_
                            refine AllReadyH.cons (o := ?sO67) ?sA67 (fun K hK => ?sB67) ?sC67
                            case sA67 => (first | (simp only [List.getElem?_toArray, List.getElem?_cons_succ, List.getElem?_cons_zero]; done) | (simp only [List.getElem?_toArray, List.getElem?_cons_succ, List.getElem?_cons_zero]; rfl))
                            case sB67 =>
                              -- store 16
                              have n89_68 : (wo62.heap.size) ≠ (wo2.heap.size) := by omega
                              have n98_68 : (wo2.heap.size) ≠ (wo62.heap.size) := by omega
                              have hg8_68 : W.heap.size ≤ wo62.heap.size := by omega
                              have hg9_68 : W.heap.size ≤ wo2.heap.size := by omega
                              obtain ⟨c0_68, c1_68, c2_68, c3_68, d0_68, d1_68, d2_68, d3_68⟩ := blk4 k9_62
                              go_simp
                              refine hK.out _ _ ?kS69 (fun hHeld => ?kR69)
                              case kS69 => (try dsimp only); go_keep
                              case kR69 =>
                                clear hK K
                                try simp only [Act.put, List.setIfInBounds_toArray, List.set_cons_zero, List.set_cons_succ]
                                refine wpAnyH_ready (rs := [17]) (by kernel_rfl) (by simp) ?_
                                refine AllReadyH.cons (o := ?sO70) ?sA70 (fun K hK => ?sB70) ?sC70
                                case sA70 => (first | (simp only [List.getElem?_toArray, List.getElem?_cons_succ, List.getElem?_cons_zero]; done) | (simp only [List.getElem?_toArray, List.getElem?_cons_succ, List.getElem?_cons_zero]; rfl))
                                case sB70 =>
                                  -- store 17
                                  go_simp
                                  refine hK.out _ _ ?kS72 (fun hHeld => ?kR72)
                                  case kS72 => (try dsimp only); (first | go_keep | exact (⟨(Below.cell (Below.alloc (bel4 hbo62 hg9_68 (.int .i64 (R' : Nat)) (.int .i64 (E' : Nat)) (.int .i64 (S' : Nat)) (.int .i64 (Fl' : Nat))) (by simp <;> omega) _) (p := ⟨w.heap.size + 1, 4, none⟩) hnl).trans m4, (Below.cell (Below.alloc (bel4 hbo62 hg9_68 (.int .i64 (R' : Nat)) (.int .i64 (E' : Nat)) (.int .i64 (S' : Nat)) (.int .i64 (Fl' : Nat))) (by simp <;> omega) _) (p := ak) hal).trans y0, (Below.cell (Below.alloc (bel4 hbo62 hg9_68 (.int .i64 (R' : Nat)) (.int .i64 (E' : Nat)) (.int .i64 (S' : Nat)) (.int .i64 (Fl' : Nat))) (by simp <;> omega) _) (p := ⟨ak.block, ak.off + 1, none⟩) hal).trans y1⟩))
                                  case kR72 =>
                                    clear hK K
                                    try simp only [Act.put, List.setIfInBounds_toArray, List.set_cons_zero, List.set_cons_succ]
                                    refine wpAnyH_done (by kernel_rfl) ?_ _
                                    refine NoPanic.normal ?_
                                    go_wp2_with fail
                                    go_meet
                                    refine ⟨_, _, rfl, rfl, ?_, ?_, ?_⟩
                                    rotate_left 2
                                    focus ((repeat (first | with_reducible assumption | ((with_reducible (refine bel4 ?_ ?_ _ _ _ _)); rotate_left; (first | omega | (simp <;> omega))) | ((with_reducible (refine Below.alloc ?_ ?_ _)); rotate_left; (first | omega | (simp <;> omega))))); done)
                                    all_goals focus ((repeat (first | with_reducible (exact Blk.new _ _ _) | with_reducible (exact Blk.new2 _ _ _ _) | with_reducible (exact newS4 _ _ _ _ _ _ _ _) | with_reducible assumption | with_reducible (refine set4 (a := .int .i64 0) (b := .int .i64 0) (c := .int .i64 0) (d := .int .i64 0) ?_ _ _ _ _) | ((with_reducible (refine far4 ?_ ?_ _ _ _ _)); rotate_left; (first | omega | (simp <;> omega))) | with_reducible (refine Blk.alloc ?_ _))); done)
                                case sC70 =>
                                  exact AllReadyH.nil
                            case sC67 =>
                              exact AllReadyH.nil
                        case sC64 =>
                          exact AllReadyH.nil
                    case sC61 =>
                      refine AllReadyH.cons (o := ?sO73) ?sA73 (fun K hK => ?sB73) ?sC73
                      case sA73 => (first | (simp only [List.getElem?_toArray, List.getElem?_cons_succ, List.getElem?_cons_zero]; done) | (simp only [List.getElem?_toArray, List.getElem?_cons_succ, List.getElem?_cons_zero]; rfl))
                      case sB73 =>
                        go_simp
                        have hbo74 : Below W.heap.size W ((wo2.alloc (.cells #[.int .i64 0, .int .i64 0, .int .i64 0, .int .i64 0] 49)).alloc (.cells #[.int .i64 0, .int .i64 0, .int .i64 0, .int .i64 0] 49)) := Below.alloc hbo59 (hbo59).size (.cells #[.int .i64 0, .int .i64 0, .int .i64 0, .int .i64 0] 49)
                        have k9_74 : Blk ((wo2.alloc (.cells #[.int .i64 0, .int .i64 0, .int .i64 0, .int .i64 0] 49)).alloc (.cells #[.int .i64 0, .int .i64 0, .int .i64 0, .int .i64 0] 49)) (wo2.heap.size) 49 #[.int .i64 0, .int .i64 0, .int .i64 0, .int .i64 0] := Blk.alloc k9_59 (.cells #[.int .i64 0, .int .i64 0, .int .i64 0, .int .i64 0] 49)
                        have k8_74 : Blk ((wo2.alloc (.cells #[.int .i64 0, .int .i64 0, .int .i64 0, .int .i64 0] 49)).alloc (.cells #[.int .i64 0, .int .i64 0, .int .i64 0, .int .i64 0] 49)) (wo2.heap.size + 1) 49 #[.int .i64 0, .int .i64 0, .int .i64 0, .int .i64 0] := blkNew (by simp)
                        refine hK.out _ _ ?kS75 (fun hHeld => ?kR75)
                        case kS75 => (try dsimp only); go_keep
                        case kR75 =>
                          clear hK K
                          try simp only [Act.put, List.setIfInBounds_toArray, List.set_cons_zero, List.set_cons_succ]
                          refine wpAnyH_ready (rs := [13]) (by kernel_rfl) (by simp) ?_
                          refine AllReadyH.cons (o := ?sO76) ?sA76 (fun K hK => ?sB76) ?sC76
                          case sA76 => (first | (simp only [List.getElem?_toArray, List.getElem?_cons_succ, List.getElem?_cons_zero]; done) | (simp only [List.getElem?_toArray, List.getElem?_cons_succ, List.getElem?_cons_zero]; rfl))
                          case sB76 =>
                            go_simp
                            go_at_call 54; refine (HK'.out _ (hF2.below hbo74)).mono ?_; rintro e wo77 ⟨rfl, hwo77⟩; unfold needV
                            have hbo77 : Below W.heap.size W wo77 := Below.trans hbo74 (Below.mono hwo77 (hbo74).size)
                            have hz_77 := (hbo77).size
                            have k9_77 := Blk.call k9_74 hwo77
                            have lk9_77 := (k9_77).lt
                            have k8_77 := Blk.call k8_74 hwo77
                            have lk8_77 := (k8_77).lt
                            have s_77 : (fun w' => w'.cell? ⟨w.heap.size + 1, 4, none⟩ = some (.slice (some ak) 2 ck) ∧ w'.cell? ak = some (.int .i64 j1) ∧ w'.cell? ⟨ak.block, ak.off + 1, none⟩ = some (.int .i64 j2)) wo77 := (⟨(Below.cell hbo77 (p := ⟨w.heap.size + 1, 4, none⟩) hnl).trans m4, (Below.cell hbo77 (p := ak) hal).trans y0, (Below.cell hbo77 (p := ⟨ak.block, ak.off + 1, none⟩) hal).trans y1⟩)
                            try go_wp2_with fail
                            refine hK.out _ _ ?kS78 (fun hHeld => ?kR78)
                            case kS78 => (try dsimp only); exact s_77
                            case kR78 =>
                              clear hK K
                              try simp only [Act.put, List.setIfInBounds_toArray, List.set_cons_zero, List.set_cons_succ]
                              refine wpAnyH_ready (rs := [16]) (by kernel_rfl) (by simp) ?_
                              refine AllReadyH.cons (o := ?sO79) ?sA79 (fun K hK => ?sB79) ?sC79
                              case sA79 => (first | (simp only [List.getElem?_toArray, List.getElem?_cons_succ, List.getElem?_cons_zero]; done) | (simp only [List.getElem?_toArray, List.getElem?_cons_succ, List.getElem?_cons_zero]; rfl))
                              case sB79 =>
                                -- store 16
                                have n89_80 : (wo2.heap.size + 1) ≠ (wo2.heap.size) := by omega
                                have n98_80 : (wo2.heap.size) ≠ (wo2.heap.size + 1) := by omega
                                have hg8_80 : W.heap.size ≤ wo2.heap.size + 1 := by omega
                                have hg9_80 : W.heap.size ≤ wo2.heap.size := by omega
                                obtain ⟨a0_80, a1_80, a2_80, a3_80, b0_80, b1_80, b2_80, b3_80⟩ := blk4 k8_77
                                obtain ⟨c0_80, c1_80, c2_80, c3_80, d0_80, d1_80, d2_80, d3_80⟩ := blk4 k9_77
                                go_simp
                                refine hK.out _ _ ?kS81 (fun hHeld => ?kR81)
                                case kS81 => (try dsimp only); (first | go_keep | exact (⟨(Below.cell (bel4 hbo77 hg8_80 (.int .i64 (R : Nat)) (.int .i64 (E : Nat)) (.int .i64 (S : Nat)) (.int .i64 (Fl : Nat))) (p := ⟨w.heap.size + 1, 4, none⟩) hnl).trans m4, (Below.cell (bel4 hbo77 hg8_80 (.int .i64 (R : Nat)) (.int .i64 (E : Nat)) (.int .i64 (S : Nat)) (.int .i64 (Fl : Nat))) (p := ak) hal).trans y0, (Below.cell (bel4 hbo77 hg8_80 (.int .i64 (R : Nat)) (.int .i64 (E : Nat)) (.int .i64 (S : Nat)) (.int .i64 (Fl : Nat))) (p := ⟨ak.block, ak.off + 1, none⟩) hal).trans y1⟩) | exact (⟨(Below.cell (Below.alloc (bel4 hbo77 hg8_80 (.int .i64 (R : Nat)) (.int .i64 (E : Nat)) (.int .i64 (S : Nat)) (.int .i64 (Fl : Nat))) (by simp <;> omega) _) (p := ⟨w.heap.size + 1, 4, none⟩) hnl).trans m4, (Below.cell (Below.alloc (bel4 hbo77 hg8_80 (.int .i64 (R : Nat)) (.int .i64 (E : Nat)) (.int .i64 (S : Nat)) (.int .i64 (Fl : Nat))) (by simp <;> omega) _) (p := ak) hal).trans y0, (Below.cell (Below.alloc (bel4 hbo77 hg8_80 (.int .i64 (R : Nat)) (.int .i64 (E : Nat)) (.int .i64 (S : Nat)) (.int .i64 (Fl : Nat))) (by simp <;> omega) _) (p := ⟨ak.block, ak.off + 1, none⟩) hal).trans y1⟩) | exact (⟨(Below.cell (Below.alloc (Below.alloc (bel4 hbo77 hg8_80 (.int .i64 (R : Nat)) (.int .i64 (E : Nat)) (.int .i64 (S : Nat)) (.int .i64 (Fl : Nat))) (by simp <;> omega) _) (by simp <;> omega) _) (p := ⟨w.heap.size + 1, 4, none⟩) hnl).trans m4, (Below.cell (Below.alloc (Below.alloc (bel4 hbo77 hg8_80 (.int .i64 (R : Nat)) (.int .i64 (E : Nat)) (.int .i64 (S : Nat)) (.int .i64 (Fl : Nat))) (by simp <;> omega) _) (by simp <;> omega) _) (p := ak) hal).trans y0, (Below.cell (Below.alloc (Below.alloc (bel4 hbo77 hg8_80 (.int .i64 (R : Nat)) (.int .i64 (E : Nat)) (.int .i64 (S : Nat)) (.int .i64 (Fl : Nat))) (by simp <;> omega) _) (by simp <;> omega) _) (p := ⟨ak.block, ak.off + 1, none⟩) hal).trans y1⟩))
                                case kR81 =>
                                  clear hK K
                                  try simp only [Act.put, List.setIfInBounds_toArray, List.set_cons_zero, List.set_cons_succ]
                                  refine wpAnyH_ready (rs := [17]) (by kernel_rfl) (by simp) ?_
                                  refine AllReadyH.cons (o := ?sO82) ?sA82 (fun K hK => ?sB82) ?sC82
                                  case sA82 => (first | (simp only [List.getElem?_toArray, List.getElem?_cons_succ, List.getElem?_cons_zero]; done) | (simp only [List.getElem?_toArray, List.getElem?_cons_succ, List.getElem?_cons_zero]; rfl))
                                  case sB82 =>
                                    -- store 17
                                    go_simp
                                    refine hK.out _ _ ?kS84 (fun hHeld => ?kR84)
                                    case kS84 => (try dsimp only); (first | go_keep | exact (⟨(Below.cell (bel4 (bel4 hbo77 hg8_80 (.int .i64 (R : Nat)) (.int .i64 (E : Nat)) (.int .i64 (S : Nat)) (.int .i64 (Fl : Nat))) hg9_80 (.int .i64 (R' : Nat)) (.int .i64 (E' : Nat)) (.int .i64 (S' : Nat)) (.int .i64 (Fl' : Nat))) (p := ⟨w.heap.size + 1, 4, none⟩) hnl).trans m4, (Below.cell (bel4 (bel4 hbo77 hg8_80 (.int .i64 (R : Nat)) (.int .i64 (E : Nat)) (.int .i64 (S : Nat)) (.int .i64 (Fl : Nat))) hg9_80 (.int .i64 (R' : Nat)) (.int .i64 (E' : Nat)) (.int .i64 (S' : Nat)) (.int .i64 (Fl' : Nat))) (p := ak) hal).trans y0, (Below.cell (bel4 (bel4 hbo77 hg8_80 (.int .i64 (R : Nat)) (.int .i64 (E : Nat)) (.int .i64 (S : Nat)) (.int .i64 (Fl : Nat))) hg9_80 (.int .i64 (R' : Nat)) (.int .i64 (E' : Nat)) (.int .i64 (S' : Nat)) (.int .i64 (Fl' : Nat))) (p := ⟨ak.block, ak.off + 1, none⟩) hal).trans y1⟩))
                                    case kR84 =>
                                      clear hK K
                                      try simp only [Act.put, List.setIfInBounds_toArray, List.set_cons_zero, List.set_cons_succ]
                                      refine wpAnyH_done (by kernel_rfl) ?_ _
                                      refine NoPanic.normal ?_
                                      go_wp2_with fail
                                      go_meet
                                      refine ⟨_, _, rfl, rfl, ?_, ?_, ?_⟩
                                      rotate_left 2
                                      focus ((repeat (first | with_reducible assumption | ((with_reducible (refine bel4 ?_ ?_ _ _ _ _)); rotate_left; (first | omega | (simp <;> omega))) | ((with_reducible (refine Below.alloc ?_ ?_ _)); rotate_left; (first | omega | (simp <;> omega))))); done)
                                      all_goals focus ((repeat (first | with_reducible (exact Blk.new _ _ _) | with_reducible (exact Blk.new2 _ _ _ _) | with_reducible (exact newS4 _ _ _ _ _ _ _ _) | with_reducible assumption | with_reducible (refine set4 (a := .int .i64 0) (b := .int .i64 0) (c := .int .i64 0) (d := .int .i64 0) ?_ _ _ _ _) | ((with_reducible (refine far4 ?_ ?_ _ _ _ _)); rotate_left; (first | omega | (simp <;> omega))) | with_reducible (refine Blk.alloc ?_ _))); done)
                                  case sC82 =>
                                    exact AllReadyH.nil
                              case sC79 =>
                                exact AllReadyH.nil
                          case sC76 =>
                            exact AllReadyH.nil
                      case sC73 =>
                        exact AllReadyH.nil
                case sC58 =>
                  exact AllReadyH.nil
        case sC1 =>
          refine AllReadyH.cons (o := ?sO85) ?sA85 (fun K hK => ?sB85) ?sC85
          case sA85 => (first | (simp only [List.getElem?_toArray, List.getElem?_cons_succ, List.getElem?_cons_zero]; done) | (simp only [List.getElem?_toArray, List.getElem?_cons_succ, List.getElem?_cons_zero]; rfl))
          case sB85 =>
            go_simp
            have hbo86 : Below W.heap.size W (W.alloc (.cells #[.int .i64 0, .int .i64 0, .int .i64 0, .int .i64 0] 49)).drew := Below.alloc hb0 (hb0).size (.cells #[.int .i64 0, .int .i64 0, .int .i64 0, .int .i64 0] 49)
            have k8_86 : Blk (W.alloc (.cells #[.int .i64 0, .int .i64 0, .int .i64 0, .int .i64 0] 49)).drew (W.heap.size) 49 #[.int .i64 0, .int .i64 0, .int .i64 0, .int .i64 0] := blkNew (by simp)
            refine hK.out _ _ ?kS87 (fun hHeld => ?kR87)
            case kS87 => (try dsimp only); go_keep
            case kR87 =>
              clear hK K
              try simp only [Act.put, List.setIfInBounds_toArray, List.set_cons_zero, List.set_cons_succ]
              refine wpAnyH_ready (rs := [6, 15]) (by kernel_rfl) (by simp) ?_
              refine AllReadyH.cons (o := ?sO88) ?sA88 (fun K hK => ?sB88) ?sC88
              case sA88 => (first | (simp only [List.getElem?_toArray, List.getElem?_cons_succ, List.getElem?_cons_zero]; done) | (simp only [List.getElem?_toArray, List.getElem?_cons_succ, List.getElem?_cons_zero]; rfl))
              case sB88 =>
                go_simp
                go_at_call 54; refine (HK.out _ (hF2.below hbo86)).mono ?_; rintro e wo89 ⟨rfl, hwo89⟩; unfold needV
                have hbo89 : Below W.heap.size W wo89 := Below.trans hbo86 (Below.mono hwo89 (hbo86).size)
                have hz_89 := (hbo89).size
                have k8_89 := Blk.call k8_86 hwo89
                have lk8_89 := (k8_89).lt
                have s_89 : (fun w' => w'.cell? ⟨w.heap.size + 1, 4, none⟩ = some (.slice (some ak) 2 ck) ∧ w'.cell? ak = some (.int .i64 j1) ∧ w'.cell? ⟨ak.block, ak.off + 1, none⟩ = some (.int .i64 j2)) wo89 := (⟨(Below.cell hbo89 (p := ⟨w.heap.size + 1, 4, none⟩) hnl).trans m4, (Below.cell hbo89 (p := ak) hal).trans y0, (Below.cell hbo89 (p := ⟨ak.block, ak.off + 1, none⟩) hal).trans y1⟩)
                try go_wp2_with fail
                refine hK.out _ _ ?kS90 (fun hHeld => ?kR90)
                case kS90 => (try dsimp only); exact s_89
                case kR90 =>
                  clear hK K
                  try simp only [Act.put, List.setIfInBounds_toArray, List.set_cons_zero, List.set_cons_succ]
                  refine wpAnyH_ready (rs := [13, 15]) (by kernel_rfl) (by simp) ?_
                  refine AllReadyH.cons (o := ?sO91) ?sA91 (fun K hK => ?sB91) ?sC91
                  case sA91 => (first | (simp only [List.getElem?_toArray, List.getElem?_cons_succ, List.getElem?_cons_zero]; done) | (simp only [List.getElem?_toArray, List.getElem?_cons_succ, List.getElem?_cons_zero]; rfl))
                  case sB91 =>
                    go_simp
                    go_at_call 54; refine (HK'.out _ (hF2.below hbo89)).mono ?_; rintro e wo92 ⟨rfl, hwo92⟩; unfold needV
                    have hbo92 : Below W.heap.size W wo92 := Below.trans hbo89 (Below.mono hwo92 (hbo89).size)
                    have hz_92 := (hbo92).size
                    have k8_92 := Blk.call k8_89 hwo92
                    have lk8_92 := (k8_92).lt
                    have s_92 : (fun w' => w'.cell? ⟨w.heap.size + 1, 4, none⟩ = some (.slice (some ak) 2 ck) ∧ w'.cell? ak = some (.int .i64 j1) ∧ w'.cell? ⟨ak.block, ak.off + 1, none⟩ = some (.int .i64 j2)) wo92 := (⟨(Below.cell hbo92 (p := ⟨w.heap.size + 1, 4, none⟩) hnl).trans m4, (Below.cell hbo92 (p := ak) hal).trans y0, (Below.cell hbo92 (p := ⟨ak.block, ak.off + 1, none⟩) hal).trans y1⟩)
                    try go_wp2_with fail
                    refine hK.out _ _ ?kS93 (fun hHeld => ?kR93)
                    case kS93 => (try dsimp only); exact s_92
                    case kR93 =>
                      clear hK K
                      try simp only [Act.put, List.setIfInBounds_toArray, List.set_cons_zero, List.set_cons_succ]
                      refine wpAnyH_ready (rs := [15]) (by kernel_rfl) (by simp) ?_
                      refine AllReadyH.cons (o := ?sO94) ?sA94 (fun K hK => ?sB94) ?sC94
                      case sA94 => (first | (simp only [List.getElem?_toArray, List.getElem?_cons_succ, List.getElem?_cons_zero]; done) | (simp only [List.getElem?_toArray, List.getElem?_cons_succ, List.getElem?_cons_zero]; rfl))
                      case sB94 =>
                        go_simp
                        have hbo95 : Below W.heap.size W (wo92.alloc (.cells #[.int .i64 0, .int .i64 0, .int .i64 0, .int .i64 0] 49)) := Below.alloc hbo92 (hbo92).size (.cells #[.int .i64 0, .int .i64 0, .int .i64 0, .int .i64 0] 49)
                        have k8_95 : Blk (wo92.alloc (.cells #[.int .i64 0, .int .i64 0, .int .i64 0, .int .i64 0] 49)) (W.heap.size) 49 #[.int .i64 0, .int .i64 0, .int .i64 0, .int .i64 0] := Blk.alloc k8_92 (.cells #[.int .i64 0, .int .i64 0, .int .i64 0, .int .i64 0] 49)
                        have k9_95 : Blk (wo92.alloc (.cells #[.int .i64 0, .int .i64 0, .int .i64 0, .int .i64 0] 49)) (wo92.heap.size) 49 #[.int .i64 0, .int .i64 0, .int .i64 0, .int .i64 0] := blkNew (by simp)
                        refine hK.out _ _ ?kS96 (fun hHeld => ?kR96)
                        case kS96 => (try dsimp only); go_keep
                        case kR96 =>
                          clear hK K
                          try simp only [Act.put, List.setIfInBounds_toArray, List.set_cons_zero, List.set_cons_succ]
                          refine wpAnyH_ready (rs := [16]) (by kernel_rfl) (by simp) ?_
                          refine AllReadyH.cons (o := ?sO97) ?sA97 (fun K hK => ?sB97) ?sC97
                          case sA97 => (first | (simp only [List.getElem?_toArray, List.getElem?_cons_succ, List.getElem?_cons_zero]; done) | (simp only [List.getElem?_toArray, List.getElem?_cons_succ, List.getElem?_cons_zero]; rfl))
                          case sB97 =>
                            -- store 16
                            have n89_98 : (W.heap.size) ≠ (wo92.heap.size) := by omega
                            have n98_98 : (wo92.heap.size) ≠ (W.heap.size) := by omega
                            have hg8_98 : W.heap.size ≤ W.heap.size := by omega
                            have hg9_98 : W.heap.size ≤ wo92.heap.size := by omega
                            obtain ⟨a0_98, a1_98, a2_98, a3_98, b0_98, b1_98, b2_98, b3_98⟩ := blk4 k8_92
                            go_simp
                            refine hK.out _ _ ?kS99 (fun hHeld => ?kR99)
                            case kS99 => (try dsimp only); (first | go_keep | exact (⟨(Below.cell (bel4 hbo92 hg8_98 (.int .i64 (R : Nat)) (.int .i64 (E : Nat)) (.int .i64 (S : Nat)) (.int .i64 (Fl : Nat))) (p := ⟨w.heap.size + 1, 4, none⟩) hnl).trans m4, (Below.cell (bel4 hbo92 hg8_98 (.int .i64 (R : Nat)) (.int .i64 (E : Nat)) (.int .i64 (S : Nat)) (.int .i64 (Fl : Nat))) (p := ak) hal).trans y0, (Below.cell (bel4 hbo92 hg8_98 (.int .i64 (R : Nat)) (.int .i64 (E : Nat)) (.int .i64 (S : Nat)) (.int .i64 (Fl : Nat))) (p := ⟨ak.block, ak.off + 1, none⟩) hal).trans y1⟩) | exact (⟨(Below.cell (Below.alloc (bel4 hbo92 hg8_98 (.int .i64 (R : Nat)) (.int .i64 (E : Nat)) (.int .i64 (S : Nat)) (.int .i64 (Fl : Nat))) (by simp <;> omega) _) (p := ⟨w.heap.size + 1, 4, none⟩) hnl).trans m4, (Below.cell (Below.alloc (bel4 hbo92 hg8_98 (.int .i64 (R : Nat)) (.int .i64 (E : Nat)) (.int .i64 (S : Nat)) (.int .i64 (Fl : Nat))) (by simp <;> omega) _) (p := ak) hal).trans y0, (Below.cell (Below.alloc (bel4 hbo92 hg8_98 (.int .i64 (R : Nat)) (.int .i64 (E : Nat)) (.int .i64 (S : Nat)) (.int .i64 (Fl : Nat))) (by simp <;> omega) _) (p := ⟨ak.block, ak.off + 1, none⟩) hal).trans y1⟩) | exact (⟨(Below.cell (Below.alloc (Below.alloc (bel4 hbo92 hg8_98 (.int .i64 (R : Nat)) (.int .i64 (E : Nat)) (.int .i64 (S : Nat)) (.int .i64 (Fl : Nat))) (by simp <;> omega) _) (by simp <;> omega) _) (p := ⟨w.heap.size + 1, 4, none⟩) hnl).trans m4, (Below.cell (Below.alloc (Below.alloc (bel4 hbo92 hg8_98 (.int .i64 (R : Nat)) (.int .i64 (E : Nat)) (.int .i64 (S : Nat)) (.int .i64 (Fl : Nat))) (by simp <;> omega) _) (by simp <;> omega) _) (p := ak) hal).trans y0, (Below.cell (Below.alloc (Below.alloc (bel4 hbo92 hg8_98 (.int .i64 (R : Nat)) (.int .i64 (E : Nat)) (.int .i64 (S : Nat)) (.int .i64 (Fl : Nat))) (by simp <;> omega) _) (by simp <;> omega) _) (p := ⟨ak.block, ak.off + 1, none⟩) hal).trans y1⟩))
                            case kR99 =>
                              clear hK K
                              try simp only [Act.put, List.setIfInBounds_toArray, List.set_cons_zero, List.set_cons_succ]
                              refine wpAnyH_ready (rs := [17]) (by kernel_rfl) (by simp) ?_
                              refine AllReadyH.cons (o := ?sO100) ?sA100 (fun K hK => ?sB100) ?sC100
                              case sA100 => (first | (simp only [List.getElem?_toArray, List.getElem?_cons_succ, List.getElem?_cons_zero]; done) | (simp only [List.getElem?_toArray, List.getElem?_cons_succ, List.getElem?_cons_zero]; rfl))
                              case sB100 =>
                                -- store 17
                                go_simp
                                refine hK.out _ _ ?kS102 (fun hHeld => ?kR102)
                                case kS102 => (try dsimp only); (first | go_keep | exact (⟨(Below.cell (Below.alloc (bel4 hbo92 hg8_98 (.int .i64 (R : Nat)) (.int .i64 (E : Nat)) (.int .i64 (S : Nat)) (.int .i64 (Fl : Nat))) (by simp <;> omega) _) (p := ⟨w.heap.size + 1, 4, none⟩) hnl).trans m4, (Below.cell (Below.alloc (bel4 hbo92 hg8_98 (.int .i64 (R : Nat)) (.int .i64 (E : Nat)) (.int .i64 (S : Nat)) (.int .i64 (Fl : Nat))) (by simp <;> omega) _) (p := ak) hal).trans y0, (Below.cell (Below.alloc (bel4 hbo92 hg8_98 (.int .i64 (R : Nat)) (.int .i64 (E : Nat)) (.int .i64 (S : Nat)) (.int .i64 (Fl : Nat))) (by simp <;> omega) _) (p := ⟨ak.block, ak.off + 1, none⟩) hal).trans y1⟩))
                                case kR102 =>
                                  clear hK K
                                  try simp only [Act.put, List.setIfInBounds_toArray, List.set_cons_zero, List.set_cons_succ]
                                  refine wpAnyH_done (by kernel_rfl) ?_ _
                                  refine NoPanic.normal ?_
                                  go_wp2_with fail
                                  go_meet
                                  refine ⟨_, _, rfl, rfl, ?_, ?_, ?_⟩
                                  rotate_left 2
                                  focus ((repeat (first | with_reducible assumption | ((with_reducible (refine bel4 ?_ ?_ _ _ _ _)); rotate_left; (first | omega | (simp <;> omega))) | ((with_reducible (refine Below.alloc ?_ ?_ _)); rotate_left; (first | omega | (simp <;> omega))))); done)
                                  all_goals focus ((repeat (first | with_reducible (exact Blk.new _ _ _) | with_reducible (exact Blk.new2 _ _ _ _) | with_reducible (exact newS4 _ _ _ _ _ _ _ _) | with_reducible assumption | with_reducible (refine set4 (a := .int .i64 0) (b := .int .i64 0) (c := .int .i64 0) (d := .int .i64 0) ?_ _ _ _ _) | ((with_reducible (refine far4 ?_ ?_ _ _ _ _)); rotate_left; (first | omega | (simp <;> omega))) | with_reducible (refine Blk.alloc ?_ _))); done)
                              case sC100 =>
                                exact AllReadyH.nil
                          case sC97 =>
                            exact AllReadyH.nil
                      case sC94 =>
                        exact AllReadyH.nil
                  case sC91 =>
                    refine AllReadyH.cons (o := ?sO103) ?sA103 (fun K hK => ?sB103) ?sC103
                    case sA103 => (first | (simp only [List.getElem?_toArray, List.getElem?_cons_succ, List.getElem?_cons_zero]; done) | (simp only [List.getElem?_toArray, List.getElem?_cons_succ, List.getElem?_cons_zero]; rfl))
                    case sB103 =>
                      go_simp
                      have hbo104 : Below W.heap.size W (wo89.alloc (.cells #[.int .i64 0, .int .i64 0, .int .i64 0, .int .i64 0] 49)) := Below.alloc hbo89 (hbo89).size (.cells #[.int .i64 0, .int .i64 0, .int .i64 0, .int .i64 0] 49)
                      have k8_104 : Blk (wo89.alloc (.cells #[.int .i64 0, .int .i64 0, .int .i64 0, .int .i64 0] 49)) (W.heap.size) 49 #[.int .i64 0, .int .i64 0, .int .i64 0, .int .i64 0] := Blk.alloc k8_89 (.cells #[.int .i64 0, .int .i64 0, .int .i64 0, .int .i64 0] 49)
                      have k9_104 : Blk (wo89.alloc (.cells #[.int .i64 0, .int .i64 0, .int .i64 0, .int .i64 0] 49)) (wo89.heap.size) 49 #[.int .i64 0, .int .i64 0, .int .i64 0, .int .i64 0] := blkNew (by simp)
                      refine hK.out _ _ ?kS105 (fun hHeld => ?kR105)
                      case kS105 => (try dsimp only); go_keep
                      case kR105 =>
                        clear hK K
                        try simp only [Act.put, List.setIfInBounds_toArray, List.set_cons_zero, List.set_cons_succ]
                        refine wpAnyH_ready (rs := [13]) (by kernel_rfl) (by simp) ?_
                        refine AllReadyH.cons (o := ?sO106) ?sA106 (fun K hK => ?sB106) ?sC106
                        case sA106 => (first | (simp only [List.getElem?_toArray, List.getElem?_cons_succ, List.getElem?_cons_zero]; done) | (simp only [List.getElem?_toArray, List.getElem?_cons_succ, List.getElem?_cons_zero]; rfl))
                        case sB106 =>
                          go_simp
                          go_at_call 54; refine (HK'.out _ (hF2.below hbo104)).mono ?_; rintro e wo107 ⟨rfl, hwo107⟩; unfold needV
                          have hbo107 : Below W.heap.size W wo107 := Below.trans hbo104 (Below.mono hwo107 (hbo104).size)
                          have hz_107 := (hbo107).size
                          have k8_107 := Blk.call k8_104 hwo107
                          have lk8_107 := (k8_107).lt
                          have k9_107 := Blk.call k9_104 hwo107
                          have lk9_107 := (k9_107).lt
                          have s_107 : (fun w' => w'.cell? ⟨w.heap.size + 1, 4, none⟩ = some (.slice (some ak) 2 ck) ∧ w'.cell? ak = some (.int .i64 j1) ∧ w'.cell? ⟨ak.block, ak.off + 1, none⟩ = some (.int .i64 j2)) wo107 := (⟨(Below.cell hbo107 (p := ⟨w.heap.size + 1, 4, none⟩) hnl).trans m4, (Below.cell hbo107 (p := ak) hal).trans y0, (Below.cell hbo107 (p := ⟨ak.block, ak.off + 1, none⟩) hal).trans y1⟩)
                          try go_wp2_with fail
                          refine hK.out _ _ ?kS108 (fun hHeld => ?kR108)
                          case kS108 => (try dsimp only); exact s_107
                          case kR108 =>
                            clear hK K
                            try simp only [Act.put, List.setIfInBounds_toArray, List.set_cons_zero, List.set_cons_succ]
                            refine wpAnyH_ready (rs := [16]) (by kernel_rfl) (by simp) ?_
                            refine AllReadyH.cons (o := ?sO109) ?sA109 (fun K hK => ?sB109) ?sC109
                            case sA109 => (first | (simp only [List.getElem?_toArray, List.getElem?_cons_succ, List.getElem?_cons_zero]; done) | (simp only [List.getElem?_toArray, List.getElem?_cons_succ, List.getElem?_cons_zero]; rfl))
                            case sB109 =>
                              -- store 16
                              have n89_110 : (W.heap.size) ≠ (wo89.heap.size) := by omega
                              have n98_110 : (wo89.heap.size) ≠ (W.heap.size) := by omega
                              have hg8_110 : W.heap.size ≤ W.heap.size := by omega
                              have hg9_110 : W.heap.size ≤ wo89.heap.size := by omega
                              obtain ⟨a0_110, a1_110, a2_110, a3_110, b0_110, b1_110, b2_110, b3_110⟩ := blk4 k8_107
                              obtain ⟨c0_110, c1_110, c2_110, c3_110, d0_110, d1_110, d2_110, d3_110⟩ := blk4 k9_107
                              go_simp
                              refine hK.out _ _ ?kS111 (fun hHeld => ?kR111)
                              case kS111 => (try dsimp only); (first | go_keep | exact (⟨(Below.cell (bel4 hbo107 hg8_110 (.int .i64 (R : Nat)) (.int .i64 (E : Nat)) (.int .i64 (S : Nat)) (.int .i64 (Fl : Nat))) (p := ⟨w.heap.size + 1, 4, none⟩) hnl).trans m4, (Below.cell (bel4 hbo107 hg8_110 (.int .i64 (R : Nat)) (.int .i64 (E : Nat)) (.int .i64 (S : Nat)) (.int .i64 (Fl : Nat))) (p := ak) hal).trans y0, (Below.cell (bel4 hbo107 hg8_110 (.int .i64 (R : Nat)) (.int .i64 (E : Nat)) (.int .i64 (S : Nat)) (.int .i64 (Fl : Nat))) (p := ⟨ak.block, ak.off + 1, none⟩) hal).trans y1⟩) | exact (⟨(Below.cell (Below.alloc (bel4 hbo107 hg8_110 (.int .i64 (R : Nat)) (.int .i64 (E : Nat)) (.int .i64 (S : Nat)) (.int .i64 (Fl : Nat))) (by simp <;> omega) _) (p := ⟨w.heap.size + 1, 4, none⟩) hnl).trans m4, (Below.cell (Below.alloc (bel4 hbo107 hg8_110 (.int .i64 (R : Nat)) (.int .i64 (E : Nat)) (.int .i64 (S : Nat)) (.int .i64 (Fl : Nat))) (by simp <;> omega) _) (p := ak) hal).trans y0, (Below.cell (Below.alloc (bel4 hbo107 hg8_110 (.int .i64 (R : Nat)) (.int .i64 (E : Nat)) (.int .i64 (S : Nat)) (.int .i64 (Fl : Nat))) (by simp <;> omega) _) (p := ⟨ak.block, ak.off + 1, none⟩) hal).trans y1⟩) | exact (⟨(Below.cell (Below.alloc (Below.alloc (bel4 hbo107 hg8_110 (.int .i64 (R : Nat)) (.int .i64 (E : Nat)) (.int .i64 (S : Nat)) (.int .i64 (Fl : Nat))) (by simp <;> omega) _) (by simp <;> omega) _) (p := ⟨w.heap.size + 1, 4, none⟩) hnl).trans m4, (Below.cell (Below.alloc (Below.alloc (bel4 hbo107 hg8_110 (.int .i64 (R : Nat)) (.int .i64 (E : Nat)) (.int .i64 (S : Nat)) (.int .i64 (Fl : Nat))) (by simp <;> omega) _) (by simp <;> omega) _) (p := ak) hal).trans y0, (Below.cell (Below.alloc (Below.alloc (bel4 hbo107 hg8_110 (.int .i64 (R : Nat)) (.int .i64 (E : Nat)) (.int .i64 (S : Nat)) (.int .i64 (Fl : Nat))) (by simp <;> omega) _) (by simp <;> omega) _) (p := ⟨ak.block, ak.off + 1, none⟩) hal).trans y1⟩))
                              case kR111 =>
                                clear hK K
                                try simp only [Act.put, List.setIfInBounds_toArray, List.set_cons_zero, List.set_cons_succ]
                                refine wpAnyH_ready (rs := [17]) (by kernel_rfl) (by simp) ?_
                                refine AllReadyH.cons (o := ?sO112) ?sA112 (fun K hK => ?sB112) ?sC112
                                case sA112 => (first | (simp only [List.getElem?_toArray, List.getElem?_cons_succ, List.getElem?_cons_zero]; done) | (simp only [List.getElem?_toArray, List.getElem?_cons_succ, List.getElem?_cons_zero]; rfl))
                                case sB112 =>
                                  -- store 17
                                  go_simp
                                  refine hK.out _ _ ?kS114 (fun hHeld => ?kR114)
                                  case kS114 => (try dsimp only); (first | go_keep | exact (⟨(Below.cell (bel4 (bel4 hbo107 hg8_110 (.int .i64 (R : Nat)) (.int .i64 (E : Nat)) (.int .i64 (S : Nat)) (.int .i64 (Fl : Nat))) hg9_110 (.int .i64 (R' : Nat)) (.int .i64 (E' : Nat)) (.int .i64 (S' : Nat)) (.int .i64 (Fl' : Nat))) (p := ⟨w.heap.size + 1, 4, none⟩) hnl).trans m4, (Below.cell (bel4 (bel4 hbo107 hg8_110 (.int .i64 (R : Nat)) (.int .i64 (E : Nat)) (.int .i64 (S : Nat)) (.int .i64 (Fl : Nat))) hg9_110 (.int .i64 (R' : Nat)) (.int .i64 (E' : Nat)) (.int .i64 (S' : Nat)) (.int .i64 (Fl' : Nat))) (p := ak) hal).trans y0, (Below.cell (bel4 (bel4 hbo107 hg8_110 (.int .i64 (R : Nat)) (.int .i64 (E : Nat)) (.int .i64 (S : Nat)) (.int .i64 (Fl : Nat))) hg9_110 (.int .i64 (R' : Nat)) (.int .i64 (E' : Nat)) (.int .i64 (S' : Nat)) (.int .i64 (Fl' : Nat))) (p := ⟨ak.block, ak.off + 1, none⟩) hal).trans y1⟩))
                                  case kR114 =>
                                    clear hK K
                                    try simp only [Act.put, List.setIfInBounds_toArray, List.set_cons_zero, List.set_cons_succ]
                                    refine wpAnyH_done (by kernel_rfl) ?_ _
                                    refine NoPanic.normal ?_
                                    go_wp2_with fail
                                    go_meet
                                    refine ⟨_, _, rfl, rfl, ?_, ?_, ?_⟩
                                    rotate_left 2
                                    focus ((repeat (first | with_reducible assumption | ((with_reducible (refine bel4 ?_ ?_ _ _ _ _)); rotate_left; (first | omega | (simp <;> omega))) | ((with_reducible (refine Below.alloc ?_ ?_ _)); rotate_left; (first | omega | (simp <;> omega))))); done)
                                    all_goals focus ((repeat (first | with_reducible (exact Blk.new _ _ _) | with_reducible (exact Blk.new2 _ _ _ _) | with_reducible (exact newS4 _ _ _ _ _ _ _ _) | with_reducible assumption | with_reducible (refine set4 (a := .int .i64 0) (b := .int .i64 0) (c := .int .i64 0) (d := .int .i64 0) ?_ _ _ _ _) | ((with_reducible (refine far4 ?_ ?_ _ _ _ _)); rotate_left; (first | omega | (simp <;> omega))) | with_reducible (refine Blk.alloc ?_ _))); done)
                                case sC112 =>
                                  exact AllReadyH.nil
                            case sC109 =>
                              exact AllReadyH.nil
                        case sC106 =>
                          exact AllReadyH.nil
                    case sC103 =>
                      exact AllReadyH.nil
              case sC88 =>
                refine AllReadyH.cons (o := ?sO115) ?sA115 (fun K hK => ?sB115) ?sC115
                case sA115 => (first | (simp only [List.getElem?_toArray, List.getElem?_cons_succ, List.getElem?_cons_zero]; done) | (simp only [List.getElem?_toArray, List.getElem?_cons_succ, List.getElem?_cons_zero]; rfl))
                case sB115 =>
                  go_simp
                  have hbo116 : Below W.heap.size W ((W.alloc (.cells #[.int .i64 0, .int .i64 0, .int .i64 0, .int .i64 0] 49)).alloc (.cells #[.int .i64 0, .int .i64 0, .int .i64 0, .int .i64 0] 49)).drew := Below.alloc hbo86 (hbo86).size (.cells #[.int .i64 0, .int .i64 0, .int .i64 0, .int .i64 0] 49)
                  have k8_116 : Blk ((W.alloc (.cells #[.int .i64 0, .int .i64 0, .int .i64 0, .int .i64 0] 49)).alloc (.cells #[.int .i64 0, .int .i64 0, .int .i64 0, .int .i64 0] 49)).drew (W.heap.size) 49 #[.int .i64 0, .int .i64 0, .int .i64 0, .int .i64 0] := Blk.alloc k8_86 (.cells #[.int .i64 0, .int .i64 0, .int .i64 0, .int .i64 0] 49)
                  have k9_116 : Blk ((W.alloc (.cells #[.int .i64 0, .int .i64 0, .int .i64 0, .int .i64 0] 49)).alloc (.cells #[.int .i64 0, .int .i64 0, .int .i64 0, .int .i64 0] 49)).drew (W.heap.size + 1) 49 #[.int .i64 0, .int .i64 0, .int .i64 0, .int .i64 0] := blkNew (by simp)
                  refine hK.out _ _ ?kS117 (fun hHeld => ?kR117)
                  case kS117 => (try dsimp only); go_keep
                  case kR117 =>
                    clear hK K
                    try simp only [Act.put, List.setIfInBounds_toArray, List.set_cons_zero, List.set_cons_succ]
                    refine wpAnyH_ready (rs := [6]) (by kernel_rfl) (by simp) ?_
                    refine AllReadyH.cons (o := ?sO118) ?sA118 (fun K hK => ?sB118) ?sC118
                    case sA118 => (first | (simp only [List.getElem?_toArray, List.getElem?_cons_succ, List.getElem?_cons_zero]; done) | (simp only [List.getElem?_toArray, List.getElem?_cons_succ, List.getElem?_cons_zero]; rfl))
                    case sB118 =>
                      go_simp
                      go_at_call 54; refine (HK.out _ (hF2.below hbo116)).mono ?_; rintro e wo119 ⟨rfl, hwo119⟩; unfold needV
                      have hbo119 : Below W.heap.size W wo119 := Below.trans hbo116 (Below.mono hwo119 (hbo116).size)
                      have hz_119 := (hbo119).size
                      have k8_119 := Blk.call k8_116 hwo119
                      have lk8_119 := (k8_119).lt
                      have k9_119 := Blk.call k9_116 hwo119
                      have lk9_119 := (k9_119).lt
                      have s_119 : (fun w' => w'.cell? ⟨w.heap.size + 1, 4, none⟩ = some (.slice (some ak) 2 ck) ∧ w'.cell? ak = some (.int .i64 j1) ∧ w'.cell? ⟨ak.block, ak.off + 1, none⟩ = some (.int .i64 j2)) wo119 := (⟨(Below.cell hbo119 (p := ⟨w.heap.size + 1, 4, none⟩) hnl).trans m4, (Below.cell hbo119 (p := ak) hal).trans y0, (Below.cell hbo119 (p := ⟨ak.block, ak.off + 1, none⟩) hal).trans y1⟩)
                      try go_wp2_with fail
                      refine hK.out _ _ ?kS120 (fun hHeld => ?kR120)
                      case kS120 => (try dsimp only); exact s_119
                      case kR120 =>
                        clear hK K
                        try simp only [Act.put, List.setIfInBounds_toArray, List.set_cons_zero, List.set_cons_succ]
                        refine wpAnyH_ready (rs := [13]) (by kernel_rfl) (by simp) ?_
                        refine AllReadyH.cons (o := ?sO121) ?sA121 (fun K hK => ?sB121) ?sC121
                        case sA121 => (first | (simp only [List.getElem?_toArray, List.getElem?_cons_succ, List.getElem?_cons_zero]; done) | (simp only [List.getElem?_toArray, List.getElem?_cons_succ, List.getElem?_cons_zero]; rfl))
                        case sB121 =>
                          go_simp
                          go_at_call 54; refine (HK'.out _ (hF2.below hbo119)).mono ?_; rintro e wo122 ⟨rfl, hwo122⟩; unfold needV
                          have hbo122 : Below W.heap.size W wo122 := Below.trans hbo119 (Below.mono hwo122 (hbo119).size)
                          have hz_122 := (hbo122).size
                          have k8_122 := Blk.call k8_119 hwo122
                          have lk8_122 := (k8_122).lt
                          have k9_122 := Blk.call k9_119 hwo122
                          have lk9_122 := (k9_122).lt
                          have s_122 : (fun w' => w'.cell? ⟨w.heap.size + 1, 4, none⟩ = some (.slice (some ak) 2 ck) ∧ w'.cell? ak = some (.int .i64 j1) ∧ w'.cell? ⟨ak.block, ak.off + 1, none⟩ = some (.int .i64 j2)) wo122 := (⟨(Below.cell hbo122 (p := ⟨w.heap.size + 1, 4, none⟩) hnl).trans m4, (Below.cell hbo122 (p := ak) hal).trans y0, (Below.cell hbo122 (p := ⟨ak.block, ak.off + 1, none⟩) hal).trans y1⟩)
                          try go_wp2_with fail
                          refine hK.out _ _ ?kS123 (fun hHeld => ?kR123)
                          case kS123 => (try dsimp only); exact s_122
                          case kR123 =>
                            clear hK K
                            try simp only [Act.put, List.setIfInBounds_toArray, List.set_cons_zero, List.set_cons_succ]
                            refine wpAnyH_ready (rs := [16]) (by kernel_rfl) (by simp) ?_
                            refine AllReadyH.cons (o := ?sO124) ?sA124 (fun K hK => ?sB124) ?sC124
                            case sA124 => (first | (simp only [List.getElem?_toArray, List.getElem?_cons_succ, List.getElem?_cons_zero]; done) | (simp only [List.getElem?_toArray, List.getElem?_cons_succ, List.getElem?_cons_zero]; rfl))
                            case sB124 =>
                              -- store 16
                              have n89_125 : (W.heap.size) ≠ (W.heap.size + 1) := by omega
                              have n98_125 : (W.heap.size + 1) ≠ (W.heap.size) := by omega
                              have hg8_125 : W.heap.size ≤ W.heap.size := by omega
                              have hg9_125 : W.heap.size ≤ W.heap.size + 1 := by omega
                              obtain ⟨a0_125, a1_125, a2_125, a3_125, b0_125, b1_125, b2_125, b3_125⟩ := blk4 k8_122
                              obtain ⟨c0_125, c1_125, c2_125, c3_125, d0_125, d1_125, d2_125, d3_125⟩ := blk4 k9_122
                              go_simp
                              refine hK.out _ _ ?kS126 (fun hHeld => ?kR126)
                              case kS126 => (try dsimp only); (first | go_keep | exact (⟨(Below.cell (bel4 hbo122 hg8_125 (.int .i64 (R : Nat)) (.int .i64 (E : Nat)) (.int .i64 (S : Nat)) (.int .i64 (Fl : Nat))) (p := ⟨w.heap.size + 1, 4, none⟩) hnl).trans m4, (Below.cell (bel4 hbo122 hg8_125 (.int .i64 (R : Nat)) (.int .i64 (E : Nat)) (.int .i64 (S : Nat)) (.int .i64 (Fl : Nat))) (p := ak) hal).trans y0, (Below.cell (bel4 hbo122 hg8_125 (.int .i64 (R : Nat)) (.int .i64 (E : Nat)) (.int .i64 (S : Nat)) (.int .i64 (Fl : Nat))) (p := ⟨ak.block, ak.off + 1, none⟩) hal).trans y1⟩) | exact (⟨(Below.cell (Below.alloc (bel4 hbo122 hg8_125 (.int .i64 (R : Nat)) (.int .i64 (E : Nat)) (.int .i64 (S : Nat)) (.int .i64 (Fl : Nat))) (by simp <;> omega) _) (p := ⟨w.heap.size + 1, 4, none⟩) hnl).trans m4, (Below.cell (Below.alloc (bel4 hbo122 hg8_125 (.int .i64 (R : Nat)) (.int .i64 (E : Nat)) (.int .i64 (S : Nat)) (.int .i64 (Fl : Nat))) (by simp <;> omega) _) (p := ak) hal).trans y0, (Below.cell (Below.alloc (bel4 hbo122 hg8_125 (.int .i64 (R : Nat)) (.int .i64 (E : Nat)) (.int .i64 (S : Nat)) (.int .i64 (Fl : Nat))) (by simp <;> omega) _) (p := ⟨ak.block, ak.off + 1, none⟩) hal).trans y1⟩) | exact (⟨(Below.cell (Below.alloc (Below.alloc (bel4 hbo122 hg8_125 (.int .i64 (R : Nat)) (.int .i64 (E : Nat)) (.int .i64 (S : Nat)) (.int .i64 (Fl : Nat))) (by simp <;> omega) _) (by simp <;> omega) _) (p := ⟨w.heap.size + 1, 4, none⟩) hnl).trans m4, (Below.cell (Below.alloc (Below.alloc (bel4 hbo122 hg8_125 (.int .i64 (R : Nat)) (.int .i64 (E : Nat)) (.int .i64 (S : Nat)) (.int .i64 (Fl : Nat))) (by simp <;> omega) _) (by simp <;> omega) _) (p := ak) hal).trans y0, (Below.cell (Below.alloc (Below.alloc (bel4 hbo122 hg8_125 (.int .i64 (R : Nat)) (.int .i64 (E : Nat)) (.int .i64 (S : Nat)) (.int .i64 (Fl : Nat))) (by simp <;> omega) _) (by simp <;> omega) _) (p := ⟨ak.block, ak.off + 1, none⟩) hal).trans y1⟩))
                              case kR126 =>
                                clear hK K
                                try simp only [Act.put, List.setIfInBounds_toArray, List.set_cons_zero, List.set_cons_succ]
                                refine wpAnyH_ready (rs := [17]) (by kernel_rfl) (by simp) ?_
                                refine AllReadyH.cons (o := ?sO127) ?sA127 (fun K hK => ?sB127) ?sC127
                                case sA127 => (first | (simp only [List.getElem?_toArray, List.getElem?_cons_succ, List.getElem?_cons_zero]; done) | (simp only [List.getElem?_toArray, List.getElem?_cons_succ, List.getElem?_cons_zero]; rfl))
                                case sB127 =>
                                  -- store 17
                                  go_simp
                                  refine hK.out _ _ ?kS129 (fun hHeld => ?kR129)
                                  case kS129 => (try dsimp only); (first | go_keep | exact (⟨(Below.cell (bel4 (bel4 hbo122 hg8_125 (.int .i64 (R : Nat)) (.int .i64 (E : Nat)) (.int .i64 (S : Nat)) (.int .i64 (Fl : Nat))) hg9_125 (.int .i64 (R' : Nat)) (.int .i64 (E' : Nat)) (.int .i64 (S' : Nat)) (.int .i64 (Fl' : Nat))) (p := ⟨w.heap.size + 1, 4, none⟩) hnl).trans m4, (Below.cell (bel4 (bel4 hbo122 hg8_125 (.int .i64 (R : Nat)) (.int .i64 (E : Nat)) (.int .i64 (S : Nat)) (.int .i64 (Fl : Nat))) hg9_125 (.int .i64 (R' : Nat)) (.int .i64 (E' : Nat)) (.int .i64 (S' : Nat)) (.int .i64 (Fl' : Nat))) (p := ak) hal).trans y0, (Below.cell (bel4 (bel4 hbo122 hg8_125 (.int .i64 (R : Nat)) (.int .i64 (E : Nat)) (.int .i64 (S : Nat)) (.int .i64 (Fl : Nat))) hg9_125 (.int .i64 (R' : Nat)) (.int .i64 (E' : Nat)) (.int .i64 (S' : Nat)) (.int .i64 (Fl' : Nat))) (p := ⟨ak.block, ak.off + 1, none⟩) hal).trans y1⟩))
                                  case kR129 =>
                                    clear hK K
                                    try simp only [Act.put, List.setIfInBounds_toArray, List.set_cons_zero, List.set_cons_succ]
                                    refine wpAnyH_done (by kernel_rfl) ?_ _
                                    refine NoPanic.normal ?_
                                    go_wp2_with fail
                                    go_meet
                                    refine ⟨_, _, rfl, rfl, ?_, ?_, ?_⟩
                                    rotate_left 2
                                    focus ((repeat (first | with_reducible assumption | ((with_reducible (refine bel4 ?_ ?_ _ _ _ _)); rotate_left; (first | omega | (simp <;> omega))) | ((with_reducible (refine Below.alloc ?_ ?_ _)); rotate_left; (first | omega | (simp <;> omega))))); done)
                                    all_goals focus ((repeat (first | with_reducible (exact Blk.new _ _ _) | with_reducible (exact Blk.new2 _ _ _ _) | with_reducible (exact newS4 _ _ _ _ _ _ _ _) | with_reducible assumption | with_reducible (refine set4 (a := .int .i64 0) (b := .int .i64 0) (c := .int .i64 0) (d := .int .i64 0) ?_ _ _ _ _) | ((with_reducible (refine far4 ?_ ?_ _ _ _ _)); rotate_left; (first | omega | (simp <;> omega))) | with_reducible (refine Blk.alloc ?_ _))); done)
                                case sC127 =>
                                  exact AllReadyH.nil
                            case sC124 =>
                              exact AllReadyH.nil
                        case sC121 =>
                          exact AllReadyH.nil
                    case sC118 =>
                      exact AllReadyH.nil
                case sC115 =>
                  exact AllReadyH.nil
          case sC85 =>
            refine AllReadyH.cons (o := ?sO130) ?sA130 (fun K hK => ?sB130) ?sC130
            case sA130 => (first | (simp only [List.getElem?_toArray, List.getElem?_cons_succ, List.getElem?_cons_zero]; done) | (simp only [List.getElem?_toArray, List.getElem?_cons_succ, List.getElem?_cons_zero]; rfl))
            case sB130 =>
              go_simp
              have hbo131 : Below W.heap.size W (W.alloc (.cells #[.int .i64 0, .int .i64 0, .int .i64 0, .int .i64 0] 49)).drew := Below.alloc hb0 (hb0).size (.cells #[.int .i64 0, .int .i64 0, .int .i64 0, .int .i64 0] 49)
              have k9_131 : Blk (W.alloc (.cells #[.int .i64 0, .int .i64 0, .int .i64 0, .int .i64 0] 49)).drew (W.heap.size) 49 #[.int .i64 0, .int .i64 0, .int .i64 0, .int .i64 0] := blkNew (by simp)
              refine hK.out _ _ ?kS132 (fun hHeld => ?kR132)
              case kS132 => (try dsimp only); go_keep
              case kR132 =>
                clear hK K
                try simp only [Act.put, List.setIfInBounds_toArray, List.set_cons_zero, List.set_cons_succ]
                refine wpAnyH_ready (rs := [6, 14]) (by kernel_rfl) (by simp) ?_
                refine AllReadyH.cons (o := ?sO133) ?sA133 (fun K hK => ?sB133) ?sC133
                case sA133 => (first | (simp only [List.getElem?_toArray, List.getElem?_cons_succ, List.getElem?_cons_zero]; done) | (simp only [List.getElem?_toArray, List.getElem?_cons_succ, List.getElem?_cons_zero]; rfl))
                case sB133 =>
                  go_simp
                  go_at_call 54; refine (HK.out _ (hF2.below hbo131)).mono ?_; rintro e wo134 ⟨rfl, hwo134⟩; unfold needV
                  have hbo134 : Below W.heap.size W wo134 := Below.trans hbo131 (Below.mono hwo134 (hbo131).size)
                  have hz_134 := (hbo134).size
                  have k9_134 := Blk.call k9_131 hwo134
                  have lk9_134 := (k9_134).lt
                  have s_134 : (fun w' => w'.cell? ⟨w.heap.size + 1, 4, none⟩ = some (.slice (some ak) 2 ck) ∧ w'.cell? ak = some (.int .i64 j1) ∧ w'.cell? ⟨ak.block, ak.off + 1, none⟩ = some (.int .i64 j2)) wo134 := (⟨(Below.cell hbo134 (p := ⟨w.heap.size + 1, 4, none⟩) hnl).trans m4, (Below.cell hbo134 (p := ak) hal).trans y0, (Below.cell hbo134 (p := ⟨ak.block, ak.off + 1, none⟩) hal).trans y1⟩)
                  try go_wp2_with fail
                  refine hK.out _ _ ?kS135 (fun hHeld => ?kR135)
                  case kS135 => (try dsimp only); exact s_134
                  case kR135 =>
                    clear hK K
                    try simp only [Act.put, List.setIfInBounds_toArray, List.set_cons_zero, List.set_cons_succ]
                    refine wpAnyH_ready (rs := [13, 14]) (by kernel_rfl) (by simp) ?_
                    refine AllReadyH.cons (o := ?sO136) ?sA136 (fun K hK => ?sB136) ?sC136
                    case sA136 => (first | (simp only [List.getElem?_toArray, List.getElem?_cons_succ, List.getElem?_cons_zero]; done) | (simp only [List.getElem?_toArray, List.getElem?_cons_succ, List.getElem?_cons_zero]; rfl))
                    case sB136 =>
                      go_simp
                      go_at_call 54; refine (HK'.out _ (hF2.below hbo134)).mono ?_; rintro e wo137 ⟨rfl, hwo137⟩; unfold needV
                      have hbo137 : Below W.heap.size W wo137 := Below.trans hbo134 (Below.mono hwo137 (hbo134).size)
                      have hz_137 := (hbo137).size
                      have k9_137 := Blk.call k9_134 hwo137
                      have lk9_137 := (k9_137).lt
                      have s_137 : (fun w' => w'.cell? ⟨w.heap.size + 1, 4, none⟩ = some (.slice (some ak) 2 ck) ∧ w'.cell? ak = some (.int .i64 j1) ∧ w'.cell? ⟨ak.block, ak.off + 1, none⟩ = some (.int .i64 j2)) wo137 := (⟨(Below.cell hbo137 (p := ⟨w.heap.size + 1, 4, none⟩) hnl).trans m4, (Below.cell hbo137 (p := ak) hal).trans y0, (Below.cell hbo137 (p := ⟨ak.block, ak.off + 1, none⟩) hal).trans y1⟩)
                      try go_wp2_with fail
                      refine hK.out _ _ ?kS138 (fun hHeld => ?kR138)
                      case kS138 => (try dsimp only); exact s_137
                      case kR138 =>
                        clear hK K
                        try simp only [Act.put, List.setIfInBounds_toArray, List.set_cons_zero, List.set_cons_succ]
                        refine wpAnyH_ready (rs := [14]) (by kernel_rfl) (by simp) ?_
                        refine AllReadyH.cons (o := ?sO139) ?sA139 (fun K hK => ?sB139) ?sC139
                        case sA139 => (first | (simp only [List.getElem?_toArray, List.getElem?_cons_succ, List.getElem?_cons_zero]; done) | (simp only [List.getElem?_toArray, List.getElem?_cons_succ, List.getElem?_cons_zero]; rfl))
                        case sB139 =>
                          go_simp
                          have hbo140 : Below W.heap.size W (wo137.alloc (.cells #[.int .i64 0, .int .i64 0, .int .i64 0, .int .i64 0] 49)) := Below.alloc hbo137 (hbo137).size (.cells #[.int .i64 0, .int .i64 0, .int .i64 0, .int .i64 0] 49)
                          have k9_140 : Blk (wo137.alloc (.cells #[.int .i64 0, .int .i64 0, .int .i64 0, .int .i64 0] 49)) (W.heap.size) 49 #[.int .i64 0, .int .i64 0, .int .i64 0, .int .i64 0] := Blk.alloc k9_137 (.cells #[.int .i64 0, .int .i64 0, .int .i64 0, .int .i64 0] 49)
                          have k8_140 : Blk (wo137.alloc (.cells #[.int .i64 0, .int .i64 0, .int .i64 0, .int .i64 0] 49)) (wo137.heap.size) 49 #[.int .i64 0, .int .i64 0, .int .i64 0, .int .i64 0] := blkNew (by simp)
                          refine hK.out _ _ ?kS141 (fun hHeld => ?kR141)
                          case kS141 => (try dsimp only); go_keep
                          case kR141 =>
                            clear hK K
                            try simp only [Act.put, List.setIfInBounds_toArray, List.set_cons_zero, List.set_cons_succ]
                            refine wpAnyH_ready (rs := [16]) (by kernel_rfl) (by simp) ?_
                            refine AllReadyH.cons (o := ?sO142) ?sA142 (fun K hK => ?sB142) ?sC142
                            case sA142 => (first | (simp only [List.getElem?_toArray, List.getElem?_cons_succ, List.getElem?_cons_zero]; done) | (simp only [List.getElem?_toArray, List.getElem?_cons_succ, List.getElem?_cons_zero]; rfl))
                            case sB142 =>
                              -- store 16
                              have n89_143 : (wo137.heap.size) ≠ (W.heap.size) := by omega
                              have n98_143 : (W.heap.size) ≠ (wo137.heap.size) := by omega
                              have hg8_143 : W.heap.size ≤ wo137.heap.size := by omega
                              have hg9_143 : W.heap.size ≤ W.heap.size := by omega
                              obtain ⟨c0_143, c1_143, c2_143, c3_143, d0_143, d1_143, d2_143, d3_143⟩ := blk4 k9_137
                              go_simp
                              refine hK.out _ _ ?kS144 (fun hHeld => ?kR144)
                              case kS144 => (try dsimp only); go_keep
                              case kR144 =>
                                clear hK K
                                try simp only [Act.put, List.setIfInBounds_toArray, List.set_cons_zero, List.set_cons_succ]
                                refine wpAnyH_ready (rs := [17]) (by kernel_rfl) (by simp) ?_
                                refine AllReadyH.cons (o := ?sO145) ?sA145 (fun K hK => ?sB145) ?sC145
                                case sA145 => (first | (simp only [List.getElem?_toArray, List.getElem?_cons_succ, List.getElem?_cons_zero]; done) | (simp only [List.getElem?_toArray, List.getElem?_cons_succ, List.getElem?_cons_zero]; rfl))
                                case sB145 =>
                                  -- store 17
                                  go_simp
                                  refine hK.out _ _ ?kS147 (fun hHeld => ?kR147)
                                  case kS147 => (try dsimp only); (first | go_keep | exact (⟨(Below.cell (Below.alloc (bel4 hbo137 hg9_143 (.int .i64 (R' : Nat)) (.int .i64 (E' : Nat)) (.int .i64 (S' : Nat)) (.int .i64 (Fl' : Nat))) (by simp <;> omega) _) (p := ⟨w.heap.size + 1, 4, none⟩) hnl).trans m4, (Below.cell (Below.alloc (bel4 hbo137 hg9_143 (.int .i64 (R' : Nat)) (.int .i64 (E' : Nat)) (.int .i64 (S' : Nat)) (.int .i64 (Fl' : Nat))) (by simp <;> omega) _) (p := ak) hal).trans y0, (Below.cell (Below.alloc (bel4 hbo137 hg9_143 (.int .i64 (R' : Nat)) (.int .i64 (E' : Nat)) (.int .i64 (S' : Nat)) (.int .i64 (Fl' : Nat))) (by simp <;> omega) _) (p := ⟨ak.block, ak.off + 1, none⟩) hal).trans y1⟩))
                                  case kR147 =>
                                    clear hK K
                                    try simp only [Act.put, List.setIfInBounds_toArray, List.set_cons_zero, List.set_cons_succ]
                                    refine wpAnyH_done (by kernel_rfl) ?_ _
                                    refine NoPanic.normal ?_
                                    go_wp2_with fail
                                    go_meet
                                    refine ⟨_, _, rfl, rfl, ?_, ?_, ?_⟩
                                    rotate_left 2
                                    focus ((repeat (first | with_reducible assumption | ((with_reducible (refine bel4 ?_ ?_ _ _ _ _)); rotate_left; (first | omega | (simp <;> omega))) | ((with_reducible (refine Below.alloc ?_ ?_ _)); rotate_left; (first | omega | (simp <;> omega))))); done)
                                    all_goals focus ((repeat (first | with_reducible (exact Blk.new _ _ _) | with_reducible (exact Blk.new2 _ _ _ _) | with_reducible (exact newS4 _ _ _ _ _ _ _ _) | with_reducible assumption | with_reducible (refine set4 (a := .int .i64 0) (b := .int .i64 0) (c := .int .i64 0) (d := .int .i64 0) ?_ _ _ _ _) | ((with_reducible (refine far4 ?_ ?_ _ _ _ _)); rotate_left; (first | omega | (simp <;> omega))) | with_reducible (refine Blk.alloc ?_ _))); done)
                                case sC145 =>
                                  exact AllReadyH.nil
                            case sC142 =>
                              exact AllReadyH.nil
                        case sC139 =>
                          exact AllReadyH.nil
                    case sC136 =>
                      refine AllReadyH.cons (o := ?sO148) ?sA148 (fun K hK => ?sB148) ?sC148
                      case sA148 => (first | (simp only [List.getElem?_toArray, List.getElem?_cons_succ, List.getElem?_cons_zero]; done) | (simp only [List.getElem?_toArray, List.getElem?_cons_succ, List.getElem?_cons_zero]; rfl))
                      case sB148 =>
                        go_simp
                        have hbo149 : Below W.heap.size W (wo134.alloc (.cells #[.int .i64 0, .int .i64 0, .int .i64 0, .int .i64 0] 49)) := Below.alloc hbo134 (hbo134).size (.cells #[.int .i64 0, .int .i64 0, .int .i64 0, .int .i64 0] 49)
                        have k9_149 : Blk (wo134.alloc (.cells #[.int .i64 0, .int .i64 0, .int .i64 0, .int .i64 0] 49)) (W.heap.size) 49 #[.int .i64 0, .int .i64 0, .int .i64 0, .int .i64 0] := Blk.alloc k9_134 (.cells #[.int .i64 0, .int .i64 0, .int .i64 0, .int .i64 0] 49)
                        have k8_149 : Blk (wo134.alloc (.cells #[.int .i64 0, .int .i64 0, .int .i64 0, .int .i64 0] 49)) (wo134.heap.size) 49 #[.int .i64 0, .int .i64 0, .int .i64 0, .int .i64 0] := blkNew (by simp)
                        refine hK.out _ _ ?kS150 (fun hHeld => ?kR150)
                        case kS150 => (try dsimp only); go_keep
                        case kR150 =>
                          clear hK K
                          try simp only [Act.put, List.setIfInBounds_toArray, List.set_cons_zero, List.set_cons_succ]
                          refine wpAnyH_ready (rs := [13]) (by kernel_rfl) (by simp) ?_
                          refine AllReadyH.cons (o := ?sO151) ?sA151 (fun K hK => ?sB151) ?sC151
                          case sA151 => (first | (simp only [List.getElem?_toArray, List.getElem?_cons_succ, List.getElem?_cons_zero]; done) | (simp only [List.getElem?_toArray, List.getElem?_cons_succ, List.getElem?_cons_zero]; rfl))
                          case sB151 =>
                            go_simp
                            go_at_call 54; refine (HK'.out _ (hF2.below hbo149)).mono ?_; rintro e wo152 ⟨rfl, hwo152⟩; unfold needV
                            have hbo152 : Below W.heap.size W wo152 := Below.trans hbo149 (Below.mono hwo152 (hbo149).size)
                            have hz_152 := (hbo152).size
                            have k9_152 := Blk.call k9_149 hwo152
                            have lk9_152 := (k9_152).lt
                            have k8_152 := Blk.call k8_149 hwo152
                            have lk8_152 := (k8_152).lt
                            have s_152 : (fun w' => w'.cell? ⟨w.heap.size + 1, 4, none⟩ = some (.slice (some ak) 2 ck) ∧ w'.cell? ak = some (.int .i64 j1) ∧ w'.cell? ⟨ak.block, ak.off + 1, none⟩ = some (.int .i64 j2)) wo152 := (⟨(Below.cell hbo152 (p := ⟨w.heap.size + 1, 4, none⟩) hnl).trans m4, (Below.cell hbo152 (p := ak) hal).trans y0, (Below.cell hbo152 (p := ⟨ak.block, ak.off + 1, none⟩) hal).trans y1⟩)
                            try go_wp2_with fail
                            refine hK.out _ _ ?kS153 (fun hHeld => ?kR153)
                            case kS153 => (try dsimp only); exact s_152
                            case kR153 =>
                              clear hK K
                              try simp only [Act.put, List.setIfInBounds_toArray, List.set_cons_zero, List.set_cons_succ]
                              refine wpAnyH_ready (rs := [16]) (by kernel_rfl) (by simp) ?_
                              refine AllReadyH.cons (o := ?sO154) ?sA154 (fun K hK => ?sB154) ?sC154
                              case sA154 => (first | (simp only [List.getElem?_toArray, List.getElem?_cons_succ, List.getElem?_cons_zero]; done) | (simp only [List.getElem?_toArray, List.getElem?_cons_succ, List.getElem?_cons_zero]; rfl))
                              case sB154 =>
                                -- store 16
                                have n89_155 : (wo134.heap.size) ≠ (W.heap.size) := by omega
                                have n98_155 : (W.heap.size) ≠ (wo134.heap.size) := by omega
                                have hg8_155 : W.heap.size ≤ wo134.heap.size := by omega
                                have hg9_155 : W.heap.size ≤ W.heap.size := by omega
                                obtain ⟨a0_155, a1_155, a2_155, a3_155, b0_155, b1_155, b2_155, b3_155⟩ := blk4 k8_152
                                obtain ⟨c0_155, c1_155, c2_155, c3_155, d0_155, d1_155, d2_155, d3_155⟩ := blk4 k9_152
                                go_simp
                                refine hK.out _ _ ?kS156 (fun hHeld => ?kR156)
                                case kS156 => (try dsimp only); (first | go_keep | exact (⟨(Below.cell (bel4 hbo152 hg8_155 (.int .i64 (R : Nat)) (.int .i64 (E : Nat)) (.int .i64 (S : Nat)) (.int .i64 (Fl : Nat))) (p := ⟨w.heap.size + 1, 4, none⟩) hnl).trans m4, (Below.cell (bel4 hbo152 hg8_155 (.int .i64 (R : Nat)) (.int .i64 (E : Nat)) (.int .i64 (S : Nat)) (.int .i64 (Fl : Nat))) (p := ak) hal).trans y0, (Below.cell (bel4 hbo152 hg8_155 (.int .i64 (R : Nat)) (.int .i64 (E : Nat)) (.int .i64 (S : Nat)) (.int .i64 (Fl : Nat))) (p := ⟨ak.block, ak.off + 1, none⟩) hal).trans y1⟩) | exact (⟨(Below.cell (Below.alloc (bel4 hbo152 hg8_155 (.int .i64 (R : Nat)) (.int .i64 (E : Nat)) (.int .i64 (S : Nat)) (.int .i64 (Fl : Nat))) (by simp <;> omega) _) (p := ⟨w.heap.size + 1, 4, none⟩) hnl).trans m4, (Below.cell (Below.alloc (bel4 hbo152 hg8_155 (.int .i64 (R : Nat)) (.int .i64 (E : Nat)) (.int .i64 (S : Nat)) (.int .i64 (Fl : Nat))) (by simp <;> omega) _) (p := ak) hal).trans y0, (Below.cell (Below.alloc (bel4 hbo152 hg8_155 (.int .i64 (R : Nat)) (.int .i64 (E : Nat)) (.int .i64 (S : Nat)) (.int .i64 (Fl : Nat))) (by simp <;> omega) _) (p := ⟨ak.block, ak.off + 1, none⟩) hal).trans y1⟩) | exact (⟨(Below.cell (Below.alloc (Below.alloc (bel4 hbo152 hg8_155 (.int .i64 (R : Nat)) (.int .i64 (E : Nat)) (.int .i64 (S : Nat)) (.int .i64 (Fl : Nat))) (by simp <;> omega) _) (by simp <;> omega) _) (p := ⟨w.heap.size + 1, 4, none⟩) hnl).trans m4, (Below.cell (Below.alloc (Below.alloc (bel4 hbo152 hg8_155 (.int .i64 (R : Nat)) (.int .i64 (E : Nat)) (.int .i64 (S : Nat)) (.int .i64 (Fl : Nat))) (by simp <;> omega) _) (by simp <;> omega) _) (p := ak) hal).trans y0, (Below.cell (Below.alloc (Below.alloc (bel4 hbo152 hg8_155 (.int .i64 (R : Nat)) (.int .i64 (E : Nat)) (.int .i64 (S : Nat)) (.int .i64 (Fl : Nat))) (by simp <;> omega) _) (by simp <;> omega) _) (p := ⟨ak.block, ak.off + 1, none⟩) hal).trans y1⟩))
                                case kR156 =>
                                  clear hK K
                                  try simp only [Act.put, List.setIfInBounds_toArray, List.set_cons_zero, List.set_cons_succ]
                                  refine wpAnyH_ready (rs := [17]) (by kernel_rfl) (by simp) ?_
                                  refine AllReadyH.cons (o := ?sO157) ?sA157 (fun K hK => ?sB157) ?sC157
                                  case sA157 => (first | (simp only [List.getElem?_toArray, List.getElem?_cons_succ, List.getElem?_cons_zero]; done) | (simp only [List.getElem?_toArray, List.getElem?_cons_succ, List.getElem?_cons_zero]; rfl))
                                  case sB157 =>
                                    -- store 17
                                    go_simp
                                    refine hK.out _ _ ?kS159 (fun hHeld => ?kR159)
                                    case kS159 => (try dsimp only); (first | go_keep | exact (⟨(Below.cell (bel4 (bel4 hbo152 hg8_155 (.int .i64 (R : Nat)) (.int .i64 (E : Nat)) (.int .i64 (S : Nat)) (.int .i64 (Fl : Nat))) hg9_155 (.int .i64 (R' : Nat)) (.int .i64 (E' : Nat)) (.int .i64 (S' : Nat)) (.int .i64 (Fl' : Nat))) (p := ⟨w.heap.size + 1, 4, none⟩) hnl).trans m4, (Below.cell (bel4 (bel4 hbo152 hg8_155 (.int .i64 (R : Nat)) (.int .i64 (E : Nat)) (.int .i64 (S : Nat)) (.int .i64 (Fl : Nat))) hg9_155 (.int .i64 (R' : Nat)) (.int .i64 (E' : Nat)) (.int .i64 (S' : Nat)) (.int .i64 (Fl' : Nat))) (p := ak) hal).trans y0, (Below.cell (bel4 (bel4 hbo152 hg8_155 (.int .i64 (R : Nat)) (.int .i64 (E : Nat)) (.int .i64 (S : Nat)) (.int .i64 (Fl : Nat))) hg9_155 (.int .i64 (R' : Nat)) (.int .i64 (E' : Nat)) (.int .i64 (S' : Nat)) (.int .i64 (Fl' : Nat))) (p := ⟨ak.block, ak.off + 1, none⟩) hal).trans y1⟩))
                                    case kR159 =>
                                      clear hK K
                                      try simp only [Act.put, List.setIfInBounds_toArray, List.set_cons_zero, List.set_cons_succ]
                                      refine wpAnyH_done (by kernel_rfl) ?_ _
                                      refine NoPanic.normal ?_
                                      go_wp2_with fail
                                      go_meet
                                      refine ⟨_, _, rfl, rfl, ?_, ?_, ?_⟩
                                      rotate_left 2
                                      focus ((repeat (first | with_reducible assumption | ((with_reducible (refine bel4 ?_ ?_ _ _ _ _)); rotate_left; (first | omega | (simp <;> omega))) | ((with_reducible (refine Below.alloc ?_ ?_ _)); rotate_left; (first | omega | (simp <;> omega))))); done)
                                      all_goals focus ((repeat (first | with_reducible (exact Blk.new _ _ _) | with_reducible (exact Blk.new2 _ _ _ _) | with_reducible (exact newS4 _ _ _ _ _ _ _ _) | with_reducible assumption | with_reducible (refine set4 (a := .int .i64 0) (b := .int .i64 0) (c := .int .i64 0) (d := .int .i64 0) ?_ _ _ _ _) | ((with_reducible (refine far4 ?_ ?_ _ _ _ _)); rotate_left; (first | omega | (simp <;> omega))) | with_reducible (refine Blk.alloc ?_ _))); done)
                                  case sC157 =>
                                    exact AllReadyH.nil
                              case sC154 =>
                                exact AllReadyH.nil
                          case sC151 =>
                            exact AllReadyH.nil
                      case sC148 =>
                        exact AllReadyH.nil
                case sC133 =>
                  refine AllReadyH.cons (o := ?sO160) ?sA160 (fun K hK => ?sB160) ?sC160
                  case sA160 => (first | (simp only [List.getElem?_toArray, List.getElem?_cons_succ, List.getElem?_cons_zero]; done) | (simp only [List.getElem?_toArray, List.getElem?_cons_succ, List.getElem?_cons_zero]; rfl))
                  case sB160 =>
                    go_simp
                    have hbo161 : Below W.heap.size W ((W.alloc (.cells #[.int .i64 0, .int .i64 0, .int .i64 0, .int .i64 0] 49)).alloc (.cells #[.int .i64 0, .int .i64 0, .int .i64 0, .int .i64 0] 49)).drew := Below.alloc hbo131 (hbo131).size (.cells #[.int .i64 0, .int .i64 0, .int .i64 0, .int .i64 0] 49)
                    have k9_161 : Blk ((W.alloc (.cells #[.int .i64 0, .int .i64 0, .int .i64 0, .int .i64 0] 49)).alloc (.cells #[.int .i64 0, .int .i64 0, .int .i64 0, .int .i64 0] 49)).drew (W.heap.size) 49 #[.int .i64 0, .int .i64 0, .int .i64 0, .int .i64 0] := Blk.alloc k9_131 (.cells #[.int .i64 0, .int .i64 0, .int .i64 0, .int .i64 0] 49)
                    have k8_161 : Blk ((W.alloc (.cells #[.int .i64 0, .int .i64 0, .int .i64 0, .int .i64 0] 49)).alloc (.cells #[.int .i64 0, .int .i64 0, .int .i64 0, .int .i64 0] 49)).drew (W.heap.size + 1) 49 #[.int .i64 0, .int .i64 0, .int .i64 0, .int .i64 0] := blkNew (by simp)
                    refine hK.out _ _ ?kS162 (fun hHeld => ?kR162)
                    case kS162 => (try dsimp only); go_keep
                    case kR162 =>
                      clear hK K
                      try simp only [Act.put, List.setIfInBounds_toArray, List.set_cons_zero, List.set_cons_succ]
                      refine wpAnyH_ready (rs := [6]) (by kernel_rfl) (by simp) ?_
                      refine AllReadyH.cons (o := ?sO163) ?sA163 (fun K hK => ?sB163) ?sC163
                      case sA163 => (first | (simp only [List.getElem?_toArray, List.getElem?_cons_succ, List.getElem?_cons_zero]; done) | (simp only [List.getElem?_toArray, List.getElem?_cons_succ, List.getElem?_cons_zero]; rfl))
                      case sB163 =>
                        go_simp
                        go_at_call 54; refine (HK.out _ (hF2.below hbo161)).mono ?_; rintro e wo164 ⟨rfl, hwo164⟩; unfold needV
                        have hbo164 : Below W.heap.size W wo164 := Below.trans hbo161 (Below.mono hwo164 (hbo161).size)
                        have hz_164 := (hbo164).size
                        have k9_164 := Blk.call k9_161 hwo164
                        have lk9_164 := (k9_164).lt
                        have k8_164 := Blk.call k8_161 hwo164
                        have lk8_164 := (k8_164).lt
                        have s_164 : (fun w' => w'.cell? ⟨w.heap.size + 1, 4, none⟩ = some (.slice (some ak) 2 ck) ∧ w'.cell? ak = some (.int .i64 j1) ∧ w'.cell? ⟨ak.block, ak.off + 1, none⟩ = some (.int .i64 j2)) wo164 := (⟨(Below.cell hbo164 (p := ⟨w.heap.size + 1, 4, none⟩) hnl).trans m4, (Below.cell hbo164 (p := ak) hal).trans y0, (Below.cell hbo164 (p := ⟨ak.block, ak.off + 1, none⟩) hal).trans y1⟩)
                        try go_wp2_with fail
                        refine hK.out _ _ ?kS165 (fun hHeld => ?kR165)
                        case kS165 => (try dsimp only); exact s_164
                        case kR165 =>
                          clear hK K
                          try simp only [Act.put, List.setIfInBounds_toArray, List.set_cons_zero, List.set_cons_succ]
                          refine wpAnyH_ready (rs := [13]) (by kernel_rfl) (by simp) ?_
                          refine AllReadyH.cons (o := ?sO166) ?sA166 (fun K hK => ?sB166) ?sC166
                          case sA166 => (first | (simp only [List.getElem?_toArray, List.getElem?_cons_succ, List.getElem?_cons_zero]; done) | (simp only [List.getElem?_toArray, List.getElem?_cons_succ, List.getElem?_cons_zero]; rfl))
                          case sB166 =>
                            go_simp
                            go_at_call 54; refine (HK'.out _ (hF2.below hbo164)).mono ?_; rintro e wo167 ⟨rfl, hwo167⟩; unfold needV
                            have hbo167 : Below W.heap.size W wo167 := Below.trans hbo164 (Below.mono hwo167 (hbo164).size)
                            have hz_167 := (hbo167).size
                            have k9_167 := Blk.call k9_164 hwo167
                            have lk9_167 := (k9_167).lt
                            have k8_167 := Blk.call k8_164 hwo167
                            have lk8_167 := (k8_167).lt
                            have s_167 : (fun w' => w'.cell? ⟨w.heap.size + 1, 4, none⟩ = some (.slice (some ak) 2 ck) ∧ w'.cell? ak = some (.int .i64 j1) ∧ w'.cell? ⟨ak.block, ak.off + 1, none⟩ = some (.int .i64 j2)) wo167 := (⟨(Below.cell hbo167 (p := ⟨w.heap.size + 1, 4, none⟩) hnl).trans m4, (Below.cell hbo167 (p := ak) hal).trans y0, (Below.cell hbo167 (p := ⟨ak.block, ak.off + 1, none⟩) hal).trans y1⟩)
                            try go_wp2_with fail
                            refine hK.out _ _ ?kS168 (fun hHeld => ?kR168)
                            case kS168 => (try dsimp only); exact s_167
                            case kR168 =>
                              clear hK K
                              try simp only [Act.put, List.setIfInBounds_toArray, List.set_cons_zero, List.set_cons_succ]
                              refine wpAnyH_ready (rs := [16]) (by kernel_rfl) (by simp) ?_
                              refine AllReadyH.cons (o := ?sO169) ?sA169 (fun K hK => ?sB169) ?sC169
                              case sA169 => (first | (simp only [List.getElem?_toArray, List.getElem?_cons_succ, List.getElem?_cons_zero]; done) | (simp only [List.getElem?_toArray, List.getElem?_cons_succ, List.getElem?_cons_zero]; rfl))
                              case sB169 =>
                                -- store 16
                                have n89_170 : (W.heap.size + 1) ≠ (W.heap.size) := by omega
                                have n98_170 : (W.heap.size) ≠ (W.heap.size + 1) := by omega
                                have hg8_170 : W.heap.size ≤ W.heap.size + 1 := by omega
                                have hg9_170 : W.heap.size ≤ W.heap.size := by omega
                                obtain ⟨a0_170, a1_170, a2_170, a3_170, b0_170, b1_170, b2_170, b3_170⟩ := blk4 k8_167
                                obtain ⟨c0_170, c1_170, c2_170, c3_170, d0_170, d1_170, d2_170, d3_170⟩ := blk4 k9_167
                                go_simp
                                refine hK.out _ _ ?kS171 (fun hHeld => ?kR171)
                                case kS171 => (try dsimp only); (first | go_keep | exact (⟨(Below.cell (bel4 hbo167 hg8_170 (.int .i64 (R : Nat)) (.int .i64 (E : Nat)) (.int .i64 (S : Nat)) (.int .i64 (Fl : Nat))) (p := ⟨w.heap.size + 1, 4, none⟩) hnl).trans m4, (Below.cell (bel4 hbo167 hg8_170 (.int .i64 (R : Nat)) (.int .i64 (E : Nat)) (.int .i64 (S : Nat)) (.int .i64 (Fl : Nat))) (p := ak) hal).trans y0, (Below.cell (bel4 hbo167 hg8_170 (.int .i64 (R : Nat)) (.int .i64 (E : Nat)) (.int .i64 (S : Nat)) (.int .i64 (Fl : Nat))) (p := ⟨ak.block, ak.off + 1, none⟩) hal).trans y1⟩) | exact (⟨(Below.cell (Below.alloc (bel4 hbo167 hg8_170 (.int .i64 (R : Nat)) (.int .i64 (E : Nat)) (.int .i64 (S : Nat)) (.int .i64 (Fl : Nat))) (by simp <;> omega) _) (p := ⟨w.heap.size + 1, 4, none⟩) hnl).trans m4, (Below.cell (Below.alloc (bel4 hbo167 hg8_170 (.int .i64 (R : Nat)) (.int .i64 (E : Nat)) (.int .i64 (S : Nat)) (.int .i64 (Fl : Nat))) (by simp <;> omega) _) (p := ak) hal).trans y0, (Below.cell (Below.alloc (bel4 hbo167 hg8_170 (.int .i64 (R : Nat)) (.int .i64 (E : Nat)) (.int .i64 (S : Nat)) (.int .i64 (Fl : Nat))) (by simp <;> omega) _) (p := ⟨ak.block, ak.off + 1, none⟩) hal).trans y1⟩) | exact (⟨(Below.cell (Below.alloc (Below.alloc (bel4 hbo167 hg8_170 (.int .i64 (R : Nat)) (.int .i64 (E : Nat)) (.int .i64 (S : Nat)) (.int .i64 (Fl : Nat))) (by simp <;> omega) _) (by simp <;> omega) _) (p := ⟨w.heap.size + 1, 4, none⟩) hnl).trans m4, (Below.cell (Below.alloc (Below.alloc (bel4 hbo167 hg8_170 (.int .i64 (R : Nat)) (.int .i64 (E : Nat)) (.int .i64 (S : Nat)) (.int .i64 (Fl : Nat))) (by simp <;> omega) _) (by simp <;> omega) _) (p := ak) hal).trans y0, (Below.cell (Below.alloc (Below.alloc (bel4 hbo167 hg8_170 (.int .i64 (R : Nat)) (.int .i64 (E : Nat)) (.int .i64 (S : Nat)) (.int .i64 (Fl : Nat))) (by simp <;> omega) _) (by simp <;> omega) _) (p := ⟨ak.block, ak.off + 1, none⟩) hal).trans y1⟩))
                                case kR171 =>
                                  clear hK K
                                  try simp only [Act.put, List.setIfInBounds_toArray, List.set_cons_zero, List.set_cons_succ]
                                  refine wpAnyH_ready (rs := [17]) (by kernel_rfl) (by simp) ?_
                                  refine AllReadyH.cons (o := ?sO172) ?sA172 (fun K hK => ?sB172) ?sC172
                                  case sA172 => (first | (simp only [List.getElem?_toArray, List.getElem?_cons_succ, List.getElem?_cons_zero]; done) | (simp only [List.getElem?_toArray, List.getElem?_cons_succ, List.getElem?_cons_zero]; rfl))
                                  case sB172 =>
                                    -- store 17
                                    go_simp
                                    refine hK.out _ _ ?kS174 (fun hHeld => ?kR174)
                                    case kS174 => (try dsimp only); (first | go_keep | exact (⟨(Below.cell (bel4 (bel4 hbo167 hg8_170 (.int .i64 (R : Nat)) (.int .i64 (E : Nat)) (.int .i64 (S : Nat)) (.int .i64 (Fl : Nat))) hg9_170 (.int .i64 (R' : Nat)) (.int .i64 (E' : Nat)) (.int .i64 (S' : Nat)) (.int .i64 (Fl' : Nat))) (p := ⟨w.heap.size + 1, 4, none⟩) hnl).trans m4, (Below.cell (bel4 (bel4 hbo167 hg8_170 (.int .i64 (R : Nat)) (.int .i64 (E : Nat)) (.int .i64 (S : Nat)) (.int .i64 (Fl : Nat))) hg9_170 (.int .i64 (R' : Nat)) (.int .i64 (E' : Nat)) (.int .i64 (S' : Nat)) (.int .i64 (Fl' : Nat))) (p := ak) hal).trans y0, (Below.cell (bel4 (bel4 hbo167 hg8_170 (.int .i64 (R : Nat)) (.int .i64 (E : Nat)) (.int .i64 (S : Nat)) (.int .i64 (Fl : Nat))) hg9_170 (.int .i64 (R' : Nat)) (.int .i64 (E' : Nat)) (.int .i64 (S' : Nat)) (.int .i64 (Fl' : Nat))) (p := ⟨ak.block, ak.off + 1, none⟩) hal).trans y1⟩))
                                    case kR174 =>
                                      clear hK K
                                      try simp only [Act.put, List.setIfInBounds_toArray, List.set_cons_zero, List.set_cons_succ]
                                      refine wpAnyH_done (by kernel_rfl) ?_ _
                                      refine NoPanic.normal ?_
                                      go_wp2_with fail
                                      go_meet
                                      refine ⟨_, _, rfl, rfl, ?_, ?_, ?_⟩
                                      rotate_left 2
                                      focus ((repeat (first | with_reducible assumption | ((with_reducible (refine bel4 ?_ ?_ _ _ _ _)); rotate_left; (first | omega | (simp <;> omega))) | ((with_reducible (refine Below.alloc ?_ ?_ _)); rotate_left; (first | omega | (simp <;> omega))))); done)
                                      all_goals focus ((repeat (first | with_reducible (exact Blk.new _ _ _) | with_reducible (exact Blk.new2 _ _ _ _) | with_reducible (exact newS4 _ _ _ _ _ _ _ _) | with_reducible assumption | with_reducible (refine set4 (a := .int .i64 0) (b := .int .i64 0) (c := .int .i64 0) (d := .int .i64 0) ?_ _ _ _ _) | ((with_reducible (refine far4 ?_ ?_ _ _ _ _)); rotate_left; (first | omega | (simp <;> omega))) | with_reducible (refine Blk.alloc ?_ _))); done)
                                  case sC172 =>
                                    exact AllReadyH.nil
                              case sC169 =>
                                exact AllReadyH.nil
                          case sC166 =>
                            exact AllReadyH.nil
                      case sC163 =>
                        exact AllReadyH.nil
                  case sC160 =>
                    exact AllReadyH.nil
            case sC130 =>
              exact AllReadyH.nil
    case rest =>
      obtain ⟨g8, g9, rfl, rfl, hk8, hk9, hbc⟩ := hcut
      have hbw := hb2.trans (hbc.mono hb2.size)
      have hR6 := (HBr.out.call hbc)
      obtain ⟨a0, a1, a2, a3, _, _, _, _⟩ := blk4 hk8
      obtain ⟨d0, d1, d2, d3, _, _, _, _⟩ := blk4 hk9
      obtain ⟨r0, r1, r2, r3, rf0, rf1, rf2, rf3⟩ := blk4 hR6
      obtain ⟨NR, hNR⟩ : ∃ x, R + R' = x := ⟨_, rfl⟩
      obtain ⟨NE, hNE⟩ : ∃ x, max E E' = x := ⟨_, rfl⟩
      obtain ⟨NS, hNS⟩ : ∃ x, S + S' = x := ⟨_, rfl⟩
      obtain ⟨NF, hNF⟩ : ∃ x, max Fl Fl' = x := ⟨_, rfl⟩
      have wR : IntKind.i64.wrap ((R : Int) + (R' : Int)) = (NR : Int) := by rw [show (R : Int) + (R' : Int) = (NR : Int) by omega]; exact wrap_i (by omega) (by omega)
      have wS : IntKind.i64.wrap ((S : Int) + (S' : Int)) = (NS : Int) := by rw [show (S : Int) + (S' : Int) = (NS : Int) by omega]; exact wrap_i (by omega) (by omega)
      have wE : max (E : Int) (E' : Int) = (NE : Int) := by omega
      have wF : max (Fl : Int) (Fl' : Int) = (NF : Int) := by omega
      have HNR := Lib.hid hNR
      have HNE := Lib.hid hNE
      have HNS := Lib.hid hNS
      have HNF := Lib.hid hNF
      clear hNR hNE hNS hNF hz2
      go_wp2_with fail
      obtain ⟨q0, q1, q2, q3, _, _, _, _⟩ := blk4 (set4 hR6 (.int .i64 (NR : Nat)) (.int .i64 (NE : Nat)) (.int .i64 (NS : Nat)) (.int .i64 (NF : Nat)))
      exact bodyPost_ret (v := needV NR NE NS NF) (by simp [results, Tryz.results54, go_sem, needV, q0, q1, q2, q3]) rfl ⟨by rw [← HNR.out, ← HNE.out, ← HNS.out, ← HNF.out], bel4 hbw (Nat.le_refl _) _ _ _ _⟩
end Go.Proofs.YtdohbbjinbofbaaGreat
