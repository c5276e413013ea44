/- The walk of stay's closure. -/
import Derived.Test.YtdohbbjinbofbaaGreatBoundS
import Derived.Test.YtdohbbjinbofbaaGreatBoundI
set_option linter.unusedVariables false
set_option linter.unusedSimpArgs false
/-! The walk of stay's closure. -/
namespace Go.Proofs.YtdohbbjinbofbaaGreat
open Go.RowKit
theorem cell_other {w : World} {p a : Addr} {u v : Value} (h : p.block ≠ a.block) (hc : w.cell? a = some v) : (w.setCell p u).cell? a = some v := by rw [World.cell?_setCell_other (h := fun e => h (congrArg Addr.block e)), hc]
set_option maxRecDepth 100000 in
set_option maxHeartbeats 4000000 in
/-- The closure of stay at one node. -/
theorem stayF_w {w : World} (x : Tr) (g gv gr n : Nat) (vs : List Nat) (hA : AtB w g gv n vs) (room : Int) (hRm : Blk w gr 3 #[.int .i64 room]) (C : Nat) (hC : min (max room 1) 4096 = (C : Int)) (hn : n ≤ 1000) (i : Nat) (hi : i < n) (ps : List Nat) (hp : ∀ p ∈ ps, p < n) (hv : ∀ v ∈ vs, v ≤ 1099511627776) (hm : matchS x.root.kind = true → stepsM x ≤ 1000 ∧ testsM x ≤ 1000 ∧ spanS x.root.lo x.root.hi = true)
    (s : ByteArray) (Ak : Option Addr) (kl ck : Nat) (P : Option Addr) (pc : Nat) (Bl : Option Addr) (bn bc : Nat) (hR : Rd (heapF w) 1 Bl bn ((zs ps).map encI)) (hbn : bn ≤ 1000) (S : Nat) (hS : sumL (ps.map fun k => vs.getD k 0) = S) (Z : Nat) (hZ : S + stayO C x = Z) :
    Calls Tryz.prog 88 (#[.int .i64 i, .agg #[.int .i64 x.root.kind, .string s, .int .i64 x.root.lo, .int .i64 x.root.hi, .slice Ak kl ck], .agg #[.int .i64 (stepsM x : Nat), .int .i64 (testsM x : Nat), .slice P (testsM x) pc], .slice Bl bn bc] ++ #[.pointer (some ⟨gv, 0, none⟩), .pointer (some ⟨gr, 0, none⟩)]) w fun e w' => e = .returned (encU 0) ∧ AtB w' g gv n (vs.set i Z) ∧ Blk w' gr 3 #[.int .i64 room] ∧ ∀ B, B ≤ g → B ≤ w.heap.size → Below B w w' := by
  have hM := fun X => match_w x.root.kind s x.root.lo x.root.hi Ak kl ck X (matchS x.root.kind) rfl
  have hMem := fun (h1 : stepsM x ≤ 1000) (h2 : testsM x ≤ 1000) (X : World) => rmemo_w (stepsM x) (testsM x) h1 h2 P (testsM x) pc room C hC X
  have hWd := fun (h1 : stepsM x ≤ 1000) (X : World) => rwide_w (stepsM x) (testsM x) h1 P (testsM x) pc X
  have hIv := fun hs X => wide_w x.root hs X
  have hWb := fun hs => (wideN_of (h := x.root) hs).2.1
  unfold stayO at hZ
  generalize x.root = R at *
  generalize stepsM x = M at *
  generalize testsM x = N at *
  obtain ⟨kind, name, lo, hi', kk⟩ := R
  dsimp only at *
  obtain ⟨Wd, hWdn⟩ : ∃ Wd, wideN ⟨kind, name, lo, hi', kk⟩ = Wd := ⟨_, rfl⟩
  rw [hWdn] at hZ hIv hWb
  obtain ⟨mb, hmb⟩ : ∃ mb, matchS kind = mb := ⟨_, rfl⟩
  rw [hmb] at hM hm hZ
  have hgr : gr ≠ g := hRm.ne_ hA.at_ (by decide)
  have hb2 : Below w.heap.size w ((w.alloc (.cells #[.int .i64 kind, .string s, .int .i64 lo, .int .i64 hi', .slice Ak kl ck] 45)).alloc (.cells #[.int .i64 (M : Nat), .int .i64 (N : Nat), .slice P N pc] 75)) := (balloc w _).alloc (by simp) _
  have hBN := (Blk.new w 45 #[.int .i64 kind, .string s, .int .i64 lo, .int .i64 hi', .slice Ak kl ck]).alloc (.cells #[.int .i64 (M : Nat), .int .i64 (N : Nat), .slice P N pc] 75)
  have hBR := Blk.new2 w (.cells #[.int .i64 kind, .string s, .int .i64 lo, .int .i64 hi', .slice Ak kl ck] 45) 75 #[.int .i64 (M : Nat), .int .i64 (N : Nat), .slice P N pc]
  have hA2 := hA.call hb2
  have hRm2 := hRm.call hb2
  have hR2 := hR.cle (cle_below hb2)
  have hlw := hA.at_.lt
  have hlg : g < w.heap.size := hlw
  have hvb : S ≤ bn * 1099511627776 := by
    rw [← hS]
    refine Nat.le_trans (sumL_le 1099511627776 _ ?_) ?_
    · intro y hy
      obtain ⟨k, hk, rfl⟩ := List.mem_map.1 hy
      have hkn := hp k hk
      rw [List.getD, List.getElem?_eq_getElem (by rw [hA.len]; exact hkn)]
      exact hv _ (List.getElem_mem _)
    · rw [List.length_map]
      have := hR.1
      simp [zs] at this
      omega
  have hSb : S ≤ 1099511627776000 := by omega
  have HM := Lib.hid hM
  have hsums := fun (X : World) (h : Sat (heapF ((w.alloc (.cells #[.int .i64 kind, .string s, .int .i64 lo, .int .i64 hi', .slice Ak kl ck] 45)).alloc (.cells #[.int .i64 (M : Nat), .int .i64 (N : Nat), .slice P N pc] 75))) X) => sums_w h vs ps (some ⟨g, 0, none⟩) Bl n bn n bc (by have := rd_blk hA2.at_; rw [List.length_map, hA.len] at this; exact this) hR2 hp hv hbn
  rw [hS] at hsums
  have HSU := Lib.hid hsums
  have hiI : (i : Int) < (n : Int) := by omega
  have hil : i < vs.length := by rw [hA.len]; exact hi
  have HMB := Lib.hid hmb
  have HME := Lib.hid hMem
  have HWI := Lib.hid hWd
  have HIV := Lib.hid hIv
  have HWB := Lib.hid hWb
  have Hm := Lib.hid hm
  have HZ := Lib.hid hZ
  clear hM hS hsums hA hR hp hv hvb hR2 hmb hMem hWd hIv hWb hm hZ hRm hWdn
  go_enter Tryz.func88, Tryz.ntmps88
  go_wp2_with fail
  generalize ((w.alloc (.cells #[.int .i64 kind, .string s, .int .i64 lo, .int .i64 hi', .slice Ak kl ck] 45)).alloc (.cells #[.int .i64 (M : Nat), .int .i64 (N : Nat), .slice P N pc] 75)) = W at *
  obtain ⟨m0, m1, m2, m3, m4⟩ := blk5 hBN
  obtain ⟨v0, v1⟩ := blk1 hA2.var
  obtain ⟨a0, a1⟩ := blkU_cell hA2.at_ hil
  go_cut [10] from 11 to 18 (fun _ wx => ∃ q, wx = (W.setCell ⟨g, i, none⟩ (encU S)).drewN q)
  case first =>
    go_region_with (go_at_call 50; refine (HSU.out _ (by exact sat_heapF W)).mono ?_; rintro e w3 ⟨rfl, q3, rfl⟩)
    all_goals
      go_wp2_with fail
      go_meet
      exact ⟨_, rfl⟩
  case rest =>
    obtain ⟨q, hW1⟩ := hcut
    have hA3 : AtB wc g gv n (vs.set i S) := hW1 ▸ (hA2.set i S).drewN q
    have hB3 : Blk wc w.heap.size 45 #[.int .i64 kind, .string s, .int .i64 lo, .int .i64 hi', .slice Ak kl ck] := hW1 ▸ (hBN.far (p := ⟨g, i, none⟩) (by show w.heap.size ≠ g; omega) (encU S)).drewN q
    have hR3 : Blk wc (w.heap.size + 1) 75 #[.int .i64 (M : Nat), .int .i64 (N : Nat), .slice P N pc] := hW1 ▸ (hBR.far (p := ⟨g, i, none⟩) (by show w.heap.size + 1 ≠ g; omega) (encU S)).drewN q
    have hG3 : Blk wc gr 3 #[.int .i64 room] := hW1 ▸ (hRm2.far (p := ⟨g, i, none⟩) hgr (encU S)).drewN q
    have hb3 : ∀ B, B ≤ g → B ≤ w.heap.size → Below B w wc := fun B h1 h2 => hW1 ▸ below_drewN ((hb2.mono h2).setCell (p := ⟨g, i, none⟩) h1 (encU S)) q
    have hil3 : i < (vs.set i S).length := by rw [List.length_set]; exact hil
    have hself : (vs.set i S)[i]'hil3 = S := by simp
    have hss : ∀ y, (vs.set i S).set i y = vs.set i y := fun y => by rw [List.set_set]
    have hsz3 : w.heap.size ≤ wc.heap.size := (hb3 0 (Nat.zero_le _) (Nat.zero_le _)).size
    clear hA2 hBN hBR hRm2 m0 m1 m2 m3 m4 v0 v1 a0 a1 hW1 HSU hb2
    obtain ⟨m0, m1, m2, m3, m4⟩ := blk5 hB3
    cases mb with
    | false =>
      have h16 : ¬ kind = 16 := fun e => by have := HMB.out; rw [matchS_iff.2 (.inl e)] at this; cases this
      have h16b : (kind == 16) = false := by rw [beq_eq_false_iff_ne]; exact h16
      have hz := HZ.out
      rw [if_neg h16] at hz
      simp at hz
      subst hz
      clear h16
      go_wp2_with (go_at_call 82; refine (HM.out _).mono ?_; rintro e w4 ⟨rfl, hw4⟩; have hA4 := hA3.call hw4; have hG4 := hG3.call hw4; obtain ⟨m0, m1, m2, m3, m4⟩ := blk5 (hB3.call hw4))
      go_ret
      exact ⟨rfl, hA4, hG4, fun B h1 h2 => (hb3 B h1 h2).trans (hw4.mono (by omega))⟩
    | true =>
      obtain ⟨hMb, hNb, hsp⟩ := Hm.out rfl
      have hMem := HME.out hMb hNb
      have hWw := HWI.out hMb
      have hIv := HIV.out hsp
      have hWb := HWB.out hsp
      have hz := HZ.out
      rw [if_pos rfl] at hz
      obtain ⟨MM, hMM⟩ : ∃ MM, C * (2 * (M / 64 + 1) + (N + 63) / 64 + 1) = MM := ⟨_, rfl⟩
      have hMMb : MM ≤ 1000000 := by
        rw [← hMM]
        exact Nat.le_trans (Nat.mul_le_mul (show C ≤ 4096 by omega) (show 2 * (M / 64 + 1) + (N + 63) / 64 + 1 ≤ 100 by omega)) (by omega)
      rw [hMM] at hMem hz
      obtain ⟨WW, hWW⟩ : ∃ WW, M / 64 + 1 = WW := ⟨_, rfl⟩
      rw [hWW] at hWw hz
      obtain ⟨W1, hW1⟩ : ∃ W1, 1 + WW = W1 := ⟨_, rfl⟩
      have hW1b : W1 ≤ 100 := by omega
      rw [hW1] at hz
      obtain ⟨WO, hWO⟩ : ∃ WO, Wd * W1 = WO := ⟨_, rfl⟩
      have hWOb : WO ≤ 1000000 := by rw [← hWO]; exact Nat.le_trans (Nat.mul_le_mul hWb hW1b) (by omega)
      rw [hWO] at hz
      obtain ⟨S2, hS2⟩ : ∃ S2, S + MM = S2 := ⟨_, rfl⟩
      rw [← Nat.add_assoc, hS2] at hz
      have wM : IntKind.u64.wrap ((S : Int) + (MM : Int)) = (S2 : Int) := by rw [show (S : Int) + (MM : Int) = (S2 : Int) by omega]; exact wrap_u (by omega) (by omega)
      have wA : IntKind.u64.wrap (Wd : Int) = (Wd : Int) := wrap_u (by omega) (by omega)
      have wB : IntKind.u64.wrap (1 + (WW : Int)) = (W1 : Int) := by rw [show 1 + (WW : Int) = (W1 : Int) by omega]; exact wrap_u (by omega) (by omega)
      have wC : IntKind.u64.wrap ((Wd : Int) * (W1 : Int)) = (WO : Int) := by rw [show (Wd : Int) * (W1 : Int) = ((Wd * W1 : Nat) : Int) by rw [Int.natCast_mul], hWO]; exact wrap_u (by omega) (by omega)
      have HS2 : S2 ≤ 2000000000000000 := by omega
      have HMe := Lib.hid hMem
      have HWw := Lib.hid hWw
      have HIv := Lib.hid hIv
      have HZ2 := Lib.hid hz
      clear hMem hWw hIv hz hMM hWW hW1 hWO hS2 HZ HME HWI HIV HWB Hm hMb hNb hsp hWb hMMb hW1b hC
      go_wp2_with (go_at_call 82; refine (HM.out _).mono ?_; rintro e w4 ⟨rfl, hw4⟩)
      have hA4 := hA3.call hw4
      have hB4 := hB3.call hw4
      have hR4 := hR3.call hw4
      have hG4 := hG3.call hw4
      have hb4 := fun B h1 h2 => (hb3 B h1 h2).trans (hw4.mono (by have := hsz3; omega))
      have hsz4 : w.heap.size ≤ w4.heap.size := Nat.le_trans hsz3 hw4.size
      clear hA3 hB3 hR3 hG3 m0 m1 m2 m3 m4 hb3 hsz3 hw4
      obtain ⟨v0, v1⟩ := blk1 hA4.var
      obtain ⟨a0, a1⟩ := blkU_cell hA4.at_ hil3
      rw [hself] at a0
      obtain ⟨p0, p1, p2, _, _, _⟩ := blk3 hR4
      obtain ⟨g0, _⟩ := blk1 hG4
      go_cut [10] from 22 to 30 (fun _ wx => AtB wx g gv n (vs.set i S2) ∧ Blk wx w.heap.size 45 #[.int .i64 kind, .string s, .int .i64 lo, .int .i64 hi', .slice Ak kl ck] ∧ Blk wx (w.heap.size + 1) 75 #[.int .i64 (M : Nat), .int .i64 (N : Nat), .slice P N pc] ∧ Blk wx gr 3 #[.int .i64 room] ∧ w.heap.size ≤ wx.heap.size ∧ ∀ B, B ≤ g → B ≤ w.heap.size → Below B w wx)
      case first =>
        have hgv4 := hA4.var.lt
        have hgr4 := hG4.lt
        have hrr4 := hR4.lt
        have n0 : g ≠ gv := hA4.ne.symm
        have n1 : g ≠ w.heap.size + 1 := by omega
        have n2 : g ≠ gr := hgr.symm
        clear HMB HM HWw HIv HZ2
        refine wp_region_noPanic ?_
        refine wp_region_held_drew (S := (fun w' => w'.cell? ⟨gv, 0, none⟩ = some (.slice (some ⟨g, 0, none⟩) n n) ∧ w'.cell? ⟨w.heap.size + 1, 0, none⟩ = some (.int .i64 (M : Nat)) ∧ w'.cell? ⟨w.heap.size + 1, 1, none⟩ = some (.int .i64 (N : Nat)) ∧ w'.cell? ⟨w.heap.size + 1, 2, none⟩ = some (.slice P N pc) ∧ w'.cell? ⟨gr, 0, none⟩ = some (.int .i64 room))) (by kernel_rfl) ?hS0 (fun hHeld => ?hR0)
        case hS0 => (try dsimp only); go_keep
        case hR0 =>
          refine wpAnyH_take (i := 0) (oi := ?tO1) (v := ?tV1) ?tA1 (by kernel_rfl) (by kernel_rfl) (by kernel_rfl) (fun _ _ _ h => h) (Or.inl ⟨?tB1, ?tC1⟩) (by assumption) ?tD1
          case tA1 => (first | (simp only [List.getElem?_toArray, List.getElem?_cons_succ, List.getElem?_cons_zero]; done) | (simp only [List.getElem?_toArray, List.getElem?_cons_succ, List.getElem?_cons_zero]; rfl))
          case tB1 => rfl
          case tC1 => (intro w hSw; (try dsimp only at hSw); go_simp; try with_reducible rfl)
          try simp only [Act.put, List.setIfInBounds_toArray, List.set_cons_zero, List.set_cons_succ]
          refine wpAnyH_take (i := 1) (oi := ?tO2) (v := ?tV2) ?tA2 (by kernel_rfl) (by kernel_rfl) (by kernel_rfl) (fun _ _ _ h => h) (Or.inl ⟨?tB2, ?tC2⟩) (by assumption) ?tD2
          case tA2 => (first | (simp only [List.getElem?_toArray, List.getElem?_cons_succ, List.getElem?_cons_zero]; done) | (simp only [List.getElem?_toArray, List.getElem?_cons_succ, List.getElem?_cons_zero]; rfl))
          case tB2 => rfl
          case tC2 => (intro w hSw; (try dsimp only at hSw); go_simp; try with_reducible rfl)
          try simp only [Act.put, List.setIfInBounds_toArray, List.set_cons_zero, List.set_cons_succ]
          refine wpAnyH_take (i := 2) (oi := ?tO3) (v := ?tV3) ?tA3 (by kernel_rfl) (by kernel_rfl) (by kernel_rfl) (fun _ _ _ h => h) (Or.inl ⟨?tB3, ?tC3⟩) (by assumption) ?tD3
          case tA3 => (first | (simp only [List.getElem?_toArray, List.getElem?_cons_succ, List.getElem?_cons_zero]; done) | (simp only [List.getElem?_toArray, List.getElem?_cons_succ, List.getElem?_cons_zero]; rfl))
          case tB3 => rfl
          case tC3 => (intro w hSw; (try dsimp only at hSw); go_simp; try with_reducible rfl)
          try simp only [Act.put, List.setIfInBounds_toArray, List.set_cons_zero, List.set_cons_succ]
          refine wpAnyH_take (i := 4) (oi := ?tO4) (v := ?tV4) ?tA4 (by kernel_rfl) (by kernel_rfl) (by kernel_rfl) (fun _ _ _ h => h) (Or.inl ⟨?tB4, ?tC4⟩) (by assumption) ?tD4
          case tA4 => (first | (simp only [List.getElem?_toArray, List.getElem?_cons_succ, List.getElem?_cons_zero]; done) | (simp only [List.getElem?_toArray, List.getElem?_cons_succ, List.getElem?_cons_zero]; rfl))
          case tB4 => rfl
          case tC4 => (intro w hSw; (try dsimp only at hSw); go_simp; try with_reducible rfl)
          try simp only [Act.put, List.setIfInBounds_toArray, List.set_cons_zero, List.set_cons_succ]
          refine wpAnyH_take (i := 5) (oi := ?tO5) (v := ?tV5) ?tA5 (by kernel_rfl) (by kernel_rfl) (by kernel_rfl) (fun _ _ _ h => h) (Or.inl ⟨?tB5, ?tC5⟩) (by assumption) ?tD5
          case tA5 => (first | (simp only [List.getElem?_toArray, List.getElem?_cons_succ, List.getElem?_cons_zero]; done) | (simp only [List.getElem?_toArray, List.getElem?_cons_succ, List.getElem?_cons_zero]; rfl))
          case tB5 => rfl
          case tC5 => (intro w hSw; (try dsimp only at hSw); go_simp; try with_reducible rfl)
          try simp only [Act.put, List.setIfInBounds_toArray, List.set_cons_zero, List.set_cons_succ]
          refine wpAnyH_ready (rs := [3, 6]) (by kernel_rfl) (by simp) ?_
          refine AllReadyH.cons (o := ?sO1) ?sA1 (fun K hK => ?sB1) ?sC1
          case sA1 => simp only [List.getElem?_toArray, List.getElem?_cons_succ, List.getElem?_cons_zero]; rfl
          case sB1 =>
            go_simp
            refine hK.out _ _ ?kS2 (fun hHeld => ?kR2)
            case kS2 => (try dsimp only); go_keep
            case kR2 =>
              clear hK K
              try simp only [Act.put, List.setIfInBounds_toArray, List.set_cons_zero, List.set_cons_succ]
              refine wpAnyH_ready (rs := [6]) (by kernel_rfl) (by simp) ?_
              refine AllReadyH.cons (o := ?sO3) ?sA3 (fun K hK => ?sB3) ?sC3
              case sA3 => simp only [List.getElem?_toArray, List.getElem?_cons_succ, List.getElem?_cons_zero]; rfl
              case sB3 =>
                go_simp
                go_at_call 89; refine (HMe.out _).mono ?_; rintro e w5 ⟨rfl, hw5⟩; have hz : Below w4.heap.size w4 w5 := (by first | exact hw5 | exact ⟨hw5.os, hw5.tape, hw5.output, hw5.size, hw5.block⟩); have s0 := (hz.cell (p := ⟨gv, 0, none⟩) hgv4).trans v0; have s1 := (hz.cell (p := ⟨w.heap.size + 1, 0, none⟩) hrr4).trans p0; have s2 := (hz.cell (p := ⟨w.heap.size + 1, 1, none⟩) hrr4).trans p1; have s3 := (hz.cell (p := ⟨w.heap.size + 1, 2, none⟩) hrr4).trans p2; have s4 := (hz.cell (p := ⟨gr, 0, none⟩) hgr4).trans g0; have a2 := (hz.cell (p := ⟨g, i, none⟩) hA4.at_.lt).trans a0; have a3 := (hA4.call hz).at_.frozen i
                try go_wp2_with fail
                refine hK.out _ _ ?kS4 (fun hHeld => ?kR4)
                case kS4 => (try dsimp only); go_keep
                case kR4 =>
                  clear hK K
                  try simp only [Act.put, List.setIfInBounds_toArray, List.set_cons_zero, List.set_cons_succ]
                  refine wpAnyH_take (i := 7) (oi := ?tO6) (v := ?tV6) ?tA6 (by kernel_rfl) (by kernel_rfl) (by kernel_rfl) (fun _ _ _ h => h) (Or.inl ⟨?tB6, ?tC6⟩) (by assumption) ?tD6
                  case tA6 => (first | (simp only [List.getElem?_toArray, List.getElem?_cons_succ, List.getElem?_cons_zero]; done) | (simp only [List.getElem?_toArray, List.getElem?_cons_succ, List.getElem?_cons_zero]; rfl))
                  case tB6 => rfl
                  case tC6 => (intro w hSw; (try dsimp only at hSw); go_simp; try with_reducible rfl)
                  try simp only [Act.put, List.setIfInBounds_toArray, List.set_cons_zero, List.set_cons_succ]
                  refine wpAnyH_take (i := 8) (oi := ?tO7) (v := ?tV7) ?tA7 (by kernel_rfl) (by kernel_rfl) (by kernel_rfl) (fun _ _ _ h => h) (Or.inl ⟨?tB7, ?tC7⟩) (by assumption) ?tD7
                  case tA7 => (first | (simp only [List.getElem?_toArray, List.getElem?_cons_succ, List.getElem?_cons_zero]; done) | (simp only [List.getElem?_toArray, List.getElem?_cons_succ, List.getElem?_cons_zero]; rfl))
                  case tB7 => rfl
                  case tC7 => (intro w hSw; (try dsimp only at hSw); go_simp; try with_reducible rfl)
                  try simp only [Act.put, List.setIfInBounds_toArray, List.set_cons_zero, List.set_cons_succ]
                  refine wpAnyH_ready (rs := [9]) (by kernel_rfl) (by simp) ?_
                  refine AllReadyH.cons (o := ?sO5) ?sA5 (fun K hK => ?sB5) ?sC5
                  case sA5 => simp only [List.getElem?_toArray, List.getElem?_cons_succ, List.getElem?_cons_zero]; rfl
                  case sB5 =>
                    go_simp
                    refine hK.out _ _ ?kS6 (fun hHeld => ?kR6)
                    case kS6 => (try dsimp only); exact ⟨cell_other n0 s0, cell_other n1 s1, cell_other n1 s2, cell_other n1 s3, cell_other n2 s4⟩
                    case kR6 =>
                      clear hK K
                      try simp only [Act.put, List.setIfInBounds_toArray, List.set_cons_zero, List.set_cons_succ]
                      refine wpAnyH_done (by kernel_rfl) ?_ _
                      refine NoPanic.normal ?_
                      have hA5 := (hA4.call hz).set i S2
                      rw [hss] at hA5
                      go_wp2_with fail
                      go_meet
                      exact ⟨hA5, (hB4.call hz).far (p := ⟨g, i, none⟩) (by show w.heap.size ≠ g; omega) _, (hR4.call hz).far (p := ⟨g, i, none⟩) (by show w.heap.size + 1 ≠ g; omega) _, (hG4.call hz).far (p := ⟨g, i, none⟩) hgr _, by rw [size_setCell]; exact Nat.le_trans hsz4 hz.size, fun B h1 h2 => ((hb4 B h1 h2).trans (hz.mono (by omega))).setCell (p := ⟨g, i, none⟩) h1 _⟩
                  case sC5 =>
                    exact AllReadyH.nil
              case sC3 =>
                exact AllReadyH.nil
          case sC1 =>
            refine AllReadyH.cons (o := ?sO7) ?sA7 (fun K hK => ?sB7) ?sC7
            case sA7 => simp only [List.getElem?_toArray, List.getElem?_cons_succ, List.getElem?_cons_zero]; rfl
            case sB7 =>
              go_simp
              go_at_call 89; refine (HMe.out _).mono ?_; rintro e w5 ⟨rfl, hw5⟩; have hz : Below w4.heap.size w4 w5 := (by first | exact hw5 | exact ⟨hw5.os, hw5.tape, hw5.output, hw5.size, hw5.block⟩); have s0 := (hz.cell (p := ⟨gv, 0, none⟩) hgv4).trans v0; have s1 := (hz.cell (p := ⟨w.heap.size + 1, 0, none⟩) hrr4).trans p0; have s2 := (hz.cell (p := ⟨w.heap.size + 1, 1, none⟩) hrr4).trans p1; have s3 := (hz.cell (p := ⟨w.heap.size + 1, 2, none⟩) hrr4).trans p2; have s4 := (hz.cell (p := ⟨gr, 0, none⟩) hgr4).trans g0; have a2 := (hz.cell (p := ⟨g, i, none⟩) hA4.at_.lt).trans a0; have a3 := (hA4.call hz).at_.frozen i
              try go_wp2_with fail
              refine hK.out _ _ ?kS8 (fun hHeld => ?kR8)
              case kS8 => (try dsimp only); go_keep
              case kR8 =>
                clear hK K
                try simp only [Act.put, List.setIfInBounds_toArray, List.set_cons_zero, List.set_cons_succ]
                refine wpAnyH_ready (rs := [3]) (by kernel_rfl) (by simp) ?_
                refine AllReadyH.cons (o := ?sO9) ?sA9 (fun K hK => ?sB9) ?sC9
                case sA9 => simp only [List.getElem?_toArray, List.getElem?_cons_succ, List.getElem?_cons_zero]; rfl
                case sB9 =>
                  go_simp
                  refine hK.out _ _ ?kS10 (fun hHeld => ?kR10)
                  case kS10 => (try dsimp only); go_keep
                  case kR10 =>
                    clear hK K
                    try simp only [Act.put, List.setIfInBounds_toArray, List.set_cons_zero, List.set_cons_succ]
                    refine wpAnyH_take (i := 7) (oi := ?tO8) (v := ?tV8) ?tA8 (by kernel_rfl) (by kernel_rfl) (by kernel_rfl) (fun _ _ _ h => h) (Or.inl ⟨?tB8, ?tC8⟩) (by assumption) ?tD8
                    case tA8 => (first | (simp only [List.getElem?_toArray, List.getElem?_cons_succ, List.getElem?_cons_zero]; done) | (simp only [List.getElem?_toArray, List.getElem?_cons_succ, List.getElem?_cons_zero]; rfl))
                    case tB8 => rfl
                    case tC8 => (intro w hSw; (try dsimp only at hSw); go_simp; try with_reducible rfl)
                    try simp only [Act.put, List.setIfInBounds_toArray, List.set_cons_zero, List.set_cons_succ]
                    refine wpAnyH_take (i := 8) (oi := ?tO9) (v := ?tV9) ?tA9 (by kernel_rfl) (by kernel_rfl) (by kernel_rfl) (fun _ _ _ h => h) (Or.inl ⟨?tB9, ?tC9⟩) (by assumption) ?tD9
                    case tA9 => (first | (simp only [List.getElem?_toArray, List.getElem?_cons_succ, List.getElem?_cons_zero]; done) | (simp only [List.getElem?_toArray, List.getElem?_cons_succ, List.getElem?_cons_zero]; rfl))
                    case tB9 => rfl
                    case tC9 => (intro w hSw; (try dsimp only at hSw); go_simp; try with_reducible rfl)
                    try simp only [Act.put, List.setIfInBounds_toArray, List.set_cons_zero, List.set_cons_succ]
                    refine wpAnyH_ready (rs := [9]) (by kernel_rfl) (by simp) ?_
                    refine AllReadyH.cons (o := ?sO11) ?sA11 (fun K hK => ?sB11) ?sC11
                    case sA11 => simp only [List.getElem?_toArray, List.getElem?_cons_succ, List.getElem?_cons_zero]; rfl
                    case sB11 =>
                      go_simp
                      refine hK.out _ _ ?kS12 (fun hHeld => ?kR12)
                      case kS12 => (try dsimp only); exact ⟨cell_other n0 s0, cell_other n1 s1, cell_other n1 s2, cell_other n1 s3, cell_other n2 s4⟩
                      case kR12 =>
                        clear hK K
                        try simp only [Act.put, List.setIfInBounds_toArray, List.set_cons_zero, List.set_cons_succ]
                        refine wpAnyH_done (by kernel_rfl) ?_ _
                        refine NoPanic.normal ?_
                        have hA5 := (hA4.call hz).set i S2
                        rw [hss] at hA5
                        go_wp2_with fail
                        go_meet
                        exact ⟨hA5, (hB4.call hz).far (p := ⟨g, i, none⟩) (by show w.heap.size ≠ g; omega) _, (hR4.call hz).far (p := ⟨g, i, none⟩) (by show w.heap.size + 1 ≠ g; omega) _, (hG4.call hz).far (p := ⟨g, i, none⟩) hgr _, by rw [size_setCell]; exact Nat.le_trans hsz4 hz.size, fun B h1 h2 => ((hb4 B h1 h2).trans (hz.mono (by omega))).setCell (p := ⟨g, i, none⟩) h1 _⟩
                    case sC11 =>
                      exact AllReadyH.nil
                case sC9 =>
                  exact AllReadyH.nil
            case sC7 =>
              exact AllReadyH.nil
      case rest =>
        obtain ⟨hA5, hB5, hR5, hG5, hsz5, hb5⟩ := hcut
        clear hA4 hB4 hR4 hG4 hb4 hsz4 v0 v1 a0 a1 p0 p1 p2 g0
        obtain ⟨m0, m1, m2, m3, m4⟩ := blk5 hB5
        by_cases h16 : kind = 16
        · subst h16
          have hz := HZ2.out
          rw [if_pos rfl] at hz
          have wD : IntKind.u64.wrap ((S2 : Int) + (WO : Int)) = (Z : Int) := by rw [show (S2 : Int) + (WO : Int) = (Z : Int) by omega]; exact wrap_u (by omega) (by omega)
          have hil5 : i < (vs.set i S2).length := by rw [List.length_set]; exact hil
          have hself5 : (vs.set i S2)[i]'hil5 = S2 := by simp
          have hss5 : ∀ y, (vs.set i S2).set i y = vs.set i y := fun y => by rw [List.set_set]
          obtain ⟨v0, v1⟩ := blk1 hA5.var
          obtain ⟨a0, a1⟩ := blkU_cell hA5.at_ hil5
          rw [hself5] at a0
          obtain ⟨p0, p1, p2, _, _, _⟩ := blk3 hR5
          clear hz HZ2 HMe HM HMB hself hss hil3 wM
          go_wp2_with fail
          go_cut [10] from 34 to 47 (fun _ wx => AtB wx g gv n (vs.set i Z) ∧ Blk wx gr 3 #[.int .i64 room] ∧ ∀ B, B ≤ g → B ≤ w.heap.size → Below B w wx)
          case first =>
            have hgv5 := hA5.var.lt
            have hrr5 := hR5.lt
            have hbb5 := hB5.lt
            have hgg5 := hA5.at_.lt
            have n0 : g ≠ gv := hA5.ne.symm
            have n1 : g ≠ w.heap.size + 1 := by omega
            have n2 : g ≠ w.heap.size := by omega
            clear m0 m1 m4
            refine wp_region_noPanic ?_
            refine wp_region_held_drew (S := (fun w' => w'.cell? ⟨gv, 0, none⟩ = some (.slice (some ⟨g, 0, none⟩) n n) ∧ w'.cell? ⟨w.heap.size + 1, 0, none⟩ = some (.int .i64 (M : Nat)) ∧ w'.cell? ⟨w.heap.size + 1, 1, none⟩ = some (.int .i64 (N : Nat)) ∧ w'.cell? ⟨w.heap.size + 1, 2, none⟩ = some (.slice P N pc) ∧ w'.cell? ⟨w.heap.size, 2, none⟩ = some (.int .i64 lo) ∧ w'.cell? ⟨w.heap.size, 3, none⟩ = some (.int .i64 hi'))) (by kernel_rfl) ?hS0 (fun hHeld => ?hR0)
            case hS0 => (try dsimp only); go_keep
            case hR0 =>
              refine wpAnyH_take (i := 0) (oi := ?tO10) (v := ?tV10) ?tA10 (by kernel_rfl) (by kernel_rfl) (by kernel_rfl) (fun _ _ _ h => h) (Or.inl ⟨?tB10, ?tC10⟩) (by assumption) ?tD10
              case tA10 => (first | (simp only [List.getElem?_toArray, List.getElem?_cons_succ, List.getElem?_cons_zero]; done) | (simp only [List.getElem?_toArray, List.getElem?_cons_succ, List.getElem?_cons_zero]; rfl))
              case tB10 => rfl
              case tC10 => (intro w hSw; (try dsimp only at hSw); go_simp; try with_reducible rfl)
              try simp only [Act.put, List.setIfInBounds_toArray, List.set_cons_zero, List.set_cons_succ]
              refine wpAnyH_take (i := 1) (oi := ?tO11) (v := ?tV11) ?tA11 (by kernel_rfl) (by kernel_rfl) (by kernel_rfl) (fun _ _ _ h => h) (Or.inl ⟨?tB11, ?tC11⟩) (by assumption) ?tD11
              case tA11 => (first | (simp only [List.getElem?_toArray, List.getElem?_cons_succ, List.getElem?_cons_zero]; done) | (simp only [List.getElem?_toArray, List.getElem?_cons_succ, List.getElem?_cons_zero]; rfl))
              case tB11 => rfl
              case tC11 => (intro w hSw; (try dsimp only at hSw); go_simp; try with_reducible rfl)
              try simp only [Act.put, List.setIfInBounds_toArray, List.set_cons_zero, List.set_cons_succ]
              refine wpAnyH_take (i := 2) (oi := ?tO12) (v := ?tV12) ?tA12 (by kernel_rfl) (by kernel_rfl) (by kernel_rfl) (fun _ _ _ h => h) (Or.inl ⟨?tB12, ?tC12⟩) (by assumption) ?tD12
              case tA12 => (first | (simp only [List.getElem?_toArray, List.getElem?_cons_succ, List.getElem?_cons_zero]; done) | (simp only [List.getElem?_toArray, List.getElem?_cons_succ, List.getElem?_cons_zero]; rfl))
              case tB12 => rfl
              case tC12 => (intro w hSw; (try dsimp only at hSw); go_simp; try with_reducible rfl)
              try simp only [Act.put, List.setIfInBounds_toArray, List.set_cons_zero, List.set_cons_succ]
              refine wpAnyH_take (i := 4) (oi := ?tO13) (v := ?tV13) ?tA13 (by kernel_rfl) (by kernel_rfl) (by kernel_rfl) (fun _ _ _ h => h) (Or.inl ⟨?tB13, ?tC13⟩) (by assumption) ?tD13
              case tA13 => (first | (simp only [List.getElem?_toArray, List.getElem?_cons_succ, List.getElem?_cons_zero]; done) | (simp only [List.getElem?_toArray, List.getElem?_cons_succ, List.getElem?_cons_zero]; rfl))
              case tB13 => rfl
              case tC13 => (intro w hSw; (try dsimp only at hSw); go_simp; try with_reducible rfl)
              try simp only [Act.put, List.setIfInBounds_toArray, List.set_cons_zero, List.set_cons_succ]
              refine wpAnyH_take (i := 5) (oi := ?tO14) (v := ?tV14) ?tA14 (by kernel_rfl) (by kernel_rfl) (by kernel_rfl) (fun _ _ _ h => h) (Or.inl ⟨?tB14, ?tC14⟩) (by assumption) ?tD14
              case tA14 => (first | (simp only [List.getElem?_toArray, List.getElem?_cons_succ, List.getElem?_cons_zero]; done) | (simp only [List.getElem?_toArray, List.getElem?_cons_succ, List.getElem?_cons_zero]; rfl))
              case tB14 => rfl
              case tC14 => (intro w hSw; (try dsimp only at hSw); go_simp; try with_reducible rfl)
              try simp only [Act.put, List.setIfInBounds_toArray, List.set_cons_zero, List.set_cons_succ]
              refine wpAnyH_take (i := 8) (oi := ?tO15) (v := ?tV15) ?tA15 (by kernel_rfl) (by kernel_rfl) (by kernel_rfl) (fun _ _ _ h => h) (Or.inl ⟨?tB15, ?tC15⟩) (by assumption) ?tD15
              case tA15 => (first | (simp only [List.getElem?_toArray, List.getElem?_cons_succ, List.getElem?_cons_zero]; done) | (simp only [List.getElem?_toArray, List.getElem?_cons_succ, List.getElem?_cons_zero]; rfl))
              case tB15 => rfl
              case tC15 => (intro w hSw; (try dsimp only at hSw); go_simp; try with_reducible rfl)
              try simp only [Act.put, List.setIfInBounds_toArray, List.set_cons_zero, List.set_cons_succ]
              refine wpAnyH_ready (rs := [3, 6]) (by kernel_rfl) (by simp) ?_
              refine AllReadyH.cons (o := ?sO13) ?sA13 (fun K hK => ?sB13) ?sC13
              case sA13 => simp only [List.getElem?_toArray, List.getElem?_cons_succ, List.getElem?_cons_zero]; rfl
              case sB13 =>
                go_simp
                refine hK.out _ _ ?kS14 (fun hHeld => ?kR14)
                case kS14 => (try dsimp only); go_keep
                case kR14 =>
                  clear hK K
                  try simp only [Act.put, List.setIfInBounds_toArray, List.set_cons_zero, List.set_cons_succ]
                  refine wpAnyH_ready (rs := [6]) (by kernel_rfl) (by simp) ?_
                  refine AllReadyH.cons (o := ?sO15) ?sA15 (fun K hK => ?sB15) ?sC15
                  case sA15 => simp only [List.getElem?_toArray, List.getElem?_cons_succ, List.getElem?_cons_zero]; rfl
                  case sB15 =>
                    go_simp
                    go_at_call 52; refine (HIv.out _).mono ?_; rintro e w6 ⟨rfl, hw6⟩; have hz : Below wc.heap.size wc w6 := (by first | exact hw6 | exact ⟨hw6.os, hw6.tape, hw6.output, hw6.size, hw6.block⟩); have s0 := (hz.cell (p := ⟨gv, 0, none⟩) hgv5).trans v0; have s1 := (hz.cell (p := ⟨w.heap.size + 1, 0, none⟩) hrr5).trans p0; have s2 := (hz.cell (p := ⟨w.heap.size + 1, 1, none⟩) hrr5).trans p1; have s3 := (hz.cell (p := ⟨w.heap.size + 1, 2, none⟩) hrr5).trans p2; have s4 := (hz.cell (p := ⟨w.heap.size, 2, none⟩) hbb5).trans m2; have s5 := (hz.cell (p := ⟨w.heap.size, 3, none⟩) hbb5).trans m3; have a2 := (hz.cell (p := ⟨g, i, none⟩) hgg5).trans a0; have a3 := (hA5.call hz).at_.frozen i
                    try go_wp2_with fail
                    refine hK.out _ _ ?kS16 (fun hHeld => ?kR16)
                    case kS16 => (try dsimp only); go_keep
                    case kR16 =>
                      clear hK K
                      try simp only [Act.put, List.setIfInBounds_toArray, List.set_cons_zero, List.set_cons_succ]
                      refine wpAnyH_take (i := 7) (oi := ?tO16) (v := ?tV16) ?tA16 (by kernel_rfl) (by kernel_rfl) (by kernel_rfl) (fun _ _ _ h => h) (Or.inl ⟨?tB16, ?tC16⟩) (by assumption) ?tD16
                      case tA16 => (first | (simp only [List.getElem?_toArray, List.getElem?_cons_succ, List.getElem?_cons_zero]; done) | (simp only [List.getElem?_toArray, List.getElem?_cons_succ, List.getElem?_cons_zero]; rfl))
                      case tB16 => rfl
                      case tC16 => (intro w hSw; (try dsimp only at hSw); go_simp; try with_reducible rfl)
                      try simp only [Act.put, List.setIfInBounds_toArray, List.set_cons_zero, List.set_cons_succ]
                      refine wpAnyH_ready (rs := [9]) (by kernel_rfl) (by simp) ?_
                      refine AllReadyH.cons (o := ?sO17) ?sA17 (fun K hK => ?sB17) ?sC17
                      case sA17 => simp only [List.getElem?_toArray, List.getElem?_cons_succ, List.getElem?_cons_zero]; rfl
                      case sB17 =>
                        go_simp
                        go_at_call 57; refine (HWw.out _).mono ?_; rintro e w7 ⟨rfl, hw7⟩; have hy : Below wc.heap.size wc w7 := (by refine hz.trans (Below.mono ?_ hz.size); first | exact hw7 | exact ⟨hw7.os, hw7.tape, hw7.output, hw7.size, hw7.block⟩); have t0 := (hy.cell (p := ⟨gv, 0, none⟩) hgv5).trans v0; have t1 := (hy.cell (p := ⟨w.heap.size + 1, 0, none⟩) hrr5).trans p0; have t2 := (hy.cell (p := ⟨w.heap.size + 1, 1, none⟩) hrr5).trans p1; have t3 := (hy.cell (p := ⟨w.heap.size + 1, 2, none⟩) hrr5).trans p2; have t4 := (hy.cell (p := ⟨w.heap.size, 2, none⟩) hbb5).trans m2; have t5 := (hy.cell (p := ⟨w.heap.size, 3, none⟩) hbb5).trans m3; have a4 := (hy.cell (p := ⟨g, i, none⟩) hgg5).trans a0; have a5 := (hA5.call hy).at_.frozen i
                        try go_wp2_with fail
                        refine hK.out _ _ ?kS18 (fun hHeld => ?kR18)
                        case kS18 => (try dsimp only); go_keep
                        case kR18 =>
                          clear hK K
                          try simp only [Act.put, List.setIfInBounds_toArray, List.set_cons_zero, List.set_cons_succ]
                          refine wpAnyH_take (i := 10) (oi := ?tO17) (v := ?tV17) ?tA17 (by kernel_rfl) (by kernel_rfl) (by kernel_rfl) (fun _ _ _ h => h) (Or.inl ⟨?tB17, ?tC17⟩) (by assumption) ?tD17
                          case tA17 => (first | (simp only [List.getElem?_toArray, List.getElem?_cons_succ, List.getElem?_cons_zero]; done) | (simp only [List.getElem?_toArray, List.getElem?_cons_succ, List.getElem?_cons_zero]; rfl))
                          case tB17 => rfl
                          case tC17 => (intro w hSw; (try dsimp only at hSw); go_simp; try with_reducible rfl)
                          try simp only [Act.put, List.setIfInBounds_toArray, List.set_cons_zero, List.set_cons_succ]
                          refine wpAnyH_take (i := 11) (oi := ?tO18) (v := ?tV18) ?tA18 (by kernel_rfl) (by kernel_rfl) (by kernel_rfl) (fun _ _ _ h => h) (Or.inl ⟨?tB18, ?tC18⟩) (by assumption) ?tD18
                          case tA18 => (first | (simp only [List.getElem?_toArray, List.getElem?_cons_succ, List.getElem?_cons_zero]; done) | (simp only [List.getElem?_toArray, List.getElem?_cons_succ, List.getElem?_cons_zero]; rfl))
                          case tB18 => rfl
                          case tC18 => (intro w hSw; (try dsimp only at hSw); go_simp; try with_reducible rfl)
                          try simp only [Act.put, List.setIfInBounds_toArray, List.set_cons_zero, List.set_cons_succ]
                          refine wpAnyH_take (i := 12) (oi := ?tO19) (v := ?tV19) ?tA19 (by kernel_rfl) (by kernel_rfl) (by kernel_rfl) (fun _ _ _ h => h) (Or.inl ⟨?tB19, ?tC19⟩) (by assumption) ?tD19
                          case tA19 => (first | (simp only [List.getElem?_toArray, List.getElem?_cons_succ, List.getElem?_cons_zero]; done) | (simp only [List.getElem?_toArray, List.getElem?_cons_succ, List.getElem?_cons_zero]; rfl))
                          case tB19 => rfl
                          case tC19 => (intro w hSw; (try dsimp only at hSw); go_simp; try with_reducible rfl)
                          try simp only [Act.put, List.setIfInBounds_toArray, List.set_cons_zero, List.set_cons_succ]
                          refine wpAnyH_take (i := 13) (oi := ?tO20) (v := ?tV20) ?tA20 (by kernel_rfl) (by kernel_rfl) (by kernel_rfl) (fun _ _ _ h => h) (Or.inl ⟨?tB20, ?tC20⟩) (by assumption) ?tD20
                          case tA20 => (first | (simp only [List.getElem?_toArray, List.getElem?_cons_succ, List.getElem?_cons_zero]; done) | (simp only [List.getElem?_toArray, List.getElem?_cons_succ, List.getElem?_cons_zero]; rfl))
                          case tB20 => rfl
                          case tC20 => (intro w hSw; (try dsimp only at hSw); go_simp; try with_reducible rfl)
                          try simp only [Act.put, List.setIfInBounds_toArray, List.set_cons_zero, List.set_cons_succ]
                          refine wpAnyH_ready (rs := [14]) (by kernel_rfl) (by simp) ?_
                          refine AllReadyH.cons (o := ?sO19) ?sA19 (fun K hK => ?sB19) ?sC19
                          case sA19 => simp only [List.getElem?_toArray, List.getElem?_cons_succ, List.getElem?_cons_zero]; rfl
                          case sB19 =>
                            go_simp
                            refine hK.out _ _ ?kS20 (fun hHeld => ?kR20)
                            case kS20 => (try dsimp only); exact ⟨cell_other n0 t0, cell_other n1 t1, cell_other n1 t2, cell_other n1 t3, cell_other n2 t4, cell_other n2 t5⟩
                            case kR20 =>
                              clear hK K
                              try simp only [Act.put, List.setIfInBounds_toArray, List.set_cons_zero, List.set_cons_succ]
                              refine wpAnyH_done (by kernel_rfl) ?_ _
                              refine NoPanic.normal ?_
                              have hA7 := (hA5.call hy).set i Z
                              rw [hss5] at hA7
                              go_wp2_with fail
                              go_meet
                              exact ⟨hA7, (hG5.call hy).far (p := ⟨g, i, none⟩) hgr _, fun B h1 h2 => ((hb5 B h1 h2).trans (hy.mono (by omega))).setCell (p := ⟨g, i, none⟩) h1 _⟩
                          case sC19 =>
                            exact AllReadyH.nil
                      case sC17 =>
                        exact AllReadyH.nil
                  case sC15 =>
                    exact AllReadyH.nil
              case sC13 =>
                refine AllReadyH.cons (o := ?sO21) ?sA21 (fun K hK => ?sB21) ?sC21
                case sA21 => simp only [List.getElem?_toArray, List.getElem?_cons_succ, List.getElem?_cons_zero]; rfl
                case sB21 =>
                  go_simp
                  go_at_call 52; refine (HIv.out _).mono ?_; rintro e w6 ⟨rfl, hw6⟩; have hz : Below wc.heap.size wc w6 := (by first | exact hw6 | exact ⟨hw6.os, hw6.tape, hw6.output, hw6.size, hw6.block⟩); have s0 := (hz.cell (p := ⟨gv, 0, none⟩) hgv5).trans v0; have s1 := (hz.cell (p := ⟨w.heap.size + 1, 0, none⟩) hrr5).trans p0; have s2 := (hz.cell (p := ⟨w.heap.size + 1, 1, none⟩) hrr5).trans p1; have s3 := (hz.cell (p := ⟨w.heap.size + 1, 2, none⟩) hrr5).trans p2; have s4 := (hz.cell (p := ⟨w.heap.size, 2, none⟩) hbb5).trans m2; have s5 := (hz.cell (p := ⟨w.heap.size, 3, none⟩) hbb5).trans m3; have a2 := (hz.cell (p := ⟨g, i, none⟩) hgg5).trans a0; have a3 := (hA5.call hz).at_.frozen i
                  try go_wp2_with fail
                  refine hK.out _ _ ?kS22 (fun hHeld => ?kR22)
                  case kS22 => (try dsimp only); go_keep
                  case kR22 =>
                    clear hK K
                    try simp only [Act.put, List.setIfInBounds_toArray, List.set_cons_zero, List.set_cons_succ]
                    refine wpAnyH_take (i := 7) (oi := ?tO21) (v := ?tV21) ?tA21 (by kernel_rfl) (by kernel_rfl) (by kernel_rfl) (fun _ _ _ h => h) (Or.inl ⟨?tB21, ?tC21⟩) (by assumption) ?tD21
                    case tA21 => (first | (simp only [List.getElem?_toArray, List.getElem?_cons_succ, List.getElem?_cons_zero]; done) | (simp only [List.getElem?_toArray, List.getElem?_cons_succ, List.getElem?_cons_zero]; rfl))
                    case tB21 => rfl
                    case tC21 => (intro w hSw; (try dsimp only at hSw); go_simp; try with_reducible rfl)
                    try simp only [Act.put, List.setIfInBounds_toArray, List.set_cons_zero, List.set_cons_succ]
                    refine wpAnyH_ready (rs := [3, 9]) (by kernel_rfl) (by simp) ?_
                    refine AllReadyH.cons (o := ?sO23) ?sA23 (fun K hK => ?sB23) ?sC23
                    case sA23 => simp only [List.getElem?_toArray, List.getElem?_cons_succ, List.getElem?_cons_zero]; rfl
                    case sB23 =>
                      go_simp
                      refine hK.out _ _ ?kS24 (fun hHeld => ?kR24)
                      case kS24 => (try dsimp only); go_keep
                      case kR24 =>
                        clear hK K
                        try simp only [Act.put, List.setIfInBounds_toArray, List.set_cons_zero, List.set_cons_succ]
                        refine wpAnyH_ready (rs := [9]) (by kernel_rfl) (by simp) ?_
                        refine AllReadyH.cons (o := ?sO25) ?sA25 (fun K hK => ?sB25) ?sC25
                        case sA25 => simp only [List.getElem?_toArray, List.getElem?_cons_succ, List.getElem?_cons_zero]; rfl
                        case sB25 =>
                          go_simp
                          go_at_call 57; refine (HWw.out _).mono ?_; rintro e w7 ⟨rfl, hw7⟩; have hy : Below wc.heap.size wc w7 := (by refine hz.trans (Below.mono ?_ hz.size); first | exact hw7 | exact ⟨hw7.os, hw7.tape, hw7.output, hw7.size, hw7.block⟩); have t0 := (hy.cell (p := ⟨gv, 0, none⟩) hgv5).trans v0; have t1 := (hy.cell (p := ⟨w.heap.size + 1, 0, none⟩) hrr5).trans p0; have t2 := (hy.cell (p := ⟨w.heap.size + 1, 1, none⟩) hrr5).trans p1; have t3 := (hy.cell (p := ⟨w.heap.size + 1, 2, none⟩) hrr5).trans p2; have t4 := (hy.cell (p := ⟨w.heap.size, 2, none⟩) hbb5).trans m2; have t5 := (hy.cell (p := ⟨w.heap.size, 3, none⟩) hbb5).trans m3; have a4 := (hy.cell (p := ⟨g, i, none⟩) hgg5).trans a0; have a5 := (hA5.call hy).at_.frozen i
                          try go_wp2_with fail
                          refine hK.out _ _ ?kS26 (fun hHeld => ?kR26)
                          case kS26 => (try dsimp only); go_keep
                          case kR26 =>
                            clear hK K
                            try simp only [Act.put, List.setIfInBounds_toArray, List.set_cons_zero, List.set_cons_succ]
                            refine wpAnyH_take (i := 10) (oi := ?tO22) (v := ?tV22) ?tA22 (by kernel_rfl) (by kernel_rfl) (by kernel_rfl) (fun _ _ _ h => h) (Or.inl ⟨?tB22, ?tC22⟩) (by assumption) ?tD22
                            case tA22 => (first | (simp only [List.getElem?_toArray, List.getElem?_cons_succ, List.getElem?_cons_zero]; done) | (simp only [List.getElem?_toArray, List.getElem?_cons_succ, List.getElem?_cons_zero]; rfl))
                            case tB22 => rfl
                            case tC22 => (intro w hSw; (try dsimp only at hSw); go_simp; try with_reducible rfl)
                            try simp only [Act.put, List.setIfInBounds_toArray, List.set_cons_zero, List.set_cons_succ]
                            refine wpAnyH_take (i := 11) (oi := ?tO23) (v := ?tV23) ?tA23 (by kernel_rfl) (by kernel_rfl) (by kernel_rfl) (fun _ _ _ h => h) (Or.inl ⟨?tB23, ?tC23⟩) (by assumption) ?tD23
                            case tA23 => (first | (simp only [List.getElem?_toArray, List.getElem?_cons_succ, List.getElem?_cons_zero]; done) | (simp only [List.getElem?_toArray, List.getElem?_cons_succ, List.getElem?_cons_zero]; rfl))
                            case tB23 => rfl
                            case tC23 => (intro w hSw; (try dsimp only at hSw); go_simp; try with_reducible rfl)
                            try simp only [Act.put, List.setIfInBounds_toArray, List.set_cons_zero, List.set_cons_succ]
                            refine wpAnyH_take (i := 12) (oi := ?tO24) (v := ?tV24) ?tA24 (by kernel_rfl) (by kernel_rfl) (by kernel_rfl) (fun _ _ _ h => h) (Or.inl ⟨?tB24, ?tC24⟩) (by assumption) ?tD24
                            case tA24 => (first | (simp only [List.getElem?_toArray, List.getElem?_cons_succ, List.getElem?_cons_zero]; done) | (simp only [List.getElem?_toArray, List.getElem?_cons_succ, List.getElem?_cons_zero]; rfl))
                            case tB24 => rfl
                            case tC24 => (intro w hSw; (try dsimp only at hSw); go_simp; try with_reducible rfl)
                            try simp only [Act.put, List.setIfInBounds_toArray, List.set_cons_zero, List.set_cons_succ]
                            refine wpAnyH_take (i := 13) (oi := ?tO25) (v := ?tV25) ?tA25 (by kernel_rfl) (by kernel_rfl) (by kernel_rfl) (fun _ _ _ h => h) (Or.inl ⟨?tB25, ?tC25⟩) (by assumption) ?tD25
                            case tA25 => (first | (simp only [List.getElem?_toArray, List.getElem?_cons_succ, List.getElem?_cons_zero]; done) | (simp only [List.getElem?_toArray, List.getElem?_cons_succ, List.getElem?_cons_zero]; rfl))
                            case tB25 => rfl
                            case tC25 => (intro w hSw; (try dsimp only at hSw); go_simp; try with_reducible rfl)
                            try simp only [Act.put, List.setIfInBounds_toArray, List.set_cons_zero, List.set_cons_succ]
                            refine wpAnyH_ready (rs := [14]) (by kernel_rfl) (by simp) ?_
                            refine AllReadyH.cons (o := ?sO27) ?sA27 (fun K hK => ?sB27) ?sC27
                            case sA27 => simp only [List.getElem?_toArray, List.getElem?_cons_succ, List.getElem?_cons_zero]; rfl
                            case sB27 =>
                              go_simp
                              refine hK.out _ _ ?kS28 (fun hHeld => ?kR28)
                              case kS28 => (try dsimp only); exact ⟨cell_other n0 t0, cell_other n1 t1, cell_other n1 t2, cell_other n1 t3, cell_other n2 t4, cell_other n2 t5⟩
                              case kR28 =>
                                clear hK K
                                try simp only [Act.put, List.setIfInBounds_toArray, List.set_cons_zero, List.set_cons_succ]
                                refine wpAnyH_done (by kernel_rfl) ?_ _
                                refine NoPanic.normal ?_
                                have hA7 := (hA5.call hy).set i Z
                                rw [hss5] at hA7
                                go_wp2_with fail
                                go_meet
                                exact ⟨hA7, (hG5.call hy).far (p := ⟨g, i, none⟩) hgr _, fun B h1 h2 => ((hb5 B h1 h2).trans (hy.mono (by omega))).setCell (p := ⟨g, i, none⟩) h1 _⟩
                            case sC27 =>
                              exact AllReadyH.nil
                        case sC25 =>
                          exact AllReadyH.nil
                    case sC23 =>
                      refine AllReadyH.cons (o := ?sO29) ?sA29 (fun K hK => ?sB29) ?sC29
                      case sA29 => simp only [List.getElem?_toArray, List.getElem?_cons_succ, List.getElem?_cons_zero]; rfl
                      case sB29 =>
                        go_simp
                        go_at_call 57; refine (HWw.out _).mono ?_; rintro e w7 ⟨rfl, hw7⟩; have hy : Below wc.heap.size wc w7 := (by refine hz.trans (Below.mono ?_ hz.size); first | exact hw7 | exact ⟨hw7.os, hw7.tape, hw7.output, hw7.size, hw7.block⟩); have t0 := (hy.cell (p := ⟨gv, 0, none⟩) hgv5).trans v0; have t1 := (hy.cell (p := ⟨w.heap.size + 1, 0, none⟩) hrr5).trans p0; have t2 := (hy.cell (p := ⟨w.heap.size + 1, 1, none⟩) hrr5).trans p1; have t3 := (hy.cell (p := ⟨w.heap.size + 1, 2, none⟩) hrr5).trans p2; have t4 := (hy.cell (p := ⟨w.heap.size, 2, none⟩) hbb5).trans m2; have t5 := (hy.cell (p := ⟨w.heap.size, 3, none⟩) hbb5).trans m3; have a4 := (hy.cell (p := ⟨g, i, none⟩) hgg5).trans a0; have a5 := (hA5.call hy).at_.frozen i
                        try go_wp2_with fail
                        refine hK.out _ _ ?kS30 (fun hHeld => ?kR30)
                        case kS30 => (try dsimp only); go_keep
                        case kR30 =>
                          clear hK K
                          try simp only [Act.put, List.setIfInBounds_toArray, List.set_cons_zero, List.set_cons_succ]
                          refine wpAnyH_take (i := 10) (oi := ?tO26) (v := ?tV26) ?tA26 (by kernel_rfl) (by kernel_rfl) (by kernel_rfl) (fun _ _ _ h => h) (Or.inl ⟨?tB26, ?tC26⟩) (by assumption) ?tD26
                          case tA26 => (first | (simp only [List.getElem?_toArray, List.getElem?_cons_succ, List.getElem?_cons_zero]; done) | (simp only [List.getElem?_toArray, List.getElem?_cons_succ, List.getElem?_cons_zero]; rfl))
                          case tB26 => rfl
                          case tC26 => (intro w hSw; (try dsimp only at hSw); go_simp; try with_reducible rfl)
                          try simp only [Act.put, List.setIfInBounds_toArray, List.set_cons_zero, List.set_cons_succ]
                          refine wpAnyH_take (i := 11) (oi := ?tO27) (v := ?tV27) ?tA27 (by kernel_rfl) (by kernel_rfl) (by kernel_rfl) (fun _ _ _ h => h) (Or.inl ⟨?tB27, ?tC27⟩) (by assumption) ?tD27
                          case tA27 => (first | (simp only [List.getElem?_toArray, List.getElem?_cons_succ, List.getElem?_cons_zero]; done) | (simp only [List.getElem?_toArray, List.getElem?_cons_succ, List.getElem?_cons_zero]; rfl))
                          case tB27 => rfl
                          case tC27 => (intro w hSw; (try dsimp only at hSw); go_simp; try with_reducible rfl)
                          try simp only [Act.put, List.setIfInBounds_toArray, List.set_cons_zero, List.set_cons_succ]
                          refine wpAnyH_ready (rs := [3]) (by kernel_rfl) (by simp) ?_
                          refine AllReadyH.cons (o := ?sO31) ?sA31 (fun K hK => ?sB31) ?sC31
                          case sA31 => simp only [List.getElem?_toArray, List.getElem?_cons_succ, List.getElem?_cons_zero]; rfl
                          case sB31 =>
                            go_simp
                            refine hK.out _ _ ?kS32 (fun hHeld => ?kR32)
                            case kS32 => (try dsimp only); go_keep
                            case kR32 =>
                              clear hK K
                              try simp only [Act.put, List.setIfInBounds_toArray, List.set_cons_zero, List.set_cons_succ]
                              refine wpAnyH_take (i := 12) (oi := ?tO28) (v := ?tV28) ?tA28 (by kernel_rfl) (by kernel_rfl) (by kernel_rfl) (fun _ _ _ h => h) (Or.inl ⟨?tB28, ?tC28⟩) (by assumption) ?tD28
                              case tA28 => (first | (simp only [List.getElem?_toArray, List.getElem?_cons_succ, List.getElem?_cons_zero]; done) | (simp only [List.getElem?_toArray, List.getElem?_cons_succ, List.getElem?_cons_zero]; rfl))
                              case tB28 => rfl
                              case tC28 => (intro w hSw; (try dsimp only at hSw); go_simp; try with_reducible rfl)
                              try simp only [Act.put, List.setIfInBounds_toArray, List.set_cons_zero, List.set_cons_succ]
                              refine wpAnyH_take (i := 13) (oi := ?tO29) (v := ?tV29) ?tA29 (by kernel_rfl) (by kernel_rfl) (by kernel_rfl) (fun _ _ _ h => h) (Or.inl ⟨?tB29, ?tC29⟩) (by assumption) ?tD29
                              case tA29 => (first | (simp only [List.getElem?_toArray, List.getElem?_cons_succ, List.getElem?_cons_zero]; done) | (simp only [List.getElem?_toArray, List.getElem?_cons_succ, List.getElem?_cons_zero]; rfl))
                              case tB29 => rfl
                              case tC29 => (intro w hSw; (try dsimp only at hSw); go_simp; try with_reducible rfl)
                              try simp only [Act.put, List.setIfInBounds_toArray, List.set_cons_zero, List.set_cons_succ]
                              refine wpAnyH_ready (rs := [14]) (by kernel_rfl) (by simp) ?_
                              refine AllReadyH.cons (o := ?sO33) ?sA33 (fun K hK => ?sB33) ?sC33
                              case sA33 => simp only [List.getElem?_toArray, List.getElem?_cons_succ, List.getElem?_cons_zero]; rfl
                              case sB33 =>
                                go_simp
                                refine hK.out _ _ ?kS34 (fun hHeld => ?kR34)
                                case kS34 => (try dsimp only); exact ⟨cell_other n0 t0, cell_other n1 t1, cell_other n1 t2, cell_other n1 t3, cell_other n2 t4, cell_other n2 t5⟩
                                case kR34 =>
                                  clear hK K
                                  try simp only [Act.put, List.setIfInBounds_toArray, List.set_cons_zero, List.set_cons_succ]
                                  refine wpAnyH_done (by kernel_rfl) ?_ _
                                  refine NoPanic.normal ?_
                                  have hA7 := (hA5.call hy).set i Z
                                  rw [hss5] at hA7
                                  go_wp2_with fail
                                  go_meet
                                  exact ⟨hA7, (hG5.call hy).far (p := ⟨g, i, none⟩) hgr _, fun B h1 h2 => ((hb5 B h1 h2).trans (hy.mono (by omega))).setCell (p := ⟨g, i, none⟩) h1 _⟩
                              case sC33 =>
                                exact AllReadyH.nil
                          case sC31 =>
                            exact AllReadyH.nil
                      case sC29 =>
                        exact AllReadyH.nil
                case sC21 =>
                  exact AllReadyH.nil
          case rest =>
            obtain ⟨hA7, hG7, hb7⟩ := hcut
            go_wp2_with fail
            go_ret
            exact ⟨rfl, hA7, hG7, hb7⟩
        · have h16b : (kind == 16) = false := by rw [beq_eq_false_iff_ne]; exact h16
          have hz := HZ2.out
          rw [if_neg h16, Nat.add_zero] at hz
          subst hz
          clear h16
          go_wp2_with fail
          go_ret
          exact ⟨rfl, hA5, hG5, hb5⟩
end Go.Proofs.YtdohbbjinbofbaaGreat
/-! The walk of bound.stay, and of Cells' closure. -/
namespace Go.Proofs.YtdohbbjinbofbaaGreat
open Go.RowKit
theorem bel_len {l : List Nd} (hn : l.length ≤ 1000) {t : Tr} (ht : treeS l = some t) (i : Nat) (hi : i < l.length) : (belM (t.sub i) i).length ≤ 1000 := by
  have hlt := tree_len ht
  cases hx : t.sub i with
  | leaf _ => simp [belM]
  | bin _ _ _ => simp [belM]
  | un h a =>
    have h3 := Tr.sub_size_le t i (by omega)
    rw [hx] at h3
    simp only [Tr.size] at h3
    have h4 := testsT_le a
    simp only [belM]
    split
    · rw [List.length_map, length_tests]; omega
    · simp
theorem match_facts {l : List Nd} (hn : l.length ≤ 1000) {t : Tr} (ht : treeS l = some t) (i : Nat) (hi : i < l.length) (hm : matchS (t.sub i).root.kind = true) : stepsM (t.sub i) ≤ 1000 ∧ testsM (t.sub i) ≤ 1000 ∧ spanS (t.sub i).root.lo (t.sub i).root.hi = true := by
  have hm' := matchS_iff.1 hm
  obtain ⟨h, a, hx, hk, _, _, hs, _⟩ := match_un ht i hi hm'
  obtain ⟨_, _, h1, h2⟩ := (node_bounds hn ht i hi).1 h a hx hk
  rw [hx]
  exact ⟨by simp only [stepsM]; rw [if_pos hk]; exact h1, by simp only [testsM]; rw [if_pos hk]; exact h2, hs⟩
set_option maxRecDepth 100000 in
set_option maxHeartbeats 1000000 in
/-- bound.stay: of each node its Stay. -/
theorem stay_w {F : Fz} {w : World} (hF : Sat F w) (l : List Nd) (hn : l.length ≤ 1000) (A : Option Addr) (n c : Nat) (hc : n ≤ c) (hl : NodesF F A n l) (hb : (formL l && plainS l) = true) {t : Tr} (ht : treeS l = some t) (room : Int) (C : Nat) (hC : min (max room 1) 4096 = (C : Int)) :
    Calls Tryz.prog 55 #[.slice A n c, .int .i64 room] w fun e w' => ∃ g gv, e = .returned (.slice (some ⟨g, 0, none⟩) n n) ∧ AtB w' g gv n (atV (stayT C) t n n) ∧ w.heap.size ≤ g ∧ w.heap.size ≤ gv ∧ Below w.heap.size w w' := by
  have hmf : ∀ (fn : Fn) (first cap : Array Value) (w : World), (Instr.makeFunc fn first cap).run Tryz.prog w = .ok (.func fn first cap) w := fun _ _ _ _ => rfl
  have hlN := hl.cle hF.cle
  obtain ⟨hf, hp, _⟩ := plain_tree hb
  have hlt := tree_len ht
  have hnl : n = l.length := hl.1.symm
  have hval := tree_valid ht
  have hCb : C ≤ 4096 := by omega
  have hsub : ∀ j, j < n → stayT C (t.sub j) ≤ 1099511627776 := fun j hj => by
    have h2 := Tr.sub_size_le t j (by omega)
    have h1 := stayT_le hCb (t.sub j) (sub_valid t j hval) (by omega)
    omega
  have hmk := mk49 (w := w.alloc (.cells #[.int .i64 room] 3)) n (by omega)
  have hsz1 : (w.alloc (.cells #[.int .i64 room] 3)).heap.size = w.heap.size + 1 := by simp
  rw [hsz1] at hmk
  obtain ⟨W, hW⟩ : ∃ W, W = ((w.alloc (.cells #[.int .i64 room] 3)).alloc (.cells (zeros (.int .u64 0) n) 46)).alloc (.cells #[.slice (some ⟨w.heap.size + 1, 0, none⟩) n n] 35) := ⟨_, rfl⟩
  have hbW : Below w.heap.size w W := hW ▸ ((balloc w _).alloc (by simp) _).alloc (by simp; omega) _
  have hB0 : Blk W w.heap.size 3 #[.int .i64 room] := hW ▸ ((Blk.new w 3 #[.int .i64 room]).alloc _).alloc _
  have hB1 : Blk W (w.heap.size + 1) 46 (zeros (.int .u64 0) n) := hW ▸ (Blk.new2 w _ 46 (zeros (.int .u64 0) n)).alloc _
  have hB2 : Blk W (w.heap.size + 2) 35 #[.slice (some ⟨w.heap.size + 1, 0, none⟩) n n] := hW ▸ new3 w _ _ 35 #[.slice (some ⟨w.heap.size + 1, 0, none⟩) n n]
  have hA0 : AtB W (w.heap.size + 1) (w.heap.size + 2) n (atV (stayT C) t n 0) := ⟨atV_len _ _ _ _, by rw [atV_zero, show (List.replicate n (encU 0)).toArray = zeros (.int .u64 0) n by simp [zeros]]; exact hB1, hB2⟩
  have hO := over26_w (F := heapF w) (w := W) ((sat_heapF w).below hbW) l hn A n c hc hlN hf hp ht 88 #[.pointer (some ⟨w.heap.size + 2, 0, none⟩), .pointer (some ⟨w.heap.size, 0, none⟩)] (enters_of Tryz.func88 (by kernel_rfl) rfl) w.heap.size heapF_lt hbW.size
    (fun i X => AtB X (w.heap.size + 1) (w.heap.size + 2) n (atV (stayT C) t n i) ∧ Blk X w.heap.size 3 #[.int .i64 room]) (fun _ => 0) (fun i X X' h hb => ⟨h.1.call hb, h.2.call hb⟩)
    (fun i hi hk X h => by
      have := get_flat_root ht i hi
      rw [this] at hk
      rw [atV_skip _ _ _ _ hk]; exact h)
    (fun i hi x hx hk X hX hB hI s Ak ck P pc Bl bn bc hR => by
      subst hx
      have hst := stayT_step C hval i (by omega)
      have hba := bel_at (stayT C) hval n i (by omega) (by omega) hk
      have hbn : bn ≤ 1000 := by
        have h1 := hR.1
        simp [zs] at h1
        have h2 := bel_len hn ht i hi
        omega
      refine (stayF_w (t.sub i) (w.heap.size + 1) (w.heap.size + 2) w.heap.size n _ hI.1 room hI.2 C hC (by omega) i (by omega) (belM (t.sub i) i) (fun p hp => by have := (bel_mem hval i (by omega) hk p hp).1; omega) (fun v hv => atV_le (stayT C) t n i 1099511627776 hsub v hv) (match_facts hn ht i hi) s Ak (kidsT (t.sub i)).length ck P pc Bl bn bc hR hbn _ rfl (stayT C (t.sub i)) (by rw [hba]; exact hst)).mono ?_
      rintro e w' ⟨h1, h2, h4, h3⟩
      refine ⟨h1, ⟨?_, h4⟩, h3 _ (by omega) hB⟩
      rw [atV_set _ _ _ _ (by omega) hk] at h2
      exact h2) ⟨hA0, hB0⟩
  rw [← hnl] at hO
  have HO := Lib.hid hO
  have HW := Lib.hid hW
  have hnb : n ≤ 1000 := by omega
  clear hO hb hf hp hlt hval hsub hl hlN hn hA0 hB1 hB2 hB0 hW hnl hsz1 hCb
  go_enter Tryz.func55, Tryz.ntmps55
  go_wp2_with (go_at_call 48; rw [← HW.out]; refine HO.out.mono ?_; rintro e w3 ⟨rfl, hI, hw3⟩; obtain ⟨q0, q1⟩ := blk1 hI.1.var)
  go_ret
  exact ⟨_, _, rfl, hI.1, by omega, by omega, hbW.trans hw3⟩
set_option maxRecDepth 100000 in
set_option maxHeartbeats 4000000 in
/-- The closure of Cells at one node. -/
theorem cellsF_w {w : World} (x : Tr) (g gv n : Nat) (vs : List Nat) (hA : AtB w g gv n vs) (gs gsv : Nat) (ss : List Nat) (hA' : AtB w gs gsv n ss) (hgs : gs ≠ g) (hgsv : gsv ≠ g) (hn : n ≤ 1000) (i : Nat) (hi : i < n) (ps : List Nat) (hp : ∀ p ∈ ps, p < n) (hv : ∀ v ∈ vs, v ≤ 1099511627776) (hm : x.root.kind = 17 → stepsM x ≤ 1000)
    (s : ByteArray) (Ak : Option Addr) (kl ck : Nat) (P : Option Addr) (pc : Nat) (Bl : Option Addr) (bn bc : Nat) (hR : Rd (heapF w) 1 Bl bn ((zs ps).map encI)) (hbn : bn ≤ 1000) (S : Nat) (hS : maxL (ps.map fun k => vs.getD k 0) = S) (y : Nat) (hil' : i < ss.length) (hy : ss[i] = y) (hyb : y ≤ 1099511627776) (Z : Nat) (hZ : S + (if x.root.kind = 17 then 1 + (stepsM x / 64 + 1) + y else 0) = Z) :
    Calls Tryz.prog 56 (#[.int .i64 i, .agg #[.int .i64 x.root.kind, .string s, .int .i64 x.root.lo, .int .i64 x.root.hi, .slice Ak kl ck], .agg #[.int .i64 (stepsM x : Nat), .int .i64 (testsM x : Nat), .slice P (testsM x) pc], .slice Bl bn bc] ++ #[.pointer (some ⟨gv, 0, none⟩), .pointer (some ⟨gsv, 0, none⟩)]) w fun e w' => e = .returned (encU Z) ∧ AtB w' g gv n (vs.set i Z) ∧ AtB w' gs gsv n ss ∧ ∀ B, B ≤ g → B ≤ w.heap.size → Below B w w' := by
  have hWd := fun (h1 : stepsM x ≤ 1000) (X : World) => rwide_w (stepsM x) (testsM x) h1 P (testsM x) pc X
  generalize x.root.kind = kind at *
  generalize x.root.lo = lo at *
  generalize x.root.hi = hi' at *
  generalize stepsM x = M at *
  generalize testsM x = N at *
  have hb2 : Below w.heap.size w ((w.alloc (.cells #[.int .i64 kind, .string s, .int .i64 lo, .int .i64 hi', .slice Ak kl ck] 45)).alloc (.cells #[.int .i64 (M : Nat), .int .i64 (N : Nat), .slice P N pc] 75)) := (balloc w _).alloc (by simp) _
  have hBN := (Blk.new w 45 #[.int .i64 kind, .string s, .int .i64 lo, .int .i64 hi', .slice Ak kl ck]).alloc (.cells #[.int .i64 (M : Nat), .int .i64 (N : Nat), .slice P N pc] 75)
  have hBR := Blk.new2 w (.cells #[.int .i64 kind, .string s, .int .i64 lo, .int .i64 hi', .slice Ak kl ck] 45) 75 #[.int .i64 (M : Nat), .int .i64 (N : Nat), .slice P N pc]
  have hA2 := hA.call hb2
  have hA2' := hA'.call hb2
  have hR2 := hR.cle (cle_below hb2)
  have hlw := hA.at_.lt
  have hlg : g < w.heap.size := hlw
  have hSb : S ≤ 1099511627776 := by
    rw [← hS]
    refine maxL_le 1099511627776 _ ?_
    intro y hy
    obtain ⟨k, hk, rfl⟩ := List.mem_map.1 hy
    have hkn := hp k hk
    rw [List.getD, List.getElem?_eq_getElem (by rw [hA.len]; exact hkn)]
    exact hv _ (List.getElem_mem _)
  have HY := Lib.hid hy
  have hsums := fun (X : World) (h : Sat (heapF ((w.alloc (.cells #[.int .i64 kind, .string s, .int .i64 lo, .int .i64 hi', .slice Ak kl ck] 45)).alloc (.cells #[.int .i64 (M : Nat), .int .i64 (N : Nat), .slice P N pc] 75))) X) => sums_w h vs ps (some ⟨g, 0, none⟩) Bl n bn n bc (by have := rd_blk hA2.at_; rw [List.length_map, hA.len] at this; exact this) hR2 hp hv hbn
  rw [hS] at hsums
  have HSU := Lib.hid hsums
  have hiI : (i : Int) < (n : Int) := by omega
  have hil : i < vs.length := by rw [hA.len]; exact hi
  have HZ := Lib.hid hZ
  have HWI := Lib.hid hWd
  have Hm := Lib.hid hm
  clear hS hsums hA hR hp hv hR2 hy hA' hZ hWd hm
  go_enter Tryz.func56, Tryz.ntmps56
  go_wp2_with fail
  generalize ((w.alloc (.cells #[.int .i64 kind, .string s, .int .i64 lo, .int .i64 hi', .slice Ak kl ck] 45)).alloc (.cells #[.int .i64 (M : Nat), .int .i64 (N : Nat), .slice P N pc] 75)) = W at *
  obtain ⟨m0, m1, m2, m3, m4⟩ := blk5 hBN
  obtain ⟨v0, v1⟩ := blk1 hA2.var
  obtain ⟨a0, a1⟩ := blkU_cell hA2.at_ hil
  go_cut [10] from 11 to 19 (fun _ wx => ∃ q, wx = (W.setCell ⟨g, i, none⟩ (encU S)).drewN q)
  case first =>
    go_region_with (go_at_call 50; refine (HSU.out _ (by exact sat_heapF W)).mono ?_; rintro e w3 ⟨rfl, q3, rfl⟩)
    all_goals
      go_wp2_with fail
      go_meet
      exact ⟨_, rfl⟩
  case rest =>
    obtain ⟨q, hW1⟩ := hcut
    have hA3 : AtB wc g gv n (vs.set i S) := hW1 ▸ (hA2.set i S).drewN q
    have hA3' : AtB wc gs gsv n ss := hW1 ▸ (⟨hA2'.len, hA2'.at_.far (p := ⟨g, i, none⟩) hgs (encU S), hA2'.var.far (p := ⟨g, i, none⟩) hgsv (encU S)⟩ : AtB (W.setCell ⟨g, i, none⟩ (encU S)) gs gsv n ss).drewN q
    have hB3 : Blk wc w.heap.size 45 #[.int .i64 kind, .string s, .int .i64 lo, .int .i64 hi', .slice Ak kl ck] := hW1 ▸ (hBN.far (p := ⟨g, i, none⟩) (by show w.heap.size ≠ g; omega) (encU S)).drewN q
    have hR3 : Blk wc (w.heap.size + 1) 75 #[.int .i64 (M : Nat), .int .i64 (N : Nat), .slice P N pc] := hW1 ▸ (hBR.far (p := ⟨g, i, none⟩) (by show w.heap.size + 1 ≠ g; omega) (encU S)).drewN q
    have hb3 : ∀ B, B ≤ g → B ≤ w.heap.size → Below B w wc := fun B h1 h2 => hW1 ▸ below_drewN ((hb2.mono h2).setCell (p := ⟨g, i, none⟩) h1 (encU S)) q
    have hil3 : i < (vs.set i S).length := by rw [List.length_set]; exact hil
    have hself : (vs.set i S)[i]'hil3 = S := by simp
    have hss : ∀ y, (vs.set i S).set i y = vs.set i y := fun y => by rw [List.set_set]
    have hsz3 : w.heap.size ≤ wc.heap.size := (hb3 0 (Nat.zero_le _) (Nat.zero_le _)).size
    clear hA2 hA2' hBN hBR m0 m1 m2 m3 m4 v0 v1 a0 a1 hW1 HSU hb2
    obtain ⟨m0, m1, m2, m3, m4⟩ := blk5 hB3
    obtain ⟨v0, v1⟩ := blk1 hA3.var
    obtain ⟨a0, a1⟩ := blkU_cell hA3.at_ hil3
    rw [hself] at a0
    obtain ⟨u0, u1⟩ := blk1 hA3'.var
    obtain ⟨b0, b1⟩ := blkU_cell hA3'.at_ hil'
    rw [HY.out] at b0
    by_cases h17 : kind = 17
    · have hz := HZ.out
      rw [if_pos h17] at hz
      have hMb := Hm.out h17
      have hWw := HWI.out hMb
      subst h17
      obtain ⟨WW, hWW⟩ : ∃ WW, M / 64 + 1 = WW := ⟨_, rfl⟩
      rw [hWW] at hWw hz
      obtain ⟨W1, hW1⟩ : ∃ W1, 1 + WW = W1 := ⟨_, rfl⟩
      rw [hW1] at hz
      obtain ⟨W2, hW2⟩ : ∃ W2, W1 + y = W2 := ⟨_, rfl⟩
      rw [hW2] at hz
      have wA : IntKind.u64.wrap (1 + (WW : Int)) = (W1 : Int) := by rw [show 1 + (WW : Int) = (W1 : Int) by omega]; exact wrap_u (by omega) (by omega)
      have wB : IntKind.u64.wrap ((W1 : Int) + (y : Int)) = (W2 : Int) := by rw [show (W1 : Int) + (y : Int) = (W2 : Int) by omega]; exact wrap_u (by omega) (by omega)
      have wC : IntKind.u64.wrap ((S : Int) + (W2 : Int)) = (Z : Int) := by rw [show (S : Int) + (W2 : Int) = (Z : Int) by omega]; exact wrap_u (by omega) (by omega)
      obtain ⟨p0, p1, p2, _, _, _⟩ := blk3 hR3
      have HWw := Lib.hid hWw
      go_wp2_with fail
      clear hWw hz hWW hW1 hW2 hMb HWI Hm HZ hSb hyb m0 m1 m2 m3 m4
      go_cut [10] from 23 to 36 (fun _ wx => AtB wx g gv n (vs.set i Z) ∧ AtB wx gs gsv n ss ∧ ∀ B, B ≤ g → B ≤ w.heap.size → Below B w wx)
      case first =>
        have hgv3 := hA3.var.lt
        have hgg3 := hA3.at_.lt
        have hrr3 := hR3.lt
        have hsv3 := hA3'.var.lt
        have hss3 := hA3'.at_.lt
        have n0 : g ≠ gv := hA3.ne.symm
        have n1 : g ≠ w.heap.size + 1 := by omega
        have n2 : g ≠ gsv := hgsv.symm
        have n3 : g ≠ gs := hgs.symm
        refine wp_region_noPanic ?_
        refine wp_region_held_drew (S := (fun w' => w'.cell? ⟨gv, 0, none⟩ = some (.slice (some ⟨g, 0, none⟩) n n) ∧ w'.cell? ⟨w.heap.size + 1, 0, none⟩ = some (.int .i64 (M : Nat)) ∧ w'.cell? ⟨w.heap.size + 1, 1, none⟩ = some (.int .i64 (N : Nat)) ∧ w'.cell? ⟨w.heap.size + 1, 2, none⟩ = some (.slice P N pc) ∧ w'.cell? ⟨gsv, 0, none⟩ = some (.slice (some ⟨gs, 0, none⟩) n n) ∧ w'.cell? ⟨gs, i, none⟩ = some (encU y))) (by kernel_rfl) ?hS0 (fun hHeld => ?hR0)
        case hS0 => (try dsimp only); go_keep
        case hR0 =>
          refine wpAnyH_take (i := 0) (oi := ?tO30) (v := ?tV30) ?tA30 (by kernel_rfl) (by kernel_rfl) (by kernel_rfl) (fun _ _ _ h => h) (Or.inl ⟨?tB30, ?tC30⟩) (by assumption) ?tD30
          case tA30 => (first | (simp only [List.getElem?_toArray, List.getElem?_cons_succ, List.getElem?_cons_zero]; done) | (simp only [List.getElem?_toArray, List.getElem?_cons_succ, List.getElem?_cons_zero]; rfl))
          case tB30 => rfl
          case tC30 => (intro w hSw; (try dsimp only at hSw); go_simp; try with_reducible rfl)
          try simp only [Act.put, List.setIfInBounds_toArray, List.set_cons_zero, List.set_cons_succ]
          refine wpAnyH_take (i := 1) (oi := ?tO31) (v := ?tV31) ?tA31 (by kernel_rfl) (by kernel_rfl) (by kernel_rfl) (fun _ _ _ h => h) (Or.inl ⟨?tB31, ?tC31⟩) (by assumption) ?tD31
          case tA31 => (first | (simp only [List.getElem?_toArray, List.getElem?_cons_succ, List.getElem?_cons_zero]; done) | (simp only [List.getElem?_toArray, List.getElem?_cons_succ, List.getElem?_cons_zero]; rfl))
          case tB31 => rfl
          case tC31 => (intro w hSw; (try dsimp only at hSw); go_simp; try with_reducible rfl)
          try simp only [Act.put, List.setIfInBounds_toArray, List.set_cons_zero, List.set_cons_succ]
          refine wpAnyH_take (i := 2) (oi := ?tO32) (v := ?tV32) ?tA32 (by kernel_rfl) (by kernel_rfl) (by kernel_rfl) (fun _ _ _ h => h) (Or.inl ⟨?tB32, ?tC32⟩) (by assumption) ?tD32
          case tA32 => (first | (simp only [List.getElem?_toArray, List.getElem?_cons_succ, List.getElem?_cons_zero]; done) | (simp only [List.getElem?_toArray, List.getElem?_cons_succ, List.getElem?_cons_zero]; rfl))
          case tB32 => rfl
          case tC32 => (intro w hSw; (try dsimp only at hSw); go_simp; try with_reducible rfl)
          try simp only [Act.put, List.setIfInBounds_toArray, List.set_cons_zero, List.set_cons_succ]
          refine wpAnyH_take (i := 4) (oi := ?tO33) (v := ?tV33) ?tA33 (by kernel_rfl) (by kernel_rfl) (by kernel_rfl) (fun _ _ _ h => h) (Or.inl ⟨?tB33, ?tC33⟩) (by assumption) ?tD33
          case tA33 => (first | (simp only [List.getElem?_toArray, List.getElem?_cons_succ, List.getElem?_cons_zero]; done) | (simp only [List.getElem?_toArray, List.getElem?_cons_succ, List.getElem?_cons_zero]; rfl))
          case tB33 => rfl
          case tC33 => (intro w hSw; (try dsimp only at hSw); go_simp; try with_reducible rfl)
          try simp only [Act.put, List.setIfInBounds_toArray, List.set_cons_zero, List.set_cons_succ]
          refine wpAnyH_take (i := 7) (oi := ?tO34) (v := ?tV34) ?tA34 (by kernel_rfl) (by kernel_rfl) (by kernel_rfl) (fun _ _ _ h => h) (Or.inl ⟨?tB34, ?tC34⟩) (by assumption) ?tD34
          case tA34 => (first | (simp only [List.getElem?_toArray, List.getElem?_cons_succ, List.getElem?_cons_zero]; done) | (simp only [List.getElem?_toArray, List.getElem?_cons_succ, List.getElem?_cons_zero]; rfl))
          case tB34 => rfl
          case tC34 => (intro w hSw; (try dsimp only at hSw); go_simp; try with_reducible rfl)
          try simp only [Act.put, List.setIfInBounds_toArray, List.set_cons_zero, List.set_cons_succ]
          refine wpAnyH_take (i := 8) (oi := ?tO35) (v := ?tV35) ?tA35 (by kernel_rfl) (by kernel_rfl) (by kernel_rfl) (fun _ _ _ h => h) (Or.inl ⟨?tB35, ?tC35⟩) (by assumption) ?tD35
          case tA35 => (first | (simp only [List.getElem?_toArray, List.getElem?_cons_succ, List.getElem?_cons_zero]; done) | (simp only [List.getElem?_toArray, List.getElem?_cons_succ, List.getElem?_cons_zero]; rfl))
          case tB35 => rfl
          case tC35 => (intro w hSw; (try dsimp only at hSw); go_simp; try with_reducible rfl)
          try simp only [Act.put, List.setIfInBounds_toArray, List.set_cons_zero, List.set_cons_succ]
          refine wpAnyH_take (i := 9) (oi := ?tO36) (v := ?tV36) ?tA36 (by kernel_rfl) (by kernel_rfl) (by kernel_rfl) (fun _ _ _ h => h) (Or.inl ⟨?tB36, ?tC36⟩) (by assumption) ?tD36
          case tA36 => (first | (simp only [List.getElem?_toArray, List.getElem?_cons_succ, List.getElem?_cons_zero]; done) | (simp only [List.getElem?_toArray, List.getElem?_cons_succ, List.getElem?_cons_zero]; rfl))
          case tB36 => rfl
          case tC36 => (intro w hSw; (try dsimp only at hSw); go_simp; try with_reducible rfl)
          try simp only [Act.put, List.setIfInBounds_toArray, List.set_cons_zero, List.set_cons_succ]
          refine wpAnyH_take (i := 10) (oi := ?tO37) (v := ?tV37) ?tA37 (by kernel_rfl) (by kernel_rfl) (by kernel_rfl) (fun _ _ _ h => h) (Or.inl ⟨?tB37, ?tC37⟩) (by assumption) ?tD37
          case tA37 => (first | (simp only [List.getElem?_toArray, List.getElem?_cons_succ, List.getElem?_cons_zero]; done) | (simp only [List.getElem?_toArray, List.getElem?_cons_succ, List.getElem?_cons_zero]; rfl))
          case tB37 => rfl
          case tC37 => (intro w hSw; (try dsimp only at hSw); go_simp; try with_reducible rfl)
          try simp only [Act.put, List.setIfInBounds_toArray, List.set_cons_zero, List.set_cons_succ]
          refine wpAnyH_ready (rs := [3, 5]) (by kernel_rfl) (by simp) ?_
          refine AllReadyH.cons (o := ?sO35) ?sA35 (fun K hK => ?sB35) ?sC35
          case sA35 => simp only [List.getElem?_toArray, List.getElem?_cons_succ, List.getElem?_cons_zero]; rfl
          case sB35 =>
            go_simp
            refine hK.out _ _ ?kS36 (fun hHeld => ?kR36)
            case kS36 => (try dsimp only); go_keep
            case kR36 =>
              clear hK K
              try simp only [Act.put, List.setIfInBounds_toArray, List.set_cons_zero, List.set_cons_succ]
              refine wpAnyH_ready (rs := [5]) (by kernel_rfl) (by simp) ?_
              refine AllReadyH.cons (o := ?sO37) ?sA37 (fun K hK => ?sB37) ?sC37
              case sA37 => simp only [List.getElem?_toArray, List.getElem?_cons_succ, List.getElem?_cons_zero]; rfl
              case sB37 =>
                go_simp
                go_at_call 57; refine (HWw.out _).mono ?_; rintro e w5 ⟨rfl, hw5⟩; have hz : Below wc.heap.size wc w5 := (by first | exact hw5 | exact ⟨hw5.os, hw5.tape, hw5.output, hw5.size, hw5.block⟩); have s0 := (hz.cell (p := ⟨gv, 0, none⟩) hgv3).trans v0; have s1 := (hz.cell (p := ⟨w.heap.size + 1, 0, none⟩) hrr3).trans p0; have s2 := (hz.cell (p := ⟨w.heap.size + 1, 1, none⟩) hrr3).trans p1; have s3 := (hz.cell (p := ⟨w.heap.size + 1, 2, none⟩) hrr3).trans p2; have s4 := (hz.cell (p := ⟨gsv, 0, none⟩) hsv3).trans u0; have s5 := (hz.cell (p := ⟨gs, i, none⟩) hss3).trans b0; have a2 := (hz.cell (p := ⟨g, i, none⟩) hgg3).trans a0; have a3 := (hA3.call hz).at_.frozen i
                try go_wp2_with fail
                refine hK.out _ _ ?kS38 (fun hHeld => ?kR38)
                case kS38 => (try dsimp only); go_keep
                case kR38 =>
                  clear hK K
                  try simp only [Act.put, List.setIfInBounds_toArray, List.set_cons_zero, List.set_cons_succ]
                  refine wpAnyH_take (i := 6) (oi := ?tO38) (v := ?tV38) ?tA38 (by kernel_rfl) (by kernel_rfl) (by kernel_rfl) (fun _ _ _ h => h) (Or.inl ⟨?tB38, ?tC38⟩) (by assumption) ?tD38
                  case tA38 => (first | (simp only [List.getElem?_toArray, List.getElem?_cons_succ, List.getElem?_cons_zero]; done) | (simp only [List.getElem?_toArray, List.getElem?_cons_succ, List.getElem?_cons_zero]; rfl))
                  case tB38 => rfl
                  case tC38 => (intro w hSw; (try dsimp only at hSw); go_simp; try with_reducible rfl)
                  try simp only [Act.put, List.setIfInBounds_toArray, List.set_cons_zero, List.set_cons_succ]
                  refine wpAnyH_take (i := 11) (oi := ?tO39) (v := ?tV39) ?tA39 (by kernel_rfl) (by kernel_rfl) (by kernel_rfl) (fun _ _ _ h => h) (Or.inl ⟨?tB39, ?tC39⟩) (by assumption) ?tD39
                  case tA39 => (first | (simp only [List.getElem?_toArray, List.getElem?_cons_succ, List.getElem?_cons_zero]; done) | (simp only [List.getElem?_toArray, List.getElem?_cons_succ, List.getElem?_cons_zero]; rfl))
                  case tB39 => rfl
                  case tC39 => (intro w hSw; (try dsimp only at hSw); go_simp; try with_reducible rfl)
                  try simp only [Act.put, List.setIfInBounds_toArray, List.set_cons_zero, List.set_cons_succ]
                  refine wpAnyH_take (i := 12) (oi := ?tO40) (v := ?tV40) ?tA40 (by kernel_rfl) (by kernel_rfl) (by kernel_rfl) (fun _ _ _ h => h) (Or.inl ⟨?tB40, ?tC40⟩) (by assumption) ?tD40
                  case tA40 => (first | (simp only [List.getElem?_toArray, List.getElem?_cons_succ, List.getElem?_cons_zero]; done) | (simp only [List.getElem?_toArray, List.getElem?_cons_succ, List.getElem?_cons_zero]; rfl))
                  case tB40 => rfl
                  case tC40 => (intro w hSw; (try dsimp only at hSw); go_simp; try with_reducible rfl)
                  try simp only [Act.put, List.setIfInBounds_toArray, List.set_cons_zero, List.set_cons_succ]
                  refine wpAnyH_take (i := 13) (oi := ?tO41) (v := ?tV41) ?tA41 (by kernel_rfl) (by kernel_rfl) (by kernel_rfl) (fun _ _ _ h => h) (Or.inl ⟨?tB41, ?tC41⟩) (by assumption) ?tD41
                  case tA41 => (first | (simp only [List.getElem?_toArray, List.getElem?_cons_succ, List.getElem?_cons_zero]; done) | (simp only [List.getElem?_toArray, List.getElem?_cons_succ, List.getElem?_cons_zero]; rfl))
                  case tB41 => rfl
                  case tC41 => (intro w hSw; (try dsimp only at hSw); go_simp; try with_reducible rfl)
                  try simp only [Act.put, List.setIfInBounds_toArray, List.set_cons_zero, List.set_cons_succ]
                  refine wpAnyH_ready (rs := [14]) (by kernel_rfl) (by simp) ?_
                  refine AllReadyH.cons (o := ?sO39) ?sA39 (fun K hK => ?sB39) ?sC39
                  case sA39 => simp only [List.getElem?_toArray, List.getElem?_cons_succ, List.getElem?_cons_zero]; rfl
                  case sB39 =>
                    go_simp
                    refine hK.out _ _ ?kS40 (fun hHeld => ?kR40)
                    case kS40 => (try dsimp only); exact ⟨cell_other n0 s0, cell_other n1 s1, cell_other n1 s2, cell_other n1 s3, cell_other n2 s4, cell_other n3 s5⟩
                    case kR40 =>
                      clear hK K
                      try simp only [Act.put, List.setIfInBounds_toArray, List.set_cons_zero, List.set_cons_succ]
                      refine wpAnyH_done (by kernel_rfl) ?_ _
                      refine NoPanic.normal ?_
                      have hA5 := (hA3.call hz).set i Z
                      rw [hss] at hA5
                      go_wp2_with fail
                      go_meet
                      exact ⟨hA5, ⟨(hA3'.call hz).len, (hA3'.call hz).at_.far (p := ⟨g, i, none⟩) hgs _, (hA3'.call hz).var.far (p := ⟨g, i, none⟩) hgsv _⟩, fun B h1 h2 => ((hb3 B h1 h2).trans (hz.mono (by omega))).setCell (p := ⟨g, i, none⟩) h1 _⟩
                  case sC39 =>
                    exact AllReadyH.nil
              case sC37 =>
                exact AllReadyH.nil
          case sC35 =>
            refine AllReadyH.cons (o := ?sO41) ?sA41 (fun K hK => ?sB41) ?sC41
            case sA41 => simp only [List.getElem?_toArray, List.getElem?_cons_succ, List.getElem?_cons_zero]; rfl
            case sB41 =>
              go_simp
              go_at_call 57; refine (HWw.out _).mono ?_; rintro e w5 ⟨rfl, hw5⟩; have hz : Below wc.heap.size wc w5 := (by first | exact hw5 | exact ⟨hw5.os, hw5.tape, hw5.output, hw5.size, hw5.block⟩); have s0 := (hz.cell (p := ⟨gv, 0, none⟩) hgv3).trans v0; have s1 := (hz.cell (p := ⟨w.heap.size + 1, 0, none⟩) hrr3).trans p0; have s2 := (hz.cell (p := ⟨w.heap.size + 1, 1, none⟩) hrr3).trans p1; have s3 := (hz.cell (p := ⟨w.heap.size + 1, 2, none⟩) hrr3).trans p2; have s4 := (hz.cell (p := ⟨gsv, 0, none⟩) hsv3).trans u0; have s5 := (hz.cell (p := ⟨gs, i, none⟩) hss3).trans b0; have a2 := (hz.cell (p := ⟨g, i, none⟩) hgg3).trans a0; have a3 := (hA3.call hz).at_.frozen i
              try go_wp2_with fail
              refine hK.out _ _ ?kS42 (fun hHeld => ?kR42)
              case kS42 => (try dsimp only); go_keep
              case kR42 =>
                clear hK K
                try simp only [Act.put, List.setIfInBounds_toArray, List.set_cons_zero, List.set_cons_succ]
                refine wpAnyH_take (i := 6) (oi := ?tO42) (v := ?tV42) ?tA42 (by kernel_rfl) (by kernel_rfl) (by kernel_rfl) (fun _ _ _ h => h) (Or.inl ⟨?tB42, ?tC42⟩) (by assumption) ?tD42
                case tA42 => (first | (simp only [List.getElem?_toArray, List.getElem?_cons_succ, List.getElem?_cons_zero]; done) | (simp only [List.getElem?_toArray, List.getElem?_cons_succ, List.getElem?_cons_zero]; rfl))
                case tB42 => rfl
                case tC42 => (intro w hSw; (try dsimp only at hSw); go_simp; try with_reducible rfl)
                try simp only [Act.put, List.setIfInBounds_toArray, List.set_cons_zero, List.set_cons_succ]
                refine wpAnyH_take (i := 11) (oi := ?tO43) (v := ?tV43) ?tA43 (by kernel_rfl) (by kernel_rfl) (by kernel_rfl) (fun _ _ _ h => h) (Or.inl ⟨?tB43, ?tC43⟩) (by assumption) ?tD43
                case tA43 => (first | (simp only [List.getElem?_toArray, List.getElem?_cons_succ, List.getElem?_cons_zero]; done) | (simp only [List.getElem?_toArray, List.getElem?_cons_succ, List.getElem?_cons_zero]; rfl))
                case tB43 => rfl
                case tC43 => (intro w hSw; (try dsimp only at hSw); go_simp; try with_reducible rfl)
                try simp only [Act.put, List.setIfInBounds_toArray, List.set_cons_zero, List.set_cons_succ]
                refine wpAnyH_ready (rs := [3]) (by kernel_rfl) (by simp) ?_
                refine AllReadyH.cons (o := ?sO43) ?sA43 (fun K hK => ?sB43) ?sC43
                case sA43 => simp only [List.getElem?_toArray, List.getElem?_cons_succ, List.getElem?_cons_zero]; rfl
                case sB43 =>
                  go_simp
                  refine hK.out _ _ ?kS44 (fun hHeld => ?kR44)
                  case kS44 => (try dsimp only); go_keep
                  case kR44 =>
                    clear hK K
                    try simp only [Act.put, List.setIfInBounds_toArray, List.set_cons_zero, List.set_cons_succ]
                    refine wpAnyH_take (i := 12) (oi := ?tO44) (v := ?tV44) ?tA44 (by kernel_rfl) (by kernel_rfl) (by kernel_rfl) (fun _ _ _ h => h) (Or.inl ⟨?tB44, ?tC44⟩) (by assumption) ?tD44
                    case tA44 => (first | (simp only [List.getElem?_toArray, List.getElem?_cons_succ, List.getElem?_cons_zero]; done) | (simp only [List.getElem?_toArray, List.getElem?_cons_succ, List.getElem?_cons_zero]; rfl))
                    case tB44 => rfl
                    case tC44 => (intro w hSw; (try dsimp only at hSw); go_simp; try with_reducible rfl)
                    try simp only [Act.put, List.setIfInBounds_toArray, List.set_cons_zero, List.set_cons_succ]
                    refine wpAnyH_take (i := 13) (oi := ?tO45) (v := ?tV45) ?tA45 (by kernel_rfl) (by kernel_rfl) (by kernel_rfl) (fun _ _ _ h => h) (Or.inl ⟨?tB45, ?tC45⟩) (by assumption) ?tD45
                    case tA45 => (first | (simp only [List.getElem?_toArray, List.getElem?_cons_succ, List.getElem?_cons_zero]; done) | (simp only [List.getElem?_toArray, List.getElem?_cons_succ, List.getElem?_cons_zero]; rfl))
                    case tB45 => rfl
                    case tC45 => (intro w hSw; (try dsimp only at hSw); go_simp; try with_reducible rfl)
                    try simp only [Act.put, List.setIfInBounds_toArray, List.set_cons_zero, List.set_cons_succ]
                    refine wpAnyH_ready (rs := [14]) (by kernel_rfl) (by simp) ?_
                    refine AllReadyH.cons (o := ?sO45) ?sA45 (fun K hK => ?sB45) ?sC45
                    case sA45 => simp only [List.getElem?_toArray, List.getElem?_cons_succ, List.getElem?_cons_zero]; rfl
                    case sB45 =>
                      go_simp
                      refine hK.out _ _ ?kS46 (fun hHeld => ?kR46)
                      case kS46 => (try dsimp only); exact ⟨cell_other n0 s0, cell_other n1 s1, cell_other n1 s2, cell_other n1 s3, cell_other n2 s4, cell_other n3 s5⟩
                      case kR46 =>
                        clear hK K
                        try simp only [Act.put, List.setIfInBounds_toArray, List.set_cons_zero, List.set_cons_succ]
                        refine wpAnyH_done (by kernel_rfl) ?_ _
                        refine NoPanic.normal ?_
                        have hA5 := (hA3.call hz).set i Z
                        rw [hss] at hA5
                        go_wp2_with fail
                        go_meet
                        exact ⟨hA5, ⟨(hA3'.call hz).len, (hA3'.call hz).at_.far (p := ⟨g, i, none⟩) hgs _, (hA3'.call hz).var.far (p := ⟨g, i, none⟩) hgsv _⟩, fun B h1 h2 => ((hb3 B h1 h2).trans (hz.mono (by omega))).setCell (p := ⟨g, i, none⟩) h1 _⟩
                    case sC45 =>
                      exact AllReadyH.nil
                case sC43 =>
                  exact AllReadyH.nil
            case sC41 =>
              exact AllReadyH.nil
      case rest =>
        obtain ⟨hA5, hA5', hb5⟩ := hcut
        obtain ⟨v2, v3⟩ := blk1 hA5.var
        obtain ⟨a2, a3⟩ := blkU_cell hA5.at_ (i := i) (by rw [List.length_set]; exact hil)
        rw [List.getElem_set_self] at a2
        clear hA3 hA3' hb3 v0 v1 a0 a1 u0 u1 b0 b1 p0 p1 p2
        go_wp2_with fail
        go_ret
        exact ⟨rfl, hA5, hA5', hb5⟩
    · have hkb : (kind == 17) = false := by rw [beq_eq_false_iff_ne]; exact h17
      have hz := HZ.out
      rw [if_neg h17, Nat.add_zero] at hz
      subst hz
      clear HZ h17
      go_wp2_with fail
      go_ret
      exact ⟨rfl, hA3, hA3', hb3⟩
end Go.Proofs.YtdohbbjinbofbaaGreat
