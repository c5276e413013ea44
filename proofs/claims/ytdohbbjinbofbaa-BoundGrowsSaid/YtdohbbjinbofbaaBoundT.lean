/- The walk of stay's closure. -/
import Derived.Test.YtdohbbjinbofbaaBoundS
import Derived.Test.YtdohbbjinbofbaaBoundI
set_option linter.unusedVariables false
set_option linter.unusedSimpArgs false
/-! The walk of stay's closure. -/
namespace Go.Proofs.Ytdohbbjinbofbaa
open Go.RowKit
theorem cell_other {w : World} {p a : Addr} {u v : Value} (h : p.block ≠ a.block) (hc : w.cell? a = some v) : (w.setCell p u).cell? a = some v := by rw [World.cell?_setCell_other (h := fun e => h (congrArg Addr.block e)), hc]
set_option maxRecDepth 100000 in
set_option maxHeartbeats 4000000 in
/-- The closure of stay at one node. -/
theorem stayF_w {w : World} (x : Tr) (g gv gr n : Nat) (vs : List Nat) (hA : AtB w g gv n vs) (room : Int) (hRm : Blk w gr 3 #[.int .i64 room]) (C : Nat) (hC : min (max room 1) 4096 = (C : Int)) (hn : n ≤ 1000) (i : Nat) (hi : i < n) (ps : List Nat) (hp : ∀ p ∈ ps, p < n) (hv : ∀ v ∈ vs, v ≤ 1099511627776) (hm : matchS x.root.kind = true → stepsM x ≤ 1000 ∧ testsM x ≤ 1000 ∧ spanS x.root.lo x.root.hi = true)
    (s : ByteArray) (Ak : Option Addr) (kl ck : Nat) (P : Option Addr) (pc : Nat) (Bl : Option Addr) (bn bc : Nat) (hR : Rd (heapF w) 1 Bl bn ((zs ps).map encI)) (hbn : bn ≤ 1000) (S : Nat) (hS : sumL (ps.map fun k => vs.getD k 0) = S) (Z : Nat) (hZ : S + stayO C x = Z) :
    Calls Try.prog 84 (#[.int .i64 i, .agg #[.int .i64 x.root.kind, .string s, .int .i64 x.root.lo, .int .i64 x.root.hi, .slice Ak kl ck], .agg #[.int .i64 (stepsM x : Nat), .int .i64 (testsM x : Nat), .slice P (testsM x) pc], .slice Bl bn bc] ++ #[.pointer (some ⟨gv, 0, none⟩), .pointer (some ⟨gr, 0, none⟩)]) w fun e w' => e = .returned (encU 0) ∧ AtB w' g gv n (vs.set i Z) ∧ Blk w' gr 3 #[.int .i64 room] ∧ ∀ B, B ≤ g → B ≤ w.heap.size → Below B w w' := by
  have hM := fun X => match_w x.root.kind s x.root.lo x.root.hi Ak kl ck X (matchS x.root.kind) rfl
  have hMem := fun (h1 : stepsM x ≤ 1000) (h2 : testsM x ≤ 1000) (X : World) => rmemo_w (stepsM x) (testsM x) h1 h2 P (testsM x) pc room C hC X
  have hWd := fun (h1 : stepsM x ≤ 1000) (X : World) => rwide_w (stepsM x) (testsM x) h1 P (testsM x) pc X
  have hIv := fun hs X => wide_w x.root hs X
  have hWb := fun hs => (wideN_of (h := x.root) hs).2.1
  unfold stayO at hZ
  generalize x.root = R at *
  generalize stepsM x = M at *
  generalize testsM x = N at *
  obtain ⟨kind, name, lo, hi', kk⟩ := R
  dsimp only at *
  obtain ⟨Wd, hWdn⟩ : ∃ Wd, wideN ⟨kind, name, lo, hi', kk⟩ = Wd := ⟨_, rfl⟩
  rw [hWdn] at hZ hIv hWb
  obtain ⟨mb, hmb⟩ : ∃ mb, matchS kind = mb := ⟨_, rfl⟩
  rw [hmb] at hM hm hZ
  have hgr : gr ≠ g := hRm.ne_ hA.at_ (by decide)
  have hb2 : Below w.heap.size w ((w.alloc (.cells #[.int .i64 kind, .string s, .int .i64 lo, .int .i64 hi', .slice Ak kl ck] 30)).alloc (.cells #[.int .i64 (M : Nat), .int .i64 (N : Nat), .slice P N pc] 71)) := (balloc w _).alloc (by simp) _
  have hBN := (Blk.new w 30 #[.int .i64 kind, .string s, .int .i64 lo, .int .i64 hi', .slice Ak kl ck]).alloc (.cells #[.int .i64 (M : Nat), .int .i64 (N : Nat), .slice P N pc] 71)
  have hBR := Blk.new2 w (.cells #[.int .i64 kind, .string s, .int .i64 lo, .int .i64 hi', .slice Ak kl ck] 30) 71 #[.int .i64 (M : Nat), .int .i64 (N : Nat), .slice P N pc]
  have hA2 := hA.call hb2
  have hRm2 := hRm.call hb2
  have hR2 := hR.cle (cle_below hb2)
  have hlw := hA.at_.lt
  have hlg : g < w.heap.size := hlw
  have hvb : S ≤ bn * 1099511627776 := by
    rw [← hS]
    refine Nat.le_trans (sumL_le 1099511627776 _ ?_) ?_
    · intro y hy
      obtain ⟨k, hk, rfl⟩ := List.mem_map.1 hy
      have hkn := hp k hk
      rw [List.getD, List.getElem?_eq_getElem (by rw [hA.len]; exact hkn)]
      exact hv _ (List.getElem_mem _)
    · rw [List.length_map]
      have := hR.1
      simp [zs] at this
      omega
  have hSb : S ≤ 1099511627776000 := by omega
  have HM := Lib.hid hM
  have hsums := fun (X : World) (h : Sat (heapF ((w.alloc (.cells #[.int .i64 kind, .string s, .int .i64 lo, .int .i64 hi', .slice Ak kl ck] 30)).alloc (.cells #[.int .i64 (M : Nat), .int .i64 (N : Nat), .slice P N pc] 71))) X) => sums_w h vs ps (some ⟨g, 0, none⟩) Bl n bn n bc (by have := rd_blk hA2.at_; rw [List.length_map, hA.len] at this; exact this) hR2 hp hv hbn
  rw [hS] at hsums
  have HSU := Lib.hid hsums
  have hiI : (i : Int) < (n : Int) := by omega
  have hil : i < vs.length := by rw [hA.len]; exact hi
  have HMB := Lib.hid hmb
  have HME := Lib.hid hMem
  have HWI := Lib.hid hWd
  have HIV := Lib.hid hIv
  have HWB := Lib.hid hWb
  have Hm := Lib.hid hm
  have HZ := Lib.hid hZ
  clear hM hS hsums hA hR hp hv hvb hR2 hmb hMem hWd hIv hWb hm hZ hRm hWdn
  go_enter Try.func84, Try.ntmps84
  go_wp2_with fail
  generalize ((w.alloc (.cells #[.int .i64 kind, .string s, .int .i64 lo, .int .i64 hi', .slice Ak kl ck] 30)).alloc (.cells #[.int .i64 (M : Nat), .int .i64 (N : Nat), .slice P N pc] 71)) = W at *
  obtain ⟨m0, m1, m2, m3, m4⟩ := blk5 hBN
  obtain ⟨v0, v1⟩ := blk1 hA2.var
  obtain ⟨a0, a1⟩ := blkU_cell hA2.at_ hil
  go_cut [10] from 11 to 18 (fun _ wx => ∃ q, wx = (W.setCell ⟨g, i, none⟩ (encU S)).drewN q)
  case first =>
    go_region_with (go_at_call 55; refine (HSU.out _ (by exact sat_heapF W)).mono ?_; rintro e w3 ⟨rfl, q3, rfl⟩)
    all_goals
      go_wp2_with fail
      go_meet
      exact ⟨_, rfl⟩
  case rest =>
    obtain ⟨q, hW1⟩ := hcut
    have hA3 : AtB wc g gv n (vs.set i S) := hW1 ▸ (hA2.set i S).drewN q
    have hB3 : Blk wc w.heap.size 30 #[.int .i64 kind, .string s, .int .i64 lo, .int .i64 hi', .slice Ak kl ck] := hW1 ▸ (hBN.far (p := ⟨g, i, none⟩) (by show w.heap.size ≠ g; omega) (encU S)).drewN q
    have hR3 : Blk wc (w.heap.size + 1) 71 #[.int .i64 (M : Nat), .int .i64 (N : Nat), .slice P N pc] := hW1 ▸ (hBR.far (p := ⟨g, i, none⟩) (by show w.heap.size + 1 ≠ g; omega) (encU S)).drewN q
    have hG3 : Blk wc gr 3 #[.int .i64 room] := hW1 ▸ (hRm2.far (p := ⟨g, i, none⟩) hgr (encU S)).drewN q
    have hb3 : ∀ B, B ≤ g → B ≤ w.heap.size → Below B w wc := fun B h1 h2 => hW1 ▸ below_drewN ((hb2.mono h2).setCell (p := ⟨g, i, none⟩) h1 (encU S)) q
    have hil3 : i < (vs.set i S).length := by rw [List.length_set]; exact hil
    have hself : (vs.set i S)[i]'hil3 = S := by simp
    have hss : ∀ y, (vs.set i S).set i y = vs.set i y := fun y => by rw [List.set_set]
    have hsz3 : w.heap.size ≤ wc.heap.size := (hb3 0 (Nat.zero_le _) (Nat.zero_le _)).size
    clear hA2 hBN hBR hRm2 m0 m1 m2 m3 m4 v0 v1 a0 a1 hW1 HSU hb2
    obtain ⟨m0, m1, m2, m3, m4⟩ := blk5 hB3
    cases mb with
    | false =>
      have h16 : ¬ kind = 16 := fun e => by have := HMB.out; rw [matchS_iff.2 (.inl e)] at this; cases this
      have h16b : (kind == 16) = false := by rw [beq_eq_false_iff_ne]; exact h16
      have hz := HZ.out
      rw [if_neg h16] at hz
      simp at hz
      subst hz
      clear h16
      go_wp2_with (go_at_call 80; refine (HM.out _).mono ?_; rintro e w4 ⟨rfl, hw4⟩; have hA4 := hA3.call hw4; have hG4 := hG3.call hw4; obtain ⟨m0, m1, m2, m3, m4⟩ := blk5 (hB3.call hw4))
      go_ret
      exact ⟨rfl, hA4, hG4, fun B h1 h2 => (hb3 B h1 h2).trans (hw4.mono (by omega))⟩
    | true =>
      obtain ⟨hMb, hNb, hsp⟩ := Hm.out rfl
      have hMem := HME.out hMb hNb
      have hWw := HWI.out hMb
      have hIv := HIV.out hsp
      have hWb := HWB.out hsp
      have hz := HZ.out
      rw [if_pos rfl] at hz
      obtain ⟨MM, hMM⟩ : ∃ MM, C * (2 * (M / 64 + 1) + (N + 63) / 64 + 1) = MM := ⟨_, rfl⟩
      have hMMb : MM ≤ 1000000 := by
        rw [← hMM]
        exact Nat.le_trans (Nat.mul_le_mul (show C ≤ 4096 by omega) (show 2 * (M / 64 + 1) + (N + 63) / 64 + 1 ≤ 100 by omega)) (by omega)
      rw [hMM] at hMem hz
      obtain ⟨WW, hWW⟩ : ∃ WW, M / 64 + 1 = WW := ⟨_, rfl⟩
      rw [hWW] at hWw hz
      obtain ⟨W1, hW1⟩ : ∃ W1, 1 + WW = W1 := ⟨_, rfl⟩
      have hW1b : W1 ≤ 100 := by omega
      rw [hW1] at hz
      obtain ⟨WO, hWO⟩ : ∃ WO, Wd * W1 = WO := ⟨_, rfl⟩
      have hWOb : WO ≤ 1000000 := by rw [← hWO]; exact Nat.le_trans (Nat.mul_le_mul hWb hW1b) (by omega)
      rw [hWO] at hz
      obtain ⟨S2, hS2⟩ : ∃ S2, S + MM = S2 := ⟨_, rfl⟩
      rw [← Nat.add_assoc, hS2] at hz
      have wM : IntKind.u64.wrap ((S : Int) + (MM : Int)) = (S2 : Int) := by rw [show (S : Int) + (MM : Int) = (S2 : Int) by omega]; exact wrap_u (by omega) (by omega)
      have wA : IntKind.u64.wrap (Wd : Int) = (Wd : Int) := wrap_u (by omega) (by omega)
      have wB : IntKind.u64.wrap (1 + (WW : Int)) = (W1 : Int) := by rw [show 1 + (WW : Int) = (W1 : Int) by omega]; exact wrap_u (by omega) (by omega)
      have wC : IntKind.u64.wrap ((Wd : Int) * (W1 : Int)) = (WO : Int) := by rw [show (Wd : Int) * (W1 : Int) = ((Wd * W1 : Nat) : Int) by rw [Int.natCast_mul], hWO]; exact wrap_u (by omega) (by omega)
      have HS2 : S2 ≤ 2000000000000000 := by omega
      have HMe := Lib.hid hMem
      have HWw := Lib.hid hWw
      have HIv := Lib.hid hIv
      have HZ2 := Lib.hid hz
      clear hMem hWw hIv hz hMM hWW hW1 hWO hS2 HZ HME HWI HIV HWB Hm hMb hNb hsp hWb hMMb hW1b hC
      go_wp2_with (go_at_call 80; refine (HM.out _).mono ?_; rintro e w4 ⟨rfl, hw4⟩)
      have hA4 := hA3.call hw4
      have hB4 := hB3.call hw4
      have hR4 := hR3.call hw4
      have hG4 := hG3.call hw4
      have hb4 := fun B h1 h2 => (hb3 B h1 h2).trans (hw4.mono (by have := hsz3; omega))
      have hsz4 : w.heap.size ≤ w4.heap.size := Nat.le_trans hsz3 hw4.size
      clear hA3 hB3 hR3 hG3 m0 m1 m2 m3 m4 hb3 hsz3 hw4
      obtain ⟨v0, v1⟩ := blk1 hA4.var
      obtain ⟨a0, a1⟩ := blkU_cell hA4.at_ hil3
      rw [hself] at a0
      obtain ⟨p0, p1, p2, _, _, _⟩ := blk3 hR4
      obtain ⟨g0, _⟩ := blk1 hG4
      go_cut [10] from 22 to 30 (fun _ wx => AtB wx g gv n (vs.set i S2) ∧ Blk wx w.heap.size 30 #[.int .i64 kind, .string s, .int .i64 lo, .int .i64 hi', .slice Ak kl ck] ∧ Blk wx (w.heap.size + 1) 71 #[.int .i64 (M : Nat), .int .i64 (N : Nat), .slice P N pc] ∧ Blk wx gr 3 #[.int .i64 room] ∧ w.heap.size ≤ wx.heap.size ∧ ∀ B, B ≤ g → B ≤ w.heap.size → Below B w wx)
      case first =>
        have hgv4 := hA4.var.lt
        have hgr4 := hG4.lt
        have hrr4 := hR4.lt
        have n0 : g ≠ gv := hA4.ne.symm
        have n1 : g ≠ w.heap.size + 1 := by omega
        have n2 : g ≠ gr := hgr.symm
        clear HMB HM HWw HIv HZ2
        go_region_held3 (fun w' => w'.cell? ⟨gv, 0, none⟩ = some (.slice (some ⟨g, 0, none⟩) n n) ∧ w'.cell? ⟨w.heap.size + 1, 0, none⟩ = some (.int .i64 (M : Nat)) ∧ w'.cell? ⟨w.heap.size + 1, 1, none⟩ = some (.int .i64 (N : Nat)) ∧ w'.cell? ⟨w.heap.size + 1, 2, none⟩ = some (.slice P N pc) ∧ w'.cell? ⟨gr, 0, none⟩ = some (.int .i64 room)) (first | go_keep | exact ⟨cell_other n0 s0, cell_other n1 s1, cell_other n1 s2, cell_other n1 s3, cell_other n2 s4⟩)
          (first
            | (go_at_call 85; refine (HMe.out _).mono ?_; rintro e w5 ⟨rfl, hw5⟩; have hz : Below w4.heap.size w4 w5 := (by first | exact hw5 | exact ⟨hw5.os, hw5.tape, hw5.output, hw5.size, hw5.block⟩); have s0 := (hz.cell (p := ⟨gv, 0, none⟩) hgv4).trans v0; have s1 := (hz.cell (p := ⟨w.heap.size + 1, 0, none⟩) hrr4).trans p0; have s2 := (hz.cell (p := ⟨w.heap.size + 1, 1, none⟩) hrr4).trans p1; have s3 := (hz.cell (p := ⟨w.heap.size + 1, 2, none⟩) hrr4).trans p2; have s4 := (hz.cell (p := ⟨gr, 0, none⟩) hgr4).trans g0; have a2 := (hz.cell (p := ⟨g, i, none⟩) hA4.at_.lt).trans a0; have a3 := (hA4.call hz).at_.frozen i))
        all_goals
          have hA5 := (hA4.call hz).set i S2
          rw [hss] at hA5
          go_wp2_with fail
          go_meet
          exact ⟨hA5, (hB4.call hz).far (p := ⟨g, i, none⟩) (by show w.heap.size ≠ g; omega) _, (hR4.call hz).far (p := ⟨g, i, none⟩) (by show w.heap.size + 1 ≠ g; omega) _, (hG4.call hz).far (p := ⟨g, i, none⟩) hgr _, by rw [size_setCell]; exact Nat.le_trans hsz4 hz.size, fun B h1 h2 => ((hb4 B h1 h2).trans (hz.mono (by omega))).setCell (p := ⟨g, i, none⟩) h1 _⟩
      case rest =>
        obtain ⟨hA5, hB5, hR5, hG5, hsz5, hb5⟩ := hcut
        clear hA4 hB4 hR4 hG4 hb4 hsz4 v0 v1 a0 a1 p0 p1 p2 g0
        obtain ⟨m0, m1, m2, m3, m4⟩ := blk5 hB5
        by_cases h16 : kind = 16
        · subst h16
          have hz := HZ2.out
          rw [if_pos rfl] at hz
          have wD : IntKind.u64.wrap ((S2 : Int) + (WO : Int)) = (Z : Int) := by rw [show (S2 : Int) + (WO : Int) = (Z : Int) by omega]; exact wrap_u (by omega) (by omega)
          have hil5 : i < (vs.set i S2).length := by rw [List.length_set]; exact hil
          have hself5 : (vs.set i S2)[i]'hil5 = S2 := by simp
          have hss5 : ∀ y, (vs.set i S2).set i y = vs.set i y := fun y => by rw [List.set_set]
          obtain ⟨v0, v1⟩ := blk1 hA5.var
          obtain ⟨a0, a1⟩ := blkU_cell hA5.at_ hil5
          rw [hself5] at a0
          obtain ⟨p0, p1, p2, _, _, _⟩ := blk3 hR5
          clear hz HZ2 HMe HM HMB hself hss hil3 wM
          go_wp2_with fail
          go_cut [10] from 34 to 47 (fun _ wx => AtB wx g gv n (vs.set i Z) ∧ Blk wx gr 3 #[.int .i64 room] ∧ ∀ B, B ≤ g → B ≤ w.heap.size → Below B w wx)
          case first =>
            have hgv5 := hA5.var.lt
            have hrr5 := hR5.lt
            have hbb5 := hB5.lt
            have hgg5 := hA5.at_.lt
            have n0 : g ≠ gv := hA5.ne.symm
            have n1 : g ≠ w.heap.size + 1 := by omega
            have n2 : g ≠ w.heap.size := by omega
            clear m0 m1 m4
            go_region_held3 (fun w' => w'.cell? ⟨gv, 0, none⟩ = some (.slice (some ⟨g, 0, none⟩) n n) ∧ w'.cell? ⟨w.heap.size + 1, 0, none⟩ = some (.int .i64 (M : Nat)) ∧ w'.cell? ⟨w.heap.size + 1, 1, none⟩ = some (.int .i64 (N : Nat)) ∧ w'.cell? ⟨w.heap.size + 1, 2, none⟩ = some (.slice P N pc) ∧ w'.cell? ⟨w.heap.size, 2, none⟩ = some (.int .i64 lo) ∧ w'.cell? ⟨w.heap.size, 3, none⟩ = some (.int .i64 hi')) (first | go_keep | exact ⟨cell_other n0 t0, cell_other n1 t1, cell_other n1 t2, cell_other n1 t3, cell_other n2 t4, cell_other n2 t5⟩)
              (first
                | (go_at_call 58; refine (HWw.out _).mono ?_; rintro e w7 ⟨rfl, hw7⟩; have hy : Below wc.heap.size wc w7 := (by refine hz.trans (Below.mono ?_ hz.size); first | exact hw7 | exact ⟨hw7.os, hw7.tape, hw7.output, hw7.size, hw7.block⟩); have t0 := (hy.cell (p := ⟨gv, 0, none⟩) hgv5).trans v0; have t1 := (hy.cell (p := ⟨w.heap.size + 1, 0, none⟩) hrr5).trans p0; have t2 := (hy.cell (p := ⟨w.heap.size + 1, 1, none⟩) hrr5).trans p1; have t3 := (hy.cell (p := ⟨w.heap.size + 1, 2, none⟩) hrr5).trans p2; have t4 := (hy.cell (p := ⟨w.heap.size, 2, none⟩) hbb5).trans m2; have t5 := (hy.cell (p := ⟨w.heap.size, 3, none⟩) hbb5).trans m3; have a4 := (hy.cell (p := ⟨g, i, none⟩) hgg5).trans a0; have a5 := (hA5.call hy).at_.frozen i)
                | (go_at_call 14; refine (HIv.out _).mono ?_; rintro e w6 ⟨rfl, hw6⟩; have hz : Below wc.heap.size wc w6 := (by first | exact hw6 | exact ⟨hw6.os, hw6.tape, hw6.output, hw6.size, hw6.block⟩); have s0 := (hz.cell (p := ⟨gv, 0, none⟩) hgv5).trans v0; have s1 := (hz.cell (p := ⟨w.heap.size + 1, 0, none⟩) hrr5).trans p0; have s2 := (hz.cell (p := ⟨w.heap.size + 1, 1, none⟩) hrr5).trans p1; have s3 := (hz.cell (p := ⟨w.heap.size + 1, 2, none⟩) hrr5).trans p2; have s4 := (hz.cell (p := ⟨w.heap.size, 2, none⟩) hbb5).trans m2; have s5 := (hz.cell (p := ⟨w.heap.size, 3, none⟩) hbb5).trans m3; have a2 := (hz.cell (p := ⟨g, i, none⟩) hgg5).trans a0; have a3 := (hA5.call hz).at_.frozen i))
            all_goals
              have hA7 := (hA5.call hy).set i Z
              rw [hss5] at hA7
              go_wp2_with fail
              go_meet
              exact ⟨hA7, (hG5.call hy).far (p := ⟨g, i, none⟩) hgr _, fun B h1 h2 => ((hb5 B h1 h2).trans (hy.mono (by omega))).setCell (p := ⟨g, i, none⟩) h1 _⟩
          case rest =>
            obtain ⟨hA7, hG7, hb7⟩ := hcut
            go_wp2_with fail
            go_ret
            exact ⟨rfl, hA7, hG7, hb7⟩
        · have h16b : (kind == 16) = false := by rw [beq_eq_false_iff_ne]; exact h16
          have hz := HZ2.out
          rw [if_neg h16, Nat.add_zero] at hz
          subst hz
          clear h16
          go_wp2_with fail
          go_ret
          exact ⟨rfl, hA5, hG5, hb5⟩
end Go.Proofs.Ytdohbbjinbofbaa
/-! The walk of bound.stay, and of Cells' closure. -/
namespace Go.Proofs.Ytdohbbjinbofbaa
open Go.RowKit
theorem bel_len {l : List Nd} (hn : l.length ≤ 1000) {t : Tr} (ht : treeS l = some t) (i : Nat) (hi : i < l.length) : (belM (t.sub i) i).length ≤ 1000 := by
  have hlt := tree_len ht
  cases hx : t.sub i with
  | leaf _ => simp [belM]
  | bin _ _ _ => simp [belM]
  | un h a =>
    have h3 := Tr.sub_size_le t i (by omega)
    rw [hx] at h3
    simp only [Tr.size] at h3
    have h4 := testsT_le a
    simp only [belM]
    split
    · rw [List.length_map, length_tests]; omega
    · simp
theorem match_facts {l : List Nd} (hn : l.length ≤ 1000) {t : Tr} (ht : treeS l = some t) (i : Nat) (hi : i < l.length) (hm : matchS (t.sub i).root.kind = true) : stepsM (t.sub i) ≤ 1000 ∧ testsM (t.sub i) ≤ 1000 ∧ spanS (t.sub i).root.lo (t.sub i).root.hi = true := by
  have hm' := matchS_iff.1 hm
  obtain ⟨h, a, hx, hk, _, _, hs, _⟩ := match_un ht i hi hm'
  obtain ⟨_, _, h1, h2⟩ := (node_bounds hn ht i hi).1 h a hx hk
  rw [hx]
  exact ⟨by simp only [stepsM]; rw [if_pos hk]; exact h1, by simp only [testsM]; rw [if_pos hk]; exact h2, hs⟩
set_option maxRecDepth 100000 in
set_option maxHeartbeats 1000000 in
/-- bound.stay: of each node its Stay. -/
theorem stay_w {F : Fz} {w : World} (hF : Sat F w) (l : List Nd) (hn : l.length ≤ 1000) (A : Option Addr) (n c : Nat) (hc : n ≤ c) (hl : NodesF F A n l) (hb : (formL l && plainS l) = true) {t : Tr} (ht : treeS l = some t) (room : Int) (C : Nat) (hC : min (max room 1) 4096 = (C : Int)) :
    Calls Try.prog 56 #[.slice A n c, .int .i64 room] w fun e w' => ∃ g gv, e = .returned (.slice (some ⟨g, 0, none⟩) n n) ∧ AtB w' g gv n (atV (stayT C) t n n) ∧ w.heap.size ≤ g ∧ w.heap.size ≤ gv ∧ Below w.heap.size w w' := by
  have hmf : ∀ (fn : Fn) (first cap : Array Value) (w : World), (Instr.makeFunc fn first cap).run Try.prog w = .ok (.func fn first cap) w := fun _ _ _ _ => rfl
  have hlN := hl.cle hF.cle
  obtain ⟨hf, hp, _⟩ := plain_tree hb
  have hlt := tree_len ht
  have hnl : n = l.length := hl.1.symm
  have hval := tree_valid ht
  have hCb : C ≤ 4096 := by omega
  have hsub : ∀ j, j < n → stayT C (t.sub j) ≤ 1099511627776 := fun j hj => by
    have h2 := Tr.sub_size_le t j (by omega)
    have h1 := stayT_le hCb (t.sub j) (sub_valid t j hval) (by omega)
    omega
  have hmk := mk49 (w := w.alloc (.cells #[.int .i64 room] 3)) n (by omega)
  have hsz1 : (w.alloc (.cells #[.int .i64 room] 3)).heap.size = w.heap.size + 1 := by simp
  rw [hsz1] at hmk
  obtain ⟨W, hW⟩ : ∃ W, W = ((w.alloc (.cells #[.int .i64 room] 3)).alloc (.cells (zeros (.int .u64 0) n) 25)).alloc (.cells #[.slice (some ⟨w.heap.size + 1, 0, none⟩) n n] 49) := ⟨_, rfl⟩
  have hbW : Below w.heap.size w W := hW ▸ ((balloc w _).alloc (by simp) _).alloc (by simp; omega) _
  have hB0 : Blk W w.heap.size 3 #[.int .i64 room] := hW ▸ ((Blk.new w 3 #[.int .i64 room]).alloc _).alloc _
  have hB1 : Blk W (w.heap.size + 1) 25 (zeros (.int .u64 0) n) := hW ▸ (Blk.new2 w _ 25 (zeros (.int .u64 0) n)).alloc _
  have hB2 : Blk W (w.heap.size + 2) 49 #[.slice (some ⟨w.heap.size + 1, 0, none⟩) n n] := hW ▸ new3 w _ _ 49 #[.slice (some ⟨w.heap.size + 1, 0, none⟩) n n]
  have hA0 : AtB W (w.heap.size + 1) (w.heap.size + 2) n (atV (stayT C) t n 0) := ⟨atV_len _ _ _ _, by rw [atV_zero, show (List.replicate n (encU 0)).toArray = zeros (.int .u64 0) n by simp [zeros]]; exact hB1, hB2⟩
  have hO := over26_w (F := heapF w) (w := W) ((sat_heapF w).below hbW) l hn A n c hc hlN hf hp ht 84 #[.pointer (some ⟨w.heap.size + 2, 0, none⟩), .pointer (some ⟨w.heap.size, 0, none⟩)] (enters_of Try.func84 (by kernel_rfl) rfl) w.heap.size heapF_lt hbW.size
    (fun i X => AtB X (w.heap.size + 1) (w.heap.size + 2) n (atV (stayT C) t n i) ∧ Blk X w.heap.size 3 #[.int .i64 room]) (fun _ => 0) (fun i X X' h hb => ⟨h.1.call hb, h.2.call hb⟩)
    (fun i hi hk X h => by
      have := get_flat_root ht i hi
      rw [this] at hk
      rw [atV_skip _ _ _ _ hk]; exact h)
    (fun i hi x hx hk X hX hB hI s Ak ck P pc Bl bn bc hR => by
      subst hx
      have hst := stayT_step C hval i (by omega)
      have hba := bel_at (stayT C) hval n i (by omega) (by omega) hk
      have hbn : bn ≤ 1000 := by
        have h1 := hR.1
        simp [zs] at h1
        have h2 := bel_len hn ht i hi
        omega
      refine (stayF_w (t.sub i) (w.heap.size + 1) (w.heap.size + 2) w.heap.size n _ hI.1 room hI.2 C hC (by omega) i (by omega) (belM (t.sub i) i) (fun p hp => by have := (bel_mem hval i (by omega) hk p hp).1; omega) (fun v hv => atV_le (stayT C) t n i 1099511627776 hsub v hv) (match_facts hn ht i hi) s Ak (kidsT (t.sub i)).length ck P pc Bl bn bc hR hbn _ rfl (stayT C (t.sub i)) (by rw [hba]; exact hst)).mono ?_
      rintro e w' ⟨h1, h2, h4, h3⟩
      refine ⟨h1, ⟨?_, h4⟩, h3 _ (by omega) hB⟩
      rw [atV_set _ _ _ _ (by omega) hk] at h2
      exact h2) ⟨hA0, hB0⟩
  rw [← hnl] at hO
  have HO := Lib.hid hO
  have HW := Lib.hid hW
  have hnb : n ≤ 1000 := by omega
  clear hO hb hf hp hlt hval hsub hl hlN hn hA0 hB1 hB2 hB0 hW hnl hsz1 hCb
  go_enter Try.func56, Try.ntmps56
  go_wp2_with (go_at_call 49; rw [← HW.out]; refine HO.out.mono ?_; rintro e w3 ⟨rfl, hI, hw3⟩; obtain ⟨q0, q1⟩ := blk1 hI.1.var)
  go_ret
  exact ⟨_, _, rfl, hI.1, by omega, by omega, hbW.trans hw3⟩
set_option maxRecDepth 100000 in
set_option maxHeartbeats 4000000 in
/-- The closure of Cells at one node. -/
theorem cellsF_w {w : World} (x : Tr) (g gv n : Nat) (vs : List Nat) (hA : AtB w g gv n vs) (gs gsv : Nat) (ss : List Nat) (hA' : AtB w gs gsv n ss) (hgs : gs ≠ g) (hgsv : gsv ≠ g) (hn : n ≤ 1000) (i : Nat) (hi : i < n) (ps : List Nat) (hp : ∀ p ∈ ps, p < n) (hv : ∀ v ∈ vs, v ≤ 1099511627776) (hm : x.root.kind = 17 → stepsM x ≤ 1000)
    (s : ByteArray) (Ak : Option Addr) (kl ck : Nat) (P : Option Addr) (pc : Nat) (Bl : Option Addr) (bn bc : Nat) (hR : Rd (heapF w) 1 Bl bn ((zs ps).map encI)) (hbn : bn ≤ 1000) (S : Nat) (hS : maxL (ps.map fun k => vs.getD k 0) = S) (y : Nat) (hil' : i < ss.length) (hy : ss[i] = y) (hyb : y ≤ 1099511627776) (Z : Nat) (hZ : S + (if x.root.kind = 17 then 1 + (stepsM x / 64 + 1) + y else 0) = Z) :
    Calls Try.prog 57 (#[.int .i64 i, .agg #[.int .i64 x.root.kind, .string s, .int .i64 x.root.lo, .int .i64 x.root.hi, .slice Ak kl ck], .agg #[.int .i64 (stepsM x : Nat), .int .i64 (testsM x : Nat), .slice P (testsM x) pc], .slice Bl bn bc] ++ #[.pointer (some ⟨gv, 0, none⟩), .pointer (some ⟨gsv, 0, none⟩)]) w fun e w' => e = .returned (encU Z) ∧ AtB w' g gv n (vs.set i Z) ∧ AtB w' gs gsv n ss ∧ ∀ B, B ≤ g → B ≤ w.heap.size → Below B w w' := by
  have hWd := fun (h1 : stepsM x ≤ 1000) (X : World) => rwide_w (stepsM x) (testsM x) h1 P (testsM x) pc X
  generalize x.root.kind = kind at *
  generalize x.root.lo = lo at *
  generalize x.root.hi = hi' at *
  generalize stepsM x = M at *
  generalize testsM x = N at *
  have hb2 : Below w.heap.size w ((w.alloc (.cells #[.int .i64 kind, .string s, .int .i64 lo, .int .i64 hi', .slice Ak kl ck] 30)).alloc (.cells #[.int .i64 (M : Nat), .int .i64 (N : Nat), .slice P N pc] 71)) := (balloc w _).alloc (by simp) _
  have hBN := (Blk.new w 30 #[.int .i64 kind, .string s, .int .i64 lo, .int .i64 hi', .slice Ak kl ck]).alloc (.cells #[.int .i64 (M : Nat), .int .i64 (N : Nat), .slice P N pc] 71)
  have hBR := Blk.new2 w (.cells #[.int .i64 kind, .string s, .int .i64 lo, .int .i64 hi', .slice Ak kl ck] 30) 71 #[.int .i64 (M : Nat), .int .i64 (N : Nat), .slice P N pc]
  have hA2 := hA.call hb2
  have hA2' := hA'.call hb2
  have hR2 := hR.cle (cle_below hb2)
  have hlw := hA.at_.lt
  have hlg : g < w.heap.size := hlw
  have hSb : S ≤ 1099511627776 := by
    rw [← hS]
    refine maxL_le 1099511627776 _ ?_
    intro y hy
    obtain ⟨k, hk, rfl⟩ := List.mem_map.1 hy
    have hkn := hp k hk
    rw [List.getD, List.getElem?_eq_getElem (by rw [hA.len]; exact hkn)]
    exact hv _ (List.getElem_mem _)
  have HY := Lib.hid hy
  have hsums := fun (X : World) (h : Sat (heapF ((w.alloc (.cells #[.int .i64 kind, .string s, .int .i64 lo, .int .i64 hi', .slice Ak kl ck] 30)).alloc (.cells #[.int .i64 (M : Nat), .int .i64 (N : Nat), .slice P N pc] 71))) X) => sums_w h vs ps (some ⟨g, 0, none⟩) Bl n bn n bc (by have := rd_blk hA2.at_; rw [List.length_map, hA.len] at this; exact this) hR2 hp hv hbn
  rw [hS] at hsums
  have HSU := Lib.hid hsums
  have hiI : (i : Int) < (n : Int) := by omega
  have hil : i < vs.length := by rw [hA.len]; exact hi
  have HZ := Lib.hid hZ
  have HWI := Lib.hid hWd
  have Hm := Lib.hid hm
  clear hS hsums hA hR hp hv hR2 hy hA' hZ hWd hm
  go_enter Try.func57, Try.ntmps57
  go_wp2_with fail
  generalize ((w.alloc (.cells #[.int .i64 kind, .string s, .int .i64 lo, .int .i64 hi', .slice Ak kl ck] 30)).alloc (.cells #[.int .i64 (M : Nat), .int .i64 (N : Nat), .slice P N pc] 71)) = W at *
  obtain ⟨m0, m1, m2, m3, m4⟩ := blk5 hBN
  obtain ⟨v0, v1⟩ := blk1 hA2.var
  obtain ⟨a0, a1⟩ := blkU_cell hA2.at_ hil
  go_cut [10] from 11 to 19 (fun _ wx => ∃ q, wx = (W.setCell ⟨g, i, none⟩ (encU S)).drewN q)
  case first =>
    go_region_with (go_at_call 55; refine (HSU.out _ (by exact sat_heapF W)).mono ?_; rintro e w3 ⟨rfl, q3, rfl⟩)
    all_goals
      go_wp2_with fail
      go_meet
      exact ⟨_, rfl⟩
  case rest =>
    obtain ⟨q, hW1⟩ := hcut
    have hA3 : AtB wc g gv n (vs.set i S) := hW1 ▸ (hA2.set i S).drewN q
    have hA3' : AtB wc gs gsv n ss := hW1 ▸ (⟨hA2'.len, hA2'.at_.far (p := ⟨g, i, none⟩) hgs (encU S), hA2'.var.far (p := ⟨g, i, none⟩) hgsv (encU S)⟩ : AtB (W.setCell ⟨g, i, none⟩ (encU S)) gs gsv n ss).drewN q
    have hB3 : Blk wc w.heap.size 30 #[.int .i64 kind, .string s, .int .i64 lo, .int .i64 hi', .slice Ak kl ck] := hW1 ▸ (hBN.far (p := ⟨g, i, none⟩) (by show w.heap.size ≠ g; omega) (encU S)).drewN q
    have hR3 : Blk wc (w.heap.size + 1) 71 #[.int .i64 (M : Nat), .int .i64 (N : Nat), .slice P N pc] := hW1 ▸ (hBR.far (p := ⟨g, i, none⟩) (by show w.heap.size + 1 ≠ g; omega) (encU S)).drewN q
    have hb3 : ∀ B, B ≤ g → B ≤ w.heap.size → Below B w wc := fun B h1 h2 => hW1 ▸ below_drewN ((hb2.mono h2).setCell (p := ⟨g, i, none⟩) h1 (encU S)) q
    have hil3 : i < (vs.set i S).length := by rw [List.length_set]; exact hil
    have hself : (vs.set i S)[i]'hil3 = S := by simp
    have hss : ∀ y, (vs.set i S).set i y = vs.set i y := fun y => by rw [List.set_set]
    have hsz3 : w.heap.size ≤ wc.heap.size := (hb3 0 (Nat.zero_le _) (Nat.zero_le _)).size
    clear hA2 hA2' hBN hBR m0 m1 m2 m3 m4 v0 v1 a0 a1 hW1 HSU hb2
    obtain ⟨m0, m1, m2, m3, m4⟩ := blk5 hB3
    obtain ⟨v0, v1⟩ := blk1 hA3.var
    obtain ⟨a0, a1⟩ := blkU_cell hA3.at_ hil3
    rw [hself] at a0
    obtain ⟨u0, u1⟩ := blk1 hA3'.var
    obtain ⟨b0, b1⟩ := blkU_cell hA3'.at_ hil'
    rw [HY.out] at b0
    by_cases h17 : kind = 17
    · have hz := HZ.out
      rw [if_pos h17] at hz
      have hMb := Hm.out h17
      have hWw := HWI.out hMb
      subst h17
      obtain ⟨WW, hWW⟩ : ∃ WW, M / 64 + 1 = WW := ⟨_, rfl⟩
      rw [hWW] at hWw hz
      obtain ⟨W1, hW1⟩ : ∃ W1, 1 + WW = W1 := ⟨_, rfl⟩
      rw [hW1] at hz
      obtain ⟨W2, hW2⟩ : ∃ W2, W1 + y = W2 := ⟨_, rfl⟩
      rw [hW2] at hz
      have wA : IntKind.u64.wrap (1 + (WW : Int)) = (W1 : Int) := by rw [show 1 + (WW : Int) = (W1 : Int) by omega]; exact wrap_u (by omega) (by omega)
      have wB : IntKind.u64.wrap ((W1 : Int) + (y : Int)) = (W2 : Int) := by rw [show (W1 : Int) + (y : Int) = (W2 : Int) by omega]; exact wrap_u (by omega) (by omega)
      have wC : IntKind.u64.wrap ((S : Int) + (W2 : Int)) = (Z : Int) := by rw [show (S : Int) + (W2 : Int) = (Z : Int) by omega]; exact wrap_u (by omega) (by omega)
      obtain ⟨p0, p1, p2, _, _, _⟩ := blk3 hR3
      have HWw := Lib.hid hWw
      go_wp2_with fail
      clear hWw hz hWW hW1 hW2 hMb HWI Hm HZ hSb hyb m0 m1 m2 m3 m4
      go_cut [10] from 23 to 36 (fun _ wx => AtB wx g gv n (vs.set i Z) ∧ AtB wx gs gsv n ss ∧ ∀ B, B ≤ g → B ≤ w.heap.size → Below B w wx)
      case first =>
        have hgv3 := hA3.var.lt
        have hgg3 := hA3.at_.lt
        have hrr3 := hR3.lt
        have hsv3 := hA3'.var.lt
        have hss3 := hA3'.at_.lt
        have n0 : g ≠ gv := hA3.ne.symm
        have n1 : g ≠ w.heap.size + 1 := by omega
        have n2 : g ≠ gsv := hgsv.symm
        have n3 : g ≠ gs := hgs.symm
        go_region_held3 (fun w' => w'.cell? ⟨gv, 0, none⟩ = some (.slice (some ⟨g, 0, none⟩) n n) ∧ w'.cell? ⟨w.heap.size + 1, 0, none⟩ = some (.int .i64 (M : Nat)) ∧ w'.cell? ⟨w.heap.size + 1, 1, none⟩ = some (.int .i64 (N : Nat)) ∧ w'.cell? ⟨w.heap.size + 1, 2, none⟩ = some (.slice P N pc) ∧ w'.cell? ⟨gsv, 0, none⟩ = some (.slice (some ⟨gs, 0, none⟩) n n) ∧ w'.cell? ⟨gs, i, none⟩ = some (encU y)) (first | go_keep | exact ⟨cell_other n0 s0, cell_other n1 s1, cell_other n1 s2, cell_other n1 s3, cell_other n2 s4, cell_other n3 s5⟩)
          (first
            | (go_at_call 58; refine (HWw.out _).mono ?_; rintro e w5 ⟨rfl, hw5⟩; have hz : Below wc.heap.size wc w5 := (by first | exact hw5 | exact ⟨hw5.os, hw5.tape, hw5.output, hw5.size, hw5.block⟩); have s0 := (hz.cell (p := ⟨gv, 0, none⟩) hgv3).trans v0; have s1 := (hz.cell (p := ⟨w.heap.size + 1, 0, none⟩) hrr3).trans p0; have s2 := (hz.cell (p := ⟨w.heap.size + 1, 1, none⟩) hrr3).trans p1; have s3 := (hz.cell (p := ⟨w.heap.size + 1, 2, none⟩) hrr3).trans p2; have s4 := (hz.cell (p := ⟨gsv, 0, none⟩) hsv3).trans u0; have s5 := (hz.cell (p := ⟨gs, i, none⟩) hss3).trans b0; have a2 := (hz.cell (p := ⟨g, i, none⟩) hgg3).trans a0; have a3 := (hA3.call hz).at_.frozen i))
        all_goals
          have hA5 := (hA3.call hz).set i Z
          rw [hss] at hA5
          go_wp2_with fail
          go_meet
          exact ⟨hA5, ⟨(hA3'.call hz).len, (hA3'.call hz).at_.far (p := ⟨g, i, none⟩) hgs _, (hA3'.call hz).var.far (p := ⟨g, i, none⟩) hgsv _⟩, fun B h1 h2 => ((hb3 B h1 h2).trans (hz.mono (by omega))).setCell (p := ⟨g, i, none⟩) h1 _⟩
      case rest =>
        obtain ⟨hA5, hA5', hb5⟩ := hcut
        obtain ⟨v2, v3⟩ := blk1 hA5.var
        obtain ⟨a2, a3⟩ := blkU_cell hA5.at_ (i := i) (by rw [List.length_set]; exact hil)
        rw [List.getElem_set_self] at a2
        clear hA3 hA3' hb3 v0 v1 a0 a1 u0 u1 b0 b1 p0 p1 p2
        go_wp2_with fail
        go_ret
        exact ⟨rfl, hA5, hA5', hb5⟩
    · have hkb : (kind == 17) = false := by rw [beq_eq_false_iff_ne]; exact h17
      have hz := HZ.out
      rw [if_neg h17, Nat.add_zero] at hz
      subst hz
      clear HZ h17
      go_wp2_with fail
      go_ret
      exact ⟨rfl, hA3, hA3', hb3⟩
end Go.Proofs.Ytdohbbjinbofbaa
