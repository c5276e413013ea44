/- The law TableOver: its walk. -/
import Derived.Test.YtkffofolhckjeaaTabW
import Derived.Test.YtkffofolhckjeaaTabPutL
namespace Go.Proofs.Ytkffofolhckjeaa
open Go.RowKit

set_option maxRecDepth 100000 in
theorem over_big (k : Nat) (A B C : Option Addr) (n n' n'' c c' c'' : Nat) (h : 100 < n ∨ 100 < n' ∨ 30 < n'') (w : World) :
    Calls Try.prog 7 #[.int .u8 k, .slice A n c, .slice B n' c', .slice C n'' c''] w fun e w' => e = .returned (.bool true) ∧ Below w.heap.size w w' := by
  have hd : (100 : Int) < (n : Int) ∨ (¬ (100 : Int) < (n : Int) ∧ (100 : Int) < (n' : Int)) ∨ (¬ (100 : Int) < (n : Int) ∧ ¬ (100 : Int) < (n' : Int) ∧ (30 : Int) < (n'' : Int)) := by omega
  clear h
  rcases hd with h1 | ⟨h1, h2⟩ | ⟨h1, h2, h3⟩
  all_goals
    go_enter Try.func7, Try.ntmps7
    go_wp2_with (go_at_call 15; refine (awake28 _).mono ?_; rintro e w1 ⟨rfl, hb1⟩)
    go_ret
    exact ⟨rfl, hb1⟩

def ownQ (i x : Nat) : Bool := x.testBit i
def thenQ (m i x : Nat) : Bool := !x.testBit ((i + 1) % m)
def bothQ (m : Nat) (ps : List (Nat → Bool)) (i x : Nat) : Bool := ps.getD i (fun _ => false) (yP m (listP (thenQ m) m) x)
theorem own_id {m : Nat} (hm : m ≤ 10) {x : Nat} (hx : x < 2 ^ m) : yP m (listP ownQ m) x = x := yP_eq hm hx fun i hi => by rw [getD_listP _ _ _ hi]; rfl
theorem both_put {m : Nat} (hm : m ≤ 10) (ps : List (Nat → Bool)) (x : Nat) : yP m (listP (bothQ m ps) m) x = yP m ps (yP m (listP (thenQ m) m) x) :=
  yP_eq hm (yP_lt m hm ps _) fun i hi => by rw [getD_listP _ _ _ hi, testBit_yP m hm]; simp [hi, bothQ]

set_option maxRecDepth 100000 in
set_option maxHeartbeats 8000000 in
theorem over_small (k : Nat) (hk : k < 256) (A B C : Option Addr) (n n' n'' c c' c'' : Nat) (fs hs : List (BitVec 64)) (gs : List (List (BitVec 64))) (h1 : n ≤ 100) (h2 : n' ≤ 100) (h3 : n'' ≤ 30) (w : World)
    (rf : Rd (heapF w) 1 A n (fs.map u)) (rh : Rd (heapF w) 1 B n' (hs.map u)) (rg : RdR (heapF w) C n'' gs) :
    Calls Try.prog 7 #[.int .u8 k, .slice A n c, .slice B n' c', .slice C n'' c''] w fun e w' => e = .returned (.bool true) ∧ Below w.heap.size w w' := by
  have h1I : ¬ (100 : Int) < (n : Int) := by omega
  have h2I : ¬ (100 : Int) < (n' : Int) := by omega
  have h3I : ¬ (30 : Int) < (n'' : Int) := by omega
  have HK := Lib.hid (few_any (w := w) k hk)
  have hm := fewN_le k
  generalize fewN k = m at *
  have HG := Lib.hid rg
  have HN := Lib.hid rg.1
  have hS := sat_heapF w
  have hf : Wd m w (.slice A n c) (bitAt fs) := ⟨A, n, c, fs, rfl, rf, by rw [← rd_len rf]; omega, fun _ _ => rfl⟩
  have hh : Wd m w (.slice B n' c') (bitAt hs) := ⟨B, n', c', hs, rfl, rh, by rw [← rd_len rh]; omega, fun _ _ => rfl⟩
  clear rf rg rh
  generalize bitAt fs = a at *
  generalize bitAt hs = b at *
  go_enter Try.func7, Try.ntmps7
  go_wp2_with fail
  go_loop [37] (fun j => ∃ k : Nat, k ≤ n'' ∧ j = .int .i64 k ∧ shortTo gs k) (fun j => n'' - (intOf j).toNat)
  case atStart => exact ⟨0, Nat.zero_le _, rfl, fun i hi => absurd hi (by omega)⟩
  case round =>
    obtain ⟨k, hk, rfl, hsh⟩ := hrel
    by_cases hlt : k < n''
    · have hkI : (k : Int) < (n'' : Int) := by omega
      obtain ⟨ad, Ai, ni, ci, rfl, hcell, hrd⟩ := HG.out.2 k (by rw [← HN.out]; exact hlt)
      have hc := hS.cell hcell
      have hni := rd_len hrd
      by_cases hbig : 100 < ni
      · have hbI : (100 : Int) < (ni : Int) := by omega
        clear hni hcell
        go_wp2_with (go_at_call 15; refine (awake28 _).mono ?_; rintro e w1 ⟨rfl, hb1⟩)
        go_ret
        exact ⟨rfl, hb1⟩
      · have hbI : ¬ (100 : Int) < (ni : Int) := by omega
        have HI := Lib.hid hni
        clear hni hcell
        go_wp2
        go_round
        case rel => exact ⟨k + 1, by omega, by go_num, fun i hi => by
          rcases Nat.lt_or_ge i k with h | h
          · exact hsh i h
          · rw [show i = k by omega]
            have := HI.out
            omega⟩
        case measure => simp [intOf]; omega
    · have hshA : ∀ g ∈ gs, g.length ≤ 1000 := short_all (by rw [← HN.out, show n'' = k by omega]; exact hsh)
      have hg := rw_rows (m := m) (c := c'') HG.out hshA
      have HL := Lib.hid (show (gs.map bitAt).length = n'' by rw [List.length_map]; exact HN.out.symm)
      obtain ⟨ps, hps⟩ : ∃ ps, gs.map bitAt = ps := ⟨_, rfl⟩
      rw [hps] at hg HL
      clear hps hsh hshA HG HN hS
      go_wp2_with (go_at_call 16; refine HK.out.mono ?_; rintro e w' ⟨rfl, rfl⟩)
      clear HK
      go_loopw [12, 13, 49] (fun o t j wr => ∃ k : Nat, k ≤ m ∧ j = .int .i64 k ∧ Below w.heap.size w wr ∧ ∃ F, Sat F wr ∧ RowsB m F wr w.heap.size o (listP ownQ k) ∧ RowsB m F wr w.heap.size t (listP (thenQ m) k) ∧ ∀ g, o.ownBlock = some g → t.ownBlock ≠ some g) (fun _ _ j _ => m - (intOf j).toNat)
      case atStart => exact ⟨0, Nat.zero_le _, rfl, Below.refl _ _, heapF w, sat_heapF w, RowsB.nil _ _ _ _, RowsB.nil _ _ _ _, by simp [Value.ownBlock]⟩
      case round =>
        rename_i wr
        obtain ⟨k, hkm, rfl, hbr, F, hF, hO, hT, hne⟩ := hrel
        by_cases hlt : k < m
        · have hkI : (k : Int) < (m : Int) := by omega
          go_wp2_with fail
          refine (q_atom hm k hlt).mono ?_
          rintro e w1 ⟨A1, n1, c1, g1, o1, rfl, hb1, hg1, hz1, hq1⟩
          have hF1 := (hF.below hb1).put hz1
          have hO1 := hO.fresh (o := o1) hF hb1 hg1
          have hT1 := hT.fresh (o := o1) hF hb1 hg1
          have hx1 := hq1 F
          have hbr1 := bthen hbr hb1
          have hB1 : w.heap.size ≤ (w1.alloc (.cells #[.slice A1 n1 c1] 22)).heap.size := by have := hbr1.size; simp; omega
          have ho1000 : (listP ownQ k).length ≤ 1000 := by rw [length_listP]; omega
          have ht1000 : (listP (thenQ m) k).length ≤ 1000 := by rw [length_listP]; omega
          clear hF hO hT hz1 hq1 hb1 hg1 hbr
          generalize F.put g1 o1 = F1 at *
          go_wp2_with (at_builtin; go_loud (refine wpList_pushR rfl (.tmp 52) (.tmp 56) rfl (hO1.call (balloc _ _)) hx1 (hF1.alloc _) (by rfl) w1.heap.size 1 (by rfl) (Blk.new _ _ _) ho1000 hB1 ?_); intro vo w2 hO2 hF2 hb2 hg2 hat2)
          have hT2 := (hT1.call (balloc w1 _)).kept hg2 (apart_or hne)
          have hne2 := apart_push hne (fun g e => ((hT1.call (balloc w1 _)).lt g e).2) hat2
          have hbr2 := (bthen hbr1 (balloc w1 (.cells #[.slice A1 n1 c1] 22))).trans hb2
          clear hO1 hT1 hF1 hx1 hbr1 hB1 hb2 hg2 hat2 hne
          go_wp2_with fail
          refine (q_atomI hm _ (Int.emod_nonneg _ (by omega)) (Int.emod_lt_of_pos _ (by omega))).mono ?_
          rintro e w3 ⟨A3, n3, c3, g3, o3, rfl, hb3, hg3, hz3, hq3⟩
          have hF3 := (hF2.below hb3).put hz3
          have hO3 := hO2.fresh (o := o3) hF2 hb3 hg3
          have hT3 := hT2.fresh (o := o3) hF2 hb3 hg3
          have hx3 := hq3 F1
          have hbr3 := bthen hbr2 hb3
          clear hO2 hT2 hF2 hbr2 hz3 hq3 hb3 hg3
          generalize F1.put g3 o3 = F3 at *
          go_wp2_with fail
          refine (q_not hm (hx3.heap hF3)).mono ?_
          rintro e w4 ⟨A4, n4, c4, g4, o4, rfl, hb4, hg4, hz4, hq4⟩
          have hF4 := (hF3.below hb4).put hz4
          have hO4 := hO3.fresh (o := o4) hF3 hb4 hg4
          have hT4 := hT3.fresh (o := o4) hF3 hb4 hg4
          have hx4 := hq4 F3
          have hbr4 := bthen hbr3 hb4
          have hB4 : w.heap.size ≤ (w4.alloc (.cells #[.slice A4 n4 c4] 22)).heap.size := by have := hbr4.size; simp; omega
          have hmod : (((k : Int) + 1) % (m : Int)).toNat = (k + 1) % m := by
            rw [show ((k : Int) + 1) % (m : Int) = (((k + 1) % m : Nat) : Int) by push_cast; rfl, Int.toNat_natCast]
          rw [hmod] at hx4
          clear hO3 hT3 hF3 hx3 hbr3 hz4 hq4 hb4 hg4 hmod
          generalize F3.put g4 o4 = F4 at *
          go_wp2_with (at_builtin; go_loud (refine wpList_pushR rfl (.tmp 65) (.tmp 69) rfl (hT4.call (balloc _ _)) hx4 (hF4.alloc _) (by rfl) w4.heap.size 1 (by rfl) (Blk.new _ _ _) ht1000 hB4 ?_); intro vt w5 hT5 hF5 hb5 hg5 hat5)
          have hO5 := (hO4.call (balloc w4 _)).kept hg5 (apart_or (apart_symm hne2))
          have hne5 := apart_symm (apart_push (apart_symm hne2) (fun g e => ((hO4.call (balloc w4 _)).lt g e).2) hat5)
          have hbr5 := (bthen hbr4 (balloc w4 (.cells #[.slice A4 n4 c4] 22))).trans hb5
          clear hO4 hT4 hF4 hx4 hbr4 hB4 hb5 hg5 hat5 hne2
          go_roundw
          case rel => exact ⟨k + 1, by omega, by go_num, hbr5, F4, hF5, by rw [listP_succ]; exact hO5, by rw [listP_succ]; exact hT5, hne5⟩
          case measure => simp [intOf]; omega
        · obtain rfl : k = m := by omega
          have hown := hO.done hF
          have hthen := hT.done hF
          replace hf := hf.below hbr
          replace hh := hh.below hbr
          replace hg := hg.below hbr
          clear hT
          have hT := hbr
          clear hO hne hF hbr
          go_wp2_with fail
          refine (w_put hm hf hg).mono ?_
          rintro e w1 ⟨vpf, rfl, hb, hpf⟩
          replace hf := hf.below hb
          replace hh := hh.below hb
          replace hg := hg.below hb
          replace hown := hown.below hb
          replace hthen := hthen.below hb
          replace hT := bthen hT hb
          clear hb
          go_wp2_with fail
          refine (w_put hm hh hg).mono ?_
          rintro e w2 ⟨vph, rfl, hb, hph⟩
          replace hf := hf.below hb
          replace hh := hh.below hb
          replace hg := hg.below hb
          replace hown := hown.below hb
          replace hthen := hthen.below hb
          replace hpf := hpf.below hb
          replace hT := bthen hT hb
          clear hb
          go_wp2_with fail
          refine (w_not hm hf).mono ?_
          rintro e w3 ⟨v1, rfl, hb, h1⟩
          replace hf := hf.below hb
          replace hh := hh.below hb
          replace hg := hg.below hb
          replace hown := hown.below hb
          replace hthen := hthen.below hb
          replace hpf := hpf.below hb
          replace hph := hph.below hb
          replace hT := bthen hT hb
          clear hb
          go_wp2_with fail
          refine (w_put hm h1 hg).mono ?_
          rintro e w4 ⟨v2, rfl, hb, h2⟩
          replace hf := hf.below hb
          replace hh := hh.below hb
          replace hg := hg.below hb
          replace hown := hown.below hb
          replace hthen := hthen.below hb
          replace hpf := hpf.below hb
          replace hph := hph.below hb
          replace h1 := h1.below hb
          replace hT := bthen hT hb
          clear hb
          go_wp2_with fail
          refine (w_not hm hpf).mono ?_
          rintro e w5 ⟨v3, rfl, hb, h3⟩
          replace hf := hf.below hb
          replace hh := hh.below hb
          replace hg := hg.below hb
          replace hown := hown.below hb
          replace hthen := hthen.below hb
          replace hpf := hpf.below hb
          replace hph := hph.below hb
          replace h1 := h1.below hb
          replace h2 := h2.below hb
          replace hT := bthen hT hb
          clear hb
          go_wp2_with fail
          refine (w_sameT hm h2 h3 (fun x _ => rfl)).mono ?_
          rintro e w6 ⟨rfl, hb⟩
          replace hf := hf.below hb
          replace hh := hh.below hb
          replace hg := hg.below hb
          replace hown := hown.below hb
          replace hthen := hthen.below hb
          replace hpf := hpf.below hb
          replace hph := hph.below hb
          replace h1 := h1.below hb
          replace h2 := h2.below hb
          replace h3 := h3.below hb
          replace hT := bthen hT hb
          clear hb
          clear h1 h2 h3
          go_wp2_with fail
          refine (w_and hm hf hh).mono ?_
          rintro e w7 ⟨v1, rfl, hb, h1⟩
          replace hf := hf.below hb
          replace hh := hh.below hb
          replace hg := hg.below hb
          replace hown := hown.below hb
          replace hthen := hthen.below hb
          replace hpf := hpf.below hb
          replace hph := hph.below hb
          replace hT := bthen hT hb
          clear hb
          go_wp2_with fail
          refine (w_put hm h1 hg).mono ?_
          rintro e w8 ⟨v2, rfl, hb, h2⟩
          replace hf := hf.below hb
          replace hh := hh.below hb
          replace hg := hg.below hb
          replace hown := hown.below hb
          replace hthen := hthen.below hb
          replace hpf := hpf.below hb
          replace hph := hph.below hb
          replace h1 := h1.below hb
          replace hT := bthen hT hb
          clear hb
          go_wp2_with fail
          refine (w_and hm hpf hph).mono ?_
          rintro e w9 ⟨v3, rfl, hb, h3⟩
          replace hf := hf.below hb
          replace hh := hh.below hb
          replace hg := hg.below hb
          replace hown := hown.below hb
          replace hthen := hthen.below hb
          replace hpf := hpf.below hb
          replace hph := hph.below hb
          replace h1 := h1.below hb
          replace h2 := h2.below hb
          replace hT := bthen hT hb
          clear hb
          go_wp2_with fail
          refine (w_sameT hm h2 h3 (fun x _ => rfl)).mono ?_
          rintro e w10 ⟨rfl, hb⟩
          replace hf := hf.below hb
          replace hh := hh.below hb
          replace hg := hg.below hb
          replace hown := hown.below hb
          replace hthen := hthen.below hb
          replace hpf := hpf.below hb
          replace hph := hph.below hb
          replace h1 := h1.below hb
          replace h2 := h2.below hb
          replace h3 := h3.below hb
          replace hT := bthen hT hb
          clear hb
          clear h1 h2 h3
          go_wp2_with fail
          refine (w_or hm hf hh).mono ?_
          rintro e w11 ⟨v1, rfl, hb, h1⟩
          replace hf := hf.below hb
          replace hh := hh.below hb
          replace hg := hg.below hb
          replace hown := hown.below hb
          replace hthen := hthen.below hb
          replace hpf := hpf.below hb
          replace hph := hph.below hb
          replace hT := bthen hT hb
          clear hb
          go_wp2_with fail
          refine (w_put hm h1 hg).mono ?_
          rintro e w12 ⟨v2, rfl, hb, h2⟩
          replace hf := hf.below hb
          replace hh := hh.below hb
          replace hg := hg.below hb
          replace hown := hown.below hb
          replace hthen := hthen.below hb
          replace hpf := hpf.below hb
          replace hph := hph.below hb
          replace h1 := h1.below hb
          replace hT := bthen hT hb
          clear hb
          go_wp2_with fail
          refine (w_or hm hpf hph).mono ?_
          rintro e w13 ⟨v3, rfl, hb, h3⟩
          replace hf := hf.below hb
          replace hh := hh.below hb
          replace hg := hg.below hb
          replace hown := hown.below hb
          replace hthen := hthen.below hb
          replace hpf := hpf.below hb
          replace hph := hph.below hb
          replace h1 := h1.below hb
          replace h2 := h2.below hb
          replace hT := bthen hT hb
          clear hb
          go_wp2_with fail
          refine (w_sameT hm h2 h3 (fun x _ => rfl)).mono ?_
          rintro e w14 ⟨rfl, hb⟩
          replace hf := hf.below hb
          replace hh := hh.below hb
          replace hg := hg.below hb
          replace hown := hown.below hb
          replace hthen := hthen.below hb
          replace hpf := hpf.below hb
          replace hph := hph.below hb
          replace h1 := h1.below hb
          replace h2 := h2.below hb
          replace h3 := h3.below hb
          replace hT := bthen hT hb
          clear hb
          clear h1 h2 h3
          go_wp2_with fail
          refine (w_put hm hf hown).mono ?_
          rintro e w15 ⟨v1, rfl, hb, h1⟩
          replace hf := hf.below hb
          replace hh := hh.below hb
          replace hg := hg.below hb
          replace hown := hown.below hb
          replace hthen := hthen.below hb
          replace hpf := hpf.below hb
          replace hph := hph.below hb
          replace hT := bthen hT hb
          clear hb
          go_wp2_with fail
          refine (w_sameT hm h1 hf (fun x hx => by rw [own_id hm hx])).mono ?_
          rintro e w16 ⟨rfl, hb⟩
          replace hf := hf.below hb
          replace hh := hh.below hb
          replace hg := hg.below hb
          replace hown := hown.below hb
          replace hthen := hthen.below hb
          replace hpf := hpf.below hb
          replace hph := hph.below hb
          replace h1 := h1.below hb
          replace hT := bthen hT hb
          clear hb
          clear h1
          clear hown hh hph
          generalize hwL : w16 = wL at *
          clear hwL
          go_wp2_with fail
          go_loopw [18, 135] (fun o j wr => ∃ i : Nat, i ≤ k ∧ j = .int .i64 i ∧ Below wL.heap.size wL wr ∧ ∃ F, Sat F wr ∧ RowsB k F wr wL.heap.size o (listP (bothQ k ps) i)) (fun _ j _ => k - (intOf j).toNat)
          case atStart => exact ⟨0, Nat.zero_le _, rfl, Below.refl _ _, heapF wL, sat_heapF wL, RowsB.nil _ _ _ _⟩
          case round =>
            obtain ⟨i, him, rfl, hbr, F, hF, hO⟩ := hrel
            by_cases hlt2 : i < k
            · have hiI : (i : Int) < (k : Int) := by omega
              go_wp2_with fail
              refine (q_no hm).mono ?_
              rintro e w1 ⟨A1, n1, c1, g1, o1, rfl, hb1, hg1, hz1, hq1⟩
              have hF1 := (hF.below hb1).put hz1
              have hO1 := hO.fresh (o := o1) hF hb1 hg1
              have hx1 := hq1 F
              have hbr1 := bthen hbr hb1
              have hthen1 := hthen.below hbr1
              have hgg1 := hg.below hbr1
              have ho1000 : (listP (bothQ k ps) i).length ≤ 1000 := by rw [length_listP]; omega
              clear hF hO hz1 hq1 hb1 hg1 hbr
              generalize F.put g1 o1 = F1 at *
              by_cases hin : i < n''
              · have hinI : (i : Int) < (n'' : Int) := by omega
                obtain ⟨ad, Ai, ni, ci, rfl, hcell, hrow⟩ := hgg1.row hin
                have hrow1 := hrow
                go_wp2_with fail
                refine (q_put hm hrow1 hthen1).mono ?_
                rintro e w2 ⟨A2, n2, c2, g2, o2, rfl, hb2, hg2, hz2, hq2⟩
                have hF2 := (hF1.below hb2).put hz2
                have hO2 := hO1.fresh (o := o2) hF1 hb2 hg2
                have hx2 := hq2 F1
                have hbr2 := bthen hbr1 hb2
                have hB2 : wL.heap.size ≤ (w2.alloc (.cells #[.slice A2 n2 c2] 22)).heap.size := by have := hbr2.size; simp; omega
                have hq : WdF k (F1.put g2 o2) (.slice A2 n2 c2) (bothQ k ps i) := hx2.same fun x _ => by rfl
                clear hO1 hF1 hx1 hbr1 hz2 hq2 hb2 hg2 hx2
                generalize F1.put g2 o2 = F2 at *
                go_wp2_with (at_builtin; go_loud (refine wpList_pushR rfl (.tmp 148) (.tmp 153) rfl (hO2.call (balloc _ _)) hq (hF2.alloc _) (by rfl) w2.heap.size 1 (by rfl) (Blk.new _ _ _) ho1000 hB2 ?_); intro vo w3 hO3 hF3 hb3 hg3 hat3)
                have hbr3 := (bthen hbr2 (balloc w2 (.cells #[.slice A2 n2 c2] 22))).trans hb3
                clear hO2 hF2 hq hbr2 hB2 hb3 hg3 hat3
                go_roundw
                case rel => exact ⟨i + 1, by omega, by go_num, hbr3, F2, hF3, by rw [listP_succ]; exact hO3⟩
                case measure => simp [intOf]; omega
              · have hinI : ¬ (i : Int) < (n'' : Int) := by omega
                have hnone : ps.getD i (fun _ => false) = fun _ => false := by
                  have := HL.out
                  simp [List.getD, show ps.length ≤ i by omega]
                have hrow1 := hx1.heap hF1
                go_wp2_with fail
                refine (q_put hm hrow1 hthen1).mono ?_
                rintro e w2 ⟨A2, n2, c2, g2, o2, rfl, hb2, hg2, hz2, hq2⟩
                have hF2 := (hF1.below hb2).put hz2
                have hO2 := hO1.fresh (o := o2) hF1 hb2 hg2
                have hx2 := hq2 F1
                have hbr2 := bthen hbr1 hb2
                have hB2 : wL.heap.size ≤ (w2.alloc (.cells #[.slice A2 n2 c2] 22)).heap.size := by have := hbr2.size; simp; omega
                have hq : WdF k (F1.put g2 o2) (.slice A2 n2 c2) (bothQ k ps i) := hx2.same fun x _ => by unfold bothQ; rw [hnone]
                clear hO1 hF1 hx1 hbr1 hz2 hq2 hb2 hg2 hx2
                generalize F1.put g2 o2 = F2 at *
                go_wp2_with (at_builtin; go_loud (refine wpList_pushR rfl (.tmp 148) (.tmp 153) rfl (hO2.call (balloc _ _)) hq (hF2.alloc _) (by rfl) w2.heap.size 1 (by rfl) (Blk.new _ _ _) ho1000 hB2 ?_); intro vo w3 hO3 hF3 hb3 hg3 hat3)
                have hbr3 := (bthen hbr2 (balloc w2 (.cells #[.slice A2 n2 c2] 22))).trans hb3
                clear hO2 hF2 hq hbr2 hB2 hb3 hg3 hat3
                go_roundw
                case rel => exact ⟨i + 1, by omega, by go_num, hbr3, F2, hF3, by rw [listP_succ]; exact hO3⟩
                case measure => simp [intOf]; omega
            · obtain rfl : i = k := by omega
              have hboth := hO.done hF
              replace hf := hf.below hbr
              replace hpf := hpf.below hbr
              replace hthen := hthen.below hbr
              replace hT := bthen hT hbr
              clear hO hF hbr hg
              go_wp2_with fail
              refine (w_put hm hpf hthen).mono ?_
              rintro e w1 ⟨v1, rfl, hb, h1⟩
              replace hf := hf.below hb
              replace hpf := hpf.below hb
              replace hthen := hthen.below hb
              replace hboth := hboth.below hb
              replace hT := bthen hT hb
              clear hb
              go_wp2_with fail
              refine (w_put hm hf hboth).mono ?_
              rintro e w2 ⟨v2, rfl, hb, h2⟩
              replace hf := hf.below hb
              replace hpf := hpf.below hb
              replace hthen := hthen.below hb
              replace hboth := hboth.below hb
              replace h1 := h1.below hb
              replace hT := bthen hT hb
              clear hb
              go_wp2_with fail
              refine (w_sameT hm h1 h2 (fun x _ => by rw [both_put hm])).mono ?_
              rintro e w3 ⟨rfl, hb⟩
              replace hf := hf.below hb
              replace hpf := hpf.below hb
              replace hthen := hthen.below hb
              replace hboth := hboth.below hb
              replace h1 := h1.below hb
              replace h2 := h2.below hb
              replace hT := bthen hT hb
              clear hb
              go_wp2_with fail
              refine (awake28 _).mono ?_
              rintro e w4 ⟨rfl, hb⟩
              replace hf := hf.below hb
              replace hpf := hpf.below hb
              replace hthen := hthen.below hb
              replace hboth := hboth.below hb
              replace h1 := h1.below hb
              replace h2 := h2.below hb
              replace hT := bthen hT hb
              clear hb
              go_wp2
              go_ret
              exact ⟨rfl, hT⟩
end Go.Proofs.Ytkffofolhckjeaa
