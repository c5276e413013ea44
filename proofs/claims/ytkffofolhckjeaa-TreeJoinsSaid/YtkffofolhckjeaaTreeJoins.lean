/- The walk of the law TreeJoins. -/
import Derived.Test.YtkffofolhckjeaaTells
import Derived.Test.YtkffofolhckjeaaCopy
import Derived.Test.YtkffofolhckjeaaRJoin
import Derived.Test.YtkffofolhckjeaaBuild
import Derived.Deep.CutRange
set_option linter.unusedVariables false
set_option linter.unusedSimpArgs false
namespace Go.Proofs.Ytkffofolhckjeaa
open Go.RowKit
def smallL (l : List Nd) : Prop := l.length ≤ 100 ∧ ∀ x ∈ l, x.kids.length ≤ 1000
theorem valid_kids {t : Tr} (h : validT t = true) : ∀ x ∈ t.flat 0, x.kids.length ≤ 1000 := fun x hx => by
  obtain ⟨t', e, _⟩ := tree_of_valid h
  have := kids_le_two (by rw [e]; rfl) x hx
  omega
theorem make_small (ns : List Nat) (hns : ∀ k ∈ ns, k < 65536) : smallL ((makeT false ns).flat 0) ∧ smallL ((regT false ns).flat 0) := by
  obtain ⟨o1, o2⟩ := make_ok false ns hns
  exact ⟨⟨by rw [Tr.length_flat]; exact (make_size false ns).1, valid_kids (okF_iff.1 o1).1⟩, ⟨by rw [Tr.length_flat]; exact (make_size false ns).2, valid_kids (okR_iff.1 o2).1⟩⟩
theorem join_small (n : Nd) (ls : List (List Nd)) (h : ∀ l ∈ ls, smallL l) (hl : ls.length ≤ 3) : (ls.map List.length).sum ≤ 900 ∧ (joinL n ls).length ≤ 100000 ∧ ∀ x ∈ joinL n ls, x.kids.length ≤ 1000 := by
  have hs : (ls.map List.length).sum ≤ ls.length * 100 := by
    clear hl
    induction ls with
    | nil => simp
    | cons a ls ih =>
      have h1 := (h a (by simp)).1
      have h2 := ih fun l hl => h l (by simp [hl])
      simp
      omega
  refine ⟨by omega, ?_⟩
  unfold joinL
  split
  · rename_i hj
    refine ⟨by rw [rawJ, List.length_append, acc_len]; simp; omega, fun x hx => ?_⟩
    have := kids_le_two hj.2 x hx
    omega
  · exact ⟨by simp, by simp⟩
theorem bel_eqv2 {w w' : World} (h : Below w.heap.size w w') : Below w.heap.size w w' := h
set_option maxRecDepth 100000 in
set_option maxHeartbeats 4000000 in
theorem treeJoins_c {F : Fz} {w : World} (hF : Sat F w) (nd : Nd) (Ak : Option Addr) (ck : Nat) (Aa Ab : Option Addr) (na ca nb cb : Nat) (nsa nsb : List Nat) (hnsa : ∀ k ∈ nsa, k < 65536) (hnsb : ∀ k ∈ nsb, k < 65536) (hra : Rd F 1 Aa na (nsa.map encW)) (hrb : Rd F 1 Ab nb (nsb.map encW)) (count regs : Nat) (hcount : count < 256) (hregs : regs < 256) :
    Calls Try.prog 12 #[.agg #[.int .i64 nd.kind, .string nd.name, .int .i64 nd.lo, .int .i64 nd.hi, .slice Ak nd.kids.length ck], .slice Aa na ca, .slice Ab nb cb, .int .u8 count, .int .u8 regs] w fun e w' => e = .returned (.bool true) ∧ Below w.heap.size w w' := by
  have hBX := Blk.new w 57 #[.int .i64 nd.kind, .string nd.name, .int .i64 nd.lo, .int .i64 nd.hi, .slice Ak nd.kids.length ck]
  obtain ⟨cnt, hcnt⟩ : ∃ cnt, count % 4 = cnt := ⟨_, rfl⟩
  have hcnt2 : ((count : Nat) : Int) % 4 = (cnt : Int) := by omega
  have hcnt3 : cnt ≤ 3 := by omega
  have HA := Lib.hid hnsa
  have HB := Lib.hid hnsb
  clear hcnt hnsa hnsb
  go_enter Try.func12, Try.ntmps12
  go_wp2_with fail
  rw [hcnt2]
  go_loopw [11, 12, 13, 14, 15, 20] (fun v11 v12 _ _ _ i wr => ∃ (m : Nat) (F' : Fz) (A11 A12 : Option Addr) (c11 c12 : Nat) (ls : List (List Nd)), m ≤ cnt ∧ i = .int .i64 m ∧ v11 = .slice A11 m c11 ∧ v12 = .slice A12 m c12 ∧ m ≤ c11 ∧ m ≤ c12 ∧ Hid (ls.length = m) ∧ Hid (∀ l ∈ ls, smallL l) ∧ Below w.heap.size w wr ∧ Sat F' wr ∧ Fle w F F' ∧ OwnR F' wr (w.heap.size + 1) (.slice A11 m c11) ls ∧ OwnR F' wr (w.heap.size + 1) (.slice A12 m c12) ls ∧ Apart (.slice A11 m c11) (.slice A12 m c12) ∧ Blk wr w.heap.size 57 #[.int .i64 nd.kind, .string nd.name, .int .i64 nd.lo, .int .i64 nd.hi, .slice Ak nd.kids.length ck]) (fun _ _ _ _ _ i _ => cnt - (intOf i).toNat)
  case atStart => exact ⟨0, F, none, none, 0, 0, [], Nat.zero_le _, rfl, rfl, rfl, Nat.le_refl _, Nat.le_refl _, Lib.hid rfl, Lib.hid (by simp), balloc _ _, hF.alloc _, Fle.refl _ _, OwnR.nil _ _ _, OwnR.nil _ _ _, apart_nil _, hBX⟩
  case round =>
    obtain ⟨m, F', A11, A12, c11, c12, ls, hm, rfl, rfl, rfl, hc11, hc12, HLS, HSM, hbl, hF', hle, hO11, hO12, hap, hBk⟩ := hrel
    clear hBX
    obtain ⟨W, hW⟩ : ∃ W, W = wr := ⟨_, rfl⟩
    subst hW
    by_cases hlt : m < cnt
    · have hltI : (m : Int) < (cnt : Int) := by omega
      go_upto_if 25 with fail
      go_cut [14, 20] from 20 to 46 (fun v14 v20 wx => ∃ (Ax : Option Addr) (nx cx : Nat) (nsx : List Nat), v20 = .int .i64 m ∧ v14 = .slice Ax nx cx ∧ Rd F 1 Ax nx (nsx.map encW) ∧ Hid (∀ k ∈ nsx, k < 65536) ∧ wx = W)
      case first =>
        go_wp2_with fail
        all_goals go_meet
        all_goals first
          | exact ⟨Aa, na, ca, nsa, rfl, rfl, hra, HA, rfl⟩
          | exact ⟨Ab, nb, cb, nsb, rfl, rfl, hrb, HB, rfl⟩
      case rest =>
        obtain ⟨Ax, nx, cx, nsx, rfl, rfl, hrx, HNS, rfl⟩ := hcut
        obtain ⟨q1, q2⟩ := make_small nsx HNS.out
        have HM := Lib.hid (make_w hF' nsx HNS.out Ax nx cx (hrx.cle hle.cle) false (makeT false nsx) rfl)
        have HR := Lib.hid (fun (F1 : Fz) (w1 : World) (h1 : Sat F1 w1) (h : CLe F' F1) => reg5_w h1 nsx HNS.out Ax nx cx (hrx.cle (hle.cle.trans h)) false (regT false nsx) rfl)
        generalize (makeT false nsx).flat 0 = lm at *
        generalize (regT false nsx).flat 0 = lr at *
        have Q1 := Lib.hid q1
        have Q2 := Lib.hid q2
        clear q1 q2
        go_upto_if 34 with (go_at_call 37; refine HM.out.mono ?_; rintro e w1 ⟨A1, c1, F1, rfl, hc1, hN1, hb1, hF1, hle1⟩)
        go_cut [15, 20] from 20 to 46 (fun v15 v20 wx => ∃ (A5 : Option Addr) (c5 : Nat) (F5 : Fz) (l : List Nd), v20 = .int .i64 m ∧ v15 = .slice A5 l.length c5 ∧ l.length ≤ c5 ∧ NodesF F5 A5 l.length l ∧ Hid (smallL l) ∧ Below wc.heap.size wc wx ∧ Sat F5 wx ∧ Fle wc F' F5)
        case first =>
          go_wp2_with (go_at_call 38; refine (HR.out F1 w1 hF1 hle1.cle).mono ?_; rintro e w2 ⟨A2, c2, F2, rfl, hc2, hN2, hb2, hF2, hle2⟩)
          all_goals go_meet
          all_goals first
            | exact ⟨A2, c2, F2, lr, rfl, rfl, hc2, hN2, Q2, bthen hb1 hb2, hF2, hle1.trans hle2 hb1.size⟩
            | exact ⟨A1, c1, F1, lm, rfl, rfl, hc1, hN1, Q1, hb1, hF1, hle1⟩
        case rest =>
          obtain ⟨A5, c5, F5, l, rfl, rfl, hc5, hN5, QL, hb5, hF5, hle5⟩ := hcut
          have hzb := hbl.size
          have hz5 := hb5.size
          have hzk := hBk.lt
          have hgr11 := fun g (h : (Value.slice A11 m c11).ownBlock = some g) => hO11.lt g h
          have hgr12 := fun g (h : (Value.slice A12 m c12).ownBlock = some g) => hO12.lt g h
          have hln : ls.length + 1 ≤ 1000000 := by have := HLS.out; omega
          have h11 := (hO11.le hle5).call hb5
          have h12 := (hO12.le hle5).call hb5
          have hBk5 := hBk.call hb5
          have q1 := bthen hbl hb5
          have q0 := (hle.trans hle5 hbl.size)
          have hsm : ∀ x ∈ ls ++ [l], smallL x := fun x hx => by
            rcases List.mem_append.1 hx with h | h
            · exact HSM.out x h
            · simp at h; rw [h]; exact QL.out
          have HSM2 := Lib.hid hsm
          have HLS2 : Hid ((ls ++ [l]).length = m + 1) := Lib.hid (by simp [HLS.out])
          clear hsm
          go_wp2_with (first
            | (at_builtin; refine wpList_allR rfl (.tmp 37) (.tmp 39) rfl (ls := ls) (h11.alloc _) (hF5.alloc _) (by rfl) (some ⟨_, 0, none⟩) 1 _ [l] [.slice A5 l.length c5] (by rfl) (sat_heapF _) (rd_one (Blk.new _ _ _)) (RowsV.one hc5 hN5) hln (by simp; omega) ?_; intro v1 w1 hO1 hF1 hb1 hg1 hat1; have hz1 := hb1.size; simp at hz1; obtain ⟨A11', c11', hv1, hc11'⟩ := hO1.shape; rw [HLS2.out] at hv1 hc11'; subst hv1; have h12a := (h12.alloc (.cells #[.slice A5 l.length c5] 47)).kept hg1 hap.or; have hap1 := hap.push (fun g h => by have := hgr12 g h; simp; omega) hat1; have hBk1 := (hBk5.alloc (.cells #[.slice A5 l.length c5] 47)).grown hg1 (fun e => by have := hgr11 _ e.symm; omega); have hCp := Lib.hid (copy_w hF1 l (by have := QL.out.1; omega) QL.out.2 A5 l.length c5 hN5))
            | (go_at_call 42; refine hCp.out.mono ?_; rintro e w2 ⟨v, F2, xs, rfl, hO2, hK2, hb2, hF2, hle2⟩; obtain ⟨F3, A3, c3, rfl, hc3, hN3, hF3, hle3, _⟩ := OwnN.freeze ⟨xs, hO2, hK2.v⟩ hF2 w1 (Nat.le_refl _); have hle23 := hle2.trans hle3 (Nat.le_refl _); have h11b := (hO1.le hle23).call hb2; have h12b := (h12a.le hle23).call hb2; have hBk2 := hBk1.call hb2; have hz2 := hb2.size; have hgr1 := fun g (h : (Value.slice A11' (m + 1) c11').ownBlock = some g) => h11b.lt g h)
            | (at_builtin; refine wpList_allR rfl (.tmp 41) (.tmp 44) rfl (ls := ls) (h12b.alloc _) (hF3.alloc _) (by rfl) (some ⟨_, 0, none⟩) 1 _ [l] [.slice A3 l.length c3] (by rfl) (sat_heapF _) (rd_one (Blk.new _ _ _)) (RowsV.one hc3 hN3) hln (by simp; omega) ?_; intro v4 w4 hO4 hF4 hb4 hg4 hat4; obtain ⟨A12', c12', hv4, hc12'⟩ := hO4.shape; rw [HLS2.out] at hv4 hc12'; subst hv4; have h11c := (h11b.alloc (.cells #[.slice A3 l.length c3] 47)).kept hg4 hap1.symm.or; have hap4 := (hap1.symm.push (fun g h => by have := hgr1 g h; simp; omega) hat4).symm; have hBk4 := (hBk2.alloc (.cells #[.slice A3 l.length c3] 47)).grown hg4 (fun e => by have := hgr12 _ e.symm; omega)))
          go_roundw
          case rel =>
            have q2 := (q1.alloc q1.size (.cells #[.slice A5 l.length c5] 47)).trans (hb1.mono (Nat.le_succ _))
            have q3 := bthen q2 hb2
            have q4 := (q3.alloc q3.size (.cells #[.slice A3 l.length c3] 47)).trans (hb4.mono (Nat.le_succ _))
            exact ⟨m + 1, F3, A11', A12', c11', c12', ls ++ [l], by omega, by go_num, rfl, rfl, hc11', hc12', HLS2, HSM2, q4, hF4, q0.trans hle23 q2.size, h11c, hO4, hap4, hBk4⟩
          case measure => simp [intOf]; omega
    · obtain rfl : m = cnt := by omega
      have hdec : decide ((m : Int) < (m : Int)) = false := decide_eq_false (by omega)
      obtain ⟨A11x, c11x, xs1, e1, _, hr1, hv1⟩ := hO11.rd
      obtain ⟨A12x, c12x, xs2, e2, _, hr2, hv2⟩ := hO12.rd
      have e3 := (Value.slice.inj e1).1
      have e4 := (Value.slice.inj e2).1
      clear e1 e2
      subst e3 e4
      have hR1 := (hv1.cle hF'.cle).toN hr1
      have hR2 := (hv2.cle hF'.cle).toN hr2
      rw [HLS.out] at hR1 hR2
      obtain ⟨j1, j2, j3⟩ := join_small nd ls HSM.out (by have := HLS.out; omega)
      have HJ1 := Lib.hid (fun (X : World) (h : Sat (heapF W) X) => join_w h nd Ak nd.kids.length ck ls j1 (by have := HLS.out; omega) A11 m c11 hR1)
      have HJ2 := Lib.hid (fun (X : World) (h : Sat (heapF W) X) => rjoin_w h nd Ak nd.kids.length ck ls j1 (by have := HLS.out; omega) A12 m c12 hR2)
      generalize joinL nd ls = J at *
      have HJN := Lib.hid j2
      have HJK := Lib.hid j3
      have HR1 := Lib.hid hR1
      have HR2 := Lib.hid hR2
      obtain ⟨b0, b1, b2, b3, b4⟩ := blk5 hBk
      have hWl := hBk.lt
      have hG : Sat (heapF W) W := sat_heapF W
      clear hv1 hv2 hr1 hr2 j1 j2 j3 hR1 hR2
      go_upto_region 13 with fail
      go_cut [54] from 47 to 54 (fun v wx => v = .bool false ∧ Below W.heap.size W wx)
      case first =>
        go_region_held3 (fun w' => w'.cell? ⟨w.heap.size, 0, none⟩ = some (.int .i64 nd.kind) ∧ w'.cell? ⟨w.heap.size, 1, none⟩ = some (.string nd.name) ∧ w'.cell? ⟨w.heap.size, 2, none⟩ = some (.int .i64 nd.lo) ∧ w'.cell? ⟨w.heap.size, 3, none⟩ = some (.int .i64 nd.hi) ∧ w'.cell? ⟨w.heap.size, 4, none⟩ = some (.slice Ak nd.kids.length ck)) (go_keep)
          (first
            | (go_at_call 44; refine (HJ1.out _ (by first | exact hG)).mono ?_; rintro e w3 ⟨A3, c3, F3, rfl, hc3, hN3, hw3, hF3, hle3⟩; have hB3 : Below W.heap.size W w3 := (by refine bel_trans ?_ hw3; first | exact bel_eqv (Below.refl _ W) rfl rfl rfl rfl); have hG3 := hG.below hB3; have s0 := (hB3.cell (p := ⟨w.heap.size, 0, none⟩) hWl).trans b0; have s1 := (hB3.cell (p := ⟨w.heap.size, 1, none⟩) hWl).trans b1; have s2 := (hB3.cell (p := ⟨w.heap.size, 2, none⟩) hWl).trans b2; have s3 := (hB3.cell (p := ⟨w.heap.size, 3, none⟩) hWl).trans b3; have s4 := (hB3.cell (p := ⟨w.heap.size, 4, none⟩) hWl).trans b4)
            | (go_at_call 45; refine (HJ2.out _ (by first | exact hG3)).mono ?_; rintro e w4 ⟨A4, c4, F4, rfl, hc4, hN4, hw4, hF4, hle4⟩; have hB4 : Below W.heap.size W w4 := (by refine bel_trans ?_ hw4; first | exact bel_eqv hB3 rfl rfl rfl rfl); have hN3 := (hN3.cle hF3.cle).cle (cle_below (bel_eqv2 hw4)); have hN4 := hN4.cle hF4.cle; have s0 := (hB4.cell (p := ⟨w.heap.size, 0, none⟩) hWl).trans b0; have s1 := (hB4.cell (p := ⟨w.heap.size, 1, none⟩) hWl).trans b1; have s2 := (hB4.cell (p := ⟨w.heap.size, 2, none⟩) hWl).trans b2; have s3 := (hB4.cell (p := ⟨w.heap.size, 3, none⟩) hWl).trans b3; have s4 := (hB4.cell (p := ⟨w.heap.size, 4, none⟩) hWl).trans b4)
            | (go_at_call 43; refine (sameNodes_w (sat_heapF _) J J A3 A4 _ _ c3 c4 HJN.out hN3 hN4 HJK.out true (by simp)).mono ?_; rintro e w5 ⟨rfl, hw5⟩; have hB5 : Below W.heap.size W w5 := (by refine bel_trans ?_ hw5; first | exact bel_eqv hB4 rfl rfl rfl rfl); have s0 := (hB5.cell (p := ⟨w.heap.size, 0, none⟩) hWl).trans b0; have s1 := (hB5.cell (p := ⟨w.heap.size, 1, none⟩) hWl).trans b1; have s2 := (hB5.cell (p := ⟨w.heap.size, 2, none⟩) hWl).trans b2; have s3 := (hB5.cell (p := ⟨w.heap.size, 3, none⟩) hWl).trans b3; have s4 := (hB5.cell (p := ⟨w.heap.size, 4, none⟩) hWl).trans b4))
        all_goals
          go_wp2_with fail
          go_meet
          exact ⟨rfl, hB5⟩
      case rest =>
        obtain ⟨rfl, hbW⟩ := hcut
        go_wp2_with fail
        go_loopw [16, 57] (fun _ i wr => ∃ k : Nat, k ≤ m ∧ i = .int .i64 k ∧ Below W.heap.size W wr) (fun _ i _ => m - (intOf i).toNat)
        case atStart => exact ⟨0, Nat.zero_le _, rfl, hbW⟩
        case round =>
          obtain ⟨k, hk, rfl, hbW⟩ := hrel
          by_cases hkm : k < m
          · have hkI : (k : Int) < (m : Int) := by omega
            obtain ⟨_, hx1⟩ := HR1.out
            obtain ⟨_, hx2⟩ := HR2.out
            obtain ⟨a1, rfl, hy1⟩ := hx1 (by omega)
            obtain ⟨a2, rfl, hy2⟩ := hx2 (by omega)
            have hkl : k < ls.length := by rw [HLS.out]; exact hkm
            obtain ⟨Ai, ci, hi1, hi2, hi3⟩ := hy1 k hkl
            obtain ⟨Aj, cj, hj1, hj2, hj3⟩ := hy2 k hkl
            have hq := HSM.out _ (List.getElem_mem hkl)
            generalize ls[k] = lk at *
            have z1 := (hG.below hbW).cell hi1
            have z2 := (hG.below hbW).cell hj1
            have HQ := Lib.hid hq
            have hS := Lib.hid (fun (X : World) (h : Sat (heapF W) X) => sameNodes_w h lk lk Ai Aj lk.length lk.length ci cj (by have := HQ.out.1; omega) hi3 hj3 HQ.out.2 true (by simp))
            have hi1' := hi1
            have hj1' := hj1
            have hz1 := hG.cell hi1
            have hz2 := hG.cell hj1
            clear hq hx1 hx2 hy1 hy2 hi1 hj1
            go_upto_region 18 with fail
            go_region_held3 (fun w' => w'.cell? (a1.add k) = some (.slice Ai lk.length ci) ∧ w'.cell? (a2.add k) = some (.slice Aj lk.length cj)) (go_keep)
              (first
                | (go_at_call 43; refine (hS.out _ (by first | exact hG.below hbW | exact hG.below (bel_eqv hbW rfl rfl rfl rfl))).mono ?_; rintro e w5 ⟨rfl, hw5⟩; have hB5 : Below W.heap.size W w5 := (by refine bel_trans ?_ hw5; first | exact bel_eqv hbW rfl rfl rfl rfl); have z3 := (hB5.cell (hG.clt hi1')).trans hz1; have z4 := (hB5.cell (hG.clt hj1')).trans hz2))
            all_goals
              go_wp2_with fail
              go_roundw
              case rel => exact ⟨k + 1, by omega, by go_num, hB5⟩
              case measure => simp [intOf]; omega
          · obtain rfl : k = m := by omega
            have hdec2 : decide ((k : Int) < (k : Int)) = false := decide_eq_false (by omega)
            go_wp2_with (go_at_call 35; refine (awake5_w _).mono ?_; rintro e w6 ⟨rfl, hw6⟩)
            go_ret
            exact ⟨rfl, bthen (hbl.trans (hbW.mono hbl.size)) hw6⟩
end Go.Proofs.Ytkffofolhckjeaa
