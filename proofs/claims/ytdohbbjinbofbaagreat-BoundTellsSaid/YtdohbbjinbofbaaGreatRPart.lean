/- The walk of the reference's Part. -/
import Derived.Test.YtdohbbjinbofbaaGreatPart
import Derived.Test.YtdohbbjinbofbaaGreatNodes2
import Derived.Test.YtdohbbjinbofbaaGreatRMay
set_option linter.unusedVariables false
set_option linter.unusedSimpArgs false
namespace Go.Proofs.YtdohbbjinbofbaaGreat
open Go.RowKit
theorem shift_sub (d : Int) (ks : List Int) : ks.map (· - d) = ks.map (· + -d) := by
  apply List.map_congr_left
  intro k _
  omega
theorem newNd (n n' : Nd) (A : Option Addr) (c : Nat) (e : n' = { n with kids := n'.kids }) (hl : n'.kids.length = n.kids.length) (W : World) :
    Blk (W.alloc (.cells #[.int .i64 n.kind, .string n.name, .int .i64 n.lo, .int .i64 n.hi, .slice A n.kids.length c] 45)) W.heap.size 45 #[.int .i64 n'.kind, .string n'.name, .int .i64 n'.lo, .int .i64 n'.hi, .slice A n'.kids.length c] := by
  rw [hl, show n'.kind = n.kind by rw [e], show n'.name = n.name by rw [e], show n'.lo = n.lo by rw [e], show n'.hi = n.hi by rw [e]]
  exact Blk.new _ _ _
set_option maxRecDepth 100000 in
set_option maxHeartbeats 4000000 in
theorem rpart_w {F : Fz} {w : World} (hF : Sat F w) (l : List Nd) (hn : l.length ≤ 1000) (A : Option Addr) (n c : Nat) (hc : n ≤ c) (hl : NodesF F A n l) (i : Int) (hi1 : -9223372036854775808 ≤ i) (hi2 : i ≤ 9223372036854775807) :
    Calls Tryz.prog 36 #[.slice A n c, .int .i64 i] w (RetN F w (partL l i)) := by
  have hS := fun b h => rmay_w hF l hn A n c hl b h
  obtain ⟨rfl, hl2⟩ := hl
  cases ht : treeS l with
  | none =>
    have HS := Lib.hid (hS false (by unfold mayS; rw [ht]; rfl))
    have HP := Lib.hid (part_none ht i)
    clear hS ht hl2
    go_enter Tryz.func36, Tryz.ntmps36
    go_wp2_with (go_at_call 67; refine HS.out.mono ?_; rintro e w' ⟨rfl, hw⟩)
    go_ret
    rw [HP.out]
    exact retN_nil hw hF
  | some t =>
    have HS := Lib.hid (hS true (by unfold mayS; rw [ht]; rfl))
    clear hS
    by_cases h0 : i < 0
    · have HP := Lib.hid (part_out (l := l) (i := i) (.inl h0))
      clear ht hl2
      go_enter Tryz.func36, Tryz.ntmps36
      go_wp2_with (go_at_call 67; refine HS.out.mono ?_; rintro e w' ⟨rfl, hw⟩)
      go_ret
      rw [HP.out]
      exact retN_nil hw hF
    · have h0' : decide (i < 0) = false := decide_eq_false h0
      by_cases h1 : (l.length : Int) ≤ i
      · have HP := Lib.hid (part_out (l := l) (i := i) (.inr h1))
        clear ht h0 hl2
        go_enter Tryz.func36, Tryz.ntmps36
        go_wp2_with (go_at_call 67; refine HS.out.mono ?_; rintro e w' ⟨rfl, hw⟩)
        go_ret
        rw [HP.out]
        exact retN_nil hw hF
      · have h1' : decide ((l.length : Int) ≤ i) = false := decide_eq_false h1
        obtain ⟨k, rfl⟩ := Int.eq_ofNat_of_zero_le (show 0 ≤ i by omega)
        have hkl : k < l.length := by omega
        obtain ⟨ad, rfl, hL⟩ := hl2 (by omega)
        have hlF : NodesF F (some ad) l.length l := ⟨rfl, fun _ => ⟨ad, rfl, hL⟩⟩
        obtain ⟨hp1, hp2, hp3⟩ := part_cut ht hkl
        have hts : k < t.size := by rw [← tree_len ht]; exact hkl
        have hkb := (KidsB.of hn ht).sub (l' := (l.drop (k + 1 - (t.sub k).size)).take (t.sub k).size) (fun n hn => List.mem_of_mem_drop (List.mem_of_mem_take hn))
        have hsp := (t.sub k).size_pos
        have hcut := (hlF.cut (k := k + 1 - (t.sub k).size) (cap := c) (by omega) hc).pre (k := (t.sub k).size) (by omega)
        rw [if_neg (by omega)] at hcut
        have hST := fun (W : World) (h : Sat F W) => start_w h l hn (some ad) l.length c hlF ht k hkl
        have HP2 := Lib.hid hp2
        have HP3 := Lib.hid hp3
        generalize (t.sub k).size = sz at *
        obtain ⟨fr, hfr⟩ : ∃ fr, k + 1 = fr + sz := ⟨k + 1 - sz, by omega⟩
        have hfe : k + 1 - sz = fr := by omega
        rw [hfe] at hkb hcut HP2 hST
        have HST := Lib.hid hST
        have hLl : ((l.drop fr).take sz).length = sz := hcut.1
        generalize hLe : (l.drop fr).take sz = L at *
        have HCUT := Lib.hid hcut.2
        have HLl := Lib.hid hLl
        have HKB := Lib.hid hkb
        have hsub : (k : Int) + 1 - (fr : Int) = (sz : Int) := by omega
        have hsub2 : k + 1 - fr = sz := by omega
        have hb1 : (fr : Int) ≤ (k : Int) + 1 := by omega
        have hb2 : (k : Int) + 1 ≤ (c : Int) := by omega
        have hb3 : (k : Int) < (l.length : Int) := by omega
        have hne : ¬ c = fr := by omega
        have hszl : sz ≤ 1000 := by omega
        have hfl : fr ≤ 1000 := by omega
        clear ht h0 h1 hp1 hp2 hp3 hkb hcut hST hfe hLe hLl hlF hL hl2 hsp hts hfr
        go_enter Tryz.func36, Tryz.ntmps36
        go_wp2_with (first | (go_at_call 67; refine HS.out.mono ?_; rintro e w1 ⟨rfl, hw⟩) | (go_at_call 68; refine (HST.out _ (hF.below hw)).mono ?_; rintro e w2 ⟨rfl, rfl⟩))
        go_loopw [6, 8, 9, 11, 34] (fun o _ _ _ i wr => ∃ (m : Nat) (F' : Fz) (A6 : Option Addr) (c6 : Nat), m ≤ sz ∧ i = .int .i64 m ∧ o = .slice A6 m c6 ∧ m ≤ c6 ∧ Below w.heap.size w wr ∧ Sat F' wr ∧ Fle w F F' ∧ OwnN F' wr w.heap.size (.slice A6 m c6) ((L.take m).map (shiftN (-(fr : Int))))) (fun _ _ _ _ i _ => sz - (intOf i).toNat)
        case atStart => exact ⟨0, F, none, 0, Nat.zero_le _, rfl, rfl, Nat.le_refl _, hw, hF.below hw, Fle.refl _ _, OwnN.nil _ _ _⟩
        case round =>
          obtain ⟨m, F', A6, c6, hm, rfl, rfl, hc6, hbl, hF', hle, hON⟩ := hrel
          obtain ⟨W, hW⟩ : ∃ W, W = wr := ⟨_, rfl⟩
          subst hW
          by_cases hlt : m < sz
          · have hml : m < L.length := by rw [HLl.out]; exact hlt
            obtain ⟨ad', had, hL⟩ := HCUT.out (by omega)
            injection had with had
            subst had
            obtain ⟨Ak, ck, hck, hK, hd⟩ := hL m hml
            obtain ⟨c0, c1, c2, c3, c4⟩ := hd.sat (hF.below hbl)
            have hltI : (m : Int) < (sz : Int) := by omega
            have htk : (L.take (m + 1)).map (shiftN (-(fr : Int))) = (L.take m).map (shiftN (-(fr : Int))) ++ [shiftN (-(fr : Int)) L[m]] := by
              rw [List.take_succ_eq_append_getElem hml, List.map_append]; rfl
            obtain ⟨hk2, hkk⟩ := HKB.out _ (List.getElem_mem hml)
            have hlenm : ((L.take m).map (shiftN (-(fr : Int)))).length = m := by simp; omega
            generalize hnd : L[m] = nd at *
            have HTK := Lib.hid htk
            have HKK := Lib.hid hkk
            have HLM := Lib.hid hlenm
            clear hnd htk hkk hd hL hlenm
            have hgr := fun g (h : (Value.slice A6 m c6).ownBlock = some g) => (hON.lt g h).2
            have hNB := Blk.new W 45 #[.int .i64 nd.kind, .string nd.name, .int .i64 nd.lo, .int .i64 nd.hi, .slice Ak nd.kids.length ck]
            have hWz := hbl.size
            go_wp2_with fail
            go_loopw [9, 11, 41] (fun o _ j wr2 => ∃ (jj : Nat) (A9 : Option Addr) (c9 : Nat), jj ≤ nd.kids.length ∧ j = .int .i64 jj ∧ o = .slice A9 jj c9 ∧ jj ≤ c9 ∧ Below (W.heap.size + 1) (W.alloc (.cells #[.int .i64 nd.kind, .string nd.name, .int .i64 nd.lo, .int .i64 nd.hi, .slice Ak nd.kids.length ck] 45)) wr2 ∧ Own F' wr2 (W.heap.size + 1) 3 1 (.slice A9 jj c9) jj (((nd.kids.take jj).map (· - (fr : Int))).map (Value.int .i64))) (fun _ _ j _ => nd.kids.length - (intOf j).toNat)
            case atStart => exact ⟨0, none, 0, Nat.zero_le _, rfl, rfl, Nat.le_refl _, Below.refl _ _, Own.nil _ _ _ _ _⟩
            case round =>
              obtain ⟨jj, A9, c9, hjj, rfl, rfl, hc9, hbW, hO⟩ := hrel
              have hbw2 : Below w.heap.size w wr := hbl.trans (((balloc _ _).trans (hbW.mono (by omega))).mono hWz)
              have hF2 : Sat F' wr := (hF'.alloc _).below (hbW.mono (by simp))
              have hz2 : W.heap.size + 1 ≤ wr.heap.size := by have := hbW.size; simpa using this
              by_cases hjl : jj < nd.kids.length
              · obtain ⟨Akd, v, rfl, hv, hcell⟩ := hK.at1 hjl
                obtain rfl : Value.int .i64 nd.kids[jj] = v := by simpa [hjl] using hv
                have hcz := (hF.below hbw2).cell hcell
                obtain ⟨hK1, hK2⟩ := HKK.out _ (List.getElem_mem hjl)
                have htj : (nd.kids.take (jj + 1)).map (· - (fr : Int)) = (nd.kids.take jj).map (· - (fr : Int)) ++ [nd.kids[jj] - (fr : Int)] := by
                  rw [List.take_succ_eq_append_getElem hjl, List.map_append]; rfl
                have HTJ := Lib.hid htj
                have hjI : (jj : Int) < (nd.kids.length : Int) := by omega
                generalize nd.kids[jj] = K at *
                clear htj hv hcell
                go_wp2_with (at_builtin; refine wpList_pushI rfl (.tmp 45) (.tmp 49) rfl (hO.alloc _) (hF2.alloc _) (by rfl) wr.heap.size 1 (K - (fr : Int)) (by rfl) (Blk.new _ _ _) (by omega) (by simp; omega) ?_; intro v2 w2 hO2 hFF hb2 hg2 hat2; obtain ⟨A', cp', rfl, hcp'⟩ := hO2.shape)
                go_roundw
                case rel => exact ⟨jj + 1, A', cp', by omega, by go_num, rfl, hcp', (hbW.alloc hz2 _).trans hb2, by rw [HTJ.out]; exact hO2⟩
                case measure => simp [intOf]; omega
              · obtain rfl : jj = nd.kids.length := by omega
                have hdec : decide ((nd.kids.length : Int) < (nd.kids.length : Int)) = false := decide_eq_false (by omega)
                rw [List.take_length, shift_sub] at hO
                obtain ⟨F2, A2, c2', he, hc2', hRd, hF3, hle2, hFb⟩ := hO.ints hF2 w (by omega)
                rw [List.length_map] at he hc2'
                injection he with e1 _ e3
                subst e1 e3
                have hNB2 := hNB.below hbW (by omega)
                obtain ⟨f0, f1, f2, f3, f4⟩ := ndBlk' hNB2
                have fz := hNB2.frozen 4
                have hFn : F2 W.heap.size = none := (hFb _ (by omega)).trans (hF'.none_ (Nat.le_refl _))
                have hON2 : OwnN F2 wr w.heap.size (.slice A6 m c6) ((L.take m).map (shiftN (-(fr : Int)))) :=
                  ((hON.alloc _).below2 hbW (fun g h => by have := hgr g h; omega)).le2 hle2.cle (fun g h => hFb g (by have := hgr g h; omega))
                have hON3 := hON2.setFar (a := ⟨W.heap.size, 4, none⟩) (fun e => by have := hgr _ e; simp at this) (.slice A9 nd.kids.length c9)
                have hF4 := hF3.setCell (p := ⟨W.heap.size, 4, none⟩) hFn (.slice A9 nd.kids.length c9)
                have hb4 := hbw2.setCell (p := ⟨W.heap.size, 4, none⟩) hWz (.slice A9 nd.kids.length c9)
                have hBN := newNd nd (shiftN (-(fr : Int)) nd) A9 c9 rfl (by simp [shiftN]) (wr.setCell ⟨W.heap.size, 4, none⟩ (.slice A9 nd.kids.length c9))
                rw [size_setCell] at hBN
                have hck9 : (shiftN (-(fr : Int)) nd).kids.length ≤ c9 := by simpa [shiftN] using hc2'
                have HBN := Lib.hid hBN
                have HRD := Lib.hid hRd
                have hln1 : ((L.take m).map (shiftN (-(fr : Int)))).length + 1 ≤ 1000000 := by rw [HLM.out]; omega
                have hlm1 : ((L.take (m + 1)).map (shiftN (-(fr : Int)))).length = m + 1 := by have := HLl.out; simp; omega
                have HLM1 := Lib.hid hlm1
                clear hBN hRd hlm1
                go_wp2_with (at_builtin; refine wpList_pushN rfl (.tmp 54) (.tmp 56) rfl (hON3.alloc _) (hF4.alloc _) (by rfl) wr.heap.size 1 (shiftN (-(fr : Int)) nd) A9 c9 (by rfl) HBN.out hck9 HRD.out hln1 (by simp; omega) ?_; intro v2 w2 hO2 hFF hb2 hg2 hat2; rw [← HTK.out] at hO2; obtain ⟨A', cp', hv2, hcp'⟩ := hO2.shape; rw [HLM1.out] at hv2 hcp'; subst hv2)
                go_roundw
                case rel => exact ⟨m + 1, F2, A', cp', by omega, by go_num, rfl, hcp', (hb4.alloc (by rw [size_setCell]; omega) _).trans hb2, hFF, hle.trans hle2 (Nat.le_refl _), hO2⟩
                case measure => simp [intOf]; omega
          · obtain rfl : m = sz := by omega
            have hdec : decide ((m : Int) < (m : Int)) = false := decide_eq_false (by omega)
            rw [List.take_of_length_le (by rw [HLl.out]; exact Nat.le_refl _), HP2.out] at hON
            obtain ⟨F2, A2, c2, he, hc2, hN, hF2, hle2, _⟩ := hON.freeze hF' w (Nat.le_refl _)
            have HE := Lib.hid he
            clear he
            go_wp2_with fail
            go_ret
            rw [HP3.out]
            exact ⟨A2, c2, F2, by rw [← HE.out] <;> rfl, hc2, hN, hbl, hF2, hle.trans hle2 (Nat.le_refl _)⟩
end Go.Proofs.YtdohbbjinbofbaaGreat
