/- The walk of the reference's Over. -/
import Derived.Test.YtdbbooibkiicnaaRPart
set_option linter.unusedVariables false
set_option linter.unusedSimpArgs false
namespace Go.Proofs.Ytdbbooibkiicnaa
open Go.RowKit
def overK (a b : List Nd) : List Int := (if a.length = 0 then [] else [(a.length : Int) - 1]) ++ (if b.length = 0 then [] else [(a.length : Int) + (b.length : Int) - 1])
def overL (n : Nd) (a b : List Nd) : List Nd := a ++ b.map (shiftN (a.length : Int)) ++ [{ n with kids := overK a b }]
set_option maxRecDepth 100000 in
set_option maxHeartbeats 4000000 in
theorem over_w {F : Fz} {w : World} (hF : Sat F w) (n : Nd) (Ak : Option Addr) (nk ck : Nat) (a b : List Nd) (hna : a.length ≤ 1000) (hnb : b.length ≤ 1000) (A B : Option Addr) (na nb ca cb : Nat) (ha : NodesF F A na a) (hb : NodesF F B nb b) (hkb : KidsB b) :
    Calls Try.prog 56 #[.agg #[.int .i64 n.kind, .string n.name, .int .i64 n.lo, .int .i64 n.hi, .slice Ak nk ck], .slice A na ca, .slice B nb cb] w (RetN F w (overL n a b)) := by
  have HA := Lib.hid ha
  have hla : a.length = na := ha.1
  obtain ⟨hlb, hb2⟩ := hb
  rw [hla] at hna
  rw [hlb] at hnb
  clear ha
  obtain ⟨ka, hka⟩ : ∃ ka : List Int, ka = if na = 0 then [] else [(na : Int) - 1] := ⟨_, rfl⟩
  have HKA := Lib.hid hka
  have hkal : ka.length ≤ 1 := by rw [hka]; split <;> simp
  have hBX := Blk.new w 29 #[.int .i64 n.kind, .string n.name, .int .i64 n.lo, .int .i64 n.hi, .slice Ak nk ck]
  have HLA := Lib.hid hla
  have HLB := Lib.hid hlb
  clear hka hla hlb
  go_enter Try.func56, Try.ntmps56
  go_upto_if 19 with (at_builtin; refine wpList_allN rfl (.tmp 14) (.tmp 15) rfl (B := w.heap.size + 1) (OwnN.empty F (w.alloc (.cells #[.int .i64 n.kind, .string n.name, .int .i64 n.lo, .int .i64 n.hi, .slice Ak nk ck] 29)) (w.heap.size + 1) (hF.alloc _) rfl (by simp)) ((hF.alloc _).alloc _) (by simp <;> rfl) A na ca a (by rfl) HA.out (by simp; omega) (by simp) ?_; intro v1 w1 hO1 hF1 hb1 hg1 hat1; obtain ⟨A7, c7, hv1, hc7⟩ := hO1.shape; rw [List.nil_append, HLA.out] at hv1 hc7; subst hv1)
  rw [List.nil_append] at hO1
  have hBX1 := (hBX.alloc (.cells #[] 29)).below hb1 (by simp)
  have hlt1 := fun g (h : (Value.slice A7 na c7).ownBlock = some g) => (hO1.lt g h).2
  have hz1 : w.heap.size + 1 ≤ w1.heap.size := by have := hb1.size; simp at this; omega
  go_cut [8] (fun v8 wx => ∃ A8 c8, v8 = .slice A8 ka.length c8 ∧ ka.length ≤ c8 ∧ Own F wx w1.heap.size 3 1 v8 ka.length (ka.map (Value.int .i64)) ∧ Below w1.heap.size w1 wx)
  case first =>
    by_cases h0 : na = 0
    · have HK0 : Hid (ka = []) := Lib.hid (by rw [HKA.out, if_pos h0])
      subst h0
      go_wp2_with fail
      go_meet
      exact ⟨none, 0, by rw [HK0.out]; rfl, by rw [HK0.out]; exact Nat.le_refl _, by rw [HK0.out]; exact Own.nil _ _ _ _ _, Below.refl _ _⟩
    · have hd : (0 : Int) < (na : Int) := by omega
      have hd' : 0 < na := by omega
      have HK0 : Hid (ka = [(na : Int) - 1]) := Lib.hid (by rw [HKA.out, if_neg h0])
      clear h0
      go_wp2_with (at_builtin; go_loud (refine wpList_pushI rfl (.tmp 20) (.tmp 24) rfl (xs := []) (n := 0) (B := w1.heap.size) (Own.nil F _ _ _ _) (hF1.alloc _) (by rfl) w1.heap.size 1 ((na : Int) - 1) (by rfl) (Blk.new _ _ _) (by omega) (by simp) ?_); intro v2 w2 hO2 hFF hb2 hg2 hat2; obtain ⟨A', cp', rfl, hcp'⟩ := hO2.shape)
      go_meet
      exact ⟨A', cp', by rw [HK0.out] <;> rfl, by rw [HK0.out]; exact hcp', by rw [HK0.out]; exact hO2, (balloc _ _).trans hb2⟩
  case rest =>
    obtain ⟨A8, c8, rfl, hc8, hO8, hbc⟩ := hcut
    have hO7 := hO1.below2 hbc hlt1
    have hBX2 := hBX1.below hbc (by omega)
    have hF2 := hF1.below hbc
    have hwc := hbc.size
    have hap : Apart (.slice A7 na c7) (.slice A8 ka.length c8) := (apart_lt (S := w1.heap.size) (fun g h => (hO8.1.lt g h).1) hlt1).symm
    have hbl0 : Below w.heap.size w wc := (((balloc _ _).trans ((balloc _ _).mono (by simp))).trans (hb1.mono (by omega))).trans (hbc.mono (by omega))
    have hfx : Hid (F w.heap.size = none) := Lib.hid (hF.none_ (Nat.le_refl _))
    have hA0 : OwnN F wc (w.heap.size + 1) (.slice A7 (na + 0) c7) (a ++ (b.take 0).map (shiftN (na : Int))) := by simpa using hO7
    clear hO1 hbc hlt1 hO7 hat1 hg1 hb1 hF1 hBX1 hBX
    go_wp2_with fail
    go_loopw [7, 10, 11, 13, 28] (fun o _ _ _ i wr => ∃ (m : Nat) (F' : Fz) (A6 : Option Addr) (c6 : Nat), m ≤ nb ∧ i = .int .i64 m ∧ o = .slice A6 (na + m) c6 ∧ na + m ≤ c6 ∧ Below w.heap.size w wr ∧ Sat F' wr ∧ Fle w F F' ∧ Hid (F' w.heap.size = none) ∧ OwnN F' wr (w.heap.size + 1) (.slice A6 (na + m) c6) (a ++ (b.take m).map (shiftN (na : Int))) ∧ Own F' wr w1.heap.size 3 1 (.slice A8 ka.length c8) ka.length (ka.map (Value.int .i64)) ∧ Apart (.slice A6 (na + m) c6) (.slice A8 ka.length c8) ∧ Blk wr w.heap.size 29 #[.int .i64 n.kind, .string n.name, .int .i64 n.lo, .int .i64 n.hi, .slice Ak nk ck] ∧ w1.heap.size ≤ wr.heap.size) (fun _ _ _ _ i _ => nb - (intOf i).toNat)
    case atStart => exact ⟨0, F, A7, c7, Nat.zero_le _, rfl, rfl, hc7, hbl0, hF2, Fle.refl _ _, hfx, hA0, hO8, hap, hBX2, hwc⟩
    case round =>
      obtain ⟨m, F', A6, c6, hm, rfl, rfl, hc6, hbl, hF', hle, hfx', hON, hO8', hap', hBX', hwz⟩ := hrel
      clear hA0 hO8 hap hBX2 hF2 hbl0 hfx
      obtain ⟨W, hW⟩ : ∃ W, W = wr := ⟨_, rfl⟩
      subst hW
      have hgr := fun g (h : (Value.slice A6 (na + m) c6).ownBlock = some g) => hON.lt g h
      have hgr8 := fun g (h : (Value.slice A8 ka.length c8).ownBlock = some g) => hO8'.1.lt g h
      have hWz := hbl.size
      have hWx := hBX'.lt
      by_cases hlt : m < nb
      · have hml : m < b.length := by rw [HLB.out]; exact hlt
        obtain ⟨ad, rfl, hL⟩ := hb2 (by omega)
        obtain ⟨Akk, ckk, hck, hK, hd⟩ := hL m hml
        obtain ⟨c0, c1, c2, c3, c4⟩ := hd.sat (hF.below hbl)
        have hltI : (m : Int) < (nb : Int) := by omega
        have htk : a ++ (b.take (m + 1)).map (shiftN (na : Int)) = a ++ (b.take m).map (shiftN (na : Int)) ++ [shiftN (na : Int) b[m]] := by
          rw [List.take_succ_eq_append_getElem hml, List.map_append, List.append_assoc]; rfl
        obtain ⟨hk2, hkk⟩ := hkb _ (List.getElem_mem hml)
        have hlenm : (a ++ (b.take m).map (shiftN (na : Int))).length + 1 ≤ 1000000 := by have := HLA.out; simp; omega
        have hlm1 : (a ++ (b.take (m + 1)).map (shiftN (na : Int))).length = na + (m + 1) := by have := HLA.out; have := HLB.out; simp; omega
        generalize hnd : b[m] = nd at *
        have HTK := Lib.hid htk
        have HKK := Lib.hid hkk
        have HLM1 := Lib.hid hlm1
        have HLN := Lib.hid hlenm
        clear hnd htk hkk hd hL hlenm hlm1
        have hNB := Blk.new W 29 #[.int .i64 nd.kind, .string nd.name, .int .i64 nd.lo, .int .i64 nd.hi, .slice Akk nd.kids.length ckk]
        go_wp2_with fail
        go_loopw [11, 13, 35] (fun o _ j wr2 => ∃ (jj : Nat) (A9 : Option Addr) (c9 : Nat), jj ≤ nd.kids.length ∧ j = .int .i64 jj ∧ o = .slice A9 jj c9 ∧ jj ≤ c9 ∧ Below (W.heap.size + 1) (W.alloc (.cells #[.int .i64 nd.kind, .string nd.name, .int .i64 nd.lo, .int .i64 nd.hi, .slice Akk nd.kids.length ckk] 29)) wr2 ∧ Own F' wr2 (W.heap.size + 1) 3 1 (.slice A9 jj c9) jj (((nd.kids.take jj).map (· + (na : Int))).map (Value.int .i64))) (fun _ _ j _ => nd.kids.length - (intOf j).toNat)
        case atStart => exact ⟨0, none, 0, Nat.zero_le _, rfl, rfl, Nat.le_refl _, Below.refl _ _, Own.nil _ _ _ _ _⟩
        case round =>
          obtain ⟨jj, A9, c9, hjj, rfl, rfl, hc9, hbW, hO⟩ := hrel
          have hbw2 : Below w.heap.size w wr := hbl.trans (((balloc _ _).trans (hbW.mono (by omega))).mono hWz)
          have hF2 : Sat F' wr := (hF'.alloc _).below (hbW.mono (by simp))
          have hz2 : W.heap.size + 1 ≤ wr.heap.size := by have := hbW.size; simpa using this
          by_cases hjl : jj < nd.kids.length
          · obtain ⟨Akd, v, rfl, hv, hcell⟩ := hK.at1 hjl
            obtain rfl : Value.int .i64 nd.kids[jj] = v := by simpa [hjl] using hv
            have hcz := (hF.below hbw2).cell hcell
            obtain ⟨hK1, hK2⟩ := HKK.out _ (List.getElem_mem hjl)
            have htj : (nd.kids.take (jj + 1)).map (· + (na : Int)) = (nd.kids.take jj).map (· + (na : Int)) ++ [nd.kids[jj] + (na : Int)] := by
              rw [List.take_succ_eq_append_getElem hjl, List.map_append]; rfl
            have HTJ := Lib.hid htj
            have hjI : (jj : Int) < (nd.kids.length : Int) := by omega
            generalize nd.kids[jj] = K at *
            clear htj hv hcell
            go_wp2_with (at_builtin; refine wpList_pushI rfl (.tmp 39) (.tmp 44) rfl (hO.alloc _) (hF2.alloc _) (by rfl) wr.heap.size 1 (K + (na : Int)) (by rfl) (Blk.new _ _ _) (by omega) (by simp; omega) ?_; intro v2 w2 hO2 hFF hb2 hg2 hat2; obtain ⟨A', cp', rfl, hcp'⟩ := hO2.shape)
            go_roundw
            case rel => exact ⟨jj + 1, A', cp', by omega, by go_num, rfl, hcp', (hbW.alloc hz2 _).trans hb2, by rw [HTJ.out]; exact hO2⟩
            case measure => simp [intOf]; omega
          · obtain rfl : jj = nd.kids.length := by omega
            have hdec : decide ((nd.kids.length : Int) < (nd.kids.length : Int)) = false := decide_eq_false (by omega)
            rw [List.take_length] at hO
            obtain ⟨F2, A2, c2', he, hc2', hRd, hF3, hle2, hFb⟩ := hO.ints hF2 w (by omega)
            rw [List.length_map] at he hc2'
            injection he with e1 _ e3
            subst e1 e3
            have hNB2 := hNB.below hbW (by omega)
            obtain ⟨f0, f1, f2, f3, f4⟩ := ndBlk' hNB2
            have fz := hNB2.frozen 4
            have hFn : F2 W.heap.size = none := (hFb _ (by omega)).trans (hF'.none_ (Nat.le_refl _))
            have hFx : Hid (F2 w.heap.size = none) := Lib.hid ((hFb _ (by omega)).trans hfx'.out)
            have hON3 := (((hON.alloc _).below2 hbW (fun g h => by have := hgr g h; omega)).le2 hle2.cle (fun g h => hFb g (by have := hgr g h; omega))).setFar (a := ⟨W.heap.size, 4, none⟩) (fun e => by have := hgr _ e; simp at this) (.slice A9 nd.kids.length c9)
            have hO83 := (((hO8'.alloc _).below2 hbW (fun g h => by have := hgr8 g h; omega)).le2 (fun g h => hFb g (by have := hgr8 g h; omega))).setFar (a := ⟨W.heap.size, 4, none⟩) (fun e => by have := hgr8 _ e; simp at this) (.slice A9 nd.kids.length c9)
            have hBX3 := ((hBX'.alloc _).below hbW (by omega)).far (p := ⟨W.heap.size, 4, none⟩) (by show w.heap.size ≠ W.heap.size; omega) (.slice A9 nd.kids.length c9)
            have hF4 := hF3.setCell (p := ⟨W.heap.size, 4, none⟩) hFn (.slice A9 nd.kids.length c9)
            have hb4 := hbw2.setCell (p := ⟨W.heap.size, 4, none⟩) hWz (.slice A9 nd.kids.length c9)
            have hBN := newNd nd (shiftN (na : Int) nd) A9 c9 rfl (by simp [shiftN]) (wr.setCell ⟨W.heap.size, 4, none⟩ (.slice A9 nd.kids.length c9))
            rw [size_setCell] at hBN
            have hck9 : (shiftN (na : Int) nd).kids.length ≤ c9 := by simpa [shiftN] using hc2'
            have HBN := Lib.hid hBN
            have HRD := Lib.hid hRd
            clear hBN hRd
            go_wp2_with (at_builtin; refine wpList_pushN rfl (.tmp 49) (.tmp 51) rfl (hON3.alloc _) (hF4.alloc _) (by rfl) wr.heap.size 1 (shiftN (na : Int) nd) A9 c9 (by rfl) HBN.out hck9 HRD.out HLN.out (by simp; omega) ?_; intro v2 w2 hO2 hFF hb2 hg2 hat2; rw [← HTK.out] at hO2; obtain ⟨A', cp', hv2, hcp'⟩ := hO2.shape; rw [HLM1.out] at hv2 hcp'; subst hv2)
            go_roundw
            case rel => exact ⟨m + 1, F2, A', cp', by omega, by go_num, rfl, hcp', (hb4.alloc (by rw [size_setCell]; omega) _).trans (hb2.mono (by omega)), hFF, hle.trans hle2 (Nat.le_refl _), hFx, hO2, (hO83.alloc _).kept hg2 hap'.or, hap'.push (fun g h => by have := hgr8 g h; simp; omega) hat2, (hBX3.alloc _).grown hg2 (fun e => by have := hgr _ e.symm; omega), by have := hb2.size; simp at this; omega⟩
            case measure => simp [intOf]; omega
      · obtain rfl : m = nb := by omega
        have hdec : decide ((m : Int) < (m : Int)) = false := decide_eq_false (by omega)
        have htl : b.take m = b := by rw [← HLB.out, List.take_length]
        rw [htl] at hON
        clear htl
        obtain ⟨kk, hkk⟩ : ∃ kk : List Int, kk = overK a b := ⟨_, rfl⟩
        have hkk2 : kk = ka ++ (if m = 0 then [] else [(na : Int) + (m : Int) - 1]) := by rw [hkk, HKA.out, overK, HLA.out, HLB.out]
        have HKK := Lib.hid hkk
        have HKK2 := Lib.hid hkk2
        clear hkk hkk2
        go_upto_if 56 with fail
        go_cut [8] (fun v8 wx => ∃ A8 c8, v8 = .slice A8 kk.length c8 ∧ kk.length ≤ c8 ∧ Own F' wx w1.heap.size 3 1 v8 kk.length (kk.map (Value.int .i64)) ∧ Sat F' wx ∧ Below w.heap.size w wx ∧ OwnN F' wx (w.heap.size + 1) (.slice A6 (na + m) c6) (a ++ b.map (shiftN (na : Int))) ∧ Apart (.slice A6 (na + m) c6) v8 ∧ Blk wx w.heap.size 29 #[.int .i64 n.kind, .string n.name, .int .i64 n.lo, .int .i64 n.hi, .slice Ak nk ck])
        case first =>
          by_cases h0 : m = 0
          · have HK0 : Hid (kk = ka) := Lib.hid (by rw [HKK2.out, if_pos h0, List.append_nil])
            subst h0
            go_wp2_with fail
            go_meet
            exact ⟨A8, c8, by rw [HK0.out] <;> rfl, by rw [HK0.out]; exact hc8, by rw [HK0.out]; exact hO8', hF', hbl, hON, hap', hBX'⟩
          · have hd : (0 : Int) < (m : Int) := by omega
            have hd' : 0 < m := by omega
            have HK0 : Hid (kk = ka ++ [(na : Int) + (m : Int) - 1]) := Lib.hid (by rw [HKK2.out, if_neg h0])
            have HKl : Hid (kk.length = ka.length + 1) := Lib.hid (by rw [HK0.out]; simp)
            clear h0
            go_wp2_with (at_builtin; refine wpList_pushI rfl (.tmp 57) (.tmp 64) rfl (hO8'.alloc _) (hF'.alloc _) (by rfl) W.heap.size 1 ((na : Int) + (m : Int) - 1) (by rfl) (Blk.new _ _ _) (by omega) (by simp; omega) ?_; intro v2 w2 hO2 hFF hb2 hg2 hat2; obtain ⟨A', cp', rfl, hcp'⟩ := hO2.shape)
            go_meet
            exact ⟨A', cp', by rw [HKl.out], by rw [HKl.out]; exact hcp', by rw [HKl.out, HK0.out]; exact hO2, hFF, hbl.trans (((balloc _ _).mono hWz).trans (hb2.mono (by omega))), (hON.alloc _).kept hg2 hap'.symm.or, (hap'.symm.push (fun g h => by have := hgr g h; simp; omega) hat2).symm, (hBX'.alloc _).grown hg2 (fun e => by have := hgr8 _ e.symm; omega)⟩
        case rest =>
          obtain ⟨A8', c8', rfl, hc8', hO8c, hFc, hbc, hONc, hapc, hBXc⟩ := hcut
          obtain ⟨F3, A2, c2', he, hc2', hRd, hF3, hle3, hFb⟩ := hO8c.ints2 hFc w (by omega)
          injection he with e1 _ e3
          subst e1 e3
          obtain ⟨f0, f1, f2, f3, f4⟩ := blk5 hBXc
          have fz := hBXc.frozen 4
          have hgc := fun g (h : (Value.slice A6 (na + m) c6).ownBlock = some g) => hONc.lt g h
          have hgc8 := fun g (h : (Value.slice A8' kk.length c8').ownBlock = some g) => hO8c.1.lt g h
          have hFx : F3 w.heap.size = none := (hFb _ (fun e => by have := hgc8 _ e; omega)).trans hfx'.out
          have hON3 := (hONc.le2 hle3.cle (fun g h => hFb g (hapc g h))).setFar (a := ⟨w.heap.size, 4, none⟩) (fun e => absurd (hgc _ e).1 (by show ¬ (w.heap.size + 1 ≤ w.heap.size); omega)) (.slice A8' kk.length c8')
          have hF4 := hF3.setCell (p := ⟨w.heap.size, 4, none⟩) hFx (.slice A8' kk.length c8')
          have hb4 := hbc.setCell (p := ⟨w.heap.size, 4, none⟩) (Nat.le_refl _) (.slice A8' kk.length c8')
          have hcz := hbc.size
          have hBN := Blk.new (wc.setCell ⟨w.heap.size, 4, none⟩ (.slice A8' kk.length c8')) 29 #[.int .i64 n.kind, .string n.name, .int .i64 n.lo, .int .i64 n.hi, .slice A8' kk.length c8']
          rw [size_setCell] at hBN
          have hln : (a ++ b.map (shiftN (na : Int))).length + 1 ≤ 1000000 := by have := HLA.out; have := HLB.out; simp; omega
          have hfin : overL n a b = a ++ b.map (shiftN (na : Int)) ++ [{ n with kids := kk }] := by rw [overL, HKK.out, HLA.out]
          have HFIN := Lib.hid hfin
          clear hfin
          have hwl := hBXc.lt
          go_wp2_with (at_builtin; refine wpList_pushN rfl (.tmp 68) (.tmp 70) rfl (hON3.alloc _) (hF4.alloc _) (by rfl) wc.heap.size 1 { n with kids := kk } A8' c8' (by rfl) hBN hc2' hRd hln (by simp; omega) ?_; intro v2 w2 hO2 hFF hb2 hg2 hat2; rw [← HFIN.out] at hO2; obtain ⟨F5, A5, c5, rfl, hc5, hN5, hF5, hle5, _⟩ := hO2.freeze hFF w (by omega))
          go_ret
          exact ⟨A5, c5, F5, rfl, hc5, hN5, (hb4.alloc (by rw [size_setCell]; omega) _).trans (hb2.mono (by omega)), hF5, (hle.trans hle3 (Nat.le_refl _)).trans hle5 (Nat.le_refl _)⟩
end Go.Proofs.Ytdbbooibkiicnaa
