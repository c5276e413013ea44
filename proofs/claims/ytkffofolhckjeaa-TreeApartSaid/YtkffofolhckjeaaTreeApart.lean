/- The walk of the law TreeApart. -/
import Derived.Test.YtkffofolhckjeaaTells
import Derived.Test.YtkffofolhckjeaaBuild
import Derived.Test.YtkffofolhckjeaaApartP
import Derived.Test.YtkffofolhckjeaaHas
set_option linter.unusedVariables false
set_option linter.unusedSimpArgs false
namespace Go.Proofs.Ytkffofolhckjeaa
open Go.RowKit
/-- A part of what is made by numbers. -/
theorem made_part (b : Bool) (ns : List Nat) (hns : ∀ k ∈ ns, k < 65536) (at_ : Nat) :
    0 < ((makeT b ns).flat 0).length ∧ ((makeT b ns).flat 0).length ≤ 100 ∧ ∃ s, treeS (partL ((makeT b ns).flat 0) ((at_ % ((makeT b ns).flat 0).length : Nat) : Int)) = some s ∧ (partL ((makeT b ns).flat 0) ((at_ % ((makeT b ns).flat 0).length : Nat) : Int)).length ≤ 100 := by
  obtain ⟨o1, o2⟩ := make_ok b ns hns
  have hv := (okF_iff.1 o1).1
  have s1 : ((makeT b ns).flat 0).length ≤ 100 := by rw [Tr.length_flat]; exact (make_size b ns).1
  have s0 : 0 < ((makeT b ns).flat 0).length := by rw [Tr.length_flat]; exact Tr.size_pos _
  obtain ⟨t', e, _⟩ := tree_of_valid hv
  have hi := Nat.mod_lt at_ s0
  obtain ⟨s, hs⟩ := part_tree e hi
  obtain ⟨h1, h2, h3⟩ := part_cut e hi
  refine ⟨s0, s1, s, hs, ?_⟩
  rw [h3, ← h2]
  simp
  omega
theorem has_names {l : List (List UInt8)} {x : List UInt8} (h : x ∈ l) : hasS (l.map fun x => (⟨x.toArray⟩ : ByteArray)) ⟨x.toArray⟩ = true := (hasS_iff _ _).2 (List.mem_map.2 ⟨x, h, rfl⟩)
theorem names_len (l : List Nd) : (namesL l).length ≤ l.length := by
  unfold namesL
  split
  · rw [length_sortL]
    have h1 := props_le l
    have h2 : (dedupL (propsL l)).length ≤ (propsL l).length := by
      suffices ∀ (xs : List (List UInt8)) (out : List (List UInt8)), (xs.foldl (fun out s => if out.contains s then out else out ++ [s]) out).length ≤ out.length + xs.length by
        have := this (propsL l) []
        simpa [dedupL] using this
      intro xs
      induction xs with
      | nil => intro out; simp
      | cons x xs ih =>
        intro out
        rw [List.foldl_cons]
        refine Nat.le_trans (ih _) ?_
        split <;> simp <;> omega
    omega
  · simp
theorem sum_flat (ts : List Tr) : ((ts.map fun t => t.flat 0).map List.length).sum = totT ts := by
  rw [List.map_map, totT]
  congr 1
  exact List.map_congr_left fun t _ => Tr.length_flat t 0
theorem tot_take {ts : List Tr} (m : Nat) : totT (ts.take m) ≤ totT ts := by
  have h := List.take_append_drop m ts
  have : totT ts = totT (ts.take m) + totT (ts.drop m) := by
    conv => lhs; rw [← h]
    unfold totT
    rw [List.map_append, List.sum_append]
  omega
theorem maxT_le : ∀ ts : List Tr, maxT ts ≤ totT ts := by
  suffices ∀ (ts : List Tr) (a b : Nat), a ≤ b → ts.foldl (fun m t => max m t.depth) a ≤ b + totT ts by
    intro ts
    have := this ts 0 0 (Nat.le_refl _)
    rw [Nat.zero_add] at this
    exact this
  intro ts
  induction ts with
  | nil => intro a b h; simpa [totT] using h
  | cons t ts ih =>
    intro a b h
    rw [List.foldl_cons, totT_cons]
    have h1 := depth_le_size t
    have := ih (max a t.depth) (b + t.size) (by omega)
    omega
theorem enc_str (ss : List (List UInt8)) : ss.map encStr = (ss.map fun x => (⟨x.toArray⟩ : ByteArray)).map Value.string := by rw [List.map_map]; rfl
set_option maxRecDepth 100000 in
set_option maxHeartbeats 4000000 in
theorem treeApart_c {F : Fz} {w : World} (hF : Sat F w) (ns : List Nat) (hns : ∀ k ∈ ns, k < 65536) (A : Option Addr) (n c : Nat) (hr : Rd F 1 A n (ns.map encW)) (b : Bool) (at_ : Nat) (hat : at_ < 256) :
    Calls Try.prog 14 #[.slice A n c, .bool b, .int .u8 at_] w fun e w' => e = .returned (.bool true) ∧ Below w.heap.size w w' := by
  obtain ⟨m0, m1, s, hs, m2⟩ := made_part b ns hns at_
  have hM := make_w hF ns hns A n c hr b (makeT b ns) rfl
  generalize (makeT b ns).flat 0 = lf at *
  obtain ⟨N, hN⟩ : ∃ N, N = lf.length := ⟨_, rfl⟩
  rw [← hN] at m0 m1 hs m2
  obtain ⟨i, hi⟩ : ∃ i, at_ % N = i := ⟨_, rfl⟩
  have hi2 : ((at_ : Nat) : Int) % (N : Int) = (i : Int) := by omega
  have hiN : i < N := by rw [← hi]; exact Nat.mod_lt _ m0
  rw [hi] at hs m2
  obtain ⟨L, hL⟩ : ∃ L, partL lf (i : Int) = L := ⟨_, rfl⟩
  rw [hL] at hs m2
  obtain ⟨n0, hroot⟩ := root_last hs
  obtain ⟨P2, hN2⟩ : ∃ P2, L.length = P2 + 1 := ⟨L.length - 1, by omega⟩
  rw [hN2] at n0 m2 hroot
  rw [Nat.add_sub_cancel] at hroot
  obtain ⟨ts, hts⟩ : ∃ ts, kidsT s = ts := ⟨_, rfl⟩
  obtain ⟨rt, hrt⟩ : ∃ rt, rootN s = rt := ⟨_, rfl⟩
  obtain ⟨K, hK⟩ : ∃ K, K = rt.kids.length := ⟨_, rfl⟩
  have hKT : ts.length = K := by rw [hK, ← hrt, rootKids_len, hts]
  have hK2 : K ≤ 2 := by rw [← hKT, ← hts]; exact kidsT_len s
  have hval : ∀ t ∈ ts, validT t = true := by rw [← hts]; exact kidsT_valid (tree_valid hs)
  have hpart : ∀ (j : Nat) (hj : j < ts.length), ∃ k : Nat, rt.kids[j]? = some (k : Int) ∧ k < P2 + 1 ∧ partL L (k : Int) = ts[j].flat 0 := by
    subst hts
    rw [← hrt, ← hN2]
    exact kid_part hs
  have hjoin : joinL rt (ts.map fun t => t.flat 0) = L := by rw [← hrt, ← hts]; exact join_kids hs
  have hdep : depthL L = maxT ts + 1 := by rw [← hts]; exact depth_kids hs
  have hsize : P2 + 1 = 1 + totT ts := by rw [← hN2, ← hts]; exact size_kids hs
  have hnames : ∀ t ∈ ts, ∀ x ∈ namesL (t.flat 0), x ∈ namesL L := by rw [← hts]; exact names_kids hs
  have hmay : mayS L = true := by unfold mayS; rw [hs]; rfl
  have hnl := names_len L
  rw [hrt] at hroot
  have HM := Lib.hid hM
  have HN := Lib.hid hN
  have HL := Lib.hid hL
  have HN2 := Lib.hid hN2
  have HK := Lib.hid hK
  have HKT := Lib.hid hKT
  have HV := Lib.hid hval
  have HP := Lib.hid hpart
  have HJ := Lib.hid hjoin
  have HD := Lib.hid hdep
  have HS := Lib.hid hsize
  have HNM := Lib.hid hnames
  have HMY := Lib.hid hmay
  have HRT := Lib.hid hroot
  have HNL := Lib.hid hnl
  have hz0 : (((P2 : Nat) : Int) + 1 == 0) = false := by rw [beq_eq_false_iff_ne]; omega
  clear hM hN hL hN2 hK hKT hval hpart hjoin hdep hsize hnames hmay hroot hs hts hrt hi hnl
  go_enter Try.func14, Try.ntmps14
  go_wp2_with (go_at_call 37; refine HM.out.mono ?_; rintro e w1 ⟨A1, c1, F1, rfl, hc1, hN1, hb1, hF1, hle1⟩; rw [← HN.out] at hN1 hc1; rw [← HN.out])
  go_at_call 49
  refine (part_w hF1 lf (by have := HN.out; omega) A1 N c1 hc1 hN1 (i : Int) (by omega) (by omega)).mono ?_
  rw [HL.out]
  rintro e w2 ⟨A2, c2, F2, rfl, hc2, hNL, hb2, hF2, hle2⟩
  rw [HN2.out] at hNL hc2
  rw [HN2.out]
  have HNF := Lib.hid hNL
  obtain ⟨hLl, hLc⟩ := hNL
  clear hLl
  obtain ⟨ad, rfl, hcells⟩ := hLc (by omega)
  obtain ⟨Ak, ck, hck, hKr, hd⟩ := hcells P2 (by have := HN2.out; omega)
  have hrt : L[P2]'(by have := HN2.out; omega) = rt := by
    have := HRT.out
    rw [List.getElem?_eq_getElem (by have := HN2.out; omega)] at this
    injection this
  rw [hrt] at hck hKr hd
  obtain ⟨c0, c1', c2', c3, c4⟩ := hd.sat hF2
  clear hcells hd hrt hLc
  rw [← HK.out] at hck hKr c4
  have hBR := Blk.new w2 57 #[.int .i64 rt.kind, .string rt.name, .int .i64 rt.lo, .int .i64 rt.hi, .slice Ak K ck]
  go_wp2_with fail
  go_loopw [9, 10, 11, 13, 14, 16, 39] (fun v9 v10 v11 _ _ _ i wr => ∃ (m : Nat) (F' : Fz) (A9 : Option Addr) (c9 dp nn : Nat), m ≤ K ∧ i = .int .i64 m ∧ v9 = .slice A9 m c9 ∧ m ≤ c9 ∧ v10 = .int .i64 dp ∧ v11 = .int .i64 nn ∧ Hid (dp = maxT (ts.take m)) ∧ Hid (nn = 1 + totT (ts.take m)) ∧ Below w2.heap.size w2 wr ∧ Sat F' wr ∧ Fle w2 F2 F' ∧ OwnR F' wr (w2.heap.size + 1) (.slice A9 m c9) ((ts.take m).map fun t => t.flat 0) ∧ Blk wr w2.heap.size 57 #[.int .i64 rt.kind, .string rt.name, .int .i64 rt.lo, .int .i64 rt.hi, .slice Ak K ck]) (fun _ _ _ _ _ _ i _ => K - (intOf i).toNat)
  case atStart => exact ⟨0, F2, none, 0, 0, 1, Nat.zero_le _, rfl, rfl, Nat.le_refl _, rfl, rfl, Lib.hid rfl, Lib.hid rfl, balloc _ _, hF2.alloc _, Fle.refl _ _, OwnR.nil _ _ _, hBR⟩
  case round =>
    obtain ⟨m, F', A9, c9, dp, nn, hm, rfl, rfl, hc9, rfl, rfl, HDP, HNN, hbl, hF', hle, hO9, hBk⟩ := hrel
    clear hBR
    obtain ⟨W, hW⟩ : ∃ W, W = wr := ⟨_, rfl⟩
    subst hW
    have hnn : nn ≤ 100 := by have := HNN.out; have := HS.out; have := tot_take (ts := ts) m; omega
    have hdp : dp ≤ 100 := by have := HDP.out; have := maxT_le (ts.take m); have := HNN.out; omega
    have hgr9 := fun g (h : (Value.slice A9 m c9).ownBlock = some g) => hO9.lt g h
    have hWz := hbl.size
    have hWx := hBk.lt
    by_cases hlt : m < K
    · have hml : m < ts.length := by rw [HKT.out]; exact hlt
      have hltI : (m : Int) < (K : Int) := by omega
      obtain ⟨k, hk1, hk2, hk3⟩ := HP.out m hml
      obtain ⟨adk, v, rfl, hv, hcell⟩ := hKr.at1 hlt
      rw [List.getElem?_map, hk1] at hv
      simp only [Option.map_some, Option.some.injEq] at hv
      subst hv
      have hcz := (hF2.below hbl).cell hcell
      have htk : (ts.take (m + 1)) = ts.take m ++ [ts[m]] := List.take_succ_eq_append_getElem hml
      have hvt := HV.out _ (List.getElem_mem hml)
      have hnt := HNM.out _ (List.getElem_mem hml)
      have hts2 : nn + (ts[m].flat 0).length ≤ 100 := by
        have h1 := tot_take (ts := ts) (m + 1)
        rw [htk, totT_snoc] at h1
        have := HNN.out
        have := HS.out
        rw [Tr.length_flat]
        omega
      generalize ts[m] = t at *
      have hlp : (t.flat 0).length = t.size := Tr.length_flat t 0
      have hdl := depth_valid hvt
      have HTK := Lib.hid htk
      have hsz := depth_le_size t
      obtain ⟨d, hd⟩ : ∃ d, t.depth = d := ⟨_, rfl⟩
      rw [hd] at hdl hsz
      have HDT := Lib.hid hd
      obtain ⟨lp, hlp0⟩ : ∃ lp, lp = t.flat 0 := ⟨_, rfl⟩
      rw [← hlp0] at hk3 hlp hnt hts2 hdl
      have HLP := Lib.hid hlp0
      have HLS := Lib.hid hlp
      have HK3 := Lib.hid hk3
      have HNT := Lib.hid hnt
      have HDL := Lib.hid hdl
      obtain ⟨q, hq⟩ : ∃ q, q = lp.length := ⟨_, rfl⟩
      rw [← hq] at hts2
      have HQ := Lib.hid hq
      have hd100 : d ≤ 100 := by omega
      have hPart := Lib.hid (part_w hF' L (by have := HN2.out; omega) (some ad) (P2 + 1) c2 hc2 (HNF.out.cle hle.cle) (k : Int) (by omega) (by omega))
      obtain ⟨ss, hss⟩ : ∃ ss, namesL lp = ss := ⟨_, rfl⟩
      have hss2 : ss.length ≤ 1000 := by rw [← hss]; have := names_len lp; omega
      obtain ⟨SL, hSL⟩ : ∃ SL, namesL L = SL := ⟨_, rfl⟩
      have hNm : ∀ (X : World) (G : Fz) (A : Option Addr) (c : Nat), Sat G X → NodesF G A q lp → Calls Try.prog 51 #[.slice A q c] X (RetS X ss) := fun X G A c h hN => by rw [← hss]; exact names_w h lp (by omega) A q c hN
      have hNL2 : ∀ (X : World), Sat F2 X → Calls Try.prog 51 #[.slice (some ad) (P2 + 1) c2] X (RetS X SL) := fun X h => by rw [← hSL]; exact names_w h L (by have := HN2.out; omega) (some ad) (P2 + 1) c2 HNF.out
      have hSLl : SL.length ≤ 1000 := by rw [← hSL]; have := HNL.out; have := HN2.out; omega
      rw [hss, hSL] at hnt
      have hhas : ∀ x ∈ ss, hasS (SL.map fun x => (⟨x.toArray⟩ : ByteArray)) ⟨x.toArray⟩ = true := fun x hx => has_names (hnt x hx)
      have HNM1 := Lib.hid hNm
      have HNL2 := Lib.hid hNL2
      have HHAS := Lib.hid hhas
      have HSLL := Lib.hid hSLl
      have hln : ((ts.take m).map fun t => t.flat 0).length + 1 ≤ 1000000 := by simp; omega
      have HLN := Lib.hid hln
      have hDpt := fun (X : World) (G : Fz) (A : Option Addr) (c : Nat) (h : Sat G X) (hN : NodesF G A q lp) => hdl ▸ depth_w h lp (by omega) A q c hN
      have HDPT := Lib.hid hDpt
      have htk2 : (ts.take (m + 1)).map (fun t => t.flat 0) = (ts.take m).map (fun t => t.flat 0) ++ [lp] := by rw [htk, List.map_append, hlp0]; rfl
      have HTK2 := Lib.hid htk2
      have hlk : ((ts.take m).map (fun t => t.flat 0) ++ [lp]).length = m + 1 := by rw [List.length_append, List.length_map, List.length_take]; simp; omega
      have HLK := Lib.hid hlk
      clear hk1 hk3 hcell htk hvt hnt hlp hdl hd hlp0 hq hsz hss hSL hNm hNL2 hhas hSLl hln hDpt htk2 hlk
      go_wp2_with (first
        | (go_at_call 49; refine hPart.out.mono ?_; rw [HK3.out]; rintro e w3 ⟨A3, c3, F3, rfl, hc3, hN3, hb3, hF3, hle3⟩; have hV3 := RowsV.one hc3 hN3; rw [← HQ.out] at hV3 hN3 hc3; rw [← HQ.out]; have hz3 := hb3.size)
        | (at_builtin; refine wpList_allR rfl (.tmp 46) (.tmp 48) rfl (ls := (ts.take m).map fun t => t.flat 0) (((hO9.le hle3).call hb3).alloc _) (hF3.alloc _) (by rfl) (some ⟨_, 0, none⟩) 1 _ [lp] [.slice A3 q c3] (by rfl) (sat_heapF _) (rd_one (Blk.new _ _ _)) hV3 HLN.out (by simp; omega) ?_; intro v4 w4 hO4 hF4 hb4 hg4 hat4; have hz4 := hb4.size; simp at hz4; obtain ⟨A9', c9', hv4, hc9'⟩ := hO4.shape; rw [HLK.out] at hv4 hc9'; subst hv4; rw [← HTK2.out] at hO4; have hBk4 := ((hBk.call hb3).alloc (.cells #[.slice A3 q c3] 47)).grown hg4 (fun e => by have := hgr9 _ e.symm; omega))
        | (go_at_call 50; refine (HDPT.out _ F3 A3 c3 hF4 hN3).mono ?_; rintro e w5 ⟨rfl, hw5⟩)
        | (go_at_call 51; refine (HNM1.out _ F3 A3 c3 (hF4.below hw5) hN3).mono ?_; rintro e w6 ⟨B1, d1, rfl, hd1, hrd1, hw6⟩))
      have q3 := bthen hbl hb3
      have q4 := (q3.alloc q3.size (.cells #[.slice A3 q c3] 47)).trans (hb4.mono (Nat.le_succ _))
      have q5 := bthen q4 hw5
      have q6 := bthen q5 hw6
      have hS6 : Sat F2 w6 := hF2.below q6
      go_loopw [16, 61] (fun _ j wr2 => ∃ jj : Nat, jj ≤ ss.length ∧ j = .int .i64 jj ∧ Below w6.heap.size w6 wr2) (fun _ j _ => ss.length - (intOf j).toNat)
      case atStart => exact ⟨0, Nat.zero_le _, rfl, Below.refl _ _⟩
      case round =>
        obtain ⟨jj, hjj, rfl, hbj⟩ := hrel
        by_cases hjl : jj < ss.length
        · obtain ⟨a1, v1, rfl, hv1, hcell1⟩ := hrd1.at1 hjl
          rw [List.getElem?_map, List.getElem?_eq_getElem hjl] at hv1
          simp only [Option.map_some, Option.some.injEq] at hv1
          subst hv1
          have hz1 := ((sat_heapF w6).below hbj).cell hcell1
          unfold encStr at hz1
          have hh := HHAS.out _ (List.getElem_mem hjl)
          have hjI : (jj : Int) < (ss.length : Int) := by omega
          generalize (⟨ss[jj].toArray⟩ : ByteArray) = sb at *
          have HH := Lib.hid hh
          clear hh hcell1
          go_wp2_with (first
            | (go_at_call 51; refine (HNL2.out _ (hS6.below hbj)).mono ?_; rintro e w7 ⟨B2, d2, rfl, hd2, hrd2, hw7⟩; rw [enc_str] at hrd2; have hH := Lib.hid (has_w (sat_heapF w7) (SL.map fun x => (⟨x.toArray⟩ : ByteArray)) (by have := HSLL.out; simp; omega) B2 SL.length d2 hrd2 sb); rw [HH.out] at hH)
            | (go_at_call 52; refine hH.out.mono ?_; rintro e w8 ⟨rfl, rfl⟩))
          go_roundw
          case rel =>
            exact ⟨jj + 1, by omega, by go_num, bthen hbj hw7⟩
          case measure => simp [intOf]; omega
        · obtain rfl : jj = ss.length := by omega
          have hdec : decide ((ss.length : Int) < (ss.length : Int)) = false := decide_eq_false (by omega)
          have hmx : maxT (ts.take (m + 1)) = max dp d := by rw [HTK.out, maxT_snoc, ← HDP.out, HDT.out]
          have hto : 1 + totT (ts.take (m + 1)) = nn + q := by rw [HTK.out, totT_snoc, HNN.out, HQ.out, HLS.out]; omega
          have HMX := Lib.hid hmx
          have HTO := Lib.hid hto
          clear hmx hto
          go_wp2_with fail
          go_roundw
          case rel =>
            refine ⟨m + 1, F3, A9', c9', max dp d, nn + q, by omega, by go_num, rfl, hc9', ?_, by go_num, Lib.hid HMX.out.symm, Lib.hid HTO.out.symm, q6.trans (hbj.mono q6.size), hF4.below ((hw5.trans (hw6.mono hw5.size)).trans (hbj.mono (by have := hw5.size; have := hw6.size; omega))), hle.trans hle3 hbl.size, ((hO4.call hw5).call hw6).call hbj, ((hBk4.call hw5).call hw6).call hbj⟩
            rw [show (max (dp : Int) (d : Int)) = ((max dp d : Nat) : Int) by omega]
          case measure => simp [intOf]; omega
    · obtain rfl : m = K := by omega
      have hdec : decide ((m : Int) < (m : Int)) = false := decide_eq_false (by omega)
      have htl : ts.take m = ts := by rw [← HKT.out, List.take_length]
      rw [htl] at hO9
      have hd1 : depthL L = dp + 1 := by rw [HD.out, HDP.out, htl]
      have hn1 : nn = P2 + 1 := by rw [HNN.out, htl, HS.out]
      have hne : ((nn : Int) == (P2 : Int) + 1) = true := by rw [beq_iff_eq]; omega
      obtain ⟨A9x, c9x, xs9, e9, _, hr9, hv9⟩ := hO9.rd
      have e9' := (Value.slice.inj e9).1
      clear e9
      subst e9'
      have hR := (hv9.cle hF'.cle).toN hr9
      rw [List.length_map, HKT.out] at hR
      obtain ⟨b0, b1, b2, b3, b4⟩ := blk5 hBk
      have hsum : ((ts.map fun t => t.flat 0).map List.length).sum ≤ 900 := by rw [sum_flat]; have := HS.out; omega
      have hJn := join_w (sat_heapF W) rt Ak m ck (ts.map fun t => t.flat 0) hsum (by rw [List.length_map, HKT.out]; omega) A9 m c9 hR
      rw [HJ.out] at hJn
      have hDl : ∀ X : World, Sat F2 X → Calls Try.prog 50 #[.slice (some ad) (P2 + 1) c2] X fun e w' => e = .returned (.int .i64 ((dp : Int) + 1)) ∧ Below X.heap.size X w' := fun X h => by
        have h1 := depth_w h L (by have := HN2.out; omega) (some ad) (P2 + 1) c2 HNF.out
        rw [hd1] at h1
        exact h1
      have HJN := Lib.hid hJn
      have HDL := Lib.hid hDl
      clear htl hd1 hn1 hr9 hv9 hR hsum hJn hDl
      go_wp2_with fail
      go_at_call 44
      refine HJN.out.mono ?_
      rintro e w3 ⟨A3, c3, F3, rfl, hc3, hN3, hb3, hF3, hle3⟩
      rw [HN2.out] at hN3 hc3
      rw [HN2.out]
      have hS3 : Sat F2 w3 := hF2.below (bthen hbl hb3)
      have hsm := Lib.hid (same_w (sat_heapF w3) L L A3 (some ad) (P2 + 1) (P2 + 1) c3 c2 (by have := HN2.out; omega) (hN3.cle hF3.cle) (HNF.out.cle hS3.cle) true (iff_of_true rfl ⟨HMY.out, rfl⟩))
      go_wp2_with fail
      go_at_call 46
      refine hsm.out.mono ?_
      rintro e w4 ⟨rfl, hw4⟩
      go_wp2_with fail
      go_at_call 50
      refine (HDL.out _ (hS3.below hw4)).mono ?_
      rintro e w5 ⟨rfl, hw5⟩
      go_wp2_with fail
      go_at_call 35
      refine (awake5_w _).mono ?_
      rintro e w6 ⟨rfl, hw6⟩
      go_wp2_with fail
      go_ret
      exact ⟨rfl, bthen (bthen (bthen (bthen (bthen (bthen hb1 hb2) hbl) hb3) hw4) hw5) hw6⟩
end Go.Proofs.Ytkffofolhckjeaa
