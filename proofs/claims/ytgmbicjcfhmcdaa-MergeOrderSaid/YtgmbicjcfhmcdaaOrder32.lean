/- The walk of MergeOrder. -/
import Derived.Test.YtgmbicjcfhmcdaaParts32
import Derived.Test.YtgmbicjcfhmcdaaOrd32P
set_option linter.unusedVariables false
set_option linter.unusedSimpArgs false
/-! The walk of MergeOrder. -/
namespace Go.Proofs.Ytgmbicjcfhmcdaa
open Go.RowKit
attribute [local go_sem ↓] Go.wp_at_zero Go.wp_at_succ
set_option maxRecDepth 100000 in
set_option maxHeartbeats 8000000 in
theorem order32_c {F : Fz} {w : World} (hF : Sat F w) (ps : List PtS) (A : Option Addr) (n c : Nat) (hl : PartsF F A n ps) :
    Calls Try.prog 5 #[.slice A n c] w fun e w' => e = .returned (.bool true) ∧ Below w.heap.size w w' := by
  have HAW := Lib.hid (fun (X : World) => awake32_w X)
  have HTR := Lib.hid (traces32_w hF ps A n c hl)
  have hmay := tracesT_may (parts_lt hl)
  obtain ⟨hn5, hb⟩ := tracesT_len ps
  have hl3 : ∀ t ∈ tracesT ps, t.1.length = 3 ∧ t.2.length ≤ 60 ∧ ∀ e ∈ t.2, e.ids.length ≤ 3 := fun t ht => by
    obtain ⟨q, _, rfl⟩ := List.mem_map.1 ht
    exact makeT_len q
  obtain ⟨ls, hls⟩ : ∃ ls, tracesT ps = ls := ⟨_, rfl⟩
  simp only [hls] at hmay hn5 hb hl3 HTR
  have h64 : (namesT ls).length ≤ 15 := by
    have h := namesT_take ls hn5 (fun t ht => (hl3 t ht).1) ls.length
    rwa [List.take_length] at h
  have h300 : (mergeT ls).2.length ≤ 300 := by
    have h := mergeT_take ls hn5 (fun t ht => (hl3 t ht).2.1) ls.length
    rwa [List.take_length] at h
  have hmm := merge_may hmay (by omega)
  have hids := mergeT_ids ls
  obtain ⟨T, hT⟩ : ∃ T, mergeT ls = T := ⟨_, rfl⟩
  have hT1 : namesT ls = T.1 := by rw [← hT]; rfl
  rw [hT] at h300 hmm hids
  rw [hT1] at h64 hids
  obtain ⟨nU, hnU⟩ : ∃ nU, T.1.length = nU := ⟨_, rfl⟩
  obtain ⟨nV, hnV⟩ : ∃ nV, T.2.length = nV := ⟨_, rfl⟩
  have HMG := Lib.hid (fun (F : Fz) (A : Option Addr) (n c : Nat) (hl : TrsF F A n ls) (hn : n ≤ 20) => mg32 ls A n c hl hn hb hmay (by rw [hT1]; omega) hT hnU hnV)
  rw [hnU] at h64 hids
  rw [hnV] at h300
  have HTT : Hid (T.1.length = nU ∧ T.2.length = nV ∧ mayT T.1 T.2 = true ∧ (∀ e ∈ T.2, e.ids.length ≤ nU) ∧ mergeT ls = T) := Lib.hid ⟨hnU, hnV, hmm, hids, hT⟩
  have HLS : Hid (mayAll ls = true ∧ ls.length ≤ 5 ∧ ∀ t ∈ ls, t.1.length = 3 ∧ t.2.length ≤ 60 ∧ ∀ e ∈ t.2, e.ids.length ≤ 3) := Lib.hid ⟨hmay, hn5, hl3⟩
  clear hmay hn5 hb hl3 hls hmm hids hT hT1 hnU hnV hF hl
  go_enter Try.func5, Try.ntmps5
  go_wp2_with (first
    | (have q1 := HMY; go_at_call 13; refine HMY.out.mono ?_; rintro e w2 ⟨rfl, hb2⟩; have hmk := makeI (w := w2) m (by omega); have hG2 := HG4.out.call hb2; obtain ⟨q0, q1, _, _⟩ := blk2E hG2; have hgl := hG2.lt)
    | (go_at_call 9; refine (HMG.out _ B m d HT0.out (by omega) w0 (sat_heapF w0)).mono ?_; rintro e w1 ⟨An, cn, Ae, ce, rfl, hcn, hce, hb1, hrn, hev⟩; have hbX := balloc w1 (.cells #[.slice An nU cn, .slice Ae nV ce] 27); have HG4 := Lib.hid (Blk.new w1 27 #[.slice An nU cn, .slice Ae nV ce]); have HB1 := Lib.hid (bthen hb1 hbX); have HRW := Lib.hid (And.intro (rd_call hrn hbX) (hev.cle (cle_below hbX))); have HMY := Lib.hid (mayT_w (sat_heapF (w1.alloc (.cells #[.slice An nU cn, .slice Ae nV ce] 27))) T.1 T.2 An nU cn hcn HRW.out.1 Ae nV ce (by omega) HRW.out.2 (fun e he => by have := HTT.out.2.2.2.1 e he; omega) true HTT.out.2.2.1))
    | (go_at_call 12; refine HTR.out.mono ?_; rintro e w0 ⟨B, m, d, rfl, hm, hm5, hb0, hT0⟩; have HT0 := Lib.hid hT0; have HM := Lib.hid hm; clear hm hT0))
  obtain ⟨W, hW⟩ : ∃ W, w2.alloc (.cells (zeros (.int .i64 0) m) 3) = W := ⟨_, rfl⟩
  have hbW : Below w2.heap.size w2 W := hW ▸ balloc _ _
  have HA0 : Hid (Blk W w2.heap.size 3 (usC (List.replicate m 0))) := Lib.hid (by rw [← hW, usC_zero]; exact Blk.new _ _ _)
  obtain ⟨F2, hF2⟩ : ∃ F2, hx W [w2.heap.size] = F2 := ⟨_, rfl⟩
  have hle : CLe (heapF w2) F2 := hF2 ▸ cle_hx ((sat_heapF w2).below hbW) (fun g hg => by simp at hg; subst hg; exact (sat_heapF w2).none_ (Nat.le_refl _))
  have HS2 : Hid (Sat F2 W) := Lib.hid (hF2 ▸ sat_hx W _)
  have HFN : Hid (∀ g, g ∈ [w2.heap.size] → F2 g = none) := Lib.hid (fun g hg => hF2 ▸ hx_in hg)
  have hb12 := bthen HB1.out hb2
  have HTW : Hid (TrsF F2 B m ls) := Lib.hid ((HT0.out.cle (cle_below hb12)).cle hle)
  have HNW : Hid (Rd F2 1 An nU (T.1.map Value.string) ∧ EvsF F2 Ae nV T.2) := Lib.hid ⟨(rd_call HRW.out.1 hb2).cle hle, (HRW.out.2.cle (cle_below hb2)).cle hle⟩
  have HG0 : Hid (Blk W w1.heap.size 27 #[.slice An nU cn, .slice Ae nV ce]) := Lib.hid (hG2.call hbW)
  have HBW : Hid (Below w.heap.size w W) := Lib.hid (bthen hb0 (bthen hb12 hbW))
  have HLN : Hid (ls.length = m) := Lib.hid HM.out.symm
  obtain ⟨ga, hga⟩ : ∃ ga, w2.heap.size = ga := ⟨_, rfl⟩
  obtain ⟨g4, hg4⟩ : ∃ g4, w1.heap.size = g4 := ⟨_, rfl⟩
  have hgaW : ga < W.heap.size := by rw [← hga, ← hW]; simp
  have hg4a : g4 < ga := by rw [← hga, ← hg4]; exact hgl
  have hwga : w.heap.size ≤ ga := by have h1 := hb0.size; have h2 := hb12.size; omega
  rw [hW, hga, hg4]
  rw [hga] at HA0 HFN
  rw [hg4] at HG0
  clear hbW hF2 hle hb12 HT0 HRW HMY HG4 hG2 q0 q1 hgl hmk hb0 hb1 hb2 hrn hev hbX HB1 HM hW hga hg4 HTR HMG
  go_loopw [7, 8, 9, 10, 11, 34] (fun _ _ _ _ _ v34 wr => ∃ (i : Nat) (us : List Nat), i ≤ nV ∧ v34 = .int .i64 i ∧ Hid (us.length = m) ∧ Blk wr ga 3 (usC us) ∧ Hid (mergeS tmV (sumLn (rowsK ls us)) (rowsK ls us) = (mergeE ls).drop i) ∧ Hid (∀ k, us.getD k 0 ≤ (evsAt ls k).length) ∧ Wr [ga] W wr) (fun _ _ _ _ _ v34 _ => nV - (intOf v34).toNat)
  case atStart => exact ⟨0, List.replicate m 0, Nat.zero_le _, rfl, Lib.hid (by simp), HA0.out, Lib.hid (by rw [rowsK_zero]; rfl), Lib.hid (fun k => by rw [List.getD, List.getElem?_replicate]; split <;> simp), Wr.refl _ _⟩
  case round =>
    clear HA0
    obtain ⟨i, us, hi, rfl, HUS, hA, HMS, HUB, hWr⟩ := hrel
    by_cases hlt : i < nV
    · have hiI : (i : Int) < (nV : Int) := by omega
      obtain ⟨o1, o2, o3, o4, o5⟩ := HTT.out
      obtain ⟨l1, l2, l3⟩ := HLS.out
      have hiT : i < T.2.length := by omega
      have hEl : (mergeT ls).2.length = (mergeE ls).length := by unfold mergeT; simp
      rw [o5] at hEl
      have hiE : i < (mergeE ls).length := by omega
      have hdr := HMS.out
      rw [List.drop_eq_getElem_cons hiE] at hdr
      have hTi : (mergeT ls).2[i]? = some (mvE (namesT ls) ls (mergeE ls)[i]) := by
        unfold mergeT
        rw [List.getElem?_map, List.getElem?_eq_getElem hiE]; rfl
      rw [o5, List.getElem?_eq_getElem hiT] at hTi
      injection hTi with hTi
      obtain ⟨⟨b, e⟩, hbe⟩ : ∃ p, (mergeE ls)[i] = p := ⟨_, rfl⟩
      rw [hbe] at hdr hTi
      obtain ⟨g, r, hg, hbest, hbR, hRb, hrest, hlow⟩ := merge_inv tmV hdr
      have hsum := sum_set hbR hRb
      rw [rowsK_len] at hbR
      have hRb2 : ls[b].2.drop (us.getD b 0) = e :: r := by rw [← evsAt_at hbR, ← rowsK_get]; exact hRb
      obtain ⟨v, hv⟩ : ∃ v, us.getD b 0 = v := ⟨_, rfl⟩
      rw [hv] at hRb2
      have hvl : v < ls[b].2.length := by
        rcases Nat.lt_or_ge v ls[b].2.length with h | h
        · exact h
        · rw [List.drop_eq_nil_of_le h] at hRb2; cases hRb2
      rw [List.drop_eq_getElem_cons hvl] at hRb2
      injection hRb2 with hev hr
      have hbm : b < m := by rw [← HLN.out]; exact hbR
      have HNXT : Hid (mergeS tmV (sumLn (rowsK ls (us.set b (v + 1)))) (rowsK ls (us.set b (v + 1))) = (mergeE ls).drop (i + 1)) := Lib.hid (by
        have h1 := rowsK_set (us := us) hbR (by rw [HUS.out]; exact hbm) (v + 1)
        rw [evsAt_at hbR, hr] at h1
        rw [h1, hrest, show sumLn ((rowsK ls us).set b r) = g by omega])
      have HUB2 : Hid (∀ k, (us.set b (v + 1)).getD k 0 ≤ (evsAt ls k).length) := Lib.hid (fun k => by
        by_cases hkb : k = b
        · subst hkb
          rw [evsAt_at hbR, List.getD, List.getElem?_set_self (by rw [HUS.out]; exact hbm)]
          show v + 1 ≤ _
          omega
        · have h2 := HUB.out k
          rw [List.getD] at h2 ⊢
          rw [List.getElem?_set_ne (fun e => hkb e.symm)]; exact h2)
      have HLOW : Hid (∀ k (hk : k < ls.length), k < b → ∀ (h : us.getD k 0 < ls[k].2.length), ls[k].2[us.getD k 0].time ≠ e.time) := Lib.hid (fun k hk hkb h => by
        have h1 := hlow k hkb
        rw [rowsK_get, evsAt_at hk, List.drop_eq_getElem_cons h] at h1
        exact h1 (List.cons_ne_nil _ _))
      have hmayb : mayT ls[b].1 ls[b].2 = true := by
        unfold mayAll at l1
        exact List.all_eq_true.1 l1 _ (List.getElem_mem hbR)
      obtain ⟨y1, y2⟩ := mayT_iff.1 hmayb
      have hokb := (y2 v hvl).1
      rw [hev] at hokb
      have hUT : namesT ls = T.1 := by rw [← o5]; rfl
      have hgb : ls.getD b default = ls[b] := by rw [List.getD, List.getElem?_eq_getElem hbR]; rfl
      have hTe : T.2[i] = ⟨e.time, mvR T.1 ls[b].1 e.ids⟩ := by rw [hTi]; unfold mvE; rw [hgb, hUT]
      have hUn : T.1.Nodup := by rw [← hUT]; exact union_nodup _
      have hsort := hold_eq hUn (names_nodup y1).2.1 (fun s hs => by rw [← hUT]; exact names_sub (List.getElem_mem hbR) s hs) hokb
      have hokT := ((mayT_iff.1 o3).2 i hiT).1
      have hm1 := o4 _ (List.getElem_mem hiT)
      obtain ⟨ax, Ai, ci, hax, ht, hci, hri, e0, e1⟩ := ev_at HNW.out.2 hiT
      obtain ⟨m1, hm1e⟩ : ∃ m1, T.2[i].ids.length = m1 := ⟨_, rfl⟩
      have hm1b : m1 ≤ 15 := by omega
      have HH1 := Lib.hid (fun (X : World) (hX : Sat F2 X) => hold32_w hX T.1 T.2 An nU cn HNW.out.1 Ae nV ce HNW.out.2 i hiT (by omega) (fun z hz => by have h := (idsOk_iff.1 hokT).1 z hz; omega) m1 hm1e)
      obtain ⟨SS, hSS⟩ : ∃ SS, sortL (dlB (idsN T.1 T.2[i].ids)) = SS := ⟨_, rfl⟩
      have hSS2 : sortL (dlB (idsN ls[b].1 e.ids)) = SS := by rw [← hSS, hTe]; exact hsort.symm
      simp only [hSS] at HH1
      have htime : T.2[i].time = e.time := by rw [hTe]
      rw [htime] at e0 ht
      rw [hm1e] at e1
      obtain ⟨T8, hT8⟩ : ∃ T8, e.time = T8 := ⟨_, rfl⟩
      rw [hT8] at e0 ht
      have HT8 := Lib.hid hT8
      have HEV := Lib.hid hev
      have HSS2 := Lib.hid hSS2
      have HVE := Lib.hid hv
      have HOKB := Lib.hid hokb
      obtain ⟨wq, hwq⟩ : ∃ wq, wq = wr := ⟨_, rfl⟩
      subst hwq
      have hFq := hWr.sat HS2.out HFN.out
      have z0 := hFq.cell e0
      have z1 := hFq.cell e1
      subst hax
      replace z1 : wq.cell? ⟨(ax.add (i * 2)).block, (ax.add (i * 2)).off + 1, none⟩ = some (.slice Ai m1 ci) := z1
      have hbA := balloc wq (.cells #[.int .u64 (T8 : Nat), .slice Ai m1 ci] 31)
      have HAq := Lib.hid (hA.call hbA)
      have HWq := Lib.hid (hWr.call hbA)
      have H8 := Lib.hid (Blk.new wq 31 #[.int .u64 (T8 : Nat), .slice Ai m1 ci])
      have hgaq : ga < wq.heap.size := hA.lt
      have HDF : Hid (decide (b < 0) = false) := Lib.hid (decide_eq_false (by omega))
      clear o1 o2 o3 o4 o5 l1 l2 l3 hiT hEl hiE hdr hTi hbe hg hbest hRb hrest hlow hsum hv hev hr hmayb y1 y2 hokb hUT hgb hTe hUn hsort hokT hm1 ht hci hri e0 e1 hm1e hSS hSS2 htime hT8 hA hWr hFq hbA HMS HUB
      go_wp2_with fail
      obtain ⟨N8, hN8⟩ : ∃ N8, wq.alloc (.cells #[.int .u64 (T8 : Nat), .slice Ai m1 ci] 31) = N8 := ⟨_, rfl⟩
      have hzN : wq.heap.size < N8.heap.size := by rw [← hN8]; simp
      rw [hN8] at HAq HWq H8
      rw [hN8]
      obtain ⟨g8, hg8⟩ : ∃ g8, wq.heap.size = g8 := ⟨_, rfl⟩
      rw [hg8] at H8 hgaq hzN
      rw [hg8]
      have HFN8 : Hid (Sat F2 N8) := Lib.hid (HWq.out.sat HS2.out HFN.out)
      clear hN8 hg8 z0 z1
      go_loopw [9, 10, 11, 41] (fun v9 _ _ v41 wr => ∃ k : Nat, k ≤ m ∧ v41 = .int .i64 k ∧ v9 = .bool (decide (b < k)) ∧ Blk wr ga 3 (usC (if b < k then us.set b (v + 1) else us)) ∧ Wr [ga] N8 wr) (fun _ _ _ v41 _ => m - (intOf v41).toNat)
      case atStart => exact ⟨0, Nat.zero_le _, rfl, by rw [HDF.out], by rw [if_neg (by omega)]; exact HAq.out, Wr.refl _ _⟩
      case round =>
        obtain ⟨k, hk, rfl, rfl, hA, hWx⟩ := hrel
        by_cases hkm : k < m
        · have hkI : (k : Int) < (m : Int) := by omega
          have hkl : k < ls.length := by rw [HLN.out]; exact hkm
          obtain ⟨ad, rfl, hrow⟩ := HTW.out.2 (by omega)
          obtain ⟨Xn, xn, Xe, xe, k1, k2, c0, c1, hrn, hev⟩ := hrow k hkl
          have hFw : Sat F2 wr := hWx.sat HFN8.out HFN.out
          have z0 := hFw.cell c0
          have z1 := hFw.cell c1
          obtain ⟨Q, hQ⟩ : ∃ Q, ls[k].2.length = Q := ⟨_, rfl⟩
          obtain ⟨K, hK⟩ : ∃ K, ls[k].1.length = K := ⟨_, rfl⟩
          have hK3 : K ≤ 3 ∧ Q ≤ 60 := by obtain ⟨h1, h2, _⟩ := HLS.out.2.2 _ (List.getElem_mem hkl); omega
          rw [hQ] at z1
          rw [hK] at z0
          replace z1 : wr.cell? ⟨(ad.add (k * 2)).block, (ad.add (k * 2)).off + 1, none⟩ = some (.slice Xe Q xe) := z1
          have hbA := balloc wr (.cells #[.slice Xn K xn, .slice Xe Q xe] 27)
          have hFA := hFw.below hbA
          have hAA := hA.call hbA
          have HWA := Lib.hid (hWx.call hbA)
          have H8A := hWx.blk H8.out (by simp; omega)
          obtain ⟨e0, e1, _, _⟩ := blk2E (H8A.call hbA)
          have hg8l := H8A.lt
          by_cases hbk : b < k
          · have HD1 : decide (b < k) = true := decide_eq_true hbk
            have HD2 : Hid (decide (b < k + 1) = true) := Lib.hid (decide_eq_true (by omega))
            rw [HD1]
            rw [if_pos hbk] at hAA
            have HAA := Lib.hid hAA
            clear HD1 hrow c0 c1 k1 k2 hrn hev hFw hQ hK hbA hFA hAA hA hWx H8A e0 e1
            go_wp2_with fail
            go_quiet (fail)
            go_wp2_with fail
            go_roundw
            case rel => exact ⟨k + 1, by omega, by go_num, by rw [HD2.out], by rw [if_pos (by omega)]; exact HAA.out.drewN _, HWA.out.drewN _⟩
            case measure => simp [intOf]; omega
          · have HD1 : decide (b < k) = false := decide_eq_false hbk
            rw [HD1]
            rw [if_neg hbk] at hAA
            clear HD1
            obtain ⟨a0, a1⟩ := usC_at hAA (i := k) (by rw [HUS.out]; exact hkm)
            by_cases hkb : b = k
            · obtain rfl : b = k := hkb
              rw [HVE.out] at a0
              have hvQ : v < Q := by omega
              obtain ⟨bx, Bi, di, hXe, htb, hdi, hbi, f0, f1⟩ := ev_at hev hvl
              rw [HEV.out, HT8.out] at f0
              have y0 := hFA.cell f0
              have HD2 : Hid (decide (b < b + 1) = true) := Lib.hid (decide_eq_true (by omega))
              obtain ⟨m2, hm2⟩ : ∃ m2, ls[b].2[v].ids.length = m2 := ⟨_, rfl⟩
              have hm2b : m2 ≤ 3 := by have := (HLS.out.2.2 _ (List.getElem_mem hkl)).2.2 _ (List.getElem_mem hvl); omega
              have HH2 := Lib.hid (fun (X : World) (hX : Sat F2 X) => hold32_w hX ls[b].1 ls[b].2 Xn K xn (by rw [← hK]; exact hrn) Xe Q xe (by rw [← hQ]; exact hev) v hvl (by omega) (fun z hz => by rw [HEV.out] at hz; have h := (idsOk_iff.1 HOKB.out).1 z hz; omega) m2 hm2)
              have hSS3 : sortL (dlB (idsN ls[b].1 ls[b].2[v].ids)) = SS := by rw [HEV.out]; exact HSS2.out
              simp only [hSS3] at HH2
              subst hXe
              obtain ⟨L, hL⟩ : ∃ L : List ByteArray, SS.map (fun x => (⟨x.toArray⟩ : ByteArray)) = L := ⟨_, rfl⟩
              have hLS : SS.map encStr = L.map Value.string := by rw [← hL, List.map_map]; rfl
              rw [hLS] at HH1 HH2
              have HLL : Hid (decide (L = L) = true) := Lib.hid (decide_eq_true rfl)
              have hm12 : m1 ≤ 1000 := by omega
              have hLl : L.length ≤ 1000 := by
                have h1 := congrArg List.length hLS
                have h2 : SS.length = m2 := by rw [← hSS3, length_sortL]; unfold dlB idsN; simp [hm2]
                simp at h1
                omega
              obtain ⟨NA, hNA⟩ : ∃ NA, wr.alloc (.cells #[.slice Xn K xn, .slice (some bx) Q xe] 27) = NA := ⟨_, rfl⟩
              have HB11 : Hid (Blk NA wr.heap.size 27 #[.slice Xn K xn, .slice (some bx) Q xe]) := Lib.hid (hNA ▸ Blk.new _ _ _)
              have hG4A := (hWx.call hbA).blk (HWq.out.blk HG0.out (by simp; omega)) (by simp; omega)
              rw [hNA] at hFA hAA HWA hG4A y0 a0 a1
              have e0A : NA.cell? ⟨g8, 0, none⟩ = some (.int .u64 (T8 : Nat)) := by rw [← hNA]; exact e0
              obtain ⟨q0, q1, _, _⟩ := blk2E hG4A
              obtain ⟨j0, j1, _, _⟩ := blk2E HB11.out
              have hu1 : decide ((Q : Int) ≤ (v : Int)) = false := decide_eq_false (by omega)
              have hu2 : decide (Q ≤ v) = false := decide_eq_false (by omega)
              have hvI : (v : Int) < (Q : Int) := by omega
              have hbne : ((T8 : Int) != (T8 : Int)) = false := by simp
              have HNA := Lib.hid hNA
              have HFA := Lib.hid hFA
              have HAA := Lib.hid hAA
              clear hrow c0 c1 k1 k2 hrn hev hFw hQ hK hbA hFA hAA hA hWx H8A htb hdi hbi f0 f1 hbk hSS3 hL hLS hm2 hNA hG4A e0 e1
              go_upto_region 13 with fail
              rw [HNA.out]
              clear z0 z1
              go_quiet (fail)
              go_upto_region 14 with fail
              go_region_law (first
                | (have r2 := HEQ; go_simp; go_at_call 14; refine (HEQ.out _ (by first | exact sat_heapF w6 | exact (sat_heapF w6).drew)).mono ?_; rintro e' w7 ⟨rfl, hw7⟩; rw [HLL.out]; have hb7 : Below w6.heap.size w6 w7 := (by obtain ⟨q7, hq7⟩ := hw7; rw [hq7]; first | exact below_drewN (Below.refl _ _) q7 | exact below_drewN (bel_drewM (Below.refl _ _)) q7); have hb67 := bthen hb5' (bthen hb6' hb7); obtain ⟨a0, a1⟩ := usC_at (HAA.out.call hb67) (i := b) (by rw [HUS.out]; exact hbm); rw [HVE.out] at a0)
                | (have r1 := HR5; go_simp; go_at_call 15; refine (HH2.out _ (by first | exact HF5.out | exact HF5.out.drew)).mono ?_; rintro e' w6 ⟨A6, c6, rfl, hc6, hrd6, hb6⟩; have hb6' : Below w5.heap.size w5 w6 := (by first | exact hb6 | exact bthen (bel_drewM (Below.refl _ w5)) hb6); have HEQ := Lib.hid (fun (X : World) (hX : Sat (heapF w6) X) => equalStr_w hX L L A5 A6 m1 m2 c5 c6 (by omega) (rd_call HR5.out hb6') hrd6))
                | (go_simp; go_at_call 15; refine (HH1.out _ (by first | exact HFA.out.drewN _ | exact (HFA.out.drewN _).drew)).mono ?_; rintro e' w5 ⟨A5, c5, rfl, hc5, hrd5, hb5⟩; have hb5' : Below NA.heap.size NA w5 := (by first | exact bthen (below_drewN (Below.refl _ NA) _) hb5 | exact bthen (bel_drewM (below_drewN (Below.refl _ NA) _)) hb5); have HR5 := Lib.hid hrd5; have HF5 := Lib.hid (HFA.out.below hb5'); obtain ⟨j0, j1, _, _⟩ := blk2E (HB11.out.call hb5'); obtain ⟨a0, a1⟩ := usC_at (HAA.out.call hb5') (i := b) (by rw [HUS.out]; exact hbm); rw [HVE.out] at a0))
              all_goals
                have hA7 := usC_set (HAA.out.call hb67) b (v + 1)
                have hv2 : ((v + 1 : Nat) : Int) = (v : Int) + 1 := by omega
                rw [hv2] at hA7
                have hW7 := (HWA.out.call hb67).set (g := ga) (by simp) b (.int .i64 ((v : Int) + 1))
                clear hv2
                go_wp2_with fail
                go_roundw
                case rel => exact ⟨b + 1, by omega, by go_num, by rw [HD2.out], by rw [if_pos (Nat.lt_succ_self b)]; exact hA7, hW7⟩
                case measure => simp [intOf]; omega
            · have hkb2 : k < b := by omega
              have HD2 : Hid (decide (b < k + 1) = false) := Lib.hid (decide_eq_false (by omega))
              have HAA := Lib.hid hAA
              obtain ⟨u, hu⟩ : ∃ u, us.getD k 0 = u := ⟨_, rfl⟩
              have hlow := HLOW.out k hkl hkb2
              rw [hu] at a0
              simp only [hu] at hlow
              by_cases huQ : u < Q
              · obtain ⟨bx, Bi, di, rfl, htb, hdi, hbi, f0, f1⟩ := ev_at hev (u := u) (by omega)
                have hne := hlow (by omega)
                obtain ⟨Tk, hTk⟩ : ∃ Tk, ls[k].2[u].time = Tk := ⟨_, rfl⟩
                rw [hTk] at f0 hne
                rw [HT8.out] at hne
                have y0 := hFA.cell f0
                have hu1 : decide ((Q : Int) ≤ (u : Int)) = false := decide_eq_false (by omega)
                have hu2 : decide (Q ≤ u) = false := decide_eq_false (by omega)
                have huI : (u : Int) < (Q : Int) := by omega
                have hbne : ((Tk : Int) != (T8 : Int)) = true := by rw [bne_iff_ne]; omega
                clear hlow hrow c0 c1 k1 k2 hrn hev hFw hQ hK hbA hFA hAA hA hWx H8A htb hdi hbi f0 f1 hTk hu hkb hbk
                go_wp2_with fail
                go_quiet (fail)
                go_wp2_with fail
                go_roundw
                case rel => exact ⟨k + 1, by omega, by go_num, by rw [HD2.out], by rw [if_neg (by omega)]; exact HAA.out.drewN _, HWA.out.drewN _⟩
                case measure => simp [intOf]; omega
              · have hu1 : decide ((Q : Int) ≤ (u : Int)) = true := decide_eq_true (by omega)
                have hu2 : decide (Q ≤ u) = true := decide_eq_true (by omega)
                clear hlow hrow c0 c1 k1 k2 hrn hev hFw hQ hK hbA hFA hAA hA hWx H8A hu hkb hbk
                go_wp2_with fail
                go_quiet (fail)
                go_wp2_with fail
                go_roundw
                case rel => exact ⟨k + 1, by omega, by go_num, by rw [HD2.out], by rw [if_neg (by omega)]; exact HAA.out.drewN _, HWA.out.drewN _⟩
                case measure => simp [intOf]; omega
        · obtain rfl : m = k := by omega
          have hdec : decide ((m : Int) < (m : Int)) = false := decide_eq_false (by omega)
          have HD1 : decide (b < m) = true := decide_eq_true hbm
          rw [HD1]
          rw [if_pos hbm] at hA
          have hWall := HWq.out.trans hWx
          have HAx := Lib.hid hA
          have HWall := Lib.hid hWall
          clear HD1 hA hWx hWall
          go_wp2_with fail
          go_roundw
          case rel => exact ⟨i + 1, us.set b (v + 1), by omega, by go_num, Lib.hid (by simp [HUS.out]), HAx.out, HNXT, HUB2, HWall.out⟩
          case measure => simp [intOf]; omega
    · obtain rfl : nV = i := by omega
      have hdec : decide ((nV : Int) < (nV : Int)) = false := decide_eq_false (by omega)
      have HALL : Hid (∀ k, k < m → us.getD k 0 = (evsAt ls k).length) := Lib.hid (fun k hk => by
        have h0 : mergeS tmV (sumLn (rowsK ls us)) (rowsK ls us) = [] := by
          rw [HMS.out]
          refine List.drop_eq_nil_of_le ?_
          have h1 := HTT.out.2.1
          rw [← HTT.out.2.2.2.2] at h1
          have h2 : (mergeT ls).2.length = (mergeE ls).length := by unfold mergeT; simp
          omega
        have h1 := merge_nil tmV (Nat.le_refl _) h0 k
        rw [rowsK_get] at h1
        have h2 := HUB.out k
        have h3 := congrArg List.length h1
        rw [List.length_drop, List.length_nil] at h3
        omega)
      obtain ⟨wq, hwq⟩ : ∃ wq, wq = wr := ⟨_, rfl⟩
      subst hwq
      have HAx := Lib.hid hA
      have HWx := Lib.hid hWr
      have HSx := Lib.hid (hWr.sat HS2.out HFN.out)
      clear hA hWr HMS HUB
      go_wp2_with fail
      go_loopw [12, 13, 94] (fun _ _ v94 wr => ∃ k : Nat, k ≤ m ∧ v94 = .int .i64 k ∧ Below wq.heap.size wq wr) (fun _ _ v94 _ => m - (intOf v94).toNat)
      case atStart => exact ⟨0, Nat.zero_le _, rfl, Below.refl _ _⟩
      case round =>
        obtain ⟨k, hk, rfl, hbq⟩ := hrel
        by_cases hkm : k < m
        · have hkI : (k : Int) < (m : Int) := by omega
          have hkl : k < ls.length := by rw [HLN.out]; exact hkm
          obtain ⟨ad, rfl, hrow⟩ := HTW.out.2 (by omega)
          obtain ⟨Xn, xn, Xe, xe, k1, k2, c0, c1, k3, k4⟩ := hrow k hkl
          have hFw : Sat F2 wr := HSx.out.below hbq
          have z0 := hFw.cell c0
          have z1 := hFw.cell c1
          have hE := HALL.out k hkm
          rw [evsAt_at hkl] at hE
          obtain ⟨Q, hQ⟩ : ∃ Q, ls[k].2.length = Q := ⟨_, rfl⟩
          obtain ⟨K, hK⟩ : ∃ K, ls[k].1.length = K := ⟨_, rfl⟩
          rw [hQ] at z1 hE
          rw [hK] at z0
          replace z1 : wr.cell? ⟨(ad.add (k * 2)).block, (ad.add (k * 2)).off + 1, none⟩ = some (.slice Xe Q xe) := z1
          have hbA := balloc wr (.cells #[.slice Xn K xn, .slice Xe Q xe] 27)
          have HBq := Lib.hid (bthen hbq hbA)
          obtain ⟨a0, a1⟩ := usC_at ((HAx.out.call hbq).call hbA) (i := k) (by rw [HUS.out]; exact hkm)
          rw [hE] at a0
          have hbne : ((Q : Int) != (Q : Int)) = false := by simp
          clear hrow c0 c1 k1 k2 k3 k4 hFw hE hQ hK hbA hbq hkl
          go_wp2_with fail
          go_quiet (fail)
          go_wp2_with fail
          go_roundw
          case rel => exact ⟨k + 1, by omega, by go_num, below_drewN HBq.out _⟩
          case measure => simp [intOf]; omega
        · obtain rfl : m = k := by omega
          have hdec2 : decide ((m : Int) < (m : Int)) = false := decide_eq_false (by omega)
          have HFIN := Lib.hid (bthen (HBW.out.trans (HWx.out.below (B := w.heap.size) (fun g hg => by simp at hg; omega) (by omega))) hbq)
          clear hbq
          go_wp2_with (go_at_call 8; refine (HAW.out _).mono ?_; rintro e w4 ⟨rfl, hb4⟩)
          go_ret
          exact ⟨rfl, bthen HFIN.out hb4⟩
end Go.Proofs.Ytgmbicjcfhmcdaa
