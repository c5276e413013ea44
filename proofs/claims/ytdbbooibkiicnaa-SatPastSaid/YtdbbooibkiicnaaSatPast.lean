/- The walk of the law SatPast. -/
import Derived.Test.YtdbbooibkiicnaaCut8
import Derived.Test.YtdbbooibkiicnaaSatU
import Derived.Test.YtdbbooibkiicnaaSatCut
import Derived.Test.YtdbbooibkiicnaaAw15
import Derived.Test.YtdbbooibkiicnaaBuild
set_option linter.unusedVariables false
set_option linter.unusedSimpArgs false
namespace Go.Proofs.Ytdbbooibkiicnaa
open Go.RowKit
attribute [local go_sem ↓] Go.wp_at_zero Go.wp_at_succ
theorem u64_nat2 {x : Int} (h : (Lit.int .u64 x).wf = true) : ∃ k : Nat, k < 18446744073709551616 ∧ x = (k : Int) := by
  simp [Lit.wf, IntKind.min, IntKind.max, IntKind.signed, IntKind.bits] at h
  exact ⟨x.toNat, by omega, by omega⟩
theorem past_reg (p : Bool) {T : Tr} (h : regS T.root.kind = false) : regS (pastT p T).root.kind = false := by
  rw [past_root]
  exact ((past_kind p T.root.kind).2.2.2.1).trans h
theorem EvsF.zero (F : Fz) (A : Option Addr) : EvsF F A 0 [] := ⟨rfl, fun h => absurd h (by omega)⟩
theorem EvsF.take {F : Fz} {A : Option Addr} {n : Nat} {es : List Evt} (h : EvsF F A n es) {k : Nat} (hk : k ≤ n) : EvsF F A k (es.take k) := by
  refine ⟨by rw [List.length_take, h.1]; omega, fun h0 => ?_⟩
  obtain ⟨ad, e, hh⟩ := h.2 (by omega)
  refine ⟨ad, e, fun i hi => ?_⟩
  have hi' : i < es.length := by rw [List.length_take] at hi; omega
  have e1 : (es.take k)[i] = es[i] := by simp
  rw [e1]
  exact hh i hi'
set_option maxRecDepth 100000 in
set_option maxHeartbeats 4000000 in
theorem satPast_c {F : Fz} {w : World} (hF : Sat F w) (s x : Nat) (hs : s < 18446744073709551616) (hx : x < 256) (ts ns : List Nat) (hts : ∀ k ∈ ts, k < 65536) (hns : ∀ k ∈ ns, k < 65536) (A1 : Option Addr) (n1 c1 : Nat) (hr1 : Rd F 1 A1 n1 (ts.map encW)) (A2 : Option Addr) (n2 c2 : Nat) (hr2 : Rd F 1 A2 n2 (ns.map encW)) :
    Calls Try.prog 6 #[.int .u64 (s : Nat), .slice A1 n1 c1, .slice A2 n2 c2, .int .u8 (x : Nat)] w fun e w' => e = .returned (.bool true) ∧ Below w.heap.size w w' := by
  have HK8 := Lib.hid (mk8_w hF s hs ts hts A1 n1 c1 hr1)
  have HM5 := Lib.hid (fun (X : World) (h : Sat F X) => make_w h ns hns A2 n2 c2 hr2 false (makeT false ns) rfl)
  have hsz := (make_size false ns).1
  obtain ⟨hval, hreg, _⟩ := okF_iff.1 (make_ok false ns hns).1
  obtain ⟨T, hT⟩ : ∃ T, makeT false ns = T := ⟨_, rfl⟩
  rw [hT] at HM5 hsz hval hreg
  obtain ⟨f, hf⟩ : ∃ f, T.flat 0 = f := ⟨_, rfl⟩
  rw [hf] at HM5
  have hfp : f.map (pastN true) = (pastT true T).flat 0 := by rw [past_flat, hf]
  have hff : f.map (pastN false) = (pastT false T).flat 0 := by rw [past_flat, hf]
  obtain ⟨N, hN⟩ : ∃ N, f.length = N := ⟨_, rfl⟩
  have hNb : N ≤ 100 := by rw [← hN, ← hf, Tr.length_flat]; exact hsz
  have hlp : (f.map (pastN true)).length = N := by rw [List.length_map, hN]
  have hlf : (f.map (pastN false)).length = N := by rw [List.length_map, hN]
  obtain ⟨t0, ht0⟩ : ∃ t0, min s 9223372036854775808 = t0 := ⟨_, rfl⟩
  obtain ⟨es, hes⟩ : ∃ es, evM t0 (ts.take 60) = es := ⟨_, rfl⟩
  have hel : es.length ≤ 60 := by rw [← hes, length_evM, List.length_take]; omega
  have hem : mayT namesM es = true := by rw [← hes]; exact mayT_evM _ _
  have heid : ∀ e ∈ es, e.ids.length ≤ 3 := by rw [← hes]; exact evM_ids _ _
  rw [ht0, hes] at HK8
  obtain ⟨ne, hne⟩ : ∃ ne, es.length = ne := ⟨_, rfl⟩
  have hneb : ne ≤ 60 := by omega
  obtain ⟨k, hk⟩ : ∃ k, x % (ne + 1) = k := ⟨_, rfl⟩
  have hkn : k ≤ ne := by have := Nat.mod_lt x (show 0 < ne + 1 by omega); omega
  have hkI : (x : Int) % ((ne : Int) + 1) = (k : Int) := by rw [← hk]; push_cast; rfl
  have hkT : (x : Int).tmod ((ne : Int) + 1) = (k : Int) := by rw [Int.tmod_eq_emod_of_nonneg (by omega)]; exact hkI
  have hk0 : (((ne : Int) + 1) == 0) = false := by rw [beq_eq_false_iff_ne]; omega
  obtain ⟨M, hM⟩ : ∃ M, ne - k = M := ⟨_, rfl⟩
  have hMI : (ne : Int) - (k : Int) = (M : Int) := by omega
  have hMb : M ≤ 60 := by omega
  obtain ⟨P, hP⟩ : ∃ P, satT (trcE namesM es) (pastT true T) = P := ⟨_, rfl⟩
  obtain ⟨Q, hQ⟩ : ∃ Q, satT (trcE namesM es) (pastT false T) = Q := ⟨_, rfl⟩
  have hvp := past_valid true T hval
  have hvf := past_valid false T hval
  have hrp := past_reg true hreg
  have hrf := past_reg false hreg
  have hzp : (pastT true T).size ≤ 1000 := by rw [past_size]; omega
  have hzf : (pastT false T).size ≤ 1000 := by rw [past_size]; omega
  have hid9 : ∀ e ∈ es, e.ids.length ≤ 1000000000 := fun e he => Nat.le_trans (heid e he) (by omega)
  have hid3 : ∀ e ∈ es, e.ids.length ≤ 1000 := fun e he => Nat.le_trans (heid e he) (by omega)
  have hidt : ∀ e ∈ es.take k, e.ids.length ≤ 1000000000 := fun e he => hid9 e (List.mem_of_mem_take he)
  have hidd : ∀ e ∈ es.drop k, e.ids.length ≤ 1000000000 := fun e he => hid9 e (List.mem_of_mem_drop he)
  have hmt := mayT_take hem k
  have hmd := mayT_drop hem k
  have hlt' : (es.take k).length = k := by rw [List.length_take]; omega
  have hld' : (es.drop k).length = M := by rw [List.length_drop]; omega
  have hPk : ∀ i, i < k → satT (trcE namesM (es.take k)) (pastT true T) i = P i := fun i hi => by rw [← hP]; exact sat_take namesM es (by omega) (side_past true T) hi
  have hQk : ∀ i, i < M → satT (trcE namesM (es.drop k)) (pastT false T) i = Q (k + i) := fun i hi => by rw [← hQ]; exact sat_drop namesM es (by omega) (side_past false T) (by omega)
  have HAP := Lib.hid (fun (G : Fz) (X : World) (h : Sat G X) (An : Option Addr) (cn : Nat) (hcn : 3 ≤ cn) (hNm : Rd G 1 An 3 (namesM.map Value.string)) (Ae : Option Addr) (ce : Nat) (hE : EvsF G Ae ne es) (Al : Option Addr) (cl : Nat) (hcl : N ≤ cl) (hl : NodesF G Al N ((pastT true T).flat 0)) => sAllU_w h namesM es hem An 3 cn hcn hNm Ae ne ce hE hid9 (by omega) hvp hrp hzp Al N cl hcl hl P (fun i _ => by rw [hP]))
  have HAF := Lib.hid (fun (G : Fz) (X : World) (h : Sat G X) (An : Option Addr) (cn : Nat) (hcn : 3 ≤ cn) (hNm : Rd G 1 An 3 (namesM.map Value.string)) (Ae : Option Addr) (ce : Nat) (hE : EvsF G Ae ne es) (Al : Option Addr) (cl : Nat) (hcl : N ≤ cl) (hl : NodesF G Al N ((pastT false T).flat 0)) => sAllU_w h namesM es hem An 3 cn hcn hNm Ae ne ce hE hid9 (by omega) hvf hrf hzf Al N cl hcl hl Q (fun i _ => by rw [hQ]))
  have HAT := Lib.hid (fun (G : Fz) (X : World) (h : Sat G X) (An : Option Addr) (cn : Nat) (hcn : 3 ≤ cn) (hNm : Rd G 1 An 3 (namesM.map Value.string)) (Ae : Option Addr) (ce : Nat) (hE : EvsF G Ae k (es.take k)) (Al : Option Addr) (cl : Nat) (hcl : N ≤ cl) (hl : NodesF G Al N ((pastT true T).flat 0)) => sAllU_w h namesM (es.take k) hmt An 3 cn hcn hNm Ae k ce hE hidt (by omega) hvp hrp hzp Al N cl hcl hl P hPk)
  have HAD := Lib.hid (fun (G : Fz) (X : World) (h : Sat G X) (An : Option Addr) (cn : Nat) (hcn : 3 ≤ cn) (hNm : Rd G 1 An 3 (namesM.map Value.string)) (Ae : Option Addr) (ce : Nat) (hE : EvsF G Ae M (es.drop k)) (Al : Option Addr) (cl : Nat) (hcl : N ≤ cl) (hl : NodesF G Al N ((pastT false T).flat 0)) => sAllU_w h namesM (es.drop k) hmd An 3 cn hcn hNm Ae M ce hE hidd (by omega) hvf hrf hzf Al N cl hcl hl (fun j => Q (k + j)) hQk)
  have HCU := Lib.hid (fun (G : Fz) (X : World) (h : Sat G X) (An : Option Addr) (cn : Nat) (hcn : 3 ≤ cn) (hNm : Rd G 1 An 3 (namesM.map Value.string)) (Ae : Option Addr) (ce : Nat) (hce : ne ≤ ce) (hE : EvsF G Ae ne es) => cut8_w h namesM es An 3 cn hcn (by omega) hNm Ae ne ce (by omega) hce hE hid3 hem k hkn (hE.take hkn))
  have HPP := Lib.hid (fun (G : Fz) (X : World) (h : Sat G X) (A : Option Addr) (c : Nat) (hl : NodesF G A N f) => past_w h true f (by omega) A N c hl)
  have HPF := Lib.hid (fun (G : Fz) (X : World) (h : Sat G X) (A : Option Addr) (c : Nat) (hl : NodesF G A N f) => past_w h false f (by omega) A N c hl)
  have HES := Lib.hid hne
  have HFN := Lib.hid hN
  have HLP := Lib.hid hlp
  have HLF := Lib.hid hlf
  have HFP := Lib.hid hfp
  have HFF := Lib.hid hff
  have HTL := Lib.hid hlt'
  have HM := Lib.hid hM
  have hkb : k ≤ 60 := by omega
  have hknI : (k : Int) ≤ (ne : Int) := by omega
  have hnn : ((ne : Int) == (ne : Int)) = true := by simp
  have hnn2 : ((ne : Int) != (ne : Int)) = false := by simp
  clear hsz hval hreg ht0 hes hem heid hel hne hN hf hT hfp hff hlp hlf hvp hvf hrp hrf hzp hzf hid9 hid3 hidt hidd hmt hmd hlt' hPk hQk hP hQ hr1 hr2 hts hns hk hM
  go_enter Try.func6, Try.ntmps6
  go_wp2_with (first
    | (go_at_call 16; refine HK8.out.mono ?_; rintro e w1 ⟨An, cn, ve, B, rfl, hcn, hNm, hO, hB, hAb, hb1⟩; obtain ⟨Ae, ce, rfl, hce, hE, hAe⟩ := hO.done; rw [HES.out] at hce hE; rw [HES.out]; rw [show namesM.length = 3 from rfl] at hcn hNm; rw [show namesM.length = 3 from rfl]; have hF1 := hF.below hb1)
    | (go_at_call 9; refine (HM5.out _ hF1).mono ?_; rintro e w2 ⟨A5, c5, F5, rfl, hc5, hN5, hb2, hF5, hle5⟩; rw [HFN.out] at hc5 hN5; rw [HFN.out])
    | fail)
  have hb12 := bthen hb1 hb2
  have hs12 := (sat_heapF w1).below hb2
  have hE2 : EvsF (heapF w2) Ae ne es := hE.cle hs12.cle
  have hNm' : Rd (heapF w2) 1 An 3 (namesM.map Value.string) := hNm.heap hs12
  have hNd : NodesF (heapF w2) A5 N f := hN5.cle hF5.cle
  obtain ⟨gx, hgx⟩ : ∃ gx, gx = w2.heap.size := ⟨_, rfl⟩
  obtain ⟨W, hW⟩ : ∃ W, W = w2.alloc (.cells #[.slice An 3 cn, .slice Ae ne ce] 41) := ⟨_, rfl⟩
  have hBX : Blk W gx 41 #[.slice An 3 cn, .slice Ae ne ce] := by rw [hW, hgx]; exact Blk.new _ _ _
  have hbW : Below w2.heap.size w2 W := by rw [hW]; exact balloc _ _
  have hF2W := (sat_heapF w2).below hbW
  have HP1 := Lib.hid (HPP.out (heapF w2) W hF2W A5 c5 hNd)
  have HP2 := Lib.hid (fun (X : World) (h : Sat (heapF w2) X) => HPF.out (heapF w2) X h A5 c5 hNd)
  have HBX := Lib.hid hBX
  have HB12 := Lib.hid (bthen hb12 hbW)
  have HE2 := Lib.hid hE2
  have HNM := Lib.hid hNm'
  have HFW := Lib.hid hF2W
  obtain ⟨x0, x1, _, _⟩ := blkA hBX
  rw [← hgx, ← hW]
  clear hE2 hNm' hNd hBX hb12 hs12 hE hNm hN5 hF5 hle5 hb1 hb2 hO hB hAb hAe hF2W hbW hF1 hgx hW
  go_at_call 23
  refine HP1.out.mono ?_
  rintro e w3 ⟨Ap, cp, Fp, rfl, hcp, hNp, hb3, hFp, _⟩
  rw [HLP.out] at hcp hNp
  rw [HFP.out] at hNp
  rw [HLP.out]
  have HNP3 := Lib.hid (hNp.cle hFp.cle)
  have hS3 := HFW.out.below hb3
  clear hNp hFp
  go_wp2_with fail
  go_at_call 23
  refine (HP2.out _ hS3).mono ?_
  rintro e w4 ⟨Af, cf, Ff, rfl, hcf, hNf, hb4, hFf, _⟩
  rw [HLF.out] at hcf hNf
  rw [HFF.out] at hNf
  rw [HLF.out]
  have HNF := Lib.hid (hNf.cle hFf.cle)
  have HNP := Lib.hid (HNP3.out.cle ((sat_heapF w3).below hb4).cle)
  have hb34 := bthen hb3 hb4
  have HE4 := Lib.hid (HE2.out.cle (HFW.out.below hb34).cle)
  have HNM4 := Lib.hid (HNM.out.heap (HFW.out.below hb34))
  have HB4 := Lib.hid (bthen HB12.out hb34)
  have HX4 := Lib.hid (HBX.out.call hb34)
  obtain ⟨x0, x1, _, _⟩ := blkA HX4.out
  have hxl := HX4.out.lt
  clear hNf hFf hb3 hb4 hb34 hS3
  go_wp2_with fail
  (try simp only [List.append_eq, List.cons_append, List.nil_append])
  go_region_held3 (fun w' => w'.cell? ⟨gx, 0, none⟩ = some (.slice An 3 cn) ∧ w'.cell? ⟨gx, 1, none⟩ = some (.slice Ae ne ce)) (first | exact ⟨s0, s1⟩ | exact ⟨x0, x1⟩ | go_keep)
    (first
      | (have hb5x := hb5; go_at_call 18; refine (HAF.out (heapF w4) _ (by first | exact (sat_heapF w4).below hb5 | exact ((sat_heapF w4).below hb5).drew) An cn hcn HNM4.out Ae ce HE4.out Af cf hcf HNF.out).mono ?_; rintro e w6 ⟨B2, rfl, hb6', hr2⟩; have hb6 : Below w5.heap.size w5 w6 := (by first | exact hb6' | exact bel_eqv0 hb6'); have s0 := (hb6.cell (p := ⟨gx, 0, none⟩) (by show gx < w5.heap.size; have := hb5.size; omega)).trans s0; have s1 := (hb6.cell (p := ⟨gx, 1, none⟩) (by show gx < w5.heap.size; have := hb5.size; omega)).trans s1)
      | (go_at_call 18; refine (HAP.out (heapF w4) _ (by first | exact sat_heapF w4 | exact (sat_heapF w4).drew) An cn hcn HNM4.out Ae ce HE4.out Ap cp hcp HNP.out).mono ?_; rintro e w5 ⟨B1, rfl, hb5', hr1⟩; have hb5 : Below w4.heap.size w4 w5 := (by first | exact hb5' | exact bel_eqv0 hb5'); have s0 := (hb5.cell (p := ⟨gx, 0, none⟩) hxl).trans x0; have s1 := (hb5.cell (p := ⟨gx, 1, none⟩) hxl).trans x1))
  have hb46 : Below w4.heap.size w4 w6 := bthen hb5 hb6
  have hr1' : (ne = 0 ∧ B1 = none) ∨ (0 < ne ∧ ∃ g, B1 = some ⟨g, 0, none⟩ ∧ Blk w6 g 4 (rowV ne P)) := by
    rcases hr1 with h | ⟨h0, g, e, _, hk⟩
    · exact .inl h
    · exact .inr ⟨h0, g, e, hk.call hb6⟩
  have hr2' : (ne = 0 ∧ B2 = none) ∨ (0 < ne ∧ ∃ g, B2 = some ⟨g, 0, none⟩ ∧ Blk w6 g 4 (rowV ne Q)) := by
    rcases hr2 with h | ⟨h0, g, e, _, hk⟩
    · exact .inl h
    · exact .inr ⟨h0, g, e, hk⟩
  have HX6 := Lib.hid (HX4.out.call hb46)
  obtain ⟨x0, x1, _, _⟩ := blkA HX6.out
  have hS6 := (sat_heapF w4).below hb46
  have HE6 := Lib.hid (HE4.out.cle hS6.cle)
  have HNM6 := Lib.hid (HNM4.out.cle hS6.cle)
  have HNP6 := Lib.hid (HNP.out.cle hS6.cle)
  have HNF6 := Lib.hid (HNF.out.cle hS6.cle)
  have HB6 := Lib.hid (bthen HB4.out hb46)
  have hE6d := HE6.out
  clear hb5 hb6 hr1 hr2 hb46 hS6 s0 s1 hxl HX4 HE4 HNM4 HNP HNF HB4
  rcases hr1' with ⟨h0, rfl⟩ | ⟨h0, g1, rfl, hk1⟩
  · rcases hr2' with ⟨_, rfl⟩ | ⟨h1, _⟩
    · subst h0
      obtain rfl : k = 0 := by omega
      obtain rfl : M = 0 := by have := HM.out; omega
      clear hE6d
      have HZE : Hid (∀ A, EvsF (heapF w6) A 0 (es.drop 0)) := Lib.hid (fun A => ⟨by rw [List.length_drop, HES.out] <;> omega, fun h => absurd h (by omega)⟩)
      go_wp2_with fail
      have lx6 : gx < w6.heap.size := HX6.out.lt
      go_cut [16] from 39 to 45 (fun v16 wx => ∃ gy LA LD, v16 = .pointer (some ⟨gy, 0, none⟩) ∧ w6.heap.size ≤ gy ∧ Blk wx gy 41 #[.slice An 3 cn, .slice LA 0 LD] ∧ EvsF (heapF w6) LA 0 (es.drop 0) ∧ Below w6.heap.size w6 wx)
      case first =>
        have hz := HZE.out
        rcases Ae with _ | ad
        · by_cases hce2 : ce = 0
          · subst hce2
            go_region
            all_goals
              go_wp2_with fail
              go_meet
              exact ⟨w6.heap.size, _, _, rfl, Nat.le_refl _, Blk.new _ _ _, hz _, bel_eqv (balloc w6 _) rfl rfl rfl rfl⟩
          · go_region
            all_goals
              go_wp2_with fail
              go_meet
              exact ⟨w6.heap.size, _, _, rfl, Nat.le_refl _, Blk.new _ _ _, hz _, bel_eqv (balloc w6 _) rfl rfl rfl rfl⟩
        · by_cases hce2 : ce = 0
          · subst hce2
            go_region
            all_goals
              go_wp2_with fail
              go_meet
              exact ⟨w6.heap.size, _, _, rfl, Nat.le_refl _, Blk.new _ _ _, hz _, bel_eqv (balloc w6 _) rfl rfl rfl rfl⟩
          · go_region
            all_goals
              go_wp2_with fail
              go_meet
              exact ⟨w6.heap.size, _, _, rfl, Nat.le_refl _, Blk.new _ _ _, hz _, bel_eqv (balloc w6 _) rfl rfl rfl rfl⟩
      case rest =>
        obtain ⟨gy, LA, LD, rfl, hgy, hBY, hED, hbc⟩ := hcut
        skip
        have hXc := HX6.out.call hbc
        have hS6 := (sat_heapF w6).below hbc
        have HEc := Lib.hid (HE6.out.cle hS6.cle)
        have HEDc := Lib.hid (hED.cle hS6.cle)
        have HNMc := Lib.hid (HNM6.out.cle hS6.cle)
        have HNPc := Lib.hid (HNP6.out.cle hS6.cle)
        have HNFc := Lib.hid (HNF6.out.cle hS6.cle)
        have HBc := Lib.hid (bthen HB6.out hbc)
        obtain ⟨x0, x1, _, _⟩ := blkA hXc
        obtain ⟨y0, y1, _, _⟩ := blkA hBY
        have lx := hXc.lt
        have ly := hBY.lt
        clear hXc hS6 hbc hBY HX6 HE6 hED HNM6 HNP6 HNF6 HB6
        have HS4 := Lib.hid (fun (X : World) (h : Below wc.heap.size wc X) => And.intro ((h.cell (p := ⟨gx, 0, none⟩) lx).trans x0) (And.intro ((h.cell (p := ⟨gx, 1, none⟩) lx).trans x1) (And.intro ((h.cell (p := ⟨gy, 0, none⟩) ly).trans y0) ((h.cell (p := ⟨gy, 1, none⟩) ly).trans y1))))
        go_wp2_with fail
        (try simp only [List.append_eq, List.cons_append, List.nil_append])
        go_region_held3 (fun w' => w'.cell? ⟨gx, 0, none⟩ = some (.slice An 3 cn) ∧ w'.cell? ⟨gx, 1, none⟩ = some (.slice Ae 0 ce) ∧ w'.cell? ⟨gy, 0, none⟩ = some (.slice An 3 cn) ∧ w'.cell? ⟨gy, 1, none⟩ = some (.slice LA 0 LD)) (first | exact ⟨s0, s1, s2, s3⟩ | exact ⟨x0, x1, y0, y1⟩ | go_keep)
          (first
            | (have q9 := v9; go_at_call 20; refine (awake15_w _).mono ?_; rintro e v10 ⟨rfl, hbx10⟩; have hb10 : Below v9.heap.size v9 v10 := (by first | exact hbx10 | exact bel_eqv0 hbx10); have hB10 : Below wc.heap.size wc v10 := bthen hB9 hb10; obtain ⟨s0, s1, s2, s3⟩ := HS4.out _ hB10)
            | (have q8 := v8; go_at_call 19; (try rw [HM.out]); refine (equalV_w (n := 0) (r := fun j => Q (0 + j)) (by omega) (by first | exact hq4 | exact (hq4).drew) (by first | exact hw4 | exact hw4.drew)).mono ?_; rintro e v9 ⟨rfl, hbx9⟩; have hb9 : Below v8.heap.size v8 v9 := (by first | exact hbx9 | exact bel_eqv0 hbx9); have hB9 : Below wc.heap.size wc v9 := bthen hB8 hb9; obtain ⟨s0, s1, s2, s3⟩ := HS4.out _ hB9)
            | (have q7 := v7; go_at_call 18; refine (HAD.out (heapF wc) _ (by first | exact (sat_heapF wc).below hB7 | exact ((sat_heapF wc).below hB7).drew) An cn hcn HNMc.out LA LD HEDc.out Af cf hcf HNFc.out).mono ?_; rintro e v8 ⟨C4, rfl, hbx8, hc4⟩; have hb8 : Below v7.heap.size v7 v8 := (by first | exact hbx8 | exact bel_eqv0 hbx8); have hB8 : Below wc.heap.size wc v8 := bthen hB7 hb8; obtain ⟨s0, s1, s2, s3⟩ := HS4.out _ hB8; have hq4 : BAt v8 C4 0 (fun j => Q (0 + j)) := RetAllU.bat (by rcases hc4 with h | ⟨h0, g, e, _, hk⟩; exact .inl h; exact .inr ⟨h0, g, e, hk⟩); have hw4 : BAt v8 _ 0 (fun j => Q (0 + j)) := BAt.zero v8 (none) _)
            | (have q6 := v6; go_at_call 19; refine (equalV_w (n := 0) (r := P) (by omega) (by first | exact hq3 | exact (hq3).drew) (by first | exact hw3 | exact (hw3).drew)).mono ?_; rintro e v7 ⟨rfl, hbx7⟩; have hb7 : Below v6.heap.size v6 v7 := (by first | exact hbx7 | exact bel_eqv0 hbx7); have hB7 : Below wc.heap.size wc v7 := bthen hB6 hb7; obtain ⟨s0, s1, s2, s3⟩ := HS4.out _ hB7)
            | (have q5 := v5; go_at_call 18; refine (HAT.out (heapF v5) _ (by first | exact sat_heapF v5 | exact (sat_heapF v5).drew) An2 cn2 hcn2 hNm2 Ac cc hcc2 Ap cp hcp (HNPc.out.cle ((sat_heapF wc).below hB5).cle)).mono ?_; rintro e v6 ⟨C3, rfl, hbx6, hc3⟩; have hb6 : Below v5.heap.size v5 v6 := (by first | exact hbx6 | exact bel_eqv0 hbx6); have hB6 : Below wc.heap.size wc v6 := bthen hB5 hb6; obtain ⟨s0, s1, s2, s3⟩ := HS4.out _ hB6; have hq3 : BAt v6 C3 0 P := RetAllU.bat (by rcases hc3 with h | ⟨h0, g, e, _, hk⟩; exact .inl h; exact .inr ⟨h0, g, e, hk⟩); have hw3 : BAt v6 none 0 P := BAt.zero _ _ _)
            | (go_at_call 24; refine (HCU.out (heapF wc) _ (by first | exact sat_heapF wc | exact (sat_heapF wc).drew) An cn hcn HNMc.out Ae ce hce HEc.out).mono ?_; rintro e v5 ⟨An2, cn2, ve2, B5, rfl, hcn2, hNm2, hO5, hBB5, hAb5, hbx5⟩; obtain ⟨Ac, cc, rfl, hcc, hcc2, _⟩ := hO5.done; rw [HTL.out] at hcc hcc2; rw [HTL.out]; rw [show namesM.length = 3 from rfl] at hcn2 hNm2; rw [show namesM.length = 3 from rfl]; have hb5 : Below wc.heap.size wc v5 := (by first | exact hbx5 | exact bel_eqv0 hbx5); have hB5 : Below wc.heap.size wc v5 := hb5; obtain ⟨s0, s1, s2, s3⟩ := HS4.out _ hB5))
        all_goals
          go_wp2_with fail
          go_ret
          exact ⟨rfl, bthen HBc.out hB10⟩
    · omega
  · rcases hr2' with ⟨h1, _⟩ | ⟨_, g2, rfl, hk2⟩
    · omega
    · obtain ⟨ad, rfl, _⟩ := hE6d.2 h0
      clear hE6d
      have HR1 := Lib.hid hk1
      have HR2 := Lib.hid hk2
      clear hk1 hk2
      by_cases hkn2 : k = ne
      · obtain rfl : M = 0 := by have := HM.out; omega
        subst hkn2
        have HZE : Hid (∀ A, EvsF (heapF w6) A 0 (es.drop k)) := Lib.hid (fun A => ⟨by rw [List.length_drop, HES.out] <;> omega, fun h => absurd h (by omega)⟩)
        go_wp2_with fail
        have lx6 : gx < w6.heap.size := HX6.out.lt
        go_cut [16] from 39 to 45 (fun v16 wx => ∃ gy LA LD, v16 = .pointer (some ⟨gy, 0, none⟩) ∧ w6.heap.size ≤ gy ∧ Blk wx gy 41 #[.slice An 3 cn, .slice LA 0 LD] ∧ EvsF (heapF w6) LA 0 (es.drop k) ∧ Below w6.heap.size w6 wx)
        case first =>
          have hz := HZE.out
          by_cases hce2 : ce = k
          · subst hce2
            go_region
            all_goals
              go_wp2_with fail
              go_meet
              exact ⟨w6.heap.size, _, _, rfl, Nat.le_refl _, Blk.new _ _ _, hz _, bel_eqv (balloc w6 _) rfl rfl rfl rfl⟩
          · go_region
            all_goals
              go_wp2_with fail
              go_meet
              exact ⟨w6.heap.size, _, _, rfl, Nat.le_refl _, Blk.new _ _ _, hz _, bel_eqv (balloc w6 _) rfl rfl rfl rfl⟩
        case rest =>
          obtain ⟨gy, LA, LD, rfl, hgy, hBY, hED, hbc⟩ := hcut
          skip
          have hXc := HX6.out.call hbc
          have hR1c := Lib.hid (HR1.out.call hbc)
          have hR2c := Lib.hid (HR2.out.call hbc)
          have hS6 := (sat_heapF w6).below hbc
          have HEc := Lib.hid (HE6.out.cle hS6.cle)
          have HEDc := Lib.hid (hED.cle hS6.cle)
          have HNMc := Lib.hid (HNM6.out.cle hS6.cle)
          have HNPc := Lib.hid (HNP6.out.cle hS6.cle)
          have HNFc := Lib.hid (HNF6.out.cle hS6.cle)
          have HBc := Lib.hid (bthen HB6.out hbc)
          obtain ⟨x0, x1, _, _⟩ := blkA hXc
          obtain ⟨y0, y1, _, _⟩ := blkA hBY
          have lx := hXc.lt
          have ly := hBY.lt
          clear hXc hS6 hbc hBY HX6 HR1 HR2 HE6 hED HNM6 HNP6 HNF6 HB6
          have HS4 := Lib.hid (fun (X : World) (h : Below wc.heap.size wc X) => And.intro ((h.cell (p := ⟨gx, 0, none⟩) lx).trans x0) (And.intro ((h.cell (p := ⟨gx, 1, none⟩) lx).trans x1) (And.intro ((h.cell (p := ⟨gy, 0, none⟩) ly).trans y0) ((h.cell (p := ⟨gy, 1, none⟩) ly).trans y1))))
          go_wp2_with fail
          (try simp only [List.append_eq, List.cons_append, List.nil_append])
          go_region_held3 (fun w' => w'.cell? ⟨gx, 0, none⟩ = some (.slice An 3 cn) ∧ w'.cell? ⟨gx, 1, none⟩ = some (.slice (some ad) k ce) ∧ w'.cell? ⟨gy, 0, none⟩ = some (.slice An 3 cn) ∧ w'.cell? ⟨gy, 1, none⟩ = some (.slice LA 0 LD)) (first | exact ⟨s0, s1, s2, s3⟩ | exact ⟨x0, x1, y0, y1⟩ | go_keep)
            (first
              | (have q9 := v9; go_at_call 20; refine (awake15_w _).mono ?_; rintro e v10 ⟨rfl, hbx10⟩; have hb10 : Below v9.heap.size v9 v10 := (by first | exact hbx10 | exact bel_eqv0 hbx10); have hB10 : Below wc.heap.size wc v10 := bthen hB9 hb10; obtain ⟨s0, s1, s2, s3⟩ := HS4.out _ hB10)
              | (have q8 := v8; go_at_call 19; (try rw [HM.out]); refine (equalV_w (n := 0) (r := fun j => Q (k + j)) (by omega) (by first | exact hq4 | exact (hq4).drew) (by first | exact hw4 | exact hw4.drew)).mono ?_; rintro e v9 ⟨rfl, hbx9⟩; have hb9 : Below v8.heap.size v8 v9 := (by first | exact hbx9 | exact bel_eqv0 hbx9); have hB9 : Below wc.heap.size wc v9 := bthen hB8 hb9; obtain ⟨s0, s1, s2, s3⟩ := HS4.out _ hB9)
              | (have q7 := v7; go_at_call 18; refine (HAD.out (heapF wc) _ (by first | exact (sat_heapF wc).below hB7 | exact ((sat_heapF wc).below hB7).drew) An cn hcn HNMc.out LA LD HEDc.out Af cf hcf HNFc.out).mono ?_; rintro e v8 ⟨C4, rfl, hbx8, hc4⟩; have hb8 : Below v7.heap.size v7 v8 := (by first | exact hbx8 | exact bel_eqv0 hbx8); have hB8 : Below wc.heap.size wc v8 := bthen hB7 hb8; obtain ⟨s0, s1, s2, s3⟩ := HS4.out _ hB8; have hq4 : BAt v8 C4 0 (fun j => Q (k + j)) := RetAllU.bat (by rcases hc4 with h | ⟨h0, g, e, _, hk⟩; exact .inl h; exact .inr ⟨h0, g, e, hk⟩); have hw4 : BAt v8 _ 0 (fun j => Q (k + j)) := BAt.zero v8 (some ⟨g2, 0, none⟩) _)
              | (have q6 := v6; go_at_call 19; refine (equalV_w (n := k) (r := P) (by omega) (by first | exact hq3 | exact (hq3).drew) (by first | exact hw3 | exact (hw3).drew)).mono ?_; rintro e v7 ⟨rfl, hbx7⟩; have hb7 : Below v6.heap.size v6 v7 := (by first | exact hbx7 | exact bel_eqv0 hbx7); have hB7 : Below wc.heap.size wc v7 := bthen hB6 hb7; obtain ⟨s0, s1, s2, s3⟩ := HS4.out _ hB7)
              | (have q5 := v5; go_at_call 18; refine (HAT.out (heapF v5) _ (by first | exact sat_heapF v5 | exact (sat_heapF v5).drew) An2 cn2 hcn2 hNm2 Ac cc hcc2 Ap cp hcp (HNPc.out.cle ((sat_heapF wc).below hB5).cle)).mono ?_; rintro e v6 ⟨C3, rfl, hbx6, hc3⟩; have hb6 : Below v5.heap.size v5 v6 := (by first | exact hbx6 | exact bel_eqv0 hbx6); have hB6 : Below wc.heap.size wc v6 := bthen hB5 hb6; obtain ⟨s0, s1, s2, s3⟩ := HS4.out _ hB6; have hq3 : BAt v6 C3 k P := RetAllU.bat (by rcases hc3 with h | ⟨h0, g, e, _, hk⟩; exact .inl h; exact .inr ⟨h0, g, e, hk⟩); have hw3 := (BAt.row (hR1c.out.call hB6)).take hkn)
              | (go_at_call 24; refine (HCU.out (heapF wc) _ (by first | exact sat_heapF wc | exact (sat_heapF wc).drew) An cn hcn HNMc.out (some ad) ce hce HEc.out).mono ?_; rintro e v5 ⟨An2, cn2, ve2, B5, rfl, hcn2, hNm2, hO5, hBB5, hAb5, hbx5⟩; obtain ⟨Ac, cc, rfl, hcc, hcc2, _⟩ := hO5.done; rw [HTL.out] at hcc hcc2; rw [HTL.out]; rw [show namesM.length = 3 from rfl] at hcn2 hNm2; rw [show namesM.length = 3 from rfl]; have hb5 : Below wc.heap.size wc v5 := (by first | exact hbx5 | exact bel_eqv0 hbx5); have hB5 : Below wc.heap.size wc v5 := hb5; obtain ⟨s0, s1, s2, s3⟩ := HS4.out _ hB5))
          all_goals
            go_wp2_with fail
            go_ret
            exact ⟨rfl, bthen HBc.out hB10⟩
      · have hcek : ¬ ce = k := by omega
        have hnek : ¬ ne = k := fun e => hkn2 e.symm
        have HED : Hid (EvsF (heapF w6) (some (ad.add (k * 2))) M (es.drop k)) := Lib.hid (by have := HE6.out.drop hkn; rwa [HM.out] at this)
        go_wp2_with fail
        have lx6 : gx < w6.heap.size := HX6.out.lt
        go_cut [16] from 39 to 45 (fun v16 wx => ∃ gy LA LD, v16 = .pointer (some ⟨gy, 0, none⟩) ∧ w6.heap.size ≤ gy ∧ Blk wx gy 41 #[.slice An 3 cn, .slice LA M LD] ∧ EvsF (heapF w6) LA M (es.drop k) ∧ Below w6.heap.size w6 wx)
        case first =>
          have hMn : ne - k = M := HM.out
          go_region
          all_goals
            go_wp2_with fail
            go_meet
            exact ⟨w6.heap.size, _, _, rfl, Nat.le_refl _, Blk.new _ _ _, HED.out, bel_eqv (balloc w6 _) rfl rfl rfl rfl⟩
        case rest =>
          obtain ⟨gy, LA, LD, rfl, hgy, hBY, hED, hbc⟩ := hcut
          skip
          have hXc := HX6.out.call hbc
          have hR1c := Lib.hid (HR1.out.call hbc)
          have hR2c := Lib.hid (HR2.out.call hbc)
          have hS6 := (sat_heapF w6).below hbc
          have HEc := Lib.hid (HE6.out.cle hS6.cle)
          have HEDc := Lib.hid (hED.cle hS6.cle)
          have HNMc := Lib.hid (HNM6.out.cle hS6.cle)
          have HNPc := Lib.hid (HNP6.out.cle hS6.cle)
          have HNFc := Lib.hid (HNF6.out.cle hS6.cle)
          have HBc := Lib.hid (bthen HB6.out hbc)
          obtain ⟨x0, x1, _, _⟩ := blkA hXc
          obtain ⟨y0, y1, _, _⟩ := blkA hBY
          have lx := hXc.lt
          have ly := hBY.lt
          clear hXc hS6 hbc hBY HX6 HR1 HR2 HE6 hED HNM6 HNP6 HNF6 HB6
          have HS4 := Lib.hid (fun (X : World) (h : Below wc.heap.size wc X) => And.intro ((h.cell (p := ⟨gx, 0, none⟩) lx).trans x0) (And.intro ((h.cell (p := ⟨gx, 1, none⟩) lx).trans x1) (And.intro ((h.cell (p := ⟨gy, 0, none⟩) ly).trans y0) ((h.cell (p := ⟨gy, 1, none⟩) ly).trans y1))))
          go_wp2_with fail
          (try simp only [List.append_eq, List.cons_append, List.nil_append])
          go_region_held3 (fun w' => w'.cell? ⟨gx, 0, none⟩ = some (.slice An 3 cn) ∧ w'.cell? ⟨gx, 1, none⟩ = some (.slice (some ad) ne ce) ∧ w'.cell? ⟨gy, 0, none⟩ = some (.slice An 3 cn) ∧ w'.cell? ⟨gy, 1, none⟩ = some (.slice LA M LD)) (first | exact ⟨s0, s1, s2, s3⟩ | exact ⟨x0, x1, y0, y1⟩ | go_keep)
            (first
              | (have q9 := v9; go_at_call 20; refine (awake15_w _).mono ?_; rintro e v10 ⟨rfl, hbx10⟩; have hb10 : Below v9.heap.size v9 v10 := (by first | exact hbx10 | exact bel_eqv0 hbx10); have hB10 : Below wc.heap.size wc v10 := bthen hB9 hb10; obtain ⟨s0, s1, s2, s3⟩ := HS4.out _ hB10)
              | (have q8 := v8; go_at_call 19; rw [HM.out]; refine (equalV_w (n := M) (r := fun j => Q (k + j)) (by omega) (by first | exact hq4 | exact (hq4).drew) (by first | exact hw4.lit | exact hw4.lit.drew)).mono ?_; rintro e v9 ⟨rfl, hbx9⟩; have hb9 : Below v8.heap.size v8 v9 := (by first | exact hbx9 | exact bel_eqv0 hbx9); have hB9 : Below wc.heap.size wc v9 := bthen hB8 hb9; obtain ⟨s0, s1, s2, s3⟩ := HS4.out _ hB9)
              | (have q7 := v7; go_at_call 18; refine (HAD.out (heapF wc) _ (by first | exact (sat_heapF wc).below hB7 | exact ((sat_heapF wc).below hB7).drew) An cn hcn HNMc.out LA LD HEDc.out Af cf hcf HNFc.out).mono ?_; rintro e v8 ⟨C4, rfl, hbx8, hc4⟩; have hb8 : Below v7.heap.size v7 v8 := (by first | exact hbx8 | exact bel_eqv0 hbx8); have hB8 : Below wc.heap.size wc v8 := bthen hB7 hb8; obtain ⟨s0, s1, s2, s3⟩ := HS4.out _ hB8; have hq4 : BAt v8 C4 M (fun j => Q (k + j)) := RetAllU.bat (by rcases hc4 with h | ⟨h0, g, e, _, hk⟩; exact .inl h; exact .inr ⟨h0, g, e, hk⟩); have hw4 := (show BAt v8 (some ((⟨g2, 0, none⟩ : Addr).add k)) M (fun j => Q (k + j)) from (by have h := BAt.from_ (hR2c.out.call hB8) hkn; rw [HM.out] at h; exact h)))
              | (have q6 := v6; go_at_call 19; refine (equalV_w (n := k) (r := P) (by omega) (by first | exact hq3 | exact (hq3).drew) (by first | exact hw3 | exact (hw3).drew)).mono ?_; rintro e v7 ⟨rfl, hbx7⟩; have hb7 : Below v6.heap.size v6 v7 := (by first | exact hbx7 | exact bel_eqv0 hbx7); have hB7 : Below wc.heap.size wc v7 := bthen hB6 hb7; obtain ⟨s0, s1, s2, s3⟩ := HS4.out _ hB7)
              | (have q5 := v5; go_at_call 18; refine (HAT.out (heapF v5) _ (by first | exact sat_heapF v5 | exact (sat_heapF v5).drew) An2 cn2 hcn2 hNm2 Ac cc hcc2 Ap cp hcp (HNPc.out.cle ((sat_heapF wc).below hB5).cle)).mono ?_; rintro e v6 ⟨C3, rfl, hbx6, hc3⟩; have hb6 : Below v5.heap.size v5 v6 := (by first | exact hbx6 | exact bel_eqv0 hbx6); have hB6 : Below wc.heap.size wc v6 := bthen hB5 hb6; obtain ⟨s0, s1, s2, s3⟩ := HS4.out _ hB6; have hq3 : BAt v6 C3 k P := RetAllU.bat (by rcases hc3 with h | ⟨h0, g, e, _, hk⟩; exact .inl h; exact .inr ⟨h0, g, e, hk⟩); have hw3 := (BAt.row (hR1c.out.call hB6)).take hkn)
              | (go_at_call 24; refine (HCU.out (heapF wc) _ (by first | exact sat_heapF wc | exact (sat_heapF wc).drew) An cn hcn HNMc.out (some ad) ce hce HEc.out).mono ?_; rintro e v5 ⟨An2, cn2, ve2, B5, rfl, hcn2, hNm2, hO5, hBB5, hAb5, hbx5⟩; obtain ⟨Ac, cc, rfl, hcc, hcc2, _⟩ := hO5.done; rw [HTL.out] at hcc hcc2; rw [HTL.out]; rw [show namesM.length = 3 from rfl] at hcn2 hNm2; rw [show namesM.length = 3 from rfl]; have hb5 : Below wc.heap.size wc v5 := (by first | exact hbx5 | exact bel_eqv0 hbx5); have hB5 : Below wc.heap.size wc v5 := hb5; obtain ⟨s0, s1, s2, s3⟩ := HS4.out _ hB5))
          all_goals
            go_wp2_with fail
            go_ret
            exact ⟨rfl, bthen HBc.out hB10⟩
end Go.Proofs.Ytdbbooibkiicnaa
