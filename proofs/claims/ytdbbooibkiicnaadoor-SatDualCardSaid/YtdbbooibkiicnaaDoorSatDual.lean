/- The walk of the law SatDual: printed by mkdual.py out of XSatDual0.txt. -/
import Derived.Test.YtdbbooibkiicnaaDoorSatG
import Derived.Test.YtdbbooibkiicnaaDoorAw15
import Derived.Test.YtdbbooibkiicnaaDoorMk8E
import Derived.Test.YtdbbooibkiicnaaDoorBuild
set_option linter.unusedVariables false
set_option linter.unusedSimpArgs false
namespace Go.Proofs.YtdbbooibkiicnaaDoor
open Go.RowKit
theorem leafNodes {w : World} {g : Nat} (k : Int) (h : Blk w g 37 #[.int .i64 k, .string ⟨#[]⟩, .int .i64 0, .int .i64 0, .slice none 0 0]) : NodesF (heapF w) (some ⟨g, 0, none⟩) 1 ((Tr.leaf (nSp k 0 0)).flat 0) := by
  have hv : NodesV (heapF w) ((Tr.leaf (nSp k 0 0)).flat 0) [.int .i64 k, .string ⟨#[]⟩, .int .i64 0, .int .i64 0, .slice none 0 0] := .cons _ _ none 0 [] (Nat.le_refl _) Rd.nil .nil
  refine hv.toF ⟨rfl, fun _ => ⟨_, rfl, fun j u hu => ?_⟩⟩
  rw [add_lit0]
  unfold Fz.cell heapF
  rw [h]
  simpa using hu
set_option maxRecDepth 100000 in
set_option maxHeartbeats 8000000 in
theorem satDual_c {F : Fz} {w : World} (hF : Sat F w) (G0 : F.cell ⟨0, 0, none⟩ = some (.int .i64 0)) (G1 : F.cell ⟨0, 1, none⟩ = some (.int .i64 0)) (s sp : Nat) (hs : s < 18446744073709551616) (hspb : sp < 65536) (ts ns ms : List Nat) (hts : ∀ k ∈ ts, k < 65536) (hns : ∀ k ∈ ns, k < 65536) (hms : ∀ k ∈ ms, k < 65536)
    (A1 : Option Addr) (n1 c1 : Nat) (hr1 : Rd F 1 A1 n1 (ts.map encW)) (A2 : Option Addr) (n2 c2 : Nat) (hr2 : Rd F 1 A2 n2 (ns.map encW)) (A3 : Option Addr) (n3 c3 : Nat) (hr3 : Rd F 1 A3 n3 (ms.map encW)) :
    Calls Tryd.prog 3 #[.int .u64 (s : Nat), .slice A1 n1 c1, .slice A2 n2 c2, .slice A3 n3 c3, .int .u16 (sp : Nat)] w fun e w' => e = .returned (.bool true) ∧ Below w.heap.size w w' := by
  have HK8 := Lib.hid (mk8_w hF s hs ts hts A1 n1 c1 hr1)
  have HMA := Lib.hid (fun (X : World) (h : Sat F X) => make_w h ns hns A2 n2 c2 hr2 false (makeT false ns) rfl)
  have HMB := Lib.hid (fun (X : World) (h : Sat F X) => make_w h ms hms A3 n3 c3 hr3 false (makeT false ms) rfl)
  have hsa := (make_size false ns).1
  have hsb := (make_size false ms).1
  obtain ⟨hva, hra, _⟩ := okF_iff.1 (make_ok false ns hns).1
  obtain ⟨hvb, hrb, _⟩ := okF_iff.1 (make_ok false ms hms).1
  obtain ⟨TA, hTA⟩ : ∃ T, makeT false ns = T := ⟨_, rfl⟩
  obtain ⟨TB, hTB⟩ : ∃ T, makeT false ms = T := ⟨_, rfl⟩
  rw [hTA] at HMA hsa hva hra
  rw [hTB] at HMB hsb hvb hrb
  obtain ⟨na, hna⟩ : ∃ n, (TA.flat 0).length = n := ⟨_, rfl⟩
  obtain ⟨nb, hnb⟩ : ∃ n, (TB.flat 0).length = n := ⟨_, rfl⟩
  have HLna := Lib.hid hna
  have HLnb := Lib.hid hnb
  obtain ⟨t0, ht0⟩ : ∃ t0, min s 9223372036854775808 = t0 := ⟨_, rfl⟩
  obtain ⟨es, hes⟩ : ∃ es, evM t0 (ts.take 60) = es := ⟨_, rfl⟩
  have hel : es.length ≤ 60 := by rw [← hes, length_evM, List.length_take]; omega
  have hem : mayT namesM es = true := by rw [← hes]; exact mayT_evM _ _
  have heid : ∀ e ∈ es, e.ids.length ≤ 3 := by rw [← hes]; exact evM_ids _ _
  rw [ht0, hes] at HK8
  obtain ⟨ne, hne⟩ : ∃ ne, es.length = ne := ⟨_, rfl⟩
  have HES := Lib.hid hne
  have HXN : Hid ((trcE namesM es).n = ne) := Lib.hid hne
  have HEM := Lib.hid hem
  have HEID := Lib.hid heid
  have hneb : ne ≤ 60 := by omega
  obtain ⟨x, hx⟩ : ∃ x, sp % 2700 = x := ⟨_, rfl⟩
  have hxI : (sp : Int) % 2700 = (x : Int) := by omega
  have hxT : (sp : Int).tmod 2700 = (x : Int) := by rw [Int.tmod_eq_emod_of_nonneg (by omega)]; exact hxI
  have HSP := Lib.hid (fun X => span_w (x : Int) (by omega) (by omega) X)
  have hsp0 := span_ok (n := (x : Int)) (by omega) (by omega)
  obtain ⟨lo, hlo⟩ : ∃ lo, spanLo (x : Int) = lo := ⟨_, rfl⟩
  obtain ⟨hi, hhi⟩ : ∃ hi, spanHi (x : Int) = hi := ⟨_, rfl⟩
  rw [hlo, hhi] at HSP hsp0
  have hsp : spanS lo hi = true := hsp0
  have hspz : spanS 0 (-1) = true := rfl
  obtain ⟨nx1, hnx1⟩ : ∃ n, n = ((.un (nSp 11 lo hi) TA) : Tr).size := ⟨_, rfl⟩
  have HLnx1 : Hid ((Tr.flat ((.un (nSp 11 lo hi) TA) : Tr) 0).length = nx1) := Lib.hid (by rw [hnx1, Tr.length_flat])
  clear hnx1
  obtain ⟨nx2, hnx2⟩ : ∃ n, n = ((.un (nSp 4 0 0) TA) : Tr).size := ⟨_, rfl⟩
  have HLnx2 : Hid ((Tr.flat ((.un (nSp 4 0 0) TA) : Tr) 0).length = nx2) := Lib.hid (by rw [hnx2, Tr.length_flat])
  clear hnx2
  obtain ⟨nx3, hnx3⟩ : ∃ n, n = ((.un (nSp 10 lo hi) (.un (nSp 4 0 0) TA)) : Tr).size := ⟨_, rfl⟩
  have HLnx3 : Hid ((Tr.flat ((.un (nSp 10 lo hi) (.un (nSp 4 0 0) TA)) : Tr) 0).length = nx3) := Lib.hid (by rw [hnx3, Tr.length_flat])
  clear hnx3
  obtain ⟨nx4, hnx4⟩ : ∃ n, n = ((.un (nSp 4 0 0) (.un (nSp 10 lo hi) (.un (nSp 4 0 0) TA))) : Tr).size := ⟨_, rfl⟩
  have HLnx4 : Hid ((Tr.flat ((.un (nSp 4 0 0) (.un (nSp 10 lo hi) (.un (nSp 4 0 0) TA))) : Tr) 0).length = nx4) := Lib.hid (by rw [hnx4, Tr.length_flat])
  clear hnx4
  obtain ⟨ny1, hny1⟩ : ∃ n, n = ((.un (nSp 13 lo hi) TA) : Tr).size := ⟨_, rfl⟩
  have HLny1 : Hid ((Tr.flat ((.un (nSp 13 lo hi) TA) : Tr) 0).length = ny1) := Lib.hid (by rw [hny1, Tr.length_flat])
  clear hny1
  obtain ⟨ny2, hny2⟩ : ∃ n, n = ((.un (nSp 4 0 0) TA) : Tr).size := ⟨_, rfl⟩
  have HLny2 : Hid ((Tr.flat ((.un (nSp 4 0 0) TA) : Tr) 0).length = ny2) := Lib.hid (by rw [hny2, Tr.length_flat])
  clear hny2
  obtain ⟨ny3, hny3⟩ : ∃ n, n = ((.un (nSp 12 lo hi) (.un (nSp 4 0 0) TA)) : Tr).size := ⟨_, rfl⟩
  have HLny3 : Hid ((Tr.flat ((.un (nSp 12 lo hi) (.un (nSp 4 0 0) TA)) : Tr) 0).length = ny3) := Lib.hid (by rw [hny3, Tr.length_flat])
  clear hny3
  obtain ⟨ny4, hny4⟩ : ∃ n, n = ((.un (nSp 4 0 0) (.un (nSp 12 lo hi) (.un (nSp 4 0 0) TA))) : Tr).size := ⟨_, rfl⟩
  have HLny4 : Hid ((Tr.flat ((.un (nSp 4 0 0) (.un (nSp 12 lo hi) (.un (nSp 4 0 0) TA))) : Tr) 0).length = ny4) := Lib.hid (by rw [hny4, Tr.length_flat])
  clear hny4
  obtain ⟨nz1, hnz1⟩ : ∃ n, n = ((.bin (nSp 14 lo hi) (.leaf (nSp 1 0 0)) TA) : Tr).size := ⟨_, rfl⟩
  have HLnz1 : Hid ((Tr.flat ((.bin (nSp 14 lo hi) (.leaf (nSp 1 0 0)) TA) : Tr) 0).length = nz1) := Lib.hid (by rw [hnz1, Tr.length_flat])
  clear hnz1
  obtain ⟨nz2, hnz2⟩ : ∃ n, n = ((.un (nSp 10 lo hi) TA) : Tr).size := ⟨_, rfl⟩
  have HLnz2 : Hid ((Tr.flat ((.un (nSp 10 lo hi) TA) : Tr) 0).length = nz2) := Lib.hid (by rw [hnz2, Tr.length_flat])
  clear hnz2
  obtain ⟨nu1, hnu1⟩ : ∃ n, n = ((.bin (nSp 15 lo hi) (.leaf (nSp 1 0 0)) TA) : Tr).size := ⟨_, rfl⟩
  have HLnu1 : Hid ((Tr.flat ((.bin (nSp 15 lo hi) (.leaf (nSp 1 0 0)) TA) : Tr) 0).length = nu1) := Lib.hid (by rw [hnu1, Tr.length_flat])
  clear hnu1
  obtain ⟨nu2, hnu2⟩ : ∃ n, n = ((.un (nSp 12 lo hi) TA) : Tr).size := ⟨_, rfl⟩
  have HLnu2 : Hid ((Tr.flat ((.un (nSp 12 lo hi) TA) : Tr) 0).length = nu2) := Lib.hid (by rw [hnu2, Tr.length_flat])
  clear hnu2
  obtain ⟨nn1, hnn1⟩ : ∃ n, n = ((.bin (nSp 15 0 (-1)) (.leaf (nSp 2 0 0)) TA) : Tr).size := ⟨_, rfl⟩
  have HLnn1 : Hid ((Tr.flat ((.bin (nSp 15 0 (-1)) (.leaf (nSp 2 0 0)) TA) : Tr) 0).length = nn1) := Lib.hid (by rw [hnn1, Tr.length_flat])
  clear hnn1
  obtain ⟨ni1, hni1⟩ : ∃ n, n = ((.bin (nSp 7 0 0) TA TB) : Tr).size := ⟨_, rfl⟩
  have HLni1 : Hid ((Tr.flat ((.bin (nSp 7 0 0) TA TB) : Tr) 0).length = ni1) := Lib.hid (by rw [hni1, Tr.length_flat])
  clear hni1
  obtain ⟨ni2, hni2⟩ : ∃ n, n = ((.un (nSp 4 0 0) TA) : Tr).size := ⟨_, rfl⟩
  have HLni2 : Hid ((Tr.flat ((.un (nSp 4 0 0) TA) : Tr) 0).length = ni2) := Lib.hid (by rw [hni2, Tr.length_flat])
  clear hni2
  obtain ⟨ni3, hni3⟩ : ∃ n, n = ((.bin (nSp 6 0 0) (.un (nSp 4 0 0) TA) TB) : Tr).size := ⟨_, rfl⟩
  have HLni3 : Hid ((Tr.flat ((.bin (nSp 6 0 0) (.un (nSp 4 0 0) TA) TB) : Tr) 0).length = ni3) := Lib.hid (by rw [hni3, Tr.length_flat])
  clear hni3
  obtain ⟨nd1, hnd1⟩ : ∃ n, n = ((.bin (nSp 5 0 0) TA TB) : Tr).size := ⟨_, rfl⟩
  have HLnd1 : Hid ((Tr.flat ((.bin (nSp 5 0 0) TA TB) : Tr) 0).length = nd1) := Lib.hid (by rw [hnd1, Tr.length_flat])
  clear hnd1
  obtain ⟨nd2, hnd2⟩ : ∃ n, n = ((.un (nSp 4 0 0) (.bin (nSp 5 0 0) TA TB)) : Tr).size := ⟨_, rfl⟩
  have HLnd2 : Hid ((Tr.flat ((.un (nSp 4 0 0) (.bin (nSp 5 0 0) TA TB)) : Tr) 0).length = nd2) := Lib.hid (by rw [hnd2, Tr.length_flat])
  clear hnd2
  obtain ⟨nd3, hnd3⟩ : ∃ n, n = ((.un (nSp 4 0 0) TA) : Tr).size := ⟨_, rfl⟩
  have HLnd3 : Hid ((Tr.flat ((.un (nSp 4 0 0) TA) : Tr) 0).length = nd3) := Lib.hid (by rw [hnd3, Tr.length_flat])
  clear hnd3
  obtain ⟨nd4, hnd4⟩ : ∃ n, n = ((.un (nSp 4 0 0) TB) : Tr).size := ⟨_, rfl⟩
  have HLnd4 : Hid ((Tr.flat ((.un (nSp 4 0 0) TB) : Tr) 0).length = nd4) := Lib.hid (by rw [hnd4, Tr.length_flat])
  clear hnd4
  obtain ⟨nd5, hnd5⟩ : ∃ n, n = ((.bin (nSp 6 0 0) (.un (nSp 4 0 0) TA) (.un (nSp 4 0 0) TB)) : Tr).size := ⟨_, rfl⟩
  have HLnd5 : Hid ((Tr.flat ((.bin (nSp 6 0 0) (.un (nSp 4 0 0) TA) (.un (nSp 4 0 0) TB)) : Tr) 0).length = nd5) := Lib.hid (by rw [hnd5, Tr.length_flat])
  clear hnd5
  have HVa : Hid (validT (TA : Tr) = true) := Lib.hid hva
  have HRa : Hid (regS (TA : Tr).root.kind = false) := Lib.hid hra
  have HVd2 : Hid (validT ((.un (nSp 4 0 0) (.bin (nSp 5 0 0) TA TB)) : Tr) = true) := Lib.hid (v_un (by decide) (by first | exact hra | exact hrb | rfl) (v_bin (by decide) (by first | exact hra | exact hrb | rfl) (by first | exact hra | exact hrb | rfl) hva hvb))
  have HRd2 : Hid (regS ((.un (nSp 4 0 0) (.bin (nSp 5 0 0) TA TB)) : Tr).root.kind = false) := Lib.hid rfl
  have HVd5 : Hid (validT ((.bin (nSp 6 0 0) (.un (nSp 4 0 0) TA) (.un (nSp 4 0 0) TB)) : Tr) = true) := Lib.hid (v_bin (by decide) (by first | exact hra | exact hrb | rfl) (by first | exact hra | exact hrb | rfl) (v_un (by decide) (by first | exact hra | exact hrb | rfl) hva) (v_un (by decide) (by first | exact hra | exact hrb | rfl) hvb))
  have HRd5 : Hid (regS ((.bin (nSp 6 0 0) (.un (nSp 4 0 0) TA) (.un (nSp 4 0 0) TB)) : Tr).root.kind = false) := Lib.hid rfl
  have HVi1 : Hid (validT ((.bin (nSp 7 0 0) TA TB) : Tr) = true) := Lib.hid (v_bin (by decide) (by first | exact hra | exact hrb | rfl) (by first | exact hra | exact hrb | rfl) hva hvb)
  have HRi1 : Hid (regS ((.bin (nSp 7 0 0) TA TB) : Tr).root.kind = false) := Lib.hid rfl
  have HVi3 : Hid (validT ((.bin (nSp 6 0 0) (.un (nSp 4 0 0) TA) TB) : Tr) = true) := Lib.hid (v_bin (by decide) (by first | exact hra | exact hrb | rfl) (by first | exact hra | exact hrb | rfl) (v_un (by decide) (by first | exact hra | exact hrb | rfl) hva) hvb)
  have HRi3 : Hid (regS ((.bin (nSp 6 0 0) (.un (nSp 4 0 0) TA) TB) : Tr).root.kind = false) := Lib.hid rfl
  have HVn1 : Hid (validT ((.bin (nSp 15 0 (-1)) (.leaf (nSp 2 0 0)) TA) : Tr) = true) := Lib.hid (v_bin (f_tim (by decide) (by decide) (by decide) hspz) (by first | exact hra | exact hrb | rfl) (by first | exact hra | exact hrb | rfl) (show validT (.leaf (nSp 2 0 0)) = true from rfl) hva)
  have HRn1 : Hid (regS ((.bin (nSp 15 0 (-1)) (.leaf (nSp 2 0 0)) TA) : Tr).root.kind = false) := Lib.hid rfl
  have HVu1 : Hid (validT ((.bin (nSp 15 lo hi) (.leaf (nSp 1 0 0)) TA) : Tr) = true) := Lib.hid (v_bin (f_tim (by decide) (by decide) (by decide) hsp) (by first | exact hra | exact hrb | rfl) (by first | exact hra | exact hrb | rfl) (show validT (.leaf (nSp 1 0 0)) = true from rfl) hva)
  have HRu1 : Hid (regS ((.bin (nSp 15 lo hi) (.leaf (nSp 1 0 0)) TA) : Tr).root.kind = false) := Lib.hid rfl
  have HVu2 : Hid (validT ((.un (nSp 12 lo hi) TA) : Tr) = true) := Lib.hid (v_un (f_tim (by decide) (by decide) (by decide) hsp) (by first | exact hra | exact hrb | rfl) hva)
  have HRu2 : Hid (regS ((.un (nSp 12 lo hi) TA) : Tr).root.kind = false) := Lib.hid rfl
  have HVx1 : Hid (validT ((.un (nSp 11 lo hi) TA) : Tr) = true) := Lib.hid (v_un (f_tim (by decide) (by decide) (by decide) hsp) (by first | exact hra | exact hrb | rfl) hva)
  have HRx1 : Hid (regS ((.un (nSp 11 lo hi) TA) : Tr).root.kind = false) := Lib.hid rfl
  have HVx4 : Hid (validT ((.un (nSp 4 0 0) (.un (nSp 10 lo hi) (.un (nSp 4 0 0) TA))) : Tr) = true) := Lib.hid (v_un (by decide) (by first | exact hra | exact hrb | rfl) (v_un (f_tim (by decide) (by decide) (by decide) hsp) (by first | exact hra | exact hrb | rfl) (v_un (by decide) (by first | exact hra | exact hrb | rfl) hva)))
  have HRx4 : Hid (regS ((.un (nSp 4 0 0) (.un (nSp 10 lo hi) (.un (nSp 4 0 0) TA))) : Tr).root.kind = false) := Lib.hid rfl
  have HVy1 : Hid (validT ((.un (nSp 13 lo hi) TA) : Tr) = true) := Lib.hid (v_un (f_tim (by decide) (by decide) (by decide) hsp) (by first | exact hra | exact hrb | rfl) hva)
  have HRy1 : Hid (regS ((.un (nSp 13 lo hi) TA) : Tr).root.kind = false) := Lib.hid rfl
  have HVy4 : Hid (validT ((.un (nSp 4 0 0) (.un (nSp 12 lo hi) (.un (nSp 4 0 0) TA))) : Tr) = true) := Lib.hid (v_un (by decide) (by first | exact hra | exact hrb | rfl) (v_un (f_tim (by decide) (by decide) (by decide) hsp) (by first | exact hra | exact hrb | rfl) (v_un (by decide) (by first | exact hra | exact hrb | rfl) hva)))
  have HRy4 : Hid (regS ((.un (nSp 4 0 0) (.un (nSp 12 lo hi) (.un (nSp 4 0 0) TA))) : Tr).root.kind = false) := Lib.hid rfl
  have HVz1 : Hid (validT ((.bin (nSp 14 lo hi) (.leaf (nSp 1 0 0)) TA) : Tr) = true) := Lib.hid (v_bin (f_tim (by decide) (by decide) (by decide) hsp) (by first | exact hra | exact hrb | rfl) (by first | exact hra | exact hrb | rfl) (show validT (.leaf (nSp 1 0 0)) = true from rfl) hva)
  have HRz1 : Hid (regS ((.bin (nSp 14 lo hi) (.leaf (nSp 1 0 0)) TA) : Tr).root.kind = false) := Lib.hid rfl
  have HVz2 : Hid (validT ((.un (nSp 10 lo hi) TA) : Tr) = true) := Lib.hid (v_un (f_tim (by decide) (by decide) (by decide) hsp) (by first | exact hra | exact hrb | rfl) hva)
  have HRz2 : Hid (regS ((.un (nSp 10 lo hi) TA) : Tr).root.kind = false) := Lib.hid rfl
  have HG0 := Lib.hid G0
  have HG1 := Lib.hid G1
  clear hr1 hr2 hr3 hts hns hms hTA hTB hna hnb ht0 hes hel hem heid hne hlo hhi hsp0 hsp hspz hva hvb hra hrb G0 G1 hx
  go_enter Tryd.func3, Tryd.ntmps3
  go_wp2_with fail
  go_at_call 5
  refine HK8.out.mono ?_
  rintro e w1 ⟨An, cn, ve, B, rfl, hcn, hNm, hO, hB, hAb, hb1⟩
  obtain ⟨Ae, ce, rfl, hce, hE, hAe⟩ := hO.done
  rw [HES.out] at hce hE
  rw [HES.out]
  rw [show namesM.length = 3 from rfl] at hcn hNm
  rw [show namesM.length = 3 from rfl]
  have HTR1 : Hid (TrF (heapF w1) namesM es An 3 cn Ae ne ce) := Lib.hid ⟨hcn, hNm, hE, fun e he => Nat.le_trans (HEID.out e he) (by omega), by omega, HEM.out⟩
  have hF1 := hF.below hb1
  clear hNm hO hB hAb hE hAe
  go_wp2_with fail
  go_at_call 6
  refine (HMA.out _ hF1).mono ?_
  rintro e w2 ⟨Aa, ca, F2, rfl, hca, hNa, hb2, hF2, _⟩
  rw [HLna.out] at hca hNa
  rw [HLna.out]
  have HNa2 := Lib.hid (hNa.cle hF2.cle)
  have hF1' := hF1.below hb2
  clear hNa hF2
  go_wp2_with fail
  go_at_call 6
  refine (HMB.out _ hF1').mono ?_
  rintro e w3 ⟨Ab, cb, F3, rfl, hcb, hNb, hb3, hF3, _⟩
  rw [HLnb.out] at hcb hNb
  rw [HLnb.out]
  have HNb3 := Lib.hid (hNb.cle hF3.cle)
  clear hNb hF3
  obtain ⟨g11, hg11⟩ : ∃ g, g = w3.heap.size := ⟨_, rfl⟩
  obtain ⟨W4, hW4⟩ : ∃ W4, W4 = w3.alloc (.cells #[.slice An 3 cn, .slice Ae ne ce] 28) := ⟨_, rfl⟩
  have HB4 := Lib.hid (show Blk W4 g11 28 #[.slice An 3 cn, .slice Ae ne ce] by rw [hW4, hg11]; exact Blk.new _ _ _)
  have hb4 : Below w3.heap.size w3 W4 := by rw [hW4]; exact balloc _ _
  go_wp2_with fail
  rw [← hW4, ← hg11]
  clear hW4 hg11
  go_at_call 7
  refine (HSP.out _).mono ?_
  rintro e w5 ⟨rfl, hb5⟩
  obtain ⟨g14, hg14⟩ : ∃ g, g = w5.heap.size := ⟨_, rfl⟩
  obtain ⟨V, hV⟩ : ∃ V, V = ((w5.alloc (.cells #[.int .i64 lo, .int .i64 hi] 33)).alloc (.cells #[.int .i64 1, .string ⟨#[]⟩, .int .i64 0, .int .i64 0, .slice none 0 0] 37)).alloc (.cells #[.int .i64 2, .string ⟨#[]⟩, .int .i64 0, .int .i64 0, .slice none 0 0] 37) := ⟨_, rfl⟩
  have hBs : Blk V g14 33 #[.int .i64 lo, .int .i64 hi] := by rw [hV, hg14]; exact ((Blk.new _ _ _).alloc _).alloc _
  have hBy : Blk V (g14 + 1) 37 #[.int .i64 1, .string ⟨#[]⟩, .int .i64 0, .int .i64 0, .slice none 0 0] := by rw [hV, hg14]; exact (Blk.new2 _ _ _ _).alloc _
  have hBn : Blk V (g14 + 1 + 1) 37 #[.int .i64 2, .string ⟨#[]⟩, .int .i64 0, .int .i64 0, .slice none 0 0] := by rw [hV, hg14]; exact blk3n _ _ _ _ _
  have hbV : Below w5.heap.size w5 V := by rw [hV]; exact ((balloc _ _).alloc (by simp) _).alloc (by simp; omega) _
  have hb5V := bthen hb5 hbV
  have hb4V := bthen hb4 hb5V
  have hb3V := bthen hb3 hb4V
  have hb2V := bthen hb2 hb3V
  have hb1V := bthen hb1 hb2V
  have HBV := Lib.hid hb1V
  have HTR := Lib.hid (HTR1.out.cle ((sat_heapF w1).below hb2V).cle)
  have HNa := Lib.hid (HNa2.out.cle ((sat_heapF w2).below hb3V).cle)
  have HNb := Lib.hid (HNb3.out.cle ((sat_heapF w3).below hb4V).cle)
  obtain ⟨gyes, hgy⟩ : ∃ g, g = g14 + 1 := ⟨_, rfl⟩
  obtain ⟨gno, hgn⟩ : ∃ g, g = gyes + 1 := ⟨_, rfl⟩
  have HNyes : Hid (NodesF (heapF V) (some ⟨gyes, 0, none⟩) 1 ((Tr.leaf (nSp 1 0 0)).flat 0)) := Lib.hid (by rw [hgy]; exact leafNodes 1 hBy)
  have HNno : Hid (NodesF (heapF V) (some ⟨gno, 0, none⟩) 1 ((Tr.leaf (nSp 2 0 0)).flat 0)) := Lib.hid (by rw [hgn, hgy]; exact leafNodes 2 hBn)
  have hFV := hF.below hb1V
  have p4 := hFV.cell HG0.out
  have p5 := hFV.cell HG1.out
  have l0 : 0 < V.heap.size := hFV.clt HG0.out
  obtain ⟨p0, p1, _, _⟩ := blkA (HB4.out.call hb5V)
  obtain ⟨p2, p3, _, _⟩ := blkA hBs
  have l11 := (HB4.out.call hb5V).lt
  have l14 := hBs.lt
  have g0_0 : (heapF V).cell ⟨0, 0, none⟩ = some (.int .i64 0) := p4
  have g1_0 : (heapF V).cell ⟨0, 1, none⟩ = some (.int .i64 0) := p5
  go_wp2_with fail
  rw [← hg14, ← hV, ← hgy, ← hgn]
  clear hV hg14 hgy hgn hBs hBy hBn hbV hb5V hb4V hb3V hb2V hb1V hb1 hb2 hb3 hb4 hb5 hF1 hF1' hFV
  (try simp only [List.append_eq, List.cons_append, List.nil_append])
  go_region_held3 (fun w' => w'.cell? ⟨g11, 0, none⟩ = some (.slice An 3 cn) ∧ w'.cell? ⟨g11, 1, none⟩ = some (.slice Ae ne ce) ∧ w'.cell? ⟨g14, 0, none⟩ = some (.int .i64 lo) ∧ w'.cell? ⟨g14, 1, none⟩ = some (.int .i64 hi) ∧ w'.cell? ⟨0, 0, none⟩ = some (.int .i64 0) ∧ w'.cell? ⟨0, 1, none⟩ = some (.int .i64 0)) (first | exact ⟨s0, s1, s2, s3, s4, s5⟩ | exact ⟨p0, p1, p2, p3, p4, p5⟩ | go_keep)
    (first
      | (go_at_call 12; refine (awake15_w _).mono ?_; rintro e v29 ⟨rfl, hbx29⟩; have hb29 : Below v28.heap.size v28 v29 := (by first | exact hbx29 | exact bel_eqv0 hbx29); have hB29 : Below V.heap.size V v29 := bthen hB28 hb29; have s0 := (hB29.cell (p := ⟨g11, 0, none⟩) l11).trans p0; have s1 := (hB29.cell (p := ⟨g11, 1, none⟩) l11).trans p1; have s2 := (hB29.cell (p := ⟨g14, 0, none⟩) l14).trans p2; have s3 := (hB29.cell (p := ⟨g14, 1, none⟩) l14).trans p3; have s4 := (hB29.cell (p := ⟨0, 0, none⟩) l0).trans p4; have s5 := (hB29.cell (p := ⟨0, 1, none⟩) l0).trans p5; have g0_29 : (heapF v29).cell ⟨0, 0, none⟩ = some (.int .i64 0) := s4; have g1_29 : (heapF v29).cell ⟨0, 1, none⟩ = some (.int .i64 0) := s5)
      | (go_at_call 8; refine (lalike_w (by first | exact sat_heapF v27 | exact (sat_heapF v27).drew) namesM es An 3 cn Ae ne ce (HTR.out.cle ((sat_heapF V).below hB27).cle) (.un (nSp 4 0 0) (.bin (nSp 5 0 0) TA TB)) (.bin (nSp 6 0 0) (.un (nSp 4 0 0) TA) (.un (nSp 4 0 0) TB)) HVd2.out HVd5.out HRd2.out HRd5.out (by first | omega | (simp only [Tr.size]; omega)) (by first | omega | (simp only [Tr.size]; omega)) (fun i hlt => (dual_and _ TA TB i).symm) Ad2 Ad5 nd2 cd2 nd5 cd5 hcd2 hcd5 (hNd2.cle ((sat_heapF v24).below (bthen (bthen hb25 hb26) hb27)).cle) hNd5).mono ?_; rintro e v28 ⟨rfl, hbx28⟩; have hb28 : Below v27.heap.size v27 v28 := (by first | exact hbx28 | exact bel_eqv0 hbx28); have hB28 : Below V.heap.size V v28 := bthen hB27 hb28; have s0 := (hB28.cell (p := ⟨g11, 0, none⟩) l11).trans p0; have s1 := (hB28.cell (p := ⟨g11, 1, none⟩) l11).trans p1; have s2 := (hB28.cell (p := ⟨g14, 0, none⟩) l14).trans p2; have s3 := (hB28.cell (p := ⟨g14, 1, none⟩) l14).trans p3; have s4 := (hB28.cell (p := ⟨0, 0, none⟩) l0).trans p4; have s5 := (hB28.cell (p := ⟨0, 1, none⟩) l0).trans p5; have g0_28 : (heapF v28).cell ⟨0, 0, none⟩ = some (.int .i64 0) := s4; have g1_28 : (heapF v28).cell ⟨0, 1, none⟩ = some (.int .i64 0) := s5)
      | (go_at_call 11; refine (stwo_w (by first | exact sat_heapF v26 | exact (sat_heapF v26).drew) 6 0 0 (.un (nSp 4 0 0) TA) (.un (nSp 4 0 0) TB) (by first | omega | (simp only [Tr.size]; omega)) (by first | omega | (simp only [Tr.size]; omega)) Ad3 Ad4 nd3 cd3 nd4 cd4 (hNd3.cle ((sat_heapF v25).below hb26).cle) hNd4).mono ?_; rintro e v27 ⟨Ad5, cd5, rfl, hcd5, hNd5, hbx27⟩; rw [HLnd5.out] at hcd5 hNd5; rw [HLnd5.out]; have hb27 : Below v26.heap.size v26 v27 := (by first | exact hbx27 | exact bel_eqv0 hbx27); have hB27 : Below V.heap.size V v27 := bthen hB26 hb27; have s0 := (hB27.cell (p := ⟨g11, 0, none⟩) l11).trans p0; have s1 := (hB27.cell (p := ⟨g11, 1, none⟩) l11).trans p1; have s2 := (hB27.cell (p := ⟨g14, 0, none⟩) l14).trans p2; have s3 := (hB27.cell (p := ⟨g14, 1, none⟩) l14).trans p3; have s4 := (hB27.cell (p := ⟨0, 0, none⟩) l0).trans p4; have s5 := (hB27.cell (p := ⟨0, 1, none⟩) l0).trans p5; have g0_27 : (heapF v27).cell ⟨0, 0, none⟩ = some (.int .i64 0) := s4; have g1_27 : (heapF v27).cell ⟨0, 1, none⟩ = some (.int .i64 0) := s5)
      | (go_at_call 10; refine (snot_w (by first | exact sat_heapF v25 | exact (sat_heapF v25).drew) g0_25 g1_25 TB (by first | omega | (simp only [Tr.size]; omega)) Ab nb cb (HNb.out.cle ((sat_heapF V).below hB25).cle)).mono ?_; rintro e v26 ⟨Ad4, cd4, rfl, hcd4, hNd4, hbx26⟩; rw [HLnd4.out] at hcd4 hNd4; rw [HLnd4.out]; have hb26 : Below v25.heap.size v25 v26 := (by first | exact hbx26 | exact bel_eqv0 hbx26); have hB26 : Below V.heap.size V v26 := bthen hB25 hb26; have s0 := (hB26.cell (p := ⟨g11, 0, none⟩) l11).trans p0; have s1 := (hB26.cell (p := ⟨g11, 1, none⟩) l11).trans p1; have s2 := (hB26.cell (p := ⟨g14, 0, none⟩) l14).trans p2; have s3 := (hB26.cell (p := ⟨g14, 1, none⟩) l14).trans p3; have s4 := (hB26.cell (p := ⟨0, 0, none⟩) l0).trans p4; have s5 := (hB26.cell (p := ⟨0, 1, none⟩) l0).trans p5; have g0_26 : (heapF v26).cell ⟨0, 0, none⟩ = some (.int .i64 0) := s4; have g1_26 : (heapF v26).cell ⟨0, 1, none⟩ = some (.int .i64 0) := s5)
      | (go_at_call 10; refine (snot_w (by first | exact sat_heapF v24 | exact (sat_heapF v24).drew) g0_24 g1_24 TA (by first | omega | (simp only [Tr.size]; omega)) Aa na ca (HNa.out.cle ((sat_heapF V).below hB24).cle)).mono ?_; rintro e v25 ⟨Ad3, cd3, rfl, hcd3, hNd3, hbx25⟩; rw [HLnd3.out] at hcd3 hNd3; rw [HLnd3.out]; have hb25 : Below v24.heap.size v24 v25 := (by first | exact hbx25 | exact bel_eqv0 hbx25); have hB25 : Below V.heap.size V v25 := bthen hB24 hb25; have s0 := (hB25.cell (p := ⟨g11, 0, none⟩) l11).trans p0; have s1 := (hB25.cell (p := ⟨g11, 1, none⟩) l11).trans p1; have s2 := (hB25.cell (p := ⟨g14, 0, none⟩) l14).trans p2; have s3 := (hB25.cell (p := ⟨g14, 1, none⟩) l14).trans p3; have s4 := (hB25.cell (p := ⟨0, 0, none⟩) l0).trans p4; have s5 := (hB25.cell (p := ⟨0, 1, none⟩) l0).trans p5; have g0_25 : (heapF v25).cell ⟨0, 0, none⟩ = some (.int .i64 0) := s4; have g1_25 : (heapF v25).cell ⟨0, 1, none⟩ = some (.int .i64 0) := s5)
      | (go_at_call 10; refine (snot_w (by first | exact sat_heapF v23 | exact (sat_heapF v23).drew) g0_23 g1_23 (.bin (nSp 5 0 0) TA TB) (by first | omega | (simp only [Tr.size]; omega)) Ad1 nd1 cd1 hNd1).mono ?_; rintro e v24 ⟨Ad2, cd2, rfl, hcd2, hNd2, hbx24⟩; rw [HLnd2.out] at hcd2 hNd2; rw [HLnd2.out]; have hb24 : Below v23.heap.size v23 v24 := (by first | exact hbx24 | exact bel_eqv0 hbx24); have hB24 : Below V.heap.size V v24 := bthen hB23 hb24; have s0 := (hB24.cell (p := ⟨g11, 0, none⟩) l11).trans p0; have s1 := (hB24.cell (p := ⟨g11, 1, none⟩) l11).trans p1; have s2 := (hB24.cell (p := ⟨g14, 0, none⟩) l14).trans p2; have s3 := (hB24.cell (p := ⟨g14, 1, none⟩) l14).trans p3; have s4 := (hB24.cell (p := ⟨0, 0, none⟩) l0).trans p4; have s5 := (hB24.cell (p := ⟨0, 1, none⟩) l0).trans p5; have g0_24 : (heapF v24).cell ⟨0, 0, none⟩ = some (.int .i64 0) := s4; have g1_24 : (heapF v24).cell ⟨0, 1, none⟩ = some (.int .i64 0) := s5)
      | (go_at_call 11; refine (stwo_w (by first | exact sat_heapF v22 | exact (sat_heapF v22).drew) 5 0 0 TA TB (by first | omega | (simp only [Tr.size]; omega)) (by first | omega | (simp only [Tr.size]; omega)) Aa Ab na ca nb cb (HNa.out.cle ((sat_heapF V).below hB22).cle) (HNb.out.cle ((sat_heapF V).below hB22).cle)).mono ?_; rintro e v23 ⟨Ad1, cd1, rfl, hcd1, hNd1, hbx23⟩; rw [HLnd1.out] at hcd1 hNd1; rw [HLnd1.out]; have hb23 : Below v22.heap.size v22 v23 := (by first | exact hbx23 | exact bel_eqv0 hbx23); have hB23 : Below V.heap.size V v23 := bthen hB22 hb23; have s0 := (hB23.cell (p := ⟨g11, 0, none⟩) l11).trans p0; have s1 := (hB23.cell (p := ⟨g11, 1, none⟩) l11).trans p1; have s2 := (hB23.cell (p := ⟨g14, 0, none⟩) l14).trans p2; have s3 := (hB23.cell (p := ⟨g14, 1, none⟩) l14).trans p3; have s4 := (hB23.cell (p := ⟨0, 0, none⟩) l0).trans p4; have s5 := (hB23.cell (p := ⟨0, 1, none⟩) l0).trans p5; have g0_23 : (heapF v23).cell ⟨0, 0, none⟩ = some (.int .i64 0) := s4; have g1_23 : (heapF v23).cell ⟨0, 1, none⟩ = some (.int .i64 0) := s5)
      | (go_at_call 8; refine (lalike_w (by first | exact sat_heapF v21 | exact (sat_heapF v21).drew) namesM es An 3 cn Ae ne ce (HTR.out.cle ((sat_heapF V).below hB21).cle) (.bin (nSp 7 0 0) TA TB) (.bin (nSp 6 0 0) (.un (nSp 4 0 0) TA) TB) HVi1.out HVi3.out HRi1.out HRi3.out (by first | omega | (simp only [Tr.size]; omega)) (by first | omega | (simp only [Tr.size]; omega)) (fun i hlt => (dual_imp _ TA TB i).symm) Ai1 Ai3 ni1 ci1 ni3 ci3 hci1 hci3 (hNi1.cle ((sat_heapF v19).below (bthen hb20 hb21)).cle) hNi3).mono ?_; rintro e v22 ⟨rfl, hbx22⟩; have hb22 : Below v21.heap.size v21 v22 := (by first | exact hbx22 | exact bel_eqv0 hbx22); have hB22 : Below V.heap.size V v22 := bthen hB21 hb22; have s0 := (hB22.cell (p := ⟨g11, 0, none⟩) l11).trans p0; have s1 := (hB22.cell (p := ⟨g11, 1, none⟩) l11).trans p1; have s2 := (hB22.cell (p := ⟨g14, 0, none⟩) l14).trans p2; have s3 := (hB22.cell (p := ⟨g14, 1, none⟩) l14).trans p3; have s4 := (hB22.cell (p := ⟨0, 0, none⟩) l0).trans p4; have s5 := (hB22.cell (p := ⟨0, 1, none⟩) l0).trans p5; have g0_22 : (heapF v22).cell ⟨0, 0, none⟩ = some (.int .i64 0) := s4; have g1_22 : (heapF v22).cell ⟨0, 1, none⟩ = some (.int .i64 0) := s5)
      | (go_at_call 11; refine (stwo_w (by first | exact sat_heapF v20 | exact (sat_heapF v20).drew) 6 0 0 (.un (nSp 4 0 0) TA) TB (by first | omega | (simp only [Tr.size]; omega)) (by first | omega | (simp only [Tr.size]; omega)) Ai2 Ab ni2 ci2 nb cb hNi2 (HNb.out.cle ((sat_heapF V).below hB20).cle)).mono ?_; rintro e v21 ⟨Ai3, ci3, rfl, hci3, hNi3, hbx21⟩; rw [HLni3.out] at hci3 hNi3; rw [HLni3.out]; have hb21 : Below v20.heap.size v20 v21 := (by first | exact hbx21 | exact bel_eqv0 hbx21); have hB21 : Below V.heap.size V v21 := bthen hB20 hb21; have s0 := (hB21.cell (p := ⟨g11, 0, none⟩) l11).trans p0; have s1 := (hB21.cell (p := ⟨g11, 1, none⟩) l11).trans p1; have s2 := (hB21.cell (p := ⟨g14, 0, none⟩) l14).trans p2; have s3 := (hB21.cell (p := ⟨g14, 1, none⟩) l14).trans p3; have s4 := (hB21.cell (p := ⟨0, 0, none⟩) l0).trans p4; have s5 := (hB21.cell (p := ⟨0, 1, none⟩) l0).trans p5; have g0_21 : (heapF v21).cell ⟨0, 0, none⟩ = some (.int .i64 0) := s4; have g1_21 : (heapF v21).cell ⟨0, 1, none⟩ = some (.int .i64 0) := s5)
      | (go_at_call 10; refine (snot_w (by first | exact sat_heapF v19 | exact (sat_heapF v19).drew) g0_19 g1_19 TA (by first | omega | (simp only [Tr.size]; omega)) Aa na ca (HNa.out.cle ((sat_heapF V).below hB19).cle)).mono ?_; rintro e v20 ⟨Ai2, ci2, rfl, hci2, hNi2, hbx20⟩; rw [HLni2.out] at hci2 hNi2; rw [HLni2.out]; have hb20 : Below v19.heap.size v19 v20 := (by first | exact hbx20 | exact bel_eqv0 hbx20); have hB20 : Below V.heap.size V v20 := bthen hB19 hb20; have s0 := (hB20.cell (p := ⟨g11, 0, none⟩) l11).trans p0; have s1 := (hB20.cell (p := ⟨g11, 1, none⟩) l11).trans p1; have s2 := (hB20.cell (p := ⟨g14, 0, none⟩) l14).trans p2; have s3 := (hB20.cell (p := ⟨g14, 1, none⟩) l14).trans p3; have s4 := (hB20.cell (p := ⟨0, 0, none⟩) l0).trans p4; have s5 := (hB20.cell (p := ⟨0, 1, none⟩) l0).trans p5; have g0_20 : (heapF v20).cell ⟨0, 0, none⟩ = some (.int .i64 0) := s4; have g1_20 : (heapF v20).cell ⟨0, 1, none⟩ = some (.int .i64 0) := s5)
      | (go_at_call 11; refine (stwo_w (by first | exact sat_heapF v18 | exact (sat_heapF v18).drew) 7 0 0 TA TB (by first | omega | (simp only [Tr.size]; omega)) (by first | omega | (simp only [Tr.size]; omega)) Aa Ab na ca nb cb (HNa.out.cle ((sat_heapF V).below hB18).cle) (HNb.out.cle ((sat_heapF V).below hB18).cle)).mono ?_; rintro e v19 ⟨Ai1, ci1, rfl, hci1, hNi1, hbx19⟩; rw [HLni1.out] at hci1 hNi1; rw [HLni1.out]; have hb19 : Below v18.heap.size v18 v19 := (by first | exact hbx19 | exact bel_eqv0 hbx19); have hB19 : Below V.heap.size V v19 := bthen hB18 hb19; have s0 := (hB19.cell (p := ⟨g11, 0, none⟩) l11).trans p0; have s1 := (hB19.cell (p := ⟨g11, 1, none⟩) l11).trans p1; have s2 := (hB19.cell (p := ⟨g14, 0, none⟩) l14).trans p2; have s3 := (hB19.cell (p := ⟨g14, 1, none⟩) l14).trans p3; have s4 := (hB19.cell (p := ⟨0, 0, none⟩) l0).trans p4; have s5 := (hB19.cell (p := ⟨0, 1, none⟩) l0).trans p5; have g0_19 : (heapF v19).cell ⟨0, 0, none⟩ = some (.int .i64 0) := s4; have g1_19 : (heapF v19).cell ⟨0, 1, none⟩ = some (.int .i64 0) := s5)
      | (go_at_call 8; refine (lalike_w (by first | exact sat_heapF v17 | exact (sat_heapF v17).drew) namesM es An 3 cn Ae ne ce (HTR.out.cle ((sat_heapF V).below hB17).cle) (.bin (nSp 15 0 (-1)) (.leaf (nSp 2 0 0)) TA) TA HVn1.out HVa.out HRn1.out HRa.out (by first | omega | (simp only [Tr.size]; omega)) (by first | omega | (simp only [Tr.size]; omega)) (fun i hlt => (dual_now _ TA i (by rw [HXN.out]; exact hlt)).symm) An1 Aa nn1 cn1 na ca hcn1 hca hNn1 (HNa.out.cle ((sat_heapF V).below hB17).cle)).mono ?_; rintro e v18 ⟨rfl, hbx18⟩; have hb18 : Below v17.heap.size v17 v18 := (by first | exact hbx18 | exact bel_eqv0 hbx18); have hB18 : Below V.heap.size V v18 := bthen hB17 hb18; have s0 := (hB18.cell (p := ⟨g11, 0, none⟩) l11).trans p0; have s1 := (hB18.cell (p := ⟨g11, 1, none⟩) l11).trans p1; have s2 := (hB18.cell (p := ⟨g14, 0, none⟩) l14).trans p2; have s3 := (hB18.cell (p := ⟨g14, 1, none⟩) l14).trans p3; have s4 := (hB18.cell (p := ⟨0, 0, none⟩) l0).trans p4; have s5 := (hB18.cell (p := ⟨0, 1, none⟩) l0).trans p5; have g0_18 : (heapF v18).cell ⟨0, 0, none⟩ = some (.int .i64 0) := s4; have g1_18 : (heapF v18).cell ⟨0, 1, none⟩ = some (.int .i64 0) := s5)
      | (go_at_call 11; refine (stwo_w (by first | exact sat_heapF v16 | exact (sat_heapF v16).drew) 15 0 (-1) (.leaf (nSp 2 0 0)) TA (by first | omega | (simp only [Tr.size]; omega)) (by first | omega | (simp only [Tr.size]; omega)) (some ⟨gno, 0, none⟩) Aa 1 1 na ca (HNno.out.cle ((sat_heapF V).below hB16).cle) (HNa.out.cle ((sat_heapF V).below hB16).cle)).mono ?_; rintro e v17 ⟨An1, cn1, rfl, hcn1, hNn1, hbx17⟩; rw [HLnn1.out] at hcn1 hNn1; rw [HLnn1.out]; have hb17 : Below v16.heap.size v16 v17 := (by first | exact hbx17 | exact bel_eqv0 hbx17); have hB17 : Below V.heap.size V v17 := bthen hB16 hb17; have s0 := (hB17.cell (p := ⟨g11, 0, none⟩) l11).trans p0; have s1 := (hB17.cell (p := ⟨g11, 1, none⟩) l11).trans p1; have s2 := (hB17.cell (p := ⟨g14, 0, none⟩) l14).trans p2; have s3 := (hB17.cell (p := ⟨g14, 1, none⟩) l14).trans p3; have s4 := (hB17.cell (p := ⟨0, 0, none⟩) l0).trans p4; have s5 := (hB17.cell (p := ⟨0, 1, none⟩) l0).trans p5; have g0_17 : (heapF v17).cell ⟨0, 0, none⟩ = some (.int .i64 0) := s4; have g1_17 : (heapF v17).cell ⟨0, 1, none⟩ = some (.int .i64 0) := s5)
      | (go_at_call 8; refine (lalike_w (by first | exact sat_heapF v15 | exact (sat_heapF v15).drew) namesM es An 3 cn Ae ne ce (HTR.out.cle ((sat_heapF V).below hB15).cle) (.bin (nSp 15 lo hi) (.leaf (nSp 1 0 0)) TA) (.un (nSp 12 lo hi) TA) HVu1.out HVu2.out HRu1.out HRu2.out (by first | omega | (simp only [Tr.size]; omega)) (by first | omega | (simp only [Tr.size]; omega)) (fun i hlt => (dual_until _ lo hi TA i).symm) Au1 Au2 nu1 cu1 nu2 cu2 hcu1 hcu2 (hNu1.cle ((sat_heapF v14).below hb15).cle) hNu2).mono ?_; rintro e v16 ⟨rfl, hbx16⟩; have hb16 : Below v15.heap.size v15 v16 := (by first | exact hbx16 | exact bel_eqv0 hbx16); have hB16 : Below V.heap.size V v16 := bthen hB15 hb16; have s0 := (hB16.cell (p := ⟨g11, 0, none⟩) l11).trans p0; have s1 := (hB16.cell (p := ⟨g11, 1, none⟩) l11).trans p1; have s2 := (hB16.cell (p := ⟨g14, 0, none⟩) l14).trans p2; have s3 := (hB16.cell (p := ⟨g14, 1, none⟩) l14).trans p3; have s4 := (hB16.cell (p := ⟨0, 0, none⟩) l0).trans p4; have s5 := (hB16.cell (p := ⟨0, 1, none⟩) l0).trans p5; have g0_16 : (heapF v16).cell ⟨0, 0, none⟩ = some (.int .i64 0) := s4; have g1_16 : (heapF v16).cell ⟨0, 1, none⟩ = some (.int .i64 0) := s5)
      | (go_at_call 9; refine (sone_w (by first | exact sat_heapF v14 | exact (sat_heapF v14).drew) 12 lo hi TA (by first | omega | (simp only [Tr.size]; omega)) Aa na ca (HNa.out.cle ((sat_heapF V).below hB14).cle)).mono ?_; rintro e v15 ⟨Au2, cu2, rfl, hcu2, hNu2, hbx15⟩; rw [HLnu2.out] at hcu2 hNu2; rw [HLnu2.out]; have hb15 : Below v14.heap.size v14 v15 := (by first | exact hbx15 | exact bel_eqv0 hbx15); have hB15 : Below V.heap.size V v15 := bthen hB14 hb15; have s0 := (hB15.cell (p := ⟨g11, 0, none⟩) l11).trans p0; have s1 := (hB15.cell (p := ⟨g11, 1, none⟩) l11).trans p1; have s2 := (hB15.cell (p := ⟨g14, 0, none⟩) l14).trans p2; have s3 := (hB15.cell (p := ⟨g14, 1, none⟩) l14).trans p3; have s4 := (hB15.cell (p := ⟨0, 0, none⟩) l0).trans p4; have s5 := (hB15.cell (p := ⟨0, 1, none⟩) l0).trans p5; have g0_15 : (heapF v15).cell ⟨0, 0, none⟩ = some (.int .i64 0) := s4; have g1_15 : (heapF v15).cell ⟨0, 1, none⟩ = some (.int .i64 0) := s5)
      | (go_at_call 11; refine (stwo_w (by first | exact sat_heapF v13 | exact (sat_heapF v13).drew) 15 lo hi (.leaf (nSp 1 0 0)) TA (by first | omega | (simp only [Tr.size]; omega)) (by first | omega | (simp only [Tr.size]; omega)) (some ⟨gyes, 0, none⟩) Aa 1 1 na ca (HNyes.out.cle ((sat_heapF V).below hB13).cle) (HNa.out.cle ((sat_heapF V).below hB13).cle)).mono ?_; rintro e v14 ⟨Au1, cu1, rfl, hcu1, hNu1, hbx14⟩; rw [HLnu1.out] at hcu1 hNu1; rw [HLnu1.out]; have hb14 : Below v13.heap.size v13 v14 := (by first | exact hbx14 | exact bel_eqv0 hbx14); have hB14 : Below V.heap.size V v14 := bthen hB13 hb14; have s0 := (hB14.cell (p := ⟨g11, 0, none⟩) l11).trans p0; have s1 := (hB14.cell (p := ⟨g11, 1, none⟩) l11).trans p1; have s2 := (hB14.cell (p := ⟨g14, 0, none⟩) l14).trans p2; have s3 := (hB14.cell (p := ⟨g14, 1, none⟩) l14).trans p3; have s4 := (hB14.cell (p := ⟨0, 0, none⟩) l0).trans p4; have s5 := (hB14.cell (p := ⟨0, 1, none⟩) l0).trans p5; have g0_14 : (heapF v14).cell ⟨0, 0, none⟩ = some (.int .i64 0) := s4; have g1_14 : (heapF v14).cell ⟨0, 1, none⟩ = some (.int .i64 0) := s5)
      | (go_at_call 8; refine (lalike_w (by first | exact sat_heapF v12 | exact (sat_heapF v12).drew) namesM es An 3 cn Ae ne ce (HTR.out.cle ((sat_heapF V).below hB12).cle) (.bin (nSp 14 lo hi) (.leaf (nSp 1 0 0)) TA) (.un (nSp 10 lo hi) TA) HVz1.out HVz2.out HRz1.out HRz2.out (by first | omega | (simp only [Tr.size]; omega)) (by first | omega | (simp only [Tr.size]; omega)) (fun i hlt => (dual_since _ lo hi TA i).symm) Az1 Az2 nz1 cz1 nz2 cz2 hcz1 hcz2 (hNz1.cle ((sat_heapF v11).below hb12).cle) hNz2).mono ?_; rintro e v13 ⟨rfl, hbx13⟩; have hb13 : Below v12.heap.size v12 v13 := (by first | exact hbx13 | exact bel_eqv0 hbx13); have hB13 : Below V.heap.size V v13 := bthen hB12 hb13; have s0 := (hB13.cell (p := ⟨g11, 0, none⟩) l11).trans p0; have s1 := (hB13.cell (p := ⟨g11, 1, none⟩) l11).trans p1; have s2 := (hB13.cell (p := ⟨g14, 0, none⟩) l14).trans p2; have s3 := (hB13.cell (p := ⟨g14, 1, none⟩) l14).trans p3; have s4 := (hB13.cell (p := ⟨0, 0, none⟩) l0).trans p4; have s5 := (hB13.cell (p := ⟨0, 1, none⟩) l0).trans p5; have g0_13 : (heapF v13).cell ⟨0, 0, none⟩ = some (.int .i64 0) := s4; have g1_13 : (heapF v13).cell ⟨0, 1, none⟩ = some (.int .i64 0) := s5)
      | (go_at_call 9; refine (sone_w (by first | exact sat_heapF v11 | exact (sat_heapF v11).drew) 10 lo hi TA (by first | omega | (simp only [Tr.size]; omega)) Aa na ca (HNa.out.cle ((sat_heapF V).below hB11).cle)).mono ?_; rintro e v12 ⟨Az2, cz2, rfl, hcz2, hNz2, hbx12⟩; rw [HLnz2.out] at hcz2 hNz2; rw [HLnz2.out]; have hb12 : Below v11.heap.size v11 v12 := (by first | exact hbx12 | exact bel_eqv0 hbx12); have hB12 : Below V.heap.size V v12 := bthen hB11 hb12; have s0 := (hB12.cell (p := ⟨g11, 0, none⟩) l11).trans p0; have s1 := (hB12.cell (p := ⟨g11, 1, none⟩) l11).trans p1; have s2 := (hB12.cell (p := ⟨g14, 0, none⟩) l14).trans p2; have s3 := (hB12.cell (p := ⟨g14, 1, none⟩) l14).trans p3; have s4 := (hB12.cell (p := ⟨0, 0, none⟩) l0).trans p4; have s5 := (hB12.cell (p := ⟨0, 1, none⟩) l0).trans p5; have g0_12 : (heapF v12).cell ⟨0, 0, none⟩ = some (.int .i64 0) := s4; have g1_12 : (heapF v12).cell ⟨0, 1, none⟩ = some (.int .i64 0) := s5)
      | (go_at_call 11; refine (stwo_w (by first | exact sat_heapF v10 | exact (sat_heapF v10).drew) 14 lo hi (.leaf (nSp 1 0 0)) TA (by first | omega | (simp only [Tr.size]; omega)) (by first | omega | (simp only [Tr.size]; omega)) (some ⟨gyes, 0, none⟩) Aa 1 1 na ca (HNyes.out.cle ((sat_heapF V).below hB10).cle) (HNa.out.cle ((sat_heapF V).below hB10).cle)).mono ?_; rintro e v11 ⟨Az1, cz1, rfl, hcz1, hNz1, hbx11⟩; rw [HLnz1.out] at hcz1 hNz1; rw [HLnz1.out]; have hb11 : Below v10.heap.size v10 v11 := (by first | exact hbx11 | exact bel_eqv0 hbx11); have hB11 : Below V.heap.size V v11 := bthen hB10 hb11; have s0 := (hB11.cell (p := ⟨g11, 0, none⟩) l11).trans p0; have s1 := (hB11.cell (p := ⟨g11, 1, none⟩) l11).trans p1; have s2 := (hB11.cell (p := ⟨g14, 0, none⟩) l14).trans p2; have s3 := (hB11.cell (p := ⟨g14, 1, none⟩) l14).trans p3; have s4 := (hB11.cell (p := ⟨0, 0, none⟩) l0).trans p4; have s5 := (hB11.cell (p := ⟨0, 1, none⟩) l0).trans p5; have g0_11 : (heapF v11).cell ⟨0, 0, none⟩ = some (.int .i64 0) := s4; have g1_11 : (heapF v11).cell ⟨0, 1, none⟩ = some (.int .i64 0) := s5)
      | (go_at_call 8; refine (lalike_w (by first | exact sat_heapF v9 | exact (sat_heapF v9).drew) namesM es An 3 cn Ae ne ce (HTR.out.cle ((sat_heapF V).below hB9).cle) (.un (nSp 13 lo hi) TA) (.un (nSp 4 0 0) (.un (nSp 12 lo hi) (.un (nSp 4 0 0) TA))) HVy1.out HVy4.out HRy1.out HRy4.out (by first | omega | (simp only [Tr.size]; omega)) (by first | omega | (simp only [Tr.size]; omega)) (fun i hlt => (dual_all _ lo hi TA i).symm) Ay1 Ay4 ny1 cy1 ny4 cy4 hcy1 hcy4 (hNy1.cle ((sat_heapF v6).below (bthen (bthen hb7 hb8) hb9)).cle) hNy4).mono ?_; rintro e v10 ⟨rfl, hbx10⟩; have hb10 : Below v9.heap.size v9 v10 := (by first | exact hbx10 | exact bel_eqv0 hbx10); have hB10 : Below V.heap.size V v10 := bthen hB9 hb10; have s0 := (hB10.cell (p := ⟨g11, 0, none⟩) l11).trans p0; have s1 := (hB10.cell (p := ⟨g11, 1, none⟩) l11).trans p1; have s2 := (hB10.cell (p := ⟨g14, 0, none⟩) l14).trans p2; have s3 := (hB10.cell (p := ⟨g14, 1, none⟩) l14).trans p3; have s4 := (hB10.cell (p := ⟨0, 0, none⟩) l0).trans p4; have s5 := (hB10.cell (p := ⟨0, 1, none⟩) l0).trans p5; have g0_10 : (heapF v10).cell ⟨0, 0, none⟩ = some (.int .i64 0) := s4; have g1_10 : (heapF v10).cell ⟨0, 1, none⟩ = some (.int .i64 0) := s5)
      | (go_at_call 10; refine (snot_w (by first | exact sat_heapF v8 | exact (sat_heapF v8).drew) g0_8 g1_8 (.un (nSp 12 lo hi) (.un (nSp 4 0 0) TA)) (by first | omega | (simp only [Tr.size]; omega)) Ay3 ny3 cy3 hNy3).mono ?_; rintro e v9 ⟨Ay4, cy4, rfl, hcy4, hNy4, hbx9⟩; rw [HLny4.out] at hcy4 hNy4; rw [HLny4.out]; have hb9 : Below v8.heap.size v8 v9 := (by first | exact hbx9 | exact bel_eqv0 hbx9); have hB9 : Below V.heap.size V v9 := bthen hB8 hb9; have s0 := (hB9.cell (p := ⟨g11, 0, none⟩) l11).trans p0; have s1 := (hB9.cell (p := ⟨g11, 1, none⟩) l11).trans p1; have s2 := (hB9.cell (p := ⟨g14, 0, none⟩) l14).trans p2; have s3 := (hB9.cell (p := ⟨g14, 1, none⟩) l14).trans p3; have s4 := (hB9.cell (p := ⟨0, 0, none⟩) l0).trans p4; have s5 := (hB9.cell (p := ⟨0, 1, none⟩) l0).trans p5; have g0_9 : (heapF v9).cell ⟨0, 0, none⟩ = some (.int .i64 0) := s4; have g1_9 : (heapF v9).cell ⟨0, 1, none⟩ = some (.int .i64 0) := s5)
      | (go_at_call 9; refine (sone_w (by first | exact sat_heapF v7 | exact (sat_heapF v7).drew) 12 lo hi (.un (nSp 4 0 0) TA) (by first | omega | (simp only [Tr.size]; omega)) Ay2 ny2 cy2 hNy2).mono ?_; rintro e v8 ⟨Ay3, cy3, rfl, hcy3, hNy3, hbx8⟩; rw [HLny3.out] at hcy3 hNy3; rw [HLny3.out]; have hb8 : Below v7.heap.size v7 v8 := (by first | exact hbx8 | exact bel_eqv0 hbx8); have hB8 : Below V.heap.size V v8 := bthen hB7 hb8; have s0 := (hB8.cell (p := ⟨g11, 0, none⟩) l11).trans p0; have s1 := (hB8.cell (p := ⟨g11, 1, none⟩) l11).trans p1; have s2 := (hB8.cell (p := ⟨g14, 0, none⟩) l14).trans p2; have s3 := (hB8.cell (p := ⟨g14, 1, none⟩) l14).trans p3; have s4 := (hB8.cell (p := ⟨0, 0, none⟩) l0).trans p4; have s5 := (hB8.cell (p := ⟨0, 1, none⟩) l0).trans p5; have g0_8 : (heapF v8).cell ⟨0, 0, none⟩ = some (.int .i64 0) := s4; have g1_8 : (heapF v8).cell ⟨0, 1, none⟩ = some (.int .i64 0) := s5)
      | (go_at_call 10; refine (snot_w (by first | exact sat_heapF v6 | exact (sat_heapF v6).drew) g0_6 g1_6 TA (by first | omega | (simp only [Tr.size]; omega)) Aa na ca (HNa.out.cle ((sat_heapF V).below hB6).cle)).mono ?_; rintro e v7 ⟨Ay2, cy2, rfl, hcy2, hNy2, hbx7⟩; rw [HLny2.out] at hcy2 hNy2; rw [HLny2.out]; have hb7 : Below v6.heap.size v6 v7 := (by first | exact hbx7 | exact bel_eqv0 hbx7); have hB7 : Below V.heap.size V v7 := bthen hB6 hb7; have s0 := (hB7.cell (p := ⟨g11, 0, none⟩) l11).trans p0; have s1 := (hB7.cell (p := ⟨g11, 1, none⟩) l11).trans p1; have s2 := (hB7.cell (p := ⟨g14, 0, none⟩) l14).trans p2; have s3 := (hB7.cell (p := ⟨g14, 1, none⟩) l14).trans p3; have s4 := (hB7.cell (p := ⟨0, 0, none⟩) l0).trans p4; have s5 := (hB7.cell (p := ⟨0, 1, none⟩) l0).trans p5; have g0_7 : (heapF v7).cell ⟨0, 0, none⟩ = some (.int .i64 0) := s4; have g1_7 : (heapF v7).cell ⟨0, 1, none⟩ = some (.int .i64 0) := s5)
      | (go_at_call 9; refine (sone_w (by first | exact sat_heapF v5 | exact (sat_heapF v5).drew) 13 lo hi TA (by first | omega | (simp only [Tr.size]; omega)) Aa na ca (HNa.out.cle ((sat_heapF V).below hB5).cle)).mono ?_; rintro e v6 ⟨Ay1, cy1, rfl, hcy1, hNy1, hbx6⟩; rw [HLny1.out] at hcy1 hNy1; rw [HLny1.out]; have hb6 : Below v5.heap.size v5 v6 := (by first | exact hbx6 | exact bel_eqv0 hbx6); have hB6 : Below V.heap.size V v6 := bthen hB5 hb6; have s0 := (hB6.cell (p := ⟨g11, 0, none⟩) l11).trans p0; have s1 := (hB6.cell (p := ⟨g11, 1, none⟩) l11).trans p1; have s2 := (hB6.cell (p := ⟨g14, 0, none⟩) l14).trans p2; have s3 := (hB6.cell (p := ⟨g14, 1, none⟩) l14).trans p3; have s4 := (hB6.cell (p := ⟨0, 0, none⟩) l0).trans p4; have s5 := (hB6.cell (p := ⟨0, 1, none⟩) l0).trans p5; have g0_6 : (heapF v6).cell ⟨0, 0, none⟩ = some (.int .i64 0) := s4; have g1_6 : (heapF v6).cell ⟨0, 1, none⟩ = some (.int .i64 0) := s5)
      | (go_at_call 8; refine (lalike_w (by first | exact sat_heapF v4 | exact (sat_heapF v4).drew) namesM es An 3 cn Ae ne ce (HTR.out.cle ((sat_heapF V).below hB4).cle) (.un (nSp 11 lo hi) TA) (.un (nSp 4 0 0) (.un (nSp 10 lo hi) (.un (nSp 4 0 0) TA))) HVx1.out HVx4.out HRx1.out HRx4.out (by first | omega | (simp only [Tr.size]; omega)) (by first | omega | (simp only [Tr.size]; omega)) (fun i hlt => (dual_hist _ lo hi TA i).symm) Ax1 Ax4 nx1 cx1 nx4 cx4 hcx1 hcx4 (hNx1.cle ((sat_heapF v1).below (bthen (bthen hb2 hb3) hb4)).cle) hNx4).mono ?_; rintro e v5 ⟨rfl, hbx5⟩; have hb5 : Below v4.heap.size v4 v5 := (by first | exact hbx5 | exact bel_eqv0 hbx5); have hB5 : Below V.heap.size V v5 := bthen hB4 hb5; have s0 := (hB5.cell (p := ⟨g11, 0, none⟩) l11).trans p0; have s1 := (hB5.cell (p := ⟨g11, 1, none⟩) l11).trans p1; have s2 := (hB5.cell (p := ⟨g14, 0, none⟩) l14).trans p2; have s3 := (hB5.cell (p := ⟨g14, 1, none⟩) l14).trans p3; have s4 := (hB5.cell (p := ⟨0, 0, none⟩) l0).trans p4; have s5 := (hB5.cell (p := ⟨0, 1, none⟩) l0).trans p5; have g0_5 : (heapF v5).cell ⟨0, 0, none⟩ = some (.int .i64 0) := s4; have g1_5 : (heapF v5).cell ⟨0, 1, none⟩ = some (.int .i64 0) := s5)
      | (go_at_call 10; refine (snot_w (by first | exact sat_heapF v3 | exact (sat_heapF v3).drew) g0_3 g1_3 (.un (nSp 10 lo hi) (.un (nSp 4 0 0) TA)) (by first | omega | (simp only [Tr.size]; omega)) Ax3 nx3 cx3 hNx3).mono ?_; rintro e v4 ⟨Ax4, cx4, rfl, hcx4, hNx4, hbx4⟩; rw [HLnx4.out] at hcx4 hNx4; rw [HLnx4.out]; have hb4 : Below v3.heap.size v3 v4 := (by first | exact hbx4 | exact bel_eqv0 hbx4); have hB4 : Below V.heap.size V v4 := bthen hB3 hb4; have s0 := (hB4.cell (p := ⟨g11, 0, none⟩) l11).trans p0; have s1 := (hB4.cell (p := ⟨g11, 1, none⟩) l11).trans p1; have s2 := (hB4.cell (p := ⟨g14, 0, none⟩) l14).trans p2; have s3 := (hB4.cell (p := ⟨g14, 1, none⟩) l14).trans p3; have s4 := (hB4.cell (p := ⟨0, 0, none⟩) l0).trans p4; have s5 := (hB4.cell (p := ⟨0, 1, none⟩) l0).trans p5; have g0_4 : (heapF v4).cell ⟨0, 0, none⟩ = some (.int .i64 0) := s4; have g1_4 : (heapF v4).cell ⟨0, 1, none⟩ = some (.int .i64 0) := s5)
      | (go_at_call 9; refine (sone_w (by first | exact sat_heapF v2 | exact (sat_heapF v2).drew) 10 lo hi (.un (nSp 4 0 0) TA) (by first | omega | (simp only [Tr.size]; omega)) Ax2 nx2 cx2 hNx2).mono ?_; rintro e v3 ⟨Ax3, cx3, rfl, hcx3, hNx3, hbx3⟩; rw [HLnx3.out] at hcx3 hNx3; rw [HLnx3.out]; have hb3 : Below v2.heap.size v2 v3 := (by first | exact hbx3 | exact bel_eqv0 hbx3); have hB3 : Below V.heap.size V v3 := bthen hB2 hb3; have s0 := (hB3.cell (p := ⟨g11, 0, none⟩) l11).trans p0; have s1 := (hB3.cell (p := ⟨g11, 1, none⟩) l11).trans p1; have s2 := (hB3.cell (p := ⟨g14, 0, none⟩) l14).trans p2; have s3 := (hB3.cell (p := ⟨g14, 1, none⟩) l14).trans p3; have s4 := (hB3.cell (p := ⟨0, 0, none⟩) l0).trans p4; have s5 := (hB3.cell (p := ⟨0, 1, none⟩) l0).trans p5; have g0_3 : (heapF v3).cell ⟨0, 0, none⟩ = some (.int .i64 0) := s4; have g1_3 : (heapF v3).cell ⟨0, 1, none⟩ = some (.int .i64 0) := s5)
      | (go_at_call 10; refine (snot_w (by first | exact sat_heapF v1 | exact (sat_heapF v1).drew) g0_1 g1_1 TA (by first | omega | (simp only [Tr.size]; omega)) Aa na ca (HNa.out.cle ((sat_heapF V).below hB1).cle)).mono ?_; rintro e v2 ⟨Ax2, cx2, rfl, hcx2, hNx2, hbx2⟩; rw [HLnx2.out] at hcx2 hNx2; rw [HLnx2.out]; have hb2 : Below v1.heap.size v1 v2 := (by first | exact hbx2 | exact bel_eqv0 hbx2); have hB2 : Below V.heap.size V v2 := bthen hB1 hb2; have s0 := (hB2.cell (p := ⟨g11, 0, none⟩) l11).trans p0; have s1 := (hB2.cell (p := ⟨g11, 1, none⟩) l11).trans p1; have s2 := (hB2.cell (p := ⟨g14, 0, none⟩) l14).trans p2; have s3 := (hB2.cell (p := ⟨g14, 1, none⟩) l14).trans p3; have s4 := (hB2.cell (p := ⟨0, 0, none⟩) l0).trans p4; have s5 := (hB2.cell (p := ⟨0, 1, none⟩) l0).trans p5; have g0_2 : (heapF v2).cell ⟨0, 0, none⟩ = some (.int .i64 0) := s4; have g1_2 : (heapF v2).cell ⟨0, 1, none⟩ = some (.int .i64 0) := s5)
      | (go_at_call 9; refine (sone_w (by first | exact sat_heapF V | exact (sat_heapF V).drew) 11 lo hi TA (by first | omega | (simp only [Tr.size]; omega)) Aa na ca HNa.out).mono ?_; rintro e v1 ⟨Ax1, cx1, rfl, hcx1, hNx1, hbx1⟩; rw [HLnx1.out] at hcx1 hNx1; rw [HLnx1.out]; have hb1 : Below V.heap.size V v1 := (by first | exact hbx1 | exact bel_eqv0 hbx1); have hB1 : Below V.heap.size V v1 := hb1; have s0 := (hB1.cell (p := ⟨g11, 0, none⟩) l11).trans p0; have s1 := (hB1.cell (p := ⟨g11, 1, none⟩) l11).trans p1; have s2 := (hB1.cell (p := ⟨g14, 0, none⟩) l14).trans p2; have s3 := (hB1.cell (p := ⟨g14, 1, none⟩) l14).trans p3; have s4 := (hB1.cell (p := ⟨0, 0, none⟩) l0).trans p4; have s5 := (hB1.cell (p := ⟨0, 1, none⟩) l0).trans p5; have g0_1 : (heapF v1).cell ⟨0, 0, none⟩ = some (.int .i64 0) := s4; have g1_1 : (heapF v1).cell ⟨0, 1, none⟩ = some (.int .i64 0) := s5)
    )
  all_goals
    go_wp2_with fail
    go_ret
    exact ⟨rfl, bthen HBV.out hB29⟩
end Go.Proofs.YtdbbooibkiicnaaDoor
