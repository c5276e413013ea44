/- The walk of the law SatUnwinds: printed by mkdual.py out of XSatUnwinds0.txt. -/
import Derived.Test.YtdbbooibkiicnaaDoorSatG
import Derived.Test.YtdbbooibkiicnaaDoorAw15
import Derived.Test.YtdbbooibkiicnaaDoorMk8E
import Derived.Test.YtdbbooibkiicnaaDoorBuild
set_option linter.unusedVariables false
set_option linter.unusedSimpArgs false
namespace Go.Proofs.YtdbbooibkiicnaaDoor
open Go.RowKit
set_option maxRecDepth 100000 in
set_option maxHeartbeats 8000000 in
theorem satUnwinds_c {F : Fz} {w : World} (hF : Sat F w) (G0 : F.cell ⟨0, 0, none⟩ = some (.int .i64 0)) (G1 : F.cell ⟨0, 1, none⟩ = some (.int .i64 0)) (s : Nat) (hs : s < 18446744073709551616) (ts ns ms rs : List Nat) (hts : ∀ k ∈ ts, k < 65536) (hns : ∀ k ∈ ns, k < 65536) (hms : ∀ k ∈ ms, k < 65536) (hrs : ∀ k ∈ rs, k < 65536)
    (A1 : Option Addr) (n1 c1 : Nat) (hr1 : Rd F 1 A1 n1 (ts.map encW)) (A2 : Option Addr) (n2 c2 : Nat) (hr2 : Rd F 1 A2 n2 (ns.map encW)) (A3 : Option Addr) (n3 c3 : Nat) (hr3 : Rd F 1 A3 n3 (ms.map encW)) (A4 : Option Addr) (n4 c4 : Nat) (hr4 : Rd F 1 A4 n4 (rs.map encW)) :
    Calls Tryd.prog 4 #[.int .u64 (s : Nat), .slice A1 n1 c1, .slice A2 n2 c2, .slice A3 n3 c3, .slice A4 n4 c4] w fun e w' => e = .returned (.bool true) ∧ Below w.heap.size w w' := by
  have HK8 := Lib.hid (mk8_w hF s hs ts hts A1 n1 c1 hr1)
  have HMA := Lib.hid (fun (X : World) (h : Sat F X) => make_w h ns hns A2 n2 c2 hr2 false (makeT false ns) rfl)
  have HMB := Lib.hid (fun (X : World) (h : Sat F X) => make_w h ms hms A3 n3 c3 hr3 false (makeT false ms) rfl)
  have HMR := Lib.hid (fun (X : World) (h : Sat F X) => reg5_w h rs hrs A4 n4 c4 hr4 false (regT false rs) rfl)
  have hsa := (make_size false ns).1
  have hsr := (make_size false rs).2
  obtain ⟨hvr, hrr, _⟩ := okR_iff.1 (make_ok false rs hrs).2
  obtain ⟨TR, hTR⟩ : ∃ T, regT false rs = T := ⟨_, rfl⟩
  rw [hTR] at HMR hsr hvr hrr
  obtain ⟨nr, hnr⟩ : ∃ n, (TR.flat 0).length = n := ⟨_, rfl⟩
  have HLnr := Lib.hid hnr
  have hsb := (make_size false ms).1
  obtain ⟨hva, hra, _⟩ := okF_iff.1 (make_ok false ns hns).1
  obtain ⟨hvb, hrb, _⟩ := okF_iff.1 (make_ok false ms hms).1
  obtain ⟨TA, hTA⟩ : ∃ T, makeT false ns = T := ⟨_, rfl⟩
  obtain ⟨TB, hTB⟩ : ∃ T, makeT false ms = T := ⟨_, rfl⟩
  rw [hTA] at HMA hsa hva hra
  rw [hTB] at HMB hsb hvb hrb
  obtain ⟨na, hna⟩ : ∃ n, (TA.flat 0).length = n := ⟨_, rfl⟩
  obtain ⟨nb, hnb⟩ : ∃ n, (TB.flat 0).length = n := ⟨_, rfl⟩
  have HLna := Lib.hid hna
  have HLnb := Lib.hid hnb
  obtain ⟨t0, ht0⟩ : ∃ t0, min s 9223372036854775808 = t0 := ⟨_, rfl⟩
  obtain ⟨es, hes⟩ : ∃ es, evM t0 (ts.take 60) = es := ⟨_, rfl⟩
  have hel : es.length ≤ 60 := by rw [← hes, length_evM, List.length_take]; omega
  have hem : mayT namesM es = true := by rw [← hes]; exact mayT_evM _ _
  have heid : ∀ e ∈ es, e.ids.length ≤ 3 := by rw [← hes]; exact evM_ids _ _
  rw [ht0, hes] at HK8
  obtain ⟨ne, hne⟩ : ∃ ne, es.length = ne := ⟨_, rfl⟩
  have HES := Lib.hid hne
  have HXN : Hid ((trcE namesM es).n = ne) := Lib.hid hne
  have HEM := Lib.hid hem
  have HEID := Lib.hid heid
  have hneb : ne ≤ 60 := by omega
  have hspz : spanS 0 (-1) = true := rfl
  obtain ⟨nut, hnut⟩ : ∃ n, n = ((.bin (nSp 15 0 (-1)) TA TB) : Tr).size := ⟨_, rfl⟩
  have HLnut : Hid ((Tr.flat ((.bin (nSp 15 0 (-1)) TA TB) : Tr) 0).length = nut) := Lib.hid (by rw [hnut, Tr.length_flat])
  clear hnut
  obtain ⟨nsi, hnsi⟩ : ∃ n, n = ((.bin (nSp 14 0 (-1)) TA TB) : Tr).size := ⟨_, rfl⟩
  have HLnsi : Hid ((Tr.flat ((.bin (nSp 14 0 (-1)) TA TB) : Tr) 0).length = nsi) := Lib.hid (by rw [hnsi, Tr.length_flat])
  clear hnsi
  obtain ⟨nso, hnso⟩ : ∃ n, n = ((.un (nSp 12 0 (-1)) TA) : Tr).size := ⟨_, rfl⟩
  have HLnso : Hid ((Tr.flat ((.un (nSp 12 0 (-1)) TA) : Tr) 0).length = nso) := Lib.hid (by rw [hnso, Tr.length_flat])
  clear hnso
  obtain ⟨noc, hnoc⟩ : ∃ n, n = ((.un (nSp 10 0 (-1)) TA) : Tr).size := ⟨_, rfl⟩
  have HLnoc : Hid ((Tr.flat ((.un (nSp 10 0 (-1)) TA) : Tr) 0).length = noc) := Lib.hid (by rw [hnoc, Tr.length_flat])
  clear hnoc
  obtain ⟨nm0, hnm0⟩ : ∃ n, n = ((.un (nSp 22 0 0) TR) : Tr).size := ⟨_, rfl⟩
  have HLnm0 : Hid ((Tr.flat ((.un (nSp 22 0 0) TR) : Tr) 0).length = nm0) := Lib.hid (by rw [hnm0, Tr.length_flat])
  clear hnm0
  obtain ⟨nm1, hnm1⟩ : ∃ n, n = ((.un (nSp 19 0 0) TB) : Tr).size := ⟨_, rfl⟩
  have HLnm1 : Hid ((Tr.flat ((.un (nSp 19 0 0) TB) : Tr) 0).length = nm1) := Lib.hid (by rw [hnm1, Tr.length_flat])
  clear hnm1
  obtain ⟨nmm, hnmm⟩ : ∃ n, n = ((.bin (nSp 21 0 0) (.un (nSp 22 0 0) TR) (.un (nSp 19 0 0) TB)) : Tr).size := ⟨_, rfl⟩
  have HLnmm : Hid ((Tr.flat ((.bin (nSp 21 0 0) (.un (nSp 22 0 0) TR) (.un (nSp 19 0 0) TB)) : Tr) 0).length = nmm) := Lib.hid (by rw [hnmm, Tr.length_flat])
  clear hnmm
  obtain ⟨nth, hnth⟩ : ∃ n, n = ((.bin (nSp 21 0 0) TR (.bin (nSp 21 0 0) (.un (nSp 22 0 0) TR) (.un (nSp 19 0 0) TB))) : Tr).size := ⟨_, rfl⟩
  have HLnth : Hid ((Tr.flat ((.bin (nSp 21 0 0) TR (.bin (nSp 21 0 0) (.un (nSp 22 0 0) TR) (.un (nSp 19 0 0) TB))) : Tr) 0).length = nth) := Lib.hid (by rw [hnth, Tr.length_flat])
  clear hnth
  obtain ⟨nfo, hnfo⟩ : ∃ n, n = ((.un (nSp 17 0 (-1)) (.bin (nSp 21 0 0) (.un (nSp 22 0 0) TR) (.un (nSp 19 0 0) TB))) : Tr).size := ⟨_, rfl⟩
  have HLnfo : Hid ((Tr.flat ((.un (nSp 17 0 (-1)) (.bin (nSp 21 0 0) (.un (nSp 22 0 0) TR) (.un (nSp 19 0 0) TB))) : Tr) 0).length = nfo) := Lib.hid (by rw [hnfo, Tr.length_flat])
  clear hnfo
  obtain ⟨ne1, hne1⟩ : ∃ n, n = ((.un (nSp 9 0 (-1)) (.bin (nSp 15 0 (-1)) TA TB)) : Tr).size := ⟨_, rfl⟩
  have HLne1 : Hid ((Tr.flat ((.un (nSp 9 0 (-1)) (.bin (nSp 15 0 (-1)) TA TB)) : Tr) 0).length = ne1) := Lib.hid (by rw [hne1, Tr.length_flat])
  clear hne1
  obtain ⟨ne2, hne2⟩ : ∃ n, n = ((.bin (nSp 5 0 0) TA (.un (nSp 9 0 (-1)) (.bin (nSp 15 0 (-1)) TA TB))) : Tr).size := ⟨_, rfl⟩
  have HLne2 : Hid ((Tr.flat ((.bin (nSp 5 0 0) TA (.un (nSp 9 0 (-1)) (.bin (nSp 15 0 (-1)) TA TB))) : Tr) 0).length = ne2) := Lib.hid (by rw [hne2, Tr.length_flat])
  clear hne2
  obtain ⟨ne3, hne3⟩ : ∃ n, n = ((.bin (nSp 6 0 0) TB (.bin (nSp 5 0 0) TA (.un (nSp 9 0 (-1)) (.bin (nSp 15 0 (-1)) TA TB)))) : Tr).size := ⟨_, rfl⟩
  have HLne3 : Hid ((Tr.flat ((.bin (nSp 6 0 0) TB (.bin (nSp 5 0 0) TA (.un (nSp 9 0 (-1)) (.bin (nSp 15 0 (-1)) TA TB)))) : Tr) 0).length = ne3) := Lib.hid (by rw [hne3, Tr.length_flat])
  clear hne3
  obtain ⟨nf1, hnf1⟩ : ∃ n, n = ((.un (nSp 8 0 (-1)) (.bin (nSp 14 0 (-1)) TA TB)) : Tr).size := ⟨_, rfl⟩
  have HLnf1 : Hid ((Tr.flat ((.un (nSp 8 0 (-1)) (.bin (nSp 14 0 (-1)) TA TB)) : Tr) 0).length = nf1) := Lib.hid (by rw [hnf1, Tr.length_flat])
  clear hnf1
  obtain ⟨nf2, hnf2⟩ : ∃ n, n = ((.bin (nSp 5 0 0) TA (.un (nSp 8 0 (-1)) (.bin (nSp 14 0 (-1)) TA TB))) : Tr).size := ⟨_, rfl⟩
  have HLnf2 : Hid ((Tr.flat ((.bin (nSp 5 0 0) TA (.un (nSp 8 0 (-1)) (.bin (nSp 14 0 (-1)) TA TB))) : Tr) 0).length = nf2) := Lib.hid (by rw [hnf2, Tr.length_flat])
  clear hnf2
  obtain ⟨nf3, hnf3⟩ : ∃ n, n = ((.bin (nSp 6 0 0) TB (.bin (nSp 5 0 0) TA (.un (nSp 8 0 (-1)) (.bin (nSp 14 0 (-1)) TA TB)))) : Tr).size := ⟨_, rfl⟩
  have HLnf3 : Hid ((Tr.flat ((.bin (nSp 6 0 0) TB (.bin (nSp 5 0 0) TA (.un (nSp 8 0 (-1)) (.bin (nSp 14 0 (-1)) TA TB)))) : Tr) 0).length = nf3) := Lib.hid (by rw [hnf3, Tr.length_flat])
  clear hnf3
  obtain ⟨nh1, hnh1⟩ : ∃ n, n = ((.un (nSp 9 0 (-1)) (.un (nSp 12 0 (-1)) TA)) : Tr).size := ⟨_, rfl⟩
  have HLnh1 : Hid ((Tr.flat ((.un (nSp 9 0 (-1)) (.un (nSp 12 0 (-1)) TA)) : Tr) 0).length = nh1) := Lib.hid (by rw [hnh1, Tr.length_flat])
  clear hnh1
  obtain ⟨nh2, hnh2⟩ : ∃ n, n = ((.bin (nSp 6 0 0) TA (.un (nSp 9 0 (-1)) (.un (nSp 12 0 (-1)) TA))) : Tr).size := ⟨_, rfl⟩
  have HLnh2 : Hid ((Tr.flat ((.bin (nSp 6 0 0) TA (.un (nSp 9 0 (-1)) (.un (nSp 12 0 (-1)) TA))) : Tr) 0).length = nh2) := Lib.hid (by rw [hnh2, Tr.length_flat])
  clear hnh2
  obtain ⟨nj1, hnj1⟩ : ∃ n, n = ((.un (nSp 8 0 (-1)) (.un (nSp 10 0 (-1)) TA)) : Tr).size := ⟨_, rfl⟩
  have HLnj1 : Hid ((Tr.flat ((.un (nSp 8 0 (-1)) (.un (nSp 10 0 (-1)) TA)) : Tr) 0).length = nj1) := Lib.hid (by rw [hnj1, Tr.length_flat])
  clear hnj1
  obtain ⟨nj2, hnj2⟩ : ∃ n, n = ((.bin (nSp 6 0 0) TA (.un (nSp 8 0 (-1)) (.un (nSp 10 0 (-1)) TA))) : Tr).size := ⟨_, rfl⟩
  have HLnj2 : Hid ((Tr.flat ((.bin (nSp 6 0 0) TA (.un (nSp 8 0 (-1)) (.un (nSp 10 0 (-1)) TA))) : Tr) 0).length = nj2) := Lib.hid (by rw [hnj2, Tr.length_flat])
  clear hnj2
  obtain ⟨nk1, hnk1⟩ : ∃ n, n = ((.un (nSp 17 0 (-1)) (.bin (nSp 21 0 0) TR (.bin (nSp 21 0 0) (.un (nSp 22 0 0) TR) (.un (nSp 19 0 0) TB)))) : Tr).size := ⟨_, rfl⟩
  have HLnk1 : Hid ((Tr.flat ((.un (nSp 17 0 (-1)) (.bin (nSp 21 0 0) TR (.bin (nSp 21 0 0) (.un (nSp 22 0 0) TR) (.un (nSp 19 0 0) TB)))) : Tr) 0).length = nk1) := Lib.hid (by rw [hnk1, Tr.length_flat])
  clear hnk1
  obtain ⟨nk2, hnk2⟩ : ∃ n, n = ((.bin (nSp 6 0 0) TB (.un (nSp 17 0 (-1)) (.bin (nSp 21 0 0) TR (.bin (nSp 21 0 0) (.un (nSp 22 0 0) TR) (.un (nSp 19 0 0) TB))))) : Tr).size := ⟨_, rfl⟩
  have HLnk2 : Hid ((Tr.flat ((.bin (nSp 6 0 0) TB (.un (nSp 17 0 (-1)) (.bin (nSp 21 0 0) TR (.bin (nSp 21 0 0) (.un (nSp 22 0 0) TR) (.un (nSp 19 0 0) TB))))) : Tr) 0).length = nk2) := Lib.hid (by rw [hnk2, Tr.length_flat])
  clear hnk2
  have HVe3 : Hid (validT ((.bin (nSp 6 0 0) TB (.bin (nSp 5 0 0) TA (.un (nSp 9 0 (-1)) (.bin (nSp 15 0 (-1)) TA TB)))) : Tr) = true) := Lib.hid (v_bin (by decide) (by first | exact hra | exact hrb | exact hrr | rfl) (by first | exact hra | exact hrb | exact hrr | rfl) hvb (v_bin (by decide) (by first | exact hra | exact hrb | exact hrr | rfl) (by first | exact hra | exact hrb | exact hrr | rfl) hva (v_un (f_tim (by decide) (by decide) (by decide) hspz) (by first | exact hra | exact hrb | exact hrr | rfl) (v_bin (f_tim (by decide) (by decide) (by decide) hspz) (by first | exact hra | exact hrb | exact hrr | rfl) (by first | exact hra | exact hrb | exact hrr | rfl) hva hvb))))
  have HRe3 : Hid (regS ((.bin (nSp 6 0 0) TB (.bin (nSp 5 0 0) TA (.un (nSp 9 0 (-1)) (.bin (nSp 15 0 (-1)) TA TB)))) : Tr).root.kind = false) := Lib.hid rfl
  have HVf3 : Hid (validT ((.bin (nSp 6 0 0) TB (.bin (nSp 5 0 0) TA (.un (nSp 8 0 (-1)) (.bin (nSp 14 0 (-1)) TA TB)))) : Tr) = true) := Lib.hid (v_bin (by decide) (by first | exact hra | exact hrb | exact hrr | rfl) (by first | exact hra | exact hrb | exact hrr | rfl) hvb (v_bin (by decide) (by first | exact hra | exact hrb | exact hrr | rfl) (by first | exact hra | exact hrb | exact hrr | rfl) hva (v_un (f_tim (by decide) (by decide) (by decide) hspz) (by first | exact hra | exact hrb | exact hrr | rfl) (v_bin (f_tim (by decide) (by decide) (by decide) hspz) (by first | exact hra | exact hrb | exact hrr | rfl) (by first | exact hra | exact hrb | exact hrr | rfl) hva hvb))))
  have HRf3 : Hid (regS ((.bin (nSp 6 0 0) TB (.bin (nSp 5 0 0) TA (.un (nSp 8 0 (-1)) (.bin (nSp 14 0 (-1)) TA TB)))) : Tr).root.kind = false) := Lib.hid rfl
  have HVfo : Hid (validT ((.un (nSp 17 0 (-1)) (.bin (nSp 21 0 0) (.un (nSp 22 0 0) TR) (.un (nSp 19 0 0) TB))) : Tr) = true) := Lib.hid (v_un (f_tim (by decide) (by decide) (by decide) hspz) (by first | exact hra | exact hrb | exact hrr | rfl) (v_bin (by decide) (by first | exact hra | exact hrb | exact hrr | rfl) (by first | exact hra | exact hrb | exact hrr | rfl) (v_un (by decide) (by first | exact hra | exact hrb | exact hrr | rfl) hvr) (v_un (by decide) (by first | exact hra | exact hrb | exact hrr | rfl) hvb)))
  have HRfo : Hid (regS ((.un (nSp 17 0 (-1)) (.bin (nSp 21 0 0) (.un (nSp 22 0 0) TR) (.un (nSp 19 0 0) TB))) : Tr).root.kind = false) := Lib.hid rfl
  have HVh2 : Hid (validT ((.bin (nSp 6 0 0) TA (.un (nSp 9 0 (-1)) (.un (nSp 12 0 (-1)) TA))) : Tr) = true) := Lib.hid (v_bin (by decide) (by first | exact hra | exact hrb | exact hrr | rfl) (by first | exact hra | exact hrb | exact hrr | rfl) hva (v_un (f_tim (by decide) (by decide) (by decide) hspz) (by first | exact hra | exact hrb | exact hrr | rfl) (v_un (f_tim (by decide) (by decide) (by decide) hspz) (by first | exact hra | exact hrb | exact hrr | rfl) hva)))
  have HRh2 : Hid (regS ((.bin (nSp 6 0 0) TA (.un (nSp 9 0 (-1)) (.un (nSp 12 0 (-1)) TA))) : Tr).root.kind = false) := Lib.hid rfl
  have HVj2 : Hid (validT ((.bin (nSp 6 0 0) TA (.un (nSp 8 0 (-1)) (.un (nSp 10 0 (-1)) TA))) : Tr) = true) := Lib.hid (v_bin (by decide) (by first | exact hra | exact hrb | exact hrr | rfl) (by first | exact hra | exact hrb | exact hrr | rfl) hva (v_un (f_tim (by decide) (by decide) (by decide) hspz) (by first | exact hra | exact hrb | exact hrr | rfl) (v_un (f_tim (by decide) (by decide) (by decide) hspz) (by first | exact hra | exact hrb | exact hrr | rfl) hva)))
  have HRj2 : Hid (regS ((.bin (nSp 6 0 0) TA (.un (nSp 8 0 (-1)) (.un (nSp 10 0 (-1)) TA))) : Tr).root.kind = false) := Lib.hid rfl
  have HVk2 : Hid (validT ((.bin (nSp 6 0 0) TB (.un (nSp 17 0 (-1)) (.bin (nSp 21 0 0) TR (.bin (nSp 21 0 0) (.un (nSp 22 0 0) TR) (.un (nSp 19 0 0) TB))))) : Tr) = true) := Lib.hid (v_bin (by decide) (by first | exact hra | exact hrb | exact hrr | rfl) (by first | exact hra | exact hrb | exact hrr | rfl) hvb (v_un (f_tim (by decide) (by decide) (by decide) hspz) (by first | exact hra | exact hrb | exact hrr | rfl) (v_bin (by decide) (by first | exact hra | exact hrb | exact hrr | rfl) (by first | exact hra | exact hrb | exact hrr | rfl) hvr (v_bin (by decide) (by first | exact hra | exact hrb | exact hrr | rfl) (by first | exact hra | exact hrb | exact hrr | rfl) (v_un (by decide) (by first | exact hra | exact hrb | exact hrr | rfl) hvr) (v_un (by decide) (by first | exact hra | exact hrb | exact hrr | rfl) hvb)))))
  have HRk2 : Hid (regS ((.bin (nSp 6 0 0) TB (.un (nSp 17 0 (-1)) (.bin (nSp 21 0 0) TR (.bin (nSp 21 0 0) (.un (nSp 22 0 0) TR) (.un (nSp 19 0 0) TB))))) : Tr).root.kind = false) := Lib.hid rfl
  have HVoc : Hid (validT ((.un (nSp 10 0 (-1)) TA) : Tr) = true) := Lib.hid (v_un (f_tim (by decide) (by decide) (by decide) hspz) (by first | exact hra | exact hrb | exact hrr | rfl) hva)
  have HRoc : Hid (regS ((.un (nSp 10 0 (-1)) TA) : Tr).root.kind = false) := Lib.hid rfl
  have HVsi : Hid (validT ((.bin (nSp 14 0 (-1)) TA TB) : Tr) = true) := Lib.hid (v_bin (f_tim (by decide) (by decide) (by decide) hspz) (by first | exact hra | exact hrb | exact hrr | rfl) (by first | exact hra | exact hrb | exact hrr | rfl) hva hvb)
  have HRsi : Hid (regS ((.bin (nSp 14 0 (-1)) TA TB) : Tr).root.kind = false) := Lib.hid rfl
  have HVso : Hid (validT ((.un (nSp 12 0 (-1)) TA) : Tr) = true) := Lib.hid (v_un (f_tim (by decide) (by decide) (by decide) hspz) (by first | exact hra | exact hrb | exact hrr | rfl) hva)
  have HRso : Hid (regS ((.un (nSp 12 0 (-1)) TA) : Tr).root.kind = false) := Lib.hid rfl
  have HVut : Hid (validT ((.bin (nSp 15 0 (-1)) TA TB) : Tr) = true) := Lib.hid (v_bin (f_tim (by decide) (by decide) (by decide) hspz) (by first | exact hra | exact hrb | exact hrr | rfl) (by first | exact hra | exact hrb | exact hrr | rfl) hva hvb)
  have HRut : Hid (regS ((.bin (nSp 15 0 (-1)) TA TB) : Tr).root.kind = false) := Lib.hid rfl
  have HG0 := Lib.hid G0
  have HG1 := Lib.hid G1
  clear hr1 hr2 hr3 hr4 hts hns hms hrs hTA hTB hTR hna hnb hnr ht0 hes hel hem heid hne hspz hva hvb hra hrb hvr hrr G0 G1
  go_enter Tryd.func4, Tryd.ntmps4
  go_wp2_with fail
  go_at_call 5
  refine HK8.out.mono ?_
  rintro e w1 ⟨An, cn, ve, B, rfl, hcn, hNm, hO, hB, hAb, hb1⟩
  obtain ⟨Ae, ce, rfl, hce, hE, hAe⟩ := hO.done
  rw [HES.out] at hce hE
  rw [HES.out]
  rw [show namesM.length = 3 from rfl] at hcn hNm
  rw [show namesM.length = 3 from rfl]
  have HTR1 : Hid (TrF (heapF w1) namesM es An 3 cn Ae ne ce) := Lib.hid ⟨hcn, hNm, hE, fun e he => Nat.le_trans (HEID.out e he) (by omega), by omega, HEM.out⟩
  have hF1 := hF.below hb1
  clear hNm hO hB hAb hE hAe
  go_wp2_with fail
  go_at_call 6
  refine (HMA.out _ hF1).mono ?_
  rintro e w2 ⟨Aa, ca, F2, rfl, hca, hNa, hb2, hF2, _⟩
  rw [HLna.out] at hca hNa
  rw [HLna.out]
  have HNa2 := Lib.hid (hNa.cle hF2.cle)
  have hF1' := hF1.below hb2
  clear hNa hF2
  go_wp2_with fail
  go_at_call 6
  refine (HMB.out _ hF1').mono ?_
  rintro e w3 ⟨Ab, cb, F3, rfl, hcb, hNb, hb3, hF3, _⟩
  rw [HLnb.out] at hcb hNb
  rw [HLnb.out]
  have HNb3 := Lib.hid (hNb.cle hF3.cle)
  clear hNb hF3
  have hF1'' := hF1'.below hb3
  go_wp2_with fail
  go_at_call 13
  refine (HMR.out _ hF1'').mono ?_
  rintro e w4 ⟨Ar, cr, F4, rfl, hcr, hNr, hb4, hF4, _⟩
  rw [HLnr.out] at hcr hNr
  rw [HLnr.out]
  have HNr4 := Lib.hid (hNr.cle hF4.cle)
  clear hNr hF4
  obtain ⟨g11, hg11⟩ : ∃ g, g = w4.heap.size := ⟨_, rfl⟩
  obtain ⟨g14, hg14⟩ : ∃ g, g = g11 + 1 := ⟨_, rfl⟩
  obtain ⟨V, hV⟩ : ∃ V, V = (w4.alloc (.cells #[.slice An 3 cn, .slice Ae ne ce] 28)).alloc (.cells #[.int .i64 0, .int .i64 (-1)] 33) := ⟨_, rfl⟩
  have hBt : Blk V g11 28 #[.slice An 3 cn, .slice Ae ne ce] := by rw [hV, hg11]; exact (Blk.new _ _ _).alloc _
  have hBs : Blk V g14 33 #[.int .i64 0, .int .i64 (-1)] := by rw [hV, hg14, hg11]; exact Blk.new2 _ _ _ _
  have hb4V : Below w4.heap.size w4 V := by rw [hV]; exact (balloc _ _).alloc (by simp) _
  have hb3V := bthen hb4 hb4V
  have hb2V := bthen hb3 hb3V
  have hbV2 := bthen hb2 hb2V
  have hb1V := bthen hb1 hbV2
  have HBV := Lib.hid hb1V
  have HTR := Lib.hid (HTR1.out.cle ((sat_heapF w1).below hbV2).cle)
  have HNa := Lib.hid (HNa2.out.cle ((sat_heapF w2).below hb2V).cle)
  have HNb := Lib.hid (HNb3.out.cle ((sat_heapF w3).below hb3V).cle)
  have HNr := Lib.hid (HNr4.out.cle ((sat_heapF w4).below hb4V).cle)
  have hFV := hF.below hb1V
  have p4 := hFV.cell HG0.out
  have p5 := hFV.cell HG1.out
  have l0 : 0 < V.heap.size := hFV.clt HG0.out
  obtain ⟨p0, p1, _, _⟩ := blkA hBt
  obtain ⟨p2, p3, _, _⟩ := blkA hBs
  have l11 := hBt.lt
  have l14 := hBs.lt
  have g0_0 : (heapF V).cell ⟨0, 0, none⟩ = some (.int .i64 0) := p4
  have g1_0 : (heapF V).cell ⟨0, 1, none⟩ = some (.int .i64 0) := p5
  go_wp2_with fail
  rw [← hV, ← hg11, ← hg14]
  clear hV hg11 hg14 hBs hBt hb4V hb3V hb2V hbV2 hb1V hb1 hb2 hb3 hb4 hF1 hF1' hF1'' hFV
  (try simp only [List.append_eq, List.cons_append, List.nil_append])
  go_region_held3 (fun w' => w'.cell? ⟨g11, 0, none⟩ = some (.slice An 3 cn) ∧ w'.cell? ⟨g11, 1, none⟩ = some (.slice Ae ne ce) ∧ w'.cell? ⟨g14, 0, none⟩ = some (.int .i64 0) ∧ w'.cell? ⟨g14, 1, none⟩ = some (.int .i64 (-1)) ∧ w'.cell? ⟨0, 0, none⟩ = some (.int .i64 0) ∧ w'.cell? ⟨0, 1, none⟩ = some (.int .i64 0)) (first | exact ⟨s0, s1, s2, s3, s4, s5⟩ | exact ⟨p0, p1, p2, p3, p4, p5⟩ | go_keep)
    (first
      | (go_at_call 11; refine (stwo_w (by first | exact sat_heapF v1 | exact (sat_heapF v1).drew) 14 0 (-1) TA TB (by first | omega | (simp only [Tr.size]; omega)) (by first | omega | (simp only [Tr.size]; omega)) Aa Ab na ca nb cb (HNa.out.cle ((sat_heapF V).below hB1).cle) (HNb.out.cle ((sat_heapF V).below hB1).cle)).mono ?_; rintro e v2 ⟨Asi, csi, rfl, hcsi, hNsi, hbx2⟩; rw [HLnsi.out] at hcsi hNsi; rw [HLnsi.out]; have hb2 : Below v1.heap.size v1 v2 := (by first | exact hbx2 | exact bel_eqv0 hbx2); have hB2 : Below V.heap.size V v2 := bthen hB1 hb2; have s0 := (hB2.cell (p := ⟨g11, 0, none⟩) l11).trans p0; have s1 := (hB2.cell (p := ⟨g11, 1, none⟩) l11).trans p1; have s2 := (hB2.cell (p := ⟨g14, 0, none⟩) l14).trans p2; have s3 := (hB2.cell (p := ⟨g14, 1, none⟩) l14).trans p3; have s4 := (hB2.cell (p := ⟨0, 0, none⟩) l0).trans p4; have s5 := (hB2.cell (p := ⟨0, 1, none⟩) l0).trans p5; have g0_2 : (heapF v2).cell ⟨0, 0, none⟩ = some (.int .i64 0) := s4; have g1_2 : (heapF v2).cell ⟨0, 1, none⟩ = some (.int .i64 0) := s5)
      | (go_at_call 11; refine (stwo_w (by first | exact sat_heapF V | exact (sat_heapF V).drew) 15 0 (-1) TA TB (by first | omega | (simp only [Tr.size]; omega)) (by first | omega | (simp only [Tr.size]; omega)) Aa Ab na ca nb cb HNa.out HNb.out).mono ?_; rintro e v1 ⟨Aut, cut, rfl, hcut, hNut, hbx1⟩; rw [HLnut.out] at hcut hNut; rw [HLnut.out]; have hb1 : Below V.heap.size V v1 := (by first | exact hbx1 | exact bel_eqv0 hbx1); have hB1 : Below V.heap.size V v1 := hb1; have s0 := (hB1.cell (p := ⟨g11, 0, none⟩) l11).trans p0; have s1 := (hB1.cell (p := ⟨g11, 1, none⟩) l11).trans p1; have s2 := (hB1.cell (p := ⟨g14, 0, none⟩) l14).trans p2; have s3 := (hB1.cell (p := ⟨g14, 1, none⟩) l14).trans p3; have s4 := (hB1.cell (p := ⟨0, 0, none⟩) l0).trans p4; have s5 := (hB1.cell (p := ⟨0, 1, none⟩) l0).trans p5; have g0_1 : (heapF v1).cell ⟨0, 0, none⟩ = some (.int .i64 0) := s4; have g1_1 : (heapF v1).cell ⟨0, 1, none⟩ = some (.int .i64 0) := s5)
    )
  go_wp2_with fail
  (try simp only [List.append_eq, List.cons_append, List.nil_append])
  go_region_held3 (fun w' => w'.cell? ⟨g11, 0, none⟩ = some (.slice An 3 cn) ∧ w'.cell? ⟨g11, 1, none⟩ = some (.slice Ae ne ce) ∧ w'.cell? ⟨g14, 0, none⟩ = some (.int .i64 0) ∧ w'.cell? ⟨g14, 1, none⟩ = some (.int .i64 (-1)) ∧ w'.cell? ⟨0, 0, none⟩ = some (.int .i64 0) ∧ w'.cell? ⟨0, 1, none⟩ = some (.int .i64 0)) (first | exact ⟨s0, s1, s2, s3, s4, s5⟩ | exact ⟨p0, p1, p2, p3, p4, p5⟩ | go_keep)
    (first
      | (go_at_call 9; refine (sone_w (by first | exact sat_heapF v3 | exact (sat_heapF v3).drew) 10 0 (-1) TA (by first | omega | (simp only [Tr.size]; omega)) Aa na ca (HNa.out.cle ((sat_heapF V).below hB3).cle)).mono ?_; rintro e v4 ⟨Aoc, coc, rfl, hcoc, hNoc, hbx4⟩; rw [HLnoc.out] at hcoc hNoc; rw [HLnoc.out]; have hb4 : Below v3.heap.size v3 v4 := (by first | exact hbx4 | exact bel_eqv0 hbx4); have hB4 : Below V.heap.size V v4 := bthen hB3 hb4; have s0 := (hB4.cell (p := ⟨g11, 0, none⟩) l11).trans p0; have s1 := (hB4.cell (p := ⟨g11, 1, none⟩) l11).trans p1; have s2 := (hB4.cell (p := ⟨g14, 0, none⟩) l14).trans p2; have s3 := (hB4.cell (p := ⟨g14, 1, none⟩) l14).trans p3; have s4 := (hB4.cell (p := ⟨0, 0, none⟩) l0).trans p4; have s5 := (hB4.cell (p := ⟨0, 1, none⟩) l0).trans p5; have g0_4 : (heapF v4).cell ⟨0, 0, none⟩ = some (.int .i64 0) := s4; have g1_4 : (heapF v4).cell ⟨0, 1, none⟩ = some (.int .i64 0) := s5)
      | (go_at_call 9; refine (sone_w (by first | exact sat_heapF v2 | exact (sat_heapF v2).drew) 12 0 (-1) TA (by first | omega | (simp only [Tr.size]; omega)) Aa na ca (HNa.out.cle ((sat_heapF V).below hB2).cle)).mono ?_; rintro e v3 ⟨Aso, cso, rfl, hcso, hNso, hbx3⟩; rw [HLnso.out] at hcso hNso; rw [HLnso.out]; have hb3 : Below v2.heap.size v2 v3 := (by first | exact hbx3 | exact bel_eqv0 hbx3); have hB3 : Below V.heap.size V v3 := bthen hB2 hb3; have s0 := (hB3.cell (p := ⟨g11, 0, none⟩) l11).trans p0; have s1 := (hB3.cell (p := ⟨g11, 1, none⟩) l11).trans p1; have s2 := (hB3.cell (p := ⟨g14, 0, none⟩) l14).trans p2; have s3 := (hB3.cell (p := ⟨g14, 1, none⟩) l14).trans p3; have s4 := (hB3.cell (p := ⟨0, 0, none⟩) l0).trans p4; have s5 := (hB3.cell (p := ⟨0, 1, none⟩) l0).trans p5; have g0_3 : (heapF v3).cell ⟨0, 0, none⟩ = some (.int .i64 0) := s4; have g1_3 : (heapF v3).cell ⟨0, 1, none⟩ = some (.int .i64 0) := s5)
    )
  go_wp2_with fail
  go_at_call 9
  refine (sone_w (by first | exact sat_heapF v4 | exact (sat_heapF v4).drew) 22 0 0 TR (by first | omega | (simp only [Tr.size]; omega)) Ar nr cr (HNr.out.cle ((sat_heapF V).below hB4).cle)).mono ?_
  rintro e v5 ⟨Am0, cm0, rfl, hcm0, hNm0, hbx5⟩
  rw [HLnm0.out] at hcm0 hNm0
  rw [HLnm0.out]
  have hb5 : Below v4.heap.size v4 v5 := (by first | exact hbx5 | exact bel_eqv0 hbx5)
  have hB5 : Below V.heap.size V v5 := bthen hB4 hb5
  have s0 := (hB5.cell (p := ⟨g11, 0, none⟩) l11).trans p0
  have s1 := (hB5.cell (p := ⟨g11, 1, none⟩) l11).trans p1
  have s2 := (hB5.cell (p := ⟨g14, 0, none⟩) l14).trans p2
  have s3 := (hB5.cell (p := ⟨g14, 1, none⟩) l14).trans p3
  have s4 := (hB5.cell (p := ⟨0, 0, none⟩) l0).trans p4
  have s5 := (hB5.cell (p := ⟨0, 1, none⟩) l0).trans p5
  have g0_5 : (heapF v5).cell ⟨0, 0, none⟩ = some (.int .i64 0) := s4
  have g1_5 : (heapF v5).cell ⟨0, 1, none⟩ = some (.int .i64 0) := s5
  go_wp2_with fail
  (try simp only [List.append_eq, List.cons_append, List.nil_append])
  go_region_held3 (fun w' => w'.cell? ⟨g11, 0, none⟩ = some (.slice An 3 cn) ∧ w'.cell? ⟨g11, 1, none⟩ = some (.slice Ae ne ce) ∧ w'.cell? ⟨g14, 0, none⟩ = some (.int .i64 0) ∧ w'.cell? ⟨g14, 1, none⟩ = some (.int .i64 (-1)) ∧ w'.cell? ⟨0, 0, none⟩ = some (.int .i64 0) ∧ w'.cell? ⟨0, 1, none⟩ = some (.int .i64 0)) (first | exact ⟨s0, s1, s2, s3, s4, s5⟩ | exact ⟨p0, p1, p2, p3, p4, p5⟩ | go_keep)
    (first
      | (go_at_call 11; refine (stwo_w (by first | exact sat_heapF v6 | exact (sat_heapF v6).drew) 21 0 0 (.un (nSp 22 0 0) TR) (.un (nSp 19 0 0) TB) (by first | omega | (simp only [Tr.size]; omega)) (by first | omega | (simp only [Tr.size]; omega)) Am0 Am1 nm0 cm0 nm1 cm1 (hNm0.cle ((sat_heapF v5).below hb6).cle) hNm1).mono ?_; rintro e v7 ⟨Amm, cmm, rfl, hcmm, hNmm, hbx7⟩; rw [HLnmm.out] at hcmm hNmm; rw [HLnmm.out]; have hb7 : Below v6.heap.size v6 v7 := (by first | exact hbx7 | exact bel_eqv0 hbx7); have hB7 : Below V.heap.size V v7 := bthen hB6 hb7; have s0 := (hB7.cell (p := ⟨g11, 0, none⟩) l11).trans p0; have s1 := (hB7.cell (p := ⟨g11, 1, none⟩) l11).trans p1; have s2 := (hB7.cell (p := ⟨g14, 0, none⟩) l14).trans p2; have s3 := (hB7.cell (p := ⟨g14, 1, none⟩) l14).trans p3; have s4 := (hB7.cell (p := ⟨0, 0, none⟩) l0).trans p4; have s5 := (hB7.cell (p := ⟨0, 1, none⟩) l0).trans p5; have g0_7 : (heapF v7).cell ⟨0, 0, none⟩ = some (.int .i64 0) := s4; have g1_7 : (heapF v7).cell ⟨0, 1, none⟩ = some (.int .i64 0) := s5)
      | (go_at_call 9; refine (sone_w (by first | exact sat_heapF v5 | exact (sat_heapF v5).drew) 19 0 0 TB (by first | omega | (simp only [Tr.size]; omega)) Ab nb cb (HNb.out.cle ((sat_heapF V).below hB5).cle)).mono ?_; rintro e v6 ⟨Am1, cm1, rfl, hcm1, hNm1, hbx6⟩; rw [HLnm1.out] at hcm1 hNm1; rw [HLnm1.out]; have hb6 : Below v5.heap.size v5 v6 := (by first | exact hbx6 | exact bel_eqv0 hbx6); have hB6 : Below V.heap.size V v6 := bthen hB5 hb6; have s0 := (hB6.cell (p := ⟨g11, 0, none⟩) l11).trans p0; have s1 := (hB6.cell (p := ⟨g11, 1, none⟩) l11).trans p1; have s2 := (hB6.cell (p := ⟨g14, 0, none⟩) l14).trans p2; have s3 := (hB6.cell (p := ⟨g14, 1, none⟩) l14).trans p3; have s4 := (hB6.cell (p := ⟨0, 0, none⟩) l0).trans p4; have s5 := (hB6.cell (p := ⟨0, 1, none⟩) l0).trans p5; have g0_6 : (heapF v6).cell ⟨0, 0, none⟩ = some (.int .i64 0) := s4; have g1_6 : (heapF v6).cell ⟨0, 1, none⟩ = some (.int .i64 0) := s5)
    )
  go_wp2_with fail
  go_at_call 11
  refine (stwo_w (by first | exact sat_heapF v7 | exact (sat_heapF v7).drew) 21 0 0 TR (.bin (nSp 21 0 0) (.un (nSp 22 0 0) TR) (.un (nSp 19 0 0) TB)) (by first | omega | (simp only [Tr.size]; omega)) (by first | omega | (simp only [Tr.size]; omega)) Ar Amm nr cr nmm cmm (HNr.out.cle ((sat_heapF V).below hB7).cle) hNmm).mono ?_
  rintro e v8 ⟨Ath, cth, rfl, hcth, hNth, hbx8⟩
  rw [HLnth.out] at hcth hNth
  rw [HLnth.out]
  have hb8 : Below v7.heap.size v7 v8 := (by first | exact hbx8 | exact bel_eqv0 hbx8)
  have hB8 : Below V.heap.size V v8 := bthen hB7 hb8
  have s0 := (hB8.cell (p := ⟨g11, 0, none⟩) l11).trans p0
  have s1 := (hB8.cell (p := ⟨g11, 1, none⟩) l11).trans p1
  have s2 := (hB8.cell (p := ⟨g14, 0, none⟩) l14).trans p2
  have s3 := (hB8.cell (p := ⟨g14, 1, none⟩) l14).trans p3
  have s4 := (hB8.cell (p := ⟨0, 0, none⟩) l0).trans p4
  have s5 := (hB8.cell (p := ⟨0, 1, none⟩) l0).trans p5
  have g0_8 : (heapF v8).cell ⟨0, 0, none⟩ = some (.int .i64 0) := s4
  have g1_8 : (heapF v8).cell ⟨0, 1, none⟩ = some (.int .i64 0) := s5
  go_wp2_with fail
  go_at_call 9
  refine (sone_w (by first | exact sat_heapF v8 | exact (sat_heapF v8).drew) 17 0 (-1) (.bin (nSp 21 0 0) (.un (nSp 22 0 0) TR) (.un (nSp 19 0 0) TB)) (by first | omega | (simp only [Tr.size]; omega)) Amm nmm cmm (hNmm.cle ((sat_heapF v7).below hb8).cle)).mono ?_
  rintro e v9 ⟨Afo, cfo, rfl, hcfo, hNfo, hbx9⟩
  rw [HLnfo.out] at hcfo hNfo
  rw [HLnfo.out]
  have hb9 : Below v8.heap.size v8 v9 := (by first | exact hbx9 | exact bel_eqv0 hbx9)
  have hB9 : Below V.heap.size V v9 := bthen hB8 hb9
  have s0 := (hB9.cell (p := ⟨g11, 0, none⟩) l11).trans p0
  have s1 := (hB9.cell (p := ⟨g11, 1, none⟩) l11).trans p1
  have s2 := (hB9.cell (p := ⟨g14, 0, none⟩) l14).trans p2
  have s3 := (hB9.cell (p := ⟨g14, 1, none⟩) l14).trans p3
  have s4 := (hB9.cell (p := ⟨0, 0, none⟩) l0).trans p4
  have s5 := (hB9.cell (p := ⟨0, 1, none⟩) l0).trans p5
  have g0_9 : (heapF v9).cell ⟨0, 0, none⟩ = some (.int .i64 0) := s4
  have g1_9 : (heapF v9).cell ⟨0, 1, none⟩ = some (.int .i64 0) := s5
  go_wp2_with fail
  (try simp only [List.append_eq, List.cons_append, List.nil_append])
  go_region_held3 (fun w' => w'.cell? ⟨g11, 0, none⟩ = some (.slice An 3 cn) ∧ w'.cell? ⟨g11, 1, none⟩ = some (.slice Ae ne ce) ∧ w'.cell? ⟨g14, 0, none⟩ = some (.int .i64 0) ∧ w'.cell? ⟨g14, 1, none⟩ = some (.int .i64 (-1)) ∧ w'.cell? ⟨0, 0, none⟩ = some (.int .i64 0) ∧ w'.cell? ⟨0, 1, none⟩ = some (.int .i64 0)) (first | exact ⟨s0, s1, s2, s3, s4, s5⟩ | exact ⟨p0, p1, p2, p3, p4, p5⟩ | go_keep)
    (first
      | (go_at_call 12; refine (awake15_w _).mono ?_; rintro e v27 ⟨rfl, hbx27⟩; have hb27 : Below v26.heap.size v26 v27 := (by first | exact hbx27 | exact bel_eqv0 hbx27); have hB27 : Below V.heap.size V v27 := bthen hB26 hb27; have s0 := (hB27.cell (p := ⟨g11, 0, none⟩) l11).trans p0; have s1 := (hB27.cell (p := ⟨g11, 1, none⟩) l11).trans p1; have s2 := (hB27.cell (p := ⟨g14, 0, none⟩) l14).trans p2; have s3 := (hB27.cell (p := ⟨g14, 1, none⟩) l14).trans p3; have s4 := (hB27.cell (p := ⟨0, 0, none⟩) l0).trans p4; have s5 := (hB27.cell (p := ⟨0, 1, none⟩) l0).trans p5; have g0_27 : (heapF v27).cell ⟨0, 0, none⟩ = some (.int .i64 0) := s4; have g1_27 : (heapF v27).cell ⟨0, 1, none⟩ = some (.int .i64 0) := s5)
      | (go_at_call 8; refine (lalike_w (by first | exact sat_heapF v25 | exact (sat_heapF v25).drew) namesM es An 3 cn Ae ne ce (HTR.out.cle ((sat_heapF V).below hB25).cle) (.un (nSp 17 0 (-1)) (.bin (nSp 21 0 0) (.un (nSp 22 0 0) TR) (.un (nSp 19 0 0) TB))) (.bin (nSp 6 0 0) TB (.un (nSp 17 0 (-1)) (.bin (nSp 21 0 0) TR (.bin (nSp 21 0 0) (.un (nSp 22 0 0) TR) (.un (nSp 19 0 0) TB))))) HVfo.out HVk2.out HRfo.out HRk2.out (by first | omega | (simp only [Tr.size]; omega)) (by first | omega | (simp only [Tr.size]; omega)) (fun i hi => (wind_fore _ TR TB i (by rw [HXN.out]; exact hi)).symm) Afo Ak2 nfo cfo nk2 ck2 hcfo hck2 (hNfo.cle ((sat_heapF v9).below (bthen (bthen (bthen (bthen (bthen (bthen (bthen (bthen (bthen (bthen (bthen (bthen (bthen (bthen (bthen hb10 hb11) hb12) hb13) hb14) hb15) hb16) hb17) hb18) hb19) hb20) hb21) hb22) hb23) hb24) hb25)).cle) hNk2).mono ?_; rintro e v26 ⟨rfl, hbx26⟩; have hb26 : Below v25.heap.size v25 v26 := (by first | exact hbx26 | exact bel_eqv0 hbx26); have hB26 : Below V.heap.size V v26 := bthen hB25 hb26; have s0 := (hB26.cell (p := ⟨g11, 0, none⟩) l11).trans p0; have s1 := (hB26.cell (p := ⟨g11, 1, none⟩) l11).trans p1; have s2 := (hB26.cell (p := ⟨g14, 0, none⟩) l14).trans p2; have s3 := (hB26.cell (p := ⟨g14, 1, none⟩) l14).trans p3; have s4 := (hB26.cell (p := ⟨0, 0, none⟩) l0).trans p4; have s5 := (hB26.cell (p := ⟨0, 1, none⟩) l0).trans p5; have g0_26 : (heapF v26).cell ⟨0, 0, none⟩ = some (.int .i64 0) := s4; have g1_26 : (heapF v26).cell ⟨0, 1, none⟩ = some (.int .i64 0) := s5)
      | (go_at_call 11; refine (stwo_w (by first | exact sat_heapF v24 | exact (sat_heapF v24).drew) 6 0 0 TB (.un (nSp 17 0 (-1)) (.bin (nSp 21 0 0) TR (.bin (nSp 21 0 0) (.un (nSp 22 0 0) TR) (.un (nSp 19 0 0) TB)))) (by first | omega | (simp only [Tr.size]; omega)) (by first | omega | (simp only [Tr.size]; omega)) Ab Ak1 nb cb nk1 ck1 (HNb.out.cle ((sat_heapF V).below hB24).cle) hNk1).mono ?_; rintro e v25 ⟨Ak2, ck2, rfl, hck2, hNk2, hbx25⟩; rw [HLnk2.out] at hck2 hNk2; rw [HLnk2.out]; have hb25 : Below v24.heap.size v24 v25 := (by first | exact hbx25 | exact bel_eqv0 hbx25); have hB25 : Below V.heap.size V v25 := bthen hB24 hb25; have s0 := (hB25.cell (p := ⟨g11, 0, none⟩) l11).trans p0; have s1 := (hB25.cell (p := ⟨g11, 1, none⟩) l11).trans p1; have s2 := (hB25.cell (p := ⟨g14, 0, none⟩) l14).trans p2; have s3 := (hB25.cell (p := ⟨g14, 1, none⟩) l14).trans p3; have s4 := (hB25.cell (p := ⟨0, 0, none⟩) l0).trans p4; have s5 := (hB25.cell (p := ⟨0, 1, none⟩) l0).trans p5; have g0_25 : (heapF v25).cell ⟨0, 0, none⟩ = some (.int .i64 0) := s4; have g1_25 : (heapF v25).cell ⟨0, 1, none⟩ = some (.int .i64 0) := s5)
      | (go_at_call 9; refine (sone_w (by first | exact sat_heapF v23 | exact (sat_heapF v23).drew) 17 0 (-1) (.bin (nSp 21 0 0) TR (.bin (nSp 21 0 0) (.un (nSp 22 0 0) TR) (.un (nSp 19 0 0) TB))) (by first | omega | (simp only [Tr.size]; omega)) Ath nth cth (hNth.cle ((sat_heapF v8).below (bthen (bthen (bthen (bthen (bthen (bthen (bthen (bthen (bthen (bthen (bthen (bthen (bthen (bthen hb9 hb10) hb11) hb12) hb13) hb14) hb15) hb16) hb17) hb18) hb19) hb20) hb21) hb22) hb23)).cle)).mono ?_; rintro e v24 ⟨Ak1, ck1, rfl, hck1, hNk1, hbx24⟩; rw [HLnk1.out] at hck1 hNk1; rw [HLnk1.out]; have hb24 : Below v23.heap.size v23 v24 := (by first | exact hbx24 | exact bel_eqv0 hbx24); have hB24 : Below V.heap.size V v24 := bthen hB23 hb24; have s0 := (hB24.cell (p := ⟨g11, 0, none⟩) l11).trans p0; have s1 := (hB24.cell (p := ⟨g11, 1, none⟩) l11).trans p1; have s2 := (hB24.cell (p := ⟨g14, 0, none⟩) l14).trans p2; have s3 := (hB24.cell (p := ⟨g14, 1, none⟩) l14).trans p3; have s4 := (hB24.cell (p := ⟨0, 0, none⟩) l0).trans p4; have s5 := (hB24.cell (p := ⟨0, 1, none⟩) l0).trans p5; have g0_24 : (heapF v24).cell ⟨0, 0, none⟩ = some (.int .i64 0) := s4; have g1_24 : (heapF v24).cell ⟨0, 1, none⟩ = some (.int .i64 0) := s5)
      | (go_at_call 8; refine (lalike_w (by first | exact sat_heapF v22 | exact (sat_heapF v22).drew) namesM es An 3 cn Ae ne ce (HTR.out.cle ((sat_heapF V).below hB22).cle) (.un (nSp 10 0 (-1)) TA) (.bin (nSp 6 0 0) TA (.un (nSp 8 0 (-1)) (.un (nSp 10 0 (-1)) TA))) HVoc.out HVj2.out HRoc.out HRj2.out (by first | omega | (simp only [Tr.size]; omega)) (by first | omega | (simp only [Tr.size]; omega)) (fun i hi => (wind_once _ TA i).symm) Aoc Aj2 noc coc nj2 cj2 hcoc hcj2 (hNoc.cle ((sat_heapF v4).below (bthen (bthen (bthen (bthen (bthen (bthen (bthen (bthen (bthen (bthen (bthen (bthen (bthen (bthen (bthen (bthen (bthen hb5 hb6) hb7) hb8) hb9) hb10) hb11) hb12) hb13) hb14) hb15) hb16) hb17) hb18) hb19) hb20) hb21) hb22)).cle) hNj2).mono ?_; rintro e v23 ⟨rfl, hbx23⟩; have hb23 : Below v22.heap.size v22 v23 := (by first | exact hbx23 | exact bel_eqv0 hbx23); have hB23 : Below V.heap.size V v23 := bthen hB22 hb23; have s0 := (hB23.cell (p := ⟨g11, 0, none⟩) l11).trans p0; have s1 := (hB23.cell (p := ⟨g11, 1, none⟩) l11).trans p1; have s2 := (hB23.cell (p := ⟨g14, 0, none⟩) l14).trans p2; have s3 := (hB23.cell (p := ⟨g14, 1, none⟩) l14).trans p3; have s4 := (hB23.cell (p := ⟨0, 0, none⟩) l0).trans p4; have s5 := (hB23.cell (p := ⟨0, 1, none⟩) l0).trans p5; have g0_23 : (heapF v23).cell ⟨0, 0, none⟩ = some (.int .i64 0) := s4; have g1_23 : (heapF v23).cell ⟨0, 1, none⟩ = some (.int .i64 0) := s5)
      | (go_at_call 11; refine (stwo_w (by first | exact sat_heapF v21 | exact (sat_heapF v21).drew) 6 0 0 TA (.un (nSp 8 0 (-1)) (.un (nSp 10 0 (-1)) TA)) (by first | omega | (simp only [Tr.size]; omega)) (by first | omega | (simp only [Tr.size]; omega)) Aa Aj1 na ca nj1 cj1 (HNa.out.cle ((sat_heapF V).below hB21).cle) hNj1).mono ?_; rintro e v22 ⟨Aj2, cj2, rfl, hcj2, hNj2, hbx22⟩; rw [HLnj2.out] at hcj2 hNj2; rw [HLnj2.out]; have hb22 : Below v21.heap.size v21 v22 := (by first | exact hbx22 | exact bel_eqv0 hbx22); have hB22 : Below V.heap.size V v22 := bthen hB21 hb22; have s0 := (hB22.cell (p := ⟨g11, 0, none⟩) l11).trans p0; have s1 := (hB22.cell (p := ⟨g11, 1, none⟩) l11).trans p1; have s2 := (hB22.cell (p := ⟨g14, 0, none⟩) l14).trans p2; have s3 := (hB22.cell (p := ⟨g14, 1, none⟩) l14).trans p3; have s4 := (hB22.cell (p := ⟨0, 0, none⟩) l0).trans p4; have s5 := (hB22.cell (p := ⟨0, 1, none⟩) l0).trans p5; have g0_22 : (heapF v22).cell ⟨0, 0, none⟩ = some (.int .i64 0) := s4; have g1_22 : (heapF v22).cell ⟨0, 1, none⟩ = some (.int .i64 0) := s5)
      | (go_at_call 9; refine (sone_w (by first | exact sat_heapF v20 | exact (sat_heapF v20).drew) 8 0 (-1) (.un (nSp 10 0 (-1)) TA) (by first | omega | (simp only [Tr.size]; omega)) Aoc noc coc (hNoc.cle ((sat_heapF v4).below (bthen (bthen (bthen (bthen (bthen (bthen (bthen (bthen (bthen (bthen (bthen (bthen (bthen (bthen (bthen hb5 hb6) hb7) hb8) hb9) hb10) hb11) hb12) hb13) hb14) hb15) hb16) hb17) hb18) hb19) hb20)).cle)).mono ?_; rintro e v21 ⟨Aj1, cj1, rfl, hcj1, hNj1, hbx21⟩; rw [HLnj1.out] at hcj1 hNj1; rw [HLnj1.out]; have hb21 : Below v20.heap.size v20 v21 := (by first | exact hbx21 | exact bel_eqv0 hbx21); have hB21 : Below V.heap.size V v21 := bthen hB20 hb21; have s0 := (hB21.cell (p := ⟨g11, 0, none⟩) l11).trans p0; have s1 := (hB21.cell (p := ⟨g11, 1, none⟩) l11).trans p1; have s2 := (hB21.cell (p := ⟨g14, 0, none⟩) l14).trans p2; have s3 := (hB21.cell (p := ⟨g14, 1, none⟩) l14).trans p3; have s4 := (hB21.cell (p := ⟨0, 0, none⟩) l0).trans p4; have s5 := (hB21.cell (p := ⟨0, 1, none⟩) l0).trans p5; have g0_21 : (heapF v21).cell ⟨0, 0, none⟩ = some (.int .i64 0) := s4; have g1_21 : (heapF v21).cell ⟨0, 1, none⟩ = some (.int .i64 0) := s5)
      | (go_at_call 8; refine (lalike_w (by first | exact sat_heapF v19 | exact (sat_heapF v19).drew) namesM es An 3 cn Ae ne ce (HTR.out.cle ((sat_heapF V).below hB19).cle) (.un (nSp 12 0 (-1)) TA) (.bin (nSp 6 0 0) TA (.un (nSp 9 0 (-1)) (.un (nSp 12 0 (-1)) TA))) HVso.out HVh2.out HRso.out HRh2.out (by first | omega | (simp only [Tr.size]; omega)) (by first | omega | (simp only [Tr.size]; omega)) (fun i hi => (wind_some _ TA i (by rw [HXN.out]; exact hi)).symm) Aso Ah2 nso cso nh2 ch2 hcso hch2 (hNso.cle ((sat_heapF v3).below (bthen (bthen (bthen (bthen (bthen (bthen (bthen (bthen (bthen (bthen (bthen (bthen (bthen (bthen (bthen hb4 hb5) hb6) hb7) hb8) hb9) hb10) hb11) hb12) hb13) hb14) hb15) hb16) hb17) hb18) hb19)).cle) hNh2).mono ?_; rintro e v20 ⟨rfl, hbx20⟩; have hb20 : Below v19.heap.size v19 v20 := (by first | exact hbx20 | exact bel_eqv0 hbx20); have hB20 : Below V.heap.size V v20 := bthen hB19 hb20; have s0 := (hB20.cell (p := ⟨g11, 0, none⟩) l11).trans p0; have s1 := (hB20.cell (p := ⟨g11, 1, none⟩) l11).trans p1; have s2 := (hB20.cell (p := ⟨g14, 0, none⟩) l14).trans p2; have s3 := (hB20.cell (p := ⟨g14, 1, none⟩) l14).trans p3; have s4 := (hB20.cell (p := ⟨0, 0, none⟩) l0).trans p4; have s5 := (hB20.cell (p := ⟨0, 1, none⟩) l0).trans p5; have g0_20 : (heapF v20).cell ⟨0, 0, none⟩ = some (.int .i64 0) := s4; have g1_20 : (heapF v20).cell ⟨0, 1, none⟩ = some (.int .i64 0) := s5)
      | (go_at_call 11; refine (stwo_w (by first | exact sat_heapF v18 | exact (sat_heapF v18).drew) 6 0 0 TA (.un (nSp 9 0 (-1)) (.un (nSp 12 0 (-1)) TA)) (by first | omega | (simp only [Tr.size]; omega)) (by first | omega | (simp only [Tr.size]; omega)) Aa Ah1 na ca nh1 ch1 (HNa.out.cle ((sat_heapF V).below hB18).cle) hNh1).mono ?_; rintro e v19 ⟨Ah2, ch2, rfl, hch2, hNh2, hbx19⟩; rw [HLnh2.out] at hch2 hNh2; rw [HLnh2.out]; have hb19 : Below v18.heap.size v18 v19 := (by first | exact hbx19 | exact bel_eqv0 hbx19); have hB19 : Below V.heap.size V v19 := bthen hB18 hb19; have s0 := (hB19.cell (p := ⟨g11, 0, none⟩) l11).trans p0; have s1 := (hB19.cell (p := ⟨g11, 1, none⟩) l11).trans p1; have s2 := (hB19.cell (p := ⟨g14, 0, none⟩) l14).trans p2; have s3 := (hB19.cell (p := ⟨g14, 1, none⟩) l14).trans p3; have s4 := (hB19.cell (p := ⟨0, 0, none⟩) l0).trans p4; have s5 := (hB19.cell (p := ⟨0, 1, none⟩) l0).trans p5; have g0_19 : (heapF v19).cell ⟨0, 0, none⟩ = some (.int .i64 0) := s4; have g1_19 : (heapF v19).cell ⟨0, 1, none⟩ = some (.int .i64 0) := s5)
      | (go_at_call 9; refine (sone_w (by first | exact sat_heapF v17 | exact (sat_heapF v17).drew) 9 0 (-1) (.un (nSp 12 0 (-1)) TA) (by first | omega | (simp only [Tr.size]; omega)) Aso nso cso (hNso.cle ((sat_heapF v3).below (bthen (bthen (bthen (bthen (bthen (bthen (bthen (bthen (bthen (bthen (bthen (bthen (bthen hb4 hb5) hb6) hb7) hb8) hb9) hb10) hb11) hb12) hb13) hb14) hb15) hb16) hb17)).cle)).mono ?_; rintro e v18 ⟨Ah1, ch1, rfl, hch1, hNh1, hbx18⟩; rw [HLnh1.out] at hch1 hNh1; rw [HLnh1.out]; have hb18 : Below v17.heap.size v17 v18 := (by first | exact hbx18 | exact bel_eqv0 hbx18); have hB18 : Below V.heap.size V v18 := bthen hB17 hb18; have s0 := (hB18.cell (p := ⟨g11, 0, none⟩) l11).trans p0; have s1 := (hB18.cell (p := ⟨g11, 1, none⟩) l11).trans p1; have s2 := (hB18.cell (p := ⟨g14, 0, none⟩) l14).trans p2; have s3 := (hB18.cell (p := ⟨g14, 1, none⟩) l14).trans p3; have s4 := (hB18.cell (p := ⟨0, 0, none⟩) l0).trans p4; have s5 := (hB18.cell (p := ⟨0, 1, none⟩) l0).trans p5; have g0_18 : (heapF v18).cell ⟨0, 0, none⟩ = some (.int .i64 0) := s4; have g1_18 : (heapF v18).cell ⟨0, 1, none⟩ = some (.int .i64 0) := s5)
      | (go_at_call 8; refine (lalike_w (by first | exact sat_heapF v16 | exact (sat_heapF v16).drew) namesM es An 3 cn Ae ne ce (HTR.out.cle ((sat_heapF V).below hB16).cle) (.bin (nSp 14 0 (-1)) TA TB) (.bin (nSp 6 0 0) TB (.bin (nSp 5 0 0) TA (.un (nSp 8 0 (-1)) (.bin (nSp 14 0 (-1)) TA TB)))) HVsi.out HVf3.out HRsi.out HRf3.out (by first | omega | (simp only [Tr.size]; omega)) (by first | omega | (simp only [Tr.size]; omega)) (fun i hi => (wind_since _ TA TB i).symm) Asi Af3 nsi csi nf3 cf3 hcsi hcf3 (hNsi.cle ((sat_heapF v2).below (bthen (bthen (bthen (bthen (bthen (bthen (bthen (bthen (bthen (bthen (bthen (bthen (bthen hb3 hb4) hb5) hb6) hb7) hb8) hb9) hb10) hb11) hb12) hb13) hb14) hb15) hb16)).cle) hNf3).mono ?_; rintro e v17 ⟨rfl, hbx17⟩; have hb17 : Below v16.heap.size v16 v17 := (by first | exact hbx17 | exact bel_eqv0 hbx17); have hB17 : Below V.heap.size V v17 := bthen hB16 hb17; have s0 := (hB17.cell (p := ⟨g11, 0, none⟩) l11).trans p0; have s1 := (hB17.cell (p := ⟨g11, 1, none⟩) l11).trans p1; have s2 := (hB17.cell (p := ⟨g14, 0, none⟩) l14).trans p2; have s3 := (hB17.cell (p := ⟨g14, 1, none⟩) l14).trans p3; have s4 := (hB17.cell (p := ⟨0, 0, none⟩) l0).trans p4; have s5 := (hB17.cell (p := ⟨0, 1, none⟩) l0).trans p5; have g0_17 : (heapF v17).cell ⟨0, 0, none⟩ = some (.int .i64 0) := s4; have g1_17 : (heapF v17).cell ⟨0, 1, none⟩ = some (.int .i64 0) := s5)
      | (go_at_call 11; refine (stwo_w (by first | exact sat_heapF v15 | exact (sat_heapF v15).drew) 6 0 0 TB (.bin (nSp 5 0 0) TA (.un (nSp 8 0 (-1)) (.bin (nSp 14 0 (-1)) TA TB))) (by first | omega | (simp only [Tr.size]; omega)) (by first | omega | (simp only [Tr.size]; omega)) Ab Af2 nb cb nf2 cf2 (HNb.out.cle ((sat_heapF V).below hB15).cle) hNf2).mono ?_; rintro e v16 ⟨Af3, cf3, rfl, hcf3, hNf3, hbx16⟩; rw [HLnf3.out] at hcf3 hNf3; rw [HLnf3.out]; have hb16 : Below v15.heap.size v15 v16 := (by first | exact hbx16 | exact bel_eqv0 hbx16); have hB16 : Below V.heap.size V v16 := bthen hB15 hb16; have s0 := (hB16.cell (p := ⟨g11, 0, none⟩) l11).trans p0; have s1 := (hB16.cell (p := ⟨g11, 1, none⟩) l11).trans p1; have s2 := (hB16.cell (p := ⟨g14, 0, none⟩) l14).trans p2; have s3 := (hB16.cell (p := ⟨g14, 1, none⟩) l14).trans p3; have s4 := (hB16.cell (p := ⟨0, 0, none⟩) l0).trans p4; have s5 := (hB16.cell (p := ⟨0, 1, none⟩) l0).trans p5; have g0_16 : (heapF v16).cell ⟨0, 0, none⟩ = some (.int .i64 0) := s4; have g1_16 : (heapF v16).cell ⟨0, 1, none⟩ = some (.int .i64 0) := s5)
      | (go_at_call 11; refine (stwo_w (by first | exact sat_heapF v14 | exact (sat_heapF v14).drew) 5 0 0 TA (.un (nSp 8 0 (-1)) (.bin (nSp 14 0 (-1)) TA TB)) (by first | omega | (simp only [Tr.size]; omega)) (by first | omega | (simp only [Tr.size]; omega)) Aa Af1 na ca nf1 cf1 (HNa.out.cle ((sat_heapF V).below hB14).cle) hNf1).mono ?_; rintro e v15 ⟨Af2, cf2, rfl, hcf2, hNf2, hbx15⟩; rw [HLnf2.out] at hcf2 hNf2; rw [HLnf2.out]; have hb15 : Below v14.heap.size v14 v15 := (by first | exact hbx15 | exact bel_eqv0 hbx15); have hB15 : Below V.heap.size V v15 := bthen hB14 hb15; have s0 := (hB15.cell (p := ⟨g11, 0, none⟩) l11).trans p0; have s1 := (hB15.cell (p := ⟨g11, 1, none⟩) l11).trans p1; have s2 := (hB15.cell (p := ⟨g14, 0, none⟩) l14).trans p2; have s3 := (hB15.cell (p := ⟨g14, 1, none⟩) l14).trans p3; have s4 := (hB15.cell (p := ⟨0, 0, none⟩) l0).trans p4; have s5 := (hB15.cell (p := ⟨0, 1, none⟩) l0).trans p5; have g0_15 : (heapF v15).cell ⟨0, 0, none⟩ = some (.int .i64 0) := s4; have g1_15 : (heapF v15).cell ⟨0, 1, none⟩ = some (.int .i64 0) := s5)
      | (go_at_call 9; refine (sone_w (by first | exact sat_heapF v13 | exact (sat_heapF v13).drew) 8 0 (-1) (.bin (nSp 14 0 (-1)) TA TB) (by first | omega | (simp only [Tr.size]; omega)) Asi nsi csi (hNsi.cle ((sat_heapF v2).below (bthen (bthen (bthen (bthen (bthen (bthen (bthen (bthen (bthen (bthen hb3 hb4) hb5) hb6) hb7) hb8) hb9) hb10) hb11) hb12) hb13)).cle)).mono ?_; rintro e v14 ⟨Af1, cf1, rfl, hcf1, hNf1, hbx14⟩; rw [HLnf1.out] at hcf1 hNf1; rw [HLnf1.out]; have hb14 : Below v13.heap.size v13 v14 := (by first | exact hbx14 | exact bel_eqv0 hbx14); have hB14 : Below V.heap.size V v14 := bthen hB13 hb14; have s0 := (hB14.cell (p := ⟨g11, 0, none⟩) l11).trans p0; have s1 := (hB14.cell (p := ⟨g11, 1, none⟩) l11).trans p1; have s2 := (hB14.cell (p := ⟨g14, 0, none⟩) l14).trans p2; have s3 := (hB14.cell (p := ⟨g14, 1, none⟩) l14).trans p3; have s4 := (hB14.cell (p := ⟨0, 0, none⟩) l0).trans p4; have s5 := (hB14.cell (p := ⟨0, 1, none⟩) l0).trans p5; have g0_14 : (heapF v14).cell ⟨0, 0, none⟩ = some (.int .i64 0) := s4; have g1_14 : (heapF v14).cell ⟨0, 1, none⟩ = some (.int .i64 0) := s5)
      | (go_at_call 8; refine (lalike_w (by first | exact sat_heapF v12 | exact (sat_heapF v12).drew) namesM es An 3 cn Ae ne ce (HTR.out.cle ((sat_heapF V).below hB12).cle) (.bin (nSp 15 0 (-1)) TA TB) (.bin (nSp 6 0 0) TB (.bin (nSp 5 0 0) TA (.un (nSp 9 0 (-1)) (.bin (nSp 15 0 (-1)) TA TB)))) HVut.out HVe3.out HRut.out HRe3.out (by first | omega | (simp only [Tr.size]; omega)) (by first | omega | (simp only [Tr.size]; omega)) (fun i hi => (wind_until _ TA TB i (by rw [HXN.out]; exact hi)).symm) Aut Ae3 nut cut ne3 ce3 hcut hce3 (hNut.cle ((sat_heapF v1).below (bthen (bthen (bthen (bthen (bthen (bthen (bthen (bthen (bthen (bthen hb2 hb3) hb4) hb5) hb6) hb7) hb8) hb9) hb10) hb11) hb12)).cle) hNe3).mono ?_; rintro e v13 ⟨rfl, hbx13⟩; have hb13 : Below v12.heap.size v12 v13 := (by first | exact hbx13 | exact bel_eqv0 hbx13); have hB13 : Below V.heap.size V v13 := bthen hB12 hb13; have s0 := (hB13.cell (p := ⟨g11, 0, none⟩) l11).trans p0; have s1 := (hB13.cell (p := ⟨g11, 1, none⟩) l11).trans p1; have s2 := (hB13.cell (p := ⟨g14, 0, none⟩) l14).trans p2; have s3 := (hB13.cell (p := ⟨g14, 1, none⟩) l14).trans p3; have s4 := (hB13.cell (p := ⟨0, 0, none⟩) l0).trans p4; have s5 := (hB13.cell (p := ⟨0, 1, none⟩) l0).trans p5; have g0_13 : (heapF v13).cell ⟨0, 0, none⟩ = some (.int .i64 0) := s4; have g1_13 : (heapF v13).cell ⟨0, 1, none⟩ = some (.int .i64 0) := s5)
      | (go_at_call 11; refine (stwo_w (by first | exact sat_heapF v11 | exact (sat_heapF v11).drew) 6 0 0 TB (.bin (nSp 5 0 0) TA (.un (nSp 9 0 (-1)) (.bin (nSp 15 0 (-1)) TA TB))) (by first | omega | (simp only [Tr.size]; omega)) (by first | omega | (simp only [Tr.size]; omega)) Ab Ae2 nb cb ne2 ce2 (HNb.out.cle ((sat_heapF V).below hB11).cle) hNe2).mono ?_; rintro e v12 ⟨Ae3, ce3, rfl, hce3, hNe3, hbx12⟩; rw [HLne3.out] at hce3 hNe3; rw [HLne3.out]; have hb12 : Below v11.heap.size v11 v12 := (by first | exact hbx12 | exact bel_eqv0 hbx12); have hB12 : Below V.heap.size V v12 := bthen hB11 hb12; have s0 := (hB12.cell (p := ⟨g11, 0, none⟩) l11).trans p0; have s1 := (hB12.cell (p := ⟨g11, 1, none⟩) l11).trans p1; have s2 := (hB12.cell (p := ⟨g14, 0, none⟩) l14).trans p2; have s3 := (hB12.cell (p := ⟨g14, 1, none⟩) l14).trans p3; have s4 := (hB12.cell (p := ⟨0, 0, none⟩) l0).trans p4; have s5 := (hB12.cell (p := ⟨0, 1, none⟩) l0).trans p5; have g0_12 : (heapF v12).cell ⟨0, 0, none⟩ = some (.int .i64 0) := s4; have g1_12 : (heapF v12).cell ⟨0, 1, none⟩ = some (.int .i64 0) := s5)
      | (go_at_call 11; refine (stwo_w (by first | exact sat_heapF v10 | exact (sat_heapF v10).drew) 5 0 0 TA (.un (nSp 9 0 (-1)) (.bin (nSp 15 0 (-1)) TA TB)) (by first | omega | (simp only [Tr.size]; omega)) (by first | omega | (simp only [Tr.size]; omega)) Aa Ae1 na ca ne1 ce1 (HNa.out.cle ((sat_heapF V).below hB10).cle) hNe1).mono ?_; rintro e v11 ⟨Ae2, ce2, rfl, hce2, hNe2, hbx11⟩; rw [HLne2.out] at hce2 hNe2; rw [HLne2.out]; have hb11 : Below v10.heap.size v10 v11 := (by first | exact hbx11 | exact bel_eqv0 hbx11); have hB11 : Below V.heap.size V v11 := bthen hB10 hb11; have s0 := (hB11.cell (p := ⟨g11, 0, none⟩) l11).trans p0; have s1 := (hB11.cell (p := ⟨g11, 1, none⟩) l11).trans p1; have s2 := (hB11.cell (p := ⟨g14, 0, none⟩) l14).trans p2; have s3 := (hB11.cell (p := ⟨g14, 1, none⟩) l14).trans p3; have s4 := (hB11.cell (p := ⟨0, 0, none⟩) l0).trans p4; have s5 := (hB11.cell (p := ⟨0, 1, none⟩) l0).trans p5; have g0_11 : (heapF v11).cell ⟨0, 0, none⟩ = some (.int .i64 0) := s4; have g1_11 : (heapF v11).cell ⟨0, 1, none⟩ = some (.int .i64 0) := s5)
      | (go_at_call 9; refine (sone_w (by first | exact sat_heapF v9 | exact (sat_heapF v9).drew) 9 0 (-1) (.bin (nSp 15 0 (-1)) TA TB) (by first | omega | (simp only [Tr.size]; omega)) Aut nut cut (hNut.cle ((sat_heapF v1).below (bthen (bthen (bthen (bthen (bthen (bthen (bthen hb2 hb3) hb4) hb5) hb6) hb7) hb8) hb9)).cle)).mono ?_; rintro e v10 ⟨Ae1, ce1, rfl, hce1, hNe1, hbx10⟩; rw [HLne1.out] at hce1 hNe1; rw [HLne1.out]; have hb10 : Below v9.heap.size v9 v10 := (by first | exact hbx10 | exact bel_eqv0 hbx10); have hB10 : Below V.heap.size V v10 := bthen hB9 hb10; have s0 := (hB10.cell (p := ⟨g11, 0, none⟩) l11).trans p0; have s1 := (hB10.cell (p := ⟨g11, 1, none⟩) l11).trans p1; have s2 := (hB10.cell (p := ⟨g14, 0, none⟩) l14).trans p2; have s3 := (hB10.cell (p := ⟨g14, 1, none⟩) l14).trans p3; have s4 := (hB10.cell (p := ⟨0, 0, none⟩) l0).trans p4; have s5 := (hB10.cell (p := ⟨0, 1, none⟩) l0).trans p5; have g0_10 : (heapF v10).cell ⟨0, 0, none⟩ = some (.int .i64 0) := s4; have g1_10 : (heapF v10).cell ⟨0, 1, none⟩ = some (.int .i64 0) := s5)
    )
  all_goals
    go_wp2_with fail
    go_ret
    exact ⟨rfl, bthen HBV.out hB27⟩
end Go.Proofs.YtdbbooibkiicnaaDoor
