/- The walk of the law SatMade. -/
import Derived.Test.YtdbbooibkiicnaaGreatAll14
import Derived.Test.YtdbbooibkiicnaaGreatAddX
import Derived.Test.YtdbbooibkiicnaaGreatBuild
import Derived.Test.YtdbbooibkiicnaaGreatSatU
import Derived.Test.YtdbbooibkiicnaaGreatHand
set_option linter.unusedVariables false
set_option linter.unusedSimpArgs false
namespace Go.Proofs.YtdbbooibkiicnaaGreat
open Go.RowKit
attribute [local go_sem ↓] Go.wp_at_zero Go.wp_at_succ
theorem u64_nat4 {x : Int} (h : (Lit.int .u64 x).wf = true) : ∃ k : Nat, k < 18446744073709551616 ∧ x = (k : Int) := by
  simp [Lit.wf, IntKind.min, IntKind.max, IntKind.signed, IntKind.bits] at h
  exact ⟨x.toNat, by omega, by omega⟩
set_option maxRecDepth 100000 in
set_option maxHeartbeats 4000000 in
theorem satMade_c {F : Fz} {w : World} (hF : Sat F w) (s : Nat) (hs : s < 18446744073709551616) (i : Int) (ts ns : List Nat) (hts : ∀ k ∈ ts, k < 65536) (hns : ∀ k ∈ ns, k < 65536) (A1 : Option Addr) (n1 c1 : Nat) (hr1 : Rd F 1 A1 n1 (ts.map encW)) (A2 : Option Addr) (n2 c2 : Nat) (hr2 : Rd F 1 A2 n2 (ns.map encW)) :
    Calls Tryz.prog 6 #[.int .u64 (s : Nat), .slice A1 n1 c1, .slice A2 n2 c2, .int .i64 i] w fun e w' => e = .returned (.bool true) ∧ Below w.heap.size w w' := by
  have HK8 := Lib.hid (mk8_w hF s hs ts hts A1 n1 c1 hr1)
  have HM5 := Lib.hid (fun (X : World) (h : Sat F X) => make_w h ns hns A2 n2 c2 hr2 false (makeT false ns) rfl)
  have HR5 := Lib.hid (fun (X : World) (h : Sat F X) => reg5_w h ns hns A2 n2 c2 hr2 false (regT false ns) rfl)
  have hsz := (make_size false ns).1
  have hszr := (make_size false ns).2
  obtain ⟨hok, hokr⟩ := make_ok false ns hns
  obtain ⟨f, hf⟩ : ∃ f, (makeT false ns).flat 0 = f := ⟨_, rfl⟩
  obtain ⟨fr, hfr⟩ : ∃ fr, (regT false ns).flat 0 = fr := ⟨_, rfl⟩
  have hff : formL f = true := by rw [← hf]; exact (ok_form hok).1
  have hffr : formL fr = false := by rw [← hfr]; exact (ok_reg hokr).2.1
  rw [hf] at HM5
  rw [hfr] at HR5
  obtain ⟨N, hN⟩ : ∃ N, f.length = N := ⟨_, rfl⟩
  have hNb : N ≤ 100 := by rw [← hN, ← hf, Tr.length_flat]; exact hsz
  obtain ⟨Nr, hNr⟩ : ∃ Nr, fr.length = Nr := ⟨_, rfl⟩
  have hNrb : Nr ≤ 100 := by rw [← hNr, ← hfr, Tr.length_flat]; exact hszr
  obtain ⟨T, hT⟩ : ∃ T, treeS f = some T := by
    unfold formL at hff
    cases h : treeS f with
    | none => rw [h] at hff; cases hff
    | some T => exact ⟨T, rfl⟩
  have hreg : regS T.root.kind = false := by unfold formL at hff; rw [hT] at hff; simpa using hff
  have hval := tree_valid hT
  have hfT : f = T.flat 0 := tree_flat hT
  have hzT : T.size = N := by rw [← hN, hfT, Tr.length_flat]
  obtain ⟨t0, ht0⟩ : ∃ t0, min s 9223372036854775808 = t0 := ⟨_, rfl⟩
  obtain ⟨es, hes⟩ : ∃ es, evM t0 (ts.take 60) = es := ⟨_, rfl⟩
  have hel : es.length ≤ 60 := by rw [← hes, length_evM, List.length_take]; omega
  have hem : mayT namesM es = true := by rw [← hes]; exact mayT_evM _ _
  have heid : ∀ e ∈ es, e.ids.length ≤ 3 := by rw [← hes]; exact evM_ids _ _
  rw [ht0, hes] at HK8
  obtain ⟨ne, hne⟩ : ∃ ne, es.length = ne := ⟨_, rfl⟩
  have hneb : ne ≤ 60 := by omega
  have hid9 : ∀ e ∈ es, e.ids.length ≤ 1000000000 := fun e he => Nat.le_trans (heid e he) (by omega)
  obtain ⟨V, hV⟩ : ∃ V, satT (trcE namesM es) T = V := ⟨_, rfl⟩
  have hall : allA namesM es f = V := by unfold allA; rw [hT]; exact hV
  obtain ⟨B, hB⟩ : ∃ B, atA (decide (0 < ne)) ne V i = B := ⟨_, rfl⟩
  have HAU := Lib.hid (fun (G : Fz) (X : World) (h : Sat G X) (An : Option Addr) (cn : Nat) (hcn : 3 ≤ cn) (hNm : Rd G 1 An 3 (namesM.map Value.string)) (Ae : Option Addr) (ce : Nat) (hE : EvsF G Ae ne es) (Al : Option Addr) (cl : Nat) (hcl : N ≤ cl) (hl : NodesF G Al N f) => sAllU_w h namesM es hem An 3 cn hcn hNm Ae ne ce hE hid9 (by omega) hval hreg (by omega) Al N cl hcl (by rw [← hfT]; exact hl) V (fun i _ => by rw [hV]))
  have HAN := Lib.hid (fun (G : Fz) (X : World) (h : Sat G X) (An : Option Addr) (cn : Nat) (hcn : 3 ≤ cn) (hNm : Rd G 1 An 3 (namesM.map Value.string)) (Ae : Option Addr) (ce : Nat) (hE : EvsF G Ae ne es) (Al : Option Addr) (cl : Nat) (hl : NodesF G Al Nr fr) => sallNo_w h namesM es An 3 cn hcn hNm Ae ne ce hE hid9 (by omega) fr (by omega) Al Nr cl hl (by rw [okA, hffr]; simp))
  have HAT := Lib.hid (fun (G : Fz) (X : World) (h : Sat G X) (An : Option Addr) (cn : Nat) (hcn : 3 ≤ cn) (hNm : Rd G 1 An 3 (namesM.map Value.string)) (Ae : Option Addr) (ce : Nat) (hE : EvsF G Ae ne es) (Al : Option Addr) (cl : Nat) (hcl : N ≤ cl) (hl : NodesF G Al N f) => sAt_w h namesM es An 3 cn hcn hNm Ae ne ce hE hid9 (by omega) f (by omega) Al N cl hcl hl (decide (0 < ne)) (by rw [okA, hem, hff, hne]; rfl) V hall i B hB)
  have HRA := Lib.hid (fun (G : Fz) (X : World) (h : Sat G X) (An : Option Addr) (cn : Nat) (hcn : 3 ≤ cn) (hNm : Rd G 1 An 3 (namesM.map Value.string)) (Ae : Option Addr) (ce : Nat) (hE : EvsF G Ae ne es) (Al : Option Addr) (cl : Nat) (hcl : N ≤ cl) (hl : NodesF G Al N f) => hV ▸ all14Yes_w (ss := namesM) (es := es) (nn := 3) (ce := ce) h ⟨hcn, by omega, hNm, hE, hid9, by omega, hem⟩ f (by omega) Al N cl hcl hl hT hreg)
  have HES := Lib.hid hne
  have HFN := Lib.hid hN
  have HFR := Lib.hid hNr
  have HBA := Lib.hid hB
  have HF := Lib.hid hF
  have hnn : ((ne : Int) == (ne : Int)) = true := by simp
  clear hsz hszr hok hokr hff hffr hf hfr hT hreg hval hfT hzT ht0 hes hel hem heid hne hid9 hV hall hB hN hNr hr1 hr2 hts hns
  go_enter Tryz.func6, Tryz.ntmps6
  go_wp2_with (first
    | (go_at_call 26; refine HK8.out.mono ?_; rintro e w1 ⟨An, cn, ve, B1, rfl, hcn, hNm, hO, hB1, hAb, hb1⟩; obtain ⟨Ae, ce, rfl, hce, hE, hAe⟩ := hO.done; rw [HES.out] at hce hE; rw [HES.out]; rw [show namesM.length = 3 from rfl] at hcn hNm; rw [show namesM.length = 3 from rfl]; have hF1 := HF.out.below hb1)
    | (go_at_call 8; refine (HM5.out _ hF1).mono ?_; rintro e w2 ⟨A5, c5, F5, rfl, hc5, hN5, hb2, hF5, hle5⟩; rw [HFN.out] at hc5 hN5; rw [HFN.out]))
  have hb12 := bthen hb1 hb2
  have hs12 := (sat_heapF w1).below hb2
  have hE2 : EvsF (heapF w2) Ae ne es := hE.cle hs12.cle
  have hNm' : Rd (heapF w2) 1 An 3 (namesM.map Value.string) := hNm.heap hs12
  have hNd : NodesF (heapF w2) A5 N f := hN5.cle hF5.cle
  obtain ⟨gx, hgx⟩ : ∃ gx, gx = w2.heap.size := ⟨_, rfl⟩
  obtain ⟨W, hW⟩ : ∃ W, W = w2.alloc (.cells #[.slice An 3 cn, .slice Ae ne ce] 43) := ⟨_, rfl⟩
  have hBX : Blk W gx 43 #[.slice An 3 cn, .slice Ae ne ce] := by rw [hW, hgx]; exact Blk.new _ _ _
  have hbW : Below w2.heap.size w2 W := by rw [hW]; exact balloc _ _
  have hSW := (sat_heapF w2).below hbW
  have HEW := Lib.hid (hE2.cle hSW.cle)
  have HNW := Lib.hid (hNm'.heap hSW)
  have HDW := Lib.hid (hNd.cle hSW.cle)
  have HB := Lib.hid (bthen hb12 hbW)
  have HFW := Lib.hid ((HF.out.below hb12).below hbW)
  have HBX := Lib.hid hBX
  obtain ⟨x0, x1, _, _⟩ := blkA hBX
  have lx := hBX.lt
  rw [← hgx, ← hW]
  clear hE2 hNm' hNd hBX hb12 hs12 hE hNm hN5 hF5 hle5 hb1 hb2 hO hB1 hAb hAe hbW hSW hF1 hgx hW
  go_at_call 22
  refine (HRA.out (heapF W) W (sat_heapF W) An cn hcn HNW.out Ae ce HEW.out A5 c5 hc5 HDW.out).mono ?_
  rintro e w3 ⟨gr, rfl, hb3, hgr, hkr⟩
  have hS3 := (sat_heapF W).below hb3
  have HE3 := Lib.hid (HEW.out.cle hS3.cle)
  have HN3 := Lib.hid (HNW.out.cle hS3.cle)
  have HD3 := Lib.hid (HDW.out.cle hS3.cle)
  have HB3 := Lib.hid (bthen HB.out hb3)
  have HF3 := Lib.hid (HFW.out.below hb3)
  have HX3 := Lib.hid (HBX.out.call hb3)
  have HKR := Lib.hid hkr
  obtain ⟨x0, x1, _, _⟩ := blkA HX3.out
  have lx3 := HX3.out.lt
  have HS2 := Lib.hid (fun (X : World) (h : Below w3.heap.size w3 X) => And.intro ((h.cell (p := ⟨gx, 0, none⟩) lx3).trans x0) ((h.cell (p := ⟨gx, 1, none⟩) lx3).trans x1))
  clear hS3 hb3 hkr
  by_cases h0 : 0 ≤ i
  · obtain ⟨k, rfl⟩ : ∃ k : Nat, i = (k : Int) := ⟨i.toNat, by omega⟩
    by_cases h1 : k < ne
    · have hBV : V k = B := by
        have h := HBA.out
        unfold atA at h
        rw [decide_eq_true (show 0 < ne by omega), Bool.true_and, decide_eq_true (show (0 : Int) ≤ (k : Int) ∧ (k : Int) < (ne : Int) by omega), Bool.true_and, show ((k : Nat) : Int).toNat = k by omega] at h
        exact h
      have hmc : w3.cell? ⟨gr, k, none⟩ = some (.bool B) := by rw [HKR.out.cell, get_rowV h1, hBV]
      have hkI : (k : Int) < (ne : Int) := by omega
      have hkw : IntKind.i64.wrap (k : Int) = (k : Int) := by simp [IntKind.wrap, IntKind.bits, IntKind.signed]; omega
      have hlr := HKR.out.lt
      have HMC := Lib.hid (fun (X : World) (h : Below w3.heap.size w3 X) => (h.cell (p := ⟨gr, k, none⟩) hlr).trans hmc)
      clear hBV
      go_wp2_with fail
      (try simp only [List.append_eq, List.cons_append, List.nil_append])
      refine wp_region_noPanic ?_
      refine wp_region_held_drew (S := (fun w' => w'.cell? ⟨gx, 0, none⟩ = some (.slice An 3 cn) ∧ w'.cell? ⟨gx, 1, none⟩ = some (.slice Ae ne ce) ∧ w'.cell? ⟨gr, k, none⟩ = some (.bool B))) (by kernel_rfl) ?hS0 (fun hHeld => ?hR0)
      case hS0 => (try dsimp only); go_keep
      case hR0 =>
        refine tk 0 (h := ?_)
        try simp only [pn]
        refine tk 1 (h := ?_)
        try simp only [pn]
        refine tk 2 (h := ?_)
        try simp only [pn]
        refine tk 3 (h := ?_)
        try simp only [pn]
        refine tk 4 (h := ?_)
        try simp only [pn]
        refine tk 5 (h := ?_)
        try simp only [pn]
        refine tk 6 (h := ?_)
        try simp only [pn]
        refine tk 7 (h := ?_)
        try simp only [pn]
        refine tk 8 (h := ?_)
        try simp only [pn]
        refine tk 10 (h := ?_)
        try simp only [pn]
        refine wpAnyH_ready (rs := [9]) (by kernel_rfl) (by simp) ?_
        refine AllReadyH.cons (o := ?sO1) ?sA1 (fun K hK => ?sB1) ?sC1
        case sA1 => simp only [List.getElem?_toArray, List.getElem?_cons_succ, List.getElem?_cons_zero]; rfl
        case sB1 =>
          go_simp
          go_at_call 24; refine (HAU.out (heapF w3) _ (by first | exact sat_heapF w3 | exact (sat_heapF w3).drew) An cn hcn HN3.out Ae ce HE3.out A5 c5 hc5 HD3.out).mono ?_; rintro e v4 ⟨C4, rfl, hbx4, hc4⟩; have hb4 : Below w3.heap.size w3 v4 := (by first | exact hbx4 | exact bel_eqv0 hbx4); have hB4 : Below w3.heap.size w3 v4 := hb4; obtain ⟨s40, s41⟩ := HS2.out _ hB4; have sm4 := HMC.out _ hB4; have hq4 : BAt v4 C4 ne V := RetAllU.bat (by rcases hc4 with h | ⟨h0, g, e, _, hk⟩; exact .inl h; exact .inr ⟨h0, g, e, hk⟩); have hr4 := BAt.row (HKR.out.call hB4)
          try go_wp2_with fail
          refine hK.out _ _ ?kS1 (fun hHeld => ?kR1)
          case kS1 => (try dsimp only); go_keep
          case kR1 =>
            clear hK K
            try simp only [pn]
            refine wpAnyH_ready (rs := [11]) (by kernel_rfl) (by simp) ?_
            refine AllReadyH.cons (o := ?sO2) ?sA2 (fun K hK => ?sB2) ?sC2
            case sA2 => simp only [List.getElem?_toArray, List.getElem?_cons_succ, List.getElem?_cons_zero]; rfl
            case sB2 =>
              go_simp
              go_at_call 23; refine (equalV_w (n := ne) (r := V) (by omega) (by first | exact hq4 | exact (hq4).drew) (by first | exact hr4 | exact (hr4).drew)).mono ?_; rintro e v5 ⟨rfl, hbx5⟩; have hb5 : Below v4.heap.size v4 v5 := (by first | exact hbx5 | exact bel_eqv0 hbx5); have hB5 : Below w3.heap.size w3 v5 := bthen hB4 hb5; obtain ⟨s50, s51⟩ := HS2.out _ hB5; have sm5 := HMC.out _ hB5
              try go_wp2_with fail
              refine hK.out _ _ ?kS2 (fun hHeld => ?kR2)
              case kS2 => (try dsimp only); go_keep
              case kR2 =>
                clear hK K
                try simp only [pn]
                refine tk 12 (h := ?_)
                try simp only [pn]
                refine tk 13 (h := ?_)
                try simp only [pn]
                refine tk 14 (h := ?_)
                try simp only [pn]
                refine tk 15 (h := ?_)
                try simp only [pn]
                refine tk 16 (h := ?_)
                try simp only [pn]
                refine tk 18 (h := ?_)
                try simp only [pn]
                refine tk 19 (h := ?_)
                try simp only [pn]
                refine wpAnyH_ready (rs := [17]) (by kernel_rfl) (by simp) ?_
                refine AllReadyH.cons (o := ?sO3) ?sA3 (fun K hK => ?sB3) ?sC3
                case sA3 => simp only [List.getElem?_toArray, List.getElem?_cons_succ, List.getElem?_cons_zero]; rfl
                case sB3 =>
                  go_simp
                  go_at_call 25; refine (HAT.out (heapF w3) _ (by first | exact (sat_heapF w3).below hB5 | exact ((sat_heapF w3).below hB5).drew) An cn hcn HN3.out Ae ce HE3.out A5 c5 hc5 HD3.out).mono ?_; rintro e v6 ⟨rfl, hbx6⟩; have hb6 : Below v5.heap.size v5 v6 := (by first | exact hbx6 | exact bel_eqv0 hbx6); have hB6 : Below w3.heap.size w3 v6 := bthen hB5 hb6; obtain ⟨s60, s61⟩ := HS2.out _ hB6; have sm6 := HMC.out _ hB6
                  try go_wp2_with fail
                  refine hK.out _ _ ?kS3 (fun hHeld => ?kR3)
                  case kS3 => (try dsimp only); go_keep
                  case kR3 =>
                    clear hK K
                    try simp only [pn]
                    refine tk 20 (h := ?_)
                    try simp only [pn]
                    refine tk 21 (h := ?_)
                    try simp only [pn]
                    refine tk 22 (h := ?_)
                    try simp only [pn]
                    refine tk 23 (h := ?_)
                    try simp only [pn]
                    refine tk 24 (h := ?_)
                    try simp only [pn]
                    refine tk 25 (h := ?_)
                    try simp only [pn]
                    refine tk 26 (h := ?_)
                    try simp only [pn]
                    refine tk 27 (h := ?_)
                    try simp only [pn]
                    refine tk 28 (h := ?_)
                    try simp only [pn]
                    refine tk 29 (h := ?_)
                    try simp only [pn]
                    refine tk 30 (h := ?_)
                    try simp only [pn]
                    refine tk 31 (h := ?_)
                    try simp only [pn]
                    refine tk 32 (h := ?_)
                    try simp only [pn]
                    refine tk 33 (h := ?_)
                    try simp only [pn]
                    refine tk 34 (h := ?_)
                    try simp only [pn]
                    refine tk 35 (h := ?_)
                    try simp only [pn]
                    refine tk 36 (h := ?_)
                    try simp only [pn]
                    refine wpAnyH_ready (rs := [37]) (by kernel_rfl) (by simp) ?_
                    refine AllReadyH.cons (o := ?sO4) ?sA4 (fun K hK => ?sB4) ?sC4
                    case sA4 => simp only [List.getElem?_toArray, List.getElem?_cons_succ, List.getElem?_cons_zero]; rfl
                    case sB4 =>
                      go_simp
                      go_at_call 14; refine (HR5.out _ (by first | exact HF3.out.below hB6 | exact (HF3.out.below hB6).drew)).mono ?_; rintro e v7 ⟨Ar, cr, Fr, rfl, hcr, hNr7, hbx7, hFr7, _⟩; rw [HFR.out] at hcr hNr7; rw [HFR.out]; have hNr8 := hNr7.cle hFr7.cle; have hb7 : Below v6.heap.size v6 v7 := (by first | exact hbx7 | exact bel_eqv0 hbx7); have hB7 : Below w3.heap.size w3 v7 := bthen hB6 hb7; obtain ⟨s70, s71⟩ := HS2.out _ hB7; have sm7 := HMC.out _ hB7
                      try go_wp2_with fail
                      refine hK.out _ _ ?kS4 (fun hHeld => ?kR4)
                      case kS4 => (try dsimp only); go_keep
                      case kR4 =>
                        clear hK K
                        try simp only [pn]
                        refine wpAnyH_ready (rs := [38]) (by kernel_rfl) (by simp) ?_
                        refine AllReadyH.cons (o := ?sO5) ?sA5 (fun K hK => ?sB5) ?sC5
                        case sA5 => simp only [List.getElem?_toArray, List.getElem?_cons_succ, List.getElem?_cons_zero]; rfl
                        case sB5 =>
                          go_simp
                          go_at_call 24; refine (HAN.out (heapF v7) _ (by first | exact sat_heapF v7 | exact (sat_heapF v7).drew) An cn hcn (HN3.out.cle ((sat_heapF w3).below hB7).cle) Ae ce (HE3.out.cle ((sat_heapF w3).below hB7).cle) Ar cr hNr8).mono ?_; rintro e v8 ⟨rfl, hbx8⟩; have hb8 : Below v7.heap.size v7 v8 := (by first | exact hbx8 | exact bel_eqv0 hbx8); have hB8 : Below w3.heap.size w3 v8 := bthen hB7 hb8; obtain ⟨s80, s81⟩ := HS2.out _ hB8; have sm8 := HMC.out _ hB8
                          try go_wp2_with fail
                          refine hK.out _ _ ?kS5 (fun hHeld => ?kR5)
                          case kS5 => (try dsimp only); go_keep
                          case kR5 =>
                            clear hK K
                            try simp only [pn]
                            refine tk 39 (h := ?_)
                            try simp only [pn]
                            refine tk 40 (h := ?_)
                            try simp only [pn]
                            refine tk 41 (h := ?_)
                            try simp only [pn]
                            refine tk 42 (h := ?_)
                            try simp only [pn]
                            refine wpAnyH_ready (rs := [43]) (by kernel_rfl) (by simp) ?_
                            refine AllReadyH.cons (o := ?sO6) ?sA6 (fun K hK => ?sB6) ?sC6
                            case sA6 => simp only [List.getElem?_toArray, List.getElem?_cons_succ, List.getElem?_cons_zero]; rfl
                            case sB6 =>
                              go_simp
                              go_at_call 21; refine (awake15_w _).mono ?_; rintro e v9 ⟨rfl, hbx9⟩; have hb9 : Below v8.heap.size v8 v9 := (by first | exact hbx9 | exact bel_eqv0 hbx9); have hB9 : Below w3.heap.size w3 v9 := bthen hB8 hb9; obtain ⟨s90, s91⟩ := HS2.out _ hB9; have sm9 := HMC.out _ hB9
                              try go_wp2_with fail
                              refine hK.out _ _ ?kS6 (fun hHeld => ?kR6)
                              case kS6 => (try dsimp only); go_keep
                              case kR6 =>
                                clear hK K
                                try simp only [pn]
                                refine tk 44 (h := ?_)
                                try simp only [pn]
                                refine tk 45 (h := ?_)
                                try simp only [pn]
                                refine wpAnyH_done (by kernel_rfl) ?_ _
                                refine NoPanic.normal ?_
                                go_wp2_with fail
                                go_ret
                                exact ⟨rfl, bthen HB3.out hB9⟩
                            case sC6 =>
                              exact AllReadyH.nil
                        case sC5 =>
                          exact AllReadyH.nil
                    case sC4 =>
                      exact AllReadyH.nil
                case sC3 =>
                  exact AllReadyH.nil
            case sC2 =>
              exact AllReadyH.nil
        case sC1 =>
          exact AllReadyH.nil
    · have hBV : B = false := by
        rw [← HBA.out]
        unfold atA
        rw [decide_eq_false (show ¬ ((0 : Int) ≤ (k : Int) ∧ (k : Int) < (ne : Int)) by omega), Bool.false_and, Bool.and_false]
      subst hBV
      have d1 : decide ((k : Int) < (ne : Int)) = false := decide_eq_false (by omega)
      have d2 : decide (k < ne) = false := decide_eq_false h1
      go_wp2_with fail
      (try simp only [List.append_eq, List.cons_append, List.nil_append])
      refine wp_region_noPanic ?_
      refine wp_region_held_drew (S := (fun w' => w'.cell? ⟨gx, 0, none⟩ = some (.slice An 3 cn) ∧ w'.cell? ⟨gx, 1, none⟩ = some (.slice Ae ne ce))) (by kernel_rfl) ?hS0 (fun hHeld => ?hR0)
      case hS0 => (try dsimp only); go_keep
      case hR0 =>
        refine tk 0 (h := ?_)
        try simp only [pn]
        refine tk 1 (h := ?_)
        try simp only [pn]
        refine tk 2 (h := ?_)
        try simp only [pn]
        refine tk 3 (h := ?_)
        try simp only [pn]
        refine tk 4 (h := ?_)
        try simp only [pn]
        refine tk 5 (h := ?_)
        try simp only [pn]
        refine tk 6 (h := ?_)
        try simp only [pn]
        refine tk 7 (h := ?_)
        try simp only [pn]
        refine tk 8 (h := ?_)
        try simp only [pn]
        refine tk 10 (h := ?_)
        try simp only [pn]
        refine wpAnyH_ready (rs := [9]) (by kernel_rfl) (by simp) ?_
        refine AllReadyH.cons (o := ?sO7) ?sA7 (fun K hK => ?sB7) ?sC7
        case sA7 => simp only [List.getElem?_toArray, List.getElem?_cons_succ, List.getElem?_cons_zero]; rfl
        case sB7 =>
          go_simp
          go_at_call 24; refine (HAU.out (heapF w3) _ (by first | exact sat_heapF w3 | exact (sat_heapF w3).drew) An cn hcn HN3.out Ae ce HE3.out A5 c5 hc5 HD3.out).mono ?_; rintro e v4 ⟨C4, rfl, hbx4, hc4⟩; have hb4 : Below w3.heap.size w3 v4 := (by first | exact hbx4 | exact bel_eqv0 hbx4); have hB4 : Below w3.heap.size w3 v4 := hb4; obtain ⟨s40, s41⟩ := HS2.out _ hB4; have hq4 : BAt v4 C4 ne V := RetAllU.bat (by rcases hc4 with h | ⟨h0, g, e, _, hk⟩; exact .inl h; exact .inr ⟨h0, g, e, hk⟩); have hr4 := BAt.row (HKR.out.call hB4)
          try go_wp2_with fail
          refine hK.out _ _ ?kS7 (fun hHeld => ?kR7)
          case kS7 => (try dsimp only); go_keep
          case kR7 =>
            clear hK K
            try simp only [pn]
            refine wpAnyH_ready (rs := [11]) (by kernel_rfl) (by simp) ?_
            refine AllReadyH.cons (o := ?sO8) ?sA8 (fun K hK => ?sB8) ?sC8
            case sA8 => simp only [List.getElem?_toArray, List.getElem?_cons_succ, List.getElem?_cons_zero]; rfl
            case sB8 =>
              go_simp
              go_at_call 23; refine (equalV_w (n := ne) (r := V) (by omega) (by first | exact hq4 | exact (hq4).drew) (by first | exact hr4 | exact (hr4).drew)).mono ?_; rintro e v5 ⟨rfl, hbx5⟩; have hb5 : Below v4.heap.size v4 v5 := (by first | exact hbx5 | exact bel_eqv0 hbx5); have hB5 : Below w3.heap.size w3 v5 := bthen hB4 hb5; obtain ⟨s50, s51⟩ := HS2.out _ hB5
              try go_wp2_with fail
              refine hK.out _ _ ?kS8 (fun hHeld => ?kR8)
              case kS8 => (try dsimp only); go_keep
              case kR8 =>
                clear hK K
                try simp only [pn]
                refine tk 12 (h := ?_)
                try simp only [pn]
                refine tk 13 (h := ?_)
                try simp only [pn]
                refine tk 14 (h := ?_)
                try simp only [pn]
                refine tk 15 (h := ?_)
                try simp only [pn]
                refine tk 16 (h := ?_)
                try simp only [pn]
                refine tk 18 (h := ?_)
                try simp only [pn]
                refine tk 19 (h := ?_)
                try simp only [pn]
                refine wpAnyH_ready (rs := [17]) (by kernel_rfl) (by simp) ?_
                refine AllReadyH.cons (o := ?sO9) ?sA9 (fun K hK => ?sB9) ?sC9
                case sA9 => simp only [List.getElem?_toArray, List.getElem?_cons_succ, List.getElem?_cons_zero]; rfl
                case sB9 =>
                  go_simp
                  go_at_call 25; refine (HAT.out (heapF w3) _ (by first | exact (sat_heapF w3).below hB5 | exact ((sat_heapF w3).below hB5).drew) An cn hcn HN3.out Ae ce HE3.out A5 c5 hc5 HD3.out).mono ?_; rintro e v6 ⟨rfl, hbx6⟩; have hb6 : Below v5.heap.size v5 v6 := (by first | exact hbx6 | exact bel_eqv0 hbx6); have hB6 : Below w3.heap.size w3 v6 := bthen hB5 hb6; obtain ⟨s60, s61⟩ := HS2.out _ hB6
                  try go_wp2_with fail
                  refine hK.out _ _ ?kS9 (fun hHeld => ?kR9)
                  case kS9 => (try dsimp only); go_keep
                  case kR9 =>
                    clear hK K
                    try simp only [pn]
                    refine tk 20 (h := ?_)
                    try simp only [pn]
                    refine tk 21 (h := ?_)
                    try simp only [pn]
                    refine tk 22 (h := ?_)
                    try simp only [pn]
                    refine tk 23 (h := ?_)
                    try simp only [pn]
                    refine tk 24 (h := ?_)
                    try simp only [pn]
                    refine tk 25 (h := ?_)
                    try simp only [pn]
                    refine tk 26 (h := ?_)
                    try simp only [pn]
                    refine sk 27 (h := ?_)
                    try simp only [pn]
                    refine sk 28 (h := ?_)
                    try simp only [pn]
                    refine sk 29 (h := ?_)
                    try simp only [pn]
                    refine sk 30 (h := ?_)
                    try simp only [pn]
                    refine tk 31 (h := ?_)
                    try simp only [pn]
                    refine tk 32 (h := ?_)
                    try simp only [pn]
                    refine tk 33 (h := ?_)
                    try simp only [pn]
                    refine tk 34 (h := ?_)
                    try simp only [pn]
                    refine tk 35 (h := ?_)
                    try simp only [pn]
                    refine tk 36 (h := ?_)
                    try simp only [pn]
                    refine wpAnyH_ready (rs := [37]) (by kernel_rfl) (by simp) ?_
                    refine AllReadyH.cons (o := ?sO10) ?sA10 (fun K hK => ?sB10) ?sC10
                    case sA10 => simp only [List.getElem?_toArray, List.getElem?_cons_succ, List.getElem?_cons_zero]; rfl
                    case sB10 =>
                      go_simp
                      go_at_call 14; refine (HR5.out _ (by first | exact HF3.out.below hB6 | exact (HF3.out.below hB6).drew)).mono ?_; rintro e v7 ⟨Ar, cr, Fr, rfl, hcr, hNr7, hbx7, hFr7, _⟩; rw [HFR.out] at hcr hNr7; rw [HFR.out]; have hNr8 := hNr7.cle hFr7.cle; have hb7 : Below v6.heap.size v6 v7 := (by first | exact hbx7 | exact bel_eqv0 hbx7); have hB7 : Below w3.heap.size w3 v7 := bthen hB6 hb7; obtain ⟨s70, s71⟩ := HS2.out _ hB7
                      try go_wp2_with fail
                      refine hK.out _ _ ?kS10 (fun hHeld => ?kR10)
                      case kS10 => (try dsimp only); go_keep
                      case kR10 =>
                        clear hK K
                        try simp only [pn]
                        refine wpAnyH_ready (rs := [38]) (by kernel_rfl) (by simp) ?_
                        refine AllReadyH.cons (o := ?sO11) ?sA11 (fun K hK => ?sB11) ?sC11
                        case sA11 => simp only [List.getElem?_toArray, List.getElem?_cons_succ, List.getElem?_cons_zero]; rfl
                        case sB11 =>
                          go_simp
                          go_at_call 24; refine (HAN.out (heapF v7) _ (by first | exact sat_heapF v7 | exact (sat_heapF v7).drew) An cn hcn (HN3.out.cle ((sat_heapF w3).below hB7).cle) Ae ce (HE3.out.cle ((sat_heapF w3).below hB7).cle) Ar cr hNr8).mono ?_; rintro e v8 ⟨rfl, hbx8⟩; have hb8 : Below v7.heap.size v7 v8 := (by first | exact hbx8 | exact bel_eqv0 hbx8); have hB8 : Below w3.heap.size w3 v8 := bthen hB7 hb8; obtain ⟨s80, s81⟩ := HS2.out _ hB8
                          try go_wp2_with fail
                          refine hK.out _ _ ?kS11 (fun hHeld => ?kR11)
                          case kS11 => (try dsimp only); go_keep
                          case kR11 =>
                            clear hK K
                            try simp only [pn]
                            refine tk 39 (h := ?_)
                            try simp only [pn]
                            refine tk 40 (h := ?_)
                            try simp only [pn]
                            refine tk 41 (h := ?_)
                            try simp only [pn]
                            refine tk 42 (h := ?_)
                            try simp only [pn]
                            refine wpAnyH_ready (rs := [43]) (by kernel_rfl) (by simp) ?_
                            refine AllReadyH.cons (o := ?sO12) ?sA12 (fun K hK => ?sB12) ?sC12
                            case sA12 => simp only [List.getElem?_toArray, List.getElem?_cons_succ, List.getElem?_cons_zero]; rfl
                            case sB12 =>
                              go_simp
                              go_at_call 21; refine (awake15_w _).mono ?_; rintro e v9 ⟨rfl, hbx9⟩; have hb9 : Below v8.heap.size v8 v9 := (by first | exact hbx9 | exact bel_eqv0 hbx9); have hB9 : Below w3.heap.size w3 v9 := bthen hB8 hb9; obtain ⟨s90, s91⟩ := HS2.out _ hB9
                              try go_wp2_with fail
                              refine hK.out _ _ ?kS12 (fun hHeld => ?kR12)
                              case kS12 => (try dsimp only); go_keep
                              case kR12 =>
                                clear hK K
                                try simp only [pn]
                                refine tk 44 (h := ?_)
                                try simp only [pn]
                                refine tk 45 (h := ?_)
                                try simp only [pn]
                                refine wpAnyH_done (by kernel_rfl) ?_ _
                                refine NoPanic.normal ?_
                                go_wp2_with fail
                                go_ret
                                exact ⟨rfl, bthen HB3.out hB9⟩
                            case sC12 =>
                              exact AllReadyH.nil
                        case sC11 =>
                          exact AllReadyH.nil
                    case sC10 =>
                      exact AllReadyH.nil
                case sC9 =>
                  exact AllReadyH.nil
            case sC8 =>
              exact AllReadyH.nil
        case sC7 =>
          exact AllReadyH.nil
  · have hBV : B = false := by
      rw [← HBA.out]
      unfold atA
      rw [decide_eq_false (show ¬ (0 ≤ i ∧ i < (ne : Int)) by omega), Bool.false_and, Bool.and_false]
    subst hBV
    have d0 : decide (0 ≤ i) = false := decide_eq_false h0
    go_wp2_with fail
    (try simp only [List.append_eq, List.cons_append, List.nil_append])
    refine wp_region_noPanic ?_
    refine wp_region_held_drew (S := (fun w' => w'.cell? ⟨gx, 0, none⟩ = some (.slice An 3 cn) ∧ w'.cell? ⟨gx, 1, none⟩ = some (.slice Ae ne ce))) (by kernel_rfl) ?hS0 (fun hHeld => ?hR0)
    case hS0 => (try dsimp only); go_keep
    case hR0 =>
      refine tk 0 (h := ?_)
      try simp only [pn]
      refine tk 1 (h := ?_)
      try simp only [pn]
      refine tk 2 (h := ?_)
      try simp only [pn]
      refine tk 3 (h := ?_)
      try simp only [pn]
      refine tk 4 (h := ?_)
      try simp only [pn]
      refine tk 5 (h := ?_)
      try simp only [pn]
      refine tk 6 (h := ?_)
      try simp only [pn]
      refine tk 7 (h := ?_)
      try simp only [pn]
      refine tk 8 (h := ?_)
      try simp only [pn]
      refine tk 10 (h := ?_)
      try simp only [pn]
      refine wpAnyH_ready (rs := [9]) (by kernel_rfl) (by simp) ?_
      refine AllReadyH.cons (o := ?sO13) ?sA13 (fun K hK => ?sB13) ?sC13
      case sA13 => simp only [List.getElem?_toArray, List.getElem?_cons_succ, List.getElem?_cons_zero]; rfl
      case sB13 =>
        go_simp
        go_at_call 24; refine (HAU.out (heapF w3) _ (by first | exact sat_heapF w3 | exact (sat_heapF w3).drew) An cn hcn HN3.out Ae ce HE3.out A5 c5 hc5 HD3.out).mono ?_; rintro e v4 ⟨C4, rfl, hbx4, hc4⟩; have hb4 : Below w3.heap.size w3 v4 := (by first | exact hbx4 | exact bel_eqv0 hbx4); have hB4 : Below w3.heap.size w3 v4 := hb4; obtain ⟨s40, s41⟩ := HS2.out _ hB4; have hq4 : BAt v4 C4 ne V := RetAllU.bat (by rcases hc4 with h | ⟨h0, g, e, _, hk⟩; exact .inl h; exact .inr ⟨h0, g, e, hk⟩); have hr4 := BAt.row (HKR.out.call hB4)
        try go_wp2_with fail
        refine hK.out _ _ ?kS13 (fun hHeld => ?kR13)
        case kS13 => (try dsimp only); go_keep
        case kR13 =>
          clear hK K
          try simp only [pn]
          refine wpAnyH_ready (rs := [11]) (by kernel_rfl) (by simp) ?_
          refine AllReadyH.cons (o := ?sO14) ?sA14 (fun K hK => ?sB14) ?sC14
          case sA14 => simp only [List.getElem?_toArray, List.getElem?_cons_succ, List.getElem?_cons_zero]; rfl
          case sB14 =>
            go_simp
            go_at_call 23; refine (equalV_w (n := ne) (r := V) (by omega) (by first | exact hq4 | exact (hq4).drew) (by first | exact hr4 | exact (hr4).drew)).mono ?_; rintro e v5 ⟨rfl, hbx5⟩; have hb5 : Below v4.heap.size v4 v5 := (by first | exact hbx5 | exact bel_eqv0 hbx5); have hB5 : Below w3.heap.size w3 v5 := bthen hB4 hb5; obtain ⟨s50, s51⟩ := HS2.out _ hB5
            try go_wp2_with fail
            refine hK.out _ _ ?kS14 (fun hHeld => ?kR14)
            case kS14 => (try dsimp only); go_keep
            case kR14 =>
              clear hK K
              try simp only [pn]
              refine tk 12 (h := ?_)
              try simp only [pn]
              refine tk 13 (h := ?_)
              try simp only [pn]
              refine tk 14 (h := ?_)
              try simp only [pn]
              refine tk 15 (h := ?_)
              try simp only [pn]
              refine tk 16 (h := ?_)
              try simp only [pn]
              refine tk 18 (h := ?_)
              try simp only [pn]
              refine tk 19 (h := ?_)
              try simp only [pn]
              refine wpAnyH_ready (rs := [17]) (by kernel_rfl) (by simp) ?_
              refine AllReadyH.cons (o := ?sO15) ?sA15 (fun K hK => ?sB15) ?sC15
              case sA15 => simp only [List.getElem?_toArray, List.getElem?_cons_succ, List.getElem?_cons_zero]; rfl
              case sB15 =>
                go_simp
                go_at_call 25; refine (HAT.out (heapF w3) _ (by first | exact (sat_heapF w3).below hB5 | exact ((sat_heapF w3).below hB5).drew) An cn hcn HN3.out Ae ce HE3.out A5 c5 hc5 HD3.out).mono ?_; rintro e v6 ⟨rfl, hbx6⟩; have hb6 : Below v5.heap.size v5 v6 := (by first | exact hbx6 | exact bel_eqv0 hbx6); have hB6 : Below w3.heap.size w3 v6 := bthen hB5 hb6; obtain ⟨s60, s61⟩ := HS2.out _ hB6
                try go_wp2_with fail
                refine hK.out _ _ ?kS15 (fun hHeld => ?kR15)
                case kS15 => (try dsimp only); go_keep
                case kR15 =>
                  clear hK K
                  try simp only [pn]
                  refine tk 20 (h := ?_)
                  try simp only [pn]
                  refine sk 21 (h := ?_)
                  try simp only [pn]
                  refine sk 22 (h := ?_)
                  try simp only [pn]
                  refine sk 23 (h := ?_)
                  try simp only [pn]
                  refine sk 24 (h := ?_)
                  try simp only [pn]
                  refine tk 25 (h := ?_)
                  try simp only [pn]
                  refine tk 26 (h := ?_)
                  try simp only [pn]
                  refine sk 27 (h := ?_)
                  try simp only [pn]
                  refine sk 28 (h := ?_)
                  try simp only [pn]
                  refine sk 29 (h := ?_)
                  try simp only [pn]
                  refine sk 30 (h := ?_)
                  try simp only [pn]
                  refine tk 31 (h := ?_)
                  try simp only [pn]
                  refine tk 32 (h := ?_)
                  try simp only [pn]
                  refine tk 33 (h := ?_)
                  try simp only [pn]
                  refine tk 34 (h := ?_)
                  try simp only [pn]
                  refine tk 35 (h := ?_)
                  try simp only [pn]
                  refine tk 36 (h := ?_)
                  try simp only [pn]
                  refine wpAnyH_ready (rs := [37]) (by kernel_rfl) (by simp) ?_
                  refine AllReadyH.cons (o := ?sO16) ?sA16 (fun K hK => ?sB16) ?sC16
                  case sA16 => simp only [List.getElem?_toArray, List.getElem?_cons_succ, List.getElem?_cons_zero]; rfl
                  case sB16 =>
                    go_simp
                    go_at_call 14; refine (HR5.out _ (by first | exact HF3.out.below hB6 | exact (HF3.out.below hB6).drew)).mono ?_; rintro e v7 ⟨Ar, cr, Fr, rfl, hcr, hNr7, hbx7, hFr7, _⟩; rw [HFR.out] at hcr hNr7; rw [HFR.out]; have hNr8 := hNr7.cle hFr7.cle; have hb7 : Below v6.heap.size v6 v7 := (by first | exact hbx7 | exact bel_eqv0 hbx7); have hB7 : Below w3.heap.size w3 v7 := bthen hB6 hb7; obtain ⟨s70, s71⟩ := HS2.out _ hB7
                    try go_wp2_with fail
                    refine hK.out _ _ ?kS16 (fun hHeld => ?kR16)
                    case kS16 => (try dsimp only); go_keep
                    case kR16 =>
                      clear hK K
                      try simp only [pn]
                      refine wpAnyH_ready (rs := [38]) (by kernel_rfl) (by simp) ?_
                      refine AllReadyH.cons (o := ?sO17) ?sA17 (fun K hK => ?sB17) ?sC17
                      case sA17 => simp only [List.getElem?_toArray, List.getElem?_cons_succ, List.getElem?_cons_zero]; rfl
                      case sB17 =>
                        go_simp
                        go_at_call 24; refine (HAN.out (heapF v7) _ (by first | exact sat_heapF v7 | exact (sat_heapF v7).drew) An cn hcn (HN3.out.cle ((sat_heapF w3).below hB7).cle) Ae ce (HE3.out.cle ((sat_heapF w3).below hB7).cle) Ar cr hNr8).mono ?_; rintro e v8 ⟨rfl, hbx8⟩; have hb8 : Below v7.heap.size v7 v8 := (by first | exact hbx8 | exact bel_eqv0 hbx8); have hB8 : Below w3.heap.size w3 v8 := bthen hB7 hb8; obtain ⟨s80, s81⟩ := HS2.out _ hB8
                        try go_wp2_with fail
                        refine hK.out _ _ ?kS17 (fun hHeld => ?kR17)
                        case kS17 => (try dsimp only); go_keep
                        case kR17 =>
                          clear hK K
                          try simp only [pn]
                          refine tk 39 (h := ?_)
                          try simp only [pn]
                          refine tk 40 (h := ?_)
                          try simp only [pn]
                          refine tk 41 (h := ?_)
                          try simp only [pn]
                          refine tk 42 (h := ?_)
                          try simp only [pn]
                          refine wpAnyH_ready (rs := [43]) (by kernel_rfl) (by simp) ?_
                          refine AllReadyH.cons (o := ?sO18) ?sA18 (fun K hK => ?sB18) ?sC18
                          case sA18 => simp only [List.getElem?_toArray, List.getElem?_cons_succ, List.getElem?_cons_zero]; rfl
                          case sB18 =>
                            go_simp
                            go_at_call 21; refine (awake15_w _).mono ?_; rintro e v9 ⟨rfl, hbx9⟩; have hb9 : Below v8.heap.size v8 v9 := (by first | exact hbx9 | exact bel_eqv0 hbx9); have hB9 : Below w3.heap.size w3 v9 := bthen hB8 hb9; obtain ⟨s90, s91⟩ := HS2.out _ hB9
                            try go_wp2_with fail
                            refine hK.out _ _ ?kS18 (fun hHeld => ?kR18)
                            case kS18 => (try dsimp only); go_keep
                            case kR18 =>
                              clear hK K
                              try simp only [pn]
                              refine tk 44 (h := ?_)
                              try simp only [pn]
                              refine tk 45 (h := ?_)
                              try simp only [pn]
                              refine wpAnyH_done (by kernel_rfl) ?_ _
                              refine NoPanic.normal ?_
                              go_wp2_with fail
                              go_ret
                              exact ⟨rfl, bthen HB3.out hB9⟩
                          case sC18 =>
                            exact AllReadyH.nil
                      case sC17 =>
                        exact AllReadyH.nil
                  case sC16 =>
                    exact AllReadyH.nil
              case sC15 =>
                exact AllReadyH.nil
          case sC14 =>
            exact AllReadyH.nil
      case sC13 =>
        exact AllReadyH.nil
end Go.Proofs.YtdbbooibkiicnaaGreat
