/- The walk of the law AtomsNone. -/
import Derived.Test.YtdbbooibkiicnaaSteps7
import Derived.Test.YtdbbooibkiicnaaAtPut
set_option linter.unusedVariables false
set_option linter.unusedSimpArgs false
namespace Go.Proofs.Ytdbbooibkiicnaa
open Go.RowKit
set_option maxRecDepth 100000 in
theorem atomsNone_big {F : Fz} {w : World} (hF : Sat F w) (Al : Option Addr) (N cl : Nat) (B : Option Addr) (m d : Nat) (n k : Int) (ts : List (List (BitVec 64))) (A : Option Addr) (nt c : Nat) (hts : RdR F A nt ts) (hb : 200 < N ∨ greatS ts = true) :
    Calls Try.prog 7 #[.slice Al N cl, .slice B m d, .int .i64 n, .int .i64 k, .slice A nt c] w fun e w' => e = .returned (.bool true) ∧ Below w.heap.size w w' := by
  by_cases h200 : 200 < N
  · have hI : (200 : Int) < (N : Int) := by omega
    clear hb hts h200
    go_enter Try.func7, Try.ntmps7
    go_wp2_with (go_at_call 15; refine (awake29_w _).mono ?_; rintro e w1 ⟨rfl, hw1⟩)
    go_ret
    exact ⟨rfl, hw1⟩
  · have hI : decide ((200 : Int) < (N : Int)) = false := decide_eq_false (by omega)
    have hI2 : decide (200 < N) = false := decide_eq_false h200
    have hg := hb.resolve_left h200
    have H1 := Lib.hid (great_w hF ts A nt c hts 1 (by rw [hg]; rfl))
    clear hb hts h200 hg
    go_enter Try.func7, Try.ntmps7
    go_wp2_with (first
      | (go_at_call 25; refine H1.out.mono ?_; rintro e w' ⟨rfl, rfl⟩)
      | (go_at_call 15; refine (awake29_w _).mono ?_; rintro e w1 ⟨rfl, hw1⟩))
    go_ret
    exact ⟨rfl, hw1⟩
/-- A function that is told of no tests. -/
theorem state_none {t : Tr} (hv : regV t) (k : Int) (x : Nat) : (stateK (fun _ _ => false) t k).2 x = (stateK (fun _ _ => false) t k).2 0 := (stateK_at (fun _ _ => false) (fun _ _ => false) x 0 0 t k (fun _ _ => rfl) hv).2
set_option maxRecDepth 100000 in
set_option maxHeartbeats 8000000 in
theorem atomsNone_c {F : Fz} {w : World} (hF : Sat F w) (l : List Nd) (hl2 : l.length ≤ 200) (Al : Option Addr) (N cl : Nat) (hl : NodesF F Al N l) (ns : List Nat) (hns : ∀ k ∈ ns, k < 65536) (B : Option Addr) (m d : Nat) (hr : Rd F 1 B m (ns.map encW)) (n k : Int) (ts : List (List (BitVec 64))) (A : Option Addr) (nt c : Nat) (hts : RdR F A nt ts) (h1 : greatS ts = false) :
    Calls Try.prog 7 #[.slice Al N cl, .slice B m d, .int .i64 n, .int .i64 k, .slice A nt c] w fun e w' => e = .returned (.bool true) ∧ Below w.heap.size w w' := by
  have H1 := Lib.hid (great_w hF ts A nt c hts 0 (by rw [h1]; rfl))
  have hN200 : decide ((200 : Int) < (N : Int)) = false := decide_eq_false (by have := hl.1; omega)
  have hN201 : decide (200 < N) = false := decide_eq_false (by have := hl.1; omega)
  have HLN : Hid (l.length ≤ 1000) := Lib.hid (by omega)
  have hRg := Lib.hid (reg5_w hF ns hns B m d hr false (regT false ns) rfl)
  have hMk := Lib.hid (fun (X : World) (hX : Sat F X) => make_w hX ns hns B m d hr false (makeT false ns) rfl)
  have hrn0 := (make_size false ns).2
  have hfn0 := (make_size false ns).1
  rw [← Tr.length_flat (regT false ns) 0] at hrn0
  rw [← Tr.length_flat (makeT false ns) 0] at hfn0
  obtain ⟨_, hfr, _⟩ := ok_form (make_ok false ns hns).1
  obtain ⟨t, ht, hrt⟩ : ∃ t', treeS ((regT false ns).flat 0) = some t' ∧ regS t'.root.kind = true := by
    obtain ⟨a1, a2, _⟩ := okR_iff.1 (make_ok false ns hns).2
    obtain ⟨t', e1, _, e2⟩ := tree_of_valid a1
    exact ⟨t', e1, by rw [e2]; exact a2⟩
  obtain ⟨r, hre⟩ : ∃ r, (regT false ns).flat 0 = r := ⟨_, rfl⟩
  obtain ⟨f, hfe⟩ : ∃ f, (makeT false ns).flat 0 = f := ⟨_, rfl⟩
  rw [hre] at hRg hrn0 ht
  rw [hfe] at hMk hfn0 hfr
  clear hre hfe hr hns h1
  have hrn : r.length ≤ 1000 := by omega
  have hfn : f.length ≤ 1000 := by omega
  have HT := Lib.hid ht
  have HRT := Lib.hid hrt
  have HV := Lib.hid (regV_of (tree_valid ht) hrt)
  have HFR := Lib.hid hfr
  have HL := Lib.hid hl
  have HRR : Hid (regL r = true) := Lib.hid (by unfold regL; rw [ht]; exact hrt)
  have HF := Lib.hid hF
  clear ht hrt hfr hl hts hl2 hF
  go_enter Try.func7, Try.ntmps7
  go_wp2_with (go_at_call 25; refine H1.out.mono ?_; rintro e w' ⟨rfl, rfl⟩)
  go_at_call 26
  refine hRg.out.mono ?_
  rintro e W ⟨Ar, cr, F1, rfl, hcr, hrN, hbW, hF1, hle1⟩
  go_wp2_with fail
  go_at_call 9
  refine (hMk.out W (HF.out.below hbW)).mono ?_
  rintro e W2 ⟨Af, cf, F2, rfl, hcf, hfN, hbW2, hF2, hle2⟩
  have HRN : Hid (NodesF (heapF W2) Ar r.length r) := Lib.hid (hrN.cle (hF1.below hbW2).cle)
  have HFN : Hid (NodesF (heapF W2) Af f.length f) := Lib.hid (hfN.cle hF2.cle)
  have HB2 : Hid (Below w.heap.size w W2) := Lib.hid (bthen hbW hbW2)
  have HLW : Hid (NodesF (heapF W2) Al N l) := Lib.hid (HL.out.cle (HF.out.below HB2.out).cle)
  clear hRg hMk hrN hfN hF1 hF2 hle1 hle2 hbW hbW2 H1
  by_cases hbad : n < 0 ∨ 10 < n
  · have HZ := Lib.hid (fun (X : World) (h : Sat (heapF W2) X) => azeroNo_w h n r hrn Ar r.length cr HRN.out (.inl hbad) A nt c)
    have HN := Lib.hid (fun (X : World) (h : Sat (heapF W2) X) => anextNo_w h n r hrn Ar r.length cr HRN.out (.inl hbad) k A nt c)
    have HE := Lib.hid (fun (X : World) (h : Sat (heapF W2) X) => aendsNo_w h n r hrn Ar r.length cr HRN.out (.inl hbad) k A nt c)
    obtain ⟨b1, hb1, b2, hb2, hb⟩ : ∃ b1, decide (n < 0) = b1 ∧ ∃ b2, decide (10 < n) = b2 ∧ (b1 = true ∨ b1 = false ∧ b2 = true) := ⟨_, rfl, _, rfl, by
      rcases hbad with h | h
      · exact .inl (decide_eq_true h)
      · by_cases h0 : n < 0
        · exact .inl (decide_eq_true h0)
        · exact .inr ⟨decide_eq_false h0, decide_eq_true h⟩⟩
    clear hbad
    rcases hb with rfl | ⟨rfl, rfl⟩
    all_goals
      go_wp2_with (first
        | (go_at_call 27; refine (HZ.out W2 (sat_heapF W2)).mono ?_; rintro e w3 ⟨rfl, hb3⟩)
        | (go_at_call 28; refine (HN.out w3 ((sat_heapF W2).below hb3)).mono ?_; rintro e w4 ⟨rfl, hb4⟩)
        | (go_at_call 29; refine (HE.out w4 (((sat_heapF W2).below hb3).below hb4)).mono ?_; rintro e w5 ⟨rfl, hb5⟩)
        | (go_at_call 15; refine (awake29_w _).mono ?_; rintro e w6 ⟨rfl, hw6⟩))
      go_ret
      exact ⟨rfl, bthen HB2.out (bthen hb3 (bthen hb4 (bthen hb5 hw6)))⟩
  obtain ⟨mm, rfl⟩ : ∃ mm : Nat, n = (mm : Int) := ⟨n.toNat, by omega⟩
  have hm : mm ≤ 10 := by omega
  have hm0 : decide ((mm : Int) < 0) = false := decide_eq_false (by omega)
  have hm1 : decide ((10 : Int) < (mm : Int)) = false := decide_eq_false (by omega)
  have hm2 : decide (10 < mm) = false := decide_eq_false (by omega)
  clear hbad
  have HZ := Lib.hid (fun (X : World) (h : Sat (heapF W2) X) => azeroNo_w h mm f hfn Af f.length cf HFN.out (.inr HFR.out) A nt c)
  have HN := Lib.hid (fun (X : World) (h : Sat (heapF W2) X) => anextNo_w h mm f hfn Af f.length cf HFN.out (.inr HFR.out) k A nt c)
  have HE := Lib.hid (fun (X : World) (h : Sat (heapF W2) X) => aendsNo_w h mm f hfn Af f.length cf HFN.out (.inr HFR.out) k A nt c)
  have HTR := Lib.hid (fun (X : World) (h : Sat (heapF W2) X) b hb => treg_w h l HLN.out Al N cl HLW.out b hb)
  go_wp2_with (first
    | (go_at_call 27; refine (HZ.out W2 (sat_heapF W2)).mono ?_; rintro e w3 ⟨rfl, hb3⟩)
    | (go_at_call 28; refine (HN.out w3 ((sat_heapF W2).below hb3)).mono ?_; rintro e w4 ⟨rfl, hb4⟩)
    | (go_at_call 29; refine (HE.out w4 (((sat_heapF W2).below hb3).below hb4)).mono ?_; rintro e w5 ⟨rfl, hb5⟩))
  have HB5 : Hid (Below W2.heap.size W2 w5) := Lib.hid (bthen hb3 (bthen hb4 hb5))
  have HZl := Lib.hid (fun (hb : regL l = false) (X : World) (h : Sat (heapF W2) X) => azeroNo_w h mm l HLN.out Al N cl HLW.out (.inr hb) A nt c)
  have HNl := Lib.hid (fun (hb : regL l = false) (X : World) (h : Sat (heapF W2) X) => anextNo_w h mm l HLN.out Al N cl HLW.out (.inr hb) k A nt c)
  have HEl := Lib.hid (fun (hb : regL l = false) (X : World) (h : Sat (heapF W2) X) => aendsNo_w h mm l HLN.out Al N cl HLW.out (.inr hb) k A nt c)
  have HT0 : Hid (TsF mm (heapF W2) none 0 (fun _ _ => false)) := Lib.hid ⟨fun q hq => absurd hq (by omega), fun q _ x => rfl⟩
  have HZ1 := Lib.hid (fun (X : World) (h : Sat (heapF W2) X) => azero_w h mm hm r hrn Ar r.length cr HRN.out HT.out HRT.out none 0 0 (by omega) _ HT0.out)
  have HE1 := Lib.hid (fun (X : World) (h : Sat (heapF W2) X) => aends_w h mm hm r hrn Ar r.length cr HRN.out HT.out HRT.out k none 0 0 (by omega) _ HT0.out)
  have HZ2 := Lib.hid (fun (X : World) (h : Sat (heapF W2) X) => szero_w h r hrn Ar r.length cr HRN.out HT.out HRT.out (fun _ _ => false) _ (SetV.nil (heapF W2)))
  have HE2 := Lib.hid (fun (X : World) (h : Sat (heapF W2) X) => sends_w h r hrn Ar r.length cr HRN.out HT.out HRT.out k (fun _ _ => false) _ (SetV.nil (heapF W2)))
  obtain ⟨b1, hb1⟩ : ∃ b, (stateK (fun _ _ => false) t 0).2 0 = b := ⟨_, rfl⟩
  obtain ⟨b2, hb2⟩ : ∃ b, (stateK (fun _ _ => false) t k).2 0 = b := ⟨_, rfl⟩
  have HC1 := Lib.hid (fun (X : World) (v : Value) (h : WdG mm (heapF X) v (stateK (fun _ _ => false) t 0).2) => w_const hm h.wd b1 true (cP_of fun x => by rw [state_none HV.out 0 x, hb1]))
  have HC2 := Lib.hid (fun (X : World) (v : Value) (h : WdG mm (heapF X) v (stateK (fun _ _ => false) t k).2) => w_const hm h.wd b2 true (cP_of fun x => by rw [state_none HV.out k x, hb2]))
  rw [hb1] at HZ2
  rw [hb2] at HE2
  have hbb1 : (b1 == b1) = true := by cases b1 <;> rfl
  have hbb2 : (b2 == b2) = true := by cases b2 <;> rfl
  clear hb1 hb2 HZ HN HE hb3 hb4 hb5
  cases hreg : regL l
  · have HRL := Lib.hid (HTR.out w5 ((sat_heapF W2).below HB5.out) _ hreg)
    have HRG := Lib.hid hreg
    clear hreg
    go_wp2_with (first
      | (go_at_call 30; refine HRL.out.mono ?_; rintro e w6 ⟨rfl, hb6⟩)
      | (go_at_call 27; refine (HZl.out HRG.out w6 (((sat_heapF W2).below HB5.out).below hb6)).mono ?_; rintro e w7 ⟨rfl, hb7⟩)
      | (go_at_call 28; refine (HNl.out HRG.out w7 ((((sat_heapF W2).below HB5.out).below hb6).below hb7)).mono ?_; rintro e w8 ⟨rfl, hb8⟩)
      | (go_at_call 29; refine (HEl.out HRG.out w8 (((((sat_heapF W2).below HB5.out).below hb6).below hb7).below hb8)).mono ?_; rintro e w9 ⟨rfl, hb9⟩))
    have HB9 : Hid (Below W2.heap.size W2 w9) := Lib.hid (bthen HB5.out (bthen hb6 (bthen hb7 (bthen hb8 hb9))))
    clear hb6 hb7 hb8 hb9
    refine (HZ1.out w9 ((sat_heapF W2).below HB9.out)).mono ?_
    rintro e w10 ⟨v10, rfl, hb10, hE10⟩
    have HB10 : Hid (Below W2.heap.size W2 w10) := Lib.hid (bthen HB9.out hb10)
    have HC10 := Lib.hid (HC1.out w10 _ hE10)
    obtain ⟨_, A10, c10, rfl, _⟩ := hE10
    clear hb10
    go_wp2_with fail
    refine HC10.out.mono ?_
    rintro e w11 ⟨rfl, hb11⟩
    have HB11 : Hid (Below W2.heap.size W2 w11) := Lib.hid (bthen HB10.out hb11)
    clear hb11
    go_wp2_with fail
    refine (HE1.out w11 ((sat_heapF W2).below HB11.out)).mono ?_
    rintro e w12 ⟨v12, rfl, hb12, hE12⟩
    have HB12 : Hid (Below W2.heap.size W2 w12) := Lib.hid (bthen HB11.out hb12)
    have HC12 := Lib.hid (HC2.out w12 _ hE12)
    obtain ⟨_, A12, c12, rfl, _⟩ := hE12
    clear hb12
    go_wp2_with fail
    refine HC12.out.mono ?_
    rintro e w13 ⟨rfl, hb13⟩
    have HB13 : Hid (Below W2.heap.size W2 w13) := Lib.hid (bthen HB12.out hb13)
    clear hb13
    go_wp2_with (first
      | (go_at_call 32; refine (HZ2.out w13 ((sat_heapF W2).below HB13.out)).mono ?_; rintro e w14 ⟨rfl, hb14⟩)
      | (go_at_call 33; refine (HE2.out w14 (((sat_heapF W2).below HB13.out).below hb14)).mono ?_; rintro e w15 ⟨rfl, hb15⟩)
      | (go_at_call 15; refine (awake29_w _).mono ?_; rintro e w16 ⟨rfl, hw16⟩))
    go_ret
    exact ⟨rfl, bthen HB2.out (bthen HB13.out (bthen hb14 (bthen hb15 hw16)))⟩
  · have HRL := Lib.hid (HTR.out w5 ((sat_heapF W2).below HB5.out) _ hreg)
    clear hreg
    go_wp2_with (go_at_call 30; refine HRL.out.mono ?_; rintro e w9 ⟨rfl, hb9⟩)
    have HB9 : Hid (Below W2.heap.size W2 w9) := Lib.hid (bthen HB5.out hb9)
    clear hb9
    refine (HZ1.out w9 ((sat_heapF W2).below HB9.out)).mono ?_
    rintro e w10 ⟨v10, rfl, hb10, hE10⟩
    have HB10 : Hid (Below W2.heap.size W2 w10) := Lib.hid (bthen HB9.out hb10)
    have HC10 := Lib.hid (HC1.out w10 _ hE10)
    obtain ⟨_, A10, c10, rfl, _⟩ := hE10
    clear hb10
    go_wp2_with fail
    refine HC10.out.mono ?_
    rintro e w11 ⟨rfl, hb11⟩
    have HB11 : Hid (Below W2.heap.size W2 w11) := Lib.hid (bthen HB10.out hb11)
    clear hb11
    go_wp2_with fail
    refine (HE1.out w11 ((sat_heapF W2).below HB11.out)).mono ?_
    rintro e w12 ⟨v12, rfl, hb12, hE12⟩
    have HB12 : Hid (Below W2.heap.size W2 w12) := Lib.hid (bthen HB11.out hb12)
    have HC12 := Lib.hid (HC2.out w12 _ hE12)
    obtain ⟨_, A12, c12, rfl, _⟩ := hE12
    clear hb12
    go_wp2_with fail
    refine HC12.out.mono ?_
    rintro e w13 ⟨rfl, hb13⟩
    have HB13 : Hid (Below W2.heap.size W2 w13) := Lib.hid (bthen HB12.out hb13)
    clear hb13
    go_wp2_with (first
      | (go_at_call 32; refine (HZ2.out w13 ((sat_heapF W2).below HB13.out)).mono ?_; rintro e w14 ⟨rfl, hb14⟩)
      | (go_at_call 33; refine (HE2.out w14 (((sat_heapF W2).below HB13.out).below hb14)).mono ?_; rintro e w15 ⟨rfl, hb15⟩)
      | (go_at_call 15; refine (awake29_w _).mono ?_; rintro e w16 ⟨rfl, hw16⟩))
    go_ret
    exact ⟨rfl, bthen HB2.out (bthen HB13.out (bthen hb14 (bthen hb15 hw16)))⟩
end Go.Proofs.Ytdbbooibkiicnaa
