/- The walk of law 14's awake. -/
import Derived.Test.YtkhhjihbahdepaaPReach
import Derived.Test.YtkhhjihbahdepaaBuild
import Derived.Test.YtkhhjihbahdepaaEq
set_option linter.unusedVariables false
set_option linter.unusedSimpArgs false
/-! The walk of law 14's awake. -/
namespace Go.Proofs.Ytkhhjihbahdepaa
open Go.RowKit
/-- The regular expression that every program must know. -/
def awakeM : List Nd := [⟨18, ⟨#[]⟩, 0, 0, []⟩, ⟨22, ⟨#[]⟩, 0, 0, [0]⟩]
def awakeMT : Tr := .un ⟨22, ⟨#[]⟩, 0, 0, [0]⟩ (.leaf ⟨18, ⟨#[]⟩, 0, 0, []⟩)
theorem awakeM_tree : treeS awakeM = some awakeMT := by kernel_rfl
theorem awakeM_reg : regL awakeM = true := by kernel_rfl
theorem awakeM_steps : (zs (kindS awakeM 18)).length = 1 := by kernel_rfl
theorem awakeM_nodes {w : World} {g1 g2 : Nat} (h1 : Blk w g1 3 #[.int .i64 0]) (h2 : Blk w g2 37 #[.int .i64 18, .string ⟨#[]⟩, .int .i64 0, .int .i64 0, .slice none 0 0, .int .i64 22, .string ⟨#[]⟩, .int .i64 0, .int .i64 0, .slice (some ⟨g1, 0, none⟩) 1 1]) :
    NodesF (heapF w) (some ⟨g2, 0, none⟩) 2 awakeM := by
  have hk : Rd (heapF w) 1 (some ⟨g1, 0, none⟩) 1 ([(0 : Int)].map (Value.int .i64)) := by
    refine ⟨rfl, fun _ => ⟨_, rfl, fun j u hu => ?_⟩⟩
    rw [add_lit0]
    unfold Fz.cell heapF
    rw [h1]
    simpa using hu
  have hv : NodesV (heapF w) awakeM [.int .i64 18, .string ⟨#[]⟩, .int .i64 0, .int .i64 0, .slice none 0 0, .int .i64 22, .string ⟨#[]⟩, .int .i64 0, .int .i64 0, .slice (some ⟨g1, 0, none⟩) 1 1] :=
    .cons _ _ none 0 _ (Nat.le_refl _) Rd.nil (.cons _ _ (some ⟨g1, 0, none⟩) 1 [] (Nat.le_refl _) hk .nil)
  refine hv.toF ⟨rfl, fun _ => ⟨_, rfl, fun j u hu => ?_⟩⟩
  rw [add_lit0]
  unfold Fz.cell heapF
  rw [h2]
  simpa using hu
theorem awakeM_vals {w : World} {g : Nat} (h : Blk w g 23 (zeros (.slice none 0 0) 2)) : RdR (heapF w) (some ⟨g, 0, none⟩) 2 [[], []] := by
  refine ⟨rfl, fun i hi => ⟨⟨g, 0, none⟩, none, 0, 0, rfl, ?_, ?_⟩⟩
  · rw [add_lit0]
    unfold Fz.cell heapF
    rw [h]
    simp at hi
    have : i = 0 ∨ i = 1 := by omega
    rcases this with rfl | rfl <;> rfl
  · simp at hi
    have : i = 0 ∨ i = 1 := by omega
    rcases this with rfl | rfl <;> exact Rd.nil
theorem awakeM_m (v : Nat → Nat → Bool) : reachT 2 v awakeMT 0 0 0 = true ∧ reachT 2 v awakeMT 0 0 1 = true ∧ reachT 2 v awakeMT 0 1 0 = false ∧ reachT 2 v awakeMT 0 1 1 = true := by
  have e : reachT 2 v awakeMT 0 = starM 2 stepM := rfl
  rw [e]
  decide
theorem makeR14 (w : World) : (Instr.makeSlice 26 (.int .i64 2) (.int .i64 2)).run Try.prog w = .ok (.slice (some ⟨w.heap.size, 0, none⟩) 2 2) (w.alloc (.cells (zeros (.slice none 0 0) 2) 23)) := by
  exact run_make1 26 23 (.slice none 0 0) 24 Try.underlying26 (by kernel_rfl) rfl 2 (by omega) (by omega) w
set_option maxRecDepth 100000 in
set_option maxHeartbeats 2000000 in
theorem awake14_w (w : World) : Calls Try.prog 18 #[] w fun e w' => e = .returned (.bool true) ∧ Below w.heap.size w w' := by
  obtain ⟨N1, hN1⟩ : ∃ N1, N1 = (w.alloc (.cells #[.int .i64 0] 3)).alloc (.cells #[.int .i64 18, .string ⟨#[]⟩, .int .i64 0, .int .i64 0, .slice none 0 0, .int .i64 22, .string ⟨#[]⟩, .int .i64 0, .int .i64 0, .slice (some ⟨w.heap.size, 0, none⟩) 1 1] 37) := ⟨_, rfl⟩
  have hb1 : Blk N1 w.heap.size 3 #[.int .i64 0] := hN1 ▸ (Blk.new w 3 #[.int .i64 0]).alloc _
  have hb2 : Blk N1 (w.heap.size + 1) 37 #[.int .i64 18, .string ⟨#[]⟩, .int .i64 0, .int .i64 0, .slice none 0 0, .int .i64 22, .string ⟨#[]⟩, .int .i64 0, .int .i64 0, .slice (some ⟨w.heap.size, 0, none⟩) 1 1] := by
    have := Blk.new (w.alloc (.cells #[.int .i64 0] 3)) 37 #[.int .i64 18, .string ⟨#[]⟩, .int .i64 0, .int .i64 0, .slice none 0 0, .int .i64 22, .string ⟨#[]⟩, .int .i64 0, .int .i64 0, .slice (some ⟨w.heap.size, 0, none⟩) 1 1]
    rw [hN1]; simpa using this
  have hs1 : N1.heap.size = w.heap.size + 2 := by rw [hN1]; simp
  have hbl : Below w.heap.size w N1 := hN1 ▸ ((balloc _ _).alloc (by simp) _)
  obtain ⟨N, hN⟩ : ∃ N, N = N1.alloc (.cells (zeros (.slice none 0 0) 2) 23) := ⟨_, rfl⟩
  have hb3 : Blk N (w.heap.size + 2) 23 (zeros (.slice none 0 0) 2) := by rw [hN, ← hs1]; exact Blk.new _ _ _
  have hl := awakeM_nodes (w := N) (hN ▸ hb1.alloc _) (hN ▸ hb2.alloc _)
  have hv := awakeM_vals hb3
  have hbN : Below w.heap.size w N := hN ▸ bthen hbl (balloc _ _)
  have hR := pReachTab (sat_heapF N) awakeM (by decide) _ 2 2 hl _ 2 2 (by decide) [[], []] hv
  have hS := fun (X : World) (h : Below N.heap.size N X) => steps_w ((sat_heapF N).below h) awakeM (by decide) _ 2 2 hl
  obtain ⟨m00, m01, m10, m11⟩ := awakeM_m (valS [[], []])
  have HM := Lib.hid (fun t (h : treeS awakeM = some t) => show t = awakeMT by rw [awakeM_tree] at h; injection h with h; exact h.symm)
  have HT := Lib.hid (awakeM_tree)
  have HG := Lib.hid (awakeM_reg)
  have HL := Lib.hid (awakeM_steps)
  have HR := Lib.hid hR
  have HS := Lib.hid hS
  have HN1 := Lib.hid hN1
  have HN := Lib.hid hN
  have HS1 := Lib.hid hs1
  have hmk := makeR14
  have hrg : regS awakeMT.root.kind = true := by decide
  clear hR hS hN hs1 hN1 hb1 hb2 hb3 hl hv hbl
  go_enter Try.func18, Try.ntmps18
  go_wp2_with (go_at_call 15; rw [← HN1.out, ← HN.out])
  refine HR.out.mono ?_
  rintro e w3 ⟨A, c, rfl, hb3, hT⟩
  rw [if_pos HG.out]
  obtain ⟨g, rfl, rfl, hg, hS⟩ := hT _ HT.out hrg (by decide)
  have s0 : w3.cell? ⟨g, 0, none⟩ = some (.slice (some ⟨g + 1, 0, none⟩) 2 2) := hS.slot (i := 0) (by decide)
  have s1 : w3.cell? ⟨g, 1, none⟩ = some (.slice (some ⟨g + 1 + 1, 0, none⟩) 2 2) := hS.slot (i := 1) (by decide)
  have v00 : w3.cell? ⟨g + 1, 0, none⟩ = some (.bool true) := by rw [← m00]; exact hS.val (i := 0) (j := 0) (by decide) (by decide)
  have v01 : w3.cell? ⟨g + 1, 1, none⟩ = some (.bool true) := by rw [← m01]; exact hS.val (i := 0) (j := 1) (by decide) (by decide)
  have v10 : w3.cell? ⟨g + 1 + 1, 0, none⟩ = some (.bool false) := by rw [← m10]; exact hS.val (i := 1) (j := 0) (by decide) (by decide)
  have v11 : w3.cell? ⟨g + 1 + 1, 1, none⟩ = some (.bool true) := by rw [← m11]; exact hS.val (i := 1) (j := 1) (by decide) (by decide)
  have hS4 := HS.out w3 hb3
  have HS4 := Lib.hid hS4
  clear hS hT m00 m01 m10 m11 hg hS4
  go_wp2_with (go_at_call 23; refine HS4.out.mono ?_; rintro e w4 ⟨B, d, rfl, hd, hrd, hb4⟩; rw [HL.out])
  go_ret
  exact ⟨rfl, hbN.trans ((bthen hb3 hb4).mono hbN.size)⟩
end Go.Proofs.Ytkhhjihbahdepaa
/-! The walk of the law PathsParts. -/
namespace Go.Proofs.Ytkhhjihbahdepaa
open Go.RowKit
theorem kindS_len (l : List Nd) (k : Int) : (kindS l k).length ≤ l.length := Nat.le_trans (List.length_filter_le _ _) (ownS_len l)
set_option maxRecDepth 100000 in
set_option maxHeartbeats 4000000 in
theorem pathsParts_c {F : Fz} {w : World} (hF : Sat F w) (l : List Nd) (Al : Option Addr) (nl cl : Nat) (hl : NodesF F Al nl l) (ns : List Nat) (hns : ∀ k ∈ ns, k < 65536) (B : Option Addr) (m d : Nat) (hr : Rd F 1 B m (ns.map encW)) (hcm : nl ≤ maxLen) :
    Calls Try.prog 7 #[.slice Al nl cl, .slice B m d] w fun e w' => e = .returned (.bool true) ∧ Below w.heap.size w w' := by
  unfold maxLen at hcm
  by_cases hbig : 1000 < nl
  · have hbI : (1000 : Int) < (nl : Int) := by omega
    go_enter Try.func7, Try.ntmps7
    go_wp2_with (go_at_call 18; refine (awake14_w _).mono ?_; rintro e w1 ⟨rfl, hb1⟩)
    go_ret
    exact ⟨rfl, hb1⟩
  have hbI : decide ((1000 : Int) < (nl : Int)) = false := decide_eq_false (by omega)
  have hbN : decide (1000 < nl) = false := decide_eq_false hbig
  have hln : l.length ≤ 1000 := by rw [hl.1]; omega
  have hRg := Lib.hid (reg5_w hF ns hns B m d hr false (regT false ns) rfl)
  have hMk := Lib.hid (fun (X : World) (h : Sat F X) => make_w h ns hns B m d hr false (makeT false ns) rfl)
  have hrn0 := (make_size false ns).2
  have hfn0 := (make_size false ns).1
  have hfm := (ok_form (make_ok false ns hns).1).2.1
  rw [← Tr.length_flat (regT false ns) 0] at hrn0
  rw [← Tr.length_flat (makeT false ns) 0] at hfn0
  have hfk : zs (kindS ((makeT false ns).flat 0) 19) = [] := by unfold kindS; rw [ownS_no hfm]; rfl
  have HFK := Lib.hid hfk
  obtain ⟨r, hre⟩ : ∃ r, (regT false ns).flat 0 = r := ⟨_, rfl⟩
  rw [hre] at hRg hrn0
  obtain ⟨f, hfe⟩ : ∃ f, (makeT false ns).flat 0 = f := ⟨_, rfl⟩
  rw [hfe] at hMk hfn0 HFK
  clear hre hfe hfm hfk hr hns
  obtain ⟨nr, hnr⟩ : ∃ nr, r.length = nr := ⟨_, rfl⟩
  obtain ⟨nf, hnf⟩ : ∃ nf, f.length = nf := ⟨_, rfl⟩
  have HNR := Lib.hid hnr
  have HNF := Lib.hid hnf
  have hrn : r.length ≤ 1000 := by omega
  have hfn : f.length ≤ 1000 := by omega
  have HFN := Lib.hid hfn
  clear hnr hnf hrn0 hfn0 hfn
  go_enter Try.func7, Try.ntmps7
  go_wp2_with fail
  go_at_call 11
  refine hRg.out.mono ?_
  rintro e W ⟨Ar, cr, F1, rfl, hcr, hrN1, hbW, hF1, hle1⟩
  rw [HNR.out] at hrN1 hcr
  rw [HNR.out]
  have hlN := hl.cle (hF.below hbW).cle
  have hrN := hrN1.cle hF1.cle
  have HHL := Lib.hid hl
  have hPlT := fun (X : World) (h : Sat (heapF W) X) => tests_w h l hln Al nl cl hlN
  have hRlT := fun (X : World) (h : Sat (heapF W) X) => rtests_w h l hln Al nl cl hlN
  have hBlT : (zs (kindS l 19)).length ≤ 100000 := by rw [length_zs]; have := kindS_len l 19; omega
  have hPlS := fun (X : World) (h : Sat (heapF W) X) => steps_w h l hln Al nl cl hlN
  have hRlS := fun (X : World) (h : Sat (heapF W) X) => rsteps_w h l hln Al nl cl hlN
  have hBlS : (zs (kindS l 18)).length ≤ 100000 := by rw [length_zs]; have := kindS_len l 18; omega
  have hPrT := fun (X : World) (h : Sat (heapF W) X) => tests_w h r hrn Ar nr cr hrN
  have hRrT := fun (X : World) (h : Sat (heapF W) X) => rtests_w h r hrn Ar nr cr hrN
  have hBrT : (zs (kindS r 19)).length ≤ 100000 := by rw [length_zs]; have := kindS_len r 19; omega
  have hPrS := fun (X : World) (h : Sat (heapF W) X) => steps_w h r hrn Ar nr cr hrN
  have hRrS := fun (X : World) (h : Sat (heapF W) X) => rsteps_w h r hrn Ar nr cr hrN
  have hBrS : (zs (kindS r 18)).length ≤ 100000 := by rw [length_zs]; have := kindS_len r 18; omega
  generalize zs (kindS l 19) = TlT at *
  obtain ⟨NlT, hNlT⟩ : ∃ N, TlT.length = N := ⟨_, rfl⟩
  rw [hNlT] at hBlT
  have HNlT := Lib.hid hNlT
  have HPlT := Lib.hid hPlT
  have HRlT := Lib.hid hRlT
  have HBlT := Lib.hid hBlT
  clear hNlT hPlT hRlT hBlT
  generalize zs (kindS l 18) = TlS at *
  obtain ⟨NlS, hNlS⟩ : ∃ N, TlS.length = N := ⟨_, rfl⟩
  rw [hNlS] at hBlS
  have HNlS := Lib.hid hNlS
  have HPlS := Lib.hid hPlS
  have HRlS := Lib.hid hRlS
  have HBlS := Lib.hid hBlS
  clear hNlS hPlS hRlS hBlS
  generalize zs (kindS r 19) = TrT at *
  obtain ⟨NrT, hNrT⟩ : ∃ N, TrT.length = N := ⟨_, rfl⟩
  rw [hNrT] at hBrT
  have HNrT := Lib.hid hNrT
  have HPrT := Lib.hid hPrT
  have HRrT := Lib.hid hRrT
  have HBrT := Lib.hid hBrT
  clear hNrT hPrT hRrT hBrT
  generalize zs (kindS r 18) = TrS at *
  obtain ⟨NrS, hNrS⟩ : ∃ N, TrS.length = N := ⟨_, rfl⟩
  rw [hNrS] at hBrS
  have HNrS := Lib.hid hNrS
  have HPrS := Lib.hid hPrS
  have HRrS := Lib.hid hRrS
  have HBrS := Lib.hid hBrS
  clear hNrS hPrS hRrS hBrS
  have hG0 : Sat (heapF W) W := sat_heapF W
  have q_0 := hbW
  clear hl hlN hrN hrN1 hln hrn hle1
  go_wp2_with fail
  go_at_call 22
  refine (HPlT.out _ hG0).mono ?_
  rintro e x0 ⟨A0, c0, rfl, _, r0, b0⟩
  rw [HNlT.out] at r0
  rw [HNlT.out]
  have hG1 := hG0.below b0
  have q0 := bthen q_0 b0
  go_wp2_with fail
  go_at_call 14
  refine (HRlT.out _ hG1).mono ?_
  rintro e x1 ⟨A1, c1, rfl, _, r1, b1⟩
  rw [HNlT.out] at r1
  rw [HNlT.out]
  have s0 := Rd.cle r0 (cle_below b1)
  have E0 := Lib.hid (equalInts_w (sat_heapF x1) TlT TlT A0 A1 _ _ c0 c1 (by rw [HNlT.out]; exact HBlT.out) s0 r1)
  rw [decide_eq_true rfl] at E0
  go_wp2_with fail
  go_at_call 21
  refine E0.out.mono ?_
  rintro e y0 ⟨rfl, d0, rfl⟩
  have q_2 := below_drewN (bthen q0 b1) d0
  have hG2 : Sat (heapF W) (x1.drewN d0) := (hG1.below b1).drewN d0
  clear E0 s0 r0 r1
  go_wp2_with fail
  go_at_call 23
  refine (HPlS.out _ hG2).mono ?_
  rintro e x2 ⟨A2, c2, rfl, _, r2, b2⟩
  rw [HNlS.out] at r2
  rw [HNlS.out]
  have hG3 := hG2.below b2
  have q2 := bthen q_2 b2
  go_wp2_with fail
  go_at_call 24
  refine (HRlS.out _ hG3).mono ?_
  rintro e x3 ⟨A3, c3, rfl, _, r3, b3⟩
  rw [HNlS.out] at r3
  rw [HNlS.out]
  have s2 := Rd.cle r2 (cle_below b3)
  have E1 := Lib.hid (equalInts_w (sat_heapF x3) TlS TlS A2 A3 _ _ c2 c3 (by rw [HNlS.out]; exact HBlS.out) s2 r3)
  rw [decide_eq_true rfl] at E1
  go_wp2_with fail
  go_at_call 21
  refine E1.out.mono ?_
  rintro e y1 ⟨rfl, d1, rfl⟩
  have q_4 := below_drewN (bthen q2 b3) d1
  have hG4 : Sat (heapF W) (x3.drewN d1) := (hG3.below b3).drewN d1
  clear E1 s2 r2 r3
  go_wp2_with fail
  go_at_call 22
  refine (HPrT.out _ hG4).mono ?_
  rintro e x4 ⟨A4, c4, rfl, _, r4, b4⟩
  rw [HNrT.out] at r4
  rw [HNrT.out]
  have hG5 := hG4.below b4
  have q4 := bthen q_4 b4
  go_wp2_with fail
  go_at_call 14
  refine (HRrT.out _ hG5).mono ?_
  rintro e x5 ⟨A5, c5, rfl, _, r5, b5⟩
  rw [HNrT.out] at r5
  rw [HNrT.out]
  have s4 := Rd.cle r4 (cle_below b5)
  have E2 := Lib.hid (equalInts_w (sat_heapF x5) TrT TrT A4 A5 _ _ c4 c5 (by rw [HNrT.out]; exact HBrT.out) s4 r5)
  rw [decide_eq_true rfl] at E2
  go_wp2_with fail
  go_at_call 21
  refine E2.out.mono ?_
  rintro e y2 ⟨rfl, d2, rfl⟩
  have q_6 := below_drewN (bthen q4 b5) d2
  have hG6 : Sat (heapF W) (x5.drewN d2) := (hG5.below b5).drewN d2
  clear E2 s4 r4 r5
  go_wp2_with fail
  go_at_call 23
  refine (HPrS.out _ hG6).mono ?_
  rintro e x6 ⟨A6, c6, rfl, _, r6, b6⟩
  rw [HNrS.out] at r6
  rw [HNrS.out]
  have hG7 := hG6.below b6
  have q6 := bthen q_6 b6
  go_wp2_with fail
  go_at_call 24
  refine (HRrS.out _ hG7).mono ?_
  rintro e x7 ⟨A7, c7, rfl, _, r7, b7⟩
  rw [HNrS.out] at r7
  rw [HNrS.out]
  have s6 := Rd.cle r6 (cle_below b7)
  have E3 := Lib.hid (equalInts_w (sat_heapF x7) TrS TrS A6 A7 _ _ c6 c7 (by rw [HNrS.out]; exact HBrS.out) s6 r7)
  rw [decide_eq_true rfl] at E3
  go_wp2_with fail
  go_at_call 21
  refine E3.out.mono ?_
  rintro e y3 ⟨rfl, d3, rfl⟩
  have q_8 := below_drewN (bthen q6 b7) d3
  have hG8 : Sat (heapF W) (x7.drewN d3) := (hG7.below b7).drewN d3
  clear E3 s6 r6 r7
  have hFX : Sat F (x7.drewN d3) := hF.below q_8
  go_wp2_with fail
  go_at_call 25
  refine (hMk.out _ hFX).mono ?_
  rintro e z1 ⟨Af, cf, F2, rfl, hcf, hfN, hz1, hF2, hle2⟩
  rw [HNF.out] at hfN hcf
  rw [HNF.out]
  have q9 := bthen q_8 hz1
  have hT := Lib.hid (tests_w hF2 f HFN.out Af nf cf hfN)
  rw [HFK.out] at hT
  go_wp2_with fail
  go_at_call 22
  refine hT.out.mono ?_
  rintro e z2 ⟨At, ct, rfl, hct, hrt, hz2⟩
  have q10 := bthen q9 hz2
  go_wp2_with fail
  go_at_call 18
  refine (awake14_w _).mono ?_
  rintro e z3 ⟨rfl, hz3⟩
  go_wp2_with fail
  go_ret
  exact ⟨rfl, bthen q10 hz3⟩
end Go.Proofs.Ytkhhjihbahdepaa
