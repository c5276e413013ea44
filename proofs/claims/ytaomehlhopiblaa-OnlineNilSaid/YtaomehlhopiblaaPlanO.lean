/- The walk of of: a plan is made. -/
import Derived.Test.YtaomehlhopiblaaPlanA
import Derived.Test.YtaomehlhopiblaaPlanG
import Derived.Test.YtaomehlhopiblaaPlanR
import Derived.Test.YtaomehlhopiblaaOwn
set_option linter.unusedVariables false
set_option linter.unusedSimpArgs false
/-! The walk of of: a plan is made. -/
namespace Go.Proofs.Ytaomehlhopiblaa
open Go.RowKit
attribute [local go_sem ↓] Go.wp_at_zero Go.wp_at_succ
/-- The tests are handed in: the slice at A of n functions reads as z. -/
def TsF (m : Nat) (F : Fz) (A : Option Addr) (n : Nat) (z : Zf) : Prop := (∀ q, q < n → ∃ ad v, A = some ad ∧ F.cell (ad.add q) = some v ∧ WdF m F v (z q)) ∧ ∀ q, n ≤ q → ∀ x, z q x = false
theorem mkF (n : Nat) (hn : n ≤ 1000) (w : World) : (Instr.makeSlice 108 (.int .i64 (n : Int)) (.int .i64 (n : Int))).run Try.prog w = .ok (.slice (some ⟨w.heap.size, 0, none⟩) n n) (w.alloc (.cells (zeros (.slice none 0 0) n) 113)) :=
  run_make1 _ _ _ 24 Try.underlying108 (by kernel_rfl) rfl n (by omega) (by omega) w
theorem mkU (n : Nat) (hn : n ≤ 1000) (w : World) : (Instr.makeSlice 30 (.int .i64 (n : Int)) (.int .i64 (n : Int))).run Try.prog w = .ok (.slice (some ⟨w.heap.size, 0, none⟩) n n) (w.alloc (.cells (zeros (.int .i64 0) n) 3)) :=
  run_make1 _ _ _ 8 Try.underlying30 (by kernel_rfl) rfl n (by omega) (by omega) w
theorem fb_new (w : World) (M m : Nat) (Gs : List Nat) : FB (w.alloc (.cells (zeros (.slice none 0 0) M) 113)) w.heap.size M Gs m (fun _ => []) :=
  ⟨List.replicate M (.slice none 0 0), Blk.new w _ _, by simp, fun j hj => ⟨none, 0, by simp [hj], Nat.le_refl _, PlF.nil _ _ _⟩⟩
theorem rd_farO {w : World} {size n : Nat} {A : Option Addr} {xs : List Value} (h : Rd (heapF w) size A n xs) {p : Addr} (hne : ∀ a, A = some a → a.block ≠ p.block) (v : Value) : Rd (heapF (w.setCell p v)) size A n xs := by
  refine ⟨h.1, fun h0 => ?_⟩
  obtain ⟨ad, e, hc⟩ := h.2 h0
  refine ⟨ad, e, fun j u hu => ?_⟩
  have := hc j u hu
  unfold Fz.cell heapF at this ⊢
  rw [Below.heap_setCell w p v _ (by rw [block_of_add]; exact hne ad e)]
  exact this
theorem bel_drew {B : Nat} {a w : World} (h : Below B a w) : Below B a w.drew := bel_eqv h rfl rfl rfl rfl
theorem bdrew (w : World) (o : Obj) : Below w.heap.size w (w.alloc o).drew := bel_drew (balloc w o)
theorem bdrew0 (w : World) : Below w.heap.size w w.drew := bel_drew (Below.refl _ _)
set_option maxRecDepth 100000 in
set_option maxHeartbeats 8000000 in
theorem aof_w {F : Fz} {w : World} (hF : Sat F w) (m : Nat) (hm : m ≤ 10) (l : List Nd) (hn : l.length ≤ 1000) (Al : Option Addr) (N cl : Nat) (hl : NodesF F Al N l) {t : Tr} (ht : treeS l = some t) (hr : regS t.root.kind = true) (At : Option Addr) (nt ct : Nat) (hnt : nt ≤ 1000) (z : Zf) (hT : TsF m F At nt z) :
    Calls Try.prog 60 #[.int .i64 (m : Nat), .slice Al N cl, .slice At nt ct] w fun e w' => ∃ gp M ss As cs gu gz gf, e = .returned (.pointer (some ⟨gp, 0, none⟩)) ∧ Below w.heap.size w w' ∧ Plan (heapF w') gp m l t z M ss Al N cl As cs gu gz gf := by
  have hW := Lib.hid (fun (X : World) => words_yes m hm X)
  have hw1 : wordsN m ≠ 0 := by unfold wordsN; split <;> simp
  have hreg : regL l = true := by unfold regL; rw [ht]; exact hr
  have hR := Lib.hid (fun (X : World) (h : Sat F X) => treg_w h l hn Al N cl hl true hreg)
  have hS := Lib.hid (fun (X : World) (h : Sat F X) => steps_wF h l hn Al N cl hl)
  have hTs := Lib.hid (fun (X : World) (h : Sat F X) => tests_wF h l hn Al N cl hl)
  have hNl : N = l.length := hl.1.symm
  have hNt : N = t.size := by rw [hNl]; exact tree_len ht
  have hN1 : 1 ≤ N := by have := t.size_pos; omega
  have hNb : N ≤ 1000 := by omega
  have hwI : ((wordsN m : Int) == 0) = false := by rw [beq_eq_false_iff_ne]; omega
  have hmk1 := fun (X : World) => mkU N hNb X
  have HNT := Lib.hid hNt
  have HRV := Lib.hid (regV_of (tree_valid ht) hr)
  clear hw1 hNl hNt
  go_enter Try.func60, Try.ntmps60
  go_wp2_with (first
    | (go_at_call 15; refine (hW.out _).mono ?_; rintro e w' ⟨rfl, rfl⟩)
    | (go_at_call 70; refine (hR.out _ hF).mono ?_; rintro e w1 ⟨rfl, hw1⟩))
  have hF1 := hF.below hw1
  obtain ⟨ks, hks⟩ : ∃ ks, kindS l 18 = ks := ⟨_, rfl⟩
  rw [hks] at hS
  obtain ⟨M, hM⟩ : ∃ M, (zs ks).length = M := ⟨_, rfl⟩
  have HM := Lib.hid hM
  have HKS := Lib.hid hks
  clear hM hks
  go_cut [7] from 24 to 32 (fun v7 wx => ∃ (gp gu : Nat) (As : Option Addr) (cs : Nat), v7 = .pointer (some ⟨gp, 0, none⟩) ∧ Blk wx gp 110 #[.int .i64 (m : Nat), .slice Al N cl, .slice As M cs, .slice (some ⟨gu, 0, none⟩) N N, .slice none 0 0, .slice none 0 0] ∧ Blk wx gu 3 (zeros (.int .i64 0) N) ∧ gp ≠ gu ∧ w1.heap.size ≤ gp ∧ w1.heap.size ≤ gu ∧ (∀ a, As = some a → 0 < M → a.block ≠ gu ∧ a.block ≠ gp ∧ a.block < wx.heap.size) ∧ Rd (heapF wx) 1 As M ((zs ks).map encI) ∧ Below w1.heap.size w1 wx)
  case first =>
    clear hW hR hTs hl hT hF
    go_region_with (go_at_call 57; refine (hS.out _ (by first | exact hF1.drew | exact (hF1.alloc _).drew)).mono ?_; rintro e w3 ⟨As, cs, rfl, hcs, hrs, hb3, hfs⟩; rw [HM.out] at hrs; rw [HM.out])
    all_goals
      go_wp2_with fail
      go_meet
      first
        | (have hb3' : Below w1.heap.size w1 w3 := undr hb3
           have hz3 := hb3'.size
           have hlt := rd_lt hrs
           have hbb : Below w3.heap.size w3 ((w3.alloc (.cells (zeros (.int .i64 0) N) 3)).alloc (.cells #[.int .i64 (m : Nat), .slice Al N cl, .slice As M cs, .slice (some ⟨w3.heap.size, 0, none⟩) N N, .slice none 0 0, .slice none 0 0] 110)) := (balloc _ _).alloc (by simp) _
           exact ⟨_, _, As, cs, rfl, Blk.new2 _ _ _ _, (Blk.new _ _ _).alloc _, by omega, by omega, by omega, fun a ha h0 => by have := hlt h0 a ha; exact ⟨by omega, by omega, by simp; omega⟩, rd_call hrs hbb, hb3'.trans (hbb.mono hz3)⟩)
        | (have hb3' : Below (w1.alloc (.cells (zeros (.int .i64 0) N) 3)).heap.size (w1.alloc (.cells (zeros (.int .i64 0) N) 3)) w3 := undr hb3
           have hz3 := hb3'.size
           have hz4 : w1.heap.size + 1 ≤ w3.heap.size := by simp at hz3; omega
           have hlt := rd_lt hrs
           have hku := (Blk.new w1 3 (zeros (.int .i64 0) N)).call hb3'
           have hfs' : ∀ a, As = some a → w1.heap.size + 1 ≤ a.block := fun a ha => by have := hfs a ha; rw [show ((w1.alloc (.cells (zeros (.int .i64 0) N) 3)).drew).heap.size = w1.heap.size + 1 by show (w1.alloc _).heap.size = _; simp] at this; exact this
           exact ⟨_, _, As, cs, rfl, Blk.new _ _ _, hku.alloc _, by omega, by omega, by omega, fun a ha h0 => by have := hlt h0 a ha; have := hfs' a ha; exact ⟨by omega, by omega, by simp; omega⟩, rd_call hrs (balloc _ _), ((balloc w1 _).trans (hb3'.mono (by simp))).alloc (by omega) _⟩)
  case rest =>
    obtain ⟨gp, gu, As, cs, rfl, hkp, hku, hne, hgp, hgu, hAs, hRs, hbc⟩ := hcut
    have hzc := hbc.size
    have hgl := Blk.lt hkp
    have hul := hku.lt
    have hmk2 := fun (X : World) => makeR N (by omega) X
    have hmk3 := fun (X : World) => mkF N hNb X
    clear hmk1
    go_wp2_with fail
    go_cut [33] from 33 to 44 (fun _ wx => ∃ gz gf : Nat, Blk wx gp 110 #[.int .i64 (m : Nat), .slice Al N cl, .slice As M cs, .slice (some ⟨gu, 0, none⟩) N N, .slice (some ⟨gz, 0, none⟩) N N, .slice (some ⟨gf, 0, none⟩) N N] ∧ ZB wx gz N [gu, gz, gf] m (fun _ _ => false) ∧ FB wx gf N [gu, gz, gf] m (fun _ => []) ∧ Blk wx gu 3 (zeros (.int .i64 0) N) ∧ gz ≠ gf ∧ wc.heap.size ≤ gz ∧ wc.heap.size ≤ gf ∧ Rd (heapF wx) 1 As M ((zs ks).map encI) ∧ Below w1.heap.size w1 wx)
    case first =>
      have HKP := Lib.hid hkp
      have HKU := Lib.hid hku
      have HRS := Lib.hid hRs
      have HBC := Lib.hid hbc
      have HAS := Lib.hid hAs
      obtain ⟨f0, f1⟩ : wc.frozen? ⟨gp, 4, none⟩ = false ∧ wc.frozen? ⟨gp, 5, none⟩ = false := ⟨hkp.frozen 4, hkp.frozen 5⟩
      have d4 : wc.cell? ⟨gp, 4, none⟩ = some (.slice none 0 0) := by rw [hkp.cell]; rfl
      have d5 : wc.cell? ⟨gp, 5, none⟩ = some (.slice none 0 0) := by rw [hkp.cell]; rfl
      clear hkp hku hRs hbc hAs hW hR hTs hl hT hF hF1 hS
      go_region
      all_goals
        go_wp2_with fail
        go_meet
        first
          | (obtain ⟨V, hV⟩ : ∃ V, (wc.setCell ⟨gp, 4, none⟩ (.slice (some ⟨wc.heap.size, 0, none⟩) N N)).setCell ⟨gp, 5, none⟩ (.slice (some ⟨wc.heap.size + 1, 0, none⟩) N N) = V := ⟨_, rfl⟩
             have hVk : Blk V gp 110 #[.int .i64 (m : Nat), .slice Al N cl, .slice As M cs, .slice (some ⟨gu, 0, none⟩) N N, .slice (some ⟨wc.heap.size, 0, none⟩) N N, .slice (some ⟨wc.heap.size + 1, 0, none⟩) N N] := hV ▸ ((HKP.out.set_ 4 (.slice (some ⟨wc.heap.size, 0, none⟩) N N)).set_ 5 (.slice (some ⟨wc.heap.size + 1, 0, none⟩) N N))
             have hVu : Blk V gu 3 (zeros (.int .i64 0) N) := hV ▸ ((HKU.out.far (p := ⟨gp, 4, none⟩) (Ne.symm hne) _).far (p := ⟨gp, 5, none⟩) (Ne.symm hne) _)
             have hVs : V.heap.size = wc.heap.size := by rw [← hV]; simp
             have hVb : Below w1.heap.size w1 V := hV ▸ ((HBC.out.setCell (p := ⟨gp, 4, none⟩) hgp _).setCell (p := ⟨gp, 5, none⟩) hgp _)
             have hVr : Rd (heapF V) 1 As M ((zs ks).map encI) := by
               rw [← hV]
               rcases Nat.eq_zero_or_pos M with h0 | h0
               · exact ⟨HRS.out.1, fun h => absurd h (by omega)⟩
               · exact rd_farO (rd_farO HRS.out (p := ⟨gp, 4, none⟩) (fun a ha => (HAS.out a ha h0).2.1) _) (p := ⟨gp, 5, none⟩) (fun a ha => (HAS.out a ha h0).2.1) _
             rw [hV]
             clear hV
             have hz := (zb_new V N m [gu, wc.heap.size, wc.heap.size + 1])
             rw [hVs] at hz
             have hz2 := hz.call (bdrew _ (.cells (zeros (.slice none 0 0) N) 113))
             have hf := fb_new (V.alloc (.cells (zeros (.slice none 0 0) N) 49)) N m [gu, wc.heap.size, wc.heap.size + 1]
             rw [show (V.alloc (.cells (zeros (.slice none 0 0) N) 49)).heap.size = wc.heap.size + 1 by simp [hVs]] at hf
             have hbb : Below V.heap.size V ((V.alloc (.cells (zeros (.slice none 0 0) N) 49)).alloc (.cells (zeros (.slice none 0 0) N) 113)).drew := bel_drew ((balloc _ _).alloc (by simp) _)
             have hf3 := hf.call (bdrew0 _)
             exact ⟨wc.heap.size, wc.heap.size + 1, hVk.call hbb, hz2, hf3, hVu.call hbb, by omega, by omega, by omega, rd_call hVr hbb, hVb.trans (hbb.mono (by omega))⟩)
          | (obtain ⟨V, hV⟩ : ∃ V, (wc.setCell ⟨gp, 4, none⟩ (.slice (some ⟨wc.heap.size + 1, 0, none⟩) N N)).setCell ⟨gp, 5, none⟩ (.slice (some ⟨wc.heap.size, 0, none⟩) N N) = V := ⟨_, rfl⟩
             have hVk : Blk V gp 110 #[.int .i64 (m : Nat), .slice Al N cl, .slice As M cs, .slice (some ⟨gu, 0, none⟩) N N, .slice (some ⟨wc.heap.size + 1, 0, none⟩) N N, .slice (some ⟨wc.heap.size, 0, none⟩) N N] := hV ▸ ((HKP.out.set_ 4 (.slice (some ⟨wc.heap.size + 1, 0, none⟩) N N)).set_ 5 (.slice (some ⟨wc.heap.size, 0, none⟩) N N))
             have hVu : Blk V gu 3 (zeros (.int .i64 0) N) := hV ▸ ((HKU.out.far (p := ⟨gp, 4, none⟩) (Ne.symm hne) _).far (p := ⟨gp, 5, none⟩) (Ne.symm hne) _)
             have hVs : V.heap.size = wc.heap.size := by rw [← hV]; simp
             have hVb : Below w1.heap.size w1 V := hV ▸ ((HBC.out.setCell (p := ⟨gp, 4, none⟩) hgp _).setCell (p := ⟨gp, 5, none⟩) hgp _)
             have hVr : Rd (heapF V) 1 As M ((zs ks).map encI) := by
               rw [← hV]
               rcases Nat.eq_zero_or_pos M with h0 | h0
               · exact ⟨HRS.out.1, fun h => absurd h (by omega)⟩
               · exact rd_farO (rd_farO HRS.out (p := ⟨gp, 4, none⟩) (fun a ha => (HAS.out a ha h0).2.1) _) (p := ⟨gp, 5, none⟩) (fun a ha => (HAS.out a ha h0).2.1) _
             rw [hV]
             clear hV
             have hf := (fb_new V N m [gu, wc.heap.size + 1, wc.heap.size])
             rw [hVs] at hf
             have hf2 := hf.call (bdrew _ (.cells (zeros (.slice none 0 0) N) 49))
             have hz := zb_new (V.alloc (.cells (zeros (.slice none 0 0) N) 113)) N m [gu, wc.heap.size + 1, wc.heap.size]
             rw [show (V.alloc (.cells (zeros (.slice none 0 0) N) 113)).heap.size = wc.heap.size + 1 by simp [hVs]] at hz
             have hbb : Below V.heap.size V ((V.alloc (.cells (zeros (.slice none 0 0) N) 113)).alloc (.cells (zeros (.slice none 0 0) N) 49)).drew := bel_drew ((balloc _ _).alloc (by simp) _)
             have hz3 := hz.call (bdrew0 _)
             exact ⟨wc.heap.size + 1, wc.heap.size, hVk.call hbb, hz3, hf2, hVu.call hbb, by omega, by omega, by omega, rd_call hVr hbb, hVb.trans (hbb.mono (by omega))⟩)
    case rest =>
      obtain ⟨gz, gf, hkp', hZ, hFB, hku', hzf, hgz, hgf, hRs', hbc'⟩ := hcut
      have hF2 : Sat F wc := hF1.below (hbc'.mono (Nat.le_refl _))
      have d3 : wc.cell? ⟨gp, 3, none⟩ = some (.slice (some ⟨gu, 0, none⟩) N N) := by rw [hkp'.cell]; rfl
      have fu : wc.frozen? ⟨gu, N - 1, none⟩ = false := hku'.frozen _
      have hrt : IntKind.i64.wrap ((N : Int) - 1) = ((N - 1 : Nat) : Int) := by rw [show (N : Int) - 1 = ((N - 1 : Nat) : Int) by omega]; exact IntWalk.i64_in _ (by omega)
      have hrt2 : (N : Int) - 1 = ((N - 1 : Nat) : Int) := by omega
      have hNl : N - 1 < N := by omega
      have hNi : ((N - 1 : Nat) : Int) < (N : Int) := by omega
      have du : wc.cell? ⟨gu, N - 1, none⟩ = some (.int .i64 0) := by rw [hku'.cell]; simp [zeros, hNl]
      go_wp2_with fail
      have hkp2 := hkp'.far (p := ⟨gu, N - 1, none⟩) hne (.int .i64 (-1))
      have hku2 := hku'.set_ (N - 1) (.int .i64 (-1))
      have hZ2 := hZ.far (g' := gu) (by simp) (by omega) (N - 1) (.int .i64 (-1))
      have hFB2 := hFB.far (g' := gu) (by simp) (by omega) (N - 1) (.int .i64 (-1))
      have hRs2 : Rd (heapF (wc.setCell ⟨gu, N - 1, none⟩ (.int .i64 (-1)))) 1 As M ((zs ks).map encI) := by
        rcases Nat.eq_zero_or_pos M with h0 | h0
        · exact ⟨hRs'.1, fun h => absurd h (by omega)⟩
        · exact rd_farO hRs' (p := ⟨gu, N - 1, none⟩) (fun a ha => (hAs a ha h0).1) _
      have hb2 := hbc'.setCell (p := ⟨gu, N - 1, none⟩) hgu (.int .i64 (-1))
      obtain ⟨wt, hwt⟩ : ∃ wt, wc.setCell ⟨gu, N - 1, none⟩ (.int .i64 (-1)) = wt := ⟨_, rfl⟩
      rw [hwt] at hkp2 hku2 hZ2 hFB2 hRs2 hb2 ⊢
      clear hwt du fu d3 hkp' hku' hZ hFB hRs' hbc' hF2
      have hF3 : Sat F wt := hF1.below hb2
      go_at_call 37
      refine (hTs.out _ hF3).mono ?_
      rintro e w3 ⟨Aq, cq, rfl, hcq, hRq, hb3, hfq⟩
      obtain ⟨qs, hqs⟩ : ∃ qs, kindS l 19 = qs := ⟨_, rfl⟩
      have HQS := Lib.hid hqs
      rw [hqs] at hRq hcq ⊢
      clear hqs hTs
      obtain ⟨T, hTn⟩ : ∃ T, (zs qs).length = T := ⟨_, rfl⟩
      have hTq : T = qs.length := by rw [← hTn]; simp [zs]
      rw [hTn] at hRq hcq ⊢
      have HTQ := Lib.hid hTq
      have hTb : T ≤ 1000 := by
        have h1 := length_tests t 0
        have h2 := testsT_le t
        rw [← kind_tests2 ht hr, HQS.out] at h1
        have := HNT.out
        omega
      clear hTn hTq
      have hzl2 := hZ2.lt
      have hkp3 := hkp2.call hb3
      have hku3 := hku2.call hb3
      have hZ3 := hZ2.call hb3
      have hFB3 := hFB2.call hb3
      have hRs3 := rd_call hRs2 hb3
      have hF4 := hF3.below hb3
      have hb4 := hb2.trans (hb3.mono hb2.size)
      go_wp2_with fail
      have HGS : Hid (∀ g, g ∈ [gu, gz, gf] → F g = none) := Lib.hid (fun g hg => by have h1 := hw1.size; simp at hg; rcases hg with rfl | rfl | rfl <;> exact hF.none_ (by omega))
      have hgpG : gp ∉ [gu, gz, gf] := by simp; omega
      have HRX : Hid (Rd (hx w3 [gu, gz, gf]) 1 As M ((zs ks).map encI)) := Lib.hid (rd_hx hRs3 (fun a ha h0 => by have := hAs a ha h0; simp; omega))
      have HKS2 : Hid (ks = stepsL t 0) := Lib.hid (by rw [← HKS.out]; exact kind_steps2 ht hr)
      have HU3 : Hid (UB w3 gu N (fun i => if i = N - 1 then -1 else 0)) := Lib.hid ⟨(List.replicate N (.int .i64 0)).set (N - 1) (.int .i64 (-1)), by have := hku3; rw [show ((List.replicate N (Value.int .i64 0)).set (N - 1) (.int .i64 (-1))).toArray = (zeros (.int .i64 0) N).setIfInBounds (N - 1) (.int .i64 (-1)) by simp [zeros, ← List.toArray_replicate]]; exact this, by simp, fun j hj => by
        show _ = some (Value.int .i64 (if j = N - 1 then -1 else 0))
        by_cases e : j = N - 1
        · subst e; rw [List.getElem?_set_self (by simpa using hj), if_pos rfl]
        · rw [List.getElem?_set_ne (by omega), if_neg e]; simp [hj]⟩
      have HFB3 := Lib.hid hFB3
      have HB4 := Lib.hid hb4
      have HT := Lib.hid ht
      have HRg := Lib.hid hr
      have HL := Lib.hid hl
      clear hRs3 hku3 hFB3 hb4 hAs hku2 hFB2 hRs2 hb2 hkp2 hZ2 hl
      have HGZ : Hid (∀ g, g ∈ [gz] → F g = none) := Lib.hid (fun g hg => HGS.out g (by simp at hg; subst hg; simp))
      go_loopw [8, 9, 56] (fun _ _ v56 wr => ∃ j : Nat, j ≤ T ∧ v56 = .int .i64 j ∧ ZB wr gz N [gu, gz, gf] m (zer1 t z j) ∧ Wr [gz] w3 wr) (fun _ _ v56 _ => T - (intOf v56).toNat)
      case atStart => exact ⟨0, Nat.zero_le _, rfl, hZ3.same (fun i hi x hx => (zer1_zero t z i x).symm), Wr.refl _ _⟩
      case round =>
        obtain ⟨j, hj, rfl, hZr, hwr⟩ := hrel
        have hkr := hwr.blk hkp3 (by simp; omega)
        have p4 : wr.cell? ⟨gp, 4, none⟩ = some (.slice (some ⟨gz, 0, none⟩) N N) := by rw [hkr.cell]; rfl
        by_cases hlt : j < T
        · have hjI : (j : Int) < (T : Int) := by omega
          obtain ⟨aq, u, rfl, hu, hc⟩ := hRq.at1 hlt
          obtain ⟨p, hp⟩ : ∃ p, qs[j]? = some p := ⟨_, List.getElem?_eq_getElem (by have := HTQ.out; omega)⟩
          have hup : u = .int .i64 (p : Nat) := by
            have := hu
            simp [zs, hp, encI] at this
            exact this.symm
          subst hup
          have hcw : wr.cell? (aq.add j) = some (.int .i64 (p : Nat)) := by
            have hne : (aq.add j).block ≠ gz := by rw [block_of_add]; have := hfq aq rfl; omega
            refine (sat_hx wr [gz]).cell (hwr.cle _ _ ?_)
            unfold Fz.cell hx at *
            unfold heapF at hc
            rw [if_neg (by simpa using hne)]
            exact hc
          have HqT : Hid (qs = testsL t 0) := Lib.hid (by rw [← HQS.out]; exact kind_tests2 ht hr)
          have hpN : p < N := by rw [HqT.out] at hp; have := (test_facts HRV.out hp).1; have := HNT.out; omega
          by_cases hjt : j < nt
          · have hjtI : (j : Int) < (nt : Int) := by omega
            obtain ⟨ad, v, rfl, hcv, hWv⟩ := hT.1 j hjt
            have hFr := hwr.sat hF4 HGZ.out
            obtain ⟨A3, n3, c3, f3, rfl, hh⟩ := id hWv
            clear hh
            have hcv2 := hFr.cell hcv
            obtain ⟨vi, zi, _⟩ := hZr.at_ hpN
            have zs_ := hZr.soft p
            have hpI : (p : Int) < (N : Int) := by omega
            go_wp2_with fail
            have HWV := Lib.hid hWv
            clear hWv
            go_region
            all_goals
              go_wp2_with fail
              go_roundw
              case rel => exact ⟨j + 1, by omega, by go_num, (hZr.set (by simp) hpN (HWV.out.cle (cle_hx hFr HGS.out))).same (fun i hi x hx => by rw [zer1_step HRV.out z (HqT.out ▸ hp) i x (by have := HNT.out; omega)]; unfold upd; split <;> rfl), by first | exact hwr.set (by simp) p (.slice A3 n3 c3) | exact hwr.drew.set (by simp) p (.slice A3 n3 c3)⟩
              case measure => simp [intOf]; omega
          · have hjtI : decide ((j : Int) < (nt : Int)) = false := decide_eq_false (by omega)
            have HTZ := Lib.hid (hT.2 j (by omega))
            go_wp2_with fail
            go_roundw
            case rel => exact ⟨j + 1, by omega, by go_num, hZr.same (fun i hi x hx => (zer1_skip z HTZ.out i x).symm), hwr⟩
            case measure => simp [intOf]; omega
        · obtain rfl : j = T := by omega
          have hdec : decide ((j : Int) < (j : Int)) = false := decide_eq_false (by omega)
          have p2 : wr.cell? ⟨gp, 2, none⟩ = some (.slice As M cs) := by rw [hkr.cell]; rfl
          have hTT : j = testsT t := by rw [HTQ.out, ← HQS.out, kind_tests2 HT.out HRg.out, length_tests]
          have HZ4 : Hid (ZB wr gz N [gu, gz, gf] m (zer1 t z (testsT t))) := Lib.hid (hTT ▸ hZr)
          have HF4 : Hid (FB wr gf N [gu, gz, gf] m (fun _ => [])) := Lib.hid (HFB3.out.wr hwr (by simp) (by simp; omega))
          have HU4 := Lib.hid (HU3.out.wr hwr (by simp; omega))
          have HRX4 := Lib.hid (HRX.out.cle (hwr.more (Hs := [gu, gz, gf]) (by simp)).cle)
          have HPB4 := Lib.hid hkr
          have hFr := hwr.sat hF4 HGZ.out
          have HB5 := Lib.hid (hwr.below (B := w1.heap.size) (fun g hg => by simp at hg; omega) (by have := HB4.out.size; omega))
          have HKM : Hid (ks.length = M) := Lib.hid (by rw [← HM.out]; simp [zs])
          have HMS : Hid (stepsN t = M) := Lib.hid (by rw [← HKM.out, HKS2.out, length_stepsL t 0 HRV.out])
          have hMb : M ≤ 1000 := by have h1 := stepsN_le t; have h2 := HMS.out; have h3 := HNT.out; omega
          have hgz4 : gz < wr.heap.size := HZ4.out.lt
          have hgf4 : gf < wr.heap.size := HF4.out.lt
          have hgu4 : gu < wr.heap.size := HU4.out.lt
          have hgp4 : gp < wr.heap.size := hkr.lt
          clear hZr hZ3 hkp3 hRq hT hfq hTT HFB3 HU3 HRX
          go_wp2_with fail
          have HYes := Lib.hid (fun (X : World) => q_yes hm (w := X))
          clear hwI
          obtain ⟨w4, hw4⟩ : ∃ w4, w4 = wr := ⟨_, rfl⟩
          subst hw4
          go_loopw [10, 11, 81] (fun _ _ v81 wr => ∃ j : Nat, j ≤ M ∧ v81 = .int .i64 j ∧ FB wr gf N [gu, gz, gf] m (fst1 t j) ∧ Wr [gf] w4 wr) (fun _ _ v81 _ => M - (intOf v81).toNat)
          case atStart => exact ⟨0, Nat.zero_le _, rfl, HF4.out.eq (fun i _ => (fst1_zero t i).symm), Wr.refl _ _⟩
          case round =>
            obtain ⟨j, hj, rfl, hFx, hwr⟩ := hrel
            have hkr := hwr.blk HPB4.out (by simp; omega)
            have hzx := hwr.size
            by_cases hlt : j < M
            · have hjI : (j : Int) < (M : Int) := by omega
              obtain ⟨aq, u, eA, hu, hc⟩ := (HRX4.out.cle (hwr.more (Hs := [gu, gz, gf]) (by simp)).cle).at1 hlt
              subst eA
              obtain ⟨p, hp⟩ : ∃ p, ks[j]? = some p := ⟨_, List.getElem?_eq_getElem (by have := HKM.out; omega)⟩
              have hup : u = .int .i64 (p : Nat) := by
                have := hu
                simp [zs, hp, encI] at this
                exact this.symm
              subst hup
              have hcw := (sat_hx wr _).cell hc
              have hp' : (stepsL t 0)[j]? = some p := HKS2.out ▸ hp
              have hpN : p < N := by have h := (step_facts HRV.out hp').1; have := HNT.out; omega
              have hpI : (p : Int) < (N : Int) := by omega
              have p5 : wr.cell? ⟨gp, 5, none⟩ = some (.slice (some ⟨gf, 0, none⟩) N N) := by rw [hkr.cell]; rfl
              have n0 : (⟨gf, p, none⟩ : Addr) ≠ ⟨gp, 5, none⟩ := addr_b (by omega)
              have HFX := Lib.hid hFx
              have HWR := Lib.hid hwr
              have HP' := Lib.hid hp'
              have HGX : Hid (∀ g, g ∈ [gu, gz, gf] → g < wr.heap.size) := Lib.hid (fun g hg => by simp at hg; omega)
              have hgpx : gp < wr.heap.size := by omega
              clear hFx hwr hu hc hp hp' hFr hF3 hF4 hF1 hF
              go_wp2_with fail
              go_region_held3 (fun w' => w'.cell? ⟨gp, 5, none⟩ = some (.slice (some ⟨gf, 0, none⟩) N N)) (first | go_keep | exact cellNe n0 s0 | exact ((balloc _ _).cell (p := ⟨gp, 5, none⟩) (by simp; omega)).trans (cellNe n0 s0))
                (first
                  | (go_at_call 18; refine (HYes.out _).mono ?_; rintro e w5 hr5; refine (fun hr => ?_) (RetQ.hx hr5 (Gs := [gu, gz, gf]) HGX.out); obtain ⟨V5, rfl, hw5, hW5⟩ := hr; have hb5 : Below wr.heap.size wr w5 := undr hw5; obtain ⟨A5, n5, c5, f5, e5, hh⟩ := id hW5; subst e5; clear hh; have s0 := (hb5.cell (p := ⟨gp, 5, none⟩) hgpx).trans p5; have hF5 := HFX.out.call hb5; refine (fun hz => ?_) (hF5.at_ hpN); obtain ⟨Ai, ci, zi, _, _⟩ := hz; have zs := hF5.soft p; have hgf5 := hF5.lt; have hz5 := hb5.size; have HF5 := Lib.hid hF5; have HW5 := Lib.hid hW5; clear hW5 hr5 hw5 hF5))
              all_goals
                go_wp2_with fail
                go_roundw
                case rel =>
                  have h1 := (HF5.out.call (balloc w5 (.cells #[.int .i64 (j : Nat), .slice A5 n5 c5] 112))).set (by simp) hpN (c := 1) (l := [(j, fun _ => true)]) (by simp) (plf_one (Blk.new w5 _ _) (by simp; omega) (HW5.out.cle (Wr.of_below (balloc w5 _)).cle))
                  have h2 := ((HWR.out.call hb5).alloc (.cells #[.int .i64 (j : Nat), .slice A5 n5 c5] 112)).set (g := gf) (by simp) p (.slice (some ⟨w5.heap.size, 0, none⟩) 1 1)
                  rw [World.setCell_alloc_past _ _ _ _ hgf5] at h1 h2
                  refine ⟨j + 1, by omega, by go_num, FB.eq h1 (fun i hi => ?_), h2⟩
                  rw [fst1_step HRV.out HP'.out i (by have := HNT.out; omega)]
                  rfl
                case measure => simp [intOf]; omega
            · obtain rfl : j = M := by omega
              have hdec : decide ((j : Int) < (j : Int)) = false := decide_eq_false (by omega)
              have HF6 : Hid (FB wr gf N [gu, gz, gf] m (fst2 t z 0)) := Lib.hid (hFx.eq (fun i _ => by rw [← HMS.out]; rfl))
              have HZ6 : Hid (ZB wr gz N [gu, gz, gf] m (zer2 t z 0)) := Lib.hid (HZ4.out.wr hwr (by simp) (by simp; omega))
              have HU6 := Lib.hid (HU4.out.wr hwr (by simp; omega))
              have HPB6 : Hid (PlanB wr gp m Al N cl As j cs gu gz gf) := Lib.hid hkr
              have HRX6 := Lib.hid (HRX4.out.cle (hwr.more (Hs := [gu, gz, gf]) (by simp)).cle)
              have hFs6 : Sat F wr := hwr.sat hFr (fun g hg => HGS.out g (by simp at hg ⊢; exact .inr (.inr hg)))
              have HB6 := Lib.hid (hwr.below (B := w1.heap.size) (fun g hg => by simp at hg; omega) (by have := HB5.out.size; have := HB4.out.size; omega))
              have hzz := hwr.size
              clear hFx hkr hwr HZ4 HU4 HPB4 HRX4 HF4 hFr hF3 hF4 hF1 hF
              go_wp2_with fail
              obtain ⟨w6, hw6⟩ : ∃ w6, w6 = wr := ⟨_, rfl⟩
              subst hw6
              go_loopw [12, 13, 15, 100] (fun _ _ _ v100 wr => ∃ (n : Nat) (f : Nat → Int), n ≤ N ∧ v100 = .int .i64 n ∧ ZB wr gz N [gu, gz, gf] m (zer2 t z n) ∧ FB wr gf N [gu, gz, gf] m (fst2 t z n) ∧ UB wr gu N f ∧ UpTo t N n f ∧ Wr [gu, gz, gf] w6 wr) (fun _ _ _ v100 _ => N - (intOf v100).toNat)
              case atStart => exact ⟨0, _, Nat.zero_le _, rfl, HZ6.out, HF6.out, HU6.out, .zero _ _ _, .refl _ _⟩
              case round =>
                obtain ⟨n, f, hn', rfl, hZr, hFr, hUr, hUp, hwr⟩ := hrel
                have HZR := Lib.hid hZr
                have HFR := Lib.hid hFr
                have HUR := Lib.hid hUr
                have HUP := Lib.hid hUp
                have HWR := Lib.hid hwr
                have hFs := hwr.sat hFs6 HGS.out
                have hz6 := hwr.size
                clear hZr hFr hUr hUp hwr
                by_cases hlt : n < N
                · have hnI : (n : Int) < (N : Int) := by omega
                  have hnl : n < l.length := by have := HL.out.1; omega
                  obtain ⟨ad, eA, hL⟩ := HL.out.2 (by omega)
                  obtain ⟨Ak, ck, hck, hK, hd⟩ := hL n hnl
                  have hkd := kidsN_eq HT.out n hnl
                  obtain ⟨nd, hnd⟩ : ∃ nd, l[n] = nd := ⟨_, rfl⟩
                  rw [hnd] at hkd
                  simp only [hnd] at hK hd hck
                  have HND := Lib.hid hnd
                  clear hnd hL
                  obtain ⟨kind, name, lo, hi', kk⟩ := nd
                  dsimp only at hkd hK hd hck
                  obtain ⟨K, hKk⟩ : ∃ K, kk.length = K := ⟨_, rfl⟩
                  have hKb : K ≤ 2 := by have := kidsN_len t n; rw [← hKk, hkd]; simpa [zs] using this
                  obtain ⟨c0, c1, c2, c3, c4⟩ := hd.sat hFs
                  dsimp only at c0 c1 c2 c3 c4
                  rw [hKk] at c4 hK hck
                  have HKD := Lib.hid hkd
                  have HKK := Lib.hid hKk
                  have HK := Lib.hid hK
                  subst eA
                  clear hKk hkd hK hd
                  have hbA := balloc wr (.cells #[.int .i64 kind, .string name, .int .i64 lo, .int .i64 hi', .slice Ak K ck] 48)
                  have HBN : Hid (Blk (wr.alloc (.cells #[.int .i64 kind, .string name, .int .i64 lo, .int .i64 hi', .slice Ak K ck] 48)) wr.heap.size 48 #[.int .i64 kind, .string name, .int .i64 lo, .int .i64 hi', .slice Ak K ck]) := Lib.hid (Blk.new wr _ _)
                  go_wp2_with fail
                  obtain ⟨wo, hwo⟩ : ∃ wo, wo = wr := ⟨_, rfl⟩
                  subst hwo
                  go_loopw [15, 108] (fun _ v108 wr => ∃ (j : Nat) (f : Nat → Int), j ≤ K ∧ v108 = .int .i64 j ∧ UB wr gu N f ∧ UpTo t N n f ∧ (∀ q, q < j → ∀ k, (kidsN t n)[q]? = some k → f k = (n : Nat)) ∧ Wr [gu] (wo.alloc (.cells #[.int .i64 kind, .string name, .int .i64 lo, .int .i64 hi', .slice Ak K ck] 48)) wr) (fun _ v108 _ => K - (intOf v108).toNat)
                  case atStart => exact ⟨0, f, Nat.zero_le _, rfl, HUR.out.call hbA, HUP.out, fun q h => absurd h (by omega), .refl _ _⟩
                  case round =>
                    obtain ⟨j, f', hj, rfl, hUr, hUp, hdone, hwr⟩ := hrel
                    have hwo : Wr [gu, gz, gf] w6 wr := (HWR.out.alloc _).trans (hwr.more (by simp))
                    have hFs' := hwo.sat hFs6 HGS.out
                    have hkr := hwo.blk HPB6.out hgpG
                    by_cases hjl : j < K
                    · have hjI : (j : Int) < (K : Int) := by omega
                      obtain ⟨ak, u, eA, hu, hc⟩ := HK.out.at1 hjl
                      subst eA
                      obtain ⟨k, hk⟩ : ∃ k, (kidsN t n)[j]? = some k := ⟨_, List.getElem?_eq_getElem (by have h1 := HKK.out; rw [HKD.out] at h1; simp [zs] at h1; omega)⟩
                      have hup : u = .int .i64 (k : Nat) := by
                        have := hu
                        rw [HKD.out] at this
                        simp [zs, hk] at this
                        exact this.symm
                      subst hup
                      obtain ⟨hkn, hkp⟩ := kidsN_mem (t := t) (n := n) (by have := HNT.out; omega) (List.mem_of_getElem? hk)
                      have hcw := hFs'.cell hc
                      have p3 : wr.cell? ⟨gp, 3, none⟩ = some (.slice (some ⟨gu, 0, none⟩) N N) := by rw [hkr.cell]; rfl
                      have u1 := hUr.at_ (j := k) (by omega)
                      have u2 := hUr.soft k
                      have hkI : (k : Int) < (N : Int) := by omega
                      have HUr := Lib.hid hUr
                      have HUp := Lib.hid hUp
                      have HDn := Lib.hid hdone
                      have HWr := Lib.hid hwr
                      have HKp := Lib.hid hkp
                      have HKa := Lib.hid hk
                      clear hUr hUp hdone hwr hwo hkr hu hc hk hkp hFs' hkn
                      go_wp2_with fail
                      go_roundw
                      case rel =>
                        refine ⟨j + 1, upd f' k n, by omega, by go_num, HUr.out.set (by omega) _, HUp.out.kid HKp.out, fun q hq k' hk' => ?_, HWr.out.set (by simp) k _⟩
                        unfold upd
                        split
                        · rfl
                        · rename_i hne'
                          refine HDn.out q ?_ k' hk'
                          rcases Nat.lt_or_ge q j with h | h
                          · exact h
                          · obtain rfl : q = j := by omega
                            rw [HKa.out] at hk'
                            injection hk' with hk'
                            exact absurd hk'.symm hne'
                      case measure => simp [intOf]; omega
                    · obtain rfl : j = K := by omega
                      have hdec : decide ((j : Int) < (j : Int)) = false := decide_eq_false (by omega)
                      obtain ⟨m0, m1, m2, m3, m4⟩ := blk5 (hwr.blk HBN.out (by simp; omega))
                      have HUr := Lib.hid hUr
                      have HUp : Hid (UpTo t N (n + 1) f') := Lib.hid (hUp.next HNT.out.symm (fun k hk => by
                        obtain ⟨q, hq⟩ := List.getElem?_of_mem hk
                        refine hdone q ?_ k hq
                        have h1 := HKK.out
                        rw [HKD.out] at h1
                        simp [zs] at h1
                        have := (List.getElem?_eq_some_iff.1 hq).1
                        omega))
                      have hZ7 := (HZR.out.call hbA).wr hwr (by simp) (by simp; omega)
                      have hF7 := (HFR.out.call hbA).wr hwr (by simp) (by simp; omega)
                      have hG7 : ∀ g, g ∈ [gu, gz, gf] → g < wr.heap.size := fun g hg => by have := hwo.size; simp at hg; omega
                      have HFS := Lib.hid (fill_step hFs' m hm l N hNb (some ad) cl HT.out HRV.out HNT.out.symm gp As _ cs gu gz gf hkr [gu, gz, gf] (by simp) (by simp) hgpG hzf HGS.out hG7 z n hlt hnl hZ7 hF7 _ HND.out Ak ck (by dsimp only; rw [HKK.out]; exact HK.out))
                      have HWO := Lib.hid hwo
                      dsimp only at HFS
                      rw [HKK.out] at HFS
                      clear hUr hUp hdone hwr hwo hkr hFs' hZ7 hF7 hG7
                      go_wp2_with (go_at_call 71; refine HFS.out.mono ?_; rintro e w8 ⟨rfl, hZ8, hF8, hW8⟩)
                      go_roundw
                      case rel => exact ⟨n + 1, f', by omega, by go_num, hZ8, hF8, HUr.out.wr hW8 (by simp; omega), HUp.out, HWO.out.trans (hW8.more (by simp))⟩
                      case measure => simp [intOf]; omega
                · obtain rfl : n = N := by omega
                  have hdec : decide ((n : Int) < (n : Int)) = false := decide_eq_false (by omega)
                  go_wp2_with fail
                  go_ret
                  refine ⟨gp, j, ks, As, cs, gu, gz, gf, rfl, ?_, ?_⟩
                  · have h1 : Below w1.heap.size w6 wr := HWR.out.below (fun g hg => by simp at hg; omega) (by omega)
                    exact bthen hw1 (((HB4.out.trans HB5.out).trans HB6.out).trans h1)
                  · exact plan_made hFs HT.out HRg.out HKS.out HKM.out HL.out (HWR.out.blk HPB6.out hgpG) HZR.out HFR.out HUR.out HUP.out (HRX6.out.cle HWR.out.cle)
end Go.Proofs.Ytaomehlhopiblaa
/-! The walks of Next, Ends, Zero of package atoms. -/
namespace Go.Proofs.Ytaomehlhopiblaa
open Go.RowKit
def stateK (z : Zf) (t : Tr) (k : Int) : (Nat → Nat → Bool) × (Nat → Bool) := if 0 ≤ k then stateO z t k.toNat else (fun _ _ => false, fun _ => false)
theorem WdG.heap {m : Nat} {F : Fz} {w : World} {v : Value} {p : Nat → Bool} (h : WdG m F v p) (hF : Sat F w) : WdG m (heapF w) v p := let ⟨hm, A, c, e, hr⟩ := h; ⟨hm, A, c, e, hr.heap hF⟩
theorem WdG.below {m : Nat} {w w' : World} {v : Value} {p : Nat → Bool} (h : WdG m (heapF w) v p) (hb : Below w.heap.size w w') : WdG m (heapF w') v p := h.heap ((sat_heapF w).below hb)
/-- What Next gives: of each step where it is ahead. -/
def RetNx (m M : Nat) (w : World) (O : Nat → Nat → Bool) (e : Ending) (w' : World) : Prop := ∃ go, e = .returned (.slice (some ⟨go, 0, none⟩) M M) ∧ w.heap.size ≤ go ∧ Below w.heap.size w w' ∧ ZF w' go M [] m O
def RetEn (m : Nat) (w : World) (E : Nat → Bool) (e : Ending) (w' : World) : Prop := ∃ v, e = .returned v ∧ Below w.heap.size w w' ∧ WdG m (heapF w') v E
set_option maxRecDepth 100000 in
theorem anext_w {F : Fz} {w : World} (hF : Sat F w) (m : Nat) (hm : m ≤ 10) (l : List Nd) (hn : l.length ≤ 1000) (Al : Option Addr) (N cl : Nat) (hl : NodesF F Al N l) {t : Tr} (ht : treeS l = some t) (hr : regS t.root.kind = true) (k : Int) (At : Option Addr) (nt ct : Nat) (hnt : nt ≤ 1000) (z : Zf) (hT : TsF m F At nt z) :
    Calls Try.prog 41 #[.int .i64 (m : Nat), .slice Al N cl, .int .i64 k, .slice At nt ct] w (RetNx m (stepsN t) w (stateK z t k).1) := by
  have HO := Lib.hid (aof_w hF m hm l hn Al N cl hl ht hr At nt ct hnt z hT)
  have hN : N ≤ 1000 := by have := hl.1; omega
  obtain ⟨O, E, hOE⟩ : ∃ O E, (O, E) = stateK z t k := ⟨_, _, rfl⟩
  rw [← hOE]
  have HOE := Lib.hid hOE
  obtain ⟨M0, hM0⟩ : ∃ M0, stepsN t = M0 := ⟨_, rfl⟩
  rw [hM0]
  have HM0 := Lib.hid hM0
  clear hl hn hT ht hr hnt hOE hF hM0
  go_enter Try.func41, Try.ntmps41
  go_wp2_with fail
  go_at_call 60
  refine HO.out.mono ?_
  rintro e w1 ⟨gp, M, ss, As, cs, gu, gz, gf, rfl, hb1, hP⟩
  obtain rfl : M0 = M := by rw [← HM0.out, ← hP.stepn, hP.steps, length_stepsL t 0 hP.reg]
  have HA := Lib.hid (ahead_w (sat_heapF w1) gp m hm l t z _ ss Al N cl As cs gu gz gf hP hN k O E HOE.out)
  clear hP HO HOE
  go_wp2_with (go_at_call 61; refine HA.out.mono ?_; rintro e w2 ⟨go, v, rfl, hgo, hb2, hZ, hE⟩)
  go_ret
  exact ⟨go, rfl, Nat.le_trans hb1.size hgo, bthen hb1 hb2, hZ⟩
set_option maxRecDepth 100000 in
theorem aends_w {F : Fz} {w : World} (hF : Sat F w) (m : Nat) (hm : m ≤ 10) (l : List Nd) (hn : l.length ≤ 1000) (Al : Option Addr) (N cl : Nat) (hl : NodesF F Al N l) {t : Tr} (ht : treeS l = some t) (hr : regS t.root.kind = true) (k : Int) (At : Option Addr) (nt ct : Nat) (hnt : nt ≤ 1000) (z : Zf) (hT : TsF m F At nt z) :
    Calls Try.prog 42 #[.int .i64 (m : Nat), .slice Al N cl, .int .i64 k, .slice At nt ct] w (RetEn m w (stateK z t k).2) := by
  have HO := Lib.hid (aof_w hF m hm l hn Al N cl hl ht hr At nt ct hnt z hT)
  have hN : N ≤ 1000 := by have := hl.1; omega
  obtain ⟨O, E, hOE⟩ : ∃ O E, (O, E) = stateK z t k := ⟨_, _, rfl⟩
  rw [← hOE]
  have HOE := Lib.hid hOE
  clear hl hn hT ht hr hnt hOE hF
  go_enter Try.func42, Try.ntmps42
  go_wp2_with fail
  go_at_call 60
  refine HO.out.mono ?_
  rintro e w1 ⟨gp, M, ss, As, cs, gu, gz, gf, rfl, hb1, hP⟩
  have HA := Lib.hid (ahead_w (sat_heapF w1) gp m hm l t z _ ss Al N cl As cs gu gz gf hP hN k O E HOE.out)
  clear hP HO HOE
  go_wp2_with (go_at_call 61; refine HA.out.mono ?_; rintro e w2 ⟨go, v, rfl, hgo, hb2, hZ, hE⟩)
  go_ret
  exact ⟨v, rfl, bthen hb1 hb2, hE⟩
set_option maxRecDepth 100000 in
theorem azero_w {F : Fz} {w : World} (hF : Sat F w) (m : Nat) (hm : m ≤ 10) (l : List Nd) (hn : l.length ≤ 1000) (Al : Option Addr) (N cl : Nat) (hl : NodesF F Al N l) {t : Tr} (ht : treeS l = some t) (hr : regS t.root.kind = true) (At : Option Addr) (nt ct : Nat) (hnt : nt ≤ 1000) (z : Zf) (hT : TsF m F At nt z) :
    Calls Try.prog 48 #[.int .i64 (m : Nat), .slice Al N cl, .slice At nt ct] w (RetEn m w (stateK z t 0).2) := by
  have HO := Lib.hid (aends_w hF m hm l hn Al N cl hl ht hr 0 At nt ct hnt z hT)
  clear hl hn hT ht hr hnt hF
  go_enter Try.func48, Try.ntmps48
  go_wp2_with (go_at_call 42; refine HO.out.mono ?_; rintro e w1 ⟨v, rfl, hb, hE⟩)
  go_ret
  exact ⟨v, rfl, hb, hE⟩
end Go.Proofs.Ytaomehlhopiblaa
