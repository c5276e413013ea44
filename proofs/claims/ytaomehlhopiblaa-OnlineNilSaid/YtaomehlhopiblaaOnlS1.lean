/- One pass: the walk of Step: a point. -/
import Derived.Test.YtaomehlhopiblaaOnlSt
import Derived.Deep.CutRange
set_option linter.unusedVariables false
set_option linter.unusedSimpArgs false
/-! One pass: the walk of Step: a point. -/
namespace Go.Proofs.Ytaomehlhopiblaa
open Go.RowKit
attribute [local go_sem ↓] Go.wp_at_zero Go.wp_at_succ
set_option maxRecDepth 100000 in
set_option maxHeartbeats 8000000 in
theorem ostep_w {m : Nat} (hm : m ≤ 10) {l : List Nd} (hn : l.length ≤ 1000) {t : Tr} (ht : treeS l = some t) (hf : (formL l && plainS l) = true) (hmt : uptoN atomM t l.length = m) {B go gx gw : Nat} {w : World} {s : OnSt} {last : Nat} {Ap : Option Addr} {cp : Nat}
    (hP : PassW m l t B go gx gw w s last Ap cp) (hlast : last < 18446744073709551616) (time : Nat) (htime : time < 18446744073709551616) (hno : ¬ (0 < s.pts ∧ time < last)) (d : Nat) (hd : d = if 0 < s.pts then time - last else 0)
    (hpts : s.pts ≤ 80000) (hpd : s.pd.length ≤ 90000) (hwl : ∀ j, (s.win j).length ≤ 79000) (hwc : ∀ j h a, t.sub j = .un h a → h.kind = 16 → InW h (s.win j))
    (ss : List ByteArray) (An : Option Addr) (nn cn : Nat) (hS : Rd (hx w (gsW go gw Ap)) 1 An nn (ss.map Value.string)) (hnn : ss.length ≤ 100000) :
    Calls Try.prog 4 #[.pointer (some ⟨go, 0, none⟩), .int .u64 (time : Nat), .slice An nn cn] w (RetSt m l t B go gx gw w (gsW go gw Ap) (onlS m d (hasS ss) t s).1 (onlS m d (hasS ss) t s).2 time) := by
  obtain ⟨Al, cl, ps, hB, hcl, hl, hX, hW, hNw, hO, hPV, hgn, hBo, hBw, hAp⟩ := hP
  have hlen := tree_len ht
  obtain ⟨np, hnp⟩ : ∃ np, s.pd.length = np := ⟨_, rfl⟩
  rw [hnp] at hB hO hpd
  obtain ⟨pts, hpt⟩ : ∃ pts, s.pts = pts := ⟨_, rfl⟩
  rw [hpt] at hB hno hd hpts
  obtain ⟨c0, c1, c2, c3, c4, c5, c6, c7⟩ := blk8 hB
  obtain ⟨ON, hON⟩ : ∃ ON, onlS m d (hasS ss) t s = ON := ⟨_, rfl⟩
  have HON := Lib.hid hON
  rw [hON]
  obtain ⟨pL, hpL⟩ : ∃ pL : List Nat, blkOf Ap = pL := ⟨_, rfl⟩
  have hGs : gsW go gw Ap = go :: gw :: pL := by unfold gsW; rw [hpL]
  have hpLm : ∀ g, g ∈ pL → ∃ a, Ap = some a ∧ a.block = g := fun g hg => by
    rw [← hpL] at hg
    cases Ap with
    | none => cases hg
    | some a => exact ⟨a, rfl, (List.mem_singleton.1 hg).symm⟩
  have hpLi : ∀ a, Ap = some a → a.block ∈ pL := fun a e => by rw [← hpL, e]; exact List.mem_singleton.2 rfl
  have lgo : go < w.heap.size := hB.lt
  have lgw : gw < w.heap.size := hW.lt
  have lpL : ∀ g, g ∈ pL → B ≤ g ∧ g < w.heap.size ∧ g ≠ go ∧ g ≠ gw := fun g hg => by
    obtain ⟨a, e1, e2⟩ := hpLm g hg
    have h1 := hO.1.1.lt g (by rw [e1, ← e2]; rfl)
    have h2 := hAp a e1
    rw [e2] at h2
    exact ⟨h1.1, h1.2, h2.1, h2.2⟩
  rw [hGs] at hl hX hW hO hPV hS ⊢
  have hGl : ∀ g, g ∈ go :: gw :: pL → g < w.heap.size := fun g hg => by
    simp at hg
    rcases hg with rfl | rfl | hg
    · exact lgo
    · exact lgw
    · exact (lpL g hg).2.1
  have HLEN := Lib.hid hlen
  have HTR := Lib.hid ht
  have HFM := Lib.hid hf
  have HMT := Lib.hid hmt
  have HB := Lib.hid hB
  have HL := Lib.hid hl
  have HX := Lib.hid hX
  have HWN := Lib.hid hW
  have HNW := Lib.hid hNw
  have HO := Lib.hid hO
  have HPV := Lib.hid hPV
  have HGN := Lib.hid hgn
  have HBB := Lib.hid (And.intro hBo hBw)
  have HPL := Lib.hid hpLm
  have HPI := Lib.hid hpLi
  have LPL := Lib.hid lpL
  have HGL := Lib.hid hGl
  have HS := Lib.hid hS
  have HWL := Lib.hid hwl
  have HWC := Lib.hid hwc
  have HPT := Lib.hid hpt
  have HNP := Lib.hid hnp
  have HD := Lib.hid hd
  clear hmt hB hl hX hW hNw hO hPV hgn hBo hBw hAp hpLm hpLi lpL hGl hS hwl hwc hpt hnp hd hpL ht hf hlen hGs hON
  go_enter Try.func4, Try.ntmps4
  go_upto_region 5 with fail
  go_cut [21] from 22 to 34 (fun v21 wx => v21 = .bool false ∧ w = wx)
  case first =>
    by_cases h0 : 0 < pts
    · have h1 : (0 : Int) < (pts : Int) := by omega
      have h2 : decide ((time : Int) < (last : Int)) = false := decide_eq_false (by omega)
      have h3 : decide (time < last) = false := decide_eq_false (by omega)
      go_wp2_with fail
      go_meet
      exact ⟨rfl, rfl⟩
    · have h1 : decide ((0 : Int) < (pts : Int)) = false := decide_eq_false (by omega)
      go_wp2_with fail
      go_meet
      exact ⟨rfl, rfl⟩
  case rest =>
    obtain ⟨rfl, rfl⟩ := hcut
    go_upto_region 7 with fail
    have hmk1 : ∀ X : World, (Instr.makeSlice 42 (.int .i64 (l.length : Int)) (.int .i64 (l.length : Int))).run Try.prog X = .ok (.slice (some ⟨X.heap.size, 0, none⟩) l.length l.length) (X.alloc (.cells (zeros (.slice none 0 0) l.length) 49)) := fun X => makeR l.length (by omega) X
    have hmk2 : ∀ X : World, (Instr.makeSlice 42 (.int .i64 (m : Int)) (.int .i64 (m : Int))).run Try.prog X = .ok (.slice (some ⟨X.heap.size, 0, none⟩) m m) (X.alloc (.cells (zeros (.slice none 0 0) m) 49)) := fun X => makeR m (by omega) X
    go_cut [8] from 35 to 49 (fun v8 wx => ∃ gt gr ga : Nat, v8 = .pointer (some ⟨gt, 0, none⟩) ∧ Below w.heap.size w wx ∧ Blk wx gt 44 #[.pointer (some ⟨go, 0, none⟩), .int .u64 0, .slice An nn cn, .slice (some ⟨gr, 0, none⟩) l.length l.length, .slice (some ⟨ga, 0, none⟩) m m] ∧
      Blk wx gr 49 (zeros (.slice none 0 0) l.length) ∧ Blk wx ga 49 (zeros (.slice none 0 0) m) ∧ gr ≠ ga ∧ gt ≠ gr ∧ gt ≠ ga ∧ w.heap.size ≤ gt ∧ w.heap.size ≤ gr ∧ w.heap.size ≤ ga)
    case first =>
      go_region_held3 (fun w' => w'.cell? ⟨go, 0, none⟩ = some (.slice Al l.length cl) ∧ w'.cell? ⟨go, 1, none⟩ = some (.int .i64 (m : Nat))) (first | exact ⟨((bel3 w _ _ _).drew.cell (p := ⟨go, 0, none⟩) lgo).trans c0, ((bel3 w _ _ _).drew.cell (p := ⟨go, 1, none⟩) lgo).trans c1⟩ | go_keep) (fail)
      all_goals
        go_wp2_with fail
        go_meet
        first
          | exact ⟨w.heap.size + 2, w.heap.size, w.heap.size + 1, rfl, (bel3 w _ _ _).drew, blkN3 w _ _ _ _, ((Blk.new w 49 _).alloc _).alloc _, (Blk.new2 w _ _ _).alloc _, by omega, by omega, by omega, by omega, by omega, by omega⟩
          | exact ⟨w.heap.size + 2, w.heap.size + 1, w.heap.size, rfl, (bel3 w _ _ _).drew, blkN3 w _ _ _ _, (Blk.new2 w _ _ _).alloc _, ((Blk.new w 49 _).alloc _).alloc _, by omega, by omega, by omega, by omega, by omega, by omega⟩
    case rest =>
      obtain ⟨gt, gr, ga, rfl, hb1, hBt, hBr, hBa, n1, n2, n3, zt, zr, za⟩ := hcut
      obtain ⟨W1, hW1⟩ : ∃ W1, W1 = wc := ⟨_, rfl⟩
      subst hW1
      clear hmk1 hmk2
      have d0 := (hb1.cell (p := ⟨go, 0, none⟩) lgo).trans c0
      have d5 := (hb1.cell (p := ⟨go, 5, none⟩) lgo).trans c5
      have d6 := (hb1.cell (p := ⟨go, 6, none⟩) lgo).trans c6
      clear c0 c1 c2 c3 c4 c5 c6 c7
      go_upto_if 54 with fail
      go_cut [] from 50 to 63 (fun wx => Blk wx gt 44 #[.pointer (some ⟨go, 0, none⟩), .int .u64 (d : Nat), .slice An nn cn, .slice (some ⟨gr, 0, none⟩) l.length l.length, .slice (some ⟨ga, 0, none⟩) m m] ∧ Wr [gt] W1 wx)
      case first =>
        have t1 : W1.cell? ⟨gt, 1, none⟩ = some (.int .u64 0) := hBt.cell 1
        have f1 := hBt.frozen 1
        by_cases h0 : 0 < pts
        · have h1 : (0 : Int) < (pts : Int) := by omega
          have hdd : d = time - last := by rw [HD.out, if_pos h0]
          have hdv : IntKind.u64.wrap ((time : Int) - (last : Int)) = ((d : Nat) : Int) := by
            rw [show (time : Int) - (last : Int) = ((d : Nat) : Int) by omega]
            exact wrap_u (by omega) (by omega)
          clear hdd
          go_wp2_with fail
          go_meet
          exact ⟨by have := hBt.set_ 1 (.int .u64 (d : Nat)); simpa using this, wr_set (by simp) _ _⟩
        · have hd0 : d = 0 := by rw [HD.out, if_neg h0]
          have hp0 : pts = 0 := by omega
          subst hp0
          clear h0
          go_wp2_with fail
          go_meet
          exact ⟨by rw [hd0]; exact hBt, Wr.refl _ _⟩
      case rest =>
        obtain ⟨hBt2, hw2⟩ := hcut
        obtain ⟨W2, hW2⟩ : ∃ W2, W2 = wc := ⟨_, rfl⟩
        subst hW2
        have hbl : Below w.heap.size w W2 := hb1.trans (hw2.below (fun g hg => by simp at hg; omega) hb1.size)
        have hBr2 := hw2.blk hBr (by simp; omega)
        have hBa2 := hw2.blk hBa (by simp; omega)
        have hBo2 := HB.out.call hbl
        have ngt : gt ∉ [gw, ga, gr] := by simp; omega
        have ngo : go ∉ [gw, ga, gr] := by have := HGN.out; simp; omega
        have hT2 : TuF (hx W2 [gw, ga, gr]) m l.length gt go gx gw ga gr Al cl d := ⟨hx_cell (hBt2.cell 0) ngt, hx_cell (hBt2.cell 1) ngt, hx_cell (hBt2.cell 3) ngt, hx_cell (hBt2.cell 4) ngt, hx_cell (hBo2.cell 0) ngo, hx_cell (hBo2.cell 1) ngo, hx_cell (hBo2.cell 2) ngo, hx_cell (hBo2.cell 3) ngo⟩
        have hS2c : (hx W2 [gw, ga, gr]).cell ⟨gt, 2, none⟩ = some (.slice An nn cn) := hx_cell (hBt2.cell 2) ngt
        obtain ⟨Xs, hXs⟩ : ∃ Xs, gw :: gr :: ga :: go :: pL = Xs := ⟨_, rfl⟩
        have hXm : ∀ g, g ∈ Xs ↔ g = gw ∨ g = gr ∨ g = ga ∨ g = go ∨ g ∈ pL := fun g => by rw [← hXs]; simp
        have hle1 : CLe (hx w (go :: gw :: pL)) (hx W2 [gw, ga, gr]) := cle_step (Hs := []) (Wr.of_below hbl) (by simp) fun g hg => by simp at hg; rcases hg with rfl | rfl | rfl; exact .inl (by simp); exact .inr za; exact .inr zr
        have hle2 : CLe (hx w (go :: gw :: pL)) (hx W2 Xs) := cle_step (Hs := []) (Wr.of_below hbl) (by simp) fun g hg => by
          rcases (hXm g).1 hg with rfl | rfl | rfl | rfl | hg
          · exact .inl (by simp)
          · exact .inr zr
          · exact .inr za
          · exact .inl (by simp)
          · exact .inl (by simp [hg])
        have hXl : ∀ g, g ∈ Xs → g < W2.heap.size := fun g hg => by
          rcases (hXm g).1 hg with rfl | rfl | rfl | rfl | hg
          · exact Nat.lt_of_lt_of_le lgw hbl.size
          · exact hBr2.lt
          · exact hBa2.lt
          · exact Nat.lt_of_lt_of_le lgo hbl.size
          · exact Nat.lt_of_lt_of_le (LPL.out g hg).2.1 hbl.size
        have hWn2 : WnW m t gw Xs W2 s.win := HWN.out.cle hle2 (hbl.block gw lgw)
        have hTr2 : TrW m t gr Xs W2 0 fun _ => noFn := TrW.zero HLEN.out hBr2 _
        have hA2 : RowA m m [ga] 49 W2 ga fun q => ([] : List Fn).getD q noFn := (RowA.zero hBa2).congr fun q _ => by simp
        have hNr2 : NoU W2 gr := NoU.zeros hBr2
        have hNw2 : NoU W2 gw := HNW.out.keep (hbl.block gw lgw)
        have hl2 := HL.out.cle hle1
        have hX2 := HX.out.cle hle1
        have hS2 := HS.out.cle hle1
        obtain ⟨R, hR⟩ : ∃ R : Nat → StM, (fun k => runM m d (hasS ss) t 0 k ⟨fun _ => noFn, [], s.win⟩) = R := ⟨_, rfl⟩
        have HR0 : Hid (R 0 = ⟨fun _ => noFn, [], s.win⟩) := Lib.hid (by rw [← hR]; rfl)
        have HRS : Hid (∀ k, R (k + 1) = nodeM m d (hasS ss) (t.sub k) k (R k)) := Lib.hid (fun k => by
          rw [← hR]
          show nodeM m d (hasS ss) (t.sub k) (0 + k) _ = _
          rw [Nat.zero_add])
        have HRA : Hid (∀ k, (R k).ah.length = uptoN atomM t k) := Lib.hid (fun k => by
          rw [← hR]
          have := run_ah m d (hasS ss) t 0 ⟨fun _ => noFn, [], s.win⟩ k
          simpa using this)
        have HRW : Hid (∀ k, (R k).win k = s.win k) := Lib.hid (fun k => by
          rw [← hR]
          exact run_win m d (hasS ss) t 0 ⟨fun _ => noFn, [], s.win⟩ k k (.inr (by omega)))
        have HRL : Hid (R l.length = runM m d (hasS ss) t 0 t.size ⟨fun _ => noFn, [], s.win⟩) := Lib.hid (by rw [← hR, HLEN.out])
        have hd64 : d < 18446744073709551616 := by have := HD.out; split at this <;> omega
        have HND : Hid (∀ (k : Nat) (hk : k < l.length), (t.sub k).root.kind < 18 → ∀ X, Wr [gw, ga, gr] W2 X → WnW m t gw Xs X (R k).win → TrW m t gr Xs X k (R k).tr → NoU X gw → RowA m m [ga] 49 X ga (fun q => (R k).ah.getD q noFn) → ∀ Ak ck, Rd (hx W2 [gw, ga, gr]) 1 Ak l[k].kids.length (l[k].kids.map (Value.int .i64)) →
            Calls Try.prog 10 #[.pointer (some ⟨gt, 0, none⟩), .int .i64 (k : Nat), .agg #[.int .i64 l[k].kind, .string l[k].name, .int .i64 l[k].lo, .int .i64 l[k].hi, .slice Ak l[k].kids.length ck]] X (RetNd m t Xs gw ga X (R (k + 1)) k)) := Lib.hid (fun k hk h18 X hX e1 e2 e3 e4 Ak ck hKr => by
          rw [HRS.out k, ← hXs]
          rw [← hXs] at e1 e2
          refine onode_w m hm gt go gx gw ga gr pL Al cl d hd64 l hn hcl HTR.out HFM.out (hT2.cle hX.cle) (hl2.cle hX.cle) (hX2.cle hX.cle) ss An nn cn (hX.cle _ _ hS2c) (hS2.cle hX.cle) hnn (fun g hg => Nat.lt_of_lt_of_le (hXl g (by rw [← hXs]; exact hg)) hX.size) (by omega) (by omega) n1 k hk h18 (R k) (HRA.out k) ?_ e1 e2 e3 e4 ?_ ?_ Ak ck (hKr.cle hX.cle)
          · rw [← HMT.out]
            exact uptoN_mono atomM t (by omega)
          · rw [HRW.out k]
            have := HWL.out k
            omega
          · intro h' a' hs' h16
            rw [HRW.out k]
            exact HWC.out k h' a' hs' h16)
        obtain ⟨hln, hL2⟩ := hl2
        have HSA : Hid (∀ X, Wr [gw, ga, gr] W2 X → Sat (hx W2 [gw, ga, gr]) X) := Lib.hid (fun X hX => hX.sat (sat_hx _ _) fun g hg => hx_in hg)
        have HBT := Lib.hid hBt2
        have HBO := Lib.hid hBo2
        have HBL := Lib.hid hbl
        have HLE2 := Lib.hid hle2
        have HTK : Hid (∀ (k : Nat) (hk : k < l.length), l[k].kind = (t.sub k).root.kind) := Lib.hid (fun k hk => get_kind HTR.out k hk)
        have HXM := Lib.hid hXm
        have HXL := Lib.hid hXl
        have HNE := Lib.hid (show gw ≠ gr ∧ gw ≠ ga ∧ gr ≠ ga ∧ gt ≠ gr ∧ gt ≠ ga ∧ gt ≠ gw ∧ w.heap.size ≤ gt ∧ w.heap.size ≤ gr ∧ w.heap.size ≤ ga by omega)
        have HR00 := HR0.out
        have hWn0 : WnW m t gw Xs W2 (R 0).win := by rw [HR00]; exact hWn2
        have hTr0 : TrW m t gr Xs W2 0 (R 0).tr := by rw [HR00]; exact hTr2
        have hA0 : RowA m m [ga] 49 W2 ga fun q => (R 0).ah.getD q noFn := by rw [HR00]; exact hA2
        have e0 : W2.cell? ⟨go, 0, none⟩ = some (.slice Al l.length cl) := hBo2.cell 0
        clear hBt hBt2 hBo2 hw2 hb1 hBr hBa hBr2 hBa2 hT2 hS2c hle1 hle2 hWn2 hTr2 hA2 hX2 hS2 hXm hXl hR hbl d0 d5 d6 HR00 hXs n1 n2 n3 zt zr za ngt ngo hd64
        go_wp2_with fail
        go_loopw [9, 10, 69] (fun _ _ v69 wr => ∃ k : Nat, k ≤ l.length ∧ v69 = .int .i64 (k : Nat) ∧ Wr [gw, ga, gr] W2 wr ∧ WnW m t gw Xs wr (R k).win ∧ TrW m t gr Xs wr k (R k).tr ∧ NoU wr gw ∧ NoU wr gr ∧ RowA m m [ga] 49 wr ga (fun q => (R k).ah.getD q noFn)) (fun _ _ v69 _ => l.length - (intOf v69).toNat)
        case atStart => exact ⟨0, Nat.zero_le _, rfl, Wr.refl _ _, hWn0, hTr0, hNw2, hNr2, hA0⟩
        case round =>
          clear hWn0 hTr0 hNw2 hNr2 hA0 e0
          obtain ⟨k, hk, rfl, hwr, hWn, hTr, hNw, hNr, hA⟩ := hrel
          have hFr := HSA.out _ hwr
          by_cases hkl : k < l.length
          · have hkI : (k : Int) < (l.length : Int) := by omega
            obtain ⟨ad, rfl, hLc⟩ := hL2 (by omega)
            obtain ⟨Ak, ck, _, hK, hd⟩ := hLc k hkl
            have HN := HND.out k hkl
            have hkt := HTK.out k hkl
            have hgr := HNE.out
            generalize l[k] = nd at *
            obtain ⟨b0, b1, b2, b3, b4⟩ := hd.sat hFr
            obtain ⟨wA, hwA⟩ : ∃ wA, wA = wr.alloc (.cells #[.int .i64 nd.kind, .string nd.name, .int .i64 nd.lo, .int .i64 nd.hi, .slice Ak nd.kids.length ck] 48) := ⟨_, rfl⟩
            have hbA : Below wr.heap.size wr wA := by rw [hwA]; exact balloc _ _
            obtain ⟨gA, hgA⟩ : ∃ gA, gA = wr.heap.size := ⟨_, rfl⟩
            have hBA : Blk wA gA 48 #[.int .i64 nd.kind, .string nd.name, .int .i64 nd.lo, .int .i64 nd.hi, .slice Ak nd.kids.length ck] := by rw [hwA, hgA]; exact Blk.new _ _ _
            obtain ⟨a0, a1, a2, a3, a4⟩ := blk5 hBA
            have lA : gA < wA.heap.size := hBA.lt
            have hzA := hwr.size
            have hnA : gA ∉ [gw, ga] := by have := HXL.out gw ((HXM.out gw).2 (.inl rfl)); have := HXL.out ga ((HXM.out ga).2 (.inr (.inr (.inl rfl)))); simp; omega
            have HWA := Lib.hid hwA
            have HGA := Lib.hid hgA
            by_cases h18 : nd.kind < 18
            · have hHN := HN (by rw [← hkt]; exact h18)
              have hgrX : gr ∈ Xs := (HXM.out gr).2 (.inr (.inl rfl))
              have HNX : Hid (∀ X, Below wA.heap.size wA X → Calls Try.prog 10 #[.pointer (some ⟨gt, 0, none⟩), .int .i64 (k : Nat), .agg #[.int .i64 nd.kind, .string nd.name, .int .i64 nd.lo, .int .i64 nd.hi, .slice Ak nd.kids.length ck]] X (RetNd m t Xs gw ga X (R (k + 1)) k)) := Lib.hid (fun X hX => by
                have hbX := bthen hbA hX
                exact hHN X (hwr.call hbX) (hWn.wr (Wr.of_below hbX) (hbX.block gw hWn.lt)) (hTr.wr (Wr.of_below hbX) (hbX.block gr hTr.lt)) (hNw.keep (hbX.block gw hWn.lt)) (hA.call hbX) Ak ck hK)
              have hBtr := hwr.blk HBT.out (by simp; omega)
              have y3 : wA.cell? ⟨gt, 3, none⟩ = some (.slice (some ⟨gr, 0, none⟩) l.length l.length) := (hBtr.call hbA).cell 3
              have lt_ : gt < wA.heap.size := (hBtr.call hbA).lt
              have nt_ : gt ∉ [gw, ga] := by simp; omega
              have q0 : (⟨gr, k, none⟩ : Addr) ≠ ⟨gt, 3, none⟩ := fun e => by injection e; omega
              have lgr : gr < wr.heap.size := hTr.lt
              have qA : ∀ j, (⟨gr, k, none⟩ : Addr) ≠ ⟨gA, j, none⟩ := fun j e => by injection e; omega
              have ht6 : k < t.size := by rw [← HLEN.out]; exact hkl
              have HTA := Lib.hid (hTr.wr (Wr.of_below (Gs := Xs) hbA) (hbA.block gr lgr))
              have HRK := Lib.hid (HRS.out k)
              have HNR := Lib.hid (hNr.keep (hbA.block gr lgr))
              have HWR := Lib.hid (hwr.call hbA)
              have lgA' : gr < wA.heap.size := Nat.lt_of_lt_of_le lgr hbA.size
              clear HN hHN hK hd hbA hWn hTr hNw hNr hA hwr hFr hwA hgA hBtr hLc hkt
              go_wp2_with fail
              rw [← HWA.out, ← HGA.out]
              go_region_held3 (fun w' => w'.cell? ⟨gt, 3, none⟩ = some (.slice (some ⟨gr, 0, none⟩) l.length l.length) ∧ w'.cell? ⟨gA, 0, none⟩ = some (.int .i64 nd.kind) ∧ w'.cell? ⟨gA, 1, none⟩ = some (.string nd.name) ∧ w'.cell? ⟨gA, 2, none⟩ = some (.int .i64 nd.lo) ∧ w'.cell? ⟨gA, 3, none⟩ = some (.int .i64 nd.hi) ∧ w'.cell? ⟨gA, 4, none⟩ = some (.slice Ak nd.kids.length ck))
                (first | go_keep | exact ⟨y3, a0, a1, a2, a3, a4⟩ | exact ⟨s0, s1, s2, s3, s4, s5⟩ | exact ⟨cellNe q0 s0, cellNe (qA 0) s1, cellNe (qA 1) s2, cellNe (qA 2) s3, cellNe (qA 3) s4, cellNe (qA 4) s5⟩)
                (first | (go_at_call 10; refine (HNX.out _ (by first | exact Below.refl _ _ | exact (Below.refl _ wA).drew)).mono ?_; rintro e w6 ⟨A6, n6, c6, rfl, hw6', hv6, hW6, hN6, hR6⟩; have hw6 : Wr [gw, ga] wA w6 := ⟨hw6'.os, hw6'.tape, hw6'.output, hw6'.size, hw6'.block⟩; have s0 := (World.cell?_of_block (a := ⟨gt, 3, none⟩) (hw6.block gt lt_ nt_)).trans y3; have s1 := (World.cell?_of_block (a := ⟨gA, 0, none⟩) (hw6.block gA lA hnA)).trans a0; have s2 := (World.cell?_of_block (a := ⟨gA, 1, none⟩) (hw6.block gA lA hnA)).trans a1; have s3 := (World.cell?_of_block (a := ⟨gA, 2, none⟩) (hw6.block gA lA hnA)).trans a2; have s4 := (World.cell?_of_block (a := ⟨gA, 3, none⟩) (hw6.block gA lA hnA)).trans a3; have s5 := (World.cell?_of_block (a := ⟨gA, 4, none⟩) (hw6.block gA lA hnA)).trans a4; have hT6 := HTA.out.wr (hw6.more (Hs := Xs) (fun b hb => by simp at hb; rw [HXM.out]; omega)) (hw6.block gr lgA' (by simp; omega)); have fz := hT6.soft k; obtain ⟨v7, z7⟩ := hT6.cell ht6))
              all_goals
                have hset := (hT6.set hgrX ht6 hv6).congr (tr' := (R (k + 1)).tr) (fun j hj => by
                  by_cases e : j = k
                  · rw [e, updT_at]
                  · rw [updT_ne e, HRK.out, node_tr _ _ _ _ _ _ _ e])
                have hgr6 : w6.heap[gr]? = wA.heap[gr]? := hw6.block gr lgA' (by simp; omega)
                have hNr7 : NoU (w6.setCell ⟨gr, k, none⟩ (.slice A6 n6 c6)) gr := (HNR.out.keep hgr6).set z7
                have hw7 := (HWR.out.trans (hw6.more (Hs := [gw, ga, gr]) (by simp))).set (g := gr) (by simp) k (.slice A6 n6 c6)
                have hgw7 : (w6.setCell ⟨gr, k, none⟩ (.slice A6 n6 c6)).heap[gw]? = w6.heap[gw]? := Below.heap_setCell w6 ⟨gr, k, none⟩ _ gw hgr.1
                have hW7 := hW6.wr (wr_set hgrX k (.slice A6 n6 c6)) hgw7
                have hN7 : NoU (w6.setCell ⟨gr, k, none⟩ (.slice A6 n6 c6)) gw := hN6.keep hgw7
                have hR7 := ((hR6.avoid (Hs := [gr, ga]) fun b hb' => by
                  simp at hb'
                  rcases hb' with rfl | rfl
                  · exact HNR.out.keep hgr6
                  · exact NoU.rowA hR6).far (g' := gr) (i := k) (by simp) (fun e => hgr.2.2.1 e.symm) (.slice A6 n6 c6)).less (Hs := [gr, ga]) (Gs := [ga]) (by simp)
                have HF := Lib.hid (And.intro hw7 (And.intro hW7 (And.intro hset (And.intro hN7 (And.intro hNr7 hR7)))))
                clear hset hgr6 hNr7 hw7 hgw7 hW7 hN7 hR7 hv6 hW6 hN6 hR6 hw6' hw6 s0 s1 s2 s3 s4 s5 hT6 fz z7 y3 a0 a1 a2 a3 a4
                go_wp2_with fail
                go_roundw
                case rel => exact ⟨k + 1, by omega, by go_num, HF.out.1, HF.out.2.1, HF.out.2.2.1, HF.out.2.2.2.1, HF.out.2.2.2.2.1, HF.out.2.2.2.2.2⟩
                case measure => simp [intOf]; omega
            · have hkd : decide (nd.kind < 18) = false := decide_eq_false h18
              have hPf : Pl false (t.sub k) := by
                have := pl_at HFM.out HTR.out k hkl
                rw [reg_yes (by rw [← hkt]; omega)] at this
                exact this
              have hsk : R (k + 1) = R k := by rw [HRS.out k]; exact node_skip hPf
              have HF := Lib.hid (And.intro (hwr.call hbA) (And.intro (hWn.wr (Wr.of_below hbA) (hbA.block gw hWn.lt)) (And.intro ((hTr.wr (Wr.of_below hbA) (hbA.block gr hTr.lt)).skip (tr' := (R k).tr) (by rw [← hkt]; omega) fun _ _ => rfl) (And.intro (hNw.keep (hbA.block gw hWn.lt)) (And.intro (hNr.keep (hbA.block gr hTr.lt)) (hA.call hbA))))))
              have HSK := Lib.hid hsk
              clear HN hK hd hbA hWn hTr hNw hNr hA hwr hFr hwA hgA hLc hkt hsk hPf
              go_wp2_with fail
              rw [← HWA.out]
              go_roundw
              case rel => exact ⟨k + 1, by omega, by go_num, HF.out.1, by rw [HSK.out]; exact HF.out.2.1, by rw [HSK.out]; exact HF.out.2.2.1, HF.out.2.2.2.1, HF.out.2.2.2.2.1, by rw [HSK.out]; exact HF.out.2.2.2.2.2⟩
              case measure => simp [intOf]; omega
          · have hkn : k = l.length := by omega
            subst hkn
            have hdec : decide ((l.length : Int) < (l.length : Int)) = false := decide_eq_false (by omega)
            obtain ⟨w3, hw3⟩ : ∃ w3, w3 = wr := ⟨_, rfl⟩
            subst hw3
            obtain ⟨N1, hN1⟩ : ∃ N1, l.length = N1 + 1 := ⟨l.length - 1, by have := Tr.size_pos t; have := HLEN.out; omega⟩
            have hk18 := form_rootL HFM.out HTR.out
            have hsubN : t.sub N1 = t := by have := Tr.sub_root t; rw [← HLEN.out, hN1] at this; exact this
            obtain ⟨vT, hvT, hwT⟩ := hTr.at_ (j := N1) (by omega) (by rw [hsubN]; exact hk18)
            obtain ⟨AT, nT, cT, rfl⟩ := wdf_sl hwT
            have hPlT : Pl true t := by
              have := pl_at HFM.out HTR.out N1 (by omega)
              rw [hsubN, reg_no hk18] at this
              exact this
            obtain ⟨st, hst⟩ : ∃ st, stF m d (hasS ss) t 0 ⟨[], s.win⟩ = st := ⟨_, rfl⟩
            obtain ⟨ha1, ha2, ha3⟩ := run_all m d (hasS ss) hPlT (fun _ => noFn) s.win
            rw [hst, ← HRL.out] at ha1 ha2 ha3
            have hahl : st.2.ah.length ≤ m := by rw [← ha1, HRA.out, HMT.out]; exact Nat.le_refl _
            rw [ha1] at hA
            rw [ha2] at hWn
            rw [show t.size - 1 = N1 by have := HLEN.out; omega] at ha3
            rw [ha3] at hwT
            have hONe := HON.out
            unfold onlS at hONe
            rw [hst, HPT.out] at hONe
            obtain ⟨AH, hAH⟩ : ∃ AH, st.2.ah = AH := ⟨_, rfl⟩
            obtain ⟨WN, hWNe⟩ : ∃ WN, st.2.win = WN := ⟨_, rfl⟩
            obtain ⟨fT, hfT⟩ : ∃ fT, st.1.1 = fT := ⟨_, rfl⟩
            rw [hAH] at hA hahl hONe
            rw [hWNe] at hWn hONe
            rw [hfT] at hwT hONe
            have HONE := Lib.hid hONe
            have hw03 : Wr [gw, ga, gr] w w3 := (Wr.of_below HBL.out).trans hwr
            have hLX : ∀ g, g ∈ [gw, ga, gr] → g ∈ Xs := fun g hg => by rw [HXM.out]; simp at hg; omega
            have hle03 : CLe (hx w (go :: gw :: pL)) (hx w3 Xs) := HLE2.out.trans (hwr.more hLX).cle
            have hgn := HNE.out
            have hF0n : ∀ g, g ∈ Xs → (hx w (go :: gw :: pL)) g = none := fun g hg => by
              rcases (HXM.out g).1 hg with rfl | rfl | rfl | rfl | hg
              · exact hx_in (by simp)
              · exact (sat_hx w _).none_ (by omega)
              · exact (sat_hx w _).none_ (by omega)
              · exact hx_in (by simp)
              · exact hx_in (by simp [hg])
            have hS3 : Sat (hx w (go :: gw :: pL)) w3 := hw03.sat (sat_hx w _) fun g hg => hF0n g (hLX g hg)
            have hpLX : ∀ g, g ∈ pL → g ∈ Xs := fun g hg => (HXM.out g).2 (by simp [hg])
            have hpN : ∀ g, g ∈ pL → g ∉ [gw, ga, gr] := fun g hg => by have := LPL.out g hg; simp; omega
            have hO3 : OwnU (hx w (go :: gw :: pL)) w3 B 52 2 (.slice Ap np cp) np (plC ps) := HO.out.wr fun g hg => by
              have hgp : g ∈ pL := by
                cases Ap with
                | none => cases hg
                | some a => injection hg with hg; rw [← hg]; exact HPI.out a rfl
              exact hw03.block g (LPL.out g hgp).2.1 (hpN g hgp)
            have hPV3 : PlV m (hx w3 Xs) s.pd ps := HPV.out.cle hle03
            have lgoX : go < w.heap.size := HB.out.lt
            have hBo3 := hwr.blk HBO.out (by have := HGN.out; simp; omega)
            have hBt3 := hwr.blk HBT.out (by simp; omega)
            have hNpL : ∀ g, g ∈ pL → NoU w3 g := fun g hg => by
              obtain ⟨a, e1, e2⟩ := HPL.out g hg
              exact hO3.2 g (by rw [e1, ← e2]; rfl)
            have hRwA : RwF m (hx w3 pL) (some ⟨ga, 0, none⟩) m fun q => AH.getD q noFn := rwf_avoids hA.rwf hNpL fun a e hb => by
              injection e with e
              rw [← e] at hb
              have := LPL.out ga hb
              omega
            have HPU : Hid (∀ X, Wr pL w3 X → ∀ v p, Wd m X v p → Calls Try.prog 11 #[.int .i64 (m : Nat), v, .slice (some ⟨ga, 0, none⟩) m m] X (RetQ m X fun x => p (asg AH x))) := Lib.hid (fun X hX v p hv => by
              have h1 := q_put hm hv (rw_of_rwf (n := m) (c := m) ((hRwA.cle hX.cle).cle (sat_hx X pL).cle))
              have h2 : (fun x => p (yP m ((List.range m).map fun q => AH.getD q noFn) x)) = fun x => p (asg AH x) := by funext x; rw [yP_asg hm hahl]
              rw [h2] at h1
              exact h1)
            have hgr3 : w3.cell? ⟨gr, N1, none⟩ = some (.slice AT nT cT) := hvT
            have lgr3 : gr < w3.heap.size := hTr.lt
            have HG3 := Lib.hid hgr3
            have HWT := Lib.hid hwT
            have HW3 := Lib.hid hWn
            have HN3 := Lib.hid hNw
            have HBo3 := Lib.hid hBo3
            have HBt3 := Lib.hid hBt3
            have HS3 := Lib.hid hS3
            have HW03 := Lib.hid hw03
            have HLE3 := Lib.hid hle03
            have HXL3 := Lib.hid (fun g (hg : g ∈ Xs) => Nat.lt_of_lt_of_le (HXL.out g hg) hwr.size)
            have HF0 := Lib.hid hF0n
            have HPX := Lib.hid hpLX
            have HN1 := Lib.hid hN1
            have c4' : w3.cell? ⟨go, 4, none⟩ = some (.slice Ap np cp) := hBo3.cell 4
            have hgoP : go ∉ pL := fun e => (LPL.out go e).2.2.1 rfl
            have hgtP : gt ∉ pL := fun e => by have := (LPL.out gt e).2.1; omega
            have hgrP : gr ∉ pL := fun e => by have := (LPL.out gr e).2.1; omega
            have HNP3 := Lib.hid (And.intro hgoP (And.intro hgtP hgrP))
            clear hst ha1 ha2 ha3 hahl hA hAH hWNe hfT hONe hPlT hsubN hk18 hvT hwT hTr hNw hNr hWn hwr hFr hw03 hLX hle03 hF0n hS3 hpLX hpN hBo3 hBt3 hNpL hRwA hgr3 hN1 lgr3 hgoP hgtP hgrP HND HSA HTK HRS HRA HRW HRL HR0 hL2 hln HLE2
            go_wp2_with fail
            go_loopw [11, 12, 93] (fun _ _ v93 wr => ∃ (j : Nat) (qs : List (Nat × Value)), j ≤ np ∧ v93 = .int .i64 (j : Nat) ∧ Wr pL w3 wr ∧ OwnU (hx w (go :: gw :: pL)) wr B 52 2 (.slice Ap np cp) np (plC qs) ∧ PlV m (hx wr Xs) (upto (fun p => (p.1, fun x => p.2 (asg AH x))) j s.pd) qs) (fun _ _ v93 _ => np - (intOf v93).toNat)
            case atStart => exact ⟨0, ps, Nat.zero_le _, rfl, Wr.refl _ _, hO3, by rw [upto_zero]; exact hPV3⟩
            case round =>
              clear hO3 hPV3 c4'
              obtain ⟨j, qs, hj, rfl, hw4, hO4, hPV4⟩ := hrel
              have hBor := hw4.blk HBo3.out HNP3.out.1
              have hBtr := hw4.blk HBt3.out HNP3.out.2.1
              by_cases hjl : j < np
              · have hjI : (j : Int) < (np : Int) := by omega
                have hjp : j < s.pd.length := by rw [HNP.out]; exact hjl
                obtain ⟨p, hp⟩ : ∃ p, s.pd[j] = p := ⟨_, rfl⟩
                have hup := upto_get (fun p : Nat × Fn => (p.1, fun x => p.2 (asg AH x))) hjp
                have hus := upto_set (fun p : Nat × Fn => (p.1, fun x => p.2 (asg AH x))) hjp
                rw [hp] at hup hus
                obtain ⟨v, e1, hv⟩ := hPV4.2 j p hup
                obtain ⟨A2, n2, c2, rfl⟩ := wdf_sl hv
                rcases hO4.1.blk with ⟨_, e0, _⟩ | ⟨gp, cap', e2, _, _, _, hL⟩
                · omega
                injection e2 with e21 e22 e23
                subst e21 e23
                obtain ⟨p1, p2⟩ := get_plC qs j _ e1
                have z0 : wr.cell? ⟨gp, j * 2, none⟩ = some (.int .i64 (p.1 : Nat)) := hL.cell p1
                have z1 : wr.cell? ⟨gp, j * 2 + 1, none⟩ = some (.slice A2 n2 c2) := hL.cell p2
                have lgp : gp < wr.heap.size := hL.lt
                have hgpP : gp ∈ pL := HPI.out _ rfl
                obtain ⟨wA, hwA⟩ : ∃ wA, wA = wr.alloc (.cells #[.int .i64 (p.1 : Nat), .slice A2 n2 c2] 52) := ⟨_, rfl⟩
                have hbA : Below wr.heap.size wr wA := by rw [hwA]; exact balloc _ _
                obtain ⟨gA, hgA⟩ : ∃ gA, gA = wr.heap.size := ⟨_, rfl⟩
                have hBA : Blk wA gA 52 #[.int .i64 (p.1 : Nat), .slice A2 n2 c2] := by rw [hwA, hgA]; exact Blk.new _ _ _
                obtain ⟨a0, a1, _, _⟩ := blkA hBA
                have y4 : wA.cell? ⟨go, 4, none⟩ = some (.slice (some ⟨gp, 0, none⟩) np cp) := (hBor.call hbA).cell 4
                have y1 : wA.cell? ⟨go, 1, none⟩ = some (.int .i64 (m : Nat)) := (hBor.call hbA).cell 1
                have x4 : wA.cell? ⟨gt, 4, none⟩ = some (.slice (some ⟨ga, 0, none⟩) m m) := (hBtr.call hbA).cell 4
                have lgo' : go < wA.heap.size := (hBor.call hbA).lt
                have lgt' : gt < wA.heap.size := (hBtr.call hbA).lt
                have lA : gA < wA.heap.size := hBA.lt
                have lgp' : gp < wA.heap.size := Nat.lt_of_lt_of_le lgp hbA.size
                have z1A := (hbA.cell (p := ⟨gp, j * 2 + 1, none⟩) lgp).trans z1
                have n4 : (⟨gp, j * 2 + 1, none⟩ : Addr) ≠ ⟨go, 4, none⟩ := fun e => by injection e with e; exact HNP3.out.1 (e ▸ hgpP)
                have n1 : (⟨gp, j * 2 + 1, none⟩ : Addr) ≠ ⟨go, 1, none⟩ := fun e => by injection e with e; exact HNP3.out.1 (e ▸ hgpP)
                have nA : (⟨gp, j * 2 + 1, none⟩ : Addr) ≠ ⟨gA, 1, none⟩ := fun e => by injection e; omega
                have nt : (⟨gp, j * 2 + 1, none⟩ : Addr) ≠ ⟨gt, 4, none⟩ := fun e => by injection e with e; exact HNP3.out.2.1 (e ▸ hgpP)
                have HPX2 : Hid (∀ X, Below wA.heap.size wA X → Calls Try.prog 11 #[.int .i64 (m : Nat), .slice A2 n2 c2, .slice (some ⟨ga, 0, none⟩) m m] X (RetQ m X fun x => p.2 (asg AH x))) := Lib.hid (fun X hX => HPU.out X (hw4.call (bthen hbA hX)) _ _ ((hv.cle (sat_hx wr Xs).cle).cle (cle_below (bthen hbA hX))))
                have HXA : Hid (∀ g, g ∈ Xs → g < wA.heap.size) := Lib.hid (fun g hg => Nat.lt_of_lt_of_le (HXL3.out g hg) (Nat.le_trans hw4.size hbA.size))
                have HWA := Lib.hid hwA
                have HGA := Lib.hid hgA
                have HBAW := Lib.hid hbA
                have HO4 := Lib.hid hO4
                have HPV4 := Lib.hid hPV4
                have HW4 := Lib.hid hw4
                have HE1 := Lib.hid e1
                have HUP := Lib.hid hup
                have HUS := Lib.hid hus
                have HFZ : Hid (∀ i, wA.frozen? ⟨gp, i, none⟩ = false) := Lib.hid (fun i => (World.frozen?_of_block (a := ⟨gp, i, none⟩) (hbA.block gp lgp)).trans (hL.frozen i))
                clear hwA hgA hbA hBA hv hup hus e1 hO4 hPV4 hw4 hL p1 p2 hBor hBtr hp
                go_wp2_with fail
                rw [← HWA.out, ← HGA.out]
                go_region_held3 (fun w' => w'.cell? ⟨go, 4, none⟩ = some (.slice (some ⟨gp, 0, none⟩) np cp) ∧ w'.cell? ⟨go, 1, none⟩ = some (.int .i64 (m : Nat)) ∧ w'.cell? ⟨gA, 1, none⟩ = some (.slice A2 n2 c2) ∧ w'.cell? ⟨gt, 4, none⟩ = some (.slice (some ⟨ga, 0, none⟩) m m))
                  (first | go_keep | exact ⟨y4, y1, a1, x4⟩ | exact ⟨s0, s1, s2, s3⟩ | exact ⟨cellNe n4 s0, cellNe n1 s1, cellNe nA s2, cellNe nt s3⟩)
                  (first | (go_at_call 11; refine (HPX2.out _ (by first | exact Below.refl _ _ | exact (Below.refl _ wA).drew)).mono ?_; intro e w6 hr6; obtain ⟨v6, rfl, hb6', hW6⟩ := hr6.hx (Gs := Xs) HXA.out; have hb6 : Below wA.heap.size wA w6 := (by refine bel_trans ?_ hb6'; exact bel_eqv (Below.refl _ wA) rfl rfl rfl rfl); obtain ⟨A6, n6, c6, rfl⟩ := wdf_sl hW6; have s0 := (hb6.cell (p := ⟨go, 4, none⟩) lgo').trans y4; have s1 := (hb6.cell (p := ⟨go, 1, none⟩) lgo').trans y1; have s2 := (hb6.cell (p := ⟨gA, 1, none⟩) lA).trans a1; have s3 := (hb6.cell (p := ⟨gt, 4, none⟩) lgt').trans x4; have z6 := (hb6.cell (p := ⟨gp, j * 2 + 1, none⟩) lgp').trans z1A; have f6 := (World.frozen?_of_block (a := ⟨gp, j * 2 + 1, none⟩) (hb6.block gp lgp')).trans (HFZ.out (j * 2 + 1))))
                all_goals
                  have hb := bthen HBAW.out hb6
                  have hset := ownU_setAt (HO4.out.call hb) (j * 2 + 1) (A := A6) (i := n6) (c := c6) z6
                  rw [plC_set qs j p.1 _ (.slice A6 n6 c6) HE1.out] at hset
                  have hPV7 := (plV_set (HPV4.out.cle (Wr.of_below (Gs := Xs) hb).cle) HUP.out hW6).cle (wr_set (w := w6) (HPX.out gp hgpP) (j * 2 + 1) (.slice A6 n6 c6)).cle
                  rw [HUS.out] at hPV7
                  have hw7 := (HW4.out.call hb).set (g := gp) hgpP (j * 2 + 1) (.slice A6 n6 c6)
                  have HF := Lib.hid (And.intro hw7 (And.intro hset hPV7))
                  clear hb hset hPV7 hw7 hW6 hr6 hb6 hb6' s0 s1 s2 s3 z6 f6 y4 y1 a0 a1 x4 z1A
                  go_wp2_with fail
                  go_roundw
                  case rel => exact ⟨j + 1, qs.set j (p.1, .slice A6 n6 c6), by omega, by go_num, HF.out.1, HF.out.2.1, HF.out.2.2⟩
                  case measure => simp [intOf]; omega
              · obtain rfl : j = np := by omega
                have hdec : decide ((j : Int) < (j : Int)) = false := decide_eq_false (by omega)
                have hall : upto (fun p : Nat × Fn => (p.1, fun x => p.2 (asg AH x))) j s.pd = putPd AH s.pd := upto_all _ (by rw [HNP.out]; exact Nat.le_refl _)
                rw [hall] at hPV4
                have hS4 : Sat (hx w (go :: gw :: pL)) wr := hw4.sat HS3.out fun g hg => HF0.out g (HPX.out g hg)
                obtain ⟨b0, b1, b2, b3, b4, b5, b6, b7⟩ := blk8 hBor
                have x3 : wr.cell? ⟨gt, 3, none⟩ = some (.slice (some ⟨gr, 0, none⟩) l.length l.length) := hBtr.cell 3
                have hgrX2 : gr ∈ Xs := (HXM.out gr).2 (.inr (.inl rfl))
                have xT : wr.cell? ⟨gr, N1, none⟩ = some (.slice AT nT cT) := (World.cell?_of_block (a := ⟨gr, N1, none⟩) (hw4.block gr (HXL3.out gr hgrX2) HNP3.out.2.2)).trans HG3.out
                have wN : IntKind.i64.wrap ((l.length : Int) - 1) = (N1 : Int) := by
                  rw [show (l.length : Int) - 1 = (N1 : Int) by have := HN1.out; omega]
                  exact wrap_i (by omega) (by have := HN1.out; omega)
                have hN1I : (N1 : Int) < (l.length : Int) := by have := HN1.out; omega
                obtain ⟨P1, hP1⟩ : ∃ P1, pts + 1 = P1 := ⟨_, rfl⟩
                have wP : IntKind.i64.wrap ((pts : Int) + 1) = (P1 : Int) := by
                  rw [show (pts : Int) + 1 = (P1 : Int) by omega]
                  exact wrap_i (by omega) (by omega)
                have hApP : ∀ g, (Value.slice Ap j cp).ownBlock = some g → g ∈ pL := fun g e => by
                  cases Ap with
                  | none => cases e
                  | some a => injection e with e; rw [← e]; exact HPI.out a rfl
                have hrow : some go ≠ (Value.slice Ap j cp).ownBlock := fun e => HNP3.out.1 (hApP go e.symm)
                have hbW : Below wr.heap.size wr (wr.drew.alloc (.cells #[.int .i64 (pts : Nat), .slice AT nT cT] 52)) := (Below.refl wr.heap.size wr).drew.alloc (Nat.le_refl _) _
                have hOW := hO4.call hbW
                have hSW : Sat (hx w (go :: gw :: pL)) (wr.drew.alloc (.cells #[.int .i64 (pts : Nat), .slice AT nT cT] 52)) := hS4.drew.alloc _
                have hKW : Blk (wr.drew.alloc (.cells #[.int .i64 (pts : Nat), .slice AT nT cT] 52)) wr.heap.size 52 #[.int .i64 (pts : Nat), .slice AT nT cT] := Blk.new wr.drew _ _
                have lgor : go < wr.heap.size := hBor.lt
                have hBs : B ≤ (wr.drew.alloc (.cells #[.int .i64 (pts : Nat), .slice AT nT cT] 52)).heap.size := by
                  show B ≤ (wr.alloc _).heap.size
                  have := HBB.out.1
                  simp
                  omega
                have HAP := Lib.hid hApP
                have HPV4 := Lib.hid hPV4
                have HW4 := Lib.hid hw4
                have HP1 := Lib.hid hP1
                have hrowt : some gt ≠ (Value.slice Ap j cp).ownBlock := fun e => HNP3.out.2.1 (hApP gt e.symm)
                have hrowr : some gr ≠ (Value.slice Ap j cp).ownBlock := fun e => HNP3.out.2.2 (hApP gr e.symm)
                have lgrr : gr < wr.heap.size := Nat.lt_of_lt_of_le (HXL3.out gr hgrX2) hw4.size
                have hgrF := HNE.out
                have lgoF := HB.out.lt
                have q5 : (⟨go, 4, none⟩ : Addr) ≠ ⟨go, 5, none⟩ := addr_o (by omega)
                have q0 : (⟨go, 4, none⟩ : Addr) ≠ ⟨go, 0, none⟩ := addr_o (by omega)
                have q3 : (⟨go, 4, none⟩ : Addr) ≠ ⟨gt, 3, none⟩ := addr_b (by omega)
                have qT : (⟨go, 4, none⟩ : Addr) ≠ ⟨gr, N1, none⟩ := addr_b (by omega)
                clear hall hPV4 hw4 hO4 hS4 hApP hP1
                go_wp2_with fail
                refine wp_region_noPanic ?_
                refine wp_region_held_drew (S := (fun w' => w'.cell? ⟨go, 5, none⟩ = some (.int .i64 (pts : Nat)) ∧ w'.cell? ⟨gt, 3, none⟩ = some (.slice (some ⟨gr, 0, none⟩) l.length l.length) ∧ w'.cell? ⟨go, 0, none⟩ = some (.slice Al l.length cl) ∧ w'.cell? ⟨gr, N1, none⟩ = some (.slice AT nT cT))) (by kernel_rfl) ?hS0 (fun hHeld => ?hR0)
                case hS0 => (try dsimp only); go_keep
                case hR0 =>
                  refine tk 0 (h := ?_)
                  try simp only [pn]
                  refine tk 1 (h := ?_)
                  try simp only [pn]
                  refine tk 2 (h := ?_)
                  try simp only [pn]
                  refine tk 3 (h := ?_)
                  try simp only [pn]
                  refine tk 5 (h := ?_)
                  try simp only [pn]
                  refine tk 6 (h := ?_)
                  try simp only [pn]
                  refine tk 7 (h := ?_)
                  try simp only [pn]
                  refine tk 8 (h := ?_)
                  try simp only [pn]
                  refine tk 9 (h := ?_)
                  try simp only [pn]
                  refine tk 10 (h := ?_)
                  try simp only [pn]
                  refine tk 11 (h := ?_)
                  try simp only [pn]
                  refine tk 12 (h := ?_)
                  try simp only [pn]
                  refine tk 13 (h := ?_)
                  try simp only [pn]
                  refine tk 14 (h := ?_)
                  try simp only [pn]
                  refine tk 15 (h := ?_)
                  try simp only [pn]
                  refine tk 16 (h := ?_)
                  try simp only [pn]
                  refine tk 17 (h := ?_)
                  try simp only [pn]
                  refine tk 18 (h := ?_)
                  try simp only [pn]
                  refine tk 19 (h := ?_)
                  try simp only [pn]
                  refine tk 20 (h := ?_)
                  try simp only [pn]
                  refine tk 21 (h := ?_)
                  try simp only [pn]
                  refine wpAnyH_ready (rs := [4, 22]) (by kernel_rfl) (by simp) ?_
                  refine AllReadyH.cons (o := ?sO801) ?sA801 (fun K hK => ?sB801) ?sC801
                  case sA801 => simp only [List.getElem?_toArray, List.getElem?_cons_succ, List.getElem?_cons_zero]; rfl
                  case sB801 =>
                    go_simp
                    refine hK.out _ _ ?kS802 (fun hHeld => ?kR802)
                    case kS802 => (try dsimp only); go_keep
                    case kR802 =>
                      clear hK K
                      try simp only [Act.put, List.setIfInBounds_toArray, List.set_cons_zero, List.set_cons_succ]
                      refine wpAnyH_ready (rs := [22]) (by kernel_rfl) (by simp) ?_
                      refine AllReadyH.cons (o := ?sO803) ?sA803 (fun K hK => ?sB803) ?sC803
                      case sA803 => simp only [List.getElem?_toArray, List.getElem?_cons_succ, List.getElem?_cons_zero]; rfl
                      case sB803 =>
                        go_simp
                        try go_wp2_with fail
                        refine hK.out _ _ ?kS804 (fun hHeld => ?kR804)
                        case kS804 => (try dsimp only); go_keep
                        case kR804 =>
                          clear hK K
                          try simp only [Act.put, List.setIfInBounds_toArray, List.set_cons_zero, List.set_cons_succ]
                          refine wpAnyH_ready (rs := [23]) (by kernel_rfl) (by simp) ?_
                          refine AllReadyH.cons (o := ?sO805) ?sA805 (fun K hK => ?sB805) ?sC805
                          case sA805 => simp only [List.getElem?_toArray, List.getElem?_cons_succ, List.getElem?_cons_zero]; rfl
                          case sB805 =>
                            refine step_pushPtU rfl (.tmp 121) (.tmp 139) (by rfl) hOW hSW (by rfl) _ 1 (by rfl) hKW (by omega) hBs ?_; intro v6 w6 hO6 hF6 hb6 hg6 hat6; obtain ⟨A6, c6, hv6, hc6⟩ := hO6.1.shape; subst hv6; have hB6 := (hBor.call hbW).grown hg6 hrow; obtain ⟨y0, y1, y2, y3, y4, y5, y6, y7⟩ := blk8 hB6; have f4 := hB6.frozen 4; have s3 := ((hBtr.call hbW).grown hg6 hrowt).cell 3; have sT := (World.cell?_of_block (a := ⟨gr, N1, none⟩) ((hg6.block gr (Nat.lt_of_lt_of_le lgrr hbW.size) hrowr).trans (hbW.block gr lgrr))).trans xT
                            refine hK.out _ _ ?kS806 (fun hHeld => ?kR806)
                            case kS806 => (try dsimp only); go_keep
                            case kR806 =>
                              clear hK K
                              try simp only [Act.put, List.setIfInBounds_toArray, List.set_cons_zero, List.set_cons_succ]
                              refine tk 24 (h := ?_)
                              try simp only [pn]
                              refine tk 25 (h := ?_)
                              try simp only [pn]
                              refine wpAnyH_ready (rs := [26]) (by kernel_rfl) (by simp) ?_
                              refine AllReadyH.cons (o := ?sO807) ?sA807 (fun K hK => ?sB807) ?sC807
                              case sA807 => simp only [List.getElem?_toArray, List.getElem?_cons_succ, List.getElem?_cons_zero]; rfl
                              case sB807 =>
                                go_simp
                                refine hK.out _ _ ?kS808 (fun hHeld => ?kR808)
                                case kS808 => (try dsimp only); (first | exact ⟨cellNe q5 y5, cellNe q3 s3, cellNe q0 y0, cellNe qT sT⟩ | go_keep)
                                case kR808 =>
                                  clear hK K
                                  try simp only [Act.put, List.setIfInBounds_toArray, List.set_cons_zero, List.set_cons_succ]
                                  refine wpAnyH_done (by kernel_rfl) ?_ _
                                  refine NoPanic.normal ?_
                                  have f5 := hB6.frozen 5
                                  have f6 := hB6.frozen 6
                                  have hw46 : Wr pL wr w6 := (Wr.of_below hbW).trans (wr_grown hg6 HAP.out)
                                  obtain ⟨W7, hW7⟩ : ∃ W7, W7 = ((w6.setCell ⟨go, 4, none⟩ (.slice A6 (j + 1) c6)).setCell ⟨go, 5, none⟩ (.int .i64 (P1 : Nat))).setCell ⟨go, 6, none⟩ (.int .u64 (time : Nat)) := ⟨_, rfl⟩
                                  have hB7 : Blk W7 go 40 #[.slice Al l.length cl, .int .i64 (m : Nat), .slice (some ⟨gx, 0, none⟩) l.length l.length, .slice (some ⟨gw, 0, none⟩) l.length l.length, .slice A6 (j + 1) c6, .int .i64 (P1 : Nat), .int .u64 (time : Nat), .bool false] := by
                                    rw [hW7]
                                    have h := ((hB6.set_ 4 (.slice A6 (j + 1) c6)).set_ 5 (.int .i64 (P1 : Nat))).set_ 6 (.int .u64 (time : Nat))
                                    simpa using h
                                  have hw47 : Wr (go :: pL) wr W7 := by
                                    rw [hW7]
                                    exact (((hw46.more (Hs := go :: pL) (fun b hb => List.mem_cons_of_mem _ hb)).set (g := go) List.mem_cons_self 4 _).set (g := go) List.mem_cons_self 5 _).set (g := go) List.mem_cons_self 6 _
                                  have hne6 : ∀ g, (Value.slice A6 (j + 1) c6).ownBlock = some g → g ≠ go := fun g hg e => by
                                    rcases hat6 with h | h
                                    · rw [hg, e] at h
                                      exact hrow h
                                    · rw [hg] at h
                                      injection h with h
                                      have h9 : go < (wr.alloc (.cells #[.int .i64 (pts : Nat), .slice AT nT cT] 52)).drew.heap.size := Nat.lt_of_lt_of_le lgor hbW.size
                                      omega
                                  have hhp : ∀ g, g ≠ go → W7.heap[g]? = w6.heap[g]? := fun g hg => by
                                    rw [hW7]
                                    exact ((Below.heap_setCell _ ⟨go, 6, none⟩ _ g hg).trans (Below.heap_setCell _ ⟨go, 5, none⟩ _ g hg)).trans (Below.heap_setCell _ ⟨go, 4, none⟩ _ g hg)
                                  have hO7 := hO6.wr (w' := W7) fun g hg => hhp g (hne6 g hg)
                                  have hgoX : go ∈ Xs := (HXM.out go).2 (.inr (.inr (.inr (.inl rfl))))
                                  have hcle : CLe (hx wr Xs) (hx W7 [go]) := cle_step hw47 (fun g hg => by
                                    rcases List.mem_cons.1 hg with e | e
                                    · rw [e]; exact hgoX
                                    · exact HPX.out g e) fun g hg => .inl (by rw [List.mem_singleton.1 hg]; exact hgoX)
                                  obtain ⟨A7, c7, e7, hc7, hrd⟩ := hO7.1.rdH
                                  injection e7 with e71 e72 e73
                                  subst e71 e73
                                  have hrd2 := rd_out (Gs := [go]) hrd fun a e hb => hne6 a.block (by rw [e]; rfl) (List.mem_singleton.1 hb)
                                  have hPL : PlF m (hx W7 [go]) A6 (j + 1) (putPd AH s.pd ++ [(pts, fT)]) := ⟨by rw [List.length_append]; unfold putPd; rw [List.length_map, HNP.out]; rfl, qs ++ [(pts, .slice AT nT cT)], by rw [plC_append]; exact hrd2, (HPV4.out.cle hcle).append (PlV.one pts ((HWT.out.cle (HW4.out.more HPX.out).cle).cle hcle))⟩
                                  obtain ⟨LT, hLT⟩ : ∃ LT, putPd AH s.pd ++ [(pts, fT)] = LT := ⟨_, rfl⟩
                                  rw [hLT] at hPL
                                  have HTL := Lib.hid (otell_w (sat_hx W7 [go]) m hm go (hx_in List.mem_cons_self) (hB7.cell 1) A6 (j + 1) c6 hc7 (hB7.cell 4) (hB7.frozen 4) LT hPL (by omega))
                                  have HB7 := Lib.hid hB7
                                  have HW37 := Lib.hid (show Wr (go :: pL) w3 W7 from (HW4.out.more (fun b hb => List.mem_cons_of_mem _ hb)).trans hw47)
                                  have HW7 := Lib.hid hW7
                                  have HLT := Lib.hid hLT
                                  clear hw46 hB7 hw47 hne6 hhp hO7 hcle hrd hrd2 hPL hW7 hLT hO6 hF6 hb6 hg6 hat6 hOW hSW hbW hKW hBs hB6 s3 sT x3 xT
                                  go_wp2_with fail
                                  rw [← HW7.out]
                                  go_at_call 12
                                  refine HTL.out.mono ?_
                                  rintro e w8 ⟨w9, ps9, AI, cI, AL, cL, rfl, hb9, rfl, hOI, hOL, hPVL, hap⟩
                                  have HFI := Lib.hid (And.intro hb9 (And.intro hOI (And.intro hOL (And.intro hPVL hap))))
                                  clear hb9 hOI hOL hPVL hap
                                  go_wp2_with fail
                                  go_ret2
                                  rw [← HONE.out, HLT.out, HP1.out]
                                  have hgr2 := HNE.out
                                  have lgoF := HB.out.lt
                                  have hw0 : Wr (go :: gw :: pL) w w3 := ⟨HW03.out.os, HW03.out.tape, HW03.out.output, HW03.out.size, fun b hb hg => HW03.out.block b hb (by simp at hg ⊢; omega)⟩
                                  exact ostep_fin HB7.out hcl HL.out HX.out HLE3.out HW3.out HN3.out HW37.out (fun g hg => (HXM.out g).2 (by simp at hg; rcases hg with h | h | h <;> simp [h])) (fun e => by
                                    rcases List.mem_cons.1 e with e | e
                                    · exact HGN.out e.symm
                                    · exact (LPL.out gw e).2.2.2 rfl) hw0 HFI.out.1 HFI.out.2.1 HFI.out.2.2.1 HFI.out.2.2.2.1 HFI.out.2.2.2.2 HGN.out HBB.out.1 HBB.out.2
                              case sC807 =>
                                exact AllReadyH.nil
                          case sC805 =>
                            exact AllReadyH.nil
                      case sC803 =>
                        exact AllReadyH.nil
                  case sC801 =>
                    refine AllReadyH.cons (o := ?sO809) ?sA809 (fun K hK => ?sB809) ?sC809
                    case sA809 => simp only [List.getElem?_toArray, List.getElem?_cons_succ, List.getElem?_cons_zero]; rfl
                    case sB809 =>
                      go_simp
                      try go_wp2_with fail
                      refine hK.out _ _ ?kS810 (fun hHeld => ?kR810)
                      case kS810 => (try dsimp only); go_keep
                      case kR810 =>
                        clear hK K
                        try simp only [Act.put, List.setIfInBounds_toArray, List.set_cons_zero, List.set_cons_succ]
                        refine wpAnyH_ready (rs := [4]) (by kernel_rfl) (by simp) ?_
                        refine AllReadyH.cons (o := ?sO811) ?sA811 (fun K hK => ?sB811) ?sC811
                        case sA811 => simp only [List.getElem?_toArray, List.getElem?_cons_succ, List.getElem?_cons_zero]; rfl
                        case sB811 =>
                          go_simp
                          refine hK.out _ _ ?kS812 (fun hHeld => ?kR812)
                          case kS812 => (try dsimp only); go_keep
                          case kR812 =>
                            clear hK K
                            try simp only [Act.put, List.setIfInBounds_toArray, List.set_cons_zero, List.set_cons_succ]
                            refine wpAnyH_ready (rs := [23]) (by kernel_rfl) (by simp) ?_
                            refine AllReadyH.cons (o := ?sO813) ?sA813 (fun K hK => ?sB813) ?sC813
                            case sA813 => simp only [List.getElem?_toArray, List.getElem?_cons_succ, List.getElem?_cons_zero]; rfl
                            case sB813 =>
                              refine step_pushPtU rfl (.tmp 121) (.tmp 139) (by rfl) hOW hSW (by rfl) _ 1 (by rfl) hKW (by omega) hBs ?_; intro v6 w6 hO6 hF6 hb6 hg6 hat6; obtain ⟨A6, c6, hv6, hc6⟩ := hO6.1.shape; subst hv6; have hB6 := (hBor.call hbW).grown hg6 hrow; obtain ⟨y0, y1, y2, y3, y4, y5, y6, y7⟩ := blk8 hB6; have f4 := hB6.frozen 4; have s3 := ((hBtr.call hbW).grown hg6 hrowt).cell 3; have sT := (World.cell?_of_block (a := ⟨gr, N1, none⟩) ((hg6.block gr (Nat.lt_of_lt_of_le lgrr hbW.size) hrowr).trans (hbW.block gr lgrr))).trans xT
                              refine hK.out _ _ ?kS814 (fun hHeld => ?kR814)
                              case kS814 => (try dsimp only); go_keep
                              case kR814 =>
                                clear hK K
                                try simp only [Act.put, List.setIfInBounds_toArray, List.set_cons_zero, List.set_cons_succ]
                                refine tk 24 (h := ?_)
                                try simp only [pn]
                                refine tk 25 (h := ?_)
                                try simp only [pn]
                                refine wpAnyH_ready (rs := [26]) (by kernel_rfl) (by simp) ?_
                                refine AllReadyH.cons (o := ?sO815) ?sA815 (fun K hK => ?sB815) ?sC815
                                case sA815 => simp only [List.getElem?_toArray, List.getElem?_cons_succ, List.getElem?_cons_zero]; rfl
                                case sB815 =>
                                  go_simp
                                  refine hK.out _ _ ?kS816 (fun hHeld => ?kR816)
                                  case kS816 => (try dsimp only); (first | exact ⟨cellNe q5 y5, cellNe q3 s3, cellNe q0 y0, cellNe qT sT⟩ | go_keep)
                                  case kR816 =>
                                    clear hK K
                                    try simp only [Act.put, List.setIfInBounds_toArray, List.set_cons_zero, List.set_cons_succ]
                                    refine wpAnyH_done (by kernel_rfl) ?_ _
                                    refine NoPanic.normal ?_
                                    have f5 := hB6.frozen 5
                                    have f6 := hB6.frozen 6
                                    have hw46 : Wr pL wr w6 := (Wr.of_below hbW).trans (wr_grown hg6 HAP.out)
                                    obtain ⟨W7, hW7⟩ : ∃ W7, W7 = ((w6.setCell ⟨go, 4, none⟩ (.slice A6 (j + 1) c6)).setCell ⟨go, 5, none⟩ (.int .i64 (P1 : Nat))).setCell ⟨go, 6, none⟩ (.int .u64 (time : Nat)) := ⟨_, rfl⟩
                                    have hB7 : Blk W7 go 40 #[.slice Al l.length cl, .int .i64 (m : Nat), .slice (some ⟨gx, 0, none⟩) l.length l.length, .slice (some ⟨gw, 0, none⟩) l.length l.length, .slice A6 (j + 1) c6, .int .i64 (P1 : Nat), .int .u64 (time : Nat), .bool false] := by
                                      rw [hW7]
                                      have h := ((hB6.set_ 4 (.slice A6 (j + 1) c6)).set_ 5 (.int .i64 (P1 : Nat))).set_ 6 (.int .u64 (time : Nat))
                                      simpa using h
                                    have hw47 : Wr (go :: pL) wr W7 := by
                                      rw [hW7]
                                      exact (((hw46.more (Hs := go :: pL) (fun b hb => List.mem_cons_of_mem _ hb)).set (g := go) List.mem_cons_self 4 _).set (g := go) List.mem_cons_self 5 _).set (g := go) List.mem_cons_self 6 _
                                    have hne6 : ∀ g, (Value.slice A6 (j + 1) c6).ownBlock = some g → g ≠ go := fun g hg e => by
                                      rcases hat6 with h | h
                                      · rw [hg, e] at h
                                        exact hrow h
                                      · rw [hg] at h
                                        injection h with h
                                        have h9 : go < (wr.alloc (.cells #[.int .i64 (pts : Nat), .slice AT nT cT] 52)).drew.heap.size := Nat.lt_of_lt_of_le lgor hbW.size
                                        omega
                                    have hhp : ∀ g, g ≠ go → W7.heap[g]? = w6.heap[g]? := fun g hg => by
                                      rw [hW7]
                                      exact ((Below.heap_setCell _ ⟨go, 6, none⟩ _ g hg).trans (Below.heap_setCell _ ⟨go, 5, none⟩ _ g hg)).trans (Below.heap_setCell _ ⟨go, 4, none⟩ _ g hg)
                                    have hO7 := hO6.wr (w' := W7) fun g hg => hhp g (hne6 g hg)
                                    have hgoX : go ∈ Xs := (HXM.out go).2 (.inr (.inr (.inr (.inl rfl))))
                                    have hcle : CLe (hx wr Xs) (hx W7 [go]) := cle_step hw47 (fun g hg => by
                                      rcases List.mem_cons.1 hg with e | e
                                      · rw [e]; exact hgoX
                                      · exact HPX.out g e) fun g hg => .inl (by rw [List.mem_singleton.1 hg]; exact hgoX)
                                    obtain ⟨A7, c7, e7, hc7, hrd⟩ := hO7.1.rdH
                                    injection e7 with e71 e72 e73
                                    subst e71 e73
                                    have hrd2 := rd_out (Gs := [go]) hrd fun a e hb => hne6 a.block (by rw [e]; rfl) (List.mem_singleton.1 hb)
                                    have hPL : PlF m (hx W7 [go]) A6 (j + 1) (putPd AH s.pd ++ [(pts, fT)]) := ⟨by rw [List.length_append]; unfold putPd; rw [List.length_map, HNP.out]; rfl, qs ++ [(pts, .slice AT nT cT)], by rw [plC_append]; exact hrd2, (HPV4.out.cle hcle).append (PlV.one pts ((HWT.out.cle (HW4.out.more HPX.out).cle).cle hcle))⟩
                                    obtain ⟨LT, hLT⟩ : ∃ LT, putPd AH s.pd ++ [(pts, fT)] = LT := ⟨_, rfl⟩
                                    rw [hLT] at hPL
                                    have HTL := Lib.hid (otell_w (sat_hx W7 [go]) m hm go (hx_in List.mem_cons_self) (hB7.cell 1) A6 (j + 1) c6 hc7 (hB7.cell 4) (hB7.frozen 4) LT hPL (by omega))
                                    have HB7 := Lib.hid hB7
                                    have HW37 := Lib.hid (show Wr (go :: pL) w3 W7 from (HW4.out.more (fun b hb => List.mem_cons_of_mem _ hb)).trans hw47)
                                    have HW7 := Lib.hid hW7
                                    have HLT := Lib.hid hLT
                                    clear hw46 hB7 hw47 hne6 hhp hO7 hcle hrd hrd2 hPL hW7 hLT hO6 hF6 hb6 hg6 hat6 hOW hSW hbW hKW hBs hB6 s3 sT x3 xT
                                    go_wp2_with fail
                                    rw [← HW7.out]
                                    go_at_call 12
                                    refine HTL.out.mono ?_
                                    rintro e w8 ⟨w9, ps9, AI, cI, AL, cL, rfl, hb9, rfl, hOI, hOL, hPVL, hap⟩
                                    have HFI := Lib.hid (And.intro hb9 (And.intro hOI (And.intro hOL (And.intro hPVL hap))))
                                    clear hb9 hOI hOL hPVL hap
                                    go_wp2_with fail
                                    go_ret2
                                    rw [← HONE.out, HLT.out, HP1.out]
                                    have hgr2 := HNE.out
                                    have lgoF := HB.out.lt
                                    have hw0 : Wr (go :: gw :: pL) w w3 := ⟨HW03.out.os, HW03.out.tape, HW03.out.output, HW03.out.size, fun b hb hg => HW03.out.block b hb (by simp at hg ⊢; omega)⟩
                                    exact ostep_fin HB7.out hcl HL.out HX.out HLE3.out HW3.out HN3.out HW37.out (fun g hg => (HXM.out g).2 (by simp at hg; rcases hg with h | h | h <;> simp [h])) (fun e => by
                                      rcases List.mem_cons.1 e with e | e
                                      · exact HGN.out e.symm
                                      · exact (LPL.out gw e).2.2.2 rfl) hw0 HFI.out.1 HFI.out.2.1 HFI.out.2.2.1 HFI.out.2.2.2.1 HFI.out.2.2.2.2 HGN.out HBB.out.1 HBB.out.2
                                case sC815 =>
                                  exact AllReadyH.nil
                            case sC813 =>
                              exact AllReadyH.nil
                        case sC811 =>
                          exact AllReadyH.nil
                    case sC809 =>
                      exact AllReadyH.nil
end Go.Proofs.Ytaomehlhopiblaa
