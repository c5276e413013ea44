/- One pass: the walk of back: a match up to here; its window goes on. -/
import Derived.Test.YtaomehlhopiblaaOnlY
set_option linter.unusedVariables false
set_option linter.unusedSimpArgs false
/-! One pass: the walk of back: a match up to here; its window goes on. -/
namespace Go.Proofs.Ytaomehlhopiblaa
open Go.RowKit
attribute [local go_sem ↓] Go.wp_at_zero Go.wp_at_succ
theorem makeN3 (n : Nat) (hn : n ≤ 1000000) (w : World) : (Instr.makeSlice 84 (.int .i64 (n : Int)) (.int .i64 (n : Int))).run Try.prog w = .ok (.slice (some ⟨w.heap.size, 0, none⟩) n n) (w.alloc (.cells (zeros (.slice none 0 0) n) 42)) :=
  run_make1 _ _ _ 24 Try.underlying84 (by kernel_rfl) rfl n (by omega) (by omega) w
theorem eq_nil (A : Option Addr) (n c : Nat) (X : World) : Sem.run Try.prog (binOp BinOp.eql 49 (Value.slice A n c) (Value.slice none 0 0)) X = .ok (.bool A.isNone) X := by
  simp only [binOp]
  simp [Op.equal, Op.maxDepth, run_equalIn_slice_nil X 9999 _ _ A n c Try.underlying49]
theorem wdg_some {m : Nat} {F : Fz} {v : Value} {p : Fn} (h : WdG m F v p) : ∃ A c, v = .slice (some A) (wordsN m) c ∧ 0 < wordsN m := by
  obtain ⟨hm, A, c, e, hr⟩ := h
  have hw : 0 < wordsN m := by
    unfold wordsN
    split
    · exact Nat.pow_pos (by omega)
    · omega
  obtain ⟨ad, e2, _⟩ := hr.2 hw
  exact ⟨ad, c, by rw [e, e2], hw⟩
/-- What back leaves: a truth, and the window that is written behind all else. -/
def RetBk (m M : Nat) (w : World) (gw i : Nat) (Ys : List Nat) (p : Fn) (V : Win) (e : Ending) (w' : World) : Prop :=
  ∃ v w1 A n c, e = .returned v ∧ Below w.heap.size w w1 ∧ w' = w1.setCell ⟨gw, i, none⟩ (.slice A n c) ∧ n ≤ c ∧ WdG m (hx w1 (gw :: Ys)) v p ∧ BkF m (hx w1 (gw :: Ys)) M A n V
theorem cle_moreY {w w' : World} {Hs Hs2 : List Nat} (Ys : List Nat) (h : CLe (hx w Hs) (hx w' Hs2)) : CLe (hx w (Hs ++ Ys)) (hx w' (Hs2 ++ Ys)) := fun a v hc => by
  by_cases hb : a.block ∈ Hs ++ Ys
  · unfold Fz.cell at hc
    rw [hx_in hb] at hc
    cases hc
  · have h1 : (hx w Hs).cell a = some v := by
      unfold Fz.cell at hc ⊢
      rw [hx_out hb] at hc
      rw [hx_out (fun e => hb (List.mem_append_left _ e))]
      exact hc
    have h2 := h a v h1
    by_cases hb2 : a.block ∈ Hs2
    · unfold Fz.cell at h2
      rw [hx_in hb2] at h2
      cases h2
    · unfold Fz.cell at h2 ⊢
      rw [hx_out hb2] at h2
      rw [hx_out (fun e => by rcases List.mem_append.1 e with e | e; exact hb2 e; exact hb (List.mem_append_right _ e))]
      exact h2
theorem ltY {w w5 : World} {Ks Ys : List Nat} (h : ∀ g, g ∈ Ks → g < w.heap.size) (hY : ∀ g, g ∈ Ys → g < w5.heap.size) (hs : w5.heap.size ≤ w.heap.size) : ∀ g, g ∈ Ks ++ Ys → g < w.heap.size := fun g hg => by
  rcases List.mem_append.1 hg with e | e
  · exact h g e
  · exact Nat.lt_of_lt_of_le (hY g e) hs
set_option maxRecDepth 100000 in
set_option maxHeartbeats 8000000 in
theorem oback_w {F : Fz} {w : World} (hF : Sat F w) (m : Nat) (hm : m ≤ 10) (N gt go gx gw ga gr : Nat) (Al : Option Addr) (cl d : Nat) (hN : N ≤ 1000) (hd : d < 18446744073709551616) (hT : TuF F m N gt go gx gw ga gr Al cl d)
    {t : Tr} (hX : RxF F t gx) (i : Nat) (hi : i < t.size) (hiN : i < N) {h : Nd} {a : Tr} (hxs : t.sub i = .un h a) (h16 : h.kind = 16) (hs : spanS h.lo h.hi = true) (hva : validT a = true) (hra : regS a.root.kind = true) (has : a.size ≤ 1000)
    (tr : Nat → Fn) (htr : ∀ p ∈ partsP a (i - a.size), p < N ∧ ∃ v, F.cell ⟨gr, p, none⟩ = some v ∧ WdF m F v (tr p))
    (W0 : Win) (Aw : Option Addr) (nw cw : Nat) (hwc : w.cell? ⟨gw, i, none⟩ = some (.slice Aw nw cw)) (hsw : w.frozen? ⟨gw, i, none⟩ = false) (hnw : NoU w gw) (hgw : F gw = none) (hW : BkF m F (stepsN a) Aw nw W0) (hWl : W0.length ≤ 80000) (hWc : ∀ b ∈ W0, b.1 ≤ 10000)
    (ah : List Fn) (hah : ah.length ≤ m) (hA : RwF m F (some ⟨ga, 0, none⟩) m fun q => ah.getD q noFn) (Ys : List Nat) (hYs : ∀ g, g ∈ Ys → g < w.heap.size) :
    Calls Try.prog 23 #[.pointer (some ⟨gt, 0, none⟩), .int .i64 (i : Nat), .agg #[.int .i64 h.lo, .int .i64 h.hi]] w
      (RetBk m (stepsN a) w gw i Ys (backF h a ((partsP a (i - a.size)).map tr) (shiftW h d ah W0)) (backV m a ((partsP a (i - a.size)).map tr) (shiftW h d ah W0))) := by
  obtain ⟨Ar, cr, Ap, np, cp, x0, x1, x2, x3, x4, x5, x6, x7⟩ := hX i h a hi hxs (.inl h16)
  have hsN := stepsN_le a
  obtain ⟨zs, hzs⟩ : ∃ zs, (partsP a (i - a.size)).map tr = zs := ⟨_, rfl⟩
  have HTS : Hid (∀ X, Sat F X → Calls Try.prog 39 #[.pointer (some ⟨gt, 0, none⟩), .int .i64 (i : Nat)] X (RetTs m X zs)) := Lib.hid (fun X hX => hzs ▸ otests_w hX m N gt go gx gw ga gr Al cl d hT (by omega) i (by omega) (partsP a (i - a.size)) Ap np cp x4 x6 x7 tr htr)
  have hzl : zs.length ≤ 1000 := by rw [← hzs, List.length_map]; have := x6.1; simp at this; omega
  rw [hzs]
  have hX0 : CLe F (heapF w) → RxF (heapF w) t gx := fun hle => hX.cle hle
  have HSW : Hid (∀ X, Below w.heap.size w X → Calls Try.prog 40 #[.pointer (some ⟨gt, 0, none⟩), .int .i64 (i : Nat), .agg #[.int .i64 h.lo, .int .i64 h.hi]] X (RetSf m (stepsN a) X (shiftW h d ah W0))) := Lib.hid (fun X hX => by
    have hle := hF.cle
    exact oshift_w ((sat_heapF w).below hX) m hm N gt go gx gw ga gr Al cl d hN hd (hT.cle hle) (hX0 hle) i hi hiN hxs h16 hs has W0 Aw nw cw hwc (hW.cle hle) (by omega) hWc ah hah (hA.cle hle))
  obtain ⟨SW, hSW⟩ : ∃ SW, shiftW h d ah W0 = SW := ⟨_, rfl⟩
  obtain ⟨wl1, wl2, wl3⟩ := last_is hs
  have HSC : Hid (∀ b ∈ SW, b.1 ≤ 10000) := Lib.hid (fun b hb => by
    have := in_shift h d ah W0 b (by rw [hSW]; exact hb)
    omega)
  have hSl : SW.length ≤ 80001 := by rw [← hSW]; have := len_shift h d ah W0; omega
  rw [hSW] at HSW ⊢
  obtain ⟨W, hWe⟩ : ∃ W, W = w.alloc (.cells #[.int .i64 h.lo, .int .i64 h.hi] 46) := ⟨_, rfl⟩
  have HB0 := Lib.hid (show Blk W w.heap.size 46 #[.int .i64 h.lo, .int .i64 h.hi] by rw [hWe]; exact Blk.new _ _ _)
  have hbW : Below w.heap.size w W := by rw [hWe]; exact balloc _ _
  have HF1 := Lib.hid (hF.below hbW)
  have HWe := Lib.hid hWe
  obtain ⟨R, hR⟩ : ∃ R, a.size = R := ⟨_, rfl⟩
  have HR := Lib.hid hR
  rw [hR] at x0 x1 x2 has hsN
  obtain ⟨M, hM⟩ : ∃ M, stepsN a = M := ⟨_, rfl⟩
  have HM := Lib.hid hM
  rw [hM] at x3 hsN HSW ⊢
  have hlW : w.heap.size < W.heap.size := HB0.out.lt
  have hgwl : gw < w.heap.size := by
    rcases Nat.lt_or_ge gw w.heap.size with e | e
    · exact e
    · unfold World.cell? at hwc
      rw [show w.heap[gw]? = none from Array.getElem?_eq_none e] at hwc
      cases hwc
  have y0 := HF1.out.cell hT.o
  have y1 := HF1.out.cell hT.n
  have y2 := HF1.out.cell hT.rx
  have y3 := HF1.out.cell x0
  have y4 := HF1.out.cell x3
  have y5 := HF1.out.cell x4
  have lt_ : gt < W.heap.size := HF1.out.clt hT.o
  have lo_ : go < W.heap.size := HF1.out.clt hT.n
  have lx_ : gx < W.heap.size := HF1.out.clt x0
  have hiI : (i : Int) < (N : Int) := by omega
  have HTT := Lib.hid (show F.cell ⟨gt, 0, none⟩ = some (.pointer (some ⟨go, 0, none⟩)) ∧ F.cell ⟨go, 3, none⟩ = some (.slice (some ⟨gw, 0, none⟩) N N) from ⟨hT.o, hT.wn⟩)
  have HWC := Lib.hid hwc
  have HSF := Lib.hid hsw
  have HNW := Lib.hid hnw
  have HGW := Lib.hid hgw
  have HBW := Lib.hid hbW
  have HFF := Lib.hid hF
  have HYS := Lib.hid hYs
  clear hT x0 x3 x4 x5 x6 x7 hX hX0 hwc hW hA hF hWe hbW hWl hWc hSW hR hM hxs htr hzs hsw hnw hgw hah hYs
  go_enter Try.func23, Try.ntmps23
  go_wp2_with fail
  rw [← HWe.out]
  go_cut [7, 8, 9] from 22 to 41 (fun v7 v8 v9 wx => ∃ (g8 : Nat) (At : Option Addr) (ct : Nat), v7 = .int .i64 (m : Nat) ∧ v8 = .pointer (some ⟨g8, 0, none⟩) ∧ v9 = .slice At zs.length ct ∧ W.heap.size ≤ g8 ∧ Below W.heap.size W wx ∧ Blk wx g8 80 #[.slice Ar R cr, .int .i64 (M : Nat), .slice Ap np cp] ∧ (∀ a, At = some a → W.heap.size ≤ a.block) ∧ TsF m (heapF wx) At zs.length (zOf zs))
  case first =>
    have hb0 : Below W.heap.size W W.drew := bel_eqv (Below.refl _ W) rfl rfl rfl rfl
    refine wp_region_noPanic ?_
    refine wp_region_held_drew (S := (fun w' => w'.cell? ⟨gt, 0, none⟩ = some (.pointer (some ⟨go, 0, none⟩)) ∧ w'.cell? ⟨go, 1, none⟩ = some (.int .i64 (m : Nat)) ∧ w'.cell? ⟨go, 2, none⟩ = some (.slice (some ⟨gx, 0, none⟩) N N) ∧ w'.cell? ⟨gx, i * 3, none⟩ = some (.slice Ar R cr) ∧ w'.cell? ⟨gx, i * 3 + 1, none⟩ = some (.int .i64 (M : Nat)) ∧ w'.cell? ⟨gx, i * 3 + 2, none⟩ = some (.slice Ap np cp))) (by kernel_rfl) ?hS0 (fun hHeld => ?hR0)
    case hS0 => (try dsimp only); exact ⟨(Below.cell hb0 (p := ⟨gt, 0, none⟩) lt_).trans y0, (Below.cell hb0 (p := ⟨go, 1, none⟩) lo_).trans y1, (Below.cell hb0 (p := ⟨go, 2, none⟩) lo_).trans y2, (Below.cell hb0 (p := ⟨gx, i * 3, none⟩) lx_).trans y3, (Below.cell hb0 (p := ⟨gx, i * 3 + 1, none⟩) lx_).trans y4, (Below.cell hb0 (p := ⟨gx, i * 3 + 2, none⟩) lx_).trans y5⟩
    case hR0 =>
      refine tk 0 (h := ?_)
      try simp only [pn]
      refine tk 1 (h := ?_)
      try simp only [pn]
      refine tk 2 (h := ?_)
      try simp only [pn]
      refine tk 3 (h := ?_)
      try simp only [pn]
      refine tk 4 (h := ?_)
      try simp only [pn]
      refine tk 5 (h := ?_)
      try simp only [pn]
      refine tk 6 (h := ?_)
      try simp only [pn]
      refine tk 7 (h := ?_)
      try simp only [pn]
      refine tk 8 (h := ?_)
      try simp only [pn]
      refine tk 9 (h := ?_)
      try simp only [pn]
      refine tk 10 (h := ?_)
      try simp only [pn]
      refine tk 11 (h := ?_)
      try simp only [pn]
      refine tk 12 (h := ?_)
      try simp only [pn]
      refine tk 13 (h := ?_)
      try simp only [pn]
      refine tk 14 (h := ?_)
      try simp only [pn]
      refine tk 15 (h := ?_)
      try simp only [pn]
      refine tk 16 (h := ?_)
      try simp only [pn]
      refine tk 17 (h := ?_)
      try simp only [pn]
      refine tk 18 (h := ?_)
      try simp only [pn]
      refine wpAnyH_ready (rs := [19, 20]) (by kernel_rfl) (by simp) ?_
      refine AllReadyH.cons (o := ?sO1) ?sA1 (fun K hK => ?sB1) ?sC1
      case sA1 => (first | (simp only [List.getElem?_toArray, List.getElem?_cons_succ, List.getElem?_cons_zero]; done) | (simp only [List.getElem?_toArray, List.getElem?_cons_succ, List.getElem?_cons_zero]; rfl))
      case sB1 =>
        go_simp
        go_at_call 39; refine (HTS.out _ (HF1.out.below hb0)).mono ?_; rintro e wo2 ⟨At, ct, rfl, hwo2, hat, hTs⟩
        have hbo2 : Below W.heap.size W wo2 := Below.trans hb0 (Below.mono hwo2 (hb0).size)
        have hz_2 := (hbo2).size
        have s_2 : (fun w' => w'.cell? ⟨gt, 0, none⟩ = some (.pointer (some ⟨go, 0, none⟩)) ∧ w'.cell? ⟨go, 1, none⟩ = some (.int .i64 (m : Nat)) ∧ w'.cell? ⟨go, 2, none⟩ = some (.slice (some ⟨gx, 0, none⟩) N N) ∧ w'.cell? ⟨gx, i * 3, none⟩ = some (.slice Ar R cr) ∧ w'.cell? ⟨gx, i * 3 + 1, none⟩ = some (.int .i64 (M : Nat)) ∧ w'.cell? ⟨gx, i * 3 + 2, none⟩ = some (.slice Ap np cp)) wo2 := ⟨(Below.cell hbo2 (p := ⟨gt, 0, none⟩) lt_).trans y0, (Below.cell hbo2 (p := ⟨go, 1, none⟩) lo_).trans y1, (Below.cell hbo2 (p := ⟨go, 2, none⟩) lo_).trans y2, (Below.cell hbo2 (p := ⟨gx, i * 3, none⟩) lx_).trans y3, (Below.cell hbo2 (p := ⟨gx, i * 3 + 1, none⟩) lx_).trans y4, (Below.cell hbo2 (p := ⟨gx, i * 3 + 2, none⟩) lx_).trans y5⟩
        try go_wp2_with fail
        refine hK.out _ _ ?kS3 (fun hHeld => ?kR3)
        case kS3 => (try dsimp only); exact s_2
        case kR3 =>
          clear hK K
          try simp only [Act.put, List.setIfInBounds_toArray, List.set_cons_zero, List.set_cons_succ]
          refine wpAnyH_ready (rs := [20]) (by kernel_rfl) (by simp) ?_
          refine AllReadyH.cons (o := ?sO4) ?sA4 (fun K hK => ?sB4) ?sC4
          case sA4 => (first | (simp only [List.getElem?_toArray, List.getElem?_cons_succ, List.getElem?_cons_zero]; done) | (simp only [List.getElem?_toArray, List.getElem?_cons_succ, List.getElem?_cons_zero]; rfl))
          case sB4 =>
            go_simp
            have hbo5 : Below W.heap.size W (wo2.alloc (.cells #[.slice none 0 0, .int .i64 0, .slice none 0 0] 80)) := Below.alloc hbo2 (hbo2).size (.cells #[.slice none 0 0, .int .i64 0, .slice none 0 0] 80)
            have k8_5 : Blk (wo2.alloc (.cells #[.slice none 0 0, .int .i64 0, .slice none 0 0] 80)) (wo2.heap.size) 80 #[.slice none 0 0, .int .i64 0, .slice none 0 0] := blkNew (by simp)
            refine hK.out _ _ ?kS6 (fun hHeld => ?kR6)
            case kS6 => (try dsimp only); go_keep
            case kR6 =>
              clear hK K
              try simp only [Act.put, List.setIfInBounds_toArray, List.set_cons_zero, List.set_cons_succ]
              refine tk 21 (h := ?_)
              try simp only [pn]
              refine wpAnyH_ready (rs := [22]) (by kernel_rfl) (by simp) ?_
              refine AllReadyH.cons (o := ?sO7) ?sA7 (fun K hK => ?sB7) ?sC7
              case sA7 => (first | (simp only [List.getElem?_toArray, List.getElem?_cons_succ, List.getElem?_cons_zero]; done) | (simp only [List.getElem?_toArray, List.getElem?_cons_succ, List.getElem?_cons_zero]; rfl))
              case sB7 =>
                -- store 22
                have ng_8 : gt ≠ wo2.heap.size := by omega
                have no_8 : go ≠ wo2.heap.size := by omega
                have nx_8 : gx ≠ wo2.heap.size := by omega
                obtain ⟨e1_8, e2_8, e3_8, e4_8, e5_8, e6_8⟩ := blk3 k8_5
                have hq_8 := hHeld
                try dsimp only at hq_8
                obtain ⟨q0_8, q1_8, q2_8, q3_8, q4_8, q5_8⟩ := hq_8
                go_simp
                refine hK.out _ _ ?kS9 (fun hHeld => ?kR9)
                case kS9 => (try dsimp only); first | go_keep | exact ⟨cell_set3 (Ne.symm ng_8) q0_8, cell_set3 (Ne.symm no_8) q1_8, cell_set3 (Ne.symm no_8) q2_8, cell_set3 (Ne.symm nx_8) q3_8, cell_set3 (Ne.symm nx_8) q4_8, cell_set3 (Ne.symm nx_8) q5_8⟩
                case kR9 =>
                  clear hK K
                  try simp only [Act.put, List.setIfInBounds_toArray, List.set_cons_zero, List.set_cons_succ]
                  refine tk 23 (h := ?_)
                  try simp only [pn]
                  refine wpAnyH_done (by kernel_rfl) ?_ _
                  refine NoPanic.normal ?_
                  go_wp2_with fail
                  clear hHeld
                  go_meet
                  have hbf := Below.alloc hbo2 (Below.size hbo2) (.cells #[.slice Ar R cr, .int .i64 (M : Nat), .slice Ap np cp] 80)
                  exact ⟨wo2.heap.size, At, ct, rfl, rfl, rfl, by omega, hbf, Blk.new _ _ _, hat, hTs.cle_ (cle_below (balloc _ _))⟩
              case sC7 =>
                exact AllReadyH.nil
          case sC4 =>
            exact AllReadyH.nil
      case sC1 =>
        refine AllReadyH.cons (o := ?sO10) ?sA10 (fun K hK => ?sB10) ?sC10
        case sA10 => (first | (simp only [List.getElem?_toArray, List.getElem?_cons_succ, List.getElem?_cons_zero]; done) | (simp only [List.getElem?_toArray, List.getElem?_cons_succ, List.getElem?_cons_zero]; rfl))
        case sB10 =>
          go_simp
          have hbo11 : Below W.heap.size W (W.alloc (.cells #[.slice none 0 0, .int .i64 0, .slice none 0 0] 80)).drew := Below.alloc hb0 (hb0).size (.cells #[.slice none 0 0, .int .i64 0, .slice none 0 0] 80)
          have k8_11 : Blk (W.alloc (.cells #[.slice none 0 0, .int .i64 0, .slice none 0 0] 80)).drew (W.heap.size) 80 #[.slice none 0 0, .int .i64 0, .slice none 0 0] := blkNew (by simp)
          refine hK.out _ _ ?kS12 (fun hHeld => ?kR12)
          case kS12 => (try dsimp only); go_keep
          case kR12 =>
            clear hK K
            try simp only [Act.put, List.setIfInBounds_toArray, List.set_cons_zero, List.set_cons_succ]
            refine wpAnyH_ready (rs := [19]) (by kernel_rfl) (by simp) ?_
            refine AllReadyH.cons (o := ?sO13) ?sA13 (fun K hK => ?sB13) ?sC13
            case sA13 => (first | (simp only [List.getElem?_toArray, List.getElem?_cons_succ, List.getElem?_cons_zero]; done) | (simp only [List.getElem?_toArray, List.getElem?_cons_succ, List.getElem?_cons_zero]; rfl))
            case sB13 =>
              go_simp
              go_at_call 39; refine (HTS.out _ (HF1.out.below hbo11)).mono ?_; rintro e wo14 ⟨At, ct, rfl, hwo14, hat, hTs⟩
              have hbo14 : Below W.heap.size W wo14 := Below.trans hbo11 (Below.mono hwo14 (hbo11).size)
              have hz_14 := (hbo14).size
              have k8_14 := Blk.call k8_11 hwo14
              have lk8_14 := (k8_14).lt
              have s_14 : (fun w' => w'.cell? ⟨gt, 0, none⟩ = some (.pointer (some ⟨go, 0, none⟩)) ∧ w'.cell? ⟨go, 1, none⟩ = some (.int .i64 (m : Nat)) ∧ w'.cell? ⟨go, 2, none⟩ = some (.slice (some ⟨gx, 0, none⟩) N N) ∧ w'.cell? ⟨gx, i * 3, none⟩ = some (.slice Ar R cr) ∧ w'.cell? ⟨gx, i * 3 + 1, none⟩ = some (.int .i64 (M : Nat)) ∧ w'.cell? ⟨gx, i * 3 + 2, none⟩ = some (.slice Ap np cp)) wo14 := ⟨(Below.cell hbo14 (p := ⟨gt, 0, none⟩) lt_).trans y0, (Below.cell hbo14 (p := ⟨go, 1, none⟩) lo_).trans y1, (Below.cell hbo14 (p := ⟨go, 2, none⟩) lo_).trans y2, (Below.cell hbo14 (p := ⟨gx, i * 3, none⟩) lx_).trans y3, (Below.cell hbo14 (p := ⟨gx, i * 3 + 1, none⟩) lx_).trans y4, (Below.cell hbo14 (p := ⟨gx, i * 3 + 2, none⟩) lx_).trans y5⟩
              try go_wp2_with fail
              refine hK.out _ _ ?kS15 (fun hHeld => ?kR15)
              case kS15 => (try dsimp only); exact s_14
              case kR15 =>
                clear hK K
                try simp only [Act.put, List.setIfInBounds_toArray, List.set_cons_zero, List.set_cons_succ]
                refine tk 21 (h := ?_)
                try simp only [pn]
                refine wpAnyH_ready (rs := [22]) (by kernel_rfl) (by simp) ?_
                refine AllReadyH.cons (o := ?sO16) ?sA16 (fun K hK => ?sB16) ?sC16
                case sA16 => (first | (simp only [List.getElem?_toArray, List.getElem?_cons_succ, List.getElem?_cons_zero]; done) | (simp only [List.getElem?_toArray, List.getElem?_cons_succ, List.getElem?_cons_zero]; rfl))
                case sB16 =>
                  -- store 22
                  have ng_17 : gt ≠ W.heap.size := by omega
                  have no_17 : go ≠ W.heap.size := by omega
                  have nx_17 : gx ≠ W.heap.size := by omega
                  obtain ⟨e1_17, e2_17, e3_17, e4_17, e5_17, e6_17⟩ := blk3 k8_14
                  have hq_17 := hHeld
                  try dsimp only at hq_17
                  obtain ⟨q0_17, q1_17, q2_17, q3_17, q4_17, q5_17⟩ := hq_17
                  go_simp
                  refine hK.out _ _ ?kS18 (fun hHeld => ?kR18)
                  case kS18 => (try dsimp only); first | go_keep | exact ⟨cell_set3 (Ne.symm ng_17) q0_17, cell_set3 (Ne.symm no_17) q1_17, cell_set3 (Ne.symm no_17) q2_17, cell_set3 (Ne.symm nx_17) q3_17, cell_set3 (Ne.symm nx_17) q4_17, cell_set3 (Ne.symm nx_17) q5_17⟩
                  case kR18 =>
                    clear hK K
                    try simp only [Act.put, List.setIfInBounds_toArray, List.set_cons_zero, List.set_cons_succ]
                    refine tk 23 (h := ?_)
                    try simp only [pn]
                    refine wpAnyH_done (by kernel_rfl) ?_ _
                    refine NoPanic.normal ?_
                    go_wp2_with fail
                    clear hHeld
                    go_meet
                    have hbf := below_set3 (x := .slice Ar R cr) (y := .int .i64 (M : Nat)) (z := .slice Ap np cp) hbo14 (show W.heap.size ≤ W.heap.size by omega)
                    exact ⟨W.heap.size, At, ct, rfl, rfl, rfl, by omega, hbf, blk_set3 k8_14, fun a e => Nat.le_trans (balloc _ _).size (hat a e), ts_off3 k8_14 hTs (fun a e e2 => by have := hat a e; rw [e2] at this; simp at this; omega)⟩
                case sC16 =>
                  exact AllReadyH.nil
            case sC13 =>
              exact AllReadyH.nil
        case sC10 =>
          exact AllReadyH.nil
  case rest =>
    obtain ⟨g8, At, ct, rfl, rfl, rfl, hg8, hbc, hB8, hat, hTc⟩ := hcut
    have hmk1 : ∀ X : World, (Instr.makeSlice 84 (.int .i64 ((M : Int) + 1)) (.int .i64 ((M : Int) + 1))).run Try.prog X = .ok (.slice (some ⟨X.heap.size, 0, none⟩) (M + 1) (M + 1)) (X.alloc (.cells (zeros (.slice none 0 0) (M + 1)) 42)) := fun X => by
      have := makeN3 (M + 1) (by omega) X
      simpa using this
    have hmk2 : ∀ X : World, (Instr.makeSlice 42 (.int .i64 ((M : Int) + 1)) (.int .i64 ((M : Int) + 1))).run Try.prog X = .ok (.slice (some ⟨X.heap.size, 0, none⟩) (M + 1) (M + 1)) (X.alloc (.cells (zeros (.slice none 0 0) (M + 1)) 49)) := fun X => by
      have := makeR (M + 1) (by omega) X
      simpa using this
    have wM : IntKind.i64.wrap ((M : Int) + 1) = (M : Int) + 1 := wrap_i (by omega) (by omega)
    have k1 := (blk3 hB8).2.1
    obtain ⟨w2, hw2⟩ : ∃ w2, w2 = wc := ⟨_, rfl⟩
    subst hw2
    go_wp2_with fail
    go_cut [10, 11] from 42 to 49 (fun v10 v11 wx => ∃ gN gE : Nat, v10 = .slice (some ⟨gN, 0, none⟩) (M + 1) (M + 1) ∧ v11 = .slice (some ⟨gE, 0, none⟩) (M + 1) (M + 1) ∧ gN ≠ gE ∧ w2.heap.size ≤ gN ∧ w2.heap.size ≤ gE ∧ Below w2.heap.size w2 wx ∧ Blk wx gN 42 (zeros (.slice none 0 0) (M + 1)) ∧ Blk wx gE 49 (zeros (.slice none 0 0) (M + 1)))
    case first =>
      go_region_held3 (fun w' => w'.cell? ⟨g8, 1, none⟩ = some (.int .i64 (M : Nat))) (go_keep) (fail)
      all_goals
        go_wp2_with fail
        go_meet
        first
          | exact ⟨w2.heap.size, w2.heap.size + 1, rfl, rfl, by omega, Nat.le_refl _, Nat.le_succ _, ((balloc w2 _).alloc (by simp) _).drew, (Blk.new w2 42 _).alloc _, Blk.new2 w2 _ _ _⟩
          | exact ⟨w2.heap.size + 1, w2.heap.size, rfl, rfl, by omega, Nat.le_succ _, Nat.le_refl _, ((balloc w2 _).alloc (by simp) _).drew, Blk.new2 w2 _ _ _, (Blk.new w2 49 _).alloc _⟩
    case rest =>
      obtain ⟨gN, gE, rfl, rfl, hNE, hgN, hgE, hb3, hBN, hBE⟩ := hcut
      have hbc2 : Below w.heap.size w w2 := bthen HBW.out hbc
      have hbF : Below w.heap.size w wc := bthen hbc2 hb3
      have hBb := (HB0.out.call hbc).call hb3
      have hB8c := hB8.call hb3
      have hg8l : g8 < w2.heap.size := hB8.lt
      have hz2 := hbc2.size
      have hz2s : w.heap.size < w2.heap.size := Nat.lt_of_lt_of_le hlW hbc.size
      have hzc := hbF.size
      have hNl : gN < wc.heap.size := hBN.lt
      have hEl : gE < wc.heap.size := hBE.lt
      have hwlc : gw < wc.heap.size := Nat.lt_of_lt_of_le hgwl hzc
      have hg3 : ∀ g, g ∈ [gN, gE, gw] → g < wc.heap.size := fun g hg => by simp at hg; omega
      have HNO := Lib.hid (fun (X : World) => ql_no hm (w := X))
      have HAN := Lib.hid (fun (X : World) (v v' : Value) (p q : Nat → Bool) (h : Wd m X v p) (h' : Wd m X v' q) => ql_and hm h h')
      have HOR := Lib.hid (fun (X : World) (v v' : Value) (p q : Nat → Bool) (h : Wd m X v p) (h' : Wd m X v' q) => ql_or hm h h')
      have HTC := Lib.hid (TsF.cle_ hTc (cle_below hb3))
      have HATL : Hid (0 < zs.length → ∀ ad, At = some ad → ad.block < w2.heap.size) := Lib.hid (fun h0 ad e => by
        obtain ⟨ad0, _, e0, h1, _⟩ := hTc.1 0 h0
        have h2 := (sat_heapF w2).clt h1
        rw [block_of_add] at h2
        rw [e0] at e
        injection e with e
        rw [← e]
        exact h2)
      have b0 := (blkA hBb).1; have b1 := (blkA hBb).2.1
      clear hTc hmk1 k1 hB8 y0 y1 y2 y3 y4 y5 lt_ lo_ lx_ x1 hg8 hbc
      go_wp2_with (first
        | (go_at_call 40; refine (HSW.out _ (bthen hbF hb4)).mono ?_; rintro e w5 ⟨AS, nS, cS, rfl, hcS, hb5, hBk⟩)
        | (go_at_call 25; refine (HNO.out _).mono ?_; intro e w4 hr4; obtain ⟨v4, rfl, hb4, hW4⟩ := hr4.hx (Gs := [gN, gE, gw] ++ Ys) (ltY hg3 HYS.out hzc); obtain ⟨_, A4, c4, rfl, _⟩ := id hW4; have b0' := (blkA (hBb.call hb4)).1; have b1' := (blkA (hBb.call hb4)).2.1))
      have hb45 := bthen hb4 hb5
      have HBF := Lib.hid (bthen hbF hb45)
      have HB45 := Lib.hid hb45
      have hBN5 := hBN.call hb45
      have hBE5 := hBE.call hb45
      have HY5 : Hid (∀ g, g ∈ Ys → g < w5.heap.size) := Lib.hid (fun g hg => Nat.lt_of_lt_of_le (HYS.out g hg) HBF.out.size)
      have hNW5 : NoU w5 gw := HNW.out.keep ((bthen hbF hb45).block gw hgwl)
      obtain ⟨NX, hNX⟩ : ∃ NX : Nat → Nat → Fn, (fun k => (stateO (zOf zs) a k).1) = NX := ⟨_, rfl⟩
      have HNXe : Hid (∀ k, (stateO (zOf zs) a k).1 = NX k) := Lib.hid (fun k => by rw [← hNX])
      obtain ⟨EN, hEN⟩ : ∃ EN : Nat → Fn, (fun k => (stateO (zOf zs) a k).2) = EN := ⟨_, rfl⟩
      have HENe : Hid (∀ k, (stateO (zOf zs) a k).2 = EN k) := Lib.hid (fun k => by rw [← hEN])
      have hM0 : MemoW m M NX EN gN gE [gN, gE, gw] w5 := MemoW.new hNE hBN5 hBE5
      have hno5 : ∀ g, g ∈ [gN, gE, gw] → NoU w5 g := fun g hg => by
        simp at hg
        rcases hg with rfl | rfl | rfl
        · exact hM0.nouN.1
        · exact hM0.nouN.2
        · exact hNW5
      have hBK0 : BK m M NX EN w5 gN gE gw [gN, gE, gw] w5 := ⟨Wr.refl _ _, hM0, hno5, fun g hg => Nat.lt_of_lt_of_le (hg3 g hg) hb45.size, by simp, by simp, by simp, fun g hg => by simp at hg; omega⟩
      have hBk5 := hBk [gN, gE, gw] (fun g hg => ⟨hno5 g hg, Nat.lt_of_lt_of_le (hg3 g hg) hb4.size⟩)
      obtain ⟨FS, hFS⟩ : ∃ FS, hx w5 [gN, gE, gw] = FS := ⟨_, rfl⟩
      rw [hFS] at hBk5
      have hSl5 : SW.length = nS := hBk5.1
      rw [hSl5] at hSl
      have hFS5 : Sat FS w5 := by rw [← hFS]; exact sat_hx _ _
      have hFSn : ∀ g, g ∈ [gN, gE] → FS g = none := fun g hg => by rw [← hFS]; exact hx_in (by simp at hg ⊢; omega)
      have HSA : Hid (∀ X, Wr [gN, gE] w5 X → Sat FS X) := Lib.hid (fun X hX => hX.sat hFS5 hFSn)
      have hFn : ∀ g, g ∈ [gN, gE] → F g = none := fun g hg => HFF.out.none_ (by simp at hg; omega)
      have HSA2 : Hid (∀ X, Wr [gN, gE] w5 X → Sat F X) := Lib.hid (fun X hX => hX.sat (HFF.out.below (bthen hbF hb45)) hFn)
      have hBb5 := hBb.call hb45
      have hB85 := hB8c.call hb45
      have hgbn : w.heap.size ∉ [gN, gE] := by simp; have := HB0.out.lt; omega
      have hg8n : g8 ∉ [gN, gE] := by simp; omega
      have hW5 : WdG m (hx w5 ([gN, gE, gw] ++ Ys)) (.slice A4 (wordsN m) c4) (backF h a zs (SW.take 0)) := (hW4.cle (Wr.of_below hb5).cle).same fun x _ => rfl
      have HSA3 : Hid (∀ X, Wr [gN, gE] w5 X → Sat (hx X [gN, gE]) X ∧ NodesF (hx X [gN, gE]) Ar R (a.flat 0) ∧ TsF m (hx X [gN, gE]) At zs.length (zOf zs)) := Lib.hid (fun X hX => by
        have hB5 := (HBF.out : Below w.heap.size w w5)
        have h1 : TsF m (hx w5 [gN, gE]) At zs.length (zOf zs) := by
          have h2 := HTC.out
          refine ⟨fun q hq => rwf_avoids (n := zs.length) (RwF.cle h2.1 (cle_below HB45.out)) (fun g hg => hno5 g (by simp at hg ⊢; omega)) (fun ad e hb => ?_) q hq, h2.2⟩
          have h3 := HATL.out (by omega) ad e
          simp at hb
          omega
        exact ⟨sat_hx X _, x2.cle (cle_hx (HSA2.out X hX) hFn), h1.cle_ hX.cle⟩)
      have HBS := Lib.hid hBk5
      have HWL := Lib.hid hSl5
      have hw5z : w.heap.size ≤ w5.heap.size := HBF.out.size
      clear hBk hBk5 hb45 hb4 hb5 hBN5 hBE5 hBN hBE hNW5 hM0 hW4 hFn hFSn hFS5 hb3 hg3 b0 b1 b0' b1' hBb hB8c hr4 hbc2 hbF hSl5
      have hM1k : M ≤ 1000 := by omega
      have HNE5 : Hid (gN < w5.heap.size ∧ gE < w5.heap.size) := Lib.hid (by have := HB45.out.size; omega)
      have HNW3 : Hid (w.heap.size ≤ gN ∧ w.heap.size ≤ gE) := Lib.hid (by omega)
      replace hs := Lib.hid hs
      replace hva := Lib.hid hva
      replace hra := Lib.hid hra
      replace has := Lib.hid has
      replace hzl := Lib.hid hzl
      replace hgwl := Lib.hid hgwl
      replace hNE := Lib.hid hNE
      replace hBb5 := Lib.hid hBb5
      replace hB85 := Lib.hid hB85
      replace hgbn := Lib.hid hgbn
      replace hg8n := Lib.hid hg8n
      replace hw5z := Lib.hid hw5z
      clear hz2s hN hd hi h16 x2 hsN wl1 wl2 wl3 hNX hEN hno5 hFS hgN hgE hg8l hz2 hzc hNl hEl hwlc hcS hlW hat
      go_loopw [12, 13, 15, 16, 17, 18, 19, 20, 21, 57] (fun v12 v13 _ _ _ _ _ _ _ v57 wr => ∃ (j : Nat) (Hs : List Nat) (ps : List (Nat × Value)) (A12 : Option Addr) (c12 : Nat) (AL : Option Addr) (cL : Nat), j ≤ nS ∧ v57 = .int .i64 (j : Nat) ∧ v12 = .slice A12 (wordsN m) c12 ∧ v13 = .slice AL ps.length cL ∧ BK m M NX EN w5 gN gE gw Hs wr ∧
        OwnU FS wr w5.heap.size 59 2 (.slice AL ps.length cL) ps.length (plC ps) ∧ (∀ g, (Value.slice AL ps.length cL).ownBlock = some g → g ∈ Hs) ∧ BkV m (hx wr (Hs ++ Ys)) M (backV m a zs (SW.take j)) ps ∧ WdG m (hx wr (Hs ++ Ys)) (.slice A12 (wordsN m) c12) (backF h a zs (SW.take j))) (fun _ _ _ _ _ _ _ _ _ v57 _ => nS - (intOf v57).toNat)
      case atStart => exact ⟨0, [gN, gE, gw], [], A4, c4, none, 0, Nat.zero_le _, rfl, rfl, rfl, hBK0, OwnU.nil _ _ _ _ _, fun g hg => (by cases hg), BkV.nil _ _ _, hW5⟩
      case round =>
        clear hBK0 hW5
        obtain ⟨j, Hs, ps, A12, c12, AL, cL, hj, rfl, rfl, rfl, hBK, hOL, hLH, hBV, hWI⟩ := hrel
        have hFr := HSA.out _ hBK.wr
        have hBbr := hBK.wr.blk hBb5.out hgbn.out
        have hB8r := hBK.wr.blk hB85.out hg8n.out
        by_cases hjl : j < nS
        · have hjI : (j : Int) < (nS : Int) := by omega
          have hjW : j < SW.length := by rw [HWL.out]; exact hjl
          obtain ⟨b, hb⟩ : ∃ b, SW[j]? = some b := ⟨_, List.getElem?_eq_getElem hjW⟩
          obtain ⟨ad, v, hAw, c0, c1, gs, cs, hv, hRw⟩ := HBS.out.at_ hb
          subst hAw
          subst hv
          have HTK : Hid (SW.take (j + 1) = SW.take j ++ [b]) := Lib.hid (by rw [List.take_add_one, hb]; rfl)
          have hbc4 := HSC.out b (List.mem_of_getElem? hb)
          have z1 := hFr.cell c0
          have z2 : wr.cell? ⟨(ad.add (j * 2)).block, (ad.add (j * 2)).off + 1, none⟩ = some (.slice (some ⟨gs, 0, none⟩) (M + 1) cs) := hFr.cell c1
          have HRW := Lib.hid hRw
          obtain ⟨wA, hwA⟩ : ∃ wA, wA = wr.alloc (.cells #[.int .i64 (b.1 : Nat), .slice (some ⟨gs, 0, none⟩) (M + 1) cs] 59) := ⟨_, rfl⟩
          have hbA : Below wr.heap.size wr wA := by rw [hwA]; exact balloc _ _
          have hBA : Blk wA wr.heap.size 59 #[.int .i64 (b.1 : Nat), .slice (some ⟨gs, 0, none⟩) (M + 1) cs] := by rw [hwA]; exact Blk.new _ _ _
          obtain ⟨gA, hgA⟩ : ∃ gA, gA = wr.heap.size := ⟨_, rfl⟩
          rw [← hgA] at hBA
          have HWA := Lib.hid hwA
          have HGA := Lib.hid hgA
          have hB8A := hB8r.call hbA
          have HBKr := Lib.hid hBK
          have HOLr := Lib.hid hOL
          have HBVr := Lib.hid hBV
          have HWIr := Lib.hid hWI
          have HBA := Lib.hid hbA
          clear hb c0 c1 hRw hwA hBK hOL hBV hWI hbA hgA
          go_wp2_with fail
          rw [← HWA.out, ← HGA.out]
          have a0 := (blkA hBA).1; have a1 := (blkA hBA).2.1
          have e1 := (blk3 hB8A).2.1
          have lA : gA < wA.heap.size := hBA.lt
          have l8 : g8 < wA.heap.size := hB8A.lt
          have n8 : g8 ≠ wA.heap.size := by omega
          have nA : gA ≠ wA.heap.size := by omega
          go_cut [57, 16] from 57 to 162 (fun v57 v16 wx => v57 = .int .i64 (j : Nat) ∧ ∃ gT g16 : Nat, v16 = .pointer (some ⟨g16, 0, none⟩) ∧ Blk wx g16 59 #[.int .i64 (b.1 : Nat), .slice (some ⟨gT, 0, none⟩) (M + 1) (M + 1)] ∧ Blk wx gT 49 (zeros (.slice none 0 0) (M + 1)) ∧ gT ≠ g16 ∧ wA.heap.size ≤ gT ∧ wA.heap.size ≤ g16 ∧ Below wA.heap.size wA wx)
          case first =>
            go_region_held3 (fun w' => w'.cell? ⟨gA, 0, none⟩ = some (.int .i64 (b.1 : Nat)) ∧ w'.cell? ⟨g8, 1, none⟩ = some (.int .i64 (M : Nat))) (go_keep) (fail)
            all_goals
              go_wp2_with fail
              go_meet
              first
                | exact ⟨rfl, wA.heap.size, wA.heap.size + 1, rfl, Blk.new2 wA _ _ _, (Blk.new wA 49 _).alloc _, by omega, Nat.le_refl _, Nat.le_succ _, ((balloc wA _).alloc (by simp) _).drew⟩
                | exact ⟨rfl, wA.heap.size + 1, wA.heap.size, rfl, (Blk.new wA 59 _).alloc _, Blk.new2 wA _ _ _, by omega, Nat.le_succ _, Nat.le_refl _, ((balloc wA _).alloc (by simp) _).drew⟩
          case rest =>
            obtain ⟨rfl, gT, g16, rfl, hB16, hBT, hT16, hgT, hg16, hbB⟩ := hcut
            obtain ⟨wB, hwB⟩ : ∃ wB, wB = wc := ⟨_, rfl⟩
            subst hwB
            have hBAB := hBA.call hbB
            have hbAB := bthen HBA.out hbB
            have hwrA := HBA.out.size
            have hHlt : ∀ g, g ∈ Hs → g < wA.heap.size := fun g hg => Nat.lt_of_lt_of_le (HBKr.out.lt g hg) hwrA
            have hTH : gT ∉ Hs := fun e => absurd (hHlt _ e) (by omega)
            have hTHY : gT ∉ Hs ++ Ys := fun e => by
              rcases List.mem_append.1 e with e | e
              · exact hTH e
              · exact absurd (HY5.out _ e) (by have := HBKr.out.wr.size; omega)
            have h16H : g16 ∉ Hs := fun e => absurd (hHlt _ e) (by omega)
            have hgAH : gA ∉ Hs := fun e => absurd (HBKr.out.lt _ e) (by rw [HGA.out]; omega)
            have hgAT : gA ≠ gT := by have := hBA.lt; omega
            have hg5 : w5.heap.size ≤ gT := by have := HBKr.out.wr.size; omega
            have hRT0 : RowA m (M + 1) (gT :: (Hs ++ Ys)) 49 wB gT (movK a zs b.2 0) := (RowA.zero hBT).congr fun q _ => by rw [movK_none]
            have hBKB : BK m M NX EN w5 gN gE gw (gT :: Hs) wB := (HBKr.out.call HBA.out).new hbB hgT hBT.lt (NoU.rowA hRT0)
            have hWB : WdG m (hx wB (gT :: (Hs ++ Ys))) (.slice A12 (wordsN m) c12) (isB h a zs (SW.take j) b.1 b.2 0) := (HWIr.out.cle (cle_new (Wr.of_below hbAB) (by omega))).same fun x _ => isB_zero h a zs (SW.take j) b.1 b.2 x
            have HBVB := Lib.hid (HBVr.out.cle (cle_new (Wr.of_below (Gs := Hs ++ Ys) hbAB) (show wr.heap.size ≤ gT by omega)))
            have HOLB := Lib.hid (HOLr.out.call hbAB)
            have HFL0 : Hid (false = true ↔ anyZ m M (movK a zs b.2 0)) := Lib.hid ⟨fun e => (by cases e), fun e => absurd e (by rw [movK_none]; exact anyZ_none m M)⟩
            have a0 := (blkA hBAB).1; have a1 := (blkA hBAB).2.1
            have HB16 := Lib.hid hB16
            have HBAB := Lib.hid hBAB
            have HBKN := Lib.hid HBKr.out.inN
            have HBKE := Lib.hid HBKr.out.inE
            have HBKW := Lib.hid HBKr.out.inW
            have hTN : gT ≠ gN := by have := hHlt _ HBKN.out; omega
            have hTE : gT ≠ gE := by have := hHlt _ HBKE.out; omega
            have HFSB : Hid (∀ X, Wr [gT, gN, gE] wB X → Blk X g16 59 #[.int .i64 (b.1 : Nat), .slice (some ⟨gT, 0, none⟩) (M + 1) (M + 1)] ∧ Blk X gA 59 #[.int .i64 (b.1 : Nat), .slice (some ⟨gs, 0, none⟩) (M + 1) cs]) := Lib.hid (fun X hX => ⟨hX.blk HB16.out (by simp; refine ⟨hT16.symm, fun e => h16H (e ▸ HBKN.out), fun e => h16H (e ▸ HBKE.out)⟩), hX.blk HBAB.out (by simp; refine ⟨hgAT, fun e => hgAH (e ▸ HBKN.out), fun e => hgAH (e ▸ HBKE.out)⟩)⟩)
            replace hTH := Lib.hid hTH
            replace hTHY := Lib.hid hTHY
            clear HBKr HOLr HBVr HWIr HBA hBAB hB16 hbAB hbB hBA hHlt h16H hgAH hgAT hBT hwrA z1 n8 nA lA l8 e1 hB8A hB8r hBbr hFr hjI hjW hg16 hgT
            go_wp2_with fail
            go_loopw [12, 17, 18, 19, 20, 21, 71] (fun v12 v17 _ _ _ _ v71 wr => ∃ (k : Nat) (A12 : Option Addr) (c12 : Nat) (fl : Bool), k ≤ M + 1 ∧ v71 = .int .i64 (k : Nat) ∧ v12 = .slice A12 (wordsN m) c12 ∧ v17 = .bool fl ∧ BK m M NX EN w5 gN gE gw (gT :: Hs) wr ∧ Wr [gT, gN, gE] wB wr ∧
              RowA m (M + 1) (gT :: (Hs ++ Ys)) 49 wr gT (movK a zs b.2 k) ∧ WdG m (hx wr (gT :: (Hs ++ Ys))) (.slice A12 (wordsN m) c12) (isB h a zs (SW.take j) b.1 b.2 k) ∧ (fl = true ↔ anyZ m M (movK a zs b.2 k))) (fun _ _ _ _ _ _ v71 _ => M + 1 - (intOf v71).toNat)
            case atStart => exact ⟨0, A12, c12, false, Nat.zero_le _, rfl, rfl, rfl, hBKB, Wr.refl _ _, hRT0, hWB, HFL0.out⟩
            case round =>
              clear hBKB hRT0 hWB a0 a1
              obtain ⟨k, A12, c12, fl, hk, rfl, rfl, rfl, hBK, hwB, hRT, hWI, hfl⟩ := hrel
              have hFr := HSA.out _ hBK.wr
              by_cases hkl : k < M + 1
              · have hkI : (k : Int) < (M : Int) + 1 := by omega
                have hkI2 : (k : Int) < ((M + 1 : Nat) : Int) := by omega
                obtain ⟨ad2, v2, e2, c2, hv2⟩ := HRW.out k hkl
                injection e2 with e2
                subst e2
                rw [add_lit0] at c2
                obtain ⟨A2, n2, c2', f2, rfl, hr2⟩ := hv2
                have HV2 : Hid (WdF m FS (.slice A2 n2 c2') (b.2 k)) := Lib.hid ⟨A2, n2, c2', f2, rfl, hr2⟩
                have z2 := hFr.cell c2
                obtain ⟨sm, hsm⟩ : ∃ sm : Bool, sm = decide (∀ x, x < 2 ^ m → b.2 k x = false) := ⟨_, rfl⟩
                have HSM : Hid (∀ X, Sat FS X → Calls Try.prog 14 #[.int .i64 (m : Nat), .slice A2 n2 c2', .slice none 0 0] X (RetBt X sm)) := Lib.hid (fun X hX => w_same hm (HV2.out.heap hX) (WdF.nil m (heapF X)) sm hsm)
                have HFR := Lib.hid hFr
                clear hr2 c2
                cases sm with
                | true =>
                  have hz0 : ∀ x, x < 2 ^ m → b.2 k x = false := of_decide_eq_true hsm.symm
                  have HZ0 := Lib.hid hz0
                  clear hsm hz0
                  go_wp2_with (go_at_call 14; refine (HSM.out _ HFR.out).mono ?_; rintro e w6 ⟨rfl, hb6⟩)
                  go_roundw
                  case rel => exact ⟨k + 1, A12, c12, fl, by omega, by go_num, rfl, rfl, hBK.call hb6, hwB.call hb6, (hRT.call hb6).same fun q _ x hx => movK_skip a zs b.2 HZ0.out q x hx, (hWI.cle (Wr.of_below hb6).cle).same fun x hx => isB_skip HZ0.out x hx, hfl.trans (anyZ_congr fun q _ x hx => movK_skip a zs b.2 HZ0.out q x hx)⟩
                  case measure => simp [intOf]; omega
                | false =>
                  clear hsm
                  go_upto_if 83 with (go_at_call 14; refine (HSM.out _ HFR.out).mono ?_; rintro e w6 ⟨rfl, hb6⟩; obtain ⟨⟨An, nn, cn, hn6⟩, ⟨Ae, ne, ce, he6⟩⟩ := (hBK.call hb6).memo.both hkl; have hEq := eq_nil Ae ne ce)
                  have hBK6 := hBK.call hb6
                  have hwB6 := hwB.call hb6
                  have hRT6 := hRT.call hb6
                  have hWI6 := hWI.cle (Wr.of_below (Gs := gT :: (Hs ++ Ys)) hb6).cle
                  clear hBK hwB hRT hWI z2 hFr hb6
                  go_cut [71] from 71 to 156 (fun v71 wx => v71 = .int .i64 (k : Nat) ∧ BK m M NX EN w5 gN gE gw (gT :: Hs) wx ∧ Known m M NX EN gN gE (gT :: Hs) wx k ∧ Wr [gN, gE] w6 wx)
                  case first =>
                    rcases hBK6.memo.at_ hkl with ⟨_, hnil | hkn⟩
                    · obtain ⟨rfl, rfl, rfl⟩ : Ae = none ∧ ne = 0 ∧ ce = 0 := by
                        have := he6.symm.trans hnil
                        injection this with this
                        injection this with e1 e2 e3
                        exact ⟨e1, e2, e3⟩
                      have hB86 := hBK6.wr.blk hB85.out hg8n.out
                      have k0 := (blk3 hB86).1
                      have l86 : g8 < w6.heap.size := hB86.lt
                      have hkM : (k : Int) < (M : Int) + 1 := hkI
                      have q0 : (⟨gN, k, none⟩ : Addr) ≠ ⟨g8, 0, none⟩ := fun e => hg8n.out (by have := congrArg Addr.block e; dsimp only at this; simp [this])
                      have q1 : (⟨gE, k, none⟩ : Addr) ≠ ⟨g8, 0, none⟩ := fun e => hg8n.out (by have := congrArg Addr.block e; dsimp only at this; simp [this])
                      have q2 : (⟨gN, k, none⟩ : Addr) ≠ ⟨gE, k, none⟩ := fun e => hNE.out (congrArg Addr.block e)
                      have HNX : Hid (∀ X, Wr [gN, gE] w5 X → Calls Try.prog 41 #[.int .i64 (m : Nat), .slice Ar R cr, .int .i64 (k : Nat), .slice At zs.length ct] X (RetNx m M X (stateO (zOf zs) a k).1)) := Lib.hid (fun X hX => by
                        have := onext_w (HSA3.out X hX).1 m hm a hva.out hra.out (by rw [HR.out]; exact has.out) Ar cr (by rw [HR.out]; exact (HSA3.out X hX).2.1) At zs.length ct hzl.out (zOf zs) (HSA3.out X hX).2.2 k
                        rw [HR.out, HM.out] at this; exact this)
                      have HEN : Hid (∀ X, Wr [gN, gE] w5 X → Calls Try.prog 42 #[.int .i64 (m : Nat), .slice Ar R cr, .int .i64 (k : Nat), .slice At zs.length ct] X (RetEn m X (stateO (zOf zs) a k).2)) := Lib.hid (fun X hX => by
                        have := oends_w (HSA3.out X hX).1 m hm a hva.out hra.out (by rw [HR.out]; exact has.out) Ar cr (by rw [HR.out]; exact (HSA3.out X hX).2.1) At zs.length ct hzl.out (zOf zs) (HSA3.out X hX).2.2 k
                        rw [HR.out] at this; exact this)
                      go_wp2_with fail
                      go_region_held3 (fun w' => w'.cell? ⟨g8, 0, none⟩ = some (.slice Ar R cr)) (first | go_keep | exact cellNe q0 s8 | exact cellNe q1 (cellNe q0 s8))
                        (first
                          | (go_at_call 42; refine (HEN.out _ (by first | exact hBK7.wr | exact wr_eqv hBK7.wr rfl rfl rfl rfl)).mono ?_; rintro e w8 ⟨v8, rfl, hb8', hE8⟩; obtain ⟨A8, c8, rfl, hn8⟩ := wdg_some hE8; have hb8 : Below w7.heap.size w7 w8 := (by refine bel_trans ?_ hb8'; exact bel_eqv (Below.refl _ w7) rfl rfl rfl rfl); have s8 := (hb8.cell (p := ⟨g8, 0, none⟩) l87).trans s7; have hBK8 := hBK7.call hb8; obtain ⟨⟨_, _, _, n8⟩, ⟨_, _, _, e8⟩⟩ := hBK8.memo.both hkl; have f8 := hBK8.memo.soft k; obtain ⟨f8n, f8e⟩ := f8)
                          | (go_at_call 41; refine (HNX.out _ (by first | exact hBK6.wr | exact wr_eqv hBK6.wr rfl rfl rfl rfl)).mono ?_; intro e w7 hr7; obtain ⟨g7, rfl, hg7', hb7', hR7⟩ := retNx_row hr7; have hb7 : Below w6.heap.size w6 w7 := (by refine bel_trans ?_ hb7'; exact bel_eqv (Below.refl _ w6) rfl rfl rfl rfl); have hBK7 := hBK6.call hb7; have s7 := (hb7.cell (p := ⟨g8, 0, none⟩) l86).trans k0; have l87 : g8 < w7.heap.size := Nat.lt_of_lt_of_le l86 hb7.size))
                      all_goals
                        have hg7 : w6.heap.size ≤ g7 := hg7'
                        have hN8 : RwF m (hx w8 (gT :: Hs)) (some ⟨g7, 0, none⟩) M (NX k) := by
                          rw [← HNXe.out k]
                          exact rwf_avoids (RwF.cle hR7 (cle_below hb8)) hBK8.nou (fun ad e hb => by injection e with e; rw [← e] at hb; have := hBK6.lt _ hb; dsimp only at this; omega)
                        have hE8f : WdF m (hx w8 (gT :: Hs)) (.slice (some A8) (wordsN m) c8) (EN k) := by
                          rw [← HENe.out k]
                          exact wdf_avoids hE8.wd _ hBK8.nou
                        have hput := hBK8.put hNE.out hkl hN8 hE8f
                        have hkn := hBK8.memo.put_known hNE.out hBK8.inN hBK8.inE hkl hN8 hE8f
                        have hw68 := (((Wr.refl [gN, gE] w6).call (bthen hb7 hb8)).set (g := gN) (by simp) k (.slice (some ⟨g7, 0, none⟩) M M)).set (g := gE) (by simp) k (.slice (some A8) (wordsN m) c8)
                        clear s7 s8 n8 e8 f8n f8e hR7 hE8 hr7
                        go_wp2_with fail
                        go_meet
                        exact ⟨rfl, hput, hkn, hw68⟩
                    · obtain ⟨gk, ae, ne', ce', e1, e2, e3, e4⟩ := id hkn
                      obtain ⟨rfl, rfl, rfl⟩ : Ae = some ae ∧ ne = ne' ∧ ce = ce' := by
                        have := he6.symm.trans e3
                        injection this with this
                        injection this with e1 e2 e3
                        exact ⟨e1, e2, e3⟩
                      go_wp2_with fail
                      go_meet
                      exact ⟨rfl, hBK6, hkn, Wr.refl _ _⟩
                  case rest =>
                    obtain ⟨rfl, hBK7, hkn, hw67⟩ := hcut
                    have hwB7 := hwB6.trans (hw67.more (Hs := [gT, gN, gE]) (fun b e => by simp at e ⊢; omega))
                    have hwT : ∀ b, b ∈ [gN, gE] → b ∈ gT :: (Hs ++ Ys) := fun b e => by simp at e; rcases e with rfl | rfl; exact List.mem_cons_of_mem _ (List.mem_append_left _ HBKN.out); exact List.mem_cons_of_mem _ (List.mem_append_left _ HBKE.out)
                    have hle67 := (hw67.more hwT).cle
                    have hRT7 : RowA m (M + 1) (gT :: (Hs ++ Ys)) 49 wc gT (movK a zs b.2 k) := hRT6.wr (hw67.more hwT) (fun cs hc => hw67.blk hc (by simp; exact ⟨hTN, hTE⟩))
                    have hWI7 := hWI6.cle hle67
                    obtain ⟨w7, hw7e⟩ : ∃ w7, w7 = wc := ⟨_, rfl⟩
                    subst hw7e
                    clear hw67 hle67 hwT hBK6 hwB6 hRT6 hWI6 he6 hn6 hEq
                    obtain ⟨gk, ae, ne, ce, kn1, kn2, kn3, kn4⟩ := hkn
                    have hBb7 := hBK7.wr.blk hBb5.out hgbn.out
                    have b0 := (blkA hBb7).1; have b1 := (blkA hBb7).2.1
                    obtain ⟨hB167, hBA7⟩ := HFSB.out _ hwB7
                    have a0 := (blkA hBA7).1; have a1 := (blkA hBA7).2.1
                    have HIN := Lib.hid (fun X => iin_w h hs.out b.1 (by omega) X)
                    obtain ⟨ic, hic⟩ : ∃ ic, inC h b.1 = ic := ⟨_, rfl⟩
                    rw [hic] at HIN
                    have HIC := Lib.hid hic
                    clear hic
                    go_upto_if 105 with (go_at_call 43; refine (HIN.out _).mono ?_; rintro e w8 ⟨rfl, hb8⟩)
                    have hBK8 := hBK7.call hb8
                    have hwB8 := hwB7.call hb8
                    have hRT8 := hRT7.call hb8
                    have hWI8 := hWI7.cle (Wr.of_below (Gs := gT :: (Hs ++ Ys)) hb8).cle
                    have hkn2 := RwF.cle kn2 (Wr.of_below (Gs := gT :: Hs) hb8).cle
                    have hkn4 := kn4.cle (Wr.of_below (Gs := gT :: Hs) hb8).cle
                    have kn3' := (hb8.cell (p := ⟨gE, k, none⟩) hBK7.memo.lt.2).trans kn3
                    have kn1' := (hb8.cell (p := ⟨gN, k, none⟩) hBK7.memo.lt.1).trans kn1
                    clear kn1 kn2 kn3 kn4 b0 b1 a0 a1 hBb7 hBA7 hB167 hBK7 hwB7 hRT7 hWI7
                    go_cut [71, 12] from 71 to 156 (fun v71 v12 wx => v71 = .int .i64 (k : Nat) ∧ ∃ (A12 : Option Addr) (c12 : Nat), v12 = .slice A12 (wordsN m) c12 ∧ Below w8.heap.size w8 wx ∧ WdG m (hx wx (gT :: (Hs ++ Ys))) (.slice A12 (wordsN m) c12) (isB h a zs (SW.take j) b.1 b.2 (k + 1)))
                    case first =>
                      cases ic with
                      | false =>
                        go_wp2_with fail
                        go_meet
                        exact ⟨rfl, A12, c12, rfl, Below.refl _ _, hWI8.same fun x _ => isB_out HIC.out x⟩
                      | true =>
                        have hF8 := HSA.out _ hBK8.wr
                        go_wp2_with (first
                          | (go_at_call 22; refine (HOR.out _ _ _ _ _ ((hWI8.wd.cle (Wr.of_below (Gs := gT :: (Hs ++ Ys)) hb9).cle).cle (sat_hx w9 (gT :: (Hs ++ Ys))).cle) hW9.wd).mono ?_; intro e w10 hr10; obtain ⟨v10, rfl, hb10, hW10⟩ := hr10.hx (Gs := gT :: (Hs ++ Ys)) (ltY (hBK8.call hb9).lt HY5.out (hBK8.call hb9).wr.size); obtain ⟨_, A10, c10, rfl, _⟩ := id hW10)
                          | (go_at_call 21; refine (HAN.out _ _ _ _ _ (HV2.out.heap hF8) (hkn4.cle (sat_hx w8 (gT :: Hs)).cle)).mono ?_; intro e w9 hr9; obtain ⟨v9, rfl, hb9, hW9⟩ := retQL_ret hr9; obtain ⟨_, A9, c9, rfl, _⟩ := id hW9))
                        go_meet
                        exact ⟨rfl, A10, c10, rfl, bthen hb9 hb10, hW10.same fun x _ => by rw [← HENe.out k]; exact isB_in HIC.out x⟩
                    case rest =>
                      obtain ⟨rfl, A12', c12', rfl, hb89, hWI9⟩ := hcut
                      obtain ⟨w9, hw9e⟩ : ∃ w9, w9 = wc := ⟨_, rfl⟩
                      subst hw9e
                      have hBK9 := hBK8.call hb89
                      have hwB9 := hwB8.call hb89
                      have hRT9 := hRT8.call hb89
                      have hkn9 := RwF.cle hkn2 (Wr.of_below (Gs := gT :: Hs) hb89).cle
                      have kn9 := (hb89.cell (p := ⟨gN, k, none⟩) hBK8.memo.lt.1).trans kn1'
                      have HKN := Lib.hid hkn9
                      have HBK9 := Lib.hid hBK9
                      have HWI9 := Lib.hid hWI9
                      have hTm : gT ∈ gT :: Hs := List.mem_cons_self
                      have hTmY : gT ∈ gT :: (Hs ++ Ys) := List.mem_cons_self
                      have hsubTY : ∀ b, b ∈ [gT] → b ∈ gT :: (Hs ++ Ys) := fun b e => by simp at e; rw [e]; exact hTmY
                      have hsubT : ∀ b, b ∈ [gT] → b ∈ gT :: Hs := fun b e => by simp at e; rw [e]; exact hTm
                      have hsubT3 : ∀ b, b ∈ [gT] → b ∈ [gT, gN, gE] := fun b e => by simp at e ⊢; exact .inl e
                      clear hBK8 hwB8 hRT8 hkn2 hkn4 kn1' kn3' hWI8 hkn9 hBK9 hWI9
                      go_wp2_with fail
                      go_loopw [17, 20, 21, 121] (fun v17 _ _ v121 wr => ∃ (q : Nat) (fl : Bool), q ≤ M ∧ v121 = .int .i64 (q : Nat) ∧ v17 = .bool fl ∧ Wr [gT] w9 wr ∧ RowA m (M + 1) (gT :: (Hs ++ Ys)) 49 wr gT (movQ a zs b.2 k q) ∧ (fl = true ↔ anyZ m M (movQ a zs b.2 k q))) (fun _ _ _ v121 _ => M - (intOf v121).toNat)
                      case atStart => exact ⟨0, fl, Nat.zero_le _, rfl, rfl, Wr.refl _ _, by rw [movQ_zero]; exact hRT9, by rw [movQ_zero]; exact hfl⟩
                      case round =>
                        clear hRT9 hfl kn9
                        obtain ⟨q, fl, hq, rfl, rfl, hw9, hRq, hfl⟩ := hrel
                        have hBKr := HBK9.out.only hw9 hTm hTN hTE hg5 (NoU.rowA hRq)
                        by_cases hql : q < M
                        · have hqI : (q : Int) < (M : Int) := by omega
                          have wQ : IntKind.i64.wrap ((q : Int) + 1) = ((q + 1 : Nat) : Int) := by rw [show (q : Int) + 1 = ((q + 1 : Nat) : Int) by omega]; exact wrap_i (by omega) (by omega)
                          have hq1 : ((q + 1 : Nat) : Int) < (M : Int) + 1 := by omega
                          have hq2 : ((q + 1 : Nat) : Int) < ((M + 1 : Nat) : Int) := by omega
                          have hq3 : q + 1 < M + 1 := by omega
                          have hq0 : (0 : Int) ≤ (q : Int) + 1 := by omega
                          have hq4 : (q : Int) + 1 < (M : Int) + 1 := by omega
                          have hq5 : (0 : Int) ≤ ((q + 1 : Nat) : Int) := by omega
                          have hFq := HSA.out _ hBKr.wr
                          obtain ⟨ad3, v3, e3, c3, hv3⟩ := RwF.cle HKN.out (hw9.more hsubT).cle q hql
                          injection e3 with e3
                          subst e3
                          rw [add_lit0] at c3
                          obtain ⟨A3, n3, c3', f3, rfl, hr3⟩ := id hv3
                          have z3 := (sat_hx wr (gT :: Hs)).cell c3
                          obtain ⟨old, ho, hWo⟩ := hRq.at_ hq3
                          obtain ⟨Ao, no, co, fo, rfl, _⟩ := id hWo
                          have fz := hRq.soft (q + 1)
                          have hB16q := (HFSB.out _ (hwB9.trans (hw9.more hsubT3))).1
                          have d0 := (blkA hB16q).1; have d1 := (blkA hB16q).2.1
                          have l16 : g16 < wr.heap.size := hB16q.lt
                          have lT : gT < wr.heap.size := hRq.lt
                          have q0 : (⟨gT, q + 1, none⟩ : Addr) ≠ ⟨g16, 1, none⟩ := fun e => hT16 (congrArg Addr.block e)
                          have HWO := Lib.hid hWo
                          have HV3 := Lib.hid hv3
                          have HFQ := Lib.hid hFq
                          have HRQ := Lib.hid hRq
                          have HBKR := Lib.hid hBKr
                          have HW9 := Lib.hid hw9
                          replace hsubT := Lib.hid hsubT
                          replace hsubT3 := Lib.hid hsubT3
                          replace hLH := Lib.hid hLH
                          replace hfl := Lib.hid hfl
                          replace hTm := Lib.hid hTm
                          replace hTmY := Lib.hid hTmY
                          replace hsubTY := Lib.hid hsubTY
                          replace hwB9 := Lib.hid hwB9
                          clear hr3 c3 hWo hv3 hFq hRq hBKr hw9 d0 hB16q hb89 hb8
                          go_wp2_with fail
                          refine wp_region_noPanic ?_
                          refine wp_region_held_drew (S := (fun w' => w'.cell? ⟨g16, 1, none⟩ = some (.slice (some ⟨gT, 0, none⟩) (M + 1) (M + 1)))) (by kernel_rfl) ?hS0 (fun hHeld => ?hR0)
                          case hS0 => (try dsimp only); go_keep
                          case hR0 =>
                            refine tk 0 (h := ?_)
                            try simp only [pn]
                            refine tk 1 (h := ?_)
                            try simp only [pn]
                            refine tk 2 (h := ?_)
                            try simp only [pn]
                            refine tk 3 (h := ?_)
                            try simp only [pn]
                            refine tk 4 (h := ?_)
                            try simp only [pn]
                            refine tk 5 (h := ?_)
                            try simp only [pn]
                            refine tk 6 (h := ?_)
                            try simp only [pn]
                            refine tk 7 (h := ?_)
                            try simp only [pn]
                            refine tk 8 (h := ?_)
                            try simp only [pn]
                            refine tk 9 (h := ?_)
                            try simp only [pn]
                            refine tk 11 (h := ?_)
                            try simp only [pn]
                            refine tk 12 (h := ?_)
                            try simp only [pn]
                            refine tk 13 (h := ?_)
                            try simp only [pn]
                            refine wpAnyH_ready (rs := [10, 14]) (by kernel_rfl) (by simp) ?_
                            refine AllReadyH.cons (o := ?sO601) ?sA601 (fun K hK => ?sB601) ?sC601
                            case sA601 => simp only [List.getElem?_toArray, List.getElem?_cons_succ, List.getElem?_cons_zero]; rfl
                            case sB601 =>
                              go_simp
                              refine hK.out _ _ ?kS602 (fun hHeld => ?kR602)
                              case kS602 => (try dsimp only); go_keep
                              case kR602 =>
                                clear hK K
                                try simp only [Act.put, List.setIfInBounds_toArray, List.set_cons_zero, List.set_cons_succ]
                                refine wpAnyH_ready (rs := [14]) (by kernel_rfl) (by simp) ?_
                                refine AllReadyH.cons (o := ?sO603) ?sA603 (fun K hK => ?sB603) ?sC603
                                case sA603 => simp only [List.getElem?_toArray, List.getElem?_cons_succ, List.getElem?_cons_zero]; rfl
                                case sB603 =>
                                  go_simp
                                  go_at_call 21; refine (HAN.out _ _ _ _ _ (by first | exact HV2.out.heap HFQ.out | exact HV2.out.heap HFQ.out.drew) (by first | exact HV3.out.cle (sat_hx wr (gT :: Hs)).cle)).mono ?_; intro e w10 hr10; obtain ⟨v10, rfl, hb10', hW10⟩ := retQL_ret hr10; obtain ⟨_, A10, c10, rfl, _⟩ := id hW10; have hb10 : Below wr.heap.size wr w10 := (by refine bel_trans ?_ hb10'; exact bel_eqv (Below.refl _ wr) rfl rfl rfl rfl); have s10 := (hb10.cell (p := ⟨g16, 1, none⟩) l16).trans d1; have o10 := (hb10.cell (p := ⟨gT, q + 1, none⟩) lT).trans ho; have hBK10 := HBKR.out.call hb10; have l1610 : g16 < w10.heap.size := Nat.lt_of_lt_of_le l16 hb10.size; have lT10 : gT < w10.heap.size := Nat.lt_of_lt_of_le lT hb10.size
                                  try go_wp2_with fail
                                  refine hK.out _ _ ?kS604 (fun hHeld => ?kR604)
                                  case kS604 => (try dsimp only); go_keep
                                  case kR604 =>
                                    clear hK K
                                    try simp only [Act.put, List.setIfInBounds_toArray, List.set_cons_zero, List.set_cons_succ]
                                    refine wpAnyH_ready (rs := [15]) (by kernel_rfl) (by simp) ?_
                                    refine AllReadyH.cons (o := ?sO605) ?sA605 (fun K hK => ?sB605) ?sC605
                                    case sA605 => simp only [List.getElem?_toArray, List.getElem?_cons_succ, List.getElem?_cons_zero]; rfl
                                    case sB605 =>
                                      go_simp
                                      go_at_call 22; refine (HOR.out _ _ _ _ _ ((HWO.out.cle (Wr.of_below (Gs := gT :: (Hs ++ Ys)) hb10).cle).cle (sat_hx w10 (gT :: (Hs ++ Ys))).cle) hW10.wd).mono ?_; intro e w11 hr11; obtain ⟨v11, rfl, hb11', hW11⟩ := hr11.hx (Gs := gT :: (Hs ++ Ys)) (ltY hBK10.lt HY5.out hBK10.wr.size); obtain ⟨_, A11, c11, rfl, _⟩ := id hW11; have hb11 : Below w10.heap.size w10 w11 := (by refine bel_trans ?_ hb11'; exact bel_eqv (Below.refl _ w10) rfl rfl rfl rfl); have s11 := (hb11.cell (p := ⟨g16, 1, none⟩) l1610).trans s10; have o11 := (hb11.cell (p := ⟨gT, q + 1, none⟩) lT10).trans o10; have hR11 := HRQ.out.call (bthen hb10 hb11); have f11 := hR11.soft (q + 1)
                                      try go_wp2_with fail
                                      refine hK.out _ _ ?kS606 (fun hHeld => ?kR606)
                                      case kS606 => (try dsimp only); go_keep
                                      case kR606 =>
                                        clear hK K
                                        try simp only [Act.put, List.setIfInBounds_toArray, List.set_cons_zero, List.set_cons_succ]
                                        refine tk 16 (h := ?_)
                                        try simp only [pn]
                                        refine wpAnyH_ready (rs := [17]) (by kernel_rfl) (by simp) ?_
                                        refine AllReadyH.cons (o := ?sO607) ?sA607 (fun K hK => ?sB607) ?sC607
                                        case sA607 => simp only [List.getElem?_toArray, List.getElem?_cons_succ, List.getElem?_cons_zero]; rfl
                                        case sB607 =>
                                          go_simp
                                          refine hK.out _ _ ?kS608 (fun hHeld => ?kR608)
                                          case kS608 => (try dsimp only); (first | go_keep | exact cellNe q0 s11)
                                          case kR608 =>
                                            clear hK K
                                            try simp only [Act.put, List.setIfInBounds_toArray, List.set_cons_zero, List.set_cons_succ]
                                            refine wpAnyH_done (by kernel_rfl) ?_ _
                                            refine NoPanic.normal ?_
                                            have hset := hR11.set hTmY.out hq3 (p := fun x => movK a zs b.2 k (q + 1) x || (b.2 k x && (stateO (zOf zs) a k).1 q x)) (wdf_same hW11.wd (fun x _ => by rw [movQ_at, HNXe.out k]))
                                            have hnew := hR11.set_cell hq3 (.slice A11 (wordsN m) c11)
                                            have hd12 := cellNe q0 s11 (u := .slice A11 (wordsN m) c11)
                                            have hw12 := (HW9.out.call (bthen hb10 hb11)).set (g := gT) (by simp) (q + 1) (.slice A11 (wordsN m) c11)
                                            have hmono : ∀ x, movQ a zs b.2 k q (q + 1) x = true → (movK a zs b.2 k (q + 1) x || (b.2 k x && (stateO (zOf zs) a k).1 q x)) = true := fun x e => by rw [movQ_at] at e; rw [e]; rfl
                                            have hany := anyZ_set (m := m) (M := M) (f := movQ a zs b.2 k q) hq3 hmono
                                            rw [movQ_step] at hset hany
                                            obtain ⟨w12, hw12e⟩ : ∃ w12, w12 = w11.setCell ⟨gT, q + 1, none⟩ (.slice A11 (wordsN m) c11) := ⟨_, rfl⟩
                                            rw [← hw12e] at hset hnew hd12 hw12 ⊢
                                            have HSET := Lib.hid hset
                                            have HANY := Lib.hid hany
                                            have hF12 := HSA.out _ (HBK9.out.only hw12 hTm.out hTN hTE hg5 (NoU.rowA hset)).wr
                                            obtain ⟨v12, hv12, hWn⟩ := hset.at_ hq3
                                            obtain rfl : (.slice A11 (wordsN m) c11) = v12 := by injection hnew.symm.trans hv12
                                            clear hset hany hmono hW11 hW10 s10 s11 o10 o11 f11 hR11 hb10 hb11 hb10' hb11' hr10 hr11 hw12e hv12 hBK10
                                            cases fl with
                                            | true =>
                                              go_wp2_with fail
                                              go_roundw
                                              case rel => exact ⟨q + 1, true, by omega, by go_num, rfl, hw12, HSET.out, ⟨fun _ => HANY.out.2 (.inl (hfl.out.1 rfl)), fun _ => rfl⟩⟩
                                              case measure => simp [intOf]; omega
                                            | false =>
                                              obtain ⟨s3, hs3⟩ : ∃ s3 : Bool, s3 = decide (∀ x, x < 2 ^ m → movQ a zs b.2 k (q + 1) (q + 1) x = false) := ⟨_, rfl⟩
                                              have HS3 := Lib.hid hs3
                                              have HWN := Lib.hid hWn
                                              have HSM2 : Hid (Calls Try.prog 14 #[.int .i64 (m : Nat), .slice A11 (wordsN m) c11, .slice none 0 0] w12 (RetBt w12 s3)) := Lib.hid (w_same hm (HWN.out.cle (sat_hx w12 (gT :: (Hs ++ Ys))).cle) (WdF.nil m (heapF w12)) s3 hs3)
                                              clear hs3 hWn
                                              go_wp2_with (go_at_call 14; refine HSM2.out.mono ?_; rintro e w13 ⟨rfl, hb13⟩)
                                              go_roundw
                                              case rel => exact ⟨q + 1, !s3, by omega, by go_num, rfl, hw12.call hb13, HSET.out.call hb13, by
                                                have hp : (movQ a zs b.2 k (q + 1) (q + 1)) = fun x => movK a zs b.2 k (q + 1) x || (b.2 k x && (stateO (zOf zs) a k).1 q x) := by rw [← movQ_step]; exact if_pos rfl
                                                rw [HANY.out, HS3.out, Bool.not_eq_true', decide_eq_false_iff_not, hp]
                                                constructor
                                                · intro e
                                                  refine .inr (Classical.byContradiction fun e2 => e fun x hx => ?_)
                                                  show (movK a zs b.2 k (q + 1) x || (b.2 k x && (stateO (zOf zs) a k).1 q x)) = false
                                                  cases e3 : (movK a zs b.2 k (q + 1) x || (b.2 k x && (stateO (zOf zs) a k).1 q x)) with
                                                  | false => rfl
                                                  | true => exact absurd ⟨x, hx, e3⟩ e2
                                                · rintro (e | ⟨x, hx, e⟩) e2
                                                  · exact absurd (hfl.out.2 e) (by simp)
                                                  · have e4 : (movK a zs b.2 k (q + 1) x || (b.2 k x && (stateO (zOf zs) a k).1 q x)) = false := e2 x hx
                                                    rw [e4] at e
                                                    cases e⟩
                                              case measure => simp [intOf]; omega
                                        case sC607 =>
                                          exact AllReadyH.nil
                                    case sC605 =>
                                      exact AllReadyH.nil
                                case sC603 =>
                                  exact AllReadyH.nil
                            case sC601 =>
                              refine AllReadyH.cons (o := ?sO609) ?sA609 (fun K hK => ?sB609) ?sC609
                              case sA609 => simp only [List.getElem?_toArray, List.getElem?_cons_succ, List.getElem?_cons_zero]; rfl
                              case sB609 =>
                                go_simp
                                go_at_call 21; refine (HAN.out _ _ _ _ _ (by first | exact HV2.out.heap HFQ.out | exact HV2.out.heap HFQ.out.drew) (by first | exact HV3.out.cle (sat_hx wr (gT :: Hs)).cle)).mono ?_; intro e w10 hr10; obtain ⟨v10, rfl, hb10', hW10⟩ := retQL_ret hr10; obtain ⟨_, A10, c10, rfl, _⟩ := id hW10; have hb10 : Below wr.heap.size wr w10 := (by refine bel_trans ?_ hb10'; exact bel_eqv (Below.refl _ wr) rfl rfl rfl rfl); have s10 := (hb10.cell (p := ⟨g16, 1, none⟩) l16).trans d1; have o10 := (hb10.cell (p := ⟨gT, q + 1, none⟩) lT).trans ho; have hBK10 := HBKR.out.call hb10; have l1610 : g16 < w10.heap.size := Nat.lt_of_lt_of_le l16 hb10.size; have lT10 : gT < w10.heap.size := Nat.lt_of_lt_of_le lT hb10.size
                                try go_wp2_with fail
                                refine hK.out _ _ ?kS610 (fun hHeld => ?kR610)
                                case kS610 => (try dsimp only); go_keep
                                case kR610 =>
                                  clear hK K
                                  try simp only [Act.put, List.setIfInBounds_toArray, List.set_cons_zero, List.set_cons_succ]
                                  refine wpAnyH_ready (rs := [10]) (by kernel_rfl) (by simp) ?_
                                  refine AllReadyH.cons (o := ?sO611) ?sA611 (fun K hK => ?sB611) ?sC611
                                  case sA611 => simp only [List.getElem?_toArray, List.getElem?_cons_succ, List.getElem?_cons_zero]; rfl
                                  case sB611 =>
                                    go_simp
                                    refine hK.out _ _ ?kS612 (fun hHeld => ?kR612)
                                    case kS612 => (try dsimp only); go_keep
                                    case kR612 =>
                                      clear hK K
                                      try simp only [Act.put, List.setIfInBounds_toArray, List.set_cons_zero, List.set_cons_succ]
                                      refine wpAnyH_ready (rs := [15]) (by kernel_rfl) (by simp) ?_
                                      refine AllReadyH.cons (o := ?sO613) ?sA613 (fun K hK => ?sB613) ?sC613
                                      case sA613 => simp only [List.getElem?_toArray, List.getElem?_cons_succ, List.getElem?_cons_zero]; rfl
                                      case sB613 =>
                                        go_simp
                                        go_at_call 22; refine (HOR.out _ _ _ _ _ ((HWO.out.cle (Wr.of_below (Gs := gT :: (Hs ++ Ys)) hb10).cle).cle (sat_hx w10 (gT :: (Hs ++ Ys))).cle) hW10.wd).mono ?_; intro e w11 hr11; obtain ⟨v11, rfl, hb11', hW11⟩ := hr11.hx (Gs := gT :: (Hs ++ Ys)) (ltY hBK10.lt HY5.out hBK10.wr.size); obtain ⟨_, A11, c11, rfl, _⟩ := id hW11; have hb11 : Below w10.heap.size w10 w11 := (by refine bel_trans ?_ hb11'; exact bel_eqv (Below.refl _ w10) rfl rfl rfl rfl); have s11 := (hb11.cell (p := ⟨g16, 1, none⟩) l1610).trans s10; have o11 := (hb11.cell (p := ⟨gT, q + 1, none⟩) lT10).trans o10; have hR11 := HRQ.out.call (bthen hb10 hb11); have f11 := hR11.soft (q + 1)
                                        try go_wp2_with fail
                                        refine hK.out _ _ ?kS614 (fun hHeld => ?kR614)
                                        case kS614 => (try dsimp only); go_keep
                                        case kR614 =>
                                          clear hK K
                                          try simp only [Act.put, List.setIfInBounds_toArray, List.set_cons_zero, List.set_cons_succ]
                                          refine tk 16 (h := ?_)
                                          try simp only [pn]
                                          refine wpAnyH_ready (rs := [17]) (by kernel_rfl) (by simp) ?_
                                          refine AllReadyH.cons (o := ?sO615) ?sA615 (fun K hK => ?sB615) ?sC615
                                          case sA615 => simp only [List.getElem?_toArray, List.getElem?_cons_succ, List.getElem?_cons_zero]; rfl
                                          case sB615 =>
                                            go_simp
                                            refine hK.out _ _ ?kS616 (fun hHeld => ?kR616)
                                            case kS616 => (try dsimp only); (first | go_keep | exact cellNe q0 s11)
                                            case kR616 =>
                                              clear hK K
                                              try simp only [Act.put, List.setIfInBounds_toArray, List.set_cons_zero, List.set_cons_succ]
                                              refine wpAnyH_done (by kernel_rfl) ?_ _
                                              refine NoPanic.normal ?_
                                              have hset := hR11.set hTmY.out hq3 (p := fun x => movK a zs b.2 k (q + 1) x || (b.2 k x && (stateO (zOf zs) a k).1 q x)) (wdf_same hW11.wd (fun x _ => by rw [movQ_at, HNXe.out k]))
                                              have hnew := hR11.set_cell hq3 (.slice A11 (wordsN m) c11)
                                              have hd12 := cellNe q0 s11 (u := .slice A11 (wordsN m) c11)
                                              have hw12 := (HW9.out.call (bthen hb10 hb11)).set (g := gT) (by simp) (q + 1) (.slice A11 (wordsN m) c11)
                                              have hmono : ∀ x, movQ a zs b.2 k q (q + 1) x = true → (movK a zs b.2 k (q + 1) x || (b.2 k x && (stateO (zOf zs) a k).1 q x)) = true := fun x e => by rw [movQ_at] at e; rw [e]; rfl
                                              have hany := anyZ_set (m := m) (M := M) (f := movQ a zs b.2 k q) hq3 hmono
                                              rw [movQ_step] at hset hany
                                              obtain ⟨w12, hw12e⟩ : ∃ w12, w12 = w11.setCell ⟨gT, q + 1, none⟩ (.slice A11 (wordsN m) c11) := ⟨_, rfl⟩
                                              rw [← hw12e] at hset hnew hd12 hw12 ⊢
                                              have HSET := Lib.hid hset
                                              have HANY := Lib.hid hany
                                              have hF12 := HSA.out _ (HBK9.out.only hw12 hTm.out hTN hTE hg5 (NoU.rowA hset)).wr
                                              obtain ⟨v12, hv12, hWn⟩ := hset.at_ hq3
                                              obtain rfl : (.slice A11 (wordsN m) c11) = v12 := by injection hnew.symm.trans hv12
                                              clear hset hany hmono hW11 hW10 s10 s11 o10 o11 f11 hR11 hb10 hb11 hb10' hb11' hr10 hr11 hw12e hv12 hBK10
                                              cases fl with
                                              | true =>
                                                go_wp2_with fail
                                                go_roundw
                                                case rel => exact ⟨q + 1, true, by omega, by go_num, rfl, hw12, HSET.out, ⟨fun _ => HANY.out.2 (.inl (hfl.out.1 rfl)), fun _ => rfl⟩⟩
                                                case measure => simp [intOf]; omega
                                              | false =>
                                                obtain ⟨s3, hs3⟩ : ∃ s3 : Bool, s3 = decide (∀ x, x < 2 ^ m → movQ a zs b.2 k (q + 1) (q + 1) x = false) := ⟨_, rfl⟩
                                                have HS3 := Lib.hid hs3
                                                have HWN := Lib.hid hWn
                                                have HSM2 : Hid (Calls Try.prog 14 #[.int .i64 (m : Nat), .slice A11 (wordsN m) c11, .slice none 0 0] w12 (RetBt w12 s3)) := Lib.hid (w_same hm (HWN.out.cle (sat_hx w12 (gT :: (Hs ++ Ys))).cle) (WdF.nil m (heapF w12)) s3 hs3)
                                                clear hs3 hWn
                                                go_wp2_with (go_at_call 14; refine HSM2.out.mono ?_; rintro e w13 ⟨rfl, hb13⟩)
                                                go_roundw
                                                case rel => exact ⟨q + 1, !s3, by omega, by go_num, rfl, hw12.call hb13, HSET.out.call hb13, by
                                                  have hp : (movQ a zs b.2 k (q + 1) (q + 1)) = fun x => movK a zs b.2 k (q + 1) x || (b.2 k x && (stateO (zOf zs) a k).1 q x) := by rw [← movQ_step]; exact if_pos rfl
                                                  rw [HANY.out, HS3.out, Bool.not_eq_true', decide_eq_false_iff_not, hp]
                                                  constructor
                                                  · intro e
                                                    refine .inr (Classical.byContradiction fun e2 => e fun x hx => ?_)
                                                    show (movK a zs b.2 k (q + 1) x || (b.2 k x && (stateO (zOf zs) a k).1 q x)) = false
                                                    cases e3 : (movK a zs b.2 k (q + 1) x || (b.2 k x && (stateO (zOf zs) a k).1 q x)) with
                                                    | false => rfl
                                                    | true => exact absurd ⟨x, hx, e3⟩ e2
                                                  · rintro (e | ⟨x, hx, e⟩) e2
                                                    · exact absurd (hfl.out.2 e) (by simp)
                                                    · have e4 : (movK a zs b.2 k (q + 1) x || (b.2 k x && (stateO (zOf zs) a k).1 q x)) = false := e2 x hx
                                                      rw [e4] at e
                                                      cases e⟩
                                                case measure => simp [intOf]; omega
                                          case sC615 =>
                                            exact AllReadyH.nil
                                      case sC613 =>
                                        exact AllReadyH.nil
                                  case sC611 =>
                                    exact AllReadyH.nil
                              case sC609 =>
                                exact AllReadyH.nil
                        · obtain rfl : q = M := by omega
                          have hRf : RowA m (q + 1) (gT :: (Hs ++ Ys)) 49 wr gT (movK a zs b.2 (k + 1)) := hRq.congr fun s hs' => movQ_done a zs b.2 k hs'
                          have hfl2 : fl = true ↔ anyZ m q (movK a zs b.2 (k + 1)) := hfl.trans (anyZ_congr fun s hs' x _ => by rw [movQ_done a zs b.2 k hs'])
                          have hWf := HWI9.out.cle (hw9.more hsubTY).cle
                          have hwf := hwB9.trans (hw9.more hsubT3)
                          have HRF := Lib.hid hRf
                          have HFL := Lib.hid hfl2
                          have HWF := Lib.hid hWf
                          have HBF2 := Lib.hid hBKr
                          have HWRF := Lib.hid hwf
                          clear hRf hfl2 hWf hwf hRq hfl hBKr hw9
                          go_wp2_with fail
                          go_roundw
                          case rel => first
                            | exact ⟨k + 1, A12', c12', fl, by omega, by go_num, rfl, rfl, HBF2.out, HWRF.out, HRF.out, HWF.out, HFL.out⟩
                            | ((repeat apply Exists.intro); exact ⟨⟨k + 1, A12', c12', fl, by omega, by go_num, rfl, rfl, HBF2.out, HWRF.out, HRF.out, HWF.out, HFL.out⟩, rfl⟩)
                          case measure => simp [intOf]; omega
              · obtain rfl : k = M + 1 := by omega
                have hB16e := (HFSB.out _ hwB).1
                have d0 := (blkA hB16e).1
                have d1 := (blkA hB16e).2.1
                have HMV : movK a zs b.2 (M + 1) = movedF a zs b.2 := by rw [← HM.out]; exact movK_done a zs b.2
                rw [HMV] at hRT hfl
                have hSt : StF m (hx wr (Hs ++ Ys)) M (.slice (some ⟨gT, 0, none⟩) (M + 1) (M + 1)) (movedF a zs b.2) := hRT.stf hTHY.out (M + 1)
                have hBKd := hBK.drop HBKN.out HBKE.out HBKW.out
                have hWd : WdG m (hx wr (Hs ++ Ys)) (.slice A12 (wordsN m) c12) (backF h a zs (SW.take (j + 1))) := (hWI.cle (hx_less fun _ hb => List.mem_cons_of_mem _ hb)).same fun x _ => by rw [HTK.out, ← isB_done, HM.out]
                have hsubB : ∀ g, g ∈ [gT, gN, gE] → g ∈ gT :: (Hs ++ Ys) := fun g hg => by
                  simp at hg
                  rcases hg with rfl | rfl | rfl
                  · exact List.mem_cons_self
                  · exact List.mem_cons_of_mem _ (List.mem_append_left _ HBKN.out)
                  · exact List.mem_cons_of_mem _ (List.mem_append_left _ HBKE.out)
                have hOLf : OwnU FS wr w5.heap.size 59 2 (.slice AL ps.length cL) ps.length (plC ps) := HOLB.out.wr fun g hg => hwB.block g (HOLB.out.1.1.lt g hg).2 (fun e => by
                  have h1 := hLH g hg
                  have h2 := (HOLB.out.1.1.lt g hg).1
                  simp at e
                  rcases e with e | e | e
                  · exact hTH.out (e ▸ h1)
                  · rw [e] at h2; exact absurd h2 (by have := HNE5.out.1; omega)
                  · rw [e] at h2; exact absurd h2 (by have := HNE5.out.2; omega))
                have hBVf : BkV m (hx wr (Hs ++ Ys)) M (backV m a zs (SW.take j)) ps := (HBVB.out.cle (hwB.more hsubB).cle).cle (hx_less fun _ hb => List.mem_cons_of_mem _ hb)
                have hsz : someZ m a (movedF a zs b.2) = fl := by
                  have h1 := someZ_iff m a (movedF a zs b.2)
                  rw [HM.out] at h1
                  cases fl with
                  | true => exact h1.2 (hfl.1 rfl)
                  | false =>
                    cases h2 : someZ m a (movedF a zs b.2) with
                    | false => rfl
                    | true => exact absurd (hfl.2 (h1.1 h2)) (by simp)
                have hbv : backV m a zs (SW.take (j + 1)) = backV m a zs (SW.take j) ++ (if fl = true then [(b.1, movedF a zs b.2)] else []) := by rw [HTK.out, backV_append, hsz]
                have HBV2 := Lib.hid hbv
                have HST := Lib.hid hSt
                have HBKD := Lib.hid hBKd
                have HWD := Lib.hid hWd
                have HOLF := Lib.hid hOLf
                have HBVF := Lib.hid hBVf
                have HSAF := Lib.hid (HSA.out _ hBK.wr)
                have hpl : ps.length ≤ 90000 := by
                  have h1 := hBVf.1
                  have h2 := len_back m a zs (SW.take j)
                  have h3 := List.length_take_le j SW
                  omega
                clear hRT hfl hWI hBK hSt hBKd hWd hOLf hBVf hsz hbv hwB hB16e HMV
                cases fl with
                | false =>
                  go_wp2_with fail
                  go_roundw
                  case rel => first
                    | exact ⟨j + 1, Hs, ps, A12, c12, AL, cL, by omega, by go_num, rfl, rfl, HBKD.out, HOLF.out, hLH, by rw [HBV2.out, if_neg (by simp), List.append_nil]; exact HBVF.out, HWD.out⟩
                    | ((repeat apply Exists.intro); exact ⟨⟨j + 1, Hs, ps, A12, c12, AL, cL, by omega, by go_num, rfl, rfl, HBKD.out, HOLF.out, hLH, by rw [HBV2.out, if_neg (by simp), List.append_nil]; exact HBVF.out, HWD.out⟩, rfl⟩)
                  case measure => simp [intOf]; omega
                | true =>
                  have hB2 : w5.heap.size ≤ (wr.alloc (.cells #[.int .i64 (b.1 : Nat), .slice (some ⟨gT, 0, none⟩) (M + 1) (M + 1)] 59)).heap.size := by have := HBKD.out.wr.size; simp; omega
                  have hOA := HOLF.out.call (balloc wr (.cells #[.int .i64 (b.1 : Nat), .slice (some ⟨gT, 0, none⟩) (M + 1) (M + 1)] 59))
                  have hSA := HSAF.out.alloc (.cells #[.int .i64 (b.1 : Nat), .slice (some ⟨gT, 0, none⟩) (M + 1) (M + 1)] 59)
                  have hBl := Blk.new wr 59 #[.int .i64 (b.1 : Nat), .slice (some ⟨gT, 0, none⟩) (M + 1) (M + 1)]
                  go_wp2_with (at_builtin; refine wpList_pushB rfl (.tmp 158) (.tmp 160) rfl hOA hSA (by rfl) wr.heap.size 1 (by rfl) hBl (by omega) hB2 ?_; intro v13 w13 hO13 hF13 hb13 hg13 hat13 hU13; obtain ⟨A13, c13, hv13, hc13⟩ := hO13.1.shape; subst hv13)
                  obtain ⟨Hs2, hBK2, hL2, hle2a⟩ := HBKD.out.pushed (balloc _ _) hOA hLH hg13 hO13 hat13 hU13 HNE5.out.1 HNE5.out.2
                  have hle2 := cle_moreY Ys hle2a
                  have hBV2 : BkV m (hx w13 (Hs2 ++ Ys)) M (backV m a zs (SW.take (j + 1))) (ps ++ [(b.1, .slice (some ⟨gT, 0, none⟩) (M + 1) (M + 1))]) := by
                    rw [HBV2.out, if_pos rfl]
                    exact (HBVF.out.cle hle2).append (BkV.one b.1 (HST.out.cle hle2))
                  have hO14 : OwnU FS w13 w5.heap.size 59 2 (.slice A13 (ps ++ [(b.1, Value.slice (some ⟨gT, 0, none⟩) (M + 1) (M + 1))]).length c13) (ps ++ [(b.1, Value.slice (some ⟨gT, 0, none⟩) (M + 1) (M + 1))]).length (plC (ps ++ [(b.1, Value.slice (some ⟨gT, 0, none⟩) (M + 1) (M + 1))])) := by
                    rw [plC_append, List.length_append]; exact hO13
                  have hL3 : ∀ g, (Value.slice A13 (ps ++ [(b.1, Value.slice (some ⟨gT, 0, none⟩) (M + 1) (M + 1))]).length c13).ownBlock = some g → g ∈ Hs2 := fun g hg => hL2 g (by rw [← hg]; cases A13 <;> rfl)
                  have HR := Lib.hid (And.intro hBK2 (And.intro hO14 (And.intro hL3 (And.intro hBV2 (HWD.out.cle hle2)))))
                  clear hBK2 hO14 hL3 hBV2 hO13 hF13 hb13 hg13 hat13 hU13 hL2 hle2 hle2a hOA hSA hBl
                  go_wp2_with fail
                  go_roundw
                  case rel => first
                    | exact ⟨j + 1, Hs2, ps ++ [(b.1, Value.slice (some ⟨gT, 0, none⟩) (M + 1) (M + 1))], A12, c12, A13, c13, by omega, by go_num, rfl, by simp, HR.out.1, HR.out.2.1, HR.out.2.2.1, HR.out.2.2.2.1, HR.out.2.2.2.2⟩
                    | ((repeat apply Exists.intro); exact ⟨⟨j + 1, Hs2, ps ++ [(b.1, Value.slice (some ⟨gT, 0, none⟩) (M + 1) (M + 1))], A12, c12, A13, c13, by omega, by go_num, rfl, by simp, HR.out.1, HR.out.2.1, HR.out.2.2.1, HR.out.2.2.2.1, HR.out.2.2.2.2⟩, rfl⟩)
                  case measure => simp [intOf]; omega
        · obtain rfl : j = nS := by omega
          have hdec : decide ((j : Int) < (j : Int)) = false := decide_eq_false (by omega)
          have htk : SW.take j = SW := List.take_of_length_le (by rw [HWL.out]; exact Nat.le_refl _)
          rw [htk] at hBV hWI
          have hF9 := HSA2.out _ hBK.wr
          obtain ⟨t0, t3⟩ := HTT.out
          have z0 := hF9.cell t0
          have z3 := hF9.cell t3
          have hw0 := HBF.out.cell (p := ⟨gw, i, none⟩) hgwl.out
          have hgN9 : gw ≠ gN ∧ gw ≠ gE := ⟨fun e => by have := HNW3.out.1; rw [← e] at this; have := hgwl.out; omega, fun e => by have := HNW3.out.2; rw [← e] at this; have := hgwl.out; omega⟩
          have hkw : wr.heap[gw]? = w.heap[gw]? := (hBK.wr.block gw (Nat.lt_of_lt_of_le hgwl.out hw5z.out) (by simp; exact hgN9)).trans (HBF.out.block gw hgwl.out)
          have hcw : wr.cell? ⟨gw, i, none⟩ = some (.slice Aw nw cw) := (World.cell?_of_block (a := ⟨gw, i, none⟩) hkw).trans HWC.out
          have hfw : wr.frozen? ⟨gw, i, none⟩ = false := (World.frozen?_of_block (a := ⟨gw, i, none⟩) hkw).trans HSF.out
          have hbF : Below w.heap.size w wr := HBF.out.trans (hBK.wr.below (fun g hg => by
            simp at hg
            rcases hg with rfl | rfl
            · exact HNW3.out.1
            · exact HNW3.out.2) hw5z.out)
          have hsub : ∀ g, g ∈ gw :: Ys → g ∈ Hs ++ Ys := fun g hg => by
            rcases List.mem_cons.1 hg with hg | hg
            · rw [hg]; exact List.mem_append_left _ hBK.inW
            · exact List.mem_append_right _ hg
          obtain ⟨AR, cR, eR, hcR, hrd⟩ := hOL.1.rdH
          injection eR with e1 e2 e3
          subst e1 e3
          have hrd2 : Rd (hx wr (gw :: Ys)) 2 AL ps.length (plC ps) := rd_out hrd fun ad e hb => by
            have hb : ad.block < w5.heap.size := by
              rcases List.mem_cons.1 hb with hb | hb
              · rw [hb]; exact Nat.lt_of_lt_of_le hgwl.out hw5z.out
              · exact HY5.out _ hb
            have h1 := (hOL.1.1.lt ad.block (by rw [e]; rfl)).1
            have h2 := hgwl.out
            have h3 := hw5z.out
            omega
          have HFINE := Lib.hid (show ps.length ≤ cL ∧ WdG m (hx wr (gw :: Ys)) (.slice A12 (wordsN m) c12) (backF h a zs SW) ∧ BkF m (hx wr (gw :: Ys)) M AL ps.length (backV m a zs SW) from ⟨hcR, hWI.cle (hx_less hsub), hBV.1.symm, ps, hrd2, hBV.cle (hx_less hsub)⟩)
          have HBFW := Lib.hid hbF
          clear hBV hWI hF9 hw0 hgN9 hkw hbF hsub hrd hrd2 hBK hOL hcR htk hFr hBbr hB8r
          go_wp2_with fail
          go_ret
          exact ⟨_, wr, AL, ps.length, cL, rfl, HBFW.out, rfl, HFINE.out.1, HFINE.out.2.1, HFINE.out.2.2⟩
end Go.Proofs.Ytaomehlhopiblaa
