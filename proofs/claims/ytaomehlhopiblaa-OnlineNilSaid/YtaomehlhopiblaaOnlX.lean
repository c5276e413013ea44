/- One pass: the walk of fore: a match's truth, and what is ahead. -/
import Derived.Test.YtaomehlhopiblaaNeedC
set_option linter.unusedVariables false
set_option linter.unusedSimpArgs false
/-! One pass: the walk of fore: a match's truth, and what is ahead. -/
namespace Go.Proofs.Ytaomehlhopiblaa
open Go.RowKit
attribute [local go_sem ↓] Go.wp_at_zero Go.wp_at_succ
theorem TsF.cle_ {m : Nat} {F F' : Fz} {A : Option Addr} {n : Nat} {z : Zf} (h : TsF m F A n z) (hle : CLe F F') : TsF m F' A n z := ⟨RwF.cle h.1 hle, h.2⟩
theorem cell_set3 {w : World} {g : Nat} {a : Addr} {v x y z : Value} (h : g ≠ a.block) (hc : w.cell? a = some v) : (((w.setCell ⟨g, 0, none⟩ x).setCell ⟨g, 1, none⟩ y).setCell ⟨g, 2, none⟩ z).cell? a = some v := by
  rw [World.cell?_setCell_far (h := h), World.cell?_setCell_far (h := h), World.cell?_setCell_far (h := h), hc]
theorem blk_set3 {w : World} {g : Nat} {T : TypeId} {a b c x y z : Value} (h : Blk w g T #[a, b, c]) : Blk (((w.setCell ⟨g, 0, none⟩ x).setCell ⟨g, 1, none⟩ y).setCell ⟨g, 2, none⟩ z) g T #[x, y, z] := by
  have := ((h.set_ 0 x).set_ 1 y).set_ 2 z
  simpa using this
theorem below_set3 {B : Nat} {w w' : World} {g : Nat} {x y z : Value} (h : Below B w w') (hg : B ≤ g) : Below B w (((w'.setCell ⟨g, 0, none⟩ x).setCell ⟨g, 1, none⟩ y).setCell ⟨g, 2, none⟩ z) :=
  ((h.setCell (p := ⟨g, 0, none⟩) hg x).setCell (p := ⟨g, 1, none⟩) hg y).setCell (p := ⟨g, 2, none⟩) hg z
/-- What reads as words does not lie in a block that holds none. -/
theorem rd_avoid {w : World} {g k : Nat} {Hs : List Nat} {A : Option Addr} {fs : List (BitVec 64)} (hno : ∀ i v, w.cell? ⟨g, i, none⟩ = some v → ∀ x, v ≠ u x) (hr : Rd (hx w Hs) 1 A k (fs.map u)) : Rd (hx w (g :: Hs)) 1 A k (fs.map u) := by
  refine ⟨hr.1, fun h0 => ?_⟩
  obtain ⟨ad, e, hc⟩ := hr.2 h0
  refine ⟨ad, e, fun j v hj => ?_⟩
  have h1 := hc j v hj
  by_cases hb : (ad.add j).block = g
  · exfalso
    have h2 := (sat_hx w Hs).cell h1
    rw [List.getElem?_map] at hj
    obtain ⟨x, _, hux⟩ := Option.map_eq_some_iff.1 hj
    have hs : (ad.add j).spot = none := by
      unfold Fz.cell at h1
      cases ho : hx w Hs (ad.add j).block with
      | none => rw [ho] at h1; cases h1
      | some o =>
        rw [ho] at h1
        cases o <;> first | cases h1 | skip
        dsimp only at h1
        split at h1
        · cases h1
        · rename_i hn
          cases hsp : (ad.add j).spot with
          | none => rfl
          | some y => rw [hsp] at hn; simp at hn
    have h3 : ad.add j = ⟨g, (ad.add j).off, none⟩ := by
      cases hh : ad.add j with
      | mk b o s => rw [hh] at hb hs; simp at hb hs; subst hb; subst hs; rfl
    rw [h3] at h2
    exact hno _ v h2 x hux.symm
  · unfold Fz.cell at h1 ⊢
    have e2 : hx w (g :: Hs) (ad.add j).block = hx w Hs (ad.add j).block := by
      unfold hx
      simp [hb]
    rw [e2]
    exact h1
theorem ts_avoid {m : Nat} {w : World} {g n : Nat} {A : Option Addr} {z : Zf} (hno : ∀ i v, w.cell? ⟨g, i, none⟩ = some v → ∀ x, v ≠ u x) (h : TsF m (heapF w) A n z) (hne : ∀ a, A = some a → a.block ≠ g) : TsF m (hx w [g]) A n z := by
  refine ⟨fun q hq => ?_, h.2⟩
  obtain ⟨ad, v, e, h1, Ai, ni, ci, fs, e2, hr, hl, hp⟩ := h.1 q hq
  refine ⟨ad, v, e, ?_, Ai, ni, ci, fs, e2, rd_avoid hno (by rw [hx_nil]; exact hr), hl, hp⟩
  unfold Fz.cell at h1 ⊢
  rw [block_of_add] at h1 ⊢
  rw [hx_out (by simp; exact hne ad e)]
  exact h1
theorem ts_off3 {m : Nat} {w : World} {g n : Nat} {T : TypeId} {A a1 a2 : Option Addr} {n1 c1 n2 c2 : Nat} {y : Int} {z : Zf} {v1 v2 v3 : Value} (hB : Blk w g T #[.slice a1 n1 c1, .int .i64 y, .slice a2 n2 c2]) (h : TsF m (heapF w) A n z) (hne : ∀ a, A = some a → a.block ≠ g) :
    TsF m (heapF (((w.setCell ⟨g, 0, none⟩ v1).setCell ⟨g, 1, none⟩ v2).setCell ⟨g, 2, none⟩ v3)) A n z := by
  have hw : Wr [g] w (((w.setCell ⟨g, 0, none⟩ v1).setCell ⟨g, 1, none⟩ v2).setCell ⟨g, 2, none⟩ v3) := (((Wr.refl [g] w).set (by simp) 0 v1).set (by simp) 1 v2).set (by simp) 2 v3
  refine TsF.cle_ (ts_avoid (g := g) (fun i v hc x e => ?_) h hne) (hw.cle.trans (sat_hx _ _).cle)
  rw [hB.cell i] at hc
  rcases i with _ | _ | _ | i
  · simp at hc; rw [← hc] at e; cases e
  · simp at hc; rw [← hc] at e; cases e
  · simp at hc; rw [← hc] at e; cases e
  · simp at hc
theorem wr_eqv {Gs : List Nat} {a w w' : World} (h : Wr Gs a w) (h1 : w'.heap = w.heap) (h2 : w'.os = w.os) (h3 : w'.tape = w.tape) (h4 : w'.output = w.output) : Wr Gs a w' :=
  ⟨h2.trans h.os, h3.trans h.tape, h4.trans h.output, by rw [h1]; exact h.size, fun b hb hg => by rw [h1]; exact h.block b hb hg⟩
/-- What fore leaves. -/
def RetFo (m : Nat) (w : World) (ga : Nat) (Ys : List Nat) (g : Fn) (f : Nat → Fn) (e : Ending) (w' : World) : Prop := ∃ v, e = .returned v ∧ Wr [ga] w w' ∧ WdG m (hx w' (ga :: Ys)) v g ∧ RowA m m [ga] 49 w' ga f
set_option maxRecDepth 100000 in
set_option maxHeartbeats 4000000 in
theorem ofore_w {F : Fz} {w : World} (hF : Sat F w) (m : Nat) (hm : m ≤ 10) (N gt go gx gw ga gr : Nat) (Al : Option Addr) (cl d : Nat) (hcl : N ≤ cl) (hd : d < 18446744073709551616) (hT : TuF F m N gt go gx gw ga gr Al cl d) (hga : F ga = none)
    (l : List Nd) (hn : l.length ≤ 1000) (hl : NodesF F Al N l) {t : Tr} (ht : treeS l = some t) (hf : (formL l && plainS l) = true) (hX : RxF F t gx) (i : Nat) (hi : i < l.length) {h : Nd} {a : Tr} (hxs : t.sub i = .un h a) (h17 : h.kind = 17) (hs : spanS h.lo h.hi = true)
    (hva : validT a = true) (hra : regS a.root.kind = true) (has : a.size ≤ 1000) (hmm : uptoN atomM t i + stepsN a * wideN h ≤ m) (tr : Nat → Fn) (htr : ∀ p ∈ partsP a (i - a.size), p < N ∧ ∃ v, F.cell ⟨gr, p, none⟩ = some v ∧ WdF m F v (tr p))
    (f : Nat → Fn) (hA : RowA m m [ga] 49 w ga f) (Ys : List Nat) (hYs : ∀ g, g ∈ Ys → g < w.heap.size) :
    Calls Try.prog 24 #[.pointer (some ⟨gt, 0, none⟩), .int .i64 (i : Nat), .agg #[.int .i64 h.lo, .int .i64 h.hi]] w
      (RetFo m w ga Ys (foreF h a ((partsP a (i - a.size)).map tr) (uptoN atomM t i)) (foW h a ((partsP a (i - a.size)).map tr) (uptoN atomM t i) d f (stepsN a * wideN h))) := by
  have hlen := tree_len ht
  have hlN : l.length = N := hl.1
  obtain ⟨Ar, cr, Ap, np, cp, x0, x1, x2, x3, x4, x5, x6, x7⟩ := hX i h a (by omega) hxs (.inr h17)
  have hsN := stepsN_le a
  obtain ⟨zs, hzs⟩ : ∃ zs, (partsP a (i - a.size)).map tr = zs := ⟨_, rfl⟩
  have HTS : Hid (∀ X, Sat F X → Calls Try.prog 39 #[.pointer (some ⟨gt, 0, none⟩), .int .i64 (i : Nat)] X (RetTs m X zs)) := Lib.hid (fun X hX => hzs ▸ otests_w hX m N gt go gx gw ga gr Al cl d hT (by omega) i (by omega) (partsP a (i - a.size)) Ap np cp x4 x6 x7 tr htr)
  have hzl : zs.length ≤ 1000 := by rw [← hzs, List.length_map]; have := x6.1; simp at this; omega
  rw [hzs]
  have hG : ∀ g, g ∈ [ga] → F g = none := fun g hg => by simp at hg; rw [hg]; exact hga
  obtain ⟨W, hW⟩ : ∃ W, W = w.alloc (.cells #[.int .i64 h.lo, .int .i64 h.hi] 46) := ⟨_, rfl⟩
  have HB0 := Lib.hid (show Blk W w.heap.size 46 #[.int .i64 h.lo, .int .i64 h.hi] by rw [hW]; exact Blk.new _ _ _)
  have hbW : Below w.heap.size w W := by rw [hW]; exact balloc _ _
  have hAW := hA.call hbW
  have HF1 := Lib.hid (hF.below hbW)
  have HW := Lib.hid hW
  have HT := Lib.hid hT
  have HL := Lib.hid hl
  have HTR := Lib.hid ht
  have HX := Lib.hid hxs
  have HFM := Lib.hid hf
  obtain ⟨R, hR⟩ : ∃ R, a.size = R := ⟨_, rfl⟩
  rw [hR] at x0 x1 x2 has hsN
  obtain ⟨M, hM⟩ : ∃ M, stepsN a = M := ⟨_, rfl⟩
  have HM := Lib.hid hM
  have HR := Lib.hid hR
  rw [hM] at x3 hsN
  obtain ⟨P, hP⟩ : ∃ P, uptoN atomM t i = P := ⟨_, rfl⟩
  have HP := Lib.hid hP
  rw [hP] at hmm ⊢
  obtain ⟨FW, hFW⟩ : ∃ FW : Nat → Nat → Fn, (fun n => foW h a zs P d f n) = FW := ⟨_, rfl⟩
  obtain ⟨AH, hAH⟩ : ∃ AH : Nat → Nat → Fn, (fun K c => aheadF h a zs P d K c) = AH := ⟨_, rfl⟩
  have HF0 : Hid (FW 0 = f) := Lib.hid (by rw [← hFW]; exact foW_zero h a zs P d f)
  have HFS : Hid (∀ k c, c < wideN h → (fun q => if q = P + (k * wideN h + c) then AH (k + 1) c else FW (k * wideN h + c) q) = FW (k * wideN h + (c + 1))) := Lib.hid (fun k c hc => by rw [← hFW, ← hAH]; exact foW_step h a zs P d f k c hc)
  obtain ⟨FZ, hFZ⟩ : ∃ FZ, foW h a zs P d f (stepsN a * wideN h) = FZ := ⟨_, rfl⟩
  obtain ⟨GZ, hGZ⟩ : ∃ GZ, foreF h a zs P = GZ := ⟨_, rfl⟩
  have HFD : Hid (FW (M * wideN h) = FZ) := Lib.hid (by rw [← hFW, ← hFZ, HM.out])
  have HAN : Hid (∀ K c, laterC h c d = none → ∀ x, false = AH K c x) := Lib.hid (fun K c e x => by rw [← hAH]; exact (aheadF_none e x).symm)
  have HAS : Hid (∀ K c c', laterC h c d = some c' → ∀ x, (laterF M P (wideN h) c' (stateO (zOf zs) a K).1 x || (inC h c' && (stateO (zOf zs) a K).2 x)) = AH K c x) := Lib.hid (fun K c c' e x => by rw [← hAH, ← HM.out]; exact (aheadF_some e x).symm)
  have HFO : Hid (∀ x, (laterF M P (wideN h) 0 (stateO (zOf zs) a 0).1 x || (inC h 0 && (stateO (zOf zs) a 0).2 x)) = GZ x) := Lib.hid (fun x => by rw [← HM.out, ← hGZ]; exact (foreF_is h a zs P x).symm)
  rw [hFZ, hGZ]
  clear hFW hAH hP hFZ hGZ
  rw [hM] at hmm
  have hlW : w.heap.size < W.heap.size := HB0.out.lt
  have hgaw : ga < w.heap.size := hA.lt
  have HYS : Hid (∀ X : World, w.heap.size ≤ X.heap.size → ∀ g, g ∈ ga :: Ys → g < X.heap.size) := Lib.hid (fun X hX g hg => by
    rcases List.mem_cons.1 hg with e | e
    · omega
    · exact Nat.lt_of_lt_of_le (hYs g e) hX)
  have y0 := HF1.out.cell hT.o
  have y1 := HF1.out.cell hT.n
  have y2 := HF1.out.cell hT.rx
  have y3 := HF1.out.cell x0
  have y4 := HF1.out.cell x3
  have y5 := HF1.out.cell x4
  have lt_ := HF1.out.clt hT.o
  have lo_ := HF1.out.clt hT.n
  have lx_ := HF1.out.clt x0
  have lt_ : gt < W.heap.size := lt_
  have lo_ : go < W.heap.size := lo_
  have lx_ : gx < W.heap.size := lx_
  have hiN : (i : Int) < (N : Int) := by omega
  have HG := Lib.hid hG
  have HGT : Hid (ga ≠ gt ∧ ga ≠ go) := Lib.hid ⟨(fun e => by have h1 := hT.o; unfold Fz.cell at h1; dsimp only at h1; rw [← e, hga] at h1; cases h1), (fun e => by have h1 := hT.l; unfold Fz.cell at h1; dsimp only at h1; rw [← e, hga] at h1; cases h1)⟩
  have HFF := Lib.hid hF
  have HAW := Lib.hid hAW
  have HBW := Lib.hid hbW
  clear hT x0 x3 x4 x5 x6 x7 hl hlen htr hzs hX hA hAW hW hM hR hf ht hG hga hF hbW hYs
  go_enter Try.func24, Try.ntmps24
  go_wp2_with fail
  rw [← HW.out]
  go_cut [7, 8, 9] from 17 to 37 (fun v7 v8 v9 wx => ∃ (g8 : Nat) (At : Option Addr) (ct : Nat), v7 = .int .i64 (m : Nat) ∧ v8 = .pointer (some ⟨g8, 0, none⟩) ∧ v9 = .slice At zs.length ct ∧ W.heap.size ≤ g8 ∧ Below W.heap.size W wx ∧ Blk wx g8 80 #[.slice Ar R cr, .int .i64 (M : Nat), .slice Ap np cp] ∧ (∀ a, At = some a → W.heap.size ≤ a.block) ∧ TsF m (heapF wx) At zs.length (zOf zs))
  case first =>
    have hb0 : Below W.heap.size W W.drew := bel_eqv (Below.refl _ W) rfl rfl rfl rfl
    refine wp_region_noPanic ?_
    refine wp_region_held_drew (S := (fun w' => w'.cell? ⟨gt, 0, none⟩ = some (.pointer (some ⟨go, 0, none⟩)) ∧ w'.cell? ⟨go, 1, none⟩ = some (.int .i64 (m : Nat)) ∧ w'.cell? ⟨go, 2, none⟩ = some (.slice (some ⟨gx, 0, none⟩) N N) ∧ w'.cell? ⟨gx, i * 3, none⟩ = some (.slice Ar R cr) ∧ w'.cell? ⟨gx, i * 3 + 1, none⟩ = some (.int .i64 (M : Nat)) ∧ w'.cell? ⟨gx, i * 3 + 2, none⟩ = some (.slice Ap np cp))) (by kernel_rfl) ?hS0 (fun hHeld => ?hR0)
    case hS0 => (try dsimp only); exact ⟨(Below.cell hb0 (p := ⟨gt, 0, none⟩) lt_).trans y0, (Below.cell hb0 (p := ⟨go, 1, none⟩) lo_).trans y1, (Below.cell hb0 (p := ⟨go, 2, none⟩) lo_).trans y2, (Below.cell hb0 (p := ⟨gx, i * 3, none⟩) lx_).trans y3, (Below.cell hb0 (p := ⟨gx, i * 3 + 1, none⟩) lx_).trans y4, (Below.cell hb0 (p := ⟨gx, i * 3 + 2, none⟩) lx_).trans y5⟩
    case hR0 =>
      refine tk 0 (h := ?_)
      try simp only [pn]
      refine tk 1 (h := ?_)
      try simp only [pn]
      refine tk 2 (h := ?_)
      try simp only [pn]
      refine tk 3 (h := ?_)
      try simp only [pn]
      refine tk 4 (h := ?_)
      try simp only [pn]
      refine tk 5 (h := ?_)
      try simp only [pn]
      refine tk 6 (h := ?_)
      try simp only [pn]
      refine tk 7 (h := ?_)
      try simp only [pn]
      refine tk 8 (h := ?_)
      try simp only [pn]
      refine tk 9 (h := ?_)
      try simp only [pn]
      refine tk 10 (h := ?_)
      try simp only [pn]
      refine tk 11 (h := ?_)
      try simp only [pn]
      refine tk 12 (h := ?_)
      try simp only [pn]
      refine tk 13 (h := ?_)
      try simp only [pn]
      refine tk 14 (h := ?_)
      try simp only [pn]
      refine tk 15 (h := ?_)
      try simp only [pn]
      refine tk 16 (h := ?_)
      try simp only [pn]
      refine tk 17 (h := ?_)
      try simp only [pn]
      refine tk 18 (h := ?_)
      try simp only [pn]
      refine wpAnyH_ready (rs := [19, 20]) (by kernel_rfl) (by simp) ?_
      refine AllReadyH.cons (o := ?sO1) ?sA1 (fun K hK => ?sB1) ?sC1
      case sA1 => (first | (simp only [List.getElem?_toArray, List.getElem?_cons_succ, List.getElem?_cons_zero]; done) | (simp only [List.getElem?_toArray, List.getElem?_cons_succ, List.getElem?_cons_zero]; rfl))
      case sB1 =>
        go_simp
        go_at_call 39; refine (HTS.out _ (HF1.out.below hb0)).mono ?_; rintro e wo2 ⟨At, ct, rfl, hwo2, hat, hTs⟩
        have hbo2 : Below W.heap.size W wo2 := Below.trans hb0 (Below.mono hwo2 (hb0).size)
        have hz_2 := (hbo2).size
        have s_2 : (fun w' => w'.cell? ⟨gt, 0, none⟩ = some (.pointer (some ⟨go, 0, none⟩)) ∧ w'.cell? ⟨go, 1, none⟩ = some (.int .i64 (m : Nat)) ∧ w'.cell? ⟨go, 2, none⟩ = some (.slice (some ⟨gx, 0, none⟩) N N) ∧ w'.cell? ⟨gx, i * 3, none⟩ = some (.slice Ar R cr) ∧ w'.cell? ⟨gx, i * 3 + 1, none⟩ = some (.int .i64 (M : Nat)) ∧ w'.cell? ⟨gx, i * 3 + 2, none⟩ = some (.slice Ap np cp)) wo2 := ⟨(Below.cell hbo2 (p := ⟨gt, 0, none⟩) lt_).trans y0, (Below.cell hbo2 (p := ⟨go, 1, none⟩) lo_).trans y1, (Below.cell hbo2 (p := ⟨go, 2, none⟩) lo_).trans y2, (Below.cell hbo2 (p := ⟨gx, i * 3, none⟩) lx_).trans y3, (Below.cell hbo2 (p := ⟨gx, i * 3 + 1, none⟩) lx_).trans y4, (Below.cell hbo2 (p := ⟨gx, i * 3 + 2, none⟩) lx_).trans y5⟩
        try go_wp2_with fail
        refine hK.out _ _ ?kS3 (fun hHeld => ?kR3)
        case kS3 => (try dsimp only); exact s_2
        case kR3 =>
          clear hK K
          try simp only [Act.put, List.setIfInBounds_toArray, List.set_cons_zero, List.set_cons_succ]
          refine wpAnyH_ready (rs := [20]) (by kernel_rfl) (by simp) ?_
          refine AllReadyH.cons (o := ?sO4) ?sA4 (fun K hK => ?sB4) ?sC4
          case sA4 => (first | (simp only [List.getElem?_toArray, List.getElem?_cons_succ, List.getElem?_cons_zero]; done) | (simp only [List.getElem?_toArray, List.getElem?_cons_succ, List.getElem?_cons_zero]; rfl))
          case sB4 =>
            go_simp
            have hbo5 : Below W.heap.size W (wo2.alloc (.cells #[.slice none 0 0, .int .i64 0, .slice none 0 0] 80)) := Below.alloc hbo2 (hbo2).size (.cells #[.slice none 0 0, .int .i64 0, .slice none 0 0] 80)
            have k8_5 : Blk (wo2.alloc (.cells #[.slice none 0 0, .int .i64 0, .slice none 0 0] 80)) (wo2.heap.size) 80 #[.slice none 0 0, .int .i64 0, .slice none 0 0] := blkNew (by simp)
            refine hK.out _ _ ?kS6 (fun hHeld => ?kR6)
            case kS6 => (try dsimp only); go_keep
            case kR6 =>
              clear hK K
              try simp only [Act.put, List.setIfInBounds_toArray, List.set_cons_zero, List.set_cons_succ]
              refine tk 21 (h := ?_)
              try simp only [pn]
              refine wpAnyH_ready (rs := [22]) (by kernel_rfl) (by simp) ?_
              refine AllReadyH.cons (o := ?sO7) ?sA7 (fun K hK => ?sB7) ?sC7
              case sA7 => (first | (simp only [List.getElem?_toArray, List.getElem?_cons_succ, List.getElem?_cons_zero]; done) | (simp only [List.getElem?_toArray, List.getElem?_cons_succ, List.getElem?_cons_zero]; rfl))
              case sB7 =>
                -- store 22
                have ng_8 : gt ≠ wo2.heap.size := by omega
                have no_8 : go ≠ wo2.heap.size := by omega
                have nx_8 : gx ≠ wo2.heap.size := by omega
                obtain ⟨e1_8, e2_8, e3_8, e4_8, e5_8, e6_8⟩ := blk3 k8_5
                have hq_8 := hHeld
                try dsimp only at hq_8
                obtain ⟨q0_8, q1_8, q2_8, q3_8, q4_8, q5_8⟩ := hq_8
                go_simp
                refine hK.out _ _ ?kS9 (fun hHeld => ?kR9)
                case kS9 => (try dsimp only); first | go_keep | exact ⟨cell_set3 (Ne.symm ng_8) q0_8, cell_set3 (Ne.symm no_8) q1_8, cell_set3 (Ne.symm no_8) q2_8, cell_set3 (Ne.symm nx_8) q3_8, cell_set3 (Ne.symm nx_8) q4_8, cell_set3 (Ne.symm nx_8) q5_8⟩
                case kR9 =>
                  clear hK K
                  try simp only [Act.put, List.setIfInBounds_toArray, List.set_cons_zero, List.set_cons_succ]
                  refine tk 23 (h := ?_)
                  try simp only [pn]
                  refine wpAnyH_done (by kernel_rfl) ?_ _
                  refine NoPanic.normal ?_
                  go_wp2_with fail
                  clear hHeld
                  go_meet
                  have hbf := Below.alloc hbo2 (Below.size hbo2) (.cells #[.slice Ar R cr, .int .i64 (M : Nat), .slice Ap np cp] 80)
                  exact ⟨wo2.heap.size, At, ct, rfl, rfl, rfl, by omega, hbf, Blk.new _ _ _, hat, hTs.cle_ (cle_below (balloc _ _))⟩
              case sC7 =>
                exact AllReadyH.nil
          case sC4 =>
            exact AllReadyH.nil
      case sC1 =>
        refine AllReadyH.cons (o := ?sO10) ?sA10 (fun K hK => ?sB10) ?sC10
        case sA10 => (first | (simp only [List.getElem?_toArray, List.getElem?_cons_succ, List.getElem?_cons_zero]; done) | (simp only [List.getElem?_toArray, List.getElem?_cons_succ, List.getElem?_cons_zero]; rfl))
        case sB10 =>
          go_simp
          have hbo11 : Below W.heap.size W (W.alloc (.cells #[.slice none 0 0, .int .i64 0, .slice none 0 0] 80)).drew := Below.alloc hb0 (hb0).size (.cells #[.slice none 0 0, .int .i64 0, .slice none 0 0] 80)
          have k8_11 : Blk (W.alloc (.cells #[.slice none 0 0, .int .i64 0, .slice none 0 0] 80)).drew (W.heap.size) 80 #[.slice none 0 0, .int .i64 0, .slice none 0 0] := blkNew (by simp)
          refine hK.out _ _ ?kS12 (fun hHeld => ?kR12)
          case kS12 => (try dsimp only); go_keep
          case kR12 =>
            clear hK K
            try simp only [Act.put, List.setIfInBounds_toArray, List.set_cons_zero, List.set_cons_succ]
            refine wpAnyH_ready (rs := [19]) (by kernel_rfl) (by simp) ?_
            refine AllReadyH.cons (o := ?sO13) ?sA13 (fun K hK => ?sB13) ?sC13
            case sA13 => (first | (simp only [List.getElem?_toArray, List.getElem?_cons_succ, List.getElem?_cons_zero]; done) | (simp only [List.getElem?_toArray, List.getElem?_cons_succ, List.getElem?_cons_zero]; rfl))
            case sB13 =>
              go_simp
              go_at_call 39; refine (HTS.out _ (HF1.out.below hbo11)).mono ?_; rintro e wo14 ⟨At, ct, rfl, hwo14, hat, hTs⟩
              have hbo14 : Below W.heap.size W wo14 := Below.trans hbo11 (Below.mono hwo14 (hbo11).size)
              have hz_14 := (hbo14).size
              have k8_14 := Blk.call k8_11 hwo14
              have lk8_14 := (k8_14).lt
              have s_14 : (fun w' => w'.cell? ⟨gt, 0, none⟩ = some (.pointer (some ⟨go, 0, none⟩)) ∧ w'.cell? ⟨go, 1, none⟩ = some (.int .i64 (m : Nat)) ∧ w'.cell? ⟨go, 2, none⟩ = some (.slice (some ⟨gx, 0, none⟩) N N) ∧ w'.cell? ⟨gx, i * 3, none⟩ = some (.slice Ar R cr) ∧ w'.cell? ⟨gx, i * 3 + 1, none⟩ = some (.int .i64 (M : Nat)) ∧ w'.cell? ⟨gx, i * 3 + 2, none⟩ = some (.slice Ap np cp)) wo14 := ⟨(Below.cell hbo14 (p := ⟨gt, 0, none⟩) lt_).trans y0, (Below.cell hbo14 (p := ⟨go, 1, none⟩) lo_).trans y1, (Below.cell hbo14 (p := ⟨go, 2, none⟩) lo_).trans y2, (Below.cell hbo14 (p := ⟨gx, i * 3, none⟩) lx_).trans y3, (Below.cell hbo14 (p := ⟨gx, i * 3 + 1, none⟩) lx_).trans y4, (Below.cell hbo14 (p := ⟨gx, i * 3 + 2, none⟩) lx_).trans y5⟩
              try go_wp2_with fail
              refine hK.out _ _ ?kS15 (fun hHeld => ?kR15)
              case kS15 => (try dsimp only); exact s_14
              case kR15 =>
                clear hK K
                try simp only [Act.put, List.setIfInBounds_toArray, List.set_cons_zero, List.set_cons_succ]
                refine tk 21 (h := ?_)
                try simp only [pn]
                refine wpAnyH_ready (rs := [22]) (by kernel_rfl) (by simp) ?_
                refine AllReadyH.cons (o := ?sO16) ?sA16 (fun K hK => ?sB16) ?sC16
                case sA16 => (first | (simp only [List.getElem?_toArray, List.getElem?_cons_succ, List.getElem?_cons_zero]; done) | (simp only [List.getElem?_toArray, List.getElem?_cons_succ, List.getElem?_cons_zero]; rfl))
                case sB16 =>
                  -- store 22
                  have ng_17 : gt ≠ W.heap.size := by omega
                  have no_17 : go ≠ W.heap.size := by omega
                  have nx_17 : gx ≠ W.heap.size := by omega
                  obtain ⟨e1_17, e2_17, e3_17, e4_17, e5_17, e6_17⟩ := blk3 k8_14
                  have hq_17 := hHeld
                  try dsimp only at hq_17
                  obtain ⟨q0_17, q1_17, q2_17, q3_17, q4_17, q5_17⟩ := hq_17
                  go_simp
                  refine hK.out _ _ ?kS18 (fun hHeld => ?kR18)
                  case kS18 => (try dsimp only); first | go_keep | exact ⟨cell_set3 (Ne.symm ng_17) q0_17, cell_set3 (Ne.symm no_17) q1_17, cell_set3 (Ne.symm no_17) q2_17, cell_set3 (Ne.symm nx_17) q3_17, cell_set3 (Ne.symm nx_17) q4_17, cell_set3 (Ne.symm nx_17) q5_17⟩
                  case kR18 =>
                    clear hK K
                    try simp only [Act.put, List.setIfInBounds_toArray, List.set_cons_zero, List.set_cons_succ]
                    refine tk 23 (h := ?_)
                    try simp only [pn]
                    refine wpAnyH_done (by kernel_rfl) ?_ _
                    refine NoPanic.normal ?_
                    go_wp2_with fail
                    clear hHeld
                    go_meet
                    have hbf := below_set3 (x := .slice Ar R cr) (y := .int .i64 (M : Nat)) (z := .slice Ap np cp) hbo14 (show W.heap.size ≤ W.heap.size by omega)
                    exact ⟨W.heap.size, At, ct, rfl, rfl, rfl, by omega, hbf, blk_set3 k8_14, fun a e => Nat.le_trans (balloc _ _).size (hat a e), ts_off3 k8_14 hTs (fun a e e2 => by have := hat a e; rw [e2] at this; simp at this; omega)⟩
                case sC16 =>
                  exact AllReadyH.nil
            case sC13 =>
              exact AllReadyH.nil
        case sC10 =>
          exact AllReadyH.nil
  case rest =>
    obtain ⟨g8, At, ct, rfl, rfl, rfl, hg8, hbc, hB8, hat, hTc⟩ := hcut
    have hFc := HF1.out.below hbc
    have hAc := HAW.out.call hbc
    have hBc := HB0.out.call hbc
    have hbwc : Below w.heap.size w wc := bthen HBW.out hbc
    have hwwc : w.heap.size ≤ wc.heap.size := hbwc.size
    have hTs : TsF m (hx wc [ga]) At zs.length (zOf zs) := ⟨hAc.offR (by rw [hx_nil]; exact hTc.1) (fun a e => by have := hat a e; omega), hTc.2⟩
    obtain ⟨wl1, wl2, wl3⟩ := last_is hs
    have HAL : Hid (∀ X, Wr [ga] wc X → Sat F X ∧ NodesF (hx X [ga]) Ar R (a.flat 0) ∧ TsF m (hx X [ga]) At zs.length (zOf zs) ∧ CLe F (hx X [ga])) := Lib.hid (fun X hX => ⟨hX.sat hFc HG.out, x2.cle (cle_hx (hX.sat hFc HG.out) HG.out), hTs.cle_ hX.cle, cle_hx (hX.sat hFc HG.out) HG.out⟩)
    have HNX : Hid (∀ X, Wr [ga] wc X → ∀ K : Nat, Calls Try.prog 41 #[.int .i64 (m : Nat), .slice Ar R cr, .int .i64 (K : Nat), .slice At zs.length ct] X (RetNx m M X (stateO (zOf zs) a K).1)) := Lib.hid (fun X hX K => by
      obtain ⟨_, h2, h3, _⟩ := HAL.out X hX
      have := onext_w (sat_hx X [ga]) m hm a hva hra (by rw [HR.out]; exact has) Ar cr (by rw [HR.out]; exact h2) At zs.length ct hzl (zOf zs) h3 K
      rw [HR.out, HM.out] at this; exact this)
    have HEN : Hid (∀ X, Wr [ga] wc X → ∀ K : Nat, Calls Try.prog 42 #[.int .i64 (m : Nat), .slice Ar R cr, .int .i64 (K : Nat), .slice At zs.length ct] X (RetEn m X (stateO (zOf zs) a K).2)) := Lib.hid (fun X hX K => by
      obtain ⟨_, h2, h3, _⟩ := HAL.out X hX
      have := oends_w (sat_hx X [ga]) m hm a hva hra (by rw [HR.out]; exact has) Ar cr (by rw [HR.out]; exact h2) At zs.length ct hzl (zOf zs) h3 K
      rw [HR.out] at this; exact this)
    have HZR : Hid (∀ X, Wr [ga] wc X → Calls Try.prog 48 #[.int .i64 (m : Nat), .slice Ar R cr, .slice At zs.length ct] X (RetEn m X (stateO (zOf zs) a 0).2)) := Lib.hid (fun X hX => by
      obtain ⟨_, h2, h3, _⟩ := HAL.out X hX
      have := ozero_w (sat_hx X [ga]) m hm a hva hra (by rw [HR.out]; exact has) Ar cr (by rw [HR.out]; exact h2) At zs.length ct hzl (zOf zs) h3
      rw [HR.out] at this; exact this)
    have hM1 : M ≤ 1000 := by omega
    have HLT : Hid (∀ X, Wr [ga] wc X → ∀ c : Nat, c < wideN h → ∀ (An : Option Addr) (cn : Nat) (z : Nat → Fn), RwF m (hx X [ga]) An M z → Calls Try.prog 46 #[.pointer (some ⟨gt, 0, none⟩), .int .i64 (i : Nat), .int .i64 (c : Nat), .slice An M cn] X (RetQL m X (laterF M P (wideN h) c z))) := Lib.hid (fun X hX c hc An cn z hz => by
      obtain ⟨_, _, _, h4⟩ := HAL.out X hX
      have := olater_w (sat_hx X [ga]) m hm N gt go gx gw ga gr Al cl d hcl (HT.out.cle h4) l hn (HL.out.cle h4) HTR.out HFM.out i hi HX.out h17 c hc (by rw [HM.out, HP.out]; exact hmm) An cn (by rw [HM.out]; exact hM1) z (by rw [HM.out]; exact hz)
      rw [HM.out, HP.out] at this; exact this)
    have HPL : Hid (∀ X, Wr [ga] wc X → ∀ K c : Nat, 1 ≤ K → K ≤ M → c < wideN h → Calls Try.prog 47 #[.slice Al N cl, .int .i64 (i : Nat), .int .i64 (K : Nat), .int .i64 (c : Nat)] X fun e w' => e = .returned (.int .i64 ((P + ((K - 1) * wideN h + c) : Nat) : Int)) ∧ Below X.heap.size X w') := Lib.hid (fun X hX K c h1 h2 hc => by
      obtain ⟨h3, _, _, h4⟩ := HAL.out X hX
      have e : ((K : Nat) : Int) = ((K - 1 : Nat) : Int) + 1 := by omega
      rw [e]
      refine aplace_w h3 l hn Al N cl hcl HL.out (i : Nat) (((K - 1 : Nat) : Int) + 1) (c : Nat) _ ?_
      rw [place_some HTR.out HFM.out hi HX.out h17 (by rw [HM.out]; omega) hc, HP.out, Nat.add_assoc])
    have HLM : Hid (∀ K c : Nat, 1 ≤ K → K ≤ M → c < wideN h → P + ((K - 1) * wideN h + c) < m) := Lib.hid (fun K c h1 h2 hc => by
      have : (K - 1 + 1) * wideN h ≤ M * wideN h := Nat.mul_le_mul_right _ (by omega)
      rw [Nat.add_mul, Nat.one_mul] at this
      omega)
    have HWD := Lib.hid (fun X => wide_w h hs X)
    have HLA : Hid (∀ c : Nat, c ≤ 10000 → ∀ X, Calls Try.prog 45 #[.agg #[.int .i64 h.lo, .int .i64 h.hi], .int .i64 (c : Nat), .int .u64 (d : Nat)] X fun e w' => e = .returned (.int .i64 (laterV h c d)) ∧ Below X.heap.size X w') := Lib.hid (fun c hc X => later_w h hs c d hd (by omega) X)
    have HIN : Hid (∀ c : Nat, c ≤ 10000 → ∀ X, Calls Try.prog 43 #[.agg #[.int .i64 h.lo, .int .i64 h.hi], .int .i64 (c : Nat)] X fun e w' => e = .returned (.bool (inC h c)) ∧ Below X.heap.size X w') := Lib.hid (fun c hc X => iin_w h hs c (by omega) X)
    have HNO := Lib.hid (fun (X : World) => ql_no hm (w := X))
    have HOR := Lib.hid (fun (X : World) (v v' : Value) (p q : Nat → Bool) (h : Wd m X v p) (h' : Wd m X v' q) => ql_or hm h h')
    have HW1 : Hid (∀ c c', laterC h c d = some c' → c' < wideN h) := Lib.hid (fun c c' e => by have := later_le e; omega)
    have hWb : wideN h ≤ 10000 := by omega
    have hW0 : 0 < wideN h := by omega
    have HTT := Lib.hid (show F.cell ⟨gt, 0, none⟩ = some (.pointer (some ⟨go, 0, none⟩)) ∧ F.cell ⟨gt, 1, none⟩ = some (.int .u64 (d : Nat)) ∧ F.cell ⟨gt, 4, none⟩ = some (.slice (some ⟨ga, 0, none⟩) m m) ∧ F.cell ⟨go, 0, none⟩ = some (.slice Al N cl) from ⟨HT.out.o, HT.out.d, HT.out.ahead, HT.out.l⟩)
    have hne8 : g8 ∉ [ga] := by simp; omega
    have hneb : w.heap.size ∉ [ga] := by simp; omega
    have hgl : ga < wc.heap.size := by omega
    generalize wideN h = Wd at *
    clear hTs hTc x2 hva hra has wl1 wl2 wl3 hmm hat hs hcl hd hsN hzl hi hn HT HL HTR HX HFM HTS HF1 HAW HB0 HBW HFF h17
    go_wp2_with fail
    go_loopw [10, 11, 12, 13, 14, 15] (fun v10 _ _ _ _ _ wr => ∃ K : Nat, 1 ≤ K ∧ K ≤ M + 1 ∧ v10 = .int .i64 (K : Nat) ∧ Wr [ga] wc wr ∧ RowA m m [ga] 49 wr ga (FW ((K - 1) * Wd))) (fun v10 _ _ _ _ _ _ => M + 1 - (intOf v10).toNat)
    case atStart => exact ⟨1, Nat.le_refl _, by omega, rfl, Wr.refl _ _, by rw [show (1 - 1) * Wd = 0 by simp, HF0.out]; exact hAc⟩
    case round =>
      obtain ⟨K, hK1, hKM, rfl, hwr, hAr⟩ := hrel
      have hB8r := hwr.blk hB8 hne8
      obtain ⟨k0, k1, k2, _, _, _⟩ := blk3 hB8r
      have hl8 := hB8r.lt
      by_cases hKl : K ≤ M
      · have hKI : (K : Int) ≤ (M : Int) := by omega
        go_wp2_with fail
        go_region_held3 (fun w' => w'.cell? ⟨g8, 0, none⟩ = some (.slice Ar R cr)) (go_keep)
          (first
            | (go_at_call 42; refine (HEN.out _ (by first | exact hw2 | exact wr_eqv hw2 rfl rfl rfl rfl) K).mono ?_; rintro e w3 ⟨v3, rfl, hb3', hE3⟩; have hb3 : Below w2.heap.size w2 w3 := (by refine bel_trans ?_ hb3'; exact bel_eqv (Below.refl _ w2) rfl rfl rfl rfl); have s3 := (hb3.cell (p := ⟨g8, 0, none⟩) hl82).trans s2)
            | (go_at_call 41; refine (HNX.out _ (by first | exact hwr | exact wr_eqv hwr rfl rfl rfl rfl) K).mono ?_; intro e w2 hr2; obtain ⟨g2, rfl, hg2', hb2', hR2⟩ := retNx_row hr2; have hb2 : Below wr.heap.size wr w2 := (by refine bel_trans ?_ hb2'; exact bel_eqv (Below.refl _ wr) rfl rfl rfl rfl); have hw2 := hwr.call hb2; have hl82 : g8 < w2.heap.size := Nat.lt_of_lt_of_le hl8 hb2.size; have s2 := (hb2.cell (p := ⟨g8, 0, none⟩) hl8).trans k0))
        all_goals
          have hB3 : Below wr.heap.size wr w3 := bthen hb2 hb3
          have hA3 := hAr.call hB3
          have hw3 := hwr.call hB3
          have hg2 : wr.heap.size ≤ g2 := hg2'
          have hN3 : RwF m (hx w3 [ga]) (some ⟨g2, 0, none⟩) M (stateO (zOf zs) a K).1 := hA3.offR (by rw [hx_nil]; exact RwF.cle hR2 (cle_below hb3)) (fun a e => by injection e with e; rw [← e]; show g2 ≠ ga; have := hwr.size; omega)
          have hE3g : WdF m (hx w3 [ga]) v3 (stateO (zOf zs) a K).2 := (hA3.offG (by rw [hx_nil]; exact hE3)).wd
          obtain ⟨b0, b1, _, _⟩ := blkA (hw3.blk hBc hneb)
          clear hR2 hE3 hr2 hB3 hb2 hb3 hb2' hb3' hAr s2 s3 k0 k1 k2 hB8r
          go_wp2_with (go_at_call 44; refine (HWD.out _).mono ?_; rintro e w4 ⟨rfl, hb4⟩)
          have hw4 := hw3.call hb4
          have hA4 := hA3.call hb4
          have hN4 := RwF.cle hN3 (Wr.of_below (Gs := [ga]) hb4).cle
          have hE4 := hE3g.cle (Wr.of_below (Gs := [ga]) hb4).cle
          have HN4 := Lib.hid hN4
          have HE4 := Lib.hid hE4
          clear hN3 hE3g hA3 hw3 hb4 b0 b1 hN4 hE4 hg2 hg2' hw2
          go_loopw [13, 14, 15, 57] (fun _ _ _ v57 wr => ∃ c : Nat, c ≤ Wd ∧ v57 = .int .i64 (c : Nat) ∧ Wr [ga] w4 wr ∧ RowA m m [ga] 49 wr ga (FW ((K - 1) * Wd + c))) (fun _ _ _ v57 _ => Wd - (intOf v57).toNat)
          case atStart => exact ⟨0, Nat.zero_le _, rfl, Wr.refl _ _, by rw [Nat.add_zero]; exact hA4⟩
          case round =>
            obtain ⟨c, hcW, rfl, hwx, hAx⟩ := hrel
            have hX := hw4.trans hwx
            by_cases hcl : c < Wd
            · have hcI : (c : Int) < (Wd : Int) := by omega
              have hFx := (HAL.out _ hX).1
              obtain ⟨t0, t1, t4, o0⟩ := HTT.out
              have hNx := RwF.cle HN4.out hwx.cle
              have hEx := HE4.out.cle hwx.cle
              have hgr : ∀ g, g ∈ [ga] → g < wr.heap.size := fun g hg => by simp at hg; rw [hg]; have := hX.size; omega
              obtain ⟨J, hJ⟩ : ∃ J, P + ((K - 1) * Wd + c) = J := ⟨_, rfl⟩
              have hJm := HLM.out K c hK1 hKl hcl
              rw [hJ] at hJm
              have hJI : (J : Int) < (m : Int) := by omega
              have HPJ : Hid (∀ X, Wr [ga] wc X → Calls Try.prog 47 #[.slice Al N cl, .int .i64 (i : Nat), .int .i64 (K : Nat), .int .i64 (c : Nat)] X fun e w' => e = .returned (.int .i64 (J : Nat)) ∧ Below X.heap.size X w') := Lib.hid (fun X h => hJ ▸ HPL.out X h K c hK1 hKl hcl)
              have HJS : Hid ((fun q => if q = J then AH K c else FW ((K - 1) * Wd + c) q) = FW ((K - 1) * Wd + (c + 1))) := Lib.hid (by have := HFS.out (K - 1) c hcl; rw [show K - 1 + 1 = K by omega, hJ] at this; exact this)
              clear hJ
              cases hlc : laterC h c d with
              | none =>
                have hV : laterV h c d = -1 := by unfold laterV; rw [hlc]
                have HLc := HLA.out c (by omega)
                rw [hV] at HLc
                have HLC := Lib.hid HLc
                clear HLc hV
                go_wp2_with (go_at_call 25; refine (HNO.out _).mono ?_; intro e w5 hr5; obtain ⟨v5, rfl, hb5, hW5⟩ := hr5.hx (Gs := [ga]) hgr; obtain ⟨_, A5, c5, rfl, _⟩ := id hW5)
                have hX5 := hX.call hb5
                obtain ⟨b0, b1, _, _⟩ := blkA (hX5.blk hBc hneb)
                have z1 := (hFx.below hb5).cell t1
                have l1 : gt < w5.heap.size := (hFx.below hb5).clt t1
                have lb : w.heap.size < w5.heap.size := (hX5.blk hBc hneb).lt
                go_region_held3 (fun w' => w'.cell? ⟨w.heap.size, 0, none⟩ = some (.int .i64 h.lo) ∧ w'.cell? ⟨w.heap.size, 1, none⟩ = some (.int .i64 h.hi) ∧ w'.cell? ⟨gt, 1, none⟩ = some (.int .u64 (d : Nat))) (go_keep)
                  (first | (go_at_call 45; refine (HLC.out _).mono ?_; rintro e w6 ⟨rfl, hb6'⟩; have hb6 : Below w5.heap.size w5 w6 := (by refine bel_trans ?_ hb6'; exact bel_eqv (Below.refl _ w5) rfl rfl rfl rfl); have s0 := (hb6.cell (p := ⟨w.heap.size, 0, none⟩) lb).trans b0; have s1 := (hb6.cell (p := ⟨w.heap.size, 1, none⟩) lb).trans b1; have s2 := (hb6.cell (p := ⟨gt, 1, none⟩) l1).trans z1))
                all_goals
                  go_wp2_with fail
                  have hBI := bthen hb5 hb6
                  have hWI := (hW5.cle (Wr.of_below (Gs := [ga]) hb6).cle).same fun x _ => HAN.out K c hlc x
                  clear hW5 hb5 hb6 hb6' s0 s1 s2 hX5 b0 b1 z1
                  obtain ⟨wI, hwI⟩ : ∃ wI, wI = w6 := ⟨_, rfl⟩
                  subst hwI
                  have hXI := hX.call hBI
                  have hAI := hAx.call hBI
                  have hFI := hFx.below hBI
                  have z0 := hFI.cell t0
                  have z4 := hFI.cell t4
                  have zl := hFI.cell o0
                  have lt0 : gt < wI.heap.size := hFI.clt t0
                  have lo0 : go < wI.heap.size := hFI.clt o0
                  have hne := HGT.out
                  go_region_held3 (fun w' => w'.cell? ⟨gt, 4, none⟩ = some (.slice (some ⟨ga, 0, none⟩) m m) ∧ w'.cell? ⟨gt, 0, none⟩ = some (.pointer (some ⟨go, 0, none⟩)) ∧ w'.cell? ⟨go, 0, none⟩ = some (.slice Al N cl)) (first | go_keep | exact ⟨cell_set_ne q0 s0, cell_set_ne q1 s1, cell_set_ne q2 s2⟩)
                    (first | (go_at_call 47; refine (HPJ.out _ (by first | exact hXI | exact wr_eqv hXI rfl rfl rfl rfl)).mono ?_; rintro e wp ⟨rfl, hbp'⟩; have hbp : Below wI.heap.size wI wp := (by refine bel_trans ?_ hbp'; exact bel_eqv (Below.refl _ wI) rfl rfl rfl rfl); have s0 := (hbp.cell (p := ⟨gt, 4, none⟩) lt0).trans z4; have s1 := (hbp.cell (p := ⟨gt, 0, none⟩) lt0).trans z0; have s2 := (hbp.cell (p := ⟨go, 0, none⟩) lo0).trans zl; have hAp := hAI.call hbp; have fp := hAp.soft J; obtain ⟨vz, zp, _⟩ := hAp.at_ hJm; have q0 : (⟨ga, J, none⟩ : Addr) ≠ ⟨gt, 4, none⟩ := (fun e => hne.1 (congrArg Addr.block e)); have q1 : (⟨ga, J, none⟩ : Addr) ≠ ⟨gt, 0, none⟩ := (fun e => hne.1 (congrArg Addr.block e)); have q2 : (⟨ga, J, none⟩ : Addr) ≠ ⟨go, 0, none⟩ := (fun e => hne.2 (congrArg Addr.block e))))
                  all_goals
                    have hset := hAp.set (g := ga) (by simp) hJm ((hWI.cle (Wr.of_below (Gs := [ga]) hbp).cle).wd)
                    rw [HJS.out] at hset
                    have hwp := (hwx.call (bthen hBI hbp)).set (g := ga) (by simp) J (.slice A5 (wordsN m) c5)
                    clear s0 s1 s2 q0 q1 q2 fp zp hAp hWI
                    go_wp2_with fail
                    go_roundw
                    case rel => exact ⟨c + 1, by omega, by go_num, hwp, hset⟩
                    case measure => simp [intOf]; omega
              | some c' =>
                have hc' := HW1.out c c' hlc
                have hc'b : c' ≤ 10000 := by omega
                have hc'I : (0 : Int) ≤ (c' : Int) := by omega
                have hV : laterV h c d = (c' : Nat) := by unfold laterV; rw [hlc]
                have HLc := HLA.out c (by omega)
                rw [hV] at HLc
                have HLC := Lib.hid HLc
                clear HLc hV
                go_wp2_with (go_at_call 25; refine (HNO.out _).mono ?_; intro e w5 hr5; obtain ⟨v5, rfl, hb5, hW5⟩ := hr5.hx (Gs := [ga]) hgr; obtain ⟨_, A5, c5, rfl, _⟩ := id hW5)
                have hX5 := hX.call hb5
                obtain ⟨b0, b1, _, _⟩ := blkA (hX5.blk hBc hneb)
                have z1 := (hFx.below hb5).cell t1
                have l1 : gt < w5.heap.size := (hFx.below hb5).clt t1
                have lb : w.heap.size < w5.heap.size := (hX5.blk hBc hneb).lt
                go_region_held3 (fun w' => w'.cell? ⟨w.heap.size, 0, none⟩ = some (.int .i64 h.lo) ∧ w'.cell? ⟨w.heap.size, 1, none⟩ = some (.int .i64 h.hi) ∧ w'.cell? ⟨gt, 1, none⟩ = some (.int .u64 (d : Nat))) (go_keep)
                  (first | (go_at_call 45; refine (HLC.out _).mono ?_; rintro e w6 ⟨rfl, hb6'⟩; have hb6 : Below w5.heap.size w5 w6 := (by refine bel_trans ?_ hb6'; exact bel_eqv (Below.refl _ w5) rfl rfl rfl rfl); have s0 := (hb6.cell (p := ⟨w.heap.size, 0, none⟩) lb).trans b0; have s1 := (hb6.cell (p := ⟨w.heap.size, 1, none⟩) lb).trans b1; have s2 := (hb6.cell (p := ⟨gt, 1, none⟩) l1).trans z1))
                all_goals
                  have hX6 := hX5.call hb6
                  have hb56 := bthen hb5 hb6
                  have hN6 := RwF.cle hNx (Wr.of_below (Gs := [ga]) hb56).cle
                  have hE6 := hEx.cle (Wr.of_below (Gs := [ga]) hb56).cle
                  clear s0 s1 s2 b0 b1 z1 hW5
                  cases hin : inC h c' with
                  | false =>
                    have HIc := HIN.out c' hc'b
                    rw [hin] at HIc
                    have HIC := Lib.hid HIc
                    clear HIc
                    go_wp2_with (first
                      | (go_at_call 46; refine (HLT.out _ hX6 c' hc' _ _ _ hN6).mono ?_; intro e w7 hr7; obtain ⟨v7, rfl, hb7, hW7⟩ := hr7.hx (Gs := [ga]) (fun g hg => Nat.lt_of_lt_of_le (hgr g hg) hb56.size); obtain ⟨_, A7, c7, rfl, _⟩ := id hW7; obtain ⟨b0, b1, _, _⟩ := blkA ((hX6.call hb7).blk hBc hneb))
                      | (go_at_call 43; refine (HIC.out _).mono ?_; rintro e w8 ⟨rfl, hb8⟩))
                    have hBI := bthen (bthen hb56 hb7) hb8
                    have hWI := (hW7.cle (Wr.of_below (Gs := [ga]) hb8).cle).same (q := AH K c) fun x _ => by rw [← HAS.out K c c' hlc x, hin, Bool.false_and, Bool.or_false]
                    clear hW7 hb7 hb8 b0 b1 hb56 hb5 hb6 hb6' hX5 hX6 hN6 hE6 hr7
                    obtain ⟨wI, hwI⟩ : ∃ wI, wI = w8 := ⟨_, rfl⟩
                    subst hwI
                    have hXI := hX.call hBI
                    have hAI := hAx.call hBI
                    have hFI := hFx.below hBI
                    have z0 := hFI.cell t0
                    have z4 := hFI.cell t4
                    have zl := hFI.cell o0
                    have lt0 : gt < wI.heap.size := hFI.clt t0
                    have lo0 : go < wI.heap.size := hFI.clt o0
                    have hne := HGT.out
                    go_region_held3 (fun w' => w'.cell? ⟨gt, 4, none⟩ = some (.slice (some ⟨ga, 0, none⟩) m m) ∧ w'.cell? ⟨gt, 0, none⟩ = some (.pointer (some ⟨go, 0, none⟩)) ∧ w'.cell? ⟨go, 0, none⟩ = some (.slice Al N cl)) (first | go_keep | exact ⟨cell_set_ne q0 s0, cell_set_ne q1 s1, cell_set_ne q2 s2⟩)
                      (first | (go_at_call 47; refine (HPJ.out _ (by first | exact hXI | exact wr_eqv hXI rfl rfl rfl rfl)).mono ?_; rintro e wp ⟨rfl, hbp'⟩; have hbp : Below wI.heap.size wI wp := (by refine bel_trans ?_ hbp'; exact bel_eqv (Below.refl _ wI) rfl rfl rfl rfl); have s0 := (hbp.cell (p := ⟨gt, 4, none⟩) lt0).trans z4; have s1 := (hbp.cell (p := ⟨gt, 0, none⟩) lt0).trans z0; have s2 := (hbp.cell (p := ⟨go, 0, none⟩) lo0).trans zl; have hAp := hAI.call hbp; have fp := hAp.soft J; obtain ⟨vz, zp, _⟩ := hAp.at_ hJm; have q0 : (⟨ga, J, none⟩ : Addr) ≠ ⟨gt, 4, none⟩ := (fun e => hne.1 (congrArg Addr.block e)); have q1 : (⟨ga, J, none⟩ : Addr) ≠ ⟨gt, 0, none⟩ := (fun e => hne.1 (congrArg Addr.block e)); have q2 : (⟨ga, J, none⟩ : Addr) ≠ ⟨go, 0, none⟩ := (fun e => hne.2 (congrArg Addr.block e))))
                    all_goals
                      have hset := hAp.set (g := ga) (by simp) hJm ((hWI.cle (Wr.of_below (Gs := [ga]) hbp).cle).wd)
                      rw [HJS.out] at hset
                      have hwp := (hwx.call (bthen hBI hbp)).set (g := ga) (by simp) J (.slice A7 (wordsN m) c7)
                      clear s0 s1 s2 q0 q1 q2 fp zp hAp hWI
                      go_wp2_with fail
                      go_roundw
                      case rel => exact ⟨c + 1, by omega, by go_num, hwp, hset⟩
                      case measure => simp [intOf]; omega
                  | true =>
                    have HIc := HIN.out c' hc'b
                    rw [hin] at HIc
                    have HIC := Lib.hid HIc
                    clear HIc
                    go_wp2_with (first
                      | (go_at_call 22; refine (HOR.out _ _ _ _ _ ((hW7.wd.cle (Wr.of_below (Gs := [ga]) hb8).cle).cle (sat_hx w8 [ga]).cle) ((hE6.cle (Wr.of_below (Gs := [ga]) (bthen hb7 hb8)).cle).cle (sat_hx w8 [ga]).cle)).mono ?_; intro e w9 hr9; obtain ⟨v9, rfl, hb9, hW9⟩ := hr9.hx (Gs := [ga]) (fun g hg => Nat.lt_of_lt_of_le (hgr g hg) (bthen (bthen hb56 hb7) hb8).size); obtain ⟨_, A9, c9, rfl, _⟩ := id hW9)
                      | (go_at_call 46; refine (HLT.out _ hX6 c' hc' _ _ _ hN6).mono ?_; intro e w7 hr7; obtain ⟨v7, rfl, hb7, hW7⟩ := hr7.hx (Gs := [ga]) (fun g hg => Nat.lt_of_lt_of_le (hgr g hg) hb56.size); obtain ⟨_, A7, c7, rfl, _⟩ := id hW7; obtain ⟨b0, b1, _, _⟩ := blkA ((hX6.call hb7).blk hBc hneb))
                      | (go_at_call 43; refine (HIC.out _).mono ?_; rintro e w8 ⟨rfl, hb8⟩))
                    have hBI := bthen (bthen (bthen hb56 hb7) hb8) hb9
                    have hWI := hW9.same (q := AH K c) fun x _ => by rw [← HAS.out K c c' hlc x, hin, Bool.true_and]
                    clear hW7 hW9 hb7 hb8 hb9 b0 b1 hb56 hb5 hb6 hb6' hX5 hX6 hN6 hE6 hr7 hr9
                    obtain ⟨wI, hwI⟩ : ∃ wI, wI = w9 := ⟨_, rfl⟩
                    subst hwI
                    have hXI := hX.call hBI
                    have hAI := hAx.call hBI
                    have hFI := hFx.below hBI
                    have z0 := hFI.cell t0
                    have z4 := hFI.cell t4
                    have zl := hFI.cell o0
                    have lt0 : gt < wI.heap.size := hFI.clt t0
                    have lo0 : go < wI.heap.size := hFI.clt o0
                    have hne := HGT.out
                    go_region_held3 (fun w' => w'.cell? ⟨gt, 4, none⟩ = some (.slice (some ⟨ga, 0, none⟩) m m) ∧ w'.cell? ⟨gt, 0, none⟩ = some (.pointer (some ⟨go, 0, none⟩)) ∧ w'.cell? ⟨go, 0, none⟩ = some (.slice Al N cl)) (first | go_keep | exact ⟨cell_set_ne q0 s0, cell_set_ne q1 s1, cell_set_ne q2 s2⟩)
                      (first | (go_at_call 47; refine (HPJ.out _ (by first | exact hXI | exact wr_eqv hXI rfl rfl rfl rfl)).mono ?_; rintro e wp ⟨rfl, hbp'⟩; have hbp : Below wI.heap.size wI wp := (by refine bel_trans ?_ hbp'; exact bel_eqv (Below.refl _ wI) rfl rfl rfl rfl); have s0 := (hbp.cell (p := ⟨gt, 4, none⟩) lt0).trans z4; have s1 := (hbp.cell (p := ⟨gt, 0, none⟩) lt0).trans z0; have s2 := (hbp.cell (p := ⟨go, 0, none⟩) lo0).trans zl; have hAp := hAI.call hbp; have fp := hAp.soft J; obtain ⟨vz, zp, _⟩ := hAp.at_ hJm; have q0 : (⟨ga, J, none⟩ : Addr) ≠ ⟨gt, 4, none⟩ := (fun e => hne.1 (congrArg Addr.block e)); have q1 : (⟨ga, J, none⟩ : Addr) ≠ ⟨gt, 0, none⟩ := (fun e => hne.1 (congrArg Addr.block e)); have q2 : (⟨ga, J, none⟩ : Addr) ≠ ⟨go, 0, none⟩ := (fun e => hne.2 (congrArg Addr.block e))))
                    all_goals
                      have hset := hAp.set (g := ga) (by simp) hJm ((hWI.cle (Wr.of_below (Gs := [ga]) hbp).cle).wd)
                      rw [HJS.out] at hset
                      have hwp := (hwx.call (bthen hBI hbp)).set (g := ga) (by simp) J (.slice A9 (wordsN m) c9)
                      clear s0 s1 s2 q0 q1 q2 fp zp hAp hWI
                      go_wp2_with fail
                      go_roundw
                      case rel => exact ⟨c + 1, by omega, by go_num, hwp, hset⟩
                      case measure => simp [intOf]; omega
            · obtain rfl : c = Wd := by omega
              go_wp2_with fail
              go_roundw
              case rel => exact ⟨K + 1, by omega, by omega, by go_num, hX, by rw [show (K + 1 - 1) * c = (K - 1) * c + c by rw [show K + 1 - 1 = K - 1 + 1 by omega, Nat.add_mul, Nat.one_mul]]; exact hAx⟩
              case measure => simp [intOf]; omega
      · obtain rfl : K = M + 1 := by omega
        have hdec : decide (((M + 1 : Nat) : Int) ≤ (M : Int)) = false := decide_eq_false (by omega)
        rw [show M + 1 - 1 = M by omega, HFD.out] at hAr
        have hFx := (HAL.out _ hwr).1
        have hww := (Wr.of_below (Gs := [ga]) hbwc).trans hwr
        have HNX0 : Hid (∀ X, Wr [ga] wc X → Calls Try.prog 41 #[.int .i64 (m : Nat), .slice Ar R cr, .int .i64 0, .slice At zs.length ct] X (RetNx m M X (stateO (zOf zs) a 0).1)) := Lib.hid (fun X hX => HNX.out X hX 0)
        have HLT0 : Hid (∀ X, Wr [ga] wc X → ∀ (An : Option Addr) (cn : Nat) (z : Nat → Fn), RwF m (hx X [ga]) An M z → Calls Try.prog 46 #[.pointer (some ⟨gt, 0, none⟩), .int .i64 (i : Nat), .int .i64 0, .slice An M cn] X (RetQL m X (laterF M P Wd 0 z))) := Lib.hid (fun X hX => HLT.out X hX 0 hW0)
        have hIc := HIN.out 0 (by omega)
        cases hin : inC h 0 with
        | false =>
          rw [hin] at hIc
          have HIC : Hid (∀ X, Calls Try.prog 43 #[.agg #[.int .i64 h.lo, .int .i64 h.hi], .int .i64 0] X fun e w' => e = .returned (.bool false) ∧ Below X.heap.size X w') := Lib.hid hIc
          clear hIc
          go_wp2_with (first
            | (go_at_call 46; refine (HLT0.out _ hw2 _ _ _ hN2).mono ?_; intro e w3 hr3; obtain ⟨v3, rfl, hb3, hW3⟩ := hr3.hx (Gs := ga :: Ys) (HYS.out _ ((hww.call hb2).size)); obtain ⟨b0, b1, _, _⟩ := blkA ((hw2.call hb3).blk hBc hneb))
            | (go_at_call 41; refine (HNX0.out _ hwr).mono ?_; intro e w2 hr2; obtain ⟨g2, rfl, hg2, hb2, hR2⟩ := retNx_row hr2; have hw2 := hwr.call hb2; have hA2 := hAr.call hb2; have hN2 : RwF m (hx w2 [ga]) (some ⟨g2, 0, none⟩) M (stateO (zOf zs) a 0).1 := hA2.offR (by rw [hx_nil]; exact hR2) (fun a e => by injection e with e; rw [← e]; show g2 ≠ ga; have := hwr.size; omega))
            | (go_at_call 43; refine (HIC.out _).mono ?_; rintro e w4 ⟨rfl, hb4⟩))
          go_ret
          exact ⟨_, rfl, ((hww.call hb2).call hb3).call hb4, (hW3.cle (Wr.of_below (Gs := ga :: Ys) hb4).cle).same fun x _ => by rw [← HFO.out x, hin, Bool.false_and, Bool.or_false], (hA2.call hb3).call hb4⟩
        | true =>
          rw [hin] at hIc
          have HIC : Hid (∀ X, Calls Try.prog 43 #[.agg #[.int .i64 h.lo, .int .i64 h.hi], .int .i64 0] X fun e w' => e = .returned (.bool true) ∧ Below X.heap.size X w') := Lib.hid hIc
          clear hIc
          go_wp2_with (first
            | (go_at_call 22; refine (HOR.out _ _ _ _ _ ((hW3.wd.cle (Wr.of_below (Gs := [ga]) (bthen hb4 hb5)).cle).cle (sat_hx w5 [ga]).cle) (hE5.wd)).mono ?_; intro e w6 hr6; obtain ⟨v6, rfl, hb6, hW6⟩ := hr6.hx (Gs := ga :: Ys) (HYS.out _ (((((hww.call hb2).call hb3).call hb4).call hb5).size)))
            | (go_at_call 48; refine (HZR.out _ ((hw2.call hb3).call hb4)).mono ?_; rintro e w5 ⟨v5, rfl, hb5, hE5⟩)
            | (go_at_call 46; refine (HLT0.out _ hw2 _ _ _ hN2).mono ?_; intro e w3 hr3; obtain ⟨v3, rfl, hb3, hW3⟩ := hr3.hx (Gs := [ga]) (fun g hg => by simp at hg; rw [hg]; exact hA2.lt); obtain ⟨b0, b1, _, _⟩ := blkA ((hw2.call hb3).blk hBc hneb))
            | (go_at_call 41; refine (HNX0.out _ hwr).mono ?_; intro e w2 hr2; obtain ⟨g2, rfl, hg2, hb2, hR2⟩ := retNx_row hr2; have hw2 := hwr.call hb2; have hA2 := hAr.call hb2; have hN2 : RwF m (hx w2 [ga]) (some ⟨g2, 0, none⟩) M (stateO (zOf zs) a 0).1 := hA2.offR (by rw [hx_nil]; exact hR2) (fun a e => by injection e with e; rw [← e]; show g2 ≠ ga; have := hwr.size; omega))
            | (go_at_call 43; refine (HIC.out _).mono ?_; rintro e w4 ⟨rfl, hb4⟩; have c0 := (((hw2.call hb3).call hb4).blk hB8 hne8); obtain ⟨k0, k1, k2, _, _, _⟩ := blk3 c0))
          go_ret
          exact ⟨_, rfl, ((((hww.call hb2).call hb3).call hb4).call hb5).call hb6, hW6.same fun x _ => by rw [← HFO.out x, hin, Bool.true_and], (((hA2.call hb3).call hb4).call hb5).call hb6⟩
end Go.Proofs.Ytaomehlhopiblaa
