/- The reference's vals of layer 14. -/
import Derived.Test.YtdbbooibkiicnaaGreatSatC
import Derived.Test.YtdbbooibkiicnaaGreatOfW
import Derived.Test.YtdbbooibkiicnaaGreatPart
set_option linter.unusedVariables false
set_option linter.unusedSimpArgs false
namespace Go.Proofs.YtdbbooibkiicnaaGreat
open Go.RowKit
attribute [local go_sem ↓] Go.wp_at_zero Go.wp_at_succ
theorem sub_kidV {T t : Tr} {o j : Nat} (hs : T.sub (o + t.size - 1) = t) (hi : o + t.size - 1 < T.size) (hj : j < t.size) : T.sub (o + j) = t.sub j := by
  have hp := t.size_pos
  have h := Tr.sub_sub T (o + t.size - 1) j hi (by rw [hs]; exact hj)
  rw [hs] at h
  rw [← h]
  congr 1
  omega
/-- Rows of words that are made one by one, each frozen: of those below i the predicate holds. -/
def UTab (F : Fz) (w : World) (g N i : Nat) (f : Nat → List (BitVec 64) → Prop) : Prop :=
  ∃ cs : List Value, Blk w g 33 cs.toArray ∧ cs.length = N ∧ ∀ j, j < i → ∃ gs A c, cs[j]? = some (.slice A gs.length c) ∧ gs.length ≤ c ∧ Rd F 1 A gs.length (gs.map u) ∧ f j gs
namespace UTab
variable {F F' : Fz} {w w' : World} {g N i : Nat} {f : Nat → List (BitVec 64) → Prop}
theorem soft (h : UTab F w g N i f) (j : Nat) : w.frozen? ⟨g, j, none⟩ = false := let ⟨_, h1, _⟩ := h; h1.frozen j
theorem some_ (h : UTab F w g N i f) {j : Nat} (hj : j < N) : ∃ v, w.cell? ⟨g, j, none⟩ = some v := by
  obtain ⟨cs, h1, h2, _⟩ := h
  exact ⟨cs[j]'(by omega), by rw [h1.cell, List.getElem?_toArray, List.getElem?_eq_getElem (by omega)]⟩
theorem lt (h : UTab F w g N i f) : g < w.heap.size := let ⟨_, h1, _⟩ := h; h1.lt
theorem call (h : UTab F w g N i f) (hb : Below w.heap.size w w') : UTab F w' g N i f := let ⟨cs, h1, h2, h3⟩ := h; ⟨cs, h1.call hb, h2, h3⟩
theorem below (h : UTab F w g N i f) {B : Nat} (hg : g < B) (hb : Below B w w') : UTab F w' g N i f := let ⟨cs, h1, h2, h3⟩ := h; ⟨cs, (hb.block g hg).trans h1, h2, h3⟩
theorem cle (h : UTab F w g N i f) (hle : CLe F F') : UTab F' w g N i f := let ⟨cs, h1, h2, h3⟩ := h; ⟨cs, h1, h2, fun j hj => let ⟨gs, A, c, h4, h5, h6, h7⟩ := h3 j hj; ⟨gs, A, c, h4, h5, h6.cle hle, h7⟩⟩
theorem put (h : UTab F w g N i f) (hi : i < N) {gs : List (BitVec 64)} {A : Option Addr} {c : Nat} (hc : gs.length ≤ c) (hr : Rd F 1 A gs.length (gs.map u)) (hf : f i gs) : UTab F (w.setCell ⟨g, i, none⟩ (.slice A gs.length c)) g N (i + 1) f := by
  obtain ⟨cs, h1, h2, h3⟩ := h
  refine ⟨cs.set i (.slice A gs.length c), by have := h1.set_ i (.slice A gs.length c); simpa using this, by simp [h2], fun q hq => ?_⟩
  by_cases e : q = i
  · subst e
    exact ⟨gs, A, c, by simp [h2, hi], hc, hr, hf⟩
  · obtain ⟨gs', A', c', h4, h5, h6, h7⟩ := h3 q (by omega)
    exact ⟨gs', A', c', by rw [List.getElem?_set_ne (fun x => e x.symm)]; exact h4, h5, h6, h7⟩
theorem new (F : Fz) (w : World) (N : Nat) (f : Nat → List (BitVec 64) → Prop) : UTab F (w.alloc (.cells (zeros (.slice none 0 0) N) 33)) w.heap.size N 0 f :=
  ⟨List.replicate N (.slice none 0 0), Blk.new w _ _, by simp, fun q hq => by omega⟩
/-- Done, it is a list of rows. -/
theorem done : ∀ {m : Nat} (h : ∀ j, j < m → ∃ gs : List (BitVec 64), f j gs), ∃ vs : List (List (BitVec 64)), vs.length = m ∧ ∀ j, j < m → f j (vs.getD j [])
  | 0, _ => ⟨[], rfl, fun j hj => by omega⟩
  | m + 1, h => by
    obtain ⟨vs, h1, h2⟩ := done (m := m) (fun j hj => h j (by omega))
    obtain ⟨gs, hg⟩ := h m (by omega)
    refine ⟨vs ++ [gs], by simp [h1], fun j hj => ?_⟩
    by_cases e : j = m
    · subst e
      simpa [List.getD, ← h1] using hg
    · have h3 := h2 j (by omega)
      rw [List.getD, List.getElem?_append_left (by omega)]
      exact h3
theorem rdR (h : UTab F w g N N f) (hs : Sat F w) : ∃ vs, RdR (heapF w) (some ⟨g, 0, none⟩) N vs ∧ ∀ j, j < N → f j (vs.getD j []) := by
  obtain ⟨cs, h1, h2, h3⟩ := h
  obtain ⟨vs, e1, e2⟩ := done (f := fun j gs => (∃ A c, cs[j]? = some (.slice A gs.length c) ∧ Rd F 1 A gs.length (gs.map u)) ∧ f j gs) (m := N) (fun j hj => by
    obtain ⟨gs, A, c, h4, _, h6, h7⟩ := h3 j hj
    exact ⟨gs, ⟨A, c, h4, h6⟩, h7⟩)
  refine ⟨vs, ⟨e1.symm, fun i hi => ?_⟩, fun j hj => (e2 j hj).2⟩
  obtain ⟨⟨A, c, h4, h6⟩, _⟩ := e2 i (by omega)
  refine ⟨⟨g, 0, none⟩, A, _, c, rfl, ?_, h6.cle hs.cle⟩
  rw [add_lit0]
  unfold Fz.cell heapF
  rw [h1]
  simpa using h4
end UTab
/-- The tests that hold at a point, as far as m. -/
def holdL (b : Nat → Nat → Bool) (i m : Nat) : List Nat := (List.range m).filter (fun k => b i k)
theorem holdL_snoc (b : Nat → Nat → Bool) (i m : Nat) : holdL b i (m + 1) = holdL b i m ++ if b i m = true then [m] else [] := by
  unfold holdL
  rw [List.range_succ, List.filter_append]
  congr 1
  cases h : b i m <;> simp [h]
theorem holdL_len (b : Nat → Nat → Bool) (i m : Nat) : (holdL b i m).length ≤ m := by
  have := List.length_filter_le (fun k => b i k) (List.range m)
  simpa [holdL] using this
theorem holdL_mem {b : Nat → Nat → Bool} {i m x : Nat} (h : x ∈ holdL b i m) : x < m := by
  unfold holdL at h
  rw [List.mem_filter, List.mem_range] at h
  exact h.1
theorem holdL_has (b : Nat → Nat → Bool) (i m q : Nat) : (holdL b i m).contains q = (decide (q < m) && b i q) := by
  rw [Bool.eq_iff_iff]
  simp [holdL, List.mem_filter]
set_option maxRecDepth 100000 in
set_option maxHeartbeats 8000000 in
theorem vals14_w {F : Fz} {w : World} (hF : Sat F w) (ne : Nat) (hn : ne ≤ 1000) (X : TrcS) (l : List Nd) (hN : l.length ≤ 1000) (Al : Option Addr) (N cl : Nat) (hcl : N ≤ cl) (hl : NodesF F Al N l) {t : Tr} (ht : treeS l = some t)
    (ga : Nat) (root : Nat) (hroot : root < t.size) (hreg : regS (t.sub root).root.kind = true) (hrows : ∀ q, q < root → regS (t.sub q).root.kind = false → AtF F ga ne (fun q => satT X (t.sub q)) q) :
    Calls Tryz.prog 113 #[.slice Al N cl, .int .i64 (root : Nat), .slice (some ⟨ga, 0, none⟩) N N, .int .i64 (ne : Nat)] w fun e w' => ∃ Ar cr gv vs, e = .returned (.tuple #[.slice Ar (t.sub root).size cr, .slice (some ⟨gv, 0, none⟩) ne ne]) ∧ (t.sub root).size ≤ cr ∧ NodesF (heapF w') Ar (t.sub root).size ((t.sub root).flat 0) ∧ RdR (heapF w') (some ⟨gv, 0, none⟩) ne vs ∧ (∀ i, i < ne → ∀ q, q < testsT (t.sub root) → valS vs i q = valL (valsT X (t.sub root)) i q) ∧ Below w.heap.size w w' := by
  have hv := tree_valid ht
  have hts := tree_len ht
  have hNl := hl.1
  have hNt : N = t.size := by omega
  obtain ⟨s, hs⟩ : ∃ s, t.sub root = s := ⟨_, rfl⟩
  have hsz : s.size ≤ root + 1 := by rw [← hs]; exact Tr.sub_size_le t root hroot
  have hsp := s.size_pos
  have hvs : validT s = true := by rw [← hs]; exact sub_valid t root hv
  have hpart : partL l (root : Int) = s.flat 0 := by
    unfold partL
    rw [ht]
    simp only
    rw [if_pos ⟨by omega, by omega⟩, show ((root : Nat) : Int).toNat = root by omega, hs]
  obtain ⟨s', e1, e2, e3, e4, _⟩ := fold_flat s [] hvs
  have hs' : treeS (s.flat 0) = some s' := by
    unfold treeS parseS
    rw [show (Tr.flat s 0) = Tr.flat s (total []) from rfl, e1]
  have hreg' : regS s'.root.kind = true := by rw [e3, ← hs]; exact hreg
  have hk19 : kindS (s.flat 0) 19 = testsL s 0 := by rw [kind_tests2 hs' hreg', shape_testsL 0 (eq_shape (eq_of_flat s' s 0 (e4 0))) e2]
  have hfl : (s.flat 0).length = s.size := Tr.length_flat s 0
  obtain ⟨P, hP⟩ : ∃ P, s.size = P := ⟨_, rfl⟩
  obtain ⟨fr, hfr⟩ : ∃ fr, fr = root + 1 - P := ⟨_, rfl⟩
  obtain ⟨f, hf⟩ : ∃ f, s.flat 0 = f := ⟨_, rfl⟩
  obtain ⟨qs, hqs⟩ : ∃ qs, testsL s 0 = qs := ⟨_, rfl⟩
  obtain ⟨T, hTn⟩ : ∃ T, qs.length = T := ⟨_, rfl⟩
  have hTs : T = testsT s := by rw [← hTn, ← hqs, length_tests]
  have hTle : T ≤ 1000 := by have := testsT_le s; omega
  have htest : ∀ k, k < T → ∃ (p : Nat) (fo : Tr), qs[k]? = some p ∧ p < P ∧ (∃ h : fr + p < l.length, l[fr + p].kids = [((fr + (p - 1) : Nat) : Int)]) ∧ 1 ≤ p ∧ fr + (p - 1) < root ∧ AtF F ga ne (fun q => satT X (t.sub q)) (fr + (p - 1)) ∧ t.sub (fr + (p - 1)) = fo ∧ ∀ i, valL (valsT X s) i k = satT X fo i := by
    intro k hk
    obtain ⟨p, hp⟩ : ∃ p, qs[k]? = some p := ⟨_, List.getElem?_eq_getElem (by omega)⟩
    have hp' : (testsL (t.sub root) 0)[k]? = some p := by rw [hs, hqs]; exact hp
    obtain ⟨hd, fo, g1, g2, g3, g4, g5, g6, g7⟩ := test_place hv hroot hp' X
    rw [hs] at g1 g3 g4 g5 g7
    rw [hP, ← hfr] at g4 g5
    have hsub : t.sub (fr + p) = .un hd fo := by
      rw [← g1]
      refine sub_kidV (T := t) (t := s) (o := fr) ?_ ?_ g3
      · rw [hP, show fr + P - 1 = root by omega, hs]
      · rw [hP]; omega
    have hil : fr + p < l.length := by omega
    refine ⟨p, fo, hp, by omega, ⟨hil, ?_⟩, g2, g4, hrows _ g4 (by rw [g5]; exact g6), g5, g7⟩
    rw [kidsN_eq ht _ hil]
    unfold kidsN
    rw [hsub]
    simp [zs]
    omega
  have HTEST := Lib.hid htest
  have hPt := rpart_w hF l hN Al N cl hcl hl (root : Int) (by omega) (by omega)
  rw [hpart, hf] at hPt
  rw [hf] at hk19 hfl hs'
  rw [hqs] at hk19
  rw [hs]
  have hSt := fun (Y : World) (h : Sat F Y) => start_w h l hN Al N cl hl ht root (by omega)
  rw [hs] at hSt
  rw [hP, ← hfr] at hSt
  have HPt := Lib.hid hPt
  have HSt := Lib.hid hSt
  have HK := Lib.hid hk19
  have HFL : Hid (f.length = P) := Lib.hid (by rw [hfl, hP])
  have HQ := Lib.hid hTn
  have HTS := Lib.hid hTs
  have HNL := Lib.hid hNl
  have HL := Lib.hid hl
  have HF := Lib.hid hF
  have hrN : root < N := by omega
  have hN' : N ≤ 1000 := by omega
  have hfP : fr + P = root + 1 := by omega
  have hmkR := fun (Y : World) => makeR ne (by omega) Y
  obtain ⟨b, hb⟩ : ∃ b, valL (valsT X s) = b := ⟨_, rfl⟩
  have HB := Lib.hid hb
  rw [hb, hf]
  rw [hP]
  have HFS := Lib.hid hP
  clear hPt hSt hk19 hfl hs' hreg' hTn hTs hpart e1 e2 e3 e4 hqs hf hP hfr hs hrows htest hl ht hv hts hNl hNt hsz hsp hvs hreg hroot hN hb
  go_enter Tryz.func113, Tryz.ntmps113
  go_wp2_with fail
  go_at_call 32
  refine HPt.out.mono ?_
  rintro e w1 ⟨A1, c1, F1, rfl, hc1, hN1, hb1, hF1, hle1⟩
  rw [HFL.out] at hc1 hN1
  rw [HFL.out]
  have hTe := Lib.hid (rtests_w hF1 f (by rw [HFL.out]; omega) A1 P c1 hN1)
  rw [HK.out] at hTe
  have HN1 := Lib.hid hN1
  have HF1 := Lib.hid hF1
  clear hN1 hF1
  go_wp2_with fail
  go_at_call 59
  refine (HSt.out _ (HF.out.below hb1)).mono ?_
  rintro e w1' ⟨rfl, rfl⟩
  go_wp2_with fail
  go_at_call 132
  refine hTe.out.mono ?_
  rintro e w2 ⟨A2, c2, rfl, hc2, hr2, hb2⟩
  rw [length_zs, HQ.out] at hc2 hr2
  rw [length_zs, HQ.out]
  have hb12 := bthen hb1 hb2
  have hS12 := HF1.out.below hb2
  have HN2 := Lib.hid (HN1.out.cle hS12.cle)
  have HR2 := Lib.hid hr2
  obtain ⟨gv, hgv⟩ : ∃ gv, gv = w2.heap.size := ⟨_, rfl⟩
  obtain ⟨W, hW⟩ : ∃ W, W = w2.alloc (.cells (zeros (.slice none 0 0) ne) 33) := ⟨_, rfl⟩
  have hbW : Below w2.heap.size w2 W := by rw [hW]; exact balloc _ _
  have HT0 : Hid (UTab (heapF w2) W gv ne 0 (fun j gs => ∀ q, bitAt gs q = (holdL b j T).contains q)) := Lib.hid (by rw [hW, hgv]; exact UTab.new _ _ _ _)
  have HFW := Lib.hid ((sat_heapF w2).below hbW)
  have HF2 := Lib.hid (HF.out.below hb12)
  have HB12 := Lib.hid hb12
  have HBW := Lib.hid hbW
  have HFG : Hid ((heapF w2) gv = none) := Lib.hid ((sat_heapF w2).none_ (by rw [hgv]; exact Nat.le_refl _))
  have HGV := Lib.hid hgv
  have HW := Lib.hid hW
  have hgv2 : w2.heap.size ≤ gv := by omega
  clear hTe hb1 hb2 hle1 hS12 hr2 hb12 hbW hgv hW HN1 HF1
  go_wp2_with fail
  rw [← HW.out, ← HGV.out]
  go_loopw [29] (fun v29 wr => ∃ (i : Nat) (F' : Fz), i ≤ ne ∧ v29 = .int .i64 i ∧ UTab F' wr gv ne i (fun j gs => ∀ q, bitAt gs q = (holdL b j T).contains q) ∧ Sat F' wr ∧ Fle w2 (heapF w2) F' ∧ Hid (F' gv = none) ∧ Below w2.heap.size w2 wr) (fun v29 _ => ne - (intOf v29).toNat)
  case atStart => exact ⟨0, _, Nat.zero_le _, rfl, HT0.out, HFW.out, Fle.refl _ _, HFG, HBW.out⟩
  case round =>
    obtain ⟨i, F', hi, rfl, hT, hFr, hle, HFG', hbr⟩ := hrel
    by_cases hlt : i < ne
    · have hiI : (i : Int) < (ne : Int) := by omega
      have hgl := hT.lt
      have HTT := Lib.hid hT
      have HFR := Lib.hid hFr
      have HLE := Lib.hid hle
      have HBR := Lib.hid hbr
      obtain ⟨w9, hw9⟩ : ∃ w9, w9 = wr := ⟨_, rfl⟩
      subst hw9
      clear hT hFr hle hbr
      go_wp2_with fail
      go_loopw [15, 34] (fun v15 v34 wr => ∃ (m : Nat) (A5 : Option Addr) (n5 c5 : Nat), m ≤ T ∧ v34 = .int .i64 m ∧ v15 = .slice A5 n5 c5 ∧ Hid ((holdL b i m).length = n5) ∧ Own F' wr w9.heap.size 3 1 (.slice A5 n5 c5) n5 ((zs (holdL b i m)).map (Value.int .i64)) ∧ Sat F' wr ∧ Below w9.heap.size w9 wr) (fun _ v34 _ => T - (intOf v34).toNat)
      case atStart => exact ⟨0, none, 0, 0, Nat.zero_le _, rfl, rfl, Lib.hid rfl, Own.nil _ _ _ _ _, HFR.out, Below.refl _ _⟩
      case round =>
        obtain ⟨m, A5, n5, c5, hm, rfl, rfl, HNL5, hO, hFr, hbl⟩ := hrel
        have hb2r : Below w2.heap.size w2 wr := HBR.out.trans (hbl.mono HBR.out.size)
        have hSF := HF2.out.below hb2r
        have hS2 := (sat_heapF w2).below hb2r
        by_cases hmT : m < T
        · have hmI : (m : Int) < (T : Int) := by omega
          obtain ⟨p, fo, hp, hpP, ⟨hil, hkids⟩, hp1, hlt2, ⟨g, hat, hrow⟩, hsub, hval⟩ := HTEST.out m hmT
          dsimp only at hrow
          rw [hsub] at hrow
          obtain ⟨ad2, u2, rfl, hu2, hcu⟩ := HR2.out.at1 hmT
          have hup : u2 = .int .i64 (p : Nat) := by
            have hpl : m < qs.length := by rw [HQ.out]; exact hmT
            rw [List.getElem?_eq_getElem hpl] at hp
            simp [zs, hpl] at hu2
            injection hp with hp
            rw [← hu2, hp]
          subst hup
          obtain ⟨ad1, eA, hL1⟩ := HL.out.2 (by omega)
          obtain ⟨fp, hfp⟩ : ∃ fp, fr + p = fp := ⟨_, rfl⟩
          obtain ⟨kq, hkq⟩ : ∃ kq, fr + (p - 1) = kq := ⟨_, rfl⟩
          simp only [hfp] at hil hkids
          rw [hkq] at hat hlt2 hsub
          simp only [hkq] at hkids
          obtain ⟨Ak, ck, hck, hKd, hd1⟩ := hL1 fp hil
          obtain ⟨nd, hnd⟩ : ∃ nd, l[fp] = nd := ⟨_, rfl⟩
          simp only [hnd] at hKd hd1 hck hkids
          obtain ⟨kind, name, lo, hi', kk⟩ := nd
          dsimp only at hKd hd1 hck hkids
          subst hkids
          clear hnd
          obtain ⟨ak, uk, eAk, huk, hck2⟩ := hKd.at1 (show 0 < [((kq : Nat) : Int)].length by simp)
          simp only [List.map_cons, List.map_nil, List.getElem?_cons_zero, Option.some.injEq] at huk
          subst huk eAk eA
          rw [show ak.add 0 = ak by unfold Addr.add; simp] at hck2
          have hfpI : (fr : Int) + (p : Int) = (fp : Int) := by omega
          have hfpN : (fp : Int) < (N : Int) := by have := HNL.out; omega
          have hkqN : (kq : Int) < (N : Int) := by omega
          obtain ⟨bv, hbv⟩ : ∃ bv, satT X fo i = bv := ⟨_, rfl⟩
          have hbm : b i m = bv := by rw [← HB.out, hval i, hbv]
          have r0 := hSF.cell (hrow.cell hlt)
          rw [hbv] at r0
          have r1 := hSF.cell hat
          have r2 := hSF.cell hck2
          obtain ⟨_, _, _, _, r3⟩ := hd1.sat hSF
          dsimp only at r3
          simp only [List.length_cons, List.length_nil, Nat.zero_add] at r3
          have r5 := hS2.cell hcu
          have hsn := holdL_snoc b i m
          rw [hbm] at hsn
          have HSN := Lib.hid hsn
          have HO := Lib.hid hO
          have HFR5 := Lib.hid hFr
          have HBL := Lib.hid hbl
          have hz9 := hbl.size
          have hn5 : n5 ≤ 1000 := by have := holdL_len b i m; have := HNL5.out; omega
          clear hp hsub hval hat hrow hu2 hcu hL1 hKd hd1 hck hck2 hbv hbm hfp hkq hp1 hpP hlt2 hO hFr hbl hsn hil hSF hS2 hb2r
          cases bv with
          | true =>
            have hz : zs (holdL b i m) ++ [((m : Nat) : Int)] = zs (holdL b i (m + 1)) := by rw [HSN.out]; simp [zs]
            have hl2 : (holdL b i (m + 1)).length = n5 + 1 := by rw [HSN.out, List.length_append, HNL5.out]; rfl
            have HZ := Lib.hid hz
            have HL2 := Lib.hid hl2
            clear hz hl2
            go_wp2_with (at_builtin; refine wpList_pushI rfl (.tmp 54) (.tmp 56) rfl (HO.out.alloc _) (HFR5.out.alloc _) (by rfl) wr.heap.size 1 (m : Int) (by rfl) (Blk.new _ _ _) (by omega) (by simp; omega) ?_; intro v6 w6 hO6 hFF hb6 hg6 hat6; obtain ⟨A6, c6, rfl, hc6⟩ := hO6.shape)
            go_roundw
            case rel => exact ⟨m + 1, A6, n5 + 1, c6, by omega, by go_num, rfl, HL2, by have h6 := hO6; rw [HZ.out] at h6; exact h6, hFF, (HBL.out.alloc HBL.out.size _).trans hb6⟩
            case measure => simp [intOf]; omega
          | false =>
            go_wp2_with fail
            go_roundw
            case rel => exact ⟨m + 1, A5, n5, c5, by omega, by go_num, rfl, Lib.hid (by rw [HSN.out, List.length_append, HNL5.out]; rfl), by rw [HSN.out]; simpa [zs] using HO.out, HFR5.out, HBL.out⟩
            case measure => simp [intOf]; omega
        · obtain rfl : m = T := by omega
          have hdec : decide ((m : Int) < (m : Int)) = false := decide_eq_false (by omega)
          obtain ⟨A6, c6, e6, hc6, hr6⟩ := hO.rdH
          injection e6 with e61 e62 e63
          subst e61 e63
          have hlm : (zs (holdL b i m)).length = n5 := by rw [length_zs, HNL5.out]
          have HOF := Lib.hid (rOf_w (F := F') (Fs := heapF wr) hFr (sat_heapF wr) (holdL b i m) (fun x hx => by have := holdL_mem hx; omega) A5 n5 c5 hr6 (by have := holdL_len b i m; have := HNL5.out; omega))
          have hT2 := HTT.out.call hbl
          have HT2 := Lib.hid hT2
          have HB2 := Lib.hid hb2r
          clear hO hFr hr6 hlm hbl hS2 hSF hT2 hb2r
          go_wp2_with (go_at_call 133; refine HOF.out.mono ?_; rintro e w7 ⟨gs, A7, c7, F7, rfl, hc7, hr7, hb7, hF7, hle7, hlg7, hq7⟩; have hT7 := HT2.out.call hb7; have fz7 := hT7.soft i; obtain ⟨vz7, z7⟩ := hT7.some_ hlt)
          go_roundw
          case rel => exact ⟨i + 1, F7, by omega, by go_num, (hT7.cle hle7.cle).put hlt hc7 hr7 hq7, hF7.setCell (p := ⟨gv, i, none⟩) ((hle7.2 gv HT2.out.lt).trans HFG'.out) _, HLE.out.trans hle7 HB2.out.size, Lib.hid ((hle7.2 gv HT2.out.lt).trans HFG'.out), (bthen HB2.out hb7).setCell (p := ⟨gv, i, none⟩) hgv2 _⟩
          case measure => simp [intOf]; omega
    · obtain rfl : i = ne := by omega
      have hdec : decide ((i : Int) < (i : Int)) = false := decide_eq_false (by omega)
      obtain ⟨vs, hvs, hf⟩ := hT.rdR hFr
      have hS2 := (sat_heapF w2).below hbr
      have HV := Lib.hid hvs
      have HFF := Lib.hid hf
      have HBR := Lib.hid (bthen HB12.out hbr)
      have HN3 := Lib.hid (HN2.out.cle hS2.cle)
      clear hvs hf hT hFr hle hbr hS2
      go_wp2_with fail
      go_ret2
      refine ⟨A1, c1, gv, vs, by first | rfl | simp, hc1, HN3.out, HV.out, fun j hj q hq => ?_, HBR.out⟩
      have h1 := HFF.out j hj q
      rw [holdL_has, decide_eq_true (by have := HTS.out; omega), Bool.true_and] at h1
      exact h1
end Go.Proofs.YtdbbooibkiicnaaGreat
