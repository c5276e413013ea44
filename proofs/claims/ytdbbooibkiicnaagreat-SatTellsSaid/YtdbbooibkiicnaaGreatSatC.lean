/- The walk of sat's ways. -/
import Derived.Test.YtdbbooibkiicnaaGreatSatB
import Derived.Test.YtdbbooibkiicnaaGreatPReach
import Derived.Test.YtdbbooibkiicnaaGreatPart
import Derived.Test.YtdbbooibkiicnaaGreatPlanB
set_option linter.unusedVariables false
set_option linter.unusedSimpArgs false
namespace Go.Proofs.YtdbbooibkiicnaaGreat
open Go.RowKit
attribute [local go_sem ↓] bits_and bits_or not_bits arith_add arith_sub shift_l shift_r shift_lu shift_ru shift_int conv_uu shift_l1 shift_l1u bits_and1 arith_sub1
attribute [local go_sem] uz_toNat uz_nonneg
theorem Wr.drewN {Gs : List Nat} {w w' : World} (h : Wr Gs w w') (n : Nat) : Wr Gs w (w'.drewN n) := ⟨h.os, h.tape, h.output, h.size, h.block⟩
/-- The rows made so far of what tests hold: the table in gv, of ne rows of L words, i of them made. -/
def VB (w : World) (gv ne L i : Nat) (W : Nat → List (BitVec 64)) : Prop :=
  ∃ cs : List Value, Blk w gv 33 cs.toArray ∧ cs.length = ne ∧ ∀ j, j < i → ∃ g, cs[j]? = some (.slice (some ⟨g, 0, none⟩) L L) ∧ gv < g ∧ Blk w g 44 ((W j).map u).toArray
theorem VB.new (w : World) (ne L : Nat) (W : Nat → List (BitVec 64)) : VB (w.alloc (.cells (zeros (.slice none 0 0) ne) 33)) w.heap.size ne L 0 W :=
  ⟨List.replicate ne (.slice none 0 0), Blk.new w _ _, by simp, fun j hj => by omega⟩
theorem VB.wr {w w' : World} {gv ne L i gi : Nat} {W : Nat → List (BitVec 64)} (h : VB w gv ne L i W) (hw : Wr [gi] w w') (hg : w.heap.size ≤ gi) : VB w' gv ne L i W := by
  obtain ⟨cs, h1, h2, h3⟩ := h
  have h4 := Blk.lt h1
  refine ⟨cs, hw.blk h1 (by simp; omega), h2, fun j hj => ?_⟩
  obtain ⟨g, h5, h6, h7⟩ := h3 j hj
  have h8 := Blk.lt h7
  exact ⟨g, h5, h6, hw.blk h7 (by simp; omega)⟩
theorem VB.soft {w : World} {gv ne L i : Nat} {W : Nat → List (BitVec 64)} (h : VB w gv ne L i W) (k : Nat) : w.frozen? ⟨gv, k, none⟩ = false := let ⟨_, h1, _⟩ := h; h1.frozen k
theorem VB.some_ {w : World} {gv ne L i : Nat} {W : Nat → List (BitVec 64)} (h : VB w gv ne L i W) {k : Nat} (hk : k < ne) : ∃ v, w.cell? ⟨gv, k, none⟩ = some v := by
  obtain ⟨cs, h1, h2, _⟩ := h
  exact ⟨cs[k]'(by omega), by rw [h1.cell]; simp [h2, hk]⟩
theorem VB.lt {w : World} {gv ne L i : Nat} {W : Nat → List (BitVec 64)} (h : VB w gv ne L i W) : gv < w.heap.size := let ⟨_, h1, _⟩ := h; h1.lt
/-- A row is laid: its place in the table, the rows so far. -/
theorem VB.put {w : World} {gv ne L i : Nat} {W : Nat → List (BitVec 64)} (h : VB w gv ne L i W) (hi : i < ne) (o : Obj) (g : Nat) (hg : g = w.heap.size) :
    ∃ w', w' = (w.alloc o).setCell ⟨gv, i, none⟩ (.slice (some ⟨g, 0, none⟩) L L) ∧ w'.cell? ⟨gv, i, none⟩ = some (.slice (some ⟨g, 0, none⟩) L L) ∧
      ∀ w'', Wr [g] w' w'' → Blk w'' g 44 ((W i).map u).toArray → VB w'' gv ne L (i + 1) W := by
  subst hg
  obtain ⟨cs, h1, h2, h3⟩ := h
  have h4 := Blk.lt h1
  have hk : Blk ((w.alloc o).setCell ⟨gv, i, none⟩ (.slice (some ⟨w.heap.size, 0, none⟩) L L)) gv 33 (cs.set i (.slice (some ⟨w.heap.size, 0, none⟩) L L)).toArray := by
    have := (h1.alloc o).set_ i (.slice (some ⟨w.heap.size, 0, none⟩) L L)
    simpa using this
  refine ⟨_, rfl, by rw [hk.cell]; simp [h2, hi], fun w'' hw hr => ⟨cs.set i (.slice (some ⟨w.heap.size, 0, none⟩) L L), hw.blk hk (by simp; omega), by simp [h2], fun j hj => ?_⟩⟩
  by_cases e : j = i
  · subst e
    exact ⟨w.heap.size, by simp [h2, hi], by omega, hr⟩
  · obtain ⟨g, h5, h6, h7⟩ := h3 j (by omega)
    have h8 := Blk.lt h7
    refine ⟨g, by rw [List.getElem?_set_ne (fun x => e x.symm)]; exact h5, h6, ?_⟩
    exact hw.blk ((h7.alloc o).far (p := ⟨gv, i, none⟩) (by show g ≠ gv; omega) _) (by simp; omega)
theorem VB.rdR {w : World} {gv ne L : Nat} {W : Nat → List (BitVec 64)} (h : VB w gv ne L ne W) (hL : ∀ i, i < ne → (W i).length = L) : RdR (heapF w) (some ⟨gv, 0, none⟩) ne ((List.range ne).map W) := by
  obtain ⟨cs, h1, h2, h3⟩ := h
  refine ⟨by simp, fun i hi => ?_⟩
  have hi : i < ne := by simpa using hi
  obtain ⟨g, h5, h6, h7⟩ := h3 i hi
  refine ⟨_, some ⟨g, 0, none⟩, L, L, rfl, ?_, ?_⟩
  · rw [add_lit0]
    unfold Fz.cell heapF
    rw [show w.heap[(⟨gv, i, none⟩ : Addr).block]? = _ from h1]
    simpa using h5
  · have := Blk.rdH h7
    rw [hL i hi] at this
    simpa [List.getD, hi] using this
/-- What the tests told so far hold. -/
def rowW (L m : Nat) (b : Nat → Nat → Bool) (i : Nat) : List (BitVec 64) := setW L fun k => decide (k < m) && b i k
theorem rowW_zero (L : Nat) (b : Nat → Nat → Bool) (i : Nat) : zeros (u 0#64) L = ((rowW L 0 b i).map u).toArray := by
  have e : rowW L 0 b i = List.replicate L 0#64 := by
    rw [setW_zero]
    unfold rowW
    exact setW_congr fun x _ => by simp
  rw [e]
  simp [zeros]
theorem rowW_no {L m : Nat} {b : Nat → Nat → Bool} {i : Nat} (h : b i m = false) : rowW L (m + 1) b i = rowW L m b i := by
  unfold rowW
  refine setW_congr fun x _ => ?_
  by_cases e : x = m
  · subst e; simp [h]
  · rw [decide_eq_decide.2 (show x < m + 1 ↔ x < m by omega)]
theorem rowW_yes {L m : Nat} {b : Nat → Nat → Bool} {i : Nat} (hm : m / 64 < L) (h : b i m = true) : (rowW L m b i).set (m / 64) ((rowW L m b i).getD (m / 64) 0#64 ||| 1#64 <<< (m % 64)) = rowW L (m + 1) b i := by
  unfold rowW
  rw [setW_step L _ m hm]
  refine setW_congr fun x _ => ?_
  by_cases e : x = m
  · subst e; simp [h]
  · rw [decide_eq_decide.2 (show x < m + 1 ↔ x < m by omega), decide_eq_false e, Bool.or_false]
theorem rowW_len (L m : Nat) (b : Nat → Nat → Bool) (i : Nat) : (rowW L m b i).length = L := length_setW _ _
/-- The row of a formula's node stands in the table. -/
def AtF (F : Fz) (ga ne : Nat) (S : Nat → Nat → Bool) (q : Nat) : Prop := ∃ g, F.cell ⟨ga, q, none⟩ = some (.slice (some ⟨g, 0, none⟩) ne ne) ∧ RowF F g ne (S q)
set_option maxRecDepth 100000 in
set_option maxHeartbeats 8000000 in
theorem ways_w {F : Fz} {w : World} (hF : Sat F w) (gx : Nat) (An : Option Addr) (nn cn : Nat) (Ae : Option Addr) (ne ce : Nat) (es : List Evt) (hT : TruF F gx An nn cn Ae ne ce es) (hn : ne ≤ 1000) (h0 : 0 < ne)
    (X : TrcS) (hX : X.n = ne) (l : List Nd) (hN : l.length ≤ 1000) (Al : Option Addr) (N cl : Nat) (hcl : N ≤ cl) (hl : NodesF F Al N l) {t : Tr} (ht : treeS l = some t)
    (x2 : F.cell ⟨gx, 2, none⟩ = some (.slice Al N cl)) (ga : Nat) (x3 : F.cell ⟨gx, 3, none⟩ = some (.slice (some ⟨ga, 0, none⟩) N N))
    (root : Nat) (hroot : root < t.size) (hreg : regS (t.sub root).root.kind = true) (hrows : ∀ q, q < root → regS (t.sub q).root.kind = false → AtF F ga ne (fun q => satT X (t.sub q)) q) :
    Calls Tryz.prog 80 #[.pointer (some ⟨gx, 0, none⟩), .int .i64 (root : Nat)] w fun e w' => ∃ gs, e = .returned (.slice (some ⟨gs, 0, none⟩) ne ne) ∧ Below w.heap.size w w' ∧ w.heap.size ≤ gs ∧ SqF (heapF w') gs ne (reachT ne (valL (valsT X (t.sub root))) (t.sub root) 0) := by
  have hv := tree_valid ht
  have hts := tree_len ht
  have hNl := hl.1
  have hNt : N = t.size := by omega
  obtain ⟨s, hs⟩ : ∃ s, t.sub root = s := ⟨_, rfl⟩
  have hsz : s.size ≤ root + 1 := by rw [← hs]; exact Tr.sub_size_le t root hroot
  have hsp := s.size_pos
  have hvs : validT s = true := by rw [← hs]; exact sub_valid t root hv
  have hpart : partL l (root : Int) = s.flat 0 := by
    unfold partL
    rw [ht]
    simp only
    rw [if_pos ⟨by omega, by omega⟩, show ((root : Nat) : Int).toNat = root by omega, hs]
  obtain ⟨s', e1, e2, e3, e4, _⟩ := fold_flat s [] hvs
  have hs' : treeS (s.flat 0) = some s' := by
    unfold treeS parseS
    rw [show (Tr.flat s 0) = Tr.flat s (total []) from rfl, e1]
  have hreg' : regS s'.root.kind = true := by rw [e3, ← hs]; exact hreg
  have hsh := eq_shape (eq_of_flat s' s 0 (e4 0))
  have hk19 : kindS (s.flat 0) 19 = testsL s 0 := by rw [kind_tests2 hs' hreg', shape_testsL 0 hsh e2]
  have hfl : (s.flat 0).length = s.size := Tr.length_flat s 0
  obtain ⟨P, hP⟩ : ∃ P, s.size = P := ⟨_, rfl⟩
  obtain ⟨fr, hfr⟩ : ∃ fr, fr = root + 1 - P := ⟨_, rfl⟩
  obtain ⟨f, hf⟩ : ∃ f, s.flat 0 = f := ⟨_, rfl⟩
  obtain ⟨qs, hqs⟩ : ∃ qs, testsL s 0 = qs := ⟨_, rfl⟩
  obtain ⟨T, hTn⟩ : ∃ T, qs.length = T := ⟨_, rfl⟩
  have hTs : T = testsT s := by rw [← hTn, ← hqs, length_tests]
  have hTle : T ≤ 1000 := by have := testsT_le s; omega
  -- what is so of a test: its node, its formula's place, its row
  have htest : ∀ k, k < T → ∃ (p : Nat) (hd : Nd) (fo : Tr), qs[k]? = some p ∧ p < P ∧ f[p]? = some { hd with kids := [((p - 1 : Nat) : Int)] } ∧ 1 ≤ p ∧ fr + (p - 1) < root ∧ AtF F ga ne (fun q => satT X (t.sub q)) (fr + (p - 1)) ∧ t.sub (fr + (p - 1)) = fo ∧ ∀ i, valL (valsT X s) i k = satT X fo i := by
    intro k hk
    obtain ⟨p, hp⟩ : ∃ p, qs[k]? = some p := ⟨_, List.getElem?_eq_getElem (by omega)⟩
    have hp' : (testsL (t.sub root) 0)[k]? = some p := by rw [hs, hqs]; exact hp
    obtain ⟨hd, fo, g1, g2, g3, g4, g5, g6, g7⟩ := test_place hv hroot hp' X
    rw [hs] at g1 g3 g4 g5 g7
    rw [hP, ← hfr] at g4 g5
    have g8 := test_nodeP g3 g1
    rw [hf] at g8
    exact ⟨p, hd, fo, hp, by omega, g8, g2, g4, hrows _ g4 (by rw [g5]; exact g6), g5, g7⟩
  have HTEST := Lib.hid htest
  have hPt := part_w hF l hN Al N cl hcl hl (root : Int) (by omega) (by omega)
  rw [hpart, hf] at hPt
  rw [hf] at hk19 hfl hs'
  rw [hqs] at hk19
  rw [hs]
  have HPt := Lib.hid hPt
  have HK := Lib.hid hk19
  have HFL : Hid (f.length = P) := Lib.hid (by rw [hfl, hP])
  have HS' := Lib.hid hs'
  have HREG' := Lib.hid hreg'
  have HQ := Lib.hid hTn
  have HTS := Lib.hid hTs
  have HTT := Lib.hid hT
  have HSH := Lib.hid hsh
  have HX2 := Lib.hid x2
  have HX3 := Lib.hid x3
  have hP1 : 1 ≤ P := by omega
  have hPr : P ≤ root + 1 := by omega
  have hrN : root < N := by omega
  have hN' : N ≤ 1000 := by omega
  have hfrI : (root : Int) + 1 - (P : Int) = (fr : Int) := by omega
  have hfP : fr + P = root + 1 := by omega
  obtain ⟨L, hL⟩ : ∃ L, L = T / 64 + 1 := ⟨_, rfl⟩
  obtain ⟨D, hD⟩ : ∃ D, D = T / 64 := ⟨_, rfl⟩
  have hDI : (T : Int) / 64 = (D : Int) := by omega
  have hLI : (D : Int) + 1 = (L : Int) := by omega
  have hLb : L ≤ 100 := by omega
  have hDb : D ≤ 100 := by omega
  have HD := Lib.hid hD
  have HL := Lib.hid hL
  clear hD hL
  have hmkL : ∀ Y : World, (Instr.makeSlice 33 (.int .i64 (L : Int)) (.int .i64 (L : Int))).run Tryz.prog Y = .ok (.slice (some ⟨Y.heap.size, 0, none⟩) L L) (Y.alloc (.cells (zeros (u 0#64) L) 44)) := fun Y => makeW L (by omega) Y
  have hmkR := fun (Y : World) => makeR ne (by omega) Y
  have t1 := hF.cell hT.t1
  clear hPt hk19 hfl hs' hreg' hTn hTs hT hsh x2 x3 hpart e1 e2 e3 e4 hqs hf hP hfr hs hrows htest hl ht hv hts hNl hNt hsz hsp hvs hreg hroot hN
  go_enter Tryz.func80, Tryz.ntmps80
  have X2 := hF.cell HX2.out
  go_wp2_with fail
  go_at_call 55
  refine HPt.out.mono ?_
  rintro e w1 ⟨A1, c1, F1, rfl, hc1, hN1, hb1, hF1, hle1⟩
  rw [HFL.out] at hc1 hN1
  rw [HFL.out]
  have hTe := Lib.hid (tests_w hF1 f (by rw [HFL.out]; omega) A1 P c1 hN1)
  rw [HK.out] at hTe
  have HN1 := Lib.hid hN1
  clear hN1
  go_wp2_with fail
  go_at_call 66
  refine hTe.out.mono ?_
  rintro e w2 ⟨A2, c2, rfl, hc2, hr2, hb2⟩
  rw [length_zs, HQ.out] at hc2 hr2
  rw [length_zs, HQ.out]
  have hb12 := bthen hb1 hb2
  have hF2 : Sat F w2 := hF.below hb12
  have hN2 := Lib.hid (HN1.out.cle (hF1.below hb2).cle)
  have t1' := hF2.cell HTT.out.t1
  clear hTe hb1 hb2 hF1 hle1 HN1 HPt
  have HN2 := hN2
  clear hN2
  go_wp2_with fail
  obtain ⟨gv, hgv⟩ : ∃ gv, gv = w2.heap.size := ⟨_, rfl⟩
  obtain ⟨b, hb⟩ : ∃ b, valL (valsT X s) = b := ⟨_, rfl⟩
  have HB := Lib.hid hb
  have hVB0 := VB.new w2 ne L (rowW L T b)
  rw [← hgv] at hVB0 ⊢
  have HGV := Lib.hid hgv
  clear hgv hb
  go_loopw [9, 10, 11, 34] (fun _ _ _ v34 wr => ∃ i : Nat, i ≤ ne ∧ v34 = .int .i64 i ∧ VB wr gv ne L i (rowW L T b) ∧ Below w2.heap.size w2 wr) (fun _ _ _ v34 _ => ne - (intOf v34).toNat)
  case atStart => exact ⟨0, Nat.zero_le _, rfl, hVB0, balloc _ _⟩
  case round =>
    obtain ⟨i, hi, rfl, hVB, hbl⟩ := hrel
    have hsz2 := hbl.size
    by_cases hlt : i < ne
    · have hiI : (i : Int) < (ne : Int) := by omega
      have hgl := hVB.lt
      obtain ⟨gi, hgi⟩ : ∃ gi, gi = wr.heap.size := ⟨_, rfl⟩
      obtain ⟨w', hw', hc', hput⟩ := hVB.put hlt (.cells (zeros (u 0#64) L) 44) gi hgi
      have hfz : (wr.alloc (.cells (zeros (u 0#64) L) 44)).frozen? ⟨gv, i, none⟩ = false := (hVB.wr (gi := wr.heap.size) ((Wr.refl _ wr).alloc _) (Nat.le_refl _)).soft i
      obtain ⟨vz, hvz⟩ := hVB.some_ hlt
      have hvz2 : (wr.alloc (.cells (zeros (u 0#64) L) 44)).cell? ⟨gv, i, none⟩ = some vz := ((balloc wr _).cell (p := ⟨gv, i, none⟩) hgl).trans hvz
      have hbW : Below w2.heap.size w2 w' := by rw [hw']; exact (hbl.alloc (by omega) _).setCell (p := ⟨gv, i, none⟩) (by show w2.heap.size ≤ gv; rw [HGV.out]; exact Nat.le_refl _) _
      have hB0 : Blk w' gi 44 ((rowW L 0 b i).map u).toArray := by
        rw [hw', ← rowW_zero, hgi]
        exact (Blk.new wr 44 (zeros (u 0#64) L)).far (p := ⟨gv, i, none⟩) (by show wr.heap.size ≠ gv; omega) _
      have HPUT := Lib.hid hput
      have HC' := Lib.hid hc'
      have HW' := Lib.hid hw'
      have HBW := Lib.hid hbW
      have HVB := Lib.hid hVB
      have HBL := Lib.hid hbl
      clear hput hc' hw' hbW hVB hbl hVB0
      have HWX : Hid ((wr.setCell ⟨gv, i, none⟩ (.slice (some ⟨gi, 0, none⟩) L L)).alloc (.cells (zeros (u 0#64) L) 44) = w') := Lib.hid (by rw [HW'.out, World.setCell_alloc_past _ _ _ _ hgl])
      go_wp2_with fail
      rw [← hgi, HWX.out]
      have HGI := Lib.hid hgi
      have hgig : w2.heap.size ≤ gi ∧ gv < gi := ⟨by omega, by omega⟩
      clear hgi
      obtain ⟨wo, hwo⟩ : ∃ wo, wo = wr := ⟨_, rfl⟩
      subst hwo
      go_loopw [10, 11, 47] (fun _ _ v47 wr => ∃ m : Nat, m ≤ T ∧ v47 = .int .i64 m ∧ Blk wr gi 44 ((rowW L m b i).map u).toArray ∧ Wr [gi] w' wr) (fun _ _ v47 _ => T - (intOf v47).toNat)
      case atStart => exact ⟨0, Nat.zero_le _, rfl, hB0, .refl _ _⟩
      case round =>
        obtain ⟨m, hm, rfl, hB, hwr⟩ := hrel
        have hbw : Below w2.heap.size w2 wr := HBW.out.trans (hwr.below (fun g hg => by simp at hg; omega) (HBW.out.size))
        have hS2 : Sat (heapF w2) wr := (sat_heapF w2).below hbw
        have hSF : Sat F wr := hF2.below hbw
        by_cases hmT : m < T
        · have hmI : (m : Int) < (T : Int) := by omega
          obtain ⟨p, hd, fo, hp, hpP, hnode, hp1, hlt2, hAt, hsub, hval⟩ := HTEST.out m hmT
          obtain ⟨g, hat, hrow⟩ := hAt
          dsimp only at hrow
          rw [hsub] at hrow
          obtain ⟨ad2, u2, rfl, hu2, hcu⟩ := hr2.at1 hmT
          have hup : u2 = .int .i64 (p : Nat) := by
            have hpl : m < qs.length := by rw [HQ.out]; exact hmT
            rw [List.getElem?_eq_getElem hpl] at hp
            simp [zs, hpl] at hu2
            injection hp with hp
            rw [← hu2, hp]
          subst hup
          obtain ⟨ad1, eA, hL1⟩ := HN2.out.2 (by omega)
          have hpf : p < f.length := by rw [HFL.out]; exact hpP
          obtain ⟨Ak, ck, hck, hKd, hd1⟩ := hL1 p hpf
          have hfp : f[p] = { hd with kids := [((p - 1 : Nat) : Int)] } := by
            rw [List.getElem?_eq_getElem hpf] at hnode
            injection hnode
          rw [hfp] at hKd hd1 hck
          dsimp only at hKd hd1 hck
          obtain ⟨kd, hkd⟩ : ∃ kd, p - 1 = kd := ⟨_, rfl⟩
          rw [hkd] at hKd hd1 hlt2 hat
          obtain ⟨q, hq⟩ : ∃ q, fr + kd = q := ⟨_, rfl⟩
          rw [hq] at hlt2 hat
          have hqI : (fr : Int) + (kd : Int) = (q : Int) := by omega
          have hqN : (q : Int) < (N : Int) := by omega
          have hpI : (p : Int) < (P : Int) := by omega
          obtain ⟨ak, uk, eAk, huk, hck2⟩ := hKd.at1 (show 0 < [((kd : Nat) : Int)].length by simp)
          simp only [List.map_cons, List.map_nil, List.getElem?_cons_zero, Option.some.injEq] at huk
          subst huk eAk eA
          rw [show ak.add 0 = ak by unfold Addr.add; simp] at hck2
          obtain ⟨bv, hbv⟩ : ∃ bv, satT X fo i = bv := ⟨_, rfl⟩
          have hbm : b i m = bv := by rw [← HB.out, hval i, hbv]
          have r0 := hSF.cell (hrow.cell hlt)
          rw [hbv] at r0
          have r1 := hSF.cell hat
          have r2 := hS2.cell hck2
          obtain ⟨_, _, _, _, r3⟩ := hd1.sat hS2
          dsimp only at r3
          simp only [List.length_cons, List.length_nil, Nat.zero_add] at r3
          have r4 := hSF.cell HX3.out
          have r5 := hS2.cell hcu
          have r6 : wr.cell? ⟨gv, i, none⟩ = some (.slice (some ⟨gi, 0, none⟩) L L) := by
            have h1 : (hx w' [gi]).cell ⟨gv, i, none⟩ = some (.slice (some ⟨gi, 0, none⟩) L L) := by
              unfold Fz.cell
              rw [hx_out (by simp; omega)]
              exact HC'.out
            exact (sat_hx wr [gi]).cell (hwr.cle _ _ h1)
          have hk2 : m / 64 < (rowW L m b i).length := by rw [rowW_len]; have := HL.out; omega
          have hk3 : (m : Int) / 64 < (L : Int) := by have := HL.out; omega
          have hk4 : ((m : Int) / 64).toNat = m / 64 := by omega
          have hk5 : 0 ≤ (m : Int) % 64 := by omega
          have hk6 : (m : Int) % 64 < 64 := by omega
          have hk7 : ((m : Int) % 64).toNat = m % 64 := by omega
          have hk8 : m % 64 < 64 := by omega
          have r7 := hB.cellL (k := m / 64) (x := (rowW L m b i).getD (m / 64) 0#64) (by rw [List.getD, List.getElem?_eq_getElem hk2]; rfl)
          have r8 := hB.frozen (m / 64)
          have hst := hB.setL (m / 64) ((rowW L m b i).getD (m / 64) 0#64 ||| 1#64 <<< (m % 64)) rfl
          have hwst := fun u => hwr.set (g := gi) (by simp) (m / 64) u
          have HM := Lib.hid hbm
          have HST := Lib.hid hst
          have HWST := Lib.hid hwst
          have HBK := Lib.hid hB
          have HWR := Lib.hid hwr
          have hmL : m / 64 < L := by have := HL.out; omega
          obtain ⟨y, hy⟩ : ∃ y, (rowW L m b i).getD (m / 64) 0#64 = y := ⟨_, rfl⟩
          rw [hy] at r7 HST
          have HY := Lib.hid hy
          clear hy
          clear hst hwst hB hwr hbw hS2 hSF hp hnode hsub hval hat hrow hu2 hcu hL1 hfp hKd hd1 hck hck2 hbv hbm hk2 hkd hq hp1 hpP hlt2
          go_wp2_with fail
          go_quiet (fail)
          cases bv with
          | true =>
            go_wp2_with fail
            go_region
            all_goals
              go_wp2_with fail
              go_roundw
              case rel =>
                refine ⟨m + 1, by omega, by go_num, ?_, ?_⟩
                · rw [← rowW_yes hmL HM.out, HY.out]
                  first | exact HST.out | exact Blk.drewN HST.out _
                · first | exact HWST.out _ | exact Wr.drewN (HWST.out _) _
              case measure => simp [intOf]; omega
          | false =>
            go_wp2_with fail
            go_roundw
            case rel =>
              refine ⟨m + 1, by omega, by go_num, ?_, Wr.drewN HWR.out _⟩
              rw [rowW_no HM.out]
              exact HBK.out
            case measure => simp [intOf]; omega
        · obtain rfl : m = T := by omega
          have hdec : decide ((m : Int) < (m : Int)) = false := decide_eq_false (by omega)
          have HVN := Lib.hid (HPUT.out wr hwr hB)
          have HBN := Lib.hid hbw
          clear hB hwr hbw hS2 hSF
          go_wp2_with fail
          go_roundw
          case rel => exact ⟨i + 1, by omega, by go_num, HVN.out, HBN.out⟩
          case measure => simp [intOf]; omega
    · obtain rfl : i = ne := by omega
      have hdec : decide ((i : Int) < (i : Int)) = false := decide_eq_false (by omega)
      have hS2 : Sat (heapF w2) wr := (sat_heapF w2).below hbl
      have HR := Lib.hid (pReachTab (sat_heapF wr) f (by rw [HFL.out]; omega) A1 P c1 (HN2.out.cle hS2.cle) (some ⟨gv, 0, none⟩) i i hn ((List.range i).map (rowW L T b)) (hVB.rdR fun j _ => rowW_len _ _ _ _))
      have HBW := Lib.hid (bthen hb12 hbl)
      have HM : Hid (EqM i (reachT i (valS ((List.range i).map (rowW L T b))) s' 0) (reachT i b s 0)) := Lib.hid (by
        rw [shape_reach i _ 0 HSH.out]
        refine reach_congr i _ _ s 0 0 fun j hj q hq => ?_
        rw [Nat.zero_add]
        unfold valS
        rw [List.getD_eq_getElem?_getD, show ((List.range i).map (rowW L T b))[j]? = some (rowW L T b j) by simp [hj]]
        show bitAt (rowW L T b j) q = b j q
        unfold rowW
        have := HTS.out
        have := HL.out
        have := HD.out
        rw [bit_setW, decide_eq_true (show q < 64 * L by omega), decide_eq_true (show q < T by omega), Bool.true_and, Bool.true_and])
      have hzb : w.heap.size ≤ wr.heap.size := HBW.out.size
      clear hVB hbl hS2 hVB0 HTEST
      go_wp2_with fail
      go_at_call 119
      refine HR.out.mono ?_
      rintro e w4 ⟨A, c, rfl, hb4, hg⟩
      obtain ⟨g, rfl, rfl, hgs, hSq⟩ := hg s' HS'.out HREG'.out h0
      rw [if_pos (reg_of HS'.out HREG'.out)]
      go_wp2_with fail
      go_ret
      rw [HB.out]
      exact ⟨g, rfl, bthen HBW.out hb4, Nat.le_trans hzb hgs, hSq.congr HM.out⟩
end Go.Proofs.YtdbbooibkiicnaaGreat
