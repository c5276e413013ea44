/- The walk of tree.moved. -/
import Derived.Test.YtdbbooibkiicnaaGreatMovedM
import Derived.Test.YtdbbooibkiicnaaGreatTreeP
set_option linter.unusedVariables false
set_option linter.unusedSimpArgs false
namespace Go.Proofs.YtdbbooibkiicnaaGreat
open Go.RowKit
/-- A list whose kids are small numbers. -/
def KidsB (l : List Nd) : Prop := ∀ n ∈ l, n.kids.length ≤ 2 ∧ ∀ k ∈ n.kids, -100000 ≤ k ∧ k ≤ 100000
theorem ndBlk' {w : World} {g : Nat} {t : TypeId} {a b c d e : Value} (h : Blk w g t #[a, b, c, d, e]) :
    w.cell? ⟨g, 0, none⟩ = some a ∧ w.cell? ⟨g, 1, none⟩ = some b ∧ w.cell? ⟨g, 2, none⟩ = some c ∧ w.cell? ⟨g, 3, none⟩ = some d ∧ w.cell? ⟨g, 4, none⟩ = some e := blk5 h
set_option maxRecDepth 100000 in
set_option maxHeartbeats 4000000 in
theorem moved_w {F : Fz} {w : World} (hF : Sat F w) (l : List Nd) (hn : l.length ≤ 1000) (A : Option Addr) (n c : Nat) (hl : NodesF F A n l) (hkb : KidsB l) (d : Int) (hd1 : -100000 ≤ d) (hd2 : d ≤ 100000) :
    Calls Tryz.prog 102 #[.slice A n c, .int .i64 d] w (RetN F w (l.map (shiftN d))) := by
  obtain ⟨rfl, hl2⟩ := hl
  have hmk := makeN w l.length (by omega)
  have hFg : F w.heap.size = none := hF.none_ (Nat.le_refl _)
  have HFg := Lib.hid hFg
  clear hFg
  go_enter Tryz.func102, Tryz.ntmps102
  go_wp2_with fail
  go_loopw [6, 7, 8, 14] (fun _ _ _ i wr => ∃ (k : Nat) (F' : Fz), k ≤ l.length ∧ i = .int .i64 k ∧ Below w.heap.size w wr ∧ Sat F' wr ∧ Fle w F F' ∧ Hid (F' w.heap.size = none) ∧ NodesG F' wr w.heap.size l.length ((l.take k).map (shiftN d))) (fun _ _ _ i _ => l.length - (intOf i).toNat)
  case atStart => exact ⟨0, F, Nat.zero_le _, rfl, balloc _ _, hF.alloc _, Fle.refl _ _, HFg, NodesG.made F _ _ _ _ (Blk.new _ _ _)⟩
  case round =>
    obtain ⟨k, F', hk, rfl, hbl, hF', hle, hFg', hG⟩ := hrel
    obtain ⟨W, hW⟩ : ∃ W, W = wr := ⟨_, rfl⟩
    subst hW
    by_cases hlt : k < l.length
    · obtain ⟨ad, rfl, hL⟩ := hl2 (by omega)
      obtain ⟨Ak, ck, hck, hK, hd⟩ := hL k hlt
      obtain ⟨c0, c1, c2, c3, c4⟩ := hd.sat (hF.below hbl)
      have hltI : (k : Int) < (l.length : Int) := by omega
      have htk : (l.take (k + 1)).map (shiftN d) = (l.take k).map (shiftN d) ++ [shiftN d l[k]] := by
        rw [List.take_succ_eq_append_getElem hlt, List.map_append]; rfl
      obtain ⟨hk2, hkk⟩ := hkb _ (List.getElem_mem hlt)
      generalize hnd : l[k] = nd at *
      have HTK := Lib.hid htk
      have HKK := Lib.hid hkk
      have hC := fun (W : World) (h : Sat F' W) => clone_w h nd.kids Ak nd.kids.length ck (by omega) (hK.cle hle.cle)
      have HC := Lib.hid hC
      clear hnd htk hkk hd hC
      have hgr := hG.lt
      have hFn : F' W.heap.size = none := hF'.none_ (Nat.le_refl _)
      have HFn := Lib.hid hFn
      have hNB := Blk.new W 62 #[.int .i64 nd.kind, .string nd.name, .int .i64 nd.lo, .int .i64 nd.hi, .slice Ak nd.kids.length ck]
      clear hFn
      go_wp2_with (go_at_call 127; refine (HC.out _ (hF'.alloc _)).mono ?_; rintro e w1 ⟨v, rfl, hO, hw1, hF1⟩; obtain ⟨A1, c1', rfl, hc1, _, hI⟩ := IntsB.of hO; have hNB1 := hNB.call hw1; obtain ⟨f0, f1, f2, f3, f4⟩ := ndBlk (n := nd) hNB1; have fz4 := hNB1.frozen 4)
      have hbw1 : Below w.heap.size w w1 := hbl.trans (((balloc _ _).trans (hw1.mono (by simp))).mono hbl.size)
      have hG1 := (hG.alloc (.cells #[.int .i64 nd.kind, .string nd.name, .int .i64 nd.lo, .int .i64 nd.hi, .slice Ak nd.kids.length ck] 62)).call hw1
      have hz1 : W.heap.size + 1 ≤ w1.heap.size := by have := hw1.size; simpa using this
      go_loopw [8, 26] (fun _ j wr2 => ∃ jj : Nat, jj ≤ nd.kids.length ∧ j = .int .i64 jj ∧ Below w.heap.size w wr2 ∧ Sat F' wr2 ∧ NodesG F' wr2 w.heap.size l.length ((l.take k).map (shiftN d)) ∧ Blk wr2 W.heap.size 62 #[.int .i64 nd.kind, .string nd.name, .int .i64 nd.lo, .int .i64 nd.hi, .slice A1 nd.kids.length c1'] ∧ IntsB F' wr2 (W.heap.size + 1) A1 (upto (· + d) jj nd.kids)) (fun _ j _ => nd.kids.length - (intOf j).toNat)
      case atStart =>
        exact ⟨0, Nat.zero_le _, rfl, hbw1.setCell hbl.size _, hF1.setCell HFn.out _, hG1.far (by show w.heap.size ≠ W.heap.size; omega) _, hNB1.set_ 4 _, by
          rw [upto_zero]
          have hI' : IntsB F' w1 (W.heap.size + 1) A1 nd.kids := by simpa using hI
          exact hI'.far (by show W.heap.size < W.heap.size + 1; omega) _⟩
      case round =>
        obtain ⟨jj, hjj, rfl, hb2, hF2, hG2, hN2, hI2⟩ := hrel
        obtain ⟨g0, g1, g2, g3, g4⟩ := ndBlk' hN2
        by_cases hjl : jj < nd.kids.length
        · obtain ⟨g', rfl, hg', hFg2, hBL⟩ := hI2 (by rw [length_upto]; omega)
          have hcz := hBL.cell (j := jj) (u := .int .i64 nd.kids[jj]) (by rw [List.getElem?_map, upto_get _ hjl]; rfl)
          have hfz := hBL.frozen jj
          obtain ⟨hK1, hK2⟩ := HKK.out _ (List.getElem_mem hjl)
          have HU := Lib.hid (upto_set (· + d) hjl)
          have hjI : (jj : Int) < (nd.kids.length : Int) := by omega
          have hwz := hbl.size
          have hwg : w.heap.size ≤ g' := by omega
          have hn1 : w.heap.size ≠ g' := by omega
          have hn2 : W.heap.size ≠ g' := by omega
          generalize nd.kids[jj] = K at *
          go_wp2_with fail
          go_roundw
          case rel => exact ⟨jj + 1, by omega, by go_num, hb2.setCell hwg _, hF2.setCell hFg2 _, hG2.far hn1 _, hN2.far hn2 _, fun _ => ⟨g', rfl, hg', hFg2, by
            have h5 := hBL.set_ jj (.int .i64 (K + d))
            have h6 : ((upto (· + d) jj nd.kids).map (Value.int .i64)).set jj (.int .i64 (K + d)) = (upto (· + d) (jj + 1) nd.kids).map (Value.int .i64) := by rw [← List.map_set, HU.out]
            rw [← h6]
            exact h5⟩⟩
          case measure => simp [intOf]; omega
        · obtain rfl : jj = nd.kids.length := by omega
          have hdec : decide ((nd.kids.length : Int) < (nd.kids.length : Int)) = false := decide_eq_false (by omega)
          rw [upto_all _ (Nat.le_refl _)] at hI2
          obtain ⟨F2, hF3, hle2, hRd, hFb⟩ := hI2.freeze hF2 w (by omega)
          have hlen : ((l.take k).map (shiftN d)).length = k := by simp; omega
          obtain ⟨hroom, hfzg⟩ := hG2.room (by rw [hlen]; exact hlt)
          have hst := (hG2.cle hle2.cle).store (nd := shiftN d nd) (A := A1) (c := c1') (by rw [hlen]; exact hlt) (by simpa [shiftN] using hc1) hRd
          rw [hlen] at hroom hst
          rw [← HTK.out] at hst
          have hkl : (shiftN d nd).kids.length = nd.kids.length := by simp [shiftN]
          rw [hkl] at hst
          have HST := Lib.hid hst
          obtain ⟨v0, hv0⟩ := hroom 0 (by omega)
          obtain ⟨v1, hv1⟩ := hroom 1 (by omega)
          obtain ⟨v2, hv2⟩ := hroom 2 (by omega)
          obtain ⟨v3, hv3⟩ := hroom 3 (by omega)
          obtain ⟨v4, hv4⟩ := hroom 4 (by omega)
          rw [Nat.add_zero] at hv0
          have z0 := hfzg (k * 5)
          have z1 := hfzg (k * 5 + 1)
          have z2 := hfzg (k * 5 + 2)
          have z3 := hfzg (k * 5 + 3)
          have z4 := hfzg (k * 5 + 4)
          have hFw : F2 w.heap.size = none := (hFb _ (by omega)).trans hFg'.out
          have HFw := Lib.hid hFw
          clear hst hroom hfzg hFw hlen hkl
          go_wp2_with fail
          go_roundw
          case rel => exact ⟨k + 1, F2, by omega, by go_num, below_set5 hb2 (Nat.le_refl _) _ _ _ _ _ _, hF3.set5 HFw.out _ _ _ _ _ _, hle.trans hle2 (Nat.le_refl _), HFw, HST.out⟩
          case measure => simp [intOf]; omega
    · obtain rfl : k = l.length := by omega
      have hdec : decide ((l.length : Int) < (l.length : Int)) = false := decide_eq_false (by omega)
      rw [List.take_length] at hG
      obtain ⟨F2, h1, h2, h3⟩ := hG.freeze (by simp) hF' hFg'.out w (Nat.le_refl _)
      go_wp2_with fail
      go_ret
      exact ⟨_, l.length, F2, by rw [List.length_map] <;> rfl, by simp, by rw [List.length_map]; exact h3, hbl, h1, hle.trans h2 (Nat.le_refl _)⟩
end Go.Proofs.YtdbbooibkiicnaaGreat
