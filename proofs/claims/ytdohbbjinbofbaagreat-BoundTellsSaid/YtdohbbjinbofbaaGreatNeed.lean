/- The walk of the reference's need. -/
import Derived.Test.YtdohbbjinbofbaaGreatNeedA
import Derived.Test.YtdohbbjinbofbaaGreatBoundI
import Derived.Deep.CutRange
set_option linter.unusedVariables false
set_option linter.unusedSimpArgs false
/-! The walk of the reference's need. -/
namespace Go.Proofs.YtdohbbjinbofbaaGreat
open Go.RowKit
def needV (R E S Fl : Nat) : Value := .agg #[.int .i64 (R : Nat), .int .i64 (E : Nat), .int .i64 (S : Nat), .int .i64 (Fl : Nat)]
def RetNeed (R E S Fl : Nat) (w : World) (e : Ending) (w' : World) : Prop := e = .returned (needV R E S Fl) ∧ Below w.heap.size w w'
set_option maxRecDepth 100000 in
set_option maxHeartbeats 1000000 in
theorem needLeaf_w {F : Fz} {w : World} (hF : Sat F w) (l : List Nd) (A : Option Addr) (n c : Nat) (hl : NodesF F A n l) (i : Nat) (hi : i < l.length) (hk : l[i].kind = 1 ∨ l[i].kind = 2 ∨ l[i].kind = 3) (C : Int) :
    Calls Tryz.prog 54 #[.slice A n c, .int .i64 (i : Nat), .int .i64 C] w (RetNeed 1 0 0 0 w) := by
  obtain ⟨hln, hl2⟩ := hl
  obtain ⟨ad, rfl, hL⟩ := hl2 (by omega)
  obtain ⟨Ak, ck, _, _, hd⟩ := hL i hi
  obtain ⟨c0, c1, c2, c3, c4⟩ := hd.sat (hF.alloc (.cells #[.int .i64 0, .int .i64 0, .int .i64 0, .int .i64 0] 49))
  have hiI : (i : Int) < (n : Int) := by omega
  generalize l[i] = nd at *
  obtain ⟨kind, name, lo, hi', kk⟩ := nd
  dsimp only at *
  clear hl2 hL hd hln
  rcases hk with e | e | e
  all_goals
    subst e
    go_enter Tryz.func54, Tryz.ntmps54
    go_wp2_with fail
    exact bodyPost_ret (v := needV 1 0 0 0) (by simp [results, Tryz.results54, go_sem, needV]) rfl ⟨rfl, (balloc _ _).alloc (by simp) _⟩
theorem blk4 {w : World} {g : Nat} {t : TypeId} {a b c d : Value} (h : Blk w g t #[a, b, c, d]) : w.cell? ⟨g, 0, none⟩ = some a ∧ w.cell? ⟨g, 1, none⟩ = some b ∧ w.cell? ⟨g, 2, none⟩ = some c ∧ w.cell? ⟨g, 3, none⟩ = some d ∧ w.frozen? ⟨g, 0, none⟩ = false ∧ w.frozen? ⟨g, 1, none⟩ = false ∧ w.frozen? ⟨g, 2, none⟩ = false ∧ w.frozen? ⟨g, 3, none⟩ = false := by
  refine ⟨?_, ?_, ?_, ?_, h.frozen 0, h.frozen 1, h.frozen 2, h.frozen 3⟩ <;> rw [h.cell] <;> rfl
theorem set4 {w : World} {g : Nat} {t : TypeId} {a b c d : Value} (h : Blk w g t #[a, b, c, d]) (x0 x1 x2 x3 : Value) : Blk ((((w.setCell ⟨g, 0, none⟩ x0).setCell ⟨g, 1, none⟩ x1).setCell ⟨g, 2, none⟩ x2).setCell ⟨g, 3, none⟩ x3) g t #[x0, x1, x2, x3] := (((h.set_ 0 x0).set_ 1 x1).set_ 2 x2).set_ 3 x3
theorem bel4 {B : Nat} {w w' : World} (h : Below B w w') {g : Nat} (hg : B ≤ g) (x0 x1 x2 x3 : Value) : Below B w ((((w'.setCell ⟨g, 0, none⟩ x0).setCell ⟨g, 1, none⟩ x1).setCell ⟨g, 2, none⟩ x2).setCell ⟨g, 3, none⟩ x3) :=
  (((h.setCell (p := ⟨g, 0, none⟩) hg x0).setCell (p := ⟨g, 1, none⟩) hg x1).setCell (p := ⟨g, 2, none⟩) hg x2).setCell (p := ⟨g, 3, none⟩) hg x3
theorem far4 {w : World} {g g' : Nat} {t : TypeId} {a : Array Value} (h : Blk w g t a) (hne : g ≠ g') (x0 x1 x2 x3 : Value) : Blk ((((w.setCell ⟨g', 0, none⟩ x0).setCell ⟨g', 1, none⟩ x1).setCell ⟨g', 2, none⟩ x2).setCell ⟨g', 3, none⟩ x3) g t a :=
  (((h.far (p := ⟨g', 0, none⟩) hne x0).far (p := ⟨g', 1, none⟩) hne x1).far (p := ⟨g', 2, none⟩) hne x2).far (p := ⟨g', 3, none⟩) hne x3
abbrev Z4 : Array Value := #[.int .i64 0, .int .i64 0, .int .i64 0, .int .i64 0]
set_option maxRecDepth 100000 in
set_option maxHeartbeats 1000000 in
theorem needNot_w {F : Fz} {w : World} (hF : Sat F w) (l : List Nd) (A : Option Addr) (n c : Nat) (hl : NodesF F A n l) (i : Nat) (hi : i < l.length) (hk : l[i].kind = 4) (C : Int) (j : Int) (hkk : l[i].kids = [j]) (R E S Fl : Nat)
    (hK : ∀ X, Sat F X → Calls Tryz.prog 54 #[.slice A n c, .int .i64 j, .int .i64 C] X (RetNeed R E S Fl X)) :
    Calls Tryz.prog 54 #[.slice A n c, .int .i64 (i : Nat), .int .i64 C] w (RetNeed R E S Fl w) := by
  obtain ⟨hln, hl2⟩ := hl
  obtain ⟨ad, rfl, hL⟩ := hl2 (by omega)
  obtain ⟨Ak, ck, _, hKd, hd⟩ := hL i hi
  obtain ⟨c0, c1, c2, c3, c4⟩ := hd.sat (hF.alloc (.cells #[.int .i64 0, .int .i64 0, .int .i64 0, .int .i64 0] 49))
  have hiI : (i : Int) < (n : Int) := by omega
  generalize l[i] = nd at *
  obtain ⟨kind, name, lo, hi', kk⟩ := nd
  dsimp only at *
  subst hk hkk
  obtain ⟨ak, v, rfl, hv0, hk0⟩ := hKd.at1 (k := 0) (by simp)
  obtain rfl : Value.int .i64 j = v := by simpa using hv0
  rw [show ak.add 0 = ak by unfold Addr.add; simp] at hk0
  have hb2 := (balloc w (.cells #[.int .i64 0, .int .i64 0, .int .i64 0, .int .i64 0] 49)).alloc (by simp) (.cells #[.int .i64 4, .string name, .int .i64 lo, .int .i64 hi', .slice (some ak) 1 ck] 45)
  have y0 := (hF.below hb2).cell hk0
  have hF2 := hF.below hb2
  have HBr := Lib.hid ((Blk.new w 49 #[.int .i64 0, .int .i64 0, .int .i64 0, .int .i64 0]).alloc (.cells #[.int .i64 4, .string name, .int .i64 lo, .int .i64 hi', .slice (some ak) 1 ck] 45))
  have HK := Lib.hid hK
  clear hl2 hL hd hln hKd hK hv0 hk0
  go_enter Tryz.func54, Tryz.ntmps54
  go_wp2_with (go_at_call 54; refine (HK.out _ hF2).mono ?_; rintro e w5 ⟨rfl, hw5⟩; unfold needV; obtain ⟨r0, r1, r2, r3, f0, f1, f2, f3⟩ := blk4 (HBr.out.call hw5))
  obtain ⟨q0, q1, q2, q3, _, _, _, _⟩ := blk4 (set4 (HBr.out.call hw5) (.int .i64 (R : Nat)) (.int .i64 (E : Nat)) (.int .i64 (S : Nat)) (.int .i64 (Fl : Nat)))
  exact bodyPost_ret (v := needV R E S Fl) (by simp [results, Tryz.results54, go_sem, needV, q0, q1, q2, q3]) rfl ⟨rfl, bel4 (bthen hb2 hw5) (Nat.le_refl _) _ _ _ _⟩
end Go.Proofs.YtdohbbjinbofbaaGreat
/-! The walk of the reference's need: a match. -/
namespace Go.Proofs.YtdohbbjinbofbaaGreat
open Go.RowKit
theorem rd_far {w : World} {size n : Nat} {A : Option Addr} {xs : List Value} (h : Rd (heapF w) size A n xs) {p : Addr} (hne : ∀ a, A = some a → a.block ≠ p.block) (v : Value) : Rd (heapF (w.setCell p v)) size A n xs := by
  refine ⟨h.1, fun h0 => ?_⟩
  obtain ⟨ad, e, hc⟩ := h.2 h0
  refine ⟨ad, e, fun j u hu => ?_⟩
  have := hc j u hu
  unfold Fz.cell heapF at this ⊢
  rw [Below.heap_setCell w p v _ (by rw [block_of_add]; exact hne ad e)]
  exact this
theorem rd_below {w w' : World} {size n : Nat} {A : Option Addr} {xs : List Value} (h : Rd (heapF w) size A n xs) (hb : Below w.heap.size w w') : Rd (heapF w') size A n xs := h.heap ((sat_heapF w).below hb)
set_option maxRecDepth 100000 in
set_option maxHeartbeats 4000000 in
theorem needMatch_core {F : Fz} {w : World} (hF : Sat F w) (l : List Nd) (A : Option Addr) (n c : Nat) (hl : NodesF F A n l) (i : Nat) (hi : i < l.length) (hib : i ≤ 1000) (kind : Int) (hk : l[i].kind = kind) (hkm : kind = 16 ∨ kind = 17) (hkk : l[i].kids = [(i : Int) - 1]) (C : Nat) (hC : C ≤ 4096)
    (q : List Nd) (Wd V M : Nat) (hM : C * (2 * Wd + V + 1) = M) (hWd : Wd ≤ 1000) (hV : V ≤ 1000) (Wi : Nat) (hWi : Wi ≤ 10000)
    (N : Nat) (hN : N ≤ 1000) (XS : List Int) (hXS : XS.length = N) (PS : Nat → Nat) (hXg : ∀ j, j < N → XS[j]? = some (PS j : Int))
    (fR fE fS fF sR sE sS sF : Nat → Nat) (h0 : sR 0 = 1 ∧ sE 0 = 0 ∧ sS 0 = M ∧ sF 0 = 0) (hs : ∀ j, j < N → sR (j + 1) = sR j + fR j ∧ sE (j + 1) = max (sE j) (fE j) ∧ sS (j + 1) = sS j + fS j ∧ sF (j + 1) = max (sF j) (fF j))
    (hbd : ∀ j, j ≤ N → sR j ≤ 2000000 ∧ sE j ≤ 1000000 ∧ sS j ≤ 2000000000000 ∧ sF j ≤ 1000000000000)
    (hP : ∀ X, Sat F X → Calls Tryz.prog 36 #[.slice A n c, .int .i64 ((i : Int) - 1)] X (RetN F X q))
    (hSz : ∀ X G, Sat G X → ∀ B m e, NodesF G B m q → Calls Tryz.prog 86 #[.slice B m e] X fun e w' => e = .returned (.tuple #[.int .i64 (Wd : Nat), .int .i64 (V : Nat)]) ∧ Below X.heap.size X w')
    (hPs : ∀ X, Sat F X → Calls Tryz.prog 87 #[.slice A n c, .int .i64 (i : Nat)] X (RetIF X XS))
    (hWw : ∀ X, Calls Tryz.prog 37 #[.agg #[.int .i64 l[i].lo, .int .i64 l[i].hi]] X fun e w' => e = .returned (.int .i64 (Wi : Nat)) ∧ Below X.heap.size X w')
    (hK : ∀ j, j < N → ∀ X, Sat F X → Calls Tryz.prog 54 #[.slice A n c, .int .i64 (PS j : Nat), .int .i64 (C : Nat)] X (RetNeed (fR j) (fE j) (fS j) (fF j) X)) :
    Calls Tryz.prog 54 #[.slice A n c, .int .i64 (i : Nat), .int .i64 (C : Nat)] w
      (RetNeed (sR N) (if kind = 17 then sE N + sR N else sE N) (if kind = 17 then sS N else sS N + Wi * (1 + Wd)) (if kind = 17 then sF N + (1 + Wd + sS N) else sF N) w) := by
  obtain ⟨hln, hl2⟩ := hl
  obtain ⟨ad, rfl, hL⟩ := hl2 (by omega)
  obtain ⟨Ak, ck, _, hKd, hd⟩ := hL i hi
  obtain ⟨c0, c1, c2, c3, c4⟩ := hd.sat (hF.alloc (.cells #[.int .i64 0, .int .i64 0, .int .i64 0, .int .i64 0] 49))
  have hiI : (i : Int) < (n : Int) := by omega
  generalize l[i] = nd at *
  obtain ⟨kind', name, lo, hi', kk⟩ := nd
  dsimp only at *
  subst hkk hk
  obtain ⟨ak, v, rfl, hv0, hk0⟩ := hKd.at1 (k := 0) (by simp)
  obtain rfl : Value.int .i64 ((i : Int) - 1) = v := by simpa using hv0
  rw [show ak.add 0 = ak by unfold Addr.add; simp] at hk0
  have hb2 := (balloc w (.cells #[.int .i64 0, .int .i64 0, .int .i64 0, .int .i64 0] 49)).alloc (by simp) (.cells #[.int .i64 kind', .string name, .int .i64 lo, .int .i64 hi', .slice (some ak) 1 ck] 45)
  have hF2 := hF.below hb2
  have y0 := hF2.cell hk0
  have yu := y0
  have HBr := Lib.hid ((Blk.new w 49 #[.int .i64 0, .int .i64 0, .int .i64 0, .int .i64 0]).alloc (.cells #[.int .i64 kind', .string name, .int .i64 lo, .int .i64 hi', .slice (some ak) 1 ck] 45))
  have HBn := Lib.hid (Blk.new2 w (.cells #[.int .i64 0, .int .i64 0, .int .i64 0, .int .i64 0] 49) 45 #[.int .i64 kind', .string name, .int .i64 lo, .int .i64 hi', .slice (some ak) 1 ck])
  have hz2 : ((w.alloc (.cells #[.int .i64 0, .int .i64 0, .int .i64 0, .int .i64 0] 49)).alloc (.cells #[.int .i64 kind', .string name, .int .i64 lo, .int .i64 hi', .slice (some ak) 1 ck] 45)).heap.size = w.heap.size + 2 := by simp
  have hal := hF2.clt hk0
  obtain ⟨W, hW⟩ : ∃ W, W = (w.alloc (.cells #[.int .i64 0, .int .i64 0, .int .i64 0, .int .i64 0] 49)).alloc (.cells #[.int .i64 kind', .string name, .int .i64 lo, .int .i64 hi', .slice (some ak) 1 ck] 45) := ⟨_, rfl⟩
  rw [← hW] at hb2 hF2 y0 HBr HBn hz2 hal
  have HW := Lib.hid hW
  have HK := Lib.hid hK
  have HP := Lib.hid hP
  have HSz := Lib.hid hSz
  have HPs := Lib.hid hPs
  have HWw := Lib.hid hWw
  have HXg := Lib.hid hXg
  have HXS := Lib.hid hXS
  have HS := Lib.hid hs
  have HB := Lib.hid hbd
  have H0 := Lib.hid h0
  obtain ⟨W2, hW2⟩ : ∃ W2, 2 * Wd = W2 := ⟨_, rfl⟩
  obtain ⟨W3, hW3⟩ : ∃ W3, W2 + V = W3 := ⟨_, rfl⟩
  obtain ⟨W4, hW4⟩ : ∃ W4, W3 + 1 = W4 := ⟨_, rfl⟩
  rw [hW2, hW3, hW4] at hM
  have hMb : M ≤ 100000000 := by rw [← hM]; exact Nat.le_trans (Nat.mul_le_mul hC (show W4 ≤ 3001 by omega)) (by omega)
  have wA : IntKind.i64.wrap (2 * (Wd : Int)) = (W2 : Int) := by rw [show 2 * (Wd : Int) = (W2 : Int) by omega]; exact wrap_i (by omega) (by omega)
  have wB : IntKind.i64.wrap ((W2 : Int) + (V : Int)) = (W3 : Int) := by rw [show (W2 : Int) + (V : Int) = (W3 : Int) by omega]; exact wrap_i (by omega) (by omega)
  have wC : IntKind.i64.wrap ((W3 : Int) + 1) = (W4 : Int) := by rw [show (W3 : Int) + 1 = (W4 : Int) by omega]; exact wrap_i (by omega) (by omega)
  have wD : IntKind.i64.wrap ((C : Int) * (W4 : Int)) = (M : Int) := by rw [show (C : Int) * (W4 : Int) = (M : Int) by rw [← hM, Int.natCast_mul]]; exact wrap_i (by omega) (by omega)
  have hkm1 : (kind' == 4) = false := by rcases hkm with rfl | rfl <;> rfl
  have hkm2 : (kind' == 5) = false := by rcases hkm with rfl | rfl <;> rfl
  have hkm3 : (kind' == 6) = false := by rcases hkm with rfl | rfl <;> rfl
  clear hW hl2 hL hd hln hKd hK hv0 hk0 hP hSz hPs hWw hXg hs hbd h0 hM hW2 hW3 hW4 hXS
  go_enter Tryz.func54, Tryz.ntmps54
  rcases hkm with rfl | rfl
  all_goals
    go_wp2_with fail
    rw [← HW.out]
    obtain ⟨m0, m1, m2, m3, m4⟩ := blk5 HBn.out
    go_wp2_with (first
      | (go_at_call 36; refine (HP.out _ hF2).mono ?_; rintro e w1 ⟨A1, c1', F1, rfl, hc1, hN1, hw1, hF1, hle1⟩)
      | (go_at_call 86; refine (HSz.out _ F1 hF1 A1 _ c1' hN1).mono ?_; rintro e w2 ⟨rfl, hw2⟩; have hb3 := bthen hw1 hw2; have hF3 := hF2.below hb3)
      | (go_at_call 87; refine (HPs.out _ (hF3.alloc _)).mono ?_; rintro e w4 ⟨A4, c4', rfl, hc4, hR4, hw4, hfr⟩; rw [HXS.out] at hR4; rw [HXS.out]))
    have hG := (Blk.new w2 49 #[.int .i64 1, .int .i64 0, .int .i64 (M : Nat), .int .i64 0]).call hw4
    have hz3 := hb3.size
    have hb4 : Below W.heap.size W w4 := (hb3.alloc hz3 _).trans (hw4.mono (by simp; omega))
    have hz4 : w2.heap.size + 1 ≤ w4.heap.size := by have := hw4.size; simp at this; omega
    have HFR : Hid (∀ a, A4 = some a → a.block ≠ w2.heap.size) := Lib.hid (fun a ha => by have := hfr a ha; simp at this; omega)
    have hG0 := H0.out
    replace hG : Blk w4 w2.heap.size 49 #[.int .i64 (sR 0 : Nat), .int .i64 (sE 0 : Nat), .int .i64 (sS 0 : Nat), .int .i64 (sF 0 : Nat)] := by rw [hG0.1, hG0.2.1, hG0.2.2.1, hG0.2.2.2]; exact hG
    have hF4 := hF2.below hb4
    clear hG0 hfr hw1 hw2 hF1 hN1 hle1 hF3 m0 m1 m2 m3 m4 c0 c1 c2 c3 c4 yu hc1 hc4 hw4
    go_loopw [14, 15, 94] (fun _ _ v94 wr => ∃ j : Nat, j ≤ N ∧ v94 = .int .i64 j ∧ Blk wr w2.heap.size 49 #[.int .i64 (sR j : Nat), .int .i64 (sE j : Nat), .int .i64 (sS j : Nat), .int .i64 (sF j : Nat)] ∧ Below W.heap.size W wr ∧ Rd (heapF wr) 1 A4 N (XS.map encI)) (fun _ _ v94 _ => N - (intOf v94).toNat)
    case atStart => exact ⟨0, Nat.zero_le _, rfl, hG, hb4, hR4⟩
    case round =>
      obtain ⟨j, hj, rfl, hGr, hbl, hRr⟩ := hrel
      have hFr := hF2.below hbl
      have hzl := hbl.size
      by_cases hlt : j < N
      · have hjI : (j : Int) < (N : Int) := by omega
        obtain ⟨b1, v1, rfl, hv1, hc1⟩ := hRr.at1 hlt
        rw [List.getElem?_map, HXg.out j hlt] at hv1
        obtain rfl : Value.int .i64 (PS j : Nat) = v1 := by simpa [encI] using hv1
        have z1 := (sat_heapF wr).cell hc1
        have hsj := HS.out j hlt
        have hbj := HB.out j hj
        have hbj1 := HB.out (j + 1) (by omega)
        have HKj := Lib.hid (HK.out j hlt)
        have HFRj := Lib.hid (HFR.out b1 rfl)
        have HRr := Lib.hid hRr
        obtain ⟨NR, hNR⟩ : ∃ x, sR (j + 1) = x := ⟨_, rfl⟩
        obtain ⟨NE, hNE⟩ : ∃ x, sE (j + 1) = x := ⟨_, rfl⟩
        obtain ⟨NS, hNS⟩ : ∃ x, sS (j + 1) = x := ⟨_, rfl⟩
        obtain ⟨NF, hNF⟩ : ∃ x, sF (j + 1) = x := ⟨_, rfl⟩
        have HNR := Lib.hid hNR
        have HNE := Lib.hid hNE
        have HNS := Lib.hid hNS
        have HNF := Lib.hid hNF
        rw [hNR, hNE, hNS, hNF] at hsj hbj1
        clear hNR hNE hNS hNF hv1
        generalize sR j = VR at *
        generalize sE j = VE at *
        generalize sS j = VS at *
        generalize sF j = VF at *
        generalize fR j = UR at *
        generalize fE j = UE at *
        generalize fS j = US at *
        generalize fF j = UF at *
        have wR : IntKind.i64.wrap ((VR : Int) + (UR : Int)) = (NR : Int) := by rw [show (VR : Int) + (UR : Int) = (NR : Int) by omega]; exact wrap_i (by omega) (by omega)
        have wS : IntKind.i64.wrap ((VS : Int) + (US : Int)) = (NS : Int) := by rw [show (VS : Int) + (US : Int) = (NS : Int) by omega]; exact wrap_i (by omega) (by omega)
        have wE : max (VE : Int) (UE : Int) = (NE : Int) := by omega
        have wF : max (VF : Int) (UF : Int) = (NF : Int) := by omega
        have hVR : VR ≤ 2000000 := by omega
        have hUR : UR ≤ 2000000 := by omega
        have hVS : VS ≤ 2000000000000 := by omega
        have hUS : US ≤ 2000000000000 := by omega
        have HGr := Lib.hid hGr
        obtain ⟨g0, g1, g2, g3, _, _, _, _⟩ := blk4 hGr
        clear hsj hbj hbj1 hGr hRr hc1
        go_wp2_with (go_at_call 54; refine (HKj.out _ hFr).mono ?_; rintro e w5 ⟨rfl, hw5⟩; unfold needV; have hGc := HGr.out.call hw5; obtain ⟨q0, q1, q2, q3, f0, f1, f2, f3⟩ := blk4 hGc; have hgl := hGc.lt)
        have hkb := newSS w5 ⟨w2.heap.size, 0, none⟩ ⟨w2.heap.size, 2, none⟩ (.int .i64 (NR : Nat)) (.int .i64 (NS : Nat)) 49 #[.int .i64 (UR : Nat), .int .i64 (UE : Nat), .int .i64 (US : Nat), .int .i64 (UF : Nat)]
        have hgb : Blk (((w5.setCell ⟨w2.heap.size, 0, none⟩ (.int .i64 (NR : Nat))).setCell ⟨w2.heap.size, 2, none⟩ (.int .i64 (NS : Nat))).alloc (.cells #[.int .i64 (UR : Nat), .int .i64 (UE : Nat), .int .i64 (US : Nat), .int .i64 (UF : Nat)] 49)) w2.heap.size 49 #[.int .i64 (NR : Nat), .int .i64 (VE : Nat), .int .i64 (NS : Nat), .int .i64 (VF : Nat)] := ((hGc.set_ 0 _).set_ 2 _).alloc _
        have hbb : Below W.heap.size W (((w5.setCell ⟨w2.heap.size, 0, none⟩ (.int .i64 (NR : Nat))).setCell ⟨w2.heap.size, 2, none⟩ (.int .i64 (NS : Nat))).alloc (.cells #[.int .i64 (UR : Nat), .int .i64 (UE : Nat), .int .i64 (US : Nat), .int .i64 (UF : Nat)] 49)) :=
          ((((hbl.trans (hw5.mono hzl)).setCell (p := ⟨w2.heap.size, 0, none⟩) hz3 _).setCell (p := ⟨w2.heap.size, 2, none⟩) hz3 _).alloc (by simp; have := hw5.size; omega) _)
        have hrb : Rd (heapF (((w5.setCell ⟨w2.heap.size, 0, none⟩ (.int .i64 (NR : Nat))).setCell ⟨w2.heap.size, 2, none⟩ (.int .i64 (NS : Nat))).alloc (.cells #[.int .i64 (UR : Nat), .int .i64 (UE : Nat), .int .i64 (US : Nat), .int .i64 (UF : Nat)] 49))) 1 (some b1) N (XS.map encI) :=
          rd_below (rd_far (rd_far (rd_below HRr.out hw5) (p := ⟨w2.heap.size, 0, none⟩) HFR.out _) (p := ⟨w2.heap.size, 2, none⟩) HFR.out _) (balloc _ _)
        have hne : w5.heap.size ≠ w2.heap.size := by omega
        obtain ⟨w6, hw6⟩ : ∃ w6, ((w5.setCell ⟨w2.heap.size, 0, none⟩ (.int .i64 (NR : Nat))).setCell ⟨w2.heap.size, 2, none⟩ (.int .i64 (NS : Nat))).alloc (.cells #[.int .i64 (UR : Nat), .int .i64 (UE : Nat), .int .i64 (US : Nat), .int .i64 (UF : Nat)] 49) = w6 := ⟨_, rfl⟩
        rw [hw6] at hkb hgb hbb hrb
        rw [hw6]
        clear hw6 f0 f1 f2 f3 q0 q1 q2 q3 g0 g1 g2 g3 hw5 hGc
        obtain ⟨g0, g1, g2, g3, f0, f1, f2, f3⟩ := blk4 hgb
        obtain ⟨q0, q1, q2, q3, _, _, _, _⟩ := blk4 hkb
        have HGB := Lib.hid hgb
        have HBB := Lib.hid hbb
        have HRB := Lib.hid hrb
        have HZ3 := Lib.hid hz3
        clear hFr hib hzl hz3 hz4 hb3 hb4 hG hR4 hF2 hF hi hiI wA wB wC wD hMb hWd hV hC hWi hkm1 hkm2 hkm3 hF4 hrb hbb hgb hkb
        go_region
        all_goals
          go_wp2_with fail
          go_roundw
          case rel => exact ⟨j + 1, by omega, by go_num, by rw [HNR.out, HNE.out, HNS.out, HNF.out]; exact (HGB.out.set_ 1 _).set_ 3 _, bel_eqv ((HBB.out.setCell (p := ⟨w2.heap.size, 1, none⟩) HZ3.out (.int .i64 (NE : Nat))).setCell (p := ⟨w2.heap.size, 3, none⟩) HZ3.out (.int .i64 (NF : Nat))) rfl rfl rfl rfl, rd_far (rd_far HRB.out (p := ⟨w2.heap.size, 1, none⟩) HFR.out _) (p := ⟨w2.heap.size, 3, none⟩) HFR.out _⟩
          case measure => simp [intOf]; omega
      · obtain rfl : j = N := by omega
        have hdec : decide ((j : Int) < (j : Int)) = false := decide_eq_false (by omega)
        have hbN := HB.out j hj
        have HBrr := Lib.hid (HBr.out.below hbl HBr.out.lt)
        obtain ⟨r0, r1, r2, r3, rf0, rf1, rf2, rf3⟩ := blk4 HBrr.out
        have HBnn := HBn.out.below hbl HBn.out.lt
        obtain ⟨m0, m1, m2, m3, m4⟩ := blk5 HBnn
        have hnl := HBnn.lt
        generalize sR j = VR at *
        generalize sE j = VE at *
        generalize sS j = VS at *
        generalize sF j = VF at *
        have HGr := Lib.hid hGr
        have HBL := Lib.hid hbl
        obtain ⟨g0, g1, g2, g3, f0, f1, f2, f3⟩ := blk4 hGr
        have hgl := hGr.lt
        have HG0 : Hid (w.heap.size ≤ w2.heap.size) := Lib.hid (by omega)
        clear hGr hRr hbl hFr hzl hib hG hR4 hF2 hF hi hiI HS HB H0 HK HP HSz HPs HXg HXS HBr HBn HBnn hF4
        have hwg : w.heap.size ≠ w2.heap.size := by omega
        have hwg1 : w.heap.size + 1 ≠ w2.heap.size := by omega
        have hbW : Below w.heap.size w wr := hb2.trans (HBL.out.mono (by omega))
        have HBW := Lib.hid hbW
        clear hbW
        obtain ⟨T1, hT1⟩ : ∃ T1, 1 + Wd = T1 := ⟨_, rfl⟩
        obtain ⟨T2, hT2⟩ : ∃ T2, Wi * T1 = T2 := ⟨_, rfl⟩
        obtain ⟨T3, hT3⟩ : ∃ T3, VS + T2 = T3 := ⟨_, rfl⟩
        obtain ⟨T4, hT4⟩ : ∃ T4, VE + VR = T4 := ⟨_, rfl⟩
        obtain ⟨T5, hT5⟩ : ∃ T5, T1 + VS = T5 := ⟨_, rfl⟩
        obtain ⟨T6, hT6⟩ : ∃ T6, VF + T5 = T6 := ⟨_, rfl⟩
        have hT2b : T2 ≤ 20000000 := by rw [← hT2]; exact Nat.le_trans (Nat.mul_le_mul hWi (show T1 ≤ 1001 by omega)) (by omega)
        have x1 : IntKind.i64.wrap (1 + (Wd : Int)) = (T1 : Int) := by rw [show 1 + (Wd : Int) = (T1 : Int) by omega]; exact wrap_i (by omega) (by omega)
        have x2 : IntKind.i64.wrap ((Wi : Int) * (T1 : Int)) = (T2 : Int) := by rw [show (Wi : Int) * (T1 : Int) = (T2 : Int) by rw [← hT2, Int.natCast_mul]]; exact wrap_i (by omega) (by omega)
        have x3 : IntKind.i64.wrap ((VS : Int) + (T2 : Int)) = (T3 : Int) := by rw [show (VS : Int) + (T2 : Int) = (T3 : Int) by omega]; exact wrap_i (by omega) (by omega)
        have x4 : IntKind.i64.wrap ((VE : Int) + (VR : Int)) = (T4 : Int) := by rw [show (VE : Int) + (VR : Int) = (T4 : Int) by omega]; exact wrap_i (by omega) (by omega)
        have x5 : IntKind.i64.wrap ((T1 : Int) + (VS : Int)) = (T5 : Int) := by rw [show (T1 : Int) + (VS : Int) = (T5 : Int) by omega]; exact wrap_i (by omega) (by omega)
        have x6 : IntKind.i64.wrap ((VF : Int) + (T5 : Int)) = (T6 : Int) := by rw [show (VF : Int) + (T5 : Int) = (T6 : Int) by omega]; exact wrap_i (by omega) (by omega)
        have HT1 := Lib.hid hT1
        have HT2 := Lib.hid hT2
        have HT3 := Lib.hid hT3
        have HT4 := Lib.hid hT4
        have HT5 := Lib.hid hT5
        have HT6 := Lib.hid hT6
        clear hT1 hT2 hT3 hT4 hT5 hT6 hT2b hbN hWd hV hWi hC hMb wA wB wC wD hkm1 hkm2 hkm3 hz2 hz3 hz4 hb2 hb3 hb4 hal y0
        go_wp2_with fail
        first
          | (have hfar := (HBrr.out.far (p := ⟨w2.heap.size, 1, none⟩) hwg (.int .i64 (T4 : Nat))).far (p := ⟨w2.heap.size, 3, none⟩) hwg (.int .i64 (T6 : Nat))
             obtain ⟨q0, q1, q2, q3, _, _, _, _⟩ := blk4 (set4 hfar (.int .i64 (VR : Nat)) (.int .i64 (T4 : Nat)) (.int .i64 (VS : Nat)) (.int .i64 (T6 : Nat)))
             exact bodyPost_ret (v := needV VR T4 VS T6) (by simp [results, Tryz.results54, go_sem, needV, q0, q1, q2, q3]) rfl ⟨by rw [← HT6.out, ← HT5.out, ← HT4.out, ← HT1.out]; try rfl, bel4 ((HBW.out.setCell (p := ⟨w2.heap.size, 1, none⟩) HG0.out _).setCell (p := ⟨w2.heap.size, 3, none⟩) HG0.out _) (Nat.le_refl _) _ _ _ _⟩)
          | skip
        all_goals
          go_region_with (go_at_call 37; refine (HWw.out _).mono ?_; rintro e w7 ⟨rfl, hw7⟩; have s0 := (hw7.cell (p := ⟨w2.heap.size, 2, none⟩) hgl).trans g2; have s1 := (hw7.frozen (p := ⟨w2.heap.size, 2, none⟩) hgl).trans f2)
          all_goals
            have hbw7 : Below w.heap.size w w7 := HBW.out.trans ((und hw7).mono HBW.out.size)
            have hfar := (HBrr.out.call (und hw7)).far (p := ⟨w2.heap.size, 2, none⟩) hwg (.int .i64 (T3 : Nat))
            obtain ⟨u0, u1, u2, u3, uf0, uf1, uf2, uf3⟩ := blk4 hfar
            obtain ⟨v0, v1, v2, v3, vf0, vf1, vf2, vf3⟩ := blk4 (((HGr.out.call (und hw7)).set_ 2 (.int .i64 (T3 : Nat))))
            go_wp2_with fail
            obtain ⟨q0, q1, q2, q3, _, _, _, _⟩ := blk4 (set4 hfar (.int .i64 (VR : Nat)) (.int .i64 (VE : Nat)) (.int .i64 (T3 : Nat)) (.int .i64 (VF : Nat)))
            exact bodyPost_ret (v := needV VR VE T3 VF) (by simp [results, Tryz.results54, go_sem, needV, q0, q1, q2, q3]) rfl ⟨by rw [← HT3.out, ← HT2.out, ← HT1.out]; try rfl, bel4 (hbw7.setCell (p := ⟨w2.heap.size, 2, none⟩) HG0.out _) (Nat.le_refl _) _ _ _ _⟩
end Go.Proofs.YtdohbbjinbofbaaGreat
