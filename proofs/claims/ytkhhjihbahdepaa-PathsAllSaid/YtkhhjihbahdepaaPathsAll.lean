/- The walk of the law PathsAll. -/
import Derived.Test.YtkhhjihbahdepaaPathsParts
set_option linter.unusedVariables false
set_option linter.unusedSimpArgs false
namespace Go.Proofs.Ytkhhjihbahdepaa
open Go.RowKit
theorem tabs_same {w0 w1 w2 : World} {l : List Nd} {n : Nat} {v : Nat → Nat → Bool} {A B : Option Addr} {c d : Nat} (hb : Below w1.heap.size w1 w2)
    (h1 : ∀ t, treeS l = some t → regS t.root.kind = true → 0 < n → ∃ g, A = some ⟨g, 0, none⟩ ∧ c = n ∧ w0.heap.size ≤ g ∧ SqF (heapF w1) g n (reachT n v t 0))
    (h2 : ∀ t, treeS l = some t → regS t.root.kind = true → 0 < n → ∃ g, B = some ⟨g, 0, none⟩ ∧ d = n ∧ w1.heap.size ≤ g ∧ SqF (heapF w2) g n (reachT n v t 0)) :
    ∃ m, 0 < (if regL l then n else 0) → ∃ g1 g2, A = some ⟨g1, 0, none⟩ ∧ B = some ⟨g2, 0, none⟩ ∧ SqF (heapF w2) g1 (if regL l then n else 0) m ∧ SqF (heapF w2) g2 (if regL l then n else 0) m := by
  cases hreg : regL l with
  | false => exact ⟨fun _ _ => false, fun h => absurd h (by simp)⟩
  | true =>
    obtain ⟨t, ht, hr, _⟩ := ownS_yes hreg
    refine ⟨reachT n v t 0, fun h => ?_⟩
    rw [if_pos rfl] at h
    obtain ⟨g1, e1, _, _, s1⟩ := h1 t ht hr h
    obtain ⟨g2, e2, _, _, s2⟩ := h2 t ht hr h
    rw [if_pos rfl]
    exact ⟨g1, g2, e1, e2, s1.call hb, s2⟩
set_option maxRecDepth 100000 in
set_option maxHeartbeats 4000000 in
theorem pathsAll_c {F : Fz} {w : World} (hF : Sat F w) (l : List Nd) (Al : Option Addr) (nl cl : Nat) (hl : NodesF F Al nl l) (ns : List Nat) (hns : ∀ k ∈ ns, k < 65536) (B : Option Addr) (m d : Nat) (hr : Rd F 1 B m (ns.map encW)) (hcm : nl ≤ maxLen)
    (V : Option Addr) (nV cV : Nat) (vs : List (List (BitVec 64))) (hvs : RdR F V nV vs) :
    Calls Try.prog 6 #[.slice Al nl cl, .slice B m d, .slice V nV cV] w fun e w' => e = .returned (.bool true) ∧ Below w.heap.size w w' := by
  unfold maxLen at hcm
  by_cases hbig : 200 < nl
  · have hbI : (200 : Int) < (nl : Int) := by omega
    go_enter Try.func6, Try.ntmps6
    go_wp2_with (go_at_call 18; refine (awake14_w _).mono ?_; rintro e w1 ⟨rfl, hb1⟩)
    go_ret
    exact ⟨rfl, hb1⟩
  have hbI : decide ((200 : Int) < (nl : Int)) = false := decide_eq_false (by omega)
  have hbN : decide (200 < nl) = false := decide_eq_false hbig
  by_cases hbig2 : 12 < nV
  · have hvI : decide ((12 : Int) < (nV : Int)) = true := decide_eq_true (by omega)
    have hvN2 : decide (12 < nV) = true := decide_eq_true hbig2
    clear hbig
    go_enter Try.func6, Try.ntmps6
    go_wp2_with (go_at_call 18; refine (awake14_w _).mono ?_; rintro e w1 ⟨rfl, hb1⟩)
    go_ret
    exact ⟨rfl, hb1⟩
  have hvI : decide ((12 : Int) < (nV : Int)) = false := decide_eq_false (by omega)
  have hvN2 : decide (12 < nV) = false := decide_eq_false hbig2
  have hln : l.length ≤ 1000 := by rw [hl.1]; omega
  have hRg := Lib.hid (reg5_w hF ns hns B m d hr false (regT false ns) rfl)
  have hrn0 := (make_size false ns).2
  rw [← Tr.length_flat (regT false ns) 0] at hrn0
  obtain ⟨r, hre⟩ : ∃ r, (regT false ns).flat 0 = r := ⟨_, rfl⟩
  rw [hre] at hRg hrn0
  clear hre hr hns
  obtain ⟨nr, hnr⟩ : ∃ nr, r.length = nr := ⟨_, rfl⟩
  have HNR := Lib.hid hnr
  have hrn : r.length ≤ 1000 := by omega
  clear hnr hrn0
  go_enter Try.func6, Try.ntmps6
  go_wp2_with fail
  go_at_call 11
  refine hRg.out.mono ?_
  rintro e W ⟨Ar, cr, F1, rfl, hcr, hrN1, hbW, hF1, hle1⟩
  rw [HNR.out] at hrN1 hcr
  rw [HNR.out]
  have hlN := hl.cle (hF.below hbW).cle
  have hvN := hvs.cle (hF.below hbW).cle
  have hrN := hrN1.cle hF1.cle
  have HPl := Lib.hid (fun (X : World) (h : Sat (heapF W) X) => pReachTab h l hln Al nl cl hlN V nV cV (by omega) vs hvN)
  have HRl := Lib.hid (fun (X : World) (h : Sat (heapF W) X) => rReachTab h l hln Al nl cl hlN V nV cV (by omega) vs hvN)
  obtain ⟨Ml, hMl⟩ : ∃ M, (if regL l then nV else 0) = M := ⟨_, rfl⟩
  have HMl := Lib.hid hMl
  have HBl : Hid (Ml ≤ 1000) := Lib.hid (by rw [← hMl]; split <;> omega)
  clear hMl
  have HPr := Lib.hid (fun (X : World) (h : Sat (heapF W) X) => pReachTab h r hrn Ar nr cr hrN V nV cV (by omega) vs hvN)
  have HRr := Lib.hid (fun (X : World) (h : Sat (heapF W) X) => rReachTab h r hrn Ar nr cr hrN V nV cV (by omega) vs hvN)
  obtain ⟨Mr, hMr⟩ : ∃ M, (if regL r then nV else 0) = M := ⟨_, rfl⟩
  have HMr := Lib.hid hMr
  have HBr : Hid (Mr ≤ 1000) := Lib.hid (by rw [← hMr]; split <;> omega)
  clear hMr
  have hG0 : Sat (heapF W) W := sat_heapF W
  have q_0 := hbW
  clear hl hlN hrN hrN1 hln hrn hle1 hvN hvs hbig hbig2
  go_wp2_with fail
  go_at_call 15
  refine (HPl.out _ hG0).mono ?_
  rintro e x0 ⟨A0, c0, rfl, b0, T0⟩
  rw [HMl.out]
  have hG1 := hG0.below b0
  have q0 := bthen q_0 b0
  have T0h := Lib.hid T0
  clear T0
  go_wp2_with fail
  go_at_call 20
  refine (HRl.out _ hG1).mono ?_
  rintro e x1 ⟨A1, c1, rfl, b1, T1⟩
  rw [HMl.out]
  obtain ⟨m0, hm0⟩ := tabs_same b1 T0h.out T1
  rw [HMl.out] at hm0
  have E0 := Lib.hid (same14_w (w := x1) HBl.out A0 A1 c0 c1 m0 hm0)
  clear T1 hm0
  go_wp2_with fail
  go_at_call 19
  refine E0.out.mono ?_
  rintro e y0 ⟨rfl, d0, rfl⟩
  have q_2 := below_drewN (bthen q0 b1) d0
  have hG2 : Sat (heapF W) (x1.drewN d0) := (hG1.below b1).drewN d0
  clear E0
  go_wp2_with fail
  go_at_call 15
  refine (HPr.out _ hG2).mono ?_
  rintro e x2 ⟨A2, c2, rfl, b2, T2⟩
  rw [HMr.out]
  have hG3 := hG2.below b2
  have q2 := bthen q_2 b2
  have T2h := Lib.hid T2
  clear T2
  go_wp2_with fail
  go_at_call 20
  refine (HRr.out _ hG3).mono ?_
  rintro e x3 ⟨A3, c3, rfl, b3, T3⟩
  rw [HMr.out]
  obtain ⟨m1, hm1⟩ := tabs_same b3 T2h.out T3
  rw [HMr.out] at hm1
  have E1 := Lib.hid (same14_w (w := x3) HBr.out A2 A3 c2 c3 m1 hm1)
  clear T3 hm1
  go_wp2_with fail
  go_at_call 19
  refine E1.out.mono ?_
  rintro e y1 ⟨rfl, d1, rfl⟩
  have q_4 := below_drewN (bthen q2 b3) d1
  have hG4 : Sat (heapF W) (x3.drewN d1) := (hG3.below b3).drewN d1
  clear E1
  go_wp2_with fail
  go_at_call 18
  refine (awake14_w _).mono ?_
  rintro e z3 ⟨rfl, hz3⟩
  go_wp2_with fail
  go_ret
  exact ⟨rfl, bthen q_4 hz3⟩
end Go.Proofs.Ytkhhjihbahdepaa
