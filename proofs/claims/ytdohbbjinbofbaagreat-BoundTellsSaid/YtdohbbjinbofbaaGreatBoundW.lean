/- The walks of ival.Wide and of the bound's small functions. -/
import Derived.Test.YtdohbbjinbofbaaGreatBoundP
import Derived.Test.YtdohbbjinbofbaaGreatOwn
import Derived.Test.YtdohbbjinbofbaaGreatPart
import Derived.Test.YtdohbbjinbofbaaGreatPileM
import Derived.Deep.RegionLaw
set_option linter.unusedVariables false
set_option linter.unusedSimpArgs false
namespace Go.Proofs.YtdohbbjinbofbaaGreat
open Go.RowKit
theorem blkA {w : World} {g : Nat} {t : TypeId} {a b : Value} (h : Blk w g t #[a, b]) : w.cell? ⟨g, 0, none⟩ = some a ∧ w.cell? ⟨g, 1, none⟩ = some b ∧ w.frozen? ⟨g, 0, none⟩ = false ∧ w.frozen? ⟨g, 1, none⟩ = false := by
  refine ⟨?_, ?_, h.frozen 0, h.frozen 1⟩ <;> rw [h.cell] <;> rfl
theorem wrap_i {n : Int} (h1 : -9223372036854775808 ≤ n) (h2 : n < 9223372036854775808) : IntKind.i64.wrap n = n := by
  simp [IntKind.wrap, IntKind.bits, IntKind.signed]
  omega
theorem wrap_u {n : Int} (h1 : 0 ≤ n) (h2 : n < 18446744073709551616) : IntKind.u64.wrap n = n := by
  simp [IntKind.wrap, IntKind.bits, IntKind.signed]
  omega
abbrev encU (k : Nat) : Value := .int .u64 (k : Int)
def lastV (lo hi : Int) : Int := if hi = -1 then lo else hi
set_option maxRecDepth 100000 in
theorem last_w (lo hi : Int) (w : World) : Calls Tryz.prog 85 #[.agg #[.int .i64 lo, .int .i64 hi]] w fun e w' => e = .returned (.int .i64 (lastV lo hi)) ∧ Below w.heap.size w w' := by
  obtain ⟨k0, k1, _, _⟩ := blkA (Blk.new w 43 #[.int .i64 lo, .int .i64 hi])
  by_cases h : hi = -1
  · have hR : lastV lo hi = lo := by unfold lastV; rw [if_pos h]
    rw [hR]
    clear hR
    subst h
    go_enter Tryz.func85, Tryz.ntmps85
    go_wp2_with fail
    go_ret
    exact ⟨rfl, balloc _ _⟩
  · have hR : lastV lo hi = hi := by unfold lastV; rw [if_neg h]
    have hb : (hi == -1) = false := by rw [beq_eq_false_iff_ne]; exact h
    rw [hR]
    clear hR h
    go_enter Tryz.func85, Tryz.ntmps85
    go_wp2_with fail
    go_ret
    exact ⟨rfl, balloc _ _⟩
theorem wideN_of {h : Nd} (hs : spanS h.lo h.hi = true) : lastV h.lo h.hi + 1 = ((wideN h : Nat) : Int) ∧ wideN h ≤ 10000 ∧ 1 ≤ wideN h := by
  unfold spanS at hs
  simp only [decide_eq_true_eq] at hs
  unfold lastV wideN
  by_cases e : h.hi = -1
  · rw [if_pos e, if_pos e]; omega
  · rw [if_neg e, if_neg e]; omega
set_option maxRecDepth 100000 in
theorem wide_w (h : Nd) (hs : spanS h.lo h.hi = true) (w : World) : Calls Tryz.prog 52 #[.agg #[.int .i64 h.lo, .int .i64 h.hi]] w fun e w' => e = .returned (.int .i64 (wideN h : Nat)) ∧ Below w.heap.size w w' := by
  obtain ⟨h1, h2, _⟩ := wideN_of hs
  obtain ⟨k0, k1, _, _⟩ := blkA (Blk.new w 43 #[.int .i64 h.lo, .int .i64 h.hi])
  have HB := Lib.hid (Blk.new w 43 #[.int .i64 h.lo, .int .i64 h.hi])
  have HM := Lib.hid (fun X => hs ▸ ivalMay_w h.lo h.hi X)
  have HL := Lib.hid (fun X => last_w h.lo h.hi X)
  have hlb : lastV h.lo h.hi ≤ 9999 ∧ -1 ≤ lastV h.lo h.hi := by omega
  obtain ⟨hl1, hl2⟩ := hlb
  generalize lastV h.lo h.hi = L at *
  obtain ⟨W, hW⟩ : ∃ W, wideN h = W := ⟨_, rfl⟩
  rw [hW] at h1 h2 ⊢
  have H1 := Lib.hid h1
  clear h1 hs hW
  go_enter Tryz.func52, Tryz.ntmps52
  go_wp2_with (first
    | (go_at_call 84; refine (HM.out _).mono ?_; rintro e w1 ⟨rfl, hw1⟩; obtain ⟨q0, q1, _, _⟩ := blkA (HB.out.call hw1))
    | (go_at_call 85; refine (HL.out _).mono ?_; rintro e w2 ⟨rfl, hw2⟩))
  go_ret
  exact ⟨by rw [← H1.out]; rfl, bthen (bthen (balloc _ _) hw1) hw2⟩
set_option maxRecDepth 100000 in
theorem bform_w {F : Fz} {w : World} (hF : Sat F w) (l : List Nd) (hn : l.length ≤ 1000) (A : Option Addr) (n c : Nat) (hl : NodesF F A n l) (b : Bool) (hb : (formL l && plainS l) = b) :
    Calls Tryz.prog 46 #[.slice A n c] w fun e w' => e = .returned (.bool b) ∧ Below w.heap.size w w' := by
  have h1 := fun b hb => form_w hF l hn A n c hl b hb
  have h2 := fun (X : World) (h : Sat F X) b hb => plain_w h l hn A n c hl b hb
  cases e1 : formL l
  · have H1 := Lib.hid (h1 _ e1)
    have HB : Hid (b = false) := Lib.hid (by rw [← hb, e1]; rfl)
    clear h1 h2 hb e1
    go_enter Tryz.func46, Tryz.ntmps46
    go_wp2_with (go_at_call 61; refine H1.out.mono ?_; rintro e w1 ⟨rfl, hw1⟩)
    go_ret
    exact ⟨by rw [HB.out]; rfl, hw1⟩
  · have H1 := Lib.hid (h1 _ e1)
    have H2 := Lib.hid (fun (X : World) (h : Sat F X) => h2 X h b (by rw [← hb, e1]; rfl))
    clear h1 h2 hb e1
    go_enter Tryz.func46, Tryz.ntmps46
    go_wp2_with (first
      | (go_at_call 61; refine H1.out.mono ?_; rintro e w1 ⟨rfl, hw1⟩)
      | (go_at_call 62; refine (H2.out _ (hF.below hw1)).mono ?_; rintro e w2 ⟨rfl, hw2⟩))
    go_ret
    exact ⟨rfl, bthen hw1 hw2⟩
def matchS (k : Int) : Bool := decide (k = 16 ∨ k = 17)
set_option maxRecDepth 100000 in
theorem match_w (k : Int) (s : ByteArray) (lo hi : Int) (A : Option Addr) (n c : Nat) (w : World) (b : Bool) (hb : matchS k = b) :
    Calls Tryz.prog 82 #[.agg #[.int .i64 k, .string s, .int .i64 lo, .int .i64 hi, .slice A n c]] w fun e w' => e = .returned (.bool b) ∧ Below w.heap.size w w' := by
  obtain ⟨k0, k1, k2, k3, k4⟩ := blk5 (Blk.new w 45 #[.int .i64 k, .string s, .int .i64 lo, .int .i64 hi, .slice A n c])
  subst hb
  by_cases h16 : k = 16
  · subst h16
    have hb : (16 : Int) == 16 := rfl
    go_enter Tryz.func82, Tryz.ntmps82
    go_wp2_with fail
    go_ret
    exact ⟨rfl, balloc _ _⟩
  · have hb16 : (k == 16) = false := by rw [beq_eq_false_iff_ne]; exact h16
    by_cases h17 : k = 17
    · subst h17
      go_enter Tryz.func82, Tryz.ntmps82
      go_wp2_with fail
      go_ret
      exact ⟨rfl, balloc _ _⟩
    · have hb17 : (k == 17) = false := by rw [beq_eq_false_iff_ne]; exact h17
      have HR : Hid (matchS k = false) := Lib.hid (by unfold matchS; simp [h16, h17])
      clear h16 h17
      go_enter Tryz.func82, Tryz.ntmps82
      go_wp2_with fail
      go_ret
      exact ⟨by rw [HR.out]; rfl, balloc _ _⟩
/-! ### The sums -/
theorem sumL_snoc (a : List Nat) (x : Nat) : sumL (a ++ [x]) = sumL a + x := by rw [sumL_append, sumL_one]
theorem maxL_snoc (a : List Nat) (x : Nat) : maxL (a ++ [x]) = max (maxL a) x := by rw [maxL_append, maxL_one]
theorem sumL_le (B : Nat) : ∀ (l : List Nat), (∀ x ∈ l, x ≤ B) → sumL l ≤ l.length * B
  | [], _ => by simp [sumL]
  | a :: l, h => by
    rw [show a :: l = [a] ++ l from rfl, sumL_append, sumL_one]
    have h1 := sumL_le B l (fun x hx => h x (List.mem_cons_of_mem _ hx))
    have h2 := h a (by simp)
    simp only [List.length_append, List.length_singleton, Nat.add_mul]
    omega
theorem maxL_le (B : Nat) : ∀ (l : List Nat), (∀ x ∈ l, x ≤ B) → maxL l ≤ B
  | [], _ => by simp [maxL]
  | a :: l, h => by
    rw [show a :: l = [a] ++ l from rfl, maxL_append, maxL_one]
    have h1 := maxL_le B l (fun x hx => h x (List.mem_cons_of_mem _ hx))
    have h2 := h a (by simp)
    omega
set_option maxRecDepth 100000 in
set_option maxHeartbeats 1000000 in
theorem sums_w {F : Fz} {w : World} (hF : Sat F w) (vs ks : List Nat) (A B : Option Addr) (n m c d : Nat) (hv : Rd F 1 A n (vs.map encU)) (hk : Rd F 1 B m ((zs ks).map encI)) (hkn : ∀ k ∈ ks, k < n) (hb : ∀ v ∈ vs, v ≤ 1099511627776) (hm : m ≤ 1000) :
    Calls Tryz.prog 50 #[.slice A n c, .slice B m d] w fun e w' => e = .returned (.tuple #[encU (sumL (ks.map fun k => vs.getD k 0)), encU (maxL (ks.map fun k => vs.getD k 0))]) ∧ ∃ q, w' = w.drewN q := by
  have hml : ks.length = m := by have := hk.1; simp [zs] at this; omega
  have hnl : vs.length = n := by have := hv.1; simp at this; omega
  have HML := Lib.hid hml
  have HNL := Lib.hid hnl
  have HKN := Lib.hid hkn
  have HB := Lib.hid hb
  clear hml hnl hkn hb
  go_enter Tryz.func50, Tryz.ntmps50
  go_wp2_with fail
  go_loopw [6, 7, 9, 12] (fun v6 v7 _ v12 wr => ∃ (j S M q : Nat), j ≤ m ∧ v12 = .int .i64 j ∧ v6 = .int .u64 (S : Int) ∧ v7 = .int .u64 (M : Int) ∧ Hid (S = sumL ((ks.take j).map fun k => vs.getD k 0)) ∧ Hid (M = maxL ((ks.take j).map fun k => vs.getD k 0)) ∧ S ≤ j * 1099511627776 ∧ M ≤ 1099511627776 ∧ wr = w.drewN q) (fun _ _ _ v12 _ => m - (intOf v12).toNat)
  case atStart => exact ⟨0, 0, 0, 0, Nat.zero_le _, rfl, rfl, rfl, Lib.hid rfl, Lib.hid rfl, Nat.zero_le _, Nat.zero_le _, rfl⟩
  case round =>
    obtain ⟨j, S, M, q, hj, rfl, rfl, rfl, HS, HM, hS, hM, rfl⟩ := hrel
    by_cases hlt : j < m
    · have hjI : (j : Int) < (m : Int) := by omega
      have hjl : j < ks.length := by rw [HML.out]; exact hlt
      obtain ⟨b1, v1, rfl, hv1, hc1⟩ := hk.at1 hlt
      have hx : ((zs ks).map encI)[j]? = some (encI (ks[j] : Nat)) := by simp [zs, hjl]
      rw [hx] at hv1
      simp only [Option.some.injEq] at hv1
      subst hv1
      have hkj := HKN.out _ (List.getElem_mem hjl)
      have hkl : ks[j] < vs.length := by rw [HNL.out]; exact hkj
      obtain ⟨a1, v2, rfl, hv2, hc2⟩ := hv.at1 hkj
      have hy : (vs.map encU)[ks[j]]? = some (encU vs[ks[j]]) := by simp [hkl]
      rw [hy] at hv2
      simp only [Option.some.injEq] at hv2
      subst hv2
      have z1 := hF.cell hc1
      have z2 := hF.cell hc2
      have hvb := HB.out _ (List.getElem_mem hkl)
      have hgd : vs.getD ks[j] 0 = vs[ks[j]] := by rw [List.getD, List.getElem?_eq_getElem hkl]; rfl
      have e1 : sumL ((ks.take (j + 1)).map fun k => vs.getD k 0) = S + vs[ks[j]] := by
        rw [List.take_succ_eq_append_getElem hjl, List.map_append, List.map_cons, List.map_nil, sumL_snoc, ← HS.out, hgd]
      have e2 : maxL ((ks.take (j + 1)).map fun k => vs.getD k 0) = max M vs[ks[j]] := by
        rw [List.take_succ_eq_append_getElem hjl, List.map_append, List.map_cons, List.map_nil, maxL_snoc, ← HM.out, hgd]
      generalize vs[ks[j]] = v at *
      generalize ks[j] = k at *
      have hkI : (k : Int) < (n : Int) := by omega
      have HS2 := Lib.hid e1.symm
      have HM2 := Lib.hid e2.symm
      have hSb : S ≤ 1099511627776000 := by omega
      clear hx hy hgd e1 e2 hc1 hc2 hkl
      go_wp2_with fail
      go_region
      all_goals
        go_wp2_with fail
        go_roundw
        case rel => exact ⟨j + 1, S + v, max M v, q + 1, by omega, by go_num, by go_num, by go_num, HS2, HM2, by omega, by omega, rfl⟩
        case measure => simp [intOf]; omega
    · obtain rfl : j = m := by omega
      have hdec : decide ((j : Int) < (j : Int)) = false := decide_eq_false (by omega)
      have htk : ks.take j = ks := by rw [← HML.out, List.take_length]
      rw [htk] at HS HM
      clear htk
      go_wp2_with fail
      go_ret2
      exact ⟨by rw [← HS.out, ← HM.out]; rfl, _, rfl⟩
end Go.Proofs.YtdohbbjinbofbaaGreat
