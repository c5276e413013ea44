/- The walks of law 14's Points and square. -/
import Derived.Test.YtkhhjihbahdepaaPReach
set_option linter.unusedVariables false
set_option linter.unusedSimpArgs false
namespace Go.Proofs.Ytkhhjihbahdepaa
open Go.RowKit
/-- The cells of rows of one word each. -/
def RowsO (F : Fz) (xs : List Value) (fs : List (BitVec 64)) : Prop := xs.length = fs.length ∧ ∀ i (h : i < fs.length), ∃ Ai ci, xs[i]? = some (.slice Ai 1 ci) ∧ Rd F 1 Ai 1 [u fs[i]]
theorem RowsO.snoc {F F' : Fz} {xs : List Value} {fs : List (BitVec 64)} (h : RowsO F xs fs) (hle : CLe F F') {x : BitVec 64} {A : Option Addr} {c : Nat} (hx : Rd F' 1 A 1 [u x]) : RowsO F' (xs ++ [.slice A 1 c]) (fs ++ [x]) := by
  obtain ⟨h1, h2⟩ := h
  refine ⟨by simp [h1], fun i hi => ?_⟩
  by_cases h3 : i < fs.length
  · obtain ⟨Ai, ci, h4, h5⟩ := h2 i h3
    refine ⟨Ai, ci, by rw [List.getElem?_append_left (by omega)]; exact h4, ?_⟩
    rw [List.getElem_append_left h3]
    exact Rd.cle h5 hle
  · simp at hi
    obtain rfl : i = fs.length := by omega
    refine ⟨A, c, by rw [List.getElem?_append_right (by omega)]; simp [h1], ?_⟩
    rw [List.getElem_append_right (Nat.le_refl _)]
    simpa using hx
theorem RowsO.cle {F F' : Fz} {xs : List Value} {fs : List (BitVec 64)} (h : RowsO F xs fs) (hle : CLe F F') : RowsO F' xs fs := ⟨h.1, fun i hi => let ⟨Ai, ci, a, b⟩ := h.2 i hi; ⟨Ai, ci, a, Rd.cle b hle⟩⟩
theorem RowsO.rdR {F : Fz} {xs : List Value} {fs : List (BitVec 64)} (h : RowsO F xs fs) {B : Option Addr} (hr : Rd F 1 B fs.length xs) : RdR F B fs.length (fs.map fun x => [x]) := by
  refine ⟨by simp, fun i hi => ?_⟩
  rw [List.length_map] at hi
  obtain ⟨Ai, ci, h4, h5⟩ := h.2 i hi
  obtain ⟨ad, v, rfl, hv, hc⟩ := hr.at1 hi
  rw [h4] at hv
  injection hv with hv
  subst hv
  refine ⟨ad, Ai, 1, ci, rfl, hc, ?_⟩
  rw [List.getD, List.getElem?_map, List.getElem?_eq_getElem hi]
  exact h5
theorem Own.capnil {F : Fz} {w : World} {B : Nat} {e : TypeId} {size n c k : Nat} {A : Option Addr} {xs : List Value} (h : Own F w B e size (.slice A n c) k xs) : A = none → c = 0 := by
  intro hA
  subst hA
  rcases h.1.2 with ⟨h1, _⟩ | ⟨g, cap, cur, h1, _⟩
  · injection h1
  · cases h1
set_option maxRecDepth 100000 in
set_option maxHeartbeats 2000000 in
theorem points_w {F : Fz} {w : World} (hF : Sat F w) (fs : List (BitVec 64)) (A : Option Addr) (n c : Nat) (hf : Rd F 1 A n (fs.map u)) (gs : List (BitVec 64)) (hgs : fs.take 9 = gs) (k : Nat) (hk : gs.length = k) :
    Calls Try.prog 12 #[.slice A n c] w fun e w' => ∃ B d, e = .returned (.slice B k d) ∧ k ≤ d ∧ (B = none → d = 0) ∧ RdR (heapF w') B k (gs.map fun x => [x]) ∧ Below w.heap.size w w' := by
  have HGS := Lib.hid hgs
  have HKL := Lib.hid hk
  clear hgs hk
  have hlen : n = fs.length := rd_len hf
  have HLEN := Lib.hid hlen
  clear hlen
  go_enter Try.func12, Try.ntmps12
  go_wp2_with fail
  go_loopw [3, 4, 5, 8] (fun v3 _ _ i wr => ∃ (m : Nat) (F' : Fz) (xs : List Value) (A3 : Option Addr) (c3 : Nat), m ≤ n ∧ m ≤ 9 ∧ i = .int .i64 m ∧ v3 = .slice A3 m c3 ∧ m ≤ c3 ∧ Own F' wr w.heap.size 23 1 (.slice A3 m c3) m xs ∧ RowsO F' xs (fs.take m) ∧ Sat F' wr ∧ Fle w F F' ∧ Below w.heap.size w wr) (fun _ _ _ i _ => n - (intOf i).toNat)
  case atStart => exact ⟨0, F, [], none, 0, Nat.zero_le _, Nat.zero_le _, rfl, rfl, Nat.le_refl _, Own.nil _ _ _ _ _, ⟨by simp, fun i h => by simp at h⟩, hF, Fle.refl _ _, Below.refl _ _⟩
  case round =>
    obtain ⟨m, F', xs, A3, c3, hm, hm9, rfl, rfl, hc3, hO, hR, hF', hle, hbl⟩ := hrel
    have HCN := Lib.hid hO.capnil
    by_cases h9 : m = 9
    · subst h9
      have HT : Hid (k = 9) := Lib.hid (by rw [← HKL.out, ← HGS.out, List.length_take, ← HLEN.out]; omega)
      rw [HGS.out] at hR
      obtain ⟨F2, B, d, e1, hd, hrd, hS2, hle2, _⟩ := hO.freeze hF' w (Nat.le_refl _)
      injection e1 with e1 _ e3
      subst e1 e3
      have hRR0 := RowsO.rdR (hR.cle hle2.cle) (B := A3) (by rw [HKL.out, HT.out]; exact hrd)
      have hRR := Lib.hid (hRR0.cle hS2.cle)
      clear hRR0
      by_cases hn9 : 9 < n
      · have hnI : (9 : Int) < (n : Int) := by omega
        obtain ⟨a0, v0, rfl, hv0, hc0⟩ := hf.at1 hn9
        have hz0 := (hF.below hbl).cell hc0
        rw [show a0.add 9 = ⟨a0.block, a0.off + 9, none⟩ by simp [Addr.add]] at hz0
        clear hR hO hv0 hc0
        go_wp2_with fail
        go_ret
        exact ⟨A3, c3, by rw [HT.out]; rfl, by rw [HT.out]; exact hc3, HCN.out, by have := hRR.out; rwa [HKL.out] at this, hbl⟩
      · obtain rfl : n = 9 := by omega
        have hnI : decide ((9 : Int) < ((9 : Nat) : Int)) = false := by decide
        clear hR hO
        go_wp2_with fail
        go_ret
        exact ⟨A3, c3, by rw [HT.out]; rfl, by rw [HT.out]; exact hc3, HCN.out, by have := hRR.out; rwa [HKL.out] at this, hbl⟩
    · by_cases hmn : m < n
      · have hmI : (m : Int) < (n : Int) := by omega
        have h9b : ((m : Int) == 9) = false := by rw [beq_eq_false_iff_ne]; omega
        have hml : m < fs.length := by rw [← HLEN.out]; exact hmn
        obtain ⟨a0, v0, rfl, hv0, hc0⟩ := hf.at1 hmn
        rw [List.getElem?_map, List.getElem?_eq_getElem hml] at hv0
        injection hv0 with hv0
        subst hv0
        have hz0 := (hF.below hbl).cell hc0
        have htk : fs.take (m + 1) = fs.take m ++ [fs[m]] := List.take_succ_eq_append_getElem hml
        generalize fs[m] = x at *
        have hg : F' wr.heap.size = none := hF'.none_ (Nat.le_refl _)
        have hzl := hbl.size
        have hle2 := Fle.put (w := wr) (.cells #[u x] 62 (0, 0)) hg (Nat.le_refl _)
        have hS2 := (hF'.alloc (.cells #[u x] 62)).put (Blk.new wr 62 #[u x])
        have hO2 := (hO.le hle2).alloc (.cells #[u x] 62)
        have hrx : Rd (F'.put wr.heap.size (.cells #[u x] 62 (0, 0))) 1 (some ⟨wr.heap.size, 0, none⟩) 1 [u x] := Blk.freeze F' wr.heap.size 62 #[u x] 1 1 rfl
        have hR2 := hR.snoc (c := 1) hle2.cle hrx
        rw [← htk] at hR2
        have hle3 := hle.trans hle2 hzl
        have hb2 := (hbl.alloc hzl (.cells #[u x] 62)).alloc (by simp; omega) (.cells #[.slice (some ⟨wr.heap.size, 0, none⟩) 1 1] 23)
        generalize F'.put wr.heap.size (.cells #[u x] 62 (0, 0)) = F2 at *
        have HR2 := Lib.hid hR2
        clear hR hR2 htk hrx hc0 hg hO hF' hle hle2
        go_wp2_with (at_builtin; refine wpList_push rfl (.tmp 15) (.tmp 18) _ rfl 23 (.slice none 0 0) 1 24 Try.underlying26 (by kernel_rfl) rfl (by omega) (hO2.alloc _) (hS2.alloc _) (by rfl) (wr.heap.size + 1) 1 #[.slice (some ⟨wr.heap.size, 0, none⟩) 1 1] (by rfl) (Blk.new2 _ _ _ _) rfl (by intro u hu; simp at hu; subst hu; rfl) (by unfold maxLen; omega) (by omega) (by simp; omega) ?_; intro v2 w2 hO3 hF3 hb3 hg3 hat3)
        obtain ⟨A2, c2, rfl, hc2⟩ := hO3.shape
        go_roundw
        case rel => exact ⟨m + 1, F2, _, A2, c2, by omega, by omega, by go_num, rfl, hc2, hO3, HR2.out, hF3, hle3, hb2.trans hb3⟩
        case measure => simp [intOf]; omega
      · obtain rfl : m = n := by omega
        have hdec : decide ((m : Int) < (m : Int)) = false := decide_eq_false (by omega)
        have HT : Hid (k = m) := Lib.hid (by rw [← HKL.out, ← HGS.out, List.length_take, ← HLEN.out]; omega)
        have HT2 : Hid (fs.take m = gs) := Lib.hid (by rw [← HGS.out, List.take_of_length_le (by rw [← HLEN.out]; exact Nat.le_refl _), List.take_of_length_le (by rw [← HLEN.out]; omega)])
        rw [HT2.out] at hR
        obtain ⟨F2, B, d, e1, hd, hrd, hS2, hle2, _⟩ := hO.freeze hF' w (Nat.le_refl _)
        injection e1 with e1 _ e3
        subst e1 e3
        have hRR0 := RowsO.rdR (hR.cle hle2.cle) (B := A3) (by rw [HKL.out, HT.out]; exact hrd)
        have hRR := Lib.hid (hRR0.cle hS2.cle)
        clear hRR0
        clear hR hO
        go_wp2_with fail
        go_ret
        exact ⟨A3, c3, by rw [HT.out]; rfl, by rw [HT.out]; exact hc3, HCN.out, by have := hRR.out; rwa [HKL.out] at this, hbl⟩
theorem square_w {w : World} {n : Nat} (hn : n ≤ 1000) (A : Option Addr) (c : Nat) (m : Mx) (h : 0 < n → ∃ g, A = some ⟨g, 0, none⟩ ∧ SqF (heapF w) g n m) :
    Calls Try.prog 17 #[.slice A n c, .int .i64 n] w fun e w' => e = .returned (.bool true) ∧ w = w' := by
  have hne : ((n : Int) != (n : Int)) = false := by simp
  go_enter Try.func17, Try.ntmps17
  go_wp2_with fail
  go_loop [6, 13] (fun _ i => ∃ j : Nat, j ≤ n ∧ i = .int .i64 j) (fun _ i => n - (intOf i).toNat)
  case atStart => exact ⟨0, Nat.zero_le _, rfl⟩
  case round =>
    obtain ⟨j, hj, rfl⟩ := hrel
    by_cases hjn : j < n
    · have hjI : (j : Int) < (n : Int) := by omega
      obtain ⟨g, rfl, hS⟩ := h (by omega)
      have c1 := hS.slot hjn
      go_wp2_with fail
      go_round
      case rel => exact ⟨j + 1, by omega, by go_num⟩
      case measure => simp [intOf]; omega
    · obtain rfl : j = n := by omega
      have hdec : decide ((j : Int) < (j : Int)) = false := decide_eq_false (by omega)
      go_wp2_with fail
      go_ret
      exact ⟨rfl, rfl⟩
/-- A part of rows reads as a part of the list. -/
theorem RdR.cutR {F : Fz} {A : Option Addr} {n : Nat} {gs : List (List (BitVec 64))} (h : RdR F A n gs) {i k cap : Nat} (hik : i ≤ k) (hk : k ≤ n) (hc : n ≤ cap) : RdR F (if cap = i then A else A.map (·.add i)) (k - i) ((gs.drop i).take (k - i)) := by
  obtain ⟨h1, h2⟩ := h
  refine ⟨by rw [List.length_take, List.length_drop]; omega, fun j hj => ?_⟩
  rw [List.length_take, List.length_drop] at hj
  obtain ⟨ad, Ai, ni, ci, rfl, h3, h4⟩ := h2 (i + j) (by omega)
  rw [if_neg (by omega)]
  refine ⟨ad.add i, Ai, ni, ci, rfl, by rw [add_of_add]; exact h3, ?_⟩
  have e : ((gs.drop i).take (k - i)).getD j [] = gs.getD (i + j) [] := by
    rw [List.getD, List.getElem?_take_of_lt (by omega), List.getElem?_drop]; rfl
  rw [e]
  exact h4
theorem valS_cut (gs : List (List (BitVec 64))) (i k x q : Nat) (hx : x < k - i) : valS ((gs.drop i).take (k - i)) x q = valS gs (i + x) q := by
  unfold valS
  rw [List.getD, List.getElem?_take_of_lt hx, List.getElem?_drop]; rfl
end Go.Proofs.Ytkhhjihbahdepaa
