/- The walks of the small functions on nodes: kinds, spans, names. -/
import Derived.Test.YtdbbooibkiicnaaGreatTreeP
import Derived.Test.YtdbbooibkiicnaaGreatMem
import Derived.Deep.QuietTactic
import Derived.BigQuiet
set_option linter.unusedVariables false
set_option linter.unusedSimpArgs false
namespace Go.Proofs.YtdbbooibkiicnaaGreat
open Go.RowKit

theorem arity_w (k : Int) (w : World) : Calls Tryz.prog 146 #[.int .i64 k] w fun e w' => e = .returned (.int .i64 (arityS k)) ∧ w = w' := by
  by_cases h1 : k = 1 ∨ k = 2 ∨ k = 3 ∨ k = 18 ∨ k = 5 ∨ k = 6 ∨ k = 7 ∨ k = 14 ∨ k = 15 ∨ k = 20 ∨ k = 21
  · rcases h1 with h | h | h | h | h | h | h | h | h | h | h <;> subst h <;> (go_enter Tryz.func146, Tryz.ntmps146; go_wp2; go_ret; exact ⟨rfl, rfl⟩)
  · have e1 : (k == 1) = false := by rw [beq_eq_false_iff_ne]; omega
    have e2 : (k == 2) = false := by rw [beq_eq_false_iff_ne]; omega
    have e3 : (k == 3) = false := by rw [beq_eq_false_iff_ne]; omega
    have e4 : (k == 18) = false := by rw [beq_eq_false_iff_ne]; omega
    have e5 : (k == 5) = false := by rw [beq_eq_false_iff_ne]; omega
    have e6 : (k == 6) = false := by rw [beq_eq_false_iff_ne]; omega
    have e7 : (k == 7) = false := by rw [beq_eq_false_iff_ne]; omega
    have e8 : (k == 14) = false := by rw [beq_eq_false_iff_ne]; omega
    have e9 : (k == 15) = false := by rw [beq_eq_false_iff_ne]; omega
    have e10 : (k == 20) = false := by rw [beq_eq_false_iff_ne]; omega
    have e11 : (k == 21) = false := by rw [beq_eq_false_iff_ne]; omega
    have n1 : ¬ (k = 1 ∨ k = 2 ∨ k = 3 ∨ k = 18) := by omega
    have n2 : ¬ (k = 5 ∨ k = 6 ∨ k = 7 ∨ k = 14 ∨ k = 15 ∨ k = 20 ∨ k = 21) := by omega
    by_cases h2 : k < 1
    · have H : Hid (arityS k = -1) := Lib.hid (by unfold arityS; rw [if_neg n1, if_neg n2, if_pos (.inl h2)])
      clear n1 n2 h1
      go_enter Tryz.func146, Tryz.ntmps146
      go_wp2
      go_ret
      exact ⟨by rw [H.out] <;> rfl, rfl⟩
    · by_cases h3 : 22 < k
      · have H : Hid (arityS k = -1) := Lib.hid (by unfold arityS; rw [if_neg n1, if_neg n2, if_pos (.inr h3)])
        have h2' : decide (k < 1) = false := decide_eq_false h2
        clear n1 n2 h1 h2
        go_enter Tryz.func146, Tryz.ntmps146
        go_wp2
        go_ret
        exact ⟨by rw [H.out] <;> rfl, rfl⟩
      · have H : Hid (arityS k = 1) := Lib.hid (by unfold arityS; rw [if_neg n1, if_neg n2, if_neg (by omega)])
        have h2' : decide (k < 1) = false := decide_eq_false h2
        have h3' : decide (22 < k) = false := decide_eq_false h3
        clear n1 n2 h1 h2 h3
        go_enter Tryz.func146, Tryz.ntmps146
        go_wp2
        go_ret
        exact ⟨by rw [H.out] <;> rfl, rfl⟩
theorem rarity_w (k : Int) (w : World) : Calls Tryz.prog 105 #[.int .i64 k] w fun e w' => e = .returned (.int .i64 (arityS k)) ∧ w = w' := by
  by_cases h1 : k = 1 ∨ k = 2 ∨ k = 3 ∨ k = 18 ∨ k = 5 ∨ k = 6 ∨ k = 7 ∨ k = 14 ∨ k = 15 ∨ k = 20 ∨ k = 21
  · rcases h1 with h | h | h | h | h | h | h | h | h | h | h <;> subst h <;> (go_enter Tryz.func105, Tryz.ntmps105; go_wp2; go_ret; exact ⟨rfl, rfl⟩)
  · have e1 : (k == 1) = false := by rw [beq_eq_false_iff_ne]; omega
    have e2 : (k == 2) = false := by rw [beq_eq_false_iff_ne]; omega
    have e3 : (k == 3) = false := by rw [beq_eq_false_iff_ne]; omega
    have e4 : (k == 18) = false := by rw [beq_eq_false_iff_ne]; omega
    have e5 : (k == 5) = false := by rw [beq_eq_false_iff_ne]; omega
    have e6 : (k == 6) = false := by rw [beq_eq_false_iff_ne]; omega
    have e7 : (k == 7) = false := by rw [beq_eq_false_iff_ne]; omega
    have e8 : (k == 14) = false := by rw [beq_eq_false_iff_ne]; omega
    have e9 : (k == 15) = false := by rw [beq_eq_false_iff_ne]; omega
    have e10 : (k == 20) = false := by rw [beq_eq_false_iff_ne]; omega
    have e11 : (k == 21) = false := by rw [beq_eq_false_iff_ne]; omega
    have n1 : ¬ (k = 1 ∨ k = 2 ∨ k = 3 ∨ k = 18) := by omega
    have n2 : ¬ (k = 5 ∨ k = 6 ∨ k = 7 ∨ k = 14 ∨ k = 15 ∨ k = 20 ∨ k = 21) := by omega
    by_cases h2 : k < 1
    · have H : Hid (arityS k = -1) := Lib.hid (by unfold arityS; rw [if_neg n1, if_neg n2, if_pos (.inl h2)])
      clear n1 n2 h1
      go_enter Tryz.func105, Tryz.ntmps105
      go_wp2
      go_ret
      exact ⟨by rw [H.out] <;> rfl, rfl⟩
    · by_cases h3 : 22 < k
      · have H : Hid (arityS k = -1) := Lib.hid (by unfold arityS; rw [if_neg n1, if_neg n2, if_pos (.inr h3)])
        have h2' : decide (k < 1) = false := decide_eq_false h2
        clear n1 n2 h1 h2
        go_enter Tryz.func105, Tryz.ntmps105
        go_wp2
        go_ret
        exact ⟨by rw [H.out] <;> rfl, rfl⟩
      · have H : Hid (arityS k = 1) := Lib.hid (by unfold arityS; rw [if_neg n1, if_neg n2, if_neg (by omega)])
        have h2' : decide (k < 1) = false := decide_eq_false h2
        have h3' : decide (22 < k) = false := decide_eq_false h3
        clear n1 n2 h1 h2 h3
        go_enter Tryz.func105, Tryz.ntmps105
        go_wp2
        go_ret
        exact ⟨by rw [H.out] <;> rfl, rfl⟩
theorem reg_w (k : Int) (w : World) : Calls Tryz.prog 79 #[.int .i64 k] w fun e w' => e = .returned (.bool (regS k)) ∧ w = w' := by
  go_enter Tryz.func79, Tryz.ntmps79
  go_wp2
  go_ret
  exact ⟨rfl, rfl⟩
theorem wants_w (k : Int) (w : World) : Calls Tryz.prog 126 #[.int .i64 k] w fun e w' => e = .returned (.bool (wantsS k)) ∧ w = w' := by
  by_cases h1 : k = 16 ∨ k = 17 ∨ k = 20 ∨ k = 21 ∨ k = 22
  · rcases h1 with h | h | h | h | h <;> subst h <;> (go_enter Tryz.func126, Tryz.ntmps126; go_wp2; go_ret; exact ⟨rfl, rfl⟩)
  · have e1 : (k == 16) = false := by rw [beq_eq_false_iff_ne]; omega
    have e2 : (k == 17) = false := by rw [beq_eq_false_iff_ne]; omega
    have e3 : (k == 20) = false := by rw [beq_eq_false_iff_ne]; omega
    have e4 : (k == 21) = false := by rw [beq_eq_false_iff_ne]; omega
    have e5 : (k == 22) = false := by rw [beq_eq_false_iff_ne]; omega
    have H : Hid (wantsS k = false) := Lib.hid (decide_eq_false h1)
    clear h1
    go_enter Tryz.func126, Tryz.ntmps126
    go_wp2
    go_ret
    exact ⟨by rw [H.out] <;> rfl, rfl⟩
theorem timed_w (k : Int) (w : World) : Calls Tryz.prog 145 #[.int .i64 k] w fun e w' => e = .returned (.bool (timedS k)) ∧ w = w' := by
  by_cases h : 8 ≤ k
  · have H : Hid (timedS k = decide (k ≤ 17)) := Lib.hid (by unfold timedS; simp [h])
    go_enter Tryz.func145, Tryz.ntmps145
    go_wp2
    go_ret
    exact ⟨by rw [H.out] <;> rfl, rfl⟩
  · have H : Hid (timedS k = false) := Lib.hid (by unfold timedS; simp [h])
    have h' : decide (8 ≤ k) = false := decide_eq_false h
    go_enter Tryz.func145, Tryz.ntmps145
    go_wp2
    go_ret
    exact ⟨by rw [H.out] <;> rfl, rfl⟩
theorem rtimed_w (k : Int) (w : World) : Calls Tryz.prog 107 #[.int .i64 k] w fun e w' => e = .returned (.bool (timedS k)) ∧ w = w' := by
  by_cases h : 8 ≤ k
  · have H : Hid (timedS k = decide (k ≤ 17)) := Lib.hid (by unfold timedS; simp [h])
    go_enter Tryz.func107, Tryz.ntmps107
    go_wp2
    go_ret
    exact ⟨by rw [H.out] <;> rfl, rfl⟩
  · have H : Hid (timedS k = false) := Lib.hid (by unfold timedS; simp [h])
    have h' : decide (8 ≤ k) = false := decide_eq_false h
    go_enter Tryz.func107, Tryz.ntmps107
    go_wp2
    go_ret
    exact ⟨by rw [H.out] <;> rfl, rfl⟩
theorem ivalMay_w (lo hi : Int) (w : World) : Calls Tryz.prog 103 #[.agg #[.int .i64 lo, .int .i64 hi]] w fun e w' => e = .returned (.bool (spanS lo hi)) ∧ Below w.heap.size w w' := by
  by_cases h1 : 0 ≤ lo
  · by_cases h2 : lo ≤ 9999
    · by_cases h3 : hi = -1
      · have H : Hid (spanS lo hi = true) := Lib.hid (by unfold spanS; simp [h1, h2, h3])
        have e3 : (hi == -1) = true := by rw [h3]; rfl
        go_enter Tryz.func103, Tryz.ntmps103
        go_wp2
        go_ret
        exact ⟨by rw [H.out] <;> rfl, balloc _ _⟩
      · have e3 : (hi == -1) = false := by rw [beq_eq_false_iff_ne]; exact h3
        by_cases h4 : lo ≤ hi
        · have H : Hid (spanS lo hi = decide (hi ≤ 9999)) := Lib.hid (by unfold spanS; simp [h1, h2, h3, h4])
          clear h3
          go_enter Tryz.func103, Tryz.ntmps103
          go_wp2
          go_ret
          exact ⟨by rw [H.out] <;> rfl, balloc _ _⟩
        · have H : Hid (spanS lo hi = false) := Lib.hid (by unfold spanS; simp [h1, h2, h3, h4])
          have h4' : decide (lo ≤ hi) = false := decide_eq_false h4
          clear h3 h4
          go_enter Tryz.func103, Tryz.ntmps103
          go_wp2
          go_ret
          exact ⟨by rw [H.out] <;> rfl, balloc _ _⟩
    · have H : Hid (spanS lo hi = false) := Lib.hid (by unfold spanS; simp [h1, h2])
      have h' : decide (lo ≤ 9999) = false := decide_eq_false h2
      clear h2
      go_enter Tryz.func103, Tryz.ntmps103
      go_wp2
      go_ret
      exact ⟨by rw [H.out] <;> rfl, balloc _ _⟩
  · have H : Hid (spanS lo hi = false) := Lib.hid (by unfold spanS; simp [h1])
    have h' : decide (0 ≤ lo) = false := decide_eq_false h1
    clear h1
    go_enter Tryz.func103, Tryz.ntmps103
    go_wp2
    go_ret
    exact ⟨by rw [H.out] <;> rfl, balloc _ _⟩
theorem rmaySpan_w (lo hi : Int) (w : World) : Calls Tryz.prog 60 #[.agg #[.int .i64 lo, .int .i64 hi]] w fun e w' => e = .returned (.bool (spanS lo hi)) ∧ Below w.heap.size w w' := by
  by_cases h1 : 0 ≤ lo
  · by_cases h2 : lo ≤ 9999
    · by_cases h3 : hi = -1
      · have H : Hid (spanS lo hi = true) := Lib.hid (by unfold spanS; simp [h1, h2, h3])
        have e3 : (hi == -1) = true := by rw [h3]; rfl
        go_enter Tryz.func60, Tryz.ntmps60
        go_wp2
        go_ret
        exact ⟨by rw [H.out] <;> rfl, balloc _ _⟩
      · have e3 : (hi == -1) = false := by rw [beq_eq_false_iff_ne]; exact h3
        by_cases h4 : lo ≤ hi
        · have H : Hid (spanS lo hi = decide (hi ≤ 9999)) := Lib.hid (by unfold spanS; simp [h1, h2, h3, h4])
          clear h3
          go_enter Tryz.func60, Tryz.ntmps60
          go_wp2
          go_ret
          exact ⟨by rw [H.out] <;> rfl, balloc _ _⟩
        · have H : Hid (spanS lo hi = false) := Lib.hid (by unfold spanS; simp [h1, h2, h3, h4])
          have h4' : decide (lo ≤ hi) = false := decide_eq_false h4
          clear h3 h4
          go_enter Tryz.func60, Tryz.ntmps60
          go_wp2
          go_ret
          exact ⟨by rw [H.out] <;> rfl, balloc _ _⟩
    · have H : Hid (spanS lo hi = false) := Lib.hid (by unfold spanS; simp [h1, h2])
      have h' : decide (lo ≤ 9999) = false := decide_eq_false h2
      clear h2
      go_enter Tryz.func60, Tryz.ntmps60
      go_wp2
      go_ret
      exact ⟨by rw [H.out] <;> rfl, balloc _ _⟩
  · have H : Hid (spanS lo hi = false) := Lib.hid (by unfold spanS; simp [h1])
    have h' : decide (0 ≤ lo) = false := decide_eq_false h1
    clear h1
    go_enter Tryz.func60, Tryz.ntmps60
    go_wp2
    go_ret
    exact ⟨by rw [H.out] <;> rfl, balloc _ _⟩

def formS (k : Int) : Bool := decide (1 ≤ k ∧ k ≤ 17)
def fitsS (kind kid : Int) : Bool := if wantsS kind then !formS kid else formS kid
theorem formKind_w (k : Int) (w : World) : Calls Tryz.prog 74 #[.int .i64 k] w fun e w' => e = .returned (.bool (formS k)) ∧ w = w' := by
  by_cases h : 1 ≤ k
  · have H : Hid (formS k = decide (k ≤ 17)) := Lib.hid (by unfold formS; simp [h])
    go_enter Tryz.func74, Tryz.ntmps74
    go_wp2
    go_ret
    exact ⟨by rw [H.out] <;> rfl, rfl⟩
  · have H : Hid (formS k = false) := Lib.hid (by unfold formS; simp [h])
    have h' : decide (1 ≤ k) = false := decide_eq_false h
    clear h
    go_enter Tryz.func74, Tryz.ntmps74
    go_wp2
    go_ret
    exact ⟨by rw [H.out] <;> rfl, rfl⟩
theorem fits_w (k kid : Int) (w : World) : Calls Tryz.prog 108 #[.int .i64 k, .int .i64 kid] w fun e w' => e = .returned (.bool (fitsS k kid)) ∧ w = w' := by
  by_cases h1 : k = 16 ∨ k = 17 ∨ k = 20 ∨ k = 21 ∨ k = 22
  · rcases h1 with h | h | h | h | h <;> subst h <;> (go_enter Tryz.func108, Tryz.ntmps108; go_wp2_with (go_at_call 74; refine (formKind_w _ _).mono ?_; rintro e w' ⟨rfl, rfl⟩); go_ret; exact ⟨rfl, rfl⟩)
  · have e1 : (k == 16) = false := by rw [beq_eq_false_iff_ne]; omega
    have e2 : (k == 17) = false := by rw [beq_eq_false_iff_ne]; omega
    have e3 : (k == 20) = false := by rw [beq_eq_false_iff_ne]; omega
    have e4 : (k == 21) = false := by rw [beq_eq_false_iff_ne]; omega
    have e5 : (k == 22) = false := by rw [beq_eq_false_iff_ne]; omega
    have H : Hid (fitsS k kid = formS kid) := Lib.hid (by unfold fitsS; rw [if_neg]; simpa [wantsS] using h1)
    clear h1
    go_enter Tryz.func108, Tryz.ntmps108
    go_wp2_with (go_at_call 74; refine (formKind_w _ _).mono ?_; rintro e w' ⟨rfl, rfl⟩)
    go_ret
    exact ⟨by rw [H.out] <;> rfl, rfl⟩

/-! ### Bytes -/
def digitS (c : UInt8) : Bool := decide (48 ≤ c.toNat ∧ c.toNat ≤ 57)
theorem letter_w (c : UInt8) (w : World) : Calls Tryz.prog 136 #[.int .u8 (c.toNat : Int)] w fun e w' => e = .returned (.bool (smallS c)) ∧ w = w' := by
  by_cases h : (97 : Int) ≤ (c.toNat : Int)
  · have H : Hid (smallS c = decide ((c.toNat : Int) ≤ 122)) := Lib.hid (by unfold smallS; rw [decide_eq_decide]; omega)
    go_enter Tryz.func136, Tryz.ntmps136
    go_wp2
    go_ret
    exact ⟨by rw [H.out] <;> rfl, rfl⟩
  · have H : Hid (smallS c = false) := Lib.hid (by unfold smallS; rw [decide_eq_false_iff_not]; omega)
    have h' : decide ((97 : Int) ≤ (c.toNat : Int)) = false := decide_eq_false h
    clear h
    go_enter Tryz.func136, Tryz.ntmps136
    go_wp2
    go_ret
    exact ⟨by rw [H.out] <;> rfl, rfl⟩
theorem rsmall_w (c : UInt8) (w : World) : Calls Tryz.prog 128 #[.int .u8 (c.toNat : Int)] w fun e w' => e = .returned (.bool (smallS c)) ∧ w = w' := by
  by_cases h : (97 : Int) ≤ (c.toNat : Int)
  · have H : Hid (smallS c = decide ((c.toNat : Int) ≤ 122)) := Lib.hid (by unfold smallS; rw [decide_eq_decide]; omega)
    go_enter Tryz.func128, Tryz.ntmps128
    go_wp2
    go_ret
    exact ⟨by rw [H.out] <;> rfl, rfl⟩
  · have H : Hid (smallS c = false) := Lib.hid (by unfold smallS; rw [decide_eq_false_iff_not]; omega)
    have h' : decide ((97 : Int) ≤ (c.toNat : Int)) = false := decide_eq_false h
    clear h
    go_enter Tryz.func128, Tryz.ntmps128
    go_wp2
    go_ret
    exact ⟨by rw [H.out] <;> rfl, rfl⟩
theorem digit_w (c : UInt8) (w : World) : Calls Tryz.prog 154 #[.int .u8 (c.toNat : Int)] w fun e w' => e = .returned (.bool (digitS c)) ∧ w = w' := by
  by_cases h : (48 : Int) ≤ (c.toNat : Int)
  · have H : Hid (digitS c = decide ((c.toNat : Int) ≤ 57)) := Lib.hid (by unfold digitS; rw [decide_eq_decide]; omega)
    go_enter Tryz.func154, Tryz.ntmps154
    go_wp2
    go_ret
    exact ⟨by rw [H.out] <;> rfl, rfl⟩
  · have H : Hid (digitS c = false) := Lib.hid (by unfold digitS; rw [decide_eq_false_iff_not]; omega)
    have h' : decide ((48 : Int) ≤ (c.toNat : Int)) = false := decide_eq_false h
    clear h
    go_enter Tryz.func154, Tryz.ntmps154
    go_wp2
    go_ret
    exact ⟨by rw [H.out] <;> rfl, rfl⟩
theorem rdigit_w (c : UInt8) (w : World) : Calls Tryz.prog 147 #[.int .u8 (c.toNat : Int)] w fun e w' => e = .returned (.bool (digitS c)) ∧ w = w' := by
  by_cases h : (48 : Int) ≤ (c.toNat : Int)
  · have H : Hid (digitS c = decide ((c.toNat : Int) ≤ 57)) := Lib.hid (by unfold digitS; rw [decide_eq_decide]; omega)
    go_enter Tryz.func147, Tryz.ntmps147
    go_wp2
    go_ret
    exact ⟨by rw [H.out] <;> rfl, rfl⟩
  · have H : Hid (digitS c = false) := Lib.hid (by unfold digitS; rw [decide_eq_false_iff_not]; omega)
    have h' : decide ((48 : Int) ≤ (c.toNat : Int)) = false := decide_eq_false h
    clear h
    go_enter Tryz.func147, Tryz.ntmps147
    go_wp2
    go_ret
    exact ⟨by rw [H.out] <;> rfl, rfl⟩
theorem more_w (c : UInt8) (w : World) : Calls Tryz.prog 138 #[.int .u8 (c.toNat : Int)] w fun e w' => e = .returned (.bool (moreS c)) ∧ w = w' := by
  have hL := letter_w c w
  have hD := digit_w c w
  have H : Hid (moreS c = (smallS c || digitS c || (((c.toNat : Nat) : Int) == 95))) := Lib.hid (by
    unfold moreS digitS
    congr 1
    rw [Bool.eq_iff_iff]
    simp
    omega)
  cases h1 : smallS c <;> cases h2 : digitS c <;> rw [h1] at hL <;> rw [h2] at hD <;> rw [h1, h2] at H <;> clear h1 h2 <;>
  (have HL := Lib.hid hL
   have HD := Lib.hid hD
   clear hL hD
   go_enter Tryz.func138, Tryz.ntmps138
   go_wp2_with (first | (go_at_call 136; refine HL.out.mono ?_; rintro e w' ⟨rfl, rfl⟩) | (go_at_call 154; refine HD.out.mono ?_; rintro e w' ⟨rfl, rfl⟩))
   go_ret
   exact ⟨by rw [H.out] <;> rfl, rfl⟩)
/-- Where a run that begins at k ends. -/
def runTo (p : UInt8 → Bool) (xs : List UInt8) (k : Nat) : Nat := k + ((xs.drop k).takeWhile p).length
theorem runTo_step {p : UInt8 → Bool} {xs : List UInt8} {k : Nat} (h : k < xs.length) (hp : p xs[k] = true) : runTo p xs k = runTo p xs (k + 1) := by
  unfold runTo
  rw [List.drop_eq_getElem_cons h, List.takeWhile_cons_of_pos hp, List.length_cons]
  omega
theorem runTo_stop {p : UInt8 → Bool} {xs : List UInt8} {k : Nat} (h : k < xs.length) (hp : p xs[k] = false) : runTo p xs k = k := by
  unfold runTo
  rw [List.drop_eq_getElem_cons h, List.takeWhile_cons_of_neg (by simp [hp])]
  rfl
theorem runTo_end {p : UInt8 → Bool} {xs : List UInt8} {k : Nat} (h : xs.length ≤ k) : runTo p xs k = k := by
  unfold runTo
  rw [List.drop_of_length_le h]
  rfl
end Go.Proofs.YtdbbooibkiicnaaGreat
