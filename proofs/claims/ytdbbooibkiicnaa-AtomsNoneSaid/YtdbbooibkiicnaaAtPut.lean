/- The walk of the law AtomsPut. -/
import Derived.Test.YtdbbooibkiicnaaAddX
import Derived.Test.YtdbbooibkiicnaaOfW
import Derived.Test.YtdbbooibkiicnaaBuild
set_option linter.unusedVariables false
set_option linter.unusedSimpArgs false
namespace Go.Proofs.Ytdbbooibkiicnaa
open Go.RowKit
/-- One assignment alone. -/
theorem stateK_at (z z' : Zf) (x y q : Nat) (t : Tr) (k : Int) (h : ∀ q, q < testsT t → z q x = z' q y) (hr : regV t) : (stateK z t k).1 q x = (stateK z' t k).1 q y ∧ (stateK z t k).2 x = (stateK z' t k).2 y := by
  have h0 : ∀ q, q < testsT t → z (0 + q) x = z' (0 + q) y := fun q hq => by rw [Nat.zero_add]; exact h q hq
  unfold stateK
  split
  · unfold stateO
    split
    · exact ⟨first_at z z' true x y q t 0 0 h0, zero_at z z' true x y t 0 h0⟩
    · split
      · exact ahead_at z z' x y q t 0 0 _ h0 hr
      · exact ⟨rfl, rfl⟩
  · exact ⟨rfl, rfl⟩
def greatS (gs : List (List (BitVec 64))) : Bool := decide (100 < gs.length) || gs.any fun g => decide (100 < g.length)
set_option maxRecDepth 100000 in
theorem great_w {F : Fz} {w : World} (hF : Sat F w) (gs : List (List (BitVec 64))) (A : Option Addr) (n c : Nat) (hr : RdR F A n gs) (R : Int) (hR : (if greatS gs = true then (1 : Int) else 0) = R) :
    Calls Try.prog 25 #[.slice A n c] w fun e w' => e = .returned (.int .i64 R) ∧ w = w' := by
  obtain ⟨hn, hrow⟩ := hr
  by_cases hbig : 100 < n
  · have hI : (100 : Int) < (n : Int) := by omega
    have h1 : R = 1 := by rw [← hR, if_pos]; unfold greatS; rw [← hn, decide_eq_true hbig]; rfl
    subst h1
    clear hR hrow hn
    go_enter Try.func25, Try.ntmps25
    go_wp2_with fail
    go_ret
    exact ⟨rfl, rfl⟩
  have hI : decide ((100 : Int) < (n : Int)) = false := decide_eq_false (by omega)
  have hI2 : decide (100 < n) = false := decide_eq_false hbig
  have HN := Lib.hid hn
  have HR := Lib.hid hR
  have hnb : n ≤ 100 := by omega
  clear hn hR hbig
  go_enter Try.func25, Try.ntmps25
  go_wp2_with fail
  go_loop [4, 10] (fun _ v10 => ∃ j : Nat, j ≤ n ∧ v10 = .int .i64 j ∧ ∀ i, i < j → (gs.getD i []).length ≤ 100) (fun _ v10 => n - (intOf v10).toNat)
  case atStart => exact ⟨0, Nat.zero_le _, rfl, fun i h => absurd h (by omega)⟩
  case round =>
    obtain ⟨j, hj, rfl, hdone⟩ := hrel
    by_cases hlt : j < n
    · have hjI : (j : Int) < (n : Int) := by omega
      obtain ⟨ad, Ai, ni, ci, rfl, hc, hri⟩ := hrow j (by have := HN.out; omega)
      have hcw := hF.cell hc
      have hni : ni = (gs.getD j []).length := by have := hri.1; rw [List.length_map] at this; omega
      have HNI := Lib.hid hni
      have HDN := Lib.hid hdone
      clear hni hri hc hdone hrow
      by_cases hb : 100 < ni
      · have hbI : (100 : Int) < (ni : Int) := by omega
        have h1 : R = 1 := by
          rw [← HR.out, if_pos]
          unfold greatS
          rw [Bool.or_eq_true]
          right
          rw [List.any_eq_true]
          have hjl : j < gs.length := by have := HN.out; omega
          refine ⟨gs[j], List.getElem_mem hjl, decide_eq_true ?_⟩
          have := HNI.out
          rw [List.getD, List.getElem?_eq_getElem hjl] at this
          simp only [Option.getD_some] at this
          omega
        subst h1
        go_wp2_with fail
        go_ret
        exact ⟨rfl, rfl⟩
      · have hbI : decide ((100 : Int) < (ni : Int)) = false := decide_eq_false (by omega)
        have hbI2 : decide (100 < ni) = false := decide_eq_false hb
        have HB : Hid (ni ≤ 100) := Lib.hid (by omega)
        clear hb
        go_wp2_with fail
        go_round
        case rel => exact ⟨j + 1, by omega, by go_num, fun i hi => by
          rcases Nat.lt_or_ge i j with h | h
          · exact HDN.out i h
          · obtain rfl : i = j := by omega
            rw [← HNI.out]; exact HB.out⟩
        case measure => simp [intOf]; omega
    · obtain rfl : j = n := by omega
      have hdec : decide ((j : Int) < (j : Int)) = false := decide_eq_false (by omega)
      have h0 : R = 0 := by
        rw [← HR.out, if_neg]
        unfold greatS
        rw [Bool.or_eq_true]
        rintro (h | h)
        · rw [decide_eq_true_iff] at h; have := HN.out; omega
        · rw [List.any_eq_true] at h
          obtain ⟨g, hg, hl⟩ := h
          rw [decide_eq_true_iff] at hl
          obtain ⟨i, hi, e⟩ := List.getElem_of_mem hg
          have := hdone i (by have := HN.out; omega)
          rw [List.getD, List.getElem?_eq_getElem hi] at this
          simp only [Option.getD_some, e] at this
          omega
      subst h0
      go_wp2_with fail
      go_ret
      exact ⟨rfl, rfl⟩
end Go.Proofs.Ytdbbooibkiicnaa
