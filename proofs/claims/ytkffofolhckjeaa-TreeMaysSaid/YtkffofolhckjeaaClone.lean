/- The walk of slices.Clone on ints. -/
import Derived.Test.YtkffofolhckjeaaNodes
namespace Go.Proofs.Ytkffofolhckjeaa
open Go.RowKit
theorem clone_w {F : Fz} {w : World} (hF : Sat F w) (ks : List Int) (A : Option Addr) (n c : Nat) (hn : n ≤ 100000) (hk : Rd F 1 A n (ks.map (Value.int .i64))) :
    Calls Try.prog 88 #[.slice A n c] w fun e w' => ∃ v, e = .returned v ∧ Own F w' w.heap.size 3 1 v n (ks.map (Value.int .i64)) ∧ Below w.heap.size w w' ∧ Sat F w' := by
  rcases A with _ | ad
  · have hn0 : n = 0 := by
      rcases Nat.eq_zero_or_pos n with h0 | h0
      · exact h0
      · obtain ⟨ad, h, _⟩ := hk.2 h0
        cases h
    subst hn0
    have hk0 : ks = [] := by have := hk.1; simpa using this
    subst hk0
    have q22 : ∀ (w : World) (a : Option Addr) (n c n' c' : Nat), (binOp .eql 55 (.slice a n c) (.slice none n' c')).run Try.prog w = .ok (.bool a.isNone) w := fun w a n c n' c' => Lib.run_eql_slice_nil w _ _ a n c n' c' Try.underlying55
    go_enter Try.func88, Try.ntmps88
    go_wp2_with fail
    go_ret
    exact ⟨_, rfl, Own.nil _ _ _ _ _, Below.refl _ _, hF⟩
  · have q22 : ∀ (w : World) (a : Option Addr) (n c n' c' : Nat), (binOp .eql 55 (.slice a n c) (.slice none n' c')).run Try.prog w = .ok (.bool a.isNone) w := fun w a n c n' c' => Lib.run_eql_slice_nil w _ _ a n c n' c' Try.underlying55
    go_enter Try.func88, Try.ntmps88
    go_wp2_with (at_builtin; refine wpList_allI rfl (.tmp 5) (.tmp 6) rfl (xs := []) (B := w.heap.size) (Own.empty F w w.heap.size _ 1 hF rfl (Nat.le_refl _)) (hF.alloc _) (by rfl) (some ad) n c ks (by rfl) (hF.alloc _) hk (by omega) (by simp) ?_; intro v1 w1 hO1 hF1 hb1 hg1 hat1)
    go_ret
    exact ⟨_, rfl, by simpa using hO1, (balloc _ _).trans (hb1), hF1⟩
end Go.Proofs.Ytkffofolhckjeaa
