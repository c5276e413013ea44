/- The law TablePut: its walk. -/
import Derived.Test.YtkffofolhckjeaaTab6
namespace Go.Proofs.Ytkffofolhckjeaa
open Go.RowKit
attribute [local go_sem ↓] bits_and bits_or not_bits arith_add arith_sub shift_l shift_r shift_lu shift_ru shift_int conv_uu shift_l1 shift_l1u bits_and1 arith_sub1 shift_rn and_one_n
attribute [local go_sem] uz_toNat uz_nonneg wrap_bit

theorem putL_big (x : Int) (A B : Option Addr) (n n' c c' : Nat) (h : 100 < n ∨ 30 < n') (w : World) :
    Calls Try.prog 5 #[.int .i64 x, .slice A n c, .slice B n' c'] w fun e w' => e = .returned (.bool true) ∧ Below w.heap.size w w' := by
  by_cases h1 : 100 < n
  · have h1I : (100 : Int) < (n : Int) := by omega
    go_enter Try.func5, Try.ntmps5
    go_wp2_with (go_at_call 15; refine (awake28 _).mono ?_; rintro e w1 ⟨rfl, hb1⟩)
    go_ret
    exact ⟨rfl, hb1⟩
  · have h1I : ¬ (100 : Int) < (n : Int) := by omega
    have h2I : (30 : Int) < (n' : Int) := by omega
    go_enter Try.func5, Try.ntmps5
    go_wp2_with (go_at_call 15; refine (awake28 _).mono ?_; rintro e w1 ⟨rfl, hb1⟩)
    go_ret
    exact ⟨rfl, hb1⟩

theorem RdR.heap {F : Fz} {w : World} {A : Option Addr} {n : Nat} {gs : List (List (BitVec 64))} (h : RdR F A n gs) (hF : Sat F w) : RdR (heapF w) A n gs :=
  ⟨h.1, fun i hi => let ⟨ad, Ai, ni, ci, e, h1, h2⟩ := h.2 i hi; ⟨ad, Ai, ni, ci, e, hF.cell h1, h2.heap hF⟩⟩

/-- What the loop over the functions' lengths has seen. -/
def shortTo (gs : List (List (BitVec 64))) (k : Nat) : Prop := ∀ i, i < k → (gs.getD i []).length ≤ 100
theorem short_all {gs : List (List (BitVec 64))} (h : shortTo gs gs.length) : ∀ g ∈ gs, g.length ≤ 1000 := by
  intro g hg
  obtain ⟨i, hi, rfl⟩ := List.getElem_of_mem hg
  have := h i hi
  simp [List.getD, hi] at this
  omega

set_option maxRecDepth 20000 in
set_option maxHeartbeats 1000000 in
theorem putL_small (x : Int) (fs : List (BitVec 64)) (gs : List (List (BitVec 64))) (A B : Option Addr) (n n' c c' : Nat) (hn : n ≤ 100) (hn' : n' ≤ 30) (w : World) (hf : Rd (heapF w) 1 A n (fs.map u)) (hg : RdR (heapF w) B n' gs) :
    Calls Try.prog 5 #[.int .i64 x, .slice A n c, .slice B n' c'] w fun e w' => e = .returned (.bool true) ∧ Below w.heap.size w w' := by
  have h1I : ¬ (100 : Int) < (n : Int) := by omega
  have h2I : ¬ (30 : Int) < (n' : Int) := by omega
  have hfl : fs.length ≤ 1000 := by rw [← rd_len hf]; omega
  have HG := Lib.hid hg
  have HN := Lib.hid hg.1
  have hS := sat_heapF w
  clear hg
  go_enter Try.func5, Try.ntmps5
  go_wp2_with fail
  go_loop [20] (fun j => ∃ k : Nat, k ≤ n' ∧ j = .int .i64 k ∧ shortTo gs k) (fun j => n' - (intOf j).toNat)
  case atStart => exact ⟨0, Nat.zero_le _, rfl, fun i hi => absurd hi (by omega)⟩
  case round =>
    obtain ⟨k, hk, rfl, hsh⟩ := hrel
    by_cases hlt : k < n'
    · have hkI : (k : Int) < (n' : Int) := by omega
      obtain ⟨ad, Ai, ni, ci, rfl, hcell, hrd⟩ := HG.out.2 k (by rw [← HN.out]; exact hlt)
      have hc := hS.cell hcell
      have hni := rd_len hrd
      by_cases hbig : 100 < ni
      · have hbI : (100 : Int) < (ni : Int) := by omega
        clear hni hcell
        go_wp2_with (go_at_call 15; refine (awake28 _).mono ?_; rintro e w1 ⟨rfl, hb1⟩)
        go_ret
        exact ⟨rfl, hb1⟩
      · have hbI : ¬ (100 : Int) < (ni : Int) := by omega
        have HI := Lib.hid hni
        clear hni hcell
        go_wp2
        go_round
        case rel => exact ⟨k + 1, by omega, by go_num, fun i hi => by
          rcases Nat.lt_or_ge i k with h | h
          · exact hsh i h
          · rw [show i = k by omega]
            have := HI.out
            omega⟩
        case measure => simp [intOf]; omega
    · have hshA : ∀ g ∈ gs, g.length ≤ 1000 := short_all (by rw [← HN.out, show n' = k by omega]; exact hsh)
      by_cases hx : 0 ≤ x ∧ x ≤ 10
      · obtain ⟨m, rfl⟩ := Int.eq_ofNat_of_zero_le hx.1
        have hm : m ≤ 10 := by omega
        clear hx
        have HP := Lib.hid (put_yes hS m hm fs hfl A n c hf gs hshA B n' c' HG.out)
        have HQ := Lib.hid (fun w1 (h1 : Below w.heap.size w w1) => rput_yes (hS.below h1) m hm fs A n c hf gs B n' c' HG.out)
        have hl : (tab m fun x => bitAt fs (putY m gs x)).length ≤ 100000 := by have := tab_len m hm fun x => bitAt fs (putY m gs x); omega
        generalize (tab m fun x => bitAt fs (putY m gs x)) = ts at *
        go_wp2_with fail
        refine HP.out.mono ?_
        rintro e w1 ⟨g1, c1, rfl, hb1, hg1, hr1⟩
        go_wp2_with fail
        refine (HQ.out _ hb1).mono ?_
        rintro e w2 ⟨g2, c2, rfl, hb2, hg2, hr2⟩
        have hb2' := bthen hb1 hb2
        have hs := sameWords_any (sat_heapF w2) ts ts _ _ _ _ c1 c2 hl (hr1.call hb2).rdH hr2.rdH
        rw [decide_eq_true rfl] at hs
        have HS := Lib.hid hs
        clear hs
        go_wp2_with fail
        refine HS.out.mono ?_
        rintro e w3 ⟨rfl, q, rfl⟩
        go_wp2_with fail
        refine (awake28 _).mono ?_
        rintro e w4 ⟨rfl, hb4⟩
        go_wp2
        go_ret
        exact ⟨rfl, bthen (below_drewN hb2' q) hb4⟩
      · have hx' : x < 0 ∨ 10 < x := by omega
        clear hx
        have hs := sameWords_any (sat_heapF w) [] [] none none 0 0 0 0 (by decide) Rd.nil Rd.nil
        rw [decide_eq_true rfl] at hs
        have HS := Lib.hid hs
        have HX := Lib.hid hx'
        clear hs hx'
        go_wp2_with fail
        refine (put_no x HX.out _ _).mono ?_
        rintro e w1 ⟨rfl, rfl⟩
        go_wp2_with fail
        refine (rput_no x HX.out _ _).mono ?_
        rintro e w1 ⟨rfl, rfl⟩
        go_wp2_with fail
        refine HS.out.mono ?_
        rintro e w3 ⟨rfl, q, rfl⟩
        go_wp2_with fail
        refine (awake28 _).mono ?_
        rintro e w4 ⟨rfl, hb4⟩
        go_wp2
        go_ret
        exact ⟨rfl, bthen (below_drewN (Below.refl _ _) q) hb4⟩
end Go.Proofs.Ytkffofolhckjeaa
