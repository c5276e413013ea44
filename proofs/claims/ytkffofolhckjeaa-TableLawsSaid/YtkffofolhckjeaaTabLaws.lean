/- The law TableLaws: its walk. -/
import Derived.Test.YtkffofolhckjeaaTabW
namespace Go.Proofs.Ytkffofolhckjeaa
open Go.RowKit

set_option maxRecDepth 100000 in
theorem laws_big (k : Nat) (A B C : Option Addr) (n n' n'' c c' c'' : Nat) (h : 100 < n ∨ 100 < n' ∨ 100 < n'') (w : World) :
    Calls Try.prog 4 #[.int .u8 k, .slice A n c, .slice B n' c', .slice C n'' c''] w fun e w' => e = .returned (.bool true) ∧ Below w.heap.size w w' := by
  have hd : (100 : Int) < (n : Int) ∨ (¬ (100 : Int) < (n : Int) ∧ (100 : Int) < (n' : Int)) ∨ (¬ (100 : Int) < (n : Int) ∧ ¬ (100 : Int) < (n' : Int) ∧ (100 : Int) < (n'' : Int)) := by omega
  clear h
  rcases hd with h1 | ⟨h1, h2⟩ | ⟨h1, h2, h3⟩
  all_goals
    go_enter Try.func4, Try.ntmps4
    go_wp2_with (go_at_call 15; refine (awake28 _).mono ?_; rintro e w1 ⟨rfl, hb1⟩)
    go_ret
    exact ⟨rfl, hb1⟩

set_option maxRecDepth 100000 in
set_option maxHeartbeats 4000000 in
theorem laws_small (k : Nat) (hk : k < 256) (A B C : Option Addr) (n n' n'' c c' c'' : Nat) (fs gs hs : List (BitVec 64)) (h1 : n ≤ 100) (h2 : n' ≤ 100) (h3 : n'' ≤ 100) (w : World)
    (rf : Rd (heapF w) 1 A n (fs.map u)) (rg : Rd (heapF w) 1 B n' (gs.map u)) (rh : Rd (heapF w) 1 C n'' (hs.map u)) :
    Calls Try.prog 4 #[.int .u8 k, .slice A n c, .slice B n' c', .slice C n'' c''] w fun e w' => e = .returned (.bool true) ∧ Below w.heap.size w w' := by
  have h1I : ¬ (100 : Int) < (n : Int) := by omega
  have h2I : ¬ (100 : Int) < (n' : Int) := by omega
  have h3I : ¬ (100 : Int) < (n'' : Int) := by omega
  have HF := Lib.hid (few_any (w := w) k hk)
  have hm := fewN_le k
  generalize fewN k = m at *
  have hf : Wd m w (.slice A n c) (bitAt fs) := ⟨A, n, c, fs, rfl, rf, by rw [← rd_len rf]; omega, fun _ _ => rfl⟩
  have hg : Wd m w (.slice B n' c') (bitAt gs) := ⟨B, n', c', gs, rfl, rg, by rw [← rd_len rg]; omega, fun _ _ => rfl⟩
  have hh : Wd m w (.slice C n'' c'') (bitAt hs) := ⟨C, n'', c'', hs, rfl, rh, by rw [← rd_len rh]; omega, fun _ _ => rfl⟩
  have hT := Below.refl w.heap.size w
  generalize bitAt fs = a at *
  generalize bitAt gs = b at *
  generalize bitAt hs = c at *
  clear rf rg rh
  go_enter Try.func4, Try.ntmps4
  go_wp2_with (go_at_call 16; refine HF.out.mono ?_; rintro e w' ⟨rfl, rfl⟩)
  refine (w_or hm hg hh).mono ?_
  rintro e w1 ⟨v1, rfl, hb, h1⟩
  replace hf := hf.below hb
  replace hg := hg.below hb
  replace hh := hh.below hb
  replace hT := bthen hT hb
  clear hb
  go_wp2_with fail
  refine (w_and hm hf h1).mono ?_
  rintro e w2 ⟨v2, rfl, hb, h2⟩
  replace hf := hf.below hb
  replace hg := hg.below hb
  replace hh := hh.below hb
  replace h1 := h1.below hb
  replace hT := bthen hT hb
  clear hb
  go_wp2_with fail
  refine (w_and hm hf hg).mono ?_
  rintro e w3 ⟨v3, rfl, hb, h3⟩
  replace hf := hf.below hb
  replace hg := hg.below hb
  replace hh := hh.below hb
  replace h1 := h1.below hb
  replace h2 := h2.below hb
  replace hT := bthen hT hb
  clear hb
  go_wp2_with fail
  refine (w_and hm hf hh).mono ?_
  rintro e w4 ⟨v4, rfl, hb, h4⟩
  replace hf := hf.below hb
  replace hg := hg.below hb
  replace hh := hh.below hb
  replace h1 := h1.below hb
  replace h2 := h2.below hb
  replace h3 := h3.below hb
  replace hT := bthen hT hb
  clear hb
  go_wp2_with fail
  refine (w_or hm h3 h4).mono ?_
  rintro e w5 ⟨v5, rfl, hb, h5⟩
  replace hf := hf.below hb
  replace hg := hg.below hb
  replace hh := hh.below hb
  replace h1 := h1.below hb
  replace h2 := h2.below hb
  replace h3 := h3.below hb
  replace h4 := h4.below hb
  replace hT := bthen hT hb
  clear hb
  go_wp2_with fail
  refine (w_sameT hm h2 h5 (fun x _ => by cases a x <;> cases b x <;> cases c x <;> rfl)).mono ?_
  rintro e w6 ⟨rfl, hb⟩
  replace hf := hf.below hb
  replace hg := hg.below hb
  replace hh := hh.below hb
  replace h1 := h1.below hb
  replace h2 := h2.below hb
  replace h3 := h3.below hb
  replace h4 := h4.below hb
  replace h5 := h5.below hb
  replace hT := bthen hT hb
  clear hb
  clear h1 h2 h3 h4 h5
  go_wp2_with fail
  refine (w_and hm hg hh).mono ?_
  rintro e w7 ⟨v1, rfl, hb, h1⟩
  replace hf := hf.below hb
  replace hg := hg.below hb
  replace hh := hh.below hb
  replace hT := bthen hT hb
  clear hb
  go_wp2_with fail
  refine (w_or hm hf h1).mono ?_
  rintro e w8 ⟨v2, rfl, hb, h2⟩
  replace hf := hf.below hb
  replace hg := hg.below hb
  replace hh := hh.below hb
  replace h1 := h1.below hb
  replace hT := bthen hT hb
  clear hb
  go_wp2_with fail
  refine (w_or hm hf hg).mono ?_
  rintro e w9 ⟨v3, rfl, hb, h3⟩
  replace hf := hf.below hb
  replace hg := hg.below hb
  replace hh := hh.below hb
  replace h1 := h1.below hb
  replace h2 := h2.below hb
  replace hT := bthen hT hb
  clear hb
  go_wp2_with fail
  refine (w_or hm hf hh).mono ?_
  rintro e w10 ⟨v4, rfl, hb, h4⟩
  replace hf := hf.below hb
  replace hg := hg.below hb
  replace hh := hh.below hb
  replace h1 := h1.below hb
  replace h2 := h2.below hb
  replace h3 := h3.below hb
  replace hT := bthen hT hb
  clear hb
  go_wp2_with fail
  refine (w_and hm h3 h4).mono ?_
  rintro e w11 ⟨v5, rfl, hb, h5⟩
  replace hf := hf.below hb
  replace hg := hg.below hb
  replace hh := hh.below hb
  replace h1 := h1.below hb
  replace h2 := h2.below hb
  replace h3 := h3.below hb
  replace h4 := h4.below hb
  replace hT := bthen hT hb
  clear hb
  go_wp2_with fail
  refine (w_sameT hm h2 h5 (fun x _ => by cases a x <;> cases b x <;> cases c x <;> rfl)).mono ?_
  rintro e w12 ⟨rfl, hb⟩
  replace hf := hf.below hb
  replace hg := hg.below hb
  replace hh := hh.below hb
  replace h1 := h1.below hb
  replace h2 := h2.below hb
  replace h3 := h3.below hb
  replace h4 := h4.below hb
  replace h5 := h5.below hb
  replace hT := bthen hT hb
  clear hb
  clear h1 h2 h3 h4 h5
  go_wp2_with fail
  refine (w_and hm hf hg).mono ?_
  rintro e w13 ⟨v1, rfl, hb, h1⟩
  replace hf := hf.below hb
  replace hg := hg.below hb
  replace hh := hh.below hb
  replace hT := bthen hT hb
  clear hb
  go_wp2_with fail
  refine (w_not hm h1).mono ?_
  rintro e w14 ⟨v2, rfl, hb, h2⟩
  replace hf := hf.below hb
  replace hg := hg.below hb
  replace hh := hh.below hb
  replace h1 := h1.below hb
  replace hT := bthen hT hb
  clear hb
  go_wp2_with fail
  refine (w_not hm hf).mono ?_
  rintro e w15 ⟨v3, rfl, hb, h3⟩
  replace hf := hf.below hb
  replace hg := hg.below hb
  replace hh := hh.below hb
  replace h1 := h1.below hb
  replace h2 := h2.below hb
  replace hT := bthen hT hb
  clear hb
  go_wp2_with fail
  refine (w_not hm hg).mono ?_
  rintro e w16 ⟨v4, rfl, hb, h4⟩
  replace hf := hf.below hb
  replace hg := hg.below hb
  replace hh := hh.below hb
  replace h1 := h1.below hb
  replace h2 := h2.below hb
  replace h3 := h3.below hb
  replace hT := bthen hT hb
  clear hb
  go_wp2_with fail
  refine (w_or hm h3 h4).mono ?_
  rintro e w17 ⟨v5, rfl, hb, h5⟩
  replace hf := hf.below hb
  replace hg := hg.below hb
  replace hh := hh.below hb
  replace h1 := h1.below hb
  replace h2 := h2.below hb
  replace h3 := h3.below hb
  replace h4 := h4.below hb
  replace hT := bthen hT hb
  clear hb
  go_wp2_with fail
  refine (w_sameT hm h2 h5 (fun x _ => by cases a x <;> cases b x <;> rfl)).mono ?_
  rintro e w18 ⟨rfl, hb⟩
  replace hf := hf.below hb
  replace hg := hg.below hb
  replace hh := hh.below hb
  replace h1 := h1.below hb
  replace h2 := h2.below hb
  replace h3 := h3.below hb
  replace h4 := h4.below hb
  replace h5 := h5.below hb
  replace hT := bthen hT hb
  clear hb
  clear h1 h2 h3 h4 h5
  go_wp2_with fail
  refine (w_not hm hf).mono ?_
  rintro e w19 ⟨v1, rfl, hb, h1⟩
  replace hf := hf.below hb
  replace hg := hg.below hb
  replace hh := hh.below hb
  replace hT := bthen hT hb
  clear hb
  go_wp2_with fail
  refine (w_not hm h1).mono ?_
  rintro e w20 ⟨v2, rfl, hb, h2⟩
  replace hf := hf.below hb
  replace hg := hg.below hb
  replace hh := hh.below hb
  replace h1 := h1.below hb
  replace hT := bthen hT hb
  clear hb
  go_wp2_with fail
  refine (w_sameT hm h2 hf (fun x _ => by cases a x <;> rfl)).mono ?_
  rintro e w21 ⟨rfl, hb⟩
  replace hf := hf.below hb
  replace hg := hg.below hb
  replace hh := hh.below hb
  replace h1 := h1.below hb
  replace h2 := h2.below hb
  replace hT := bthen hT hb
  clear hb
  clear h1 h2
  go_wp2_with fail
  refine (w_and hm hf hg).mono ?_
  rintro e w22 ⟨v1, rfl, hb, h1⟩
  replace hf := hf.below hb
  replace hg := hg.below hb
  replace hh := hh.below hb
  replace hT := bthen hT hb
  clear hb
  go_wp2_with fail
  refine (w_and hm hg hf).mono ?_
  rintro e w23 ⟨v2, rfl, hb, h2⟩
  replace hf := hf.below hb
  replace hg := hg.below hb
  replace hh := hh.below hb
  replace h1 := h1.below hb
  replace hT := bthen hT hb
  clear hb
  go_wp2_with fail
  refine (w_sameT hm h1 h2 (fun x _ => by cases a x <;> cases b x <;> rfl)).mono ?_
  rintro e w24 ⟨rfl, hb⟩
  replace hf := hf.below hb
  replace hg := hg.below hb
  replace hh := hh.below hb
  replace h1 := h1.below hb
  replace h2 := h2.below hb
  replace hT := bthen hT hb
  clear hb
  clear h1 h2
  go_wp2_with fail
  refine (w_not hm hf).mono ?_
  rintro e w25 ⟨v1, rfl, hb, h1⟩
  replace hf := hf.below hb
  replace hg := hg.below hb
  replace hh := hh.below hb
  replace hT := bthen hT hb
  clear hb
  go_wp2_with fail
  refine (w_and hm hf h1).mono ?_
  rintro e w26 ⟨v2, rfl, hb, h2⟩
  replace hf := hf.below hb
  replace hg := hg.below hb
  replace hh := hh.below hb
  replace h1 := h1.below hb
  replace hT := bthen hT hb
  clear hb
  go_wp2_with fail
  refine (w_const hm h2 false true (cP_of fun x => by show (a x && !a x) = false; cases a x <;> rfl)).mono ?_
  rintro e w27 ⟨rfl, hb⟩
  replace hf := hf.below hb
  replace hg := hg.below hb
  replace hh := hh.below hb
  replace h1 := h1.below hb
  replace h2 := h2.below hb
  replace hT := bthen hT hb
  clear hb
  clear h1 h2
  go_wp2_with fail
  refine (w_not hm hf).mono ?_
  rintro e w28 ⟨v1, rfl, hb, h1⟩
  replace hf := hf.below hb
  replace hg := hg.below hb
  replace hh := hh.below hb
  replace hT := bthen hT hb
  clear hb
  go_wp2_with fail
  refine (w_or hm hf h1).mono ?_
  rintro e w29 ⟨v2, rfl, hb, h2⟩
  replace hf := hf.below hb
  replace hg := hg.below hb
  replace hh := hh.below hb
  replace h1 := h1.below hb
  replace hT := bthen hT hb
  clear hb
  go_wp2_with fail
  refine (w_const hm h2 true true (cP_of fun x => by show (a x || !a x) = true; cases a x <;> rfl)).mono ?_
  rintro e w30 ⟨rfl, hb⟩
  replace hf := hf.below hb
  replace hg := hg.below hb
  replace hh := hh.below hb
  replace h1 := h1.below hb
  replace h2 := h2.below hb
  replace hT := bthen hT hb
  clear hb
  clear h1 h2
  go_wp2_with fail
  refine (w_yes hm).mono ?_
  rintro e w31 ⟨v1, rfl, hb, h1⟩
  replace hf := hf.below hb
  replace hg := hg.below hb
  replace hh := hh.below hb
  replace hT := bthen hT hb
  clear hb
  go_wp2_with fail
  refine (w_and hm hf h1).mono ?_
  rintro e w32 ⟨v2, rfl, hb, h2⟩
  replace hf := hf.below hb
  replace hg := hg.below hb
  replace hh := hh.below hb
  replace h1 := h1.below hb
  replace hT := bthen hT hb
  clear hb
  go_wp2_with fail
  refine (w_sameT hm h2 hf (fun x _ => by cases a x <;> rfl)).mono ?_
  rintro e w33 ⟨rfl, hb⟩
  replace hf := hf.below hb
  replace hg := hg.below hb
  replace hh := hh.below hb
  replace h1 := h1.below hb
  replace h2 := h2.below hb
  replace hT := bthen hT hb
  clear hb
  clear h1 h2
  go_wp2_with fail
  refine (w_no hm).mono ?_
  rintro e w34 ⟨v1, rfl, hb, h1⟩
  replace hf := hf.below hb
  replace hg := hg.below hb
  replace hh := hh.below hb
  replace hT := bthen hT hb
  clear hb
  go_wp2_with fail
  refine (w_or hm hf h1).mono ?_
  rintro e w35 ⟨v2, rfl, hb, h2⟩
  replace hf := hf.below hb
  replace hg := hg.below hb
  replace hh := hh.below hb
  replace h1 := h1.below hb
  replace hT := bthen hT hb
  clear hb
  go_wp2_with fail
  refine (w_sameT hm h2 hf (fun x _ => by cases a x <;> rfl)).mono ?_
  rintro e w36 ⟨rfl, hb⟩
  replace hf := hf.below hb
  replace hg := hg.below hb
  replace hh := hh.below hb
  replace h1 := h1.below hb
  replace h2 := h2.below hb
  replace hT := bthen hT hb
  clear hb
  clear h1 h2
  go_wp2_with fail
  refine (awake28 _).mono ?_
  rintro e w37 ⟨rfl, hb⟩
  replace hf := hf.below hb
  replace hg := hg.below hb
  replace hh := hh.below hb
  replace hT := bthen hT hb
  clear hb
  go_wp2
  go_ret
  exact ⟨rfl, hT⟩
end Go.Proofs.Ytkffofolhckjeaa
