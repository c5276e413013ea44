/- The walk of tree.Part. -/
import Derived.Test.YtdbbooibkiicnaaGreatMoved
import Derived.Test.YtdbbooibkiicnaaGreatTreeP
import Derived.Test.YtdbbooibkiicnaaGreatMay
set_option linter.unusedVariables false
set_option linter.unusedSimpArgs false
/-! The walk of tree.Part. -/
namespace Go.Proofs.YtdbbooibkiicnaaGreat
open Go.RowKit
theorem retN_nil {F : Fz} {w w' : World} (hb : Below w.heap.size w w') (hF : Sat F w) : RetN F w [] (.returned (.slice none 0 0)) w' := ⟨none, 0, F, rfl, Nat.le_refl _, NodesF.nil _ _, hb, hF.below hb, Fle.refl _ _⟩
theorem RetN.from {F : Fz} {w w1 w' : World} {l : List Nd} {e : Ending} (h : RetN F w1 l e w') (hb : Below w.heap.size w w1) : RetN F w l e w' := by
  obtain ⟨A, c, F', h1, h2, h3, h4, h5, h6⟩ := h
  exact ⟨A, c, F', h1, h2, h3, bthen hb h4, h5, h6.old hb.size⟩
theorem KidsB.of {l : List Nd} (hn : l.length ≤ 1000) {t : Tr} (h : treeS l = some t) : KidsB l := fun n hn' => by
  obtain ⟨h1, h2⟩ := kids_lt h n hn'
  exact ⟨h1, fun k hk => by have := h2 k hk; omega⟩
theorem KidsB.sub {l l' : List Nd} (h : KidsB l) (hs : ∀ n ∈ l', n ∈ l) : KidsB l' := fun n hn => h n (hs n hn)
set_option maxHeartbeats 1000000 in
theorem part_w {F : Fz} {w : World} (hF : Sat F w) (l : List Nd) (hn : l.length ≤ 1000) (A : Option Addr) (n c : Nat) (hc : n ≤ c) (hl : NodesF F A n l) (i : Int) (hi1 : -9223372036854775808 ≤ i) (hi2 : i ≤ 9223372036854775807) :
    Calls Tryz.prog 55 #[.slice A n c, .int .i64 i] w (RetN F w (partL l i)) := by
  have hS := sizes_w hF l hn A n c hl
  obtain ⟨rfl, _⟩ := hl.1
  have HL := Lib.hid hl
  clear hl
  cases ht : treeS l with
  | none =>
    have HS : Hid (Calls Tryz.prog 101 #[.slice A l.length c] w fun e w' => Below w.heap.size w w' ∧ e = .returned (.slice none 0 0)) := Lib.hid (hS.mono fun e w' ⟨h1, h2⟩ => ⟨h1, by
      rcases h2 with ⟨_, h⟩ | ⟨t, g, cap, h, _⟩
      · exact h
      · rw [ht] at h; cases h⟩)
    have HP := Lib.hid (part_none ht i)
    clear hS ht
    by_cases h0 : i < 0
    · go_enter Tryz.func55, Tryz.ntmps55
      go_wp2_with (go_at_call 101; refine HS.out.mono ?_; rintro e w' ⟨hw, rfl⟩)
      go_ret
      rw [HP.out]
      exact retN_nil hw hF
    · have h0' : decide (i < 0) = false := decide_eq_false h0
      have h1 : (0 : Int) ≤ i := by omega
      clear h0
      go_enter Tryz.func55, Tryz.ntmps55
      go_wp2_with (go_at_call 101; refine HS.out.mono ?_; rintro e w' ⟨hw, rfl⟩)
      go_ret
      rw [HP.out]
      exact retN_nil hw hF
  | some t =>
    have HS : Hid (Calls Tryz.prog 101 #[.slice A l.length c] w fun e w' => Below w.heap.size w w' ∧ ∃ g cap, e = .returned (.slice (some ⟨g, 0, none⟩) l.length cap) ∧ Blk w' g 3 (t.sizes.map encN).toArray) := Lib.hid (hS.mono fun e w' ⟨h1, h2⟩ => ⟨h1, by
      rcases h2 with ⟨h, _⟩ | ⟨t', g, cap, h, h3, h4⟩
      · rw [ht] at h; cases h
      · rw [ht] at h
        injection h with h
        subst h
        exact ⟨g, cap, h3, h4⟩⟩)
    clear hS
    by_cases h0 : i < 0
    · have HP := Lib.hid (part_out (l := l) (i := i) (.inl h0))
      clear ht
      go_enter Tryz.func55, Tryz.ntmps55
      go_wp2_with (go_at_call 101; refine HS.out.mono ?_; rintro e w' ⟨hw, g, cap, rfl, hB⟩)
      go_ret
      rw [HP.out]
      exact retN_nil hw hF
    · have h0' : decide (i < 0) = false := decide_eq_false h0
      by_cases h1 : (l.length : Int) ≤ i
      · have HP := Lib.hid (part_out (l := l) (i := i) (.inr h1))
        clear ht h0
        go_enter Tryz.func55, Tryz.ntmps55
        go_wp2_with (go_at_call 101; refine HS.out.mono ?_; rintro e w' ⟨hw, g, cap, rfl, hB⟩)
        go_ret
        rw [HP.out]
        exact retN_nil hw hF
      · have h1' : decide ((l.length : Int) ≤ i) = false := decide_eq_false h1
        obtain ⟨k, rfl⟩ := Int.eq_ofNat_of_zero_le (show 0 ≤ i by omega)
        have hkl : k < l.length := by omega
        obtain ⟨hp1, hp2, hp3⟩ := part_cut ht hkl
        have hts : k < t.size := by rw [← tree_len ht]; exact hkl
        have hkb := (KidsB.of hn ht).sub (l' := (l.drop (k + 1 - (t.sub k).size)).take (t.sub k).size) (fun n hn => List.mem_of_mem_drop (List.mem_of_mem_take hn))
        have hgs := Tr.get_sizes t k hts
        have hsp := (t.sub k).size_pos
        have hcut := (HL.out.cut (k := k + 1 - (t.sub k).size) (cap := c) (by omega) hc).pre (k := (t.sub k).size) (by omega)
        rw [if_neg (by omega)] at hcut
        have HP2 := Lib.hid hp2
        have HP3 := Lib.hid hp3
        generalize (t.sub k).size = sz at *
        obtain ⟨fr, hfr⟩ : ∃ fr, k + 1 = fr + sz := ⟨k + 1 - sz, by omega⟩
        have hfe : k + 1 - sz = fr := by omega
        rw [hfe] at hkb hcut HP2
        have hM := fun (W : World) (h : Sat F W) => moved_w h ((l.drop fr).take sz) (by simp; omega) (A.map (·.add (fr * 5))) sz (c - fr) hcut hkb (-(fr : Int)) (by omega) (by omega)
        have HM := Lib.hid hM
        have hsub : (k : Int) + 1 - (sz : Int) = (fr : Int) := by omega
        have hsub2 : k + 1 - fr = sz := by omega
        have hb1 : (fr : Int) ≤ (k : Int) + 1 := by omega
        have hb2 : (k : Int) + 1 ≤ (c : Int) := by omega
        have hb3 : (k : Int) < (l.length : Int) := by omega
        have hne : ¬ c = fr := by omega
        clear ht h0 h1 hp1 hp2 hp3 hkb hcut hM hfe
        go_enter Tryz.func55, Tryz.ntmps55
        go_wp2_with (first | (go_at_call 101; refine HS.out.mono ?_; rintro e w1 ⟨hw, g, cap, rfl, hB⟩; have hcs := hB.cellL hgs) | (go_at_call 102; refine (HM.out _ (hF.below hw)).mono ?_; rintro e w2 hR; obtain ⟨A', c', F', rfl, hR2⟩ := hR))
        go_ret
        rw [HP3.out, ← HP2.out]
        exact ⟨A', c', F', by simp, hR2.1, hR2.2.1, bthen hw hR2.2.2.1, hR2.2.2.2.1, hR2.2.2.2.2.old hw.size⟩
end Go.Proofs.YtdbbooibkiicnaaGreat
/-! The walk of the reference's Start. -/
namespace Go.Proofs.YtdbbooibkiicnaaGreat
open Go.RowKit
theorem get_kids {l : List Nd} {t : Tr} (h : treeS l = some t) (j : Nat) (hj : j < l.length) : l[j].kids = (t.sub j).rootKids (j + 1 - (t.sub j).size) := by
  have h1 := Tr.get_flat t j 0 (by rw [← tree_len h]; exact hj)
  rw [← tree_flat h, List.getElem?_eq_getElem hj] at h1
  injection h1 with h1
  rw [h1, Nat.zero_add]
theorem start_w {F : Fz} {w : World} (hF : Sat F w) (l : List Nd) (hn : l.length ≤ 1000) (A : Option Addr) (n c : Nat) (hl : NodesF F A n l) {t : Tr} (ht : treeS l = some t) (i : Nat) (hi : i < l.length) :
    Calls Tryz.prog 59 #[.slice A n c, .int .i64 i] w fun e w' => e = .returned (.int .i64 ((i + 1 - (t.sub i).size : Nat) : Int)) ∧ w = w' := by
  obtain ⟨rfl, hl2⟩ := hl
  obtain ⟨ad, rfl, hL⟩ := hl2 (by omega)
  have HT := Lib.hid ht
  clear ht
  go_enter Tryz.func59, Tryz.ntmps59
  go_wp2_with fail
  go_loop [1] (fun v => ∃ j : Nat, j < l.length ∧ v = .int .i64 j ∧ Hid (j + 1 - (t.sub j).size = i + 1 - (t.sub i).size)) (fun v => (intOf v).toNat)
  case atStart => exact ⟨i, hi, rfl, Lib.hid rfl⟩
  case round =>
    obtain ⟨j, hj, rfl, hs⟩ := hrel
    obtain ⟨Ak, ck, hck, hK, hd⟩ := hL j hj
    obtain ⟨c0, c1, c2, c3, c4⟩ := hd.sat hF
    have hjI : (j : Int) < (l.length : Int) := by omega
    have hk := get_kids HT.out j hj
    have hjt : j < t.size := by rw [← tree_len HT.out]; exact hj
    rcases Tr.first_kid t j hjt with ⟨h1, h2⟩ | ⟨k, r, h1, h2, h3⟩
    · rw [h1] at hk
      rw [hk] at c4
      have HR : Hid (j = i + 1 - (t.sub i).size) := Lib.hid (by have := hs.out; omega)
      clear h1 h2 hs hk
      go_wp2_with fail
      go_ret
      exact ⟨by rw [← HR.out] <;> rfl, rfl⟩
    · rw [h1] at hk
      rw [hk] at c4 hK
      obtain ⟨Akd, v, rfl, hv, hcell⟩ := hK.at1 (k := 0) (by simp)
      obtain rfl : Value.int .i64 (k : Int) = v := by simpa using hv
      have hcz := hF.cell hcell
      rw [show Akd.add 0 = Akd by unfold Addr.add; simp] at hcz
      have HR : Hid (k + 1 - (t.sub k).size = i + 1 - (t.sub i).size) := Lib.hid (h3.trans hs.out)
      have hpos : (0 : Int) < (r.length : Int) + 1 := by omega
      clear h1 h3 hs hk hv hcell
      go_wp2_with fail
      go_round
      case rel => exact ⟨k, by omega, rfl, HR⟩
      case measure => simp [intOf]; omega
end Go.Proofs.YtdbbooibkiicnaaGreat
