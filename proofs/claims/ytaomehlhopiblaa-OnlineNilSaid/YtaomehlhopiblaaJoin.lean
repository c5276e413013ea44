/- The walk of tree.Part. -/
import Derived.Test.YtaomehlhopiblaaMoved
import Derived.Test.YtaomehlhopiblaaTreeP
import Derived.Test.YtaomehlhopiblaaApp
import Derived.Deep.DeepCutAuto
import Derived.Deep.RegionWith
set_option linter.unusedVariables false
set_option linter.unusedSimpArgs false
/-! The walk of tree.Part. -/
namespace Go.Proofs.Ytaomehlhopiblaa
open Go.RowKit
theorem retN_nil {F : Fz} {w w' : World} (hb : Below w.heap.size w w') (hF : Sat F w) : RetN F w [] (.returned (.slice none 0 0)) w' := ⟨none, 0, F, rfl, Nat.le_refl _, NodesF.nil _ _, hb, hF.below hb, Fle.refl _ _⟩
theorem RetN.from {F : Fz} {w w1 w' : World} {l : List Nd} {e : Ending} (h : RetN F w1 l e w') (hb : Below w.heap.size w w1) : RetN F w l e w' := by
  obtain ⟨A, c, F', h1, h2, h3, h4, h5, h6⟩ := h
  exact ⟨A, c, F', h1, h2, h3, bthen hb h4, h5, h6.old hb.size⟩
theorem KidsB.of {l : List Nd} (hn : l.length ≤ 1000) {t : Tr} (h : treeS l = some t) : KidsB l := fun n hn' => by
  obtain ⟨h1, h2⟩ := kids_lt h n hn'
  exact ⟨h1, fun k hk => by have := h2 k hk; omega⟩
theorem KidsB.sub {l l' : List Nd} (h : KidsB l) (hs : ∀ n ∈ l', n ∈ l) : KidsB l' := fun n hn => h n (hs n hn)
set_option maxHeartbeats 1000000 in
theorem part_w {F : Fz} {w : World} (hF : Sat F w) (l : List Nd) (hn : l.length ≤ 1000) (A : Option Addr) (n c : Nat) (hc : n ≤ c) (hl : NodesF F A n l) (i : Int) (hi1 : -9223372036854775808 ≤ i) (hi2 : i ≤ 9223372036854775807) :
    Calls Try.prog 34 #[.slice A n c, .int .i64 i] w (RetN F w (partL l i)) := by
  have hS := sizes_w hF l hn A n c hl
  obtain ⟨rfl, _⟩ := hl.1
  have HL := Lib.hid hl
  clear hl
  cases ht : treeS l with
  | none =>
    have HS : Hid (Calls Try.prog 53 #[.slice A l.length c] w fun e w' => Below w.heap.size w w' ∧ e = .returned (.slice none 0 0)) := Lib.hid (hS.mono fun e w' ⟨h1, h2⟩ => ⟨h1, by
      rcases h2 with ⟨_, h⟩ | ⟨t, g, cap, h, _⟩
      · exact h
      · rw [ht] at h; cases h⟩)
    have HP := Lib.hid (part_none ht i)
    clear hS ht
    by_cases h0 : i < 0
    · go_enter Try.func34, Try.ntmps34
      go_wp2_with (go_at_call 53; refine HS.out.mono ?_; rintro e w' ⟨hw, rfl⟩)
      go_ret
      rw [HP.out]
      exact retN_nil hw hF
    · have h0' : decide (i < 0) = false := decide_eq_false h0
      have h1 : (0 : Int) ≤ i := by omega
      clear h0
      go_enter Try.func34, Try.ntmps34
      go_wp2_with (go_at_call 53; refine HS.out.mono ?_; rintro e w' ⟨hw, rfl⟩)
      go_ret
      rw [HP.out]
      exact retN_nil hw hF
  | some t =>
    have HS : Hid (Calls Try.prog 53 #[.slice A l.length c] w fun e w' => Below w.heap.size w w' ∧ ∃ g cap, e = .returned (.slice (some ⟨g, 0, none⟩) l.length cap) ∧ Blk w' g 3 (t.sizes.map encN).toArray) := Lib.hid (hS.mono fun e w' ⟨h1, h2⟩ => ⟨h1, by
      rcases h2 with ⟨h, _⟩ | ⟨t', g, cap, h, h3, h4⟩
      · rw [ht] at h; cases h
      · rw [ht] at h
        injection h with h
        subst h
        exact ⟨g, cap, h3, h4⟩⟩)
    clear hS
    by_cases h0 : i < 0
    · have HP := Lib.hid (part_out (l := l) (i := i) (.inl h0))
      clear ht
      go_enter Try.func34, Try.ntmps34
      go_wp2_with (go_at_call 53; refine HS.out.mono ?_; rintro e w' ⟨hw, g, cap, rfl, hB⟩)
      go_ret
      rw [HP.out]
      exact retN_nil hw hF
    · have h0' : decide (i < 0) = false := decide_eq_false h0
      by_cases h1 : (l.length : Int) ≤ i
      · have HP := Lib.hid (part_out (l := l) (i := i) (.inr h1))
        clear ht h0
        go_enter Try.func34, Try.ntmps34
        go_wp2_with (go_at_call 53; refine HS.out.mono ?_; rintro e w' ⟨hw, g, cap, rfl, hB⟩)
        go_ret
        rw [HP.out]
        exact retN_nil hw hF
      · have h1' : decide ((l.length : Int) ≤ i) = false := decide_eq_false h1
        obtain ⟨k, rfl⟩ := Int.eq_ofNat_of_zero_le (show 0 ≤ i by omega)
        have hkl : k < l.length := by omega
        obtain ⟨hp1, hp2, hp3⟩ := part_cut ht hkl
        have hts : k < t.size := by rw [← tree_len ht]; exact hkl
        have hkb := (KidsB.of hn ht).sub (l' := (l.drop (k + 1 - (t.sub k).size)).take (t.sub k).size) (fun n hn => List.mem_of_mem_drop (List.mem_of_mem_take hn))
        have hgs := Tr.get_sizes t k hts
        have hsp := (t.sub k).size_pos
        have hcut := (HL.out.cut (k := k + 1 - (t.sub k).size) (cap := c) (by omega) hc).pre (k := (t.sub k).size) (by omega)
        rw [if_neg (by omega)] at hcut
        have HP2 := Lib.hid hp2
        have HP3 := Lib.hid hp3
        generalize (t.sub k).size = sz at *
        obtain ⟨fr, hfr⟩ : ∃ fr, k + 1 = fr + sz := ⟨k + 1 - sz, by omega⟩
        have hfe : k + 1 - sz = fr := by omega
        rw [hfe] at hkb hcut HP2
        have hM := fun (W : World) (h : Sat F W) => moved_w h ((l.drop fr).take sz) (by simp; omega) (A.map (·.add (fr * 5))) sz (c - fr) hcut hkb (-(fr : Int)) (by omega) (by omega)
        have HM := Lib.hid hM
        have hsub : (k : Int) + 1 - (sz : Int) = (fr : Int) := by omega
        have hsub2 : k + 1 - fr = sz := by omega
        have hb1 : (fr : Int) ≤ (k : Int) + 1 := by omega
        have hb2 : (k : Int) + 1 ≤ (c : Int) := by omega
        have hb3 : (k : Int) < (l.length : Int) := by omega
        have hne : ¬ c = fr := by omega
        clear ht h0 h1 hp1 hp2 hp3 hkb hcut hM hfe
        go_enter Try.func34, Try.ntmps34
        go_wp2_with (first | (go_at_call 53; refine HS.out.mono ?_; rintro e w1 ⟨hw, g, cap, rfl, hB⟩; have hcs := hB.cellL hgs) | (go_at_call 54; refine (HM.out _ (hF.below hw)).mono ?_; rintro e w2 hR; obtain ⟨A', c', F', rfl, hR2⟩ := hR))
        go_ret
        rw [HP3.out, ← HP2.out]
        exact ⟨A', c', F', by simp, hR2.1, hR2.2.1, bthen hw hR2.2.2.1, hR2.2.2.2.1, hR2.2.2.2.2.old hw.size⟩
end Go.Proofs.Ytaomehlhopiblaa
/-! The walk of the reference's Start. -/
namespace Go.Proofs.Ytaomehlhopiblaa
open Go.RowKit
theorem get_kids {l : List Nd} {t : Tr} (h : treeS l = some t) (j : Nat) (hj : j < l.length) : l[j].kids = (t.sub j).rootKids (j + 1 - (t.sub j).size) := by
  have h1 := Tr.get_flat t j 0 (by rw [← tree_len h]; exact hj)
  rw [← tree_flat h, List.getElem?_eq_getElem hj] at h1
  injection h1 with h1
  rw [h1, Nat.zero_add]
end Go.Proofs.Ytaomehlhopiblaa
namespace Go.Proofs.Ytaomehlhopiblaa
open Go.RowKit
theorem Own.same {F : Fz} {w w' : World} {B : Nat} {e : TypeId} {size n : Nat} {v : Value} {xs : List Value} (h : Own F w B e size v n xs) (hs : ∀ g, v.ownBlock = some g → w'.heap[g]? = w.heap[g]?) : Own F w' B e size v n xs := by
  obtain ⟨⟨hl, h1⟩, h2⟩ := h
  refine ⟨⟨hl, ?_⟩, h2⟩
  rcases h1 with h1 | ⟨g, cap, cur, rfl, hg, hh, hc⟩
  · exact .inl h1
  · exact .inr ⟨g, cap, cur, rfl, hg, (hs g rfl).trans hh, hc⟩
theorem Own.shape {F : Fz} {w : World} {B : Nat} {e : TypeId} {size n : Nat} {v : Value} {xs : List Value} (h : Own F w B e size v n xs) : ∃ A c, v = .slice A n c ∧ n ≤ c := by
  obtain ⟨A, c, h1, h2, _⟩ := h.rdH
  exact ⟨A, c, h1, h2⟩
theorem OwnN.shape {F : Fz} {w : World} {B : Nat} {v : Value} {l : List Nd} (h : OwnN F w B v l) : ∃ A c, v = .slice A l.length c ∧ l.length ≤ c := let ⟨_, h1, _⟩ := h; h1.shape
/-- Two rows of the call's own lie in two blocks. -/
def Apart (o t : Value) : Prop := ∀ g, o.ownBlock = some g → t.ownBlock ≠ some g
theorem Apart.symm {o t : Value} (h : Apart o t) : Apart t o := fun g h1 h2 => h g h2 h1
theorem Apart.or {o t : Value} (h : Apart o t) : t.ownBlock = none ∨ t.ownBlock ≠ o.ownBlock := by
  cases e : o.ownBlock with
  | none =>
    cases e2 : t.ownBlock with
    | none => exact .inl rfl
    | some g => exact .inr (by simp)
  | some g => exact .inr (h g e)
theorem Apart.push {o t o' : Value} {S : Nat} (h : Apart o t) (ht : ∀ g, t.ownBlock = some g → g < S) (hat : o'.ownBlock = o.ownBlock ∨ o'.ownBlock = some S) : Apart o' t := by
  intro g hg
  rcases hat with e | e
  · exact h g (by rw [← e]; exact hg)
  · rw [hg] at e
    injection e with e
    intro h2
    have := ht g h2
    omega
theorem apart_nil (v : Value) : Apart (.slice none 0 0) v := fun g h => by simp [Value.ownBlock] at h
theorem OwnN.kept {F : Fz} {w w' : World} {B : Nat} {v : Value} {l : List Nd} {row : Option Nat} (h : OwnN F w B v l) (hg : w.grownBy w' row) (hne : v.ownBlock = none ∨ v.ownBlock ≠ row) : OwnN F w' B v l := let ⟨xs, h1, h2⟩ := h; ⟨xs, h1.kept hg hne, h2⟩
theorem OwnN.empty (F : Fz) (w : World) (B : Nat) {w' : World} (hF : Sat F w) (hw : w' = w.alloc (.cells #[] 48)) (hB : B ≤ w.heap.size) : OwnN F w' B (.slice (some ⟨w.heap.size, 0, none⟩) 0 0) [] := ⟨[], Own.empty F w B _ 5 hF hw hB, .nil⟩
end Go.Proofs.Ytaomehlhopiblaa
/-! The walk of the reference's May. -/
namespace Go.Proofs.Ytaomehlhopiblaa
open Go.RowKit
attribute [local go_sem ↓] span_eq

theorem Rd.next {w w' : World} {size n : Nat} {A : Option Addr} {xs : List Value} (h : Rd (heapF w) size A n xs) (hb : Below w.heap.size w w') : Rd (heapF w') size A n xs := h.heap ((sat_heapF w).below hb)
end Go.Proofs.Ytaomehlhopiblaa
/-! The walk of the reference's Part. -/
namespace Go.Proofs.Ytaomehlhopiblaa
open Go.RowKit
end Go.Proofs.Ytaomehlhopiblaa
/-! What a node over some lists is. Plain lemmas. -/
namespace Go.Proofs.Ytaomehlhopiblaa
end Go.Proofs.Ytaomehlhopiblaa
/-! The walk of tree.Join. -/
namespace Go.Proofs.Ytaomehlhopiblaa
open Go.RowKit
/-- A list of lists of nodes, all frozen. -/
def RowsN (F : Fz) (A : Option Addr) (k : Nat) (ls : List (List Nd)) : Prop :=
  ls.length = k ∧ (0 < k → ∃ ad, A = some ad ∧ ∀ i (h : i < ls.length), ∃ Ai ci, F.cell (ad.add i) = some (.slice Ai ls[i].length ci) ∧ ls[i].length ≤ ci ∧ NodesF F Ai ls[i].length ls[i])
theorem RowsN.cle {F F' : Fz} {A : Option Addr} {k : Nat} {ls : List (List Nd)} (h : RowsN F A k ls) (hle : CLe F F') : RowsN F' A k ls :=
  ⟨h.1, fun hk => let ⟨ad, e, hc⟩ := h.2 hk; ⟨ad, e, fun i hi => let ⟨Ai, ci, h1, h2, h3⟩ := hc i hi; ⟨Ai, ci, hle _ _ h1, h2, h3.cle hle⟩⟩⟩
end Go.Proofs.Ytaomehlhopiblaa
