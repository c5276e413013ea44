/- The walk of merge.moved: an event with ids of other names. -/
import Derived.Test.YtgmbicjcfhmcdaaQheap
import Derived.Test.YtgmbicjcfhmcdaaOwn
import Derived.Test.YtgmbicjcfhmcdaaBoundA
import Derived.Test.YtgmbicjcfhmcdaaPlanB
import Derived.BigRegion
set_option linter.unusedVariables false
set_option linter.unusedSimpArgs false
/-! The walk of merge.moved: an event with ids of other names. -/
namespace Go.Proofs.Ytgmbicjcfhmcdaa
open Go.RowKit
attribute [local go_sem ↓] Go.wp_at_zero Go.wp_at_succ
theorem bel_drewM {B : Nat} {a w : World} (h : Below B a w) : Below B a w.drew := ⟨h.os, h.tape, h.output, h.size, h.block⟩
theorem rd_farM {w : World} {size n : Nat} {A : Option Addr} {xs : List Value} (h : Rd (heapF w) size A n xs) {p : Addr} (hne : ∀ a, A = some a → a.block ≠ p.block) (v : Value) : Rd (heapF (w.setCell p v)) size A n xs := by
  refine ⟨h.1, fun h0 => ?_⟩
  obtain ⟨ad, e, hc⟩ := h.2 h0
  refine ⟨ad, e, fun j u hu => ?_⟩
  have := hc j u hu
  unfold Fz.cell heapF at this ⊢
  rw [Below.heap_setCell w p v _ (by rw [block_of_add]; exact hne ad e)]
  exact this
theorem blk2E {w : World} {g : Nat} {t : TypeId} {a b : Value} (h : Blk w g t #[a, b]) : w.cell? ⟨g, 0, none⟩ = some a ∧ w.cell? ⟨g, 1, none⟩ = some b ∧ w.frozen? ⟨g, 0, none⟩ = false ∧ w.frozen? ⟨g, 1, none⟩ = false := by
  refine ⟨?_, ?_, h.frozen 0, h.frozen 1⟩ <;> rw [h.cell] <;> rfl
/-- An event comes back, its ids of its own. -/
def RetEv (w : World) (t : Nat) (zs : List Int) (e : Ending) (w' : World) : Prop := ∃ A c, e = .returned (.agg #[.int .u64 t, .slice A zs.length c]) ∧ zs.length ≤ c ∧ Rd (heapF w') 1 A zs.length (zs.map encI) ∧ Below w.heap.size w w' ∧ ∀ a, A = some a → w.heap.size ≤ a.block
set_option maxRecDepth 100000 in
set_option maxHeartbeats 4000000 in
theorem mvd_w {F : Fz} {w : World} (hF : Sat F w) (t : Nat) (ids : List Int) (Ai : Option Addr) (ni ci : Nat) (hi : Rd F 1 Ai ni (ids.map encI)) (hn : ni ≤ 1000) (ks : List Int) (A : Option Addr) (n c : Nat) (hk : Rd F 1 A n (ks.map encI)) (hn2 : n ≤ 1000) (hok : ∀ z ∈ ids, 0 ≤ z ∧ z < n) :
    Calls Try.prog 21 #[.agg #[.int .u64 t, .slice Ai ni ci], .slice A n c] w (RetEv w t ((ids.map fun z => ks.getD z.toNat 0).mergeSort fun x y => decide (x ≤ y))) := by
  have hl : ids.length = ni := by have := hi.1; simpa using this
  have HL := Lib.hid hl
  have HK := Lib.hid (show ks.length = n by have := hk.1; simpa using this)
  have HOK := Lib.hid hok
  have HIR := Lib.hid hi
  have HKR := Lib.hid hk
  have HF := Lib.hid hF
  obtain ⟨f, hf⟩ : ∃ f : Int → Int, (fun z : Int => ks.getD z.toNat 0) = f := ⟨_, rfl⟩
  rw [hf]
  have HFZ : Hid (∀ (z : Nat) (h : z < ks.length), f (z : Int) = ks[z]) := Lib.hid (fun z h => by rw [← hf]; simp [h])
  clear hf
  go_enter Try.func21, Try.ntmps21
  go_wp2_with fail
  obtain ⟨W3, hW3⟩ : ∃ W3, ((w.alloc (.cells #[.int .u64 t, .slice Ai ni ci] 31)).alloc (.cells #[.int .u64 0, .slice none 0 0] 31)).alloc (.cells #[.int .u64 t, .slice none 0 0] 31) = W3 := ⟨_, rfl⟩
  have HB1 : Hid (Blk W3 (w.heap.size + 1) 31 #[.int .u64 0, .slice none 0 0]) := Lib.hid (by rw [← hW3]; have := (Blk.new (w.alloc (.cells #[.int .u64 t, .slice Ai ni ci] 31)) 31 #[.int .u64 0, .slice none 0 0]).alloc (.cells #[.int .u64 t, .slice none 0 0] 31); simpa using this)
  have HB2 : Hid (Blk W3 (w.heap.size + 1 + 1) 31 #[.int .u64 t, .slice none 0 0]) := Lib.hid (by rw [← hW3]; have := Blk.new ((w.alloc (.cells #[.int .u64 t, .slice Ai ni ci] 31)).alloc (.cells #[.int .u64 0, .slice none 0 0] 31)) 31 #[.int .u64 t, .slice none 0 0]; simpa using this)
  have HBW : Hid (Below w.heap.size w W3) := Lib.hid (by rw [← hW3]; exact ((balloc _ _).alloc (by simp) _).alloc (by simp; omega) _)
  have HFW : Hid (Sat F W3) := Lib.hid (HF.out.below HBW.out)
  rw [hW3]
  clear hW3
  go_loopw [7, 14] (fun _ v14 wr => ∃ (j : Nat) (A' : Option Addr) (c' : Nat), j ≤ ni ∧ v14 = .int .i64 j ∧ Blk wr (w.heap.size + 1) 31 #[.int .u64 0, .slice none 0 0] ∧ Blk wr (w.heap.size + 1 + 1) 31 #[.int .u64 t, .slice A' j c'] ∧ Own F wr (w.heap.size + 3) 3 1 (.slice A' j c') j (((ids.take j).map f).map encI) ∧ Sat F wr ∧ Below w.heap.size w wr) (fun _ v14 _ => ni - (intOf v14).toNat)
  case atStart => exact ⟨0, none, 0, Nat.zero_le _, rfl, HB1.out, HB2.out, Own.nil _ _ _ _ _, HFW.out, HBW.out⟩
  case round =>
    obtain ⟨j, A', c', hj, rfl, hB1, hB2, hO, hFr, hbl⟩ := hrel
    by_cases hlt : j < ni
    · have hjI : (j : Int) < (ni : Int) := by omega
      have hjl : j < ids.length := by have := HL.out; omega
      obtain ⟨a0, v0, rfl, hv0, hc0⟩ := HIR.out.at1 hlt
      rw [List.getElem?_map, List.getElem?_eq_getElem hjl] at hv0
      injection hv0 with hv0
      subst hv0
      have hz0 := hFr.cell hc0
      obtain ⟨z1, z2⟩ := HOK.out _ (List.getElem_mem hjl)
      have htk : ids.take (j + 1) = ids.take j ++ [ids[j]] := List.take_succ_eq_append_getElem hjl
      obtain ⟨z, hz⟩ := Int.eq_ofNat_of_zero_le z1
      rw [hz] at z1 z2 htk hz0
      have hzn : z < n := by omega
      have hzl : z < ks.length := by have := HK.out; omega
      obtain ⟨a1, v1, rfl, hv1, hc1⟩ := HKR.out.at1 hzn
      rw [List.getElem?_map, List.getElem?_eq_getElem hzl] at hv1
      injection hv1 with hv1
      subst hv1
      have hk0 := hFr.cell hc1
      have HTK : Hid ((ids.take j).map f ++ [ks[z]] = (ids.take (j + 1)).map f) := Lib.hid (by rw [htk, List.map_append, List.map_cons, List.map_nil, HFZ.out z hzl])
      generalize ks[z] = y at *
      obtain ⟨q0, q1, f0, f1⟩ := blk2E hB2
      have hzI : (z : Int) < (n : Int) := by omega
      have hzs := hbl.size
      have hgl := hB2.lt
      have hgr := fun g (h : (Value.slice A' j c').ownBlock = some g) => hO.1.lt g h
      have HO := Lib.hid hO
      have HB1 := Lib.hid hB1
      have HB2 := Lib.hid hB2
      have HBL := Lib.hid hbl
      clear hc0 hc1 htk hz z1 hO hB1 hB2 hbl hjl hzl
      go_wp2_with fail
      go_region_law ((refine step_pushI rfl (.tmp 19) (.tmp 24) (by rfl) ((HO.out.drew).alloc _) (hFr.drew.alloc _) (by rfl) _ _ _ (by rfl) (Blk.new _ _ _) (by omega) (by show w.heap.size + 3 ≤ _; simp; omega) ?_; intro v6 w6 hO6 hF6 hb6 hg6 hat6; rw [HTK.out] at hO6; obtain ⟨A6, c6, hv6, hc6⟩ := hO6.shape; subst hv6; have hB6 := (Blk.alloc (HB2.out.drewN 1) (.cells #[.int .i64 y] 3)).grown hg6 (fun e => by have := hgr _ e.symm; omega); have hB5 := (Blk.alloc (HB1.out.drewN 1) (.cells #[.int .i64 y] 3)).grown hg6 (fun e => by have := hgr _ e.symm; omega); obtain ⟨r0, r1, g0, g1⟩ := blk2E hB6))
      all_goals
        have hB7 := hB6.set_ 1 (.slice A6 (j + 1) c6)
        have hB8 := hB5.far (p := ⟨w.heap.size + 1 + 1, 1, none⟩) (show w.heap.size + 1 ≠ w.heap.size + 1 + 1 by omega) (.slice A6 (j + 1) c6)
        have hO7 := hO6.setFar (a := ⟨w.heap.size + 1 + 1, 1, none⟩) (fun e => by have h := (hO6.1.lt _ e).1; have h : w.heap.size + 3 ≤ w.heap.size + 1 + 1 := h; omega) (.slice A6 (j + 1) c6)
        have hF7 := hF6.setCell (p := ⟨w.heap.size + 1 + 1, 1, none⟩) (HF.out.none_ (show w.heap.size ≤ w.heap.size + 1 + 1 by omega)) (.slice A6 (j + 1) c6)
        have hb7 := (((bel_drewM HBL.out).alloc hzs _).trans (hb6.mono (show w.heap.size ≤ w.heap.size + 3 by omega))).setCell (p := ⟨w.heap.size + 1 + 1, 1, none⟩) (show w.heap.size ≤ w.heap.size + 1 + 1 by omega) (.slice A6 (j + 1) c6)
        go_wp2_with fail
        go_roundw
        case rel => exact ⟨j + 1, A6, c6, by omega, by go_num, hB8, hB7, hO7, hF7, hb7⟩
        case measure => simp [intOf]; omega
    · obtain rfl : j = ni := by omega
      have hdec : decide ((j : Int) < (j : Int)) = false := decide_eq_false (by omega)
      have hta : ids.take j = ids := by rw [← HL.out, List.take_length]
      rw [hta] at hO
      have hzl : (ids.map f).length = j := by rw [List.length_map, HL.out]
      have hO2 : Own F wr (w.heap.size + 3) 3 1 (.slice A' j c') (ids.map f).length ((ids.map f).map encI) := by rw [hzl]; exact hO
      have hgl2 := hB2.lt
      have HS := Lib.hid (sortI_w hO2 hFr (by omega) (by omega))
      rw [hzl] at HS
      obtain ⟨q0, q1, f0, f1⟩ := blk2E hB2
      obtain ⟨zs, hzs⟩ : ∃ zs, (ids.map f).mergeSort (fun x y => decide (x ≤ y)) = zs := ⟨_, rfl⟩
      rw [hzs] at HS
      have HZS := Lib.hid hzs
      have HZL : Hid (zs.length = j) := Lib.hid (by rw [← hzs, List.length_mergeSort, hzl])
      have HB1 := Lib.hid hB1
      have HB2 := Lib.hid hB2
      have HBL := Lib.hid hbl
      clear hta hO hO2 hzl hzs hB1 hB2 hbl hFr
      go_wp2_with fail
      go_at_call 35
      refine HS.out.mono ?_
      rintro e w5 ⟨rfl, hO5, hb5, hF5⟩
      have hB15 := HB1.out.below hb5 (by omega)
      have hB25 := HB2.out.below hb5 (by omega)
      obtain ⟨r0, r1, g0, g1⟩ := blk2E hB15
      obtain ⟨s0, s1, _, _⟩ := blk2E hB25
      obtain ⟨A9, c9, e9, hc9, hrd⟩ := hO5.rdH
      injection e9 with e91 _ e93
      subst e91 e93
      have hfr := hO5.fresh
      have HBF : Hid (∀ u1 u2 : Value, Below w.heap.size w ((w5.setCell ⟨w.heap.size + 1, 0, none⟩ u1).setCell ⟨w.heap.size + 1, 1, none⟩ u2)) := Lib.hid (fun u1 u2 => (((HBL.out.trans (hb5.mono (by omega)))).setCell (p := ⟨w.heap.size + 1, 0, none⟩) (Nat.le_succ _) u1).setCell (p := ⟨w.heap.size + 1, 1, none⟩) (Nat.le_succ _) u2)
      have HRF : Hid (∀ u1 u2 : Value, Rd (heapF ((w5.setCell ⟨w.heap.size + 1, 0, none⟩ u1).setCell ⟨w.heap.size + 1, 1, none⟩ u2)) 1 A' j (zs.map encI)) := Lib.hid (fun u1 u2 => by
        refine rd_farM (rd_farM hrd (p := ⟨w.heap.size + 1, 0, none⟩) (fun a ha => ?_) u1) (p := ⟨w.heap.size + 1, 1, none⟩) (fun a ha => ?_) u2 <;> (have := hfr a ha; show a.block ≠ w.heap.size + 1; omega))
      clear hO5 hrd hB15 hB25
      go_wp2_with fail
      exact bodyPost_ret (v := .agg #[.int .u64 t, .slice A' j c']) (by simp [results, Try.results21, go_sem, r0, r1, g0, g1]) rfl (by
        rw [HZS.out]
        exact ⟨A', c', by rw [HZL.out], by rw [HZL.out]; exact hc9, by rw [HZL.out]; exact HRF.out _ _, HBF.out _ _, fun a ha => by have := hfr a ha; omega⟩)
end Go.Proofs.Ytgmbicjcfhmcdaa
