/- The walks of the reference's Hold and of law 32's hold: the names that hold at a point, sorted. -/
import Derived.Test.YtgmbicjcfhmcdaaNames32
import Derived.Test.YtgmbicjcfhmcdaaLayS
import Derived.Test.YtgmbicjcfhmcdaaOwnP
import Derived.Test.YtgmbicjcfhmcdaaMk8E
import Derived.Sort.OwnSorted
import Derived.Lib.RowBridge
import Derived.Shelf.Slices.In.SortNone
set_option linter.unusedVariables false
set_option linter.unusedSimpArgs false
/-! The walks of the reference's Hold and of law 32's hold: the names that hold at a point, sorted. -/
namespace Go.Proofs.Ytgmbicjcfhmcdaa
open Go.RowKit Go.Sort
attribute [local go_sem ↓] Go.wp_at_zero Go.wp_at_succ
/-- The names at some numbers. -/
def idsN (ss : List ByteArray) (ids : List Int) : List ByteArray := ids.map fun z => ss.getD z.toNat default
def dlB (ss : List ByteArray) : List (List UInt8) := ss.map fun s => s.data.toList
theorem encStr_dl (s : ByteArray) : encStr s.data.toList = .string s := by unfold encStr; simp
theorem dlB_enc (ss : List ByteArray) : (dlB ss).map encStr = ss.map Value.string := by
  unfold dlB
  rw [List.map_map]
  exact List.map_congr_left fun s _ => encStr_dl s
theorem sortS_w {F : Fz} {w : World} {B : Nat} {v : Value} {ss : List (List UInt8)} (hO : Own F w B 9 1 v ss.length (ss.map encStr)) (hF : Sat F w) (hB : B ≤ w.heap.size) (hl : ss.length ≤ 1000000) :
    Calls Try.prog 32 #[v] w fun e w' => e = .returned (.tuple #[]) ∧ Own F w' B 9 1 v ss.length ((sortL ss).map encStr) ∧ Below B w w' ∧ Sat F w' := by
  rcases hO.1.2 with ⟨rfl, h0⟩ | ⟨g, cap, cur, rfl, hbase, hb, h1, h2, h3, h4⟩
  · have e : ss = [] := List.eq_nil_of_length_eq_zero h0
    subst e
    exact (Any.slices_Sort_string_none lays190 none 0 w).mono fun e w' ⟨h1, h2⟩ => ⟨h1, by rw [h2, show sortL [] = [] by simp [sortL]]; exact hO, by rw [h2]; exact Below.refl _ _, by rw [h2]; exact hF⟩
  · have hg : g < w.heap.size := (Array.getElem?_eq_some_iff.1 hb).1
    refine (Any.slices_Sort_string lays190 g 0 cap ss w (holds_of_block hb (by simpa using h4)) hg (by omega)).mono fun e w' ⟨he, n, os, hw⟩ => ?_
    have hgr : w.grownBy w' (some g) := by rw [hw]; exact grownBy_sorted _
    refine ⟨he, ⟨?_, hO.2⟩, (Below.refl B w).grown hgr hB (fun k hk => by injection hk with hk; omega), hF.grown hgr (fun k hk => hO.2 k hk)⟩
    rw [hw]
    exact ownsRow_sorted (length_sortL ss) hbase hb h1 h2 h3
set_option maxRecDepth 100000 in
set_option maxHeartbeats 4000000 in
theorem hold26_w {F : Fz} {w : World} (hF : Sat F w) (ss : List ByteArray) (An : Option Addr) (nn cn : Nat) (hn : Rd F 1 An nn (ss.map Value.string)) (t : Nat) (ids : List Int) (Ai : Option Addr) (ni ci : Nat) (hni : ni ≤ 1000) (hi : Rd F 1 Ai ni (ids.map (Value.int .i64))) (hok : ∀ z ∈ ids, 0 ≤ z ∧ z < nn) :
    Calls Try.prog 31 #[.slice An nn cn, .agg #[.int .u64 (t : Nat), .slice Ai ni ci]] w fun e w' => ∃ A c, e = .returned (.slice A ni c) ∧ ni ≤ c ∧ Own noF w' w.heap.size 9 1 (.slice A ni c) ni ((idsN ss ids).map Value.string) ∧ Below w.heap.size w w' := by
  have HLI : Hid (ids.length = ni) := Lib.hid (by have := hi.1; simp at this; omega)
  have HLS : Hid (ss.length = nn) := Lib.hid (by have := hn.1; simp at this; omega)
  have HOK := Lib.hid hok
  obtain ⟨W, hW⟩ : ∃ W, w.alloc (.cells #[.int .u64 (t : Nat), .slice Ai ni ci] 31) = W := ⟨_, rfl⟩
  have hbW : Below w.heap.size w W := hW ▸ balloc _ _
  have hzW : W.heap.size = w.heap.size + 1 := by rw [← hW]; simp
  have HF := Lib.hid hF
  have HO0 := Lib.hid (Own.nil noF W w.heap.size 9 1)
  have HW := Lib.hid hW
  clear hok hF hW
  go_enter Try.func31, Try.ntmps31
  go_wp2_with fail
  rw [HW.out]
  go_loopw [5, 7, 11] (fun v5 _ v11 wr => ∃ (j : Nat) (A : Option Addr) (c : Nat), j ≤ ni ∧ v11 = .int .i64 j ∧ v5 = .slice A j c ∧ j ≤ c ∧ Own noF wr w.heap.size 9 1 (.slice A j c) j ((idsN ss (ids.take j)).map Value.string) ∧ Below w.heap.size w wr) (fun _ _ v11 _ => ni - (intOf v11).toNat)
  case atStart => exact ⟨0, none, 0, Nat.zero_le _, rfl, rfl, Nat.le_refl _, HO0.out, hbW⟩
  case round =>
    obtain ⟨j, A, c, hj, rfl, rfl, hjc, hO, hbl⟩ := hrel
    by_cases hlt : j < ni
    · have hjI : (j : Int) < (ni : Int) := by omega
      have hjl : j < ids.length := by rw [HLI.out]; exact hlt
      obtain ⟨ad, v0, rfl, hv0, hc0⟩ := hi.at1 hlt
      rw [List.getElem?_map, List.getElem?_eq_getElem hjl] at hv0
      injection hv0 with hv0
      subst hv0
      have hFw := HF.out.below hbl
      have z0 := hFw.cell hc0
      obtain ⟨q1, q2⟩ := HOK.out _ (List.getElem_mem hjl)
      obtain ⟨k, hk⟩ := Int.eq_ofNat_of_zero_le q1
      rw [hk] at z0 q2
      have hkn : k < nn := by omega
      have hks : k < ss.length := by rw [HLS.out]; exact hkn
      obtain ⟨bd, v1, rfl, hv1, hc1⟩ := hn.at1 hkn
      rw [List.getElem?_map, List.getElem?_eq_getElem hks] at hv1
      injection hv1 with hv1
      subst hv1
      have z1 := hFw.cell hc1
      have HST : Hid (idsN ss (ids.take (j + 1)) = idsN ss (ids.take j) ++ [ss[k]]) := Lib.hid (by
        unfold idsN
        rw [List.take_succ_eq_append_getElem hjl, List.map_append, List.map_cons, List.map_nil, hk, Int.toNat_natCast, List.getD, List.getElem?_eq_getElem hks]; rfl)
      obtain ⟨s, hs⟩ : ∃ s, ss[k] = s := ⟨_, rfl⟩
      rw [hs] at z1 HST
      have hkI : (k : Int) < (nn : Int) := by omega
      have HO := Lib.hid hO
      have HBL := Lib.hid hbl
      clear hO hbl hFw hc0 hc1 hk hs hjl hks q1
      go_wp2_with (at_builtin; refine wpList_pushSt rfl (.tmp 15) (.tmp 20) rfl (HO.out.alloc _) ((sat_noF _).alloc _) (by rfl) wr.heap.size 1 s (by rfl) (Blk.new _ _ _) (by omega) (by have := HBL.out.size; simp; omega) ?_; intro v4 w4 hO4 hF4 hb4 hg4 hat4; rw [← HST.out] at hO4; obtain ⟨A4, c4, hv4, hc4⟩ := hO4.shape; subst hv4)
      have hb5 := (HBL.out.alloc HBL.out.size (.cells #[.string s] 9)).trans hb4
      go_roundw
      case rel => exact ⟨j + 1, A4, c4, by omega, by go_num, rfl, hc4, hO4, hb5⟩
      case measure => simp [intOf]; omega
    · obtain rfl : ni = j := by omega
      have hdec : decide ((ni : Int) < (ni : Int)) = false := decide_eq_false (by omega)
      have hta : ids.take ni = ids := by rw [← HLI.out, List.take_length]
      rw [hta] at hO
      have HO := Lib.hid hO
      have HBL := Lib.hid hbl
      clear hO hbl hta
      go_wp2_with fail
      go_ret
      exact ⟨A, c, rfl, hjc, HO.out, HBL.out⟩
set_option maxRecDepth 100000 in
set_option maxHeartbeats 4000000 in
theorem hold32_w {F : Fz} {w : World} (hF : Sat F w) (ss : List ByteArray) (es : List Evt) (An : Option Addr) (nn cn : Nat) (hn : Rd F 1 An nn (ss.map Value.string)) (Ae : Option Addr) (ne ce : Nat) (hE : EvsF F Ae ne es) (i : Nat) (hi : i < es.length) (hni : es[i].ids.length ≤ 1000) (hok : ∀ z ∈ es[i].ids, 0 ≤ z ∧ z < nn) (m : Nat) (hm : es[i].ids.length = m) :
    Calls Try.prog 15 #[.agg #[.slice An nn cn, .slice Ae ne ce], .int .i64 (i : Nat)] w fun e w' => ∃ A c, e = .returned (.slice A m c) ∧ m ≤ c ∧ Rd (heapF w') 1 A m ((sortL (dlB (idsN ss es[i].ids))).map encStr) ∧ Below w.heap.size w w' := by
  have hine : i < ne := by have := hE.1; omega
  obtain ⟨ax, hA, hh⟩ := hE.2 (by omega)
  obtain ⟨ht, Ai, ci, hci, hri, h0, h1⟩ := hh i hi
  subst hA
  rw [hm] at h1 hri hni hci
  have hbA := balloc w (.cells #[.slice An nn cn, .slice (some ax) ne ce] 27)
  have hFA := hF.below hbA
  have HFA := Lib.hid hFA
  have z0 := hFA.cell h0
  have z1 := hFA.cell h1
  obtain ⟨T, hT⟩ : ∃ T, es[i].time = T := ⟨_, rfl⟩
  rw [hT] at z0
  replace z1 : (w.alloc (.cells #[.slice An nn cn, .slice (some ax) ne ce] 27)).cell? ⟨(ax.add (i * 2)).block, (ax.add (i * 2)).off + 1, none⟩ = some (.slice Ai m ci) := z1
  have hil : (i : Int) < (ne : Int) := by omega
  have HH := Lib.hid (fun (X : World) (hX : Sat F X) => hold26_w hX ss An nn cn hn T es[i].ids Ai m ci hni hri hok)
  obtain ⟨ids, hids⟩ : ∃ ids, es[i].ids = ids := ⟨_, rfl⟩
  rw [hids] at HH hm ⊢
  have hlen : (dlB (idsN ss ids)).length = m := by unfold dlB idsN; simp [hm]
  have HLEN := Lib.hid hlen
  have HBA := Lib.hid hbA
  have hm1 : m ≤ 1000 := hni
  clear h0 h1 hri hh hE hT hids hm hok ht hci hn hF hFA hbA hlen hni
  go_enter Try.func15, Try.ntmps15
  go_upto_region 1 with fail
  go_region_law (go_simp; go_at_call 31; refine (HH.out _ (by first | exact HFA.out | exact HFA.out.drew)).mono ?_; rintro e' w5 ⟨A5, c5, rfl, hc5, hO5, hb5⟩)
  all_goals
    have hO6 : Own noF w5 w.heap.size 9 1 (.slice A5 m c5) m ((dlB (idsN ss ids)).map encStr) := by
      rw [dlB_enc]
      refine ⟨⟨hO5.1.1, ?_⟩, hO5.2⟩
      rcases hO5.1.2 with h | ⟨g, cap, cur, h1, h2, h3⟩
      · exact .inl h
      · exact .inr ⟨g, cap, cur, h1, by simp at h2; omega, h3⟩
    have hz5 : w.heap.size ≤ w5.heap.size := by have := hb5.size; simp at this; omega
    have HS := Lib.hid (sortS_w (B := w.heap.size) (by rw [HLEN.out]; exact hO6) (sat_noF w5) hz5 (by rw [HLEN.out]; omega))
    have HB5 : Hid (Below w.heap.size w w5) := Lib.hid (by first | exact bthen HBA.out hb5 | exact bthen (bel_drewM HBA.out) hb5)
    clear hO5 hO6 hb5
    go_wp2_with (go_at_call 32; refine HS.out.mono ?_; rintro e w6 ⟨rfl, hO7, hb7, _⟩)
    go_ret
    rw [HLEN.out] at hO7
    obtain ⟨A9, c9, e9, hc9, hrd9⟩ := hO7.rdH
    injection e9 with e91 _ e93
    subst e91 e93
    exact ⟨A5, c5, rfl, hc9, hrd9, HB5.out.trans hb7⟩
end Go.Proofs.Ytgmbicjcfhmcdaa
