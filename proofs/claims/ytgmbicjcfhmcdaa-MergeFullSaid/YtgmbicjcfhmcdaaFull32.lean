/- The walk of MergeFull. -/
import Derived.Test.YtgmbicjcfhmcdaaParts32
set_option linter.unusedVariables false
set_option linter.unusedSimpArgs false
/-! The walk of MergeFull. -/
namespace Go.Proofs.Ytgmbicjcfhmcdaa
open Go.RowKit
attribute [local go_sem ↓] Go.wp_at_zero Go.wp_at_succ
def nmF (i : Nat) : ByteArray := ⟨#[110, UInt8.ofNat (97 + i / 26), UInt8.ofNat (97 + i % 26)]⟩
theorem nmF_inj : ∀ i < 70, ∀ j < 70, nmF i = nmF j → i = j := by decide +kernel
theorem nmF_ok : ∀ i < 70, nameS (nmF i).data.toList = true := by decide +kernel
theorem enc_small (a : Nat) (h : a < 128) : Utf8.encode (a : Int) = ⟨#[UInt8.ofNat a]⟩ := by
  unfold Utf8.encode Utf8.valid
  have h1 : (decide ((0 : Int) ≤ (a : Int)) && decide ((a : Int) < 55296)) = true := by simp; omega
  simp only [h1, Bool.true_or, if_true, Int.toNat_natCast]
  rw [if_pos (show a < 128 from h)]
theorem namesOk_of {ss : List ByteArray} (h1 : ss.length ≤ 64) (h2 : ss.Nodup) (h3 : ∀ s ∈ ss, nameS s.data.toList = true) : namesOk ss = true := by
  unfold namesOk
  rw [Bool.and_eq_true, decide_eq_true_iff, allI_iff]
  refine ⟨h1, fun j _ hj => ?_⟩
  have hj : j < ss.length := by omega
  unfold nameAt
  rw [List.getElem?_eq_getElem hj]
  simp only [Bool.and_eq_true, Bool.not_eq_true']
  refine ⟨h3 _ (List.getElem_mem hj), ?_⟩
  rw [hasS_false, List.mem_take_iff_getElem]
  rintro ⟨k, hk, e⟩
  have := (List.getElem_inj h2).1 e
  omega
theorem mayT_names {ss : List ByteArray} : mayT ss [] = namesOk ss := by unfold mayT; simp [allI]
theorem nmF_nodup (lo m : Nat) (h : lo + m ≤ 70) : ((List.range' lo m).map nmF).Nodup := by
  rw [List.nodup_iff_pairwise_ne, List.pairwise_map]
  refine (List.nodup_iff_pairwise_ne.1 (List.nodup_range' (s := lo) (n := m))).imp_of_mem fun {a b} ha hb hne e => ?_
  rw [List.mem_range'_1] at ha hb
  exact hne (nmF_inj a (by omega) b (by omega) e)
theorem nmF_may (lo m : Nat) (h : lo + m ≤ 70) (hm : m ≤ 64) : mayT ((List.range' lo m).map nmF) [] = true := by
  rw [mayT_names]
  refine namesOk_of (by simp; exact hm) (nmF_nodup lo m h) fun s hs => ?_
  obtain ⟨i, hi, rfl⟩ := List.mem_map.1 hs
  rw [List.mem_range'_1] at hi
  exact nmF_ok i (by omega)
theorem fold_new : ∀ (x out : List ByteArray), (out ++ x).Nodup → x.foldl addS out = out ++ x := by
  intro x
  induction x with
  | nil => intro out _; simp
  | cons s x ih =>
    intro out hn
    have hs : s ∉ out := by
      rw [List.nodup_append] at hn
      exact fun h => hn.2.2 s h s (by simp) rfl
    have e : addS out s = out ++ [s] := if_neg fun h => hs ((hasS_iff _ _).1 h)
    rw [List.foldl_cons, e, ih _ (by simpa using hn)]
    simp
theorem fold_nm : ∀ (m lo h : Nat), lo ≤ h → h ≤ 69 → lo + m ≤ 69 → ((List.range' lo m).map nmF).foldl addS ((List.range' 0 h).map nmF) = (List.range' 0 (max h (lo + m))).map nmF
  | 0, lo, h, h1, h2, h3 => by simp [Nat.max_eq_left h1]
  | m + 1, lo, h, h1, h2, h3 => by
    rw [List.range'_succ, List.map_cons, List.foldl_cons]
    by_cases c : lo < h
    · have e : addS ((List.range' 0 h).map nmF) (nmF lo) = (List.range' 0 h).map nmF := by
        unfold addS
        rw [if_pos ((hasS_iff _ _).2 (List.mem_map.2 ⟨lo, by rw [List.mem_range'_1]; omega, rfl⟩))]
      rw [e, fold_nm m (lo + 1) h (by omega) h2 (by omega), show lo + 1 + m = lo + (m + 1) by omega]
    · obtain rfl : lo = h := by omega
      have e : addS ((List.range' 0 lo).map nmF) (nmF lo) = (List.range' 0 (lo + 1)).map nmF := by
        unfold addS
        rw [if_neg (fun hh => ?_)]
        · rw [List.range'_concat, List.map_append]; simp
        · obtain ⟨j, hj, e⟩ := List.mem_map.1 ((hasS_iff _ _).1 hh)
          rw [List.mem_range'_1] at hj
          have := nmF_inj j (by omega) lo (by omega) e
          omega
      rw [e, fold_nm m (lo + 1) (lo + 1) (Nat.le_refl _) (by omega) (by omega)]
      congr 2
      omega
def traA : TrS := ((List.range' 0 40).map nmF, [])
def traB (lo k : Nat) : TrS := ((List.range' lo (k - lo)).map nmF, [])
def traC : TrS := ([⟨#[97, 108, 108]⟩], [])
theorem namesAB (lo k : Nat) (h1 : lo ≤ 40) (h2 : 40 ≤ k) (h3 : k ≤ 66) : namesT [traA, traB lo k] = (List.range' 0 k).map nmF := by
  unfold namesT unionS
  simp only [List.flatMap_cons, List.flatMap_nil, List.append_nil]
  rw [List.foldl_append]
  have e : traA.1.foldl addS [] = (List.range' 0 40).map nmF := by
    rw [fold_new _ _ (by rw [List.nil_append]; exact nmF_nodup 0 40 (by omega)), List.nil_append]; rfl
  rw [e]
  show ((List.range' lo (k - lo)).map nmF).foldl addS _ = _
  rw [fold_nm _ _ _ h1 (by omega) (by omega)]
  congr 2
  omega
theorem mergeAB (lo k : Nat) (h0 : 3 ≤ lo) (h1 : lo ≤ 40) (h2 : 62 ≤ k) (h3 : k ≤ 66) : mergeM [traA, traB lo k] = if 64 < k then (([], []), 4) else (((List.range' 0 k).map nmF, []), 0) := by
  have hm : mayAll [traA, traB lo k] = true := by
    have a1 : mayT traA.1 traA.2 = true := nmF_may 0 40 (by omega) (by omega)
    have a2 : mayT (traB lo k).1 (traB lo k).2 = true := nmF_may lo (k - lo) (by omega) (by omega)
    simp [mayAll, a1, a2]
  have hn := namesAB lo k h1 (by omega) h3
  have hl : (namesT [traA, traB lo k]).length = k := by rw [hn]; simp
  have ht : mergeT [traA, traB lo k] = ((List.range' 0 k).map nmF, []) := Prod.ext hn (by
    have h : mergeE [traA, traB lo k] = [] := rfl
    simp [mergeT, h])
  unfold mergeM
  rw [if_pos hm, hl, ht]
theorem mergeABC (lo k : Nat) : mergeM [traA, traB lo k, traC] = (([], []), 1) := by
  have hc : mayT traC.1 traC.2 = false := by decide +kernel
  have hm : mayAll [traA, traB lo k, traC] = false := by simp [mayAll, hc]
  unfold mergeM
  rw [if_neg (by rw [hm]; simp)]
/-- The names of a, of b, ahead of number i. -/
def namA (i : Nat) : List ByteArray := (List.range' 0 (min i 40)).map nmF
def namB (lo i : Nat) : List ByteArray := (List.range' lo (i - lo)).map nmF
theorem namA_next (i : Nat) : namA (i + 1) = if i < 40 then namA i ++ [nmF i] else namA i := by
  unfold namA
  split
  · rw [show min (i + 1) 40 = min i 40 + 1 by omega, List.range'_concat, List.map_append, show 0 + 1 * min i 40 = i by omega]; rfl
  · rw [show min (i + 1) 40 = min i 40 by omega]
theorem namB_next (lo i : Nat) : namB lo (i + 1) = if lo ≤ i then namB lo i ++ [nmF i] else namB lo i := by
  unfold namB
  split
  · rw [show i + 1 - lo = (i - lo) + 1 by omega, List.range'_concat, List.map_append, show lo + 1 * (i - lo) = i by omega]; rfl
  · rw [show i + 1 - lo = 0 by omega, show i - lo = 0 by omega]
set_option maxRecDepth 100000 in
set_option maxHeartbeats 8000000 in
theorem full32_c {w : World} (n cm : Nat) (hn : n < 256) (hc : cm < 256) :
    Calls Try.prog 7 #[.int .u8 (n : Nat), .int .u8 (cm : Nat)] w fun e w' => e = .returned (.bool true) ∧ Below w.heap.size w w' := by
  have HAW := Lib.hid (fun (X : World) => awake32_w X)
  obtain ⟨n5, hn5⟩ : ∃ n5, n % 5 = n5 := ⟨_, rfl⟩
  obtain ⟨k, hk⟩ : ∃ k, 62 + n5 = k := ⟨_, rfl⟩
  obtain ⟨c38, hc38⟩ : ∃ c38, cm % 38 = c38 := ⟨_, rfl⟩
  obtain ⟨lo, hlo⟩ : ∃ lo, 40 - c38 = lo := ⟨_, rfl⟩
  have hk1 : 62 ≤ k ∧ k ≤ 66 := by omega
  have hlo1 : 3 ≤ lo ∧ lo ≤ 40 := by omega
  have e1 : (n : Int) % 5 = (n5 : Int) := by omega
  have e2 : 62 + (n5 : Int) = (k : Int) := by omega
  have e3 : (cm : Int) % 38 = (c38 : Int) := by omega
  have e4 : 40 - (c38 : Int) = (lo : Int) := by omega
  obtain ⟨hk62, hk66⟩ := hk1
  obtain ⟨hlo3, hlo40⟩ := hlo1
  have hc38b : c38 < 38 := by omega
  have hn5b : n5 < 5 := by omega
  clear hn5 hk hc38 hlo
  obtain ⟨N, hN⟩ : ∃ N, (w.alloc (.cells #[.slice none 0 0, .slice none 0 0] 27)).alloc (.cells #[.slice none 0 0, .slice none 0 0] 27) = N := ⟨_, rfl⟩
  have hbN : Below w.heap.size w N := hN ▸ (balloc _ _).alloc (by simp) _
  have hA0 : Blk N w.heap.size 27 #[.slice none 0 0, .slice none 0 0] := hN ▸ (Blk.new _ _ _).alloc _
  have hB0 : Blk N (w.heap.size + 1) 27 #[.slice none 0 0, .slice none 0 0] := hN ▸ Blk.new2 _ _ _ _
  have hOB0 : Own noF N (w.heap.size + 2) 9 1 (.slice none 0 0) 0 ((namB lo 0).map Value.string) := by
    have h : namB lo 0 = [] := by unfold namB; rw [Nat.zero_sub]; rfl
    rw [h]; exact Own.nil _ _ _ _ _
  have HN := Lib.hid hN
  clear hN
  go_enter Try.func7, Try.ntmps7
  go_wp2_with fail
  rw [HN.out, e1]
  clear e1 e2
  go_loopw [8, 9, 20] (fun _ _ v20 wr => ∃ (i : Nat) (Aa : Option Addr) (na ca : Nat) (Ab : Option Addr) (nb cb : Nat), i ≤ k ∧ v20 = .int .i64 i ∧ na ≤ 40 ∧ nb ≤ 66 ∧ na ≤ ca ∧ nb ≤ cb ∧ Hid (na = min i 40 ∧ nb = i - lo) ∧ Blk wr w.heap.size 27 #[.slice Aa na ca, .slice none 0 0] ∧ Blk wr (w.heap.size + 1) 27 #[.slice Ab nb cb, .slice none 0 0] ∧ Own noF wr (w.heap.size + 2) 9 1 (.slice Aa na ca) na ((namA i).map Value.string) ∧ Own noF wr (w.heap.size + 2) 9 1 (.slice Ab nb cb) nb ((namB lo i).map Value.string) ∧ Apart (.slice Aa na ca) (.slice Ab nb cb) ∧ Below w.heap.size w wr) (fun _ _ v20 _ => k - (intOf v20).toNat)
  case atStart => exact ⟨0, none, 0, 0, none, 0, 0, Nat.zero_le _, rfl, by omega, by omega, Nat.le_refl _, Nat.le_refl _, Lib.hid ⟨by omega, by omega⟩, hA0, hB0, Own.nil _ _ _ _ _, hOB0, fun g h => by simp [Value.ownBlock] at h, hbN⟩
  case round =>
    obtain ⟨i, Aa, na, ca, Ab, nb, cb, hi, rfl, hna, hnb, hca, hcb, HNN, hA, hB, hOA, hOB, hap, hbl⟩ := hrel
    clear hA0 hB0 hOB0 hbN
    by_cases hlt : i < k
    · have hiI : (i : Int) < (k : Int) := by omega
      obtain ⟨q26, hq26⟩ : ∃ q, i / 26 = q := ⟨_, rfl⟩
      obtain ⟨r26, hr26⟩ : ∃ q, i % 26 = q := ⟨_, rfl⟩
      have f1 : (i : Int) / 26 = (q26 : Int) := by omega
      have f2 : (i : Int) % 26 = (r26 : Int) := by omega
      have hqb : q26 < 3 := by omega
      have hrb : r26 < 26 := by omega
      obtain ⟨x26, hx26⟩ : ∃ x, 97 + q26 = x := ⟨_, rfl⟩
      obtain ⟨y26, hy26⟩ : ∃ x, 97 + r26 = x := ⟨_, rfl⟩
      have f3 : 97 + (q26 : Int) = (x26 : Int) := by omega
      have f4 : 97 + (r26 : Int) = (y26 : Int) := by omega
      have hx26b : x26 < 128 := by omega
      have hy26b : y26 < 128 := by omega
      obtain ⟨s1, hs1⟩ : ∃ s1, Utf8.encode (x26 : Int) = s1 := ⟨_, rfl⟩
      obtain ⟨s2, hs2⟩ : ∃ s2, Utf8.encode (y26 : Int) = s2 := ⟨_, rfl⟩
      obtain ⟨t1, ht1⟩ : ∃ t1, (⟨#[110]⟩ : ByteArray) ++ s1 = t1 := ⟨_, rfl⟩
      obtain ⟨sx, hsx⟩ : ∃ sx, t1 ++ s2 = sx := ⟨_, rfl⟩
      have HSX : Hid (sx = nmF i) := Lib.hid (by
        rw [← hsx, ← ht1, ← hs1, ← hs2, enc_small x26 hx26b, enc_small y26 hy26b, ← hx26, ← hy26, ← hq26, ← hr26]; rfl)
      have hz1 : s1.size = 1 := by rw [← hs1, enc_small x26 hx26b]; rfl
      have hz2 : s2.size = 1 := by rw [← hs2, enc_small y26 hy26b]; rfl
      have hz3 : t1.size = 2 := by rw [← ht1, ByteArray.size_append, hz1]; rfl
      have hz4 : ¬ 9223372036854775807 < 1 + s1.size := by omega
      have hz5 : ¬ 9223372036854775807 < t1.size + s2.size := by omega
      clear hq26 hr26 hx26 hy26 hz1 hz2 hz3
      have hu21 := Try.underlying21
      have hu9 := Try.underlying9
      have hu3 := Try.underlying3
      have f5 : IntKind.i32.wrap (x26 : Int) = (x26 : Int) := IntWalk.i32_in _ (by omega)
      have f6 : IntKind.i32.wrap (y26 : Int) = (y26 : Int) := IntWalk.i32_in _ (by omega)
      have hik : Try.prog.intKind 21 = .i32 := by kernel_rfl
      have hcv1 : ∀ W, (convert 3 21 (.int .i64 (x26 : Int))).run Try.prog W = .ok (.int .i32 (x26 : Int)) W := fun W => by
        have h := run_convert_int (P := Try.prog) W 3 21 .i64 (x26 : Int) (by rw [hu3]; rfl) (by rw [hik]; exact hu21)
        rw [hik, f5] at h; exact h
      have hcv2 : ∀ W, (convert 3 21 (.int .i64 (y26 : Int))).run Try.prog W = .ok (.int .i32 (y26 : Int)) W := fun W => by
        have h := run_convert_int (P := Try.prog) W 3 21 .i64 (y26 : Int) (by rw [hu3]; rfl) (by rw [hik]; exact hu21)
        rw [hik, f6] at h; exact h
      have hcv3 : ∀ W, (convert 21 9 (.int .i32 (x26 : Int))).run Try.prog W = .ok (.string s1) W := fun W => by
        rw [run_convert_int_string _ _ _ _ _ (by rw [hu21]; rfl) hu9, hs1]
      have hcv4 : ∀ W, (convert 21 9 (.int .i32 (y26 : Int))).run Try.prog W = .ok (.string s2) W := fun W => by
        rw [run_convert_int_string _ _ _ _ _ (by rw [hu21]; rfl) hu9, hs2]
      clear hu21 hu9 hu3 hik f5 f6 hs1 hs2
      go_upto_region 7 with fail
      clear hcv1 hcv2 hcv3 hcv4 ht1 hsx hz4 hz5 f3 f4 f1 f2
      obtain ⟨a0, a1, fa0, fa1⟩ := blk2E hA
      obtain ⟨b0, b1, fb0, fb1⟩ := blk2E hB
      have hga := hA.lt
      have hgb := hB.lt
      have HA := Lib.hid hA
      have HB := Lib.hid hB
      have HOA := Lib.hid hOA
      have HOB := Lib.hid hOB
      have HAP := Lib.hid hap
      have HBL := Lib.hid hbl
      have hlta := fun g (h : (Value.slice Aa na ca).ownBlock = some g) => hOA.1.lt g h
      have hltb := fun g (h : (Value.slice Ab nb cb).ownBlock = some g) => hOB.1.lt g h
      have HNA : Hid (i < 40 → namA i ++ [sx] = namA (i + 1)) := Lib.hid (fun h => by rw [namA_next, if_pos h, HSX.out])
      have HNA' : Hid (¬ i < 40 → namA i = namA (i + 1)) := Lib.hid (fun h => by rw [namA_next, if_neg h])
      have HNB : Hid (lo ≤ i → namB lo i ++ [sx] = namB lo (i + 1)) := Lib.hid (fun h => by rw [namB_next, if_pos h, HSX.out])
      have HNB' : Hid (¬ lo ≤ i → namB lo i = namB lo (i + 1)) := Lib.hid (fun h => by rw [namB_next, if_neg h])
      clear hA hB hOA hOB hap hbl HSX
      by_cases h40 : i < 40
      · have h40I : (i : Int) < 40 := by omega
        have HNA1 := Lib.hid (HNA.out h40)
        by_cases hil : lo ≤ i
        · have hilI : decide ((lo : Int) ≤ (i : Int)) = true := decide_eq_true (by omega)
          have hilN : decide (lo ≤ i) = true := decide_eq_true hil
          have HNB1 := Lib.hid (HNB.out hil)
          clear HNA HNA' HNB HNB'
          go_wp2_with (first
            | (at_builtin; refine wpList_pushSt rfl (.tmp 38) (.tmp 40) rfl (HOA.out.alloc _) ((sat_noF _).alloc _) (by rfl) wr.heap.size 1 sx (by rfl) (Blk.new _ _ _) (by omega) (by have := HBL.out.size; simp; omega) ?_; intro v4 w4 hO4 hF4 hb4 hg4 hat4; rw [HNA1.out] at hO4; obtain ⟨A4, c4, hv4, hc4⟩ := hO4.shape; subst hv4; have hA4 := (HA.out.alloc (.cells #[.string sx] 9)).below hb4 (by omega); have hB4 := (HB.out.alloc (.cells #[.string sx] 9)).below hb4 (by omega); obtain ⟨k0, k1, k2, k3⟩ := blk2E hA4; obtain ⟨l0, l1, l2, l3⟩ := blk2E hB4; have hR4 := (HOB.out.alloc (.cells #[.string sx] 9)).kept hg4 HAP.out.or; have hap4 : Apart (.slice A4 (na + 1) c4) (.slice Ab nb cb) := HAP.out.push (fun g h => by have := (hltb g h).2; simp; omega) hat4; have hA5 := Lib.hid (hA4.set_ 0 (.slice A4 (na + 1) c4)); have hB5 := Lib.hid (hB4.far (p := ⟨w.heap.size, 0, none⟩) (show w.heap.size + 1 ≠ w.heap.size by omega) (.slice A4 (na + 1) c4)); have hO5 := Lib.hid (hO4.setFar (a := ⟨w.heap.size, 0, none⟩) (fun e => by have h := (hO4.1.lt _ e).1; have h : w.heap.size + 2 ≤ w.heap.size := h; omega) (.slice A4 (na + 1) c4)); have hR5 := Lib.hid (hR4.setFar (a := ⟨w.heap.size, 0, none⟩) (fun e => by have h := (hR4.1.lt _ e).1; have h : w.heap.size + 2 ≤ w.heap.size := h; omega) (.slice A4 (na + 1) c4)); have hbl5 : Hid (Below w.heap.size w (w4.setCell ⟨w.heap.size, 0, none⟩ (.slice A4 (na + 1) c4))) := Lib.hid (((HBL.out.alloc HBL.out.size (.cells #[.string sx] 9)).trans (hb4.mono (by omega))).setCell (p := ⟨w.heap.size, 0, none⟩) (Nat.le_refl _) _); have hz4 := hbl5.out.size; have hga4 := hA4.lt; have hgb4 := hB4.lt; clear hO4 hF4 hA4 hB4 hb4 hg4 hat4 hR4)
            | (at_builtin; refine wpList_pushSt rfl (.tmp 50) (.tmp 52) rfl (hR5.out.alloc _) ((sat_noF _).alloc _) (by rfl) w4.heap.size 1 sx (by rfl) (by have q := Blk.new (w4.setCell ⟨w.heap.size, 0, none⟩ (.slice A4 (na + 1) c4)) 9 #[.string sx]; simpa using q) (by omega) (by simp at hz4; simp; omega) ?_; intro v6 w6 hO6 hF6 hb6 hg6 hat6; rw [HNB1.out] at hO6; obtain ⟨A6, c6, hv6, hc6⟩ := hO6.shape; subst hv6; have hA6 := (hA5.out.alloc (.cells #[.string sx] 9)).below hb6 (by omega); have hB6 := (hB5.out.alloc (.cells #[.string sx] 9)).below hb6 (by omega); obtain ⟨k0, k1, k2, k3⟩ := blk2E hA6; obtain ⟨l0, l1, l2, l3⟩ := blk2E hB6; have hR6 := (hO5.out.alloc (.cells #[.string sx] 9)).kept hg6 hap4.symm.or))
          have hlt5 := fun g (h : (Value.slice A4 (na + 1) c4).ownBlock = some g) => hO5.out.1.lt g h
          have hap6 : Apart (.slice A4 (na + 1) c4) (.slice A6 (nb + 1) c6) := (hap4.symm.push (fun g h => by have := (hlt5 g h).2; simp at this ⊢; omega) hat6).symm
          have hA7 := hA6.far (p := ⟨w.heap.size + 1, 0, none⟩) (show w.heap.size ≠ w.heap.size + 1 by omega) (.slice A6 (nb + 1) c6)
          have hB7 := hB6.set_ 0 (.slice A6 (nb + 1) c6)
          have hO7 := hO6.setFar (a := ⟨w.heap.size + 1, 0, none⟩) (fun e => by have h := (hO6.1.lt _ e).1; have h : w.heap.size + 2 ≤ w.heap.size + 1 := h; omega) (.slice A6 (nb + 1) c6)
          have hR7 := hR6.setFar (a := ⟨w.heap.size + 1, 0, none⟩) (fun e => by have h := (hR6.1.lt _ e).1; have h : w.heap.size + 2 ≤ w.heap.size + 1 := h; omega) (.slice A6 (nb + 1) c6)
          have hbl7 : Below w.heap.size w (w6.setCell ⟨w.heap.size + 1, 0, none⟩ (.slice A6 (nb + 1) c6)) := ((hbl5.out.alloc hz4 (.cells #[.string sx] 9)).trans (hb6.mono (by omega))).setCell (p := ⟨w.heap.size + 1, 0, none⟩) (Nat.le_succ _) _
          clear hO6 hF6 hA6 hB6 hb6 hg6 hat6 hR6
          go_wp2_with fail
          go_roundw
          case rel => exact ⟨i + 1, A4, na + 1, c4, A6, nb + 1, c6, by omega, by go_num, by have := HNN.out; omega, by have := HNN.out; omega, hc4, hc6, Lib.hid (by have := HNN.out; omega), hA7, hB7, hR7, hO7, hap6, hbl7⟩
          case measure => simp [intOf]; omega
        · have hilI : decide ((lo : Int) ≤ (i : Int)) = false := decide_eq_false (by omega)
          have hilN : decide (lo ≤ i) = false := decide_eq_false hil
          have HNB1 := Lib.hid (HNB'.out hil)
          clear HNA HNA' HNB HNB'
          go_wp2_with (at_builtin; refine wpList_pushSt rfl (.tmp 38) (.tmp 40) rfl (HOA.out.alloc _) ((sat_noF _).alloc _) (by rfl) wr.heap.size 1 sx (by rfl) (Blk.new _ _ _) (by omega) (by have := HBL.out.size; simp; omega) ?_; intro v4 w4 hO4 hF4 hb4 hg4 hat4; rw [HNA1.out] at hO4; obtain ⟨A4, c4, hv4, hc4⟩ := hO4.shape; subst hv4; have hA4 := (HA.out.alloc (.cells #[.string sx] 9)).below hb4 (by omega); have hB4 := (HB.out.alloc (.cells #[.string sx] 9)).below hb4 (by omega); obtain ⟨k0, k1, k2, k3⟩ := blk2E hA4)
          have hR4 := (HOB.out.alloc (.cells #[.string sx] 9)).kept hg4 HAP.out.or
          have hap4 : Apart (.slice A4 (na + 1) c4) (.slice Ab nb cb) := HAP.out.push (fun g h => by have := (hltb g h).2; simp; omega) hat4
          have hA5 := hA4.set_ 0 (.slice A4 (na + 1) c4)
          have hB5 := hB4.far (p := ⟨w.heap.size, 0, none⟩) (show w.heap.size + 1 ≠ w.heap.size by omega) (.slice A4 (na + 1) c4)
          have hO5 := hO4.setFar (a := ⟨w.heap.size, 0, none⟩) (fun e => by have h := (hO4.1.lt _ e).1; have h : w.heap.size + 2 ≤ w.heap.size := h; omega) (.slice A4 (na + 1) c4)
          have hR5 := hR4.setFar (a := ⟨w.heap.size, 0, none⟩) (fun e => by have h := (hR4.1.lt _ e).1; have h : w.heap.size + 2 ≤ w.heap.size := h; omega) (.slice A4 (na + 1) c4)
          have hbl5 : Below w.heap.size w (w4.setCell ⟨w.heap.size, 0, none⟩ (.slice A4 (na + 1) c4)) := ((HBL.out.alloc HBL.out.size (.cells #[.string sx] 9)).trans (hb4.mono (by omega))).setCell (p := ⟨w.heap.size, 0, none⟩) (Nat.le_refl _) _
          rw [HNB1.out] at hR5
          clear hO4 hF4 hA4 hB4 hb4 hg4 hat4 hR4
          go_wp2_with fail
          go_roundw
          case rel => exact ⟨i + 1, A4, na + 1, c4, Ab, nb, cb, by omega, by go_num, by have := HNN.out; omega, hnb, hc4, hcb, Lib.hid (by have := HNN.out; omega), hA5, hB5, hO5, hR5, hap4, hbl5⟩
          case measure => simp [intOf]; omega
      · have h40I : decide ((i : Int) < 40) = false := decide_eq_false (by omega)
        have h40N : decide (i < 40) = false := decide_eq_false h40
        have hilI : decide ((lo : Int) ≤ (i : Int)) = true := decide_eq_true (by omega)
        have hilN : decide (lo ≤ i) = true := decide_eq_true (by omega)
        have HNA1 := Lib.hid (HNA'.out h40)
        have HNB1 := Lib.hid (HNB.out (by omega))
        clear HNA HNA' HNB HNB'
        go_wp2_with (at_builtin; refine wpList_pushSt rfl (.tmp 50) (.tmp 52) rfl (HOB.out.alloc _) ((sat_noF _).alloc _) (by rfl) wr.heap.size 1 sx (by rfl) (Blk.new _ _ _) (by omega) (by have := HBL.out.size; simp; omega) ?_; intro v4 w4 hO4 hF4 hb4 hg4 hat4; rw [HNB1.out] at hO4; obtain ⟨A4, c4, hv4, hc4⟩ := hO4.shape; subst hv4; have hA4 := (HA.out.alloc (.cells #[.string sx] 9)).below hb4 (by omega); have hB4 := (HB.out.alloc (.cells #[.string sx] 9)).below hb4 (by omega); obtain ⟨l0, l1, l2, l3⟩ := blk2E hB4)
        have hR4 := (HOA.out.alloc (.cells #[.string sx] 9)).kept hg4 HAP.out.symm.or
        have hap4 : Apart (.slice Aa na ca) (.slice A4 (nb + 1) c4) := (HAP.out.symm.push (fun g h => by have := (hlta g h).2; simp; omega) hat4).symm
        have hA5 := hA4.far (p := ⟨w.heap.size + 1, 0, none⟩) (show w.heap.size ≠ w.heap.size + 1 by omega) (.slice A4 (nb + 1) c4)
        have hB5 := hB4.set_ 0 (.slice A4 (nb + 1) c4)
        have hO5 := hO4.setFar (a := ⟨w.heap.size + 1, 0, none⟩) (fun e => by have h := (hO4.1.lt _ e).1; have h : w.heap.size + 2 ≤ w.heap.size + 1 := h; omega) (.slice A4 (nb + 1) c4)
        have hR5 := hR4.setFar (a := ⟨w.heap.size + 1, 0, none⟩) (fun e => by have h := (hR4.1.lt _ e).1; have h : w.heap.size + 2 ≤ w.heap.size + 1 := h; omega) (.slice A4 (nb + 1) c4)
        have hbl5 : Below w.heap.size w (w4.setCell ⟨w.heap.size + 1, 0, none⟩ (.slice A4 (nb + 1) c4)) := ((HBL.out.alloc HBL.out.size (.cells #[.string sx] 9)).trans (hb4.mono (by omega))).setCell (p := ⟨w.heap.size + 1, 0, none⟩) (Nat.le_succ _) _
        rw [HNA1.out] at hR5
        clear hO4 hF4 hA4 hB4 hb4 hg4 hat4 hR4
        go_wp2_with fail
        go_roundw
        case rel => exact ⟨i + 1, Aa, na, ca, A4, nb + 1, c4, by omega, by go_num, hna, by have := HNN.out; omega, hca, hc4, Lib.hid (by have := HNN.out; omega), hA5, hB5, hR5, hO5, hap4, hbl5⟩
        case measure => simp [intOf]; omega
    · obtain rfl : k = i := by omega
      have hdec : decide ((k : Int) < (k : Int)) = false := decide_eq_false (by omega)
      have hA1 : namA k = traA.1 := by unfold namA traA; rw [show min k 40 = 40 by omega]
      have hB1 : namB lo k = (traB lo k).1 := rfl
      have hla : traA.1.length = na := by rw [← hA1]; have := HNN.out; simp [namA]; omega
      have hlb : (traB lo k).1.length = nb := by have := HNN.out; simp [traB]; omega
      obtain ⟨A8, c8, e8, _, hra⟩ := hOA.rdH
      injection e8 with e81 _ e83
      subst e81 e83
      obtain ⟨A9, c9, e9, _, hrb⟩ := hOB.rdH
      injection e9 with e91 _ e93
      subst e91 e93
      rw [hA1] at hra
      rw [hB1] at hrb
      obtain ⟨a0, a1, _, _⟩ := blk2E hA
      obtain ⟨b0, b1, _, _⟩ := blk2E hB
      have hga := hA.lt
      have hgb := hB.lt
      have hv2 : ∀ (X : World), Below wr.heap.size wr X → TrsV (heapF X) [traA, traB lo k] [.slice Aa na ca, .slice none 0 0, .slice Ab nb cb, .slice none 0 0] := fun X hX => by
        have q0 := TrsV.nil (F := heapF X)
        have q1 := TrsV.cons (traB lo k) [] Ab cb none 0 _ (by rw [hlb]; exact hcb) (Nat.le_refl _) (by rw [hlb]; exact rd_call hrb hX) ⟨rfl, fun h => absurd h (Nat.lt_irrefl _)⟩ q0
        have q2 := TrsV.cons traA [traB lo k] Aa ca none 0 _ (by rw [hla]; exact hca) (Nat.le_refl _) (by rw [hla]; exact rd_call hra hX) ⟨rfl, fun h => absurd h (Nat.lt_irrefl _)⟩ q1
        rw [hla, hlb] at q2
        exact q2
      have hb1 : Below wr.heap.size wr ((wr.alloc (.cells #[.string ⟨#[97, 108, 108]⟩] 9)).alloc (.cells #[.slice (some ⟨wr.heap.size, 0, none⟩) 1 1, .slice none 0 0] 27)) := (balloc _ _).alloc (by simp) _
      have hb2 : Below wr.heap.size wr (((wr.alloc (.cells #[.string ⟨#[97, 108, 108]⟩] 9)).alloc (.cells #[.slice (some ⟨wr.heap.size, 0, none⟩) 1 1, .slice none 0 0] 27)).alloc (.cells #[.slice Aa na ca, .slice none 0 0, .slice Ab nb cb, .slice none 0 0] 27)) := hb1.alloc (by simp; omega) _
      obtain ⟨X2, hX2⟩ : ∃ X2, ((wr.alloc (.cells #[.string ⟨#[97, 108, 108]⟩] 9)).alloc (.cells #[.slice (some ⟨wr.heap.size, 0, none⟩) 1 1, .slice none 0 0] 27)).alloc (.cells #[.slice Aa na ca, .slice none 0 0, .slice Ab nb cb, .slice none 0 0] 27) = X2 := ⟨_, rfl⟩
      have hS : Blk X2 wr.heap.size 9 #[.string ⟨#[97, 108, 108]⟩] := hX2 ▸ ((Blk.new _ _ _).alloc _).alloc _
      have hC : Blk X2 (wr.heap.size + 1) 27 #[.slice (some ⟨wr.heap.size, 0, none⟩) 1 1, .slice none 0 0] := hX2 ▸ (Blk.new2 _ _ _ _).alloc _
      have hD : Blk X2 (wr.heap.size + 1 + 1) 27 #[.slice Aa na ca, .slice none 0 0, .slice Ab nb cb, .slice none 0 0] := hX2 ▸ blk3n _ _ _ _ _
      rw [hX2] at hb2
      have hT2 := trs_blk (xs := [.slice Aa na ca, .slice none 0 0, .slice Ab nb cb, .slice none 0 0]) hD (hv2 X2 hb2) rfl
      have hbd : ∀ t ∈ [traA, traB lo k, traC], t.1.length ≤ 100 ∧ t.2.length ≤ 1000 ∧ ∀ e ∈ t.2, e.ids.length ≤ 1000 := fun t ht => by
        simp at ht
        rcases ht with rfl | rfl | rfl
        · exact ⟨by omega, Nat.zero_le _, fun e he => by cases he⟩
        · exact ⟨by omega, Nat.zero_le _, fun e he => by cases he⟩
        · exact ⟨by decide, Nat.zero_le _, fun e he => by cases he⟩
      have HM3 := Lib.hid (fun (X : World) (A : Option Addr) (c : Nat) (hl : TrsF (heapF X) A 3 [traA, traB lo k, traC]) => (both32 [traA, traB lo k, traC] A 3 c hl (by omega) hbd (U := []) (V := []) (nU := 0) (nV := 0) (k := 1) (by rw [mergeABC]) (by rw [mergeABC]) (by rw [mergeABC]) rfl rfl X (sat_heapF X)).1)
      have HM2 := Lib.hid (fun (U : List ByteArray) (nU kk : Nat) (h1 : mergeM [traA, traB lo k] = ((U, []), kk)) (h2 : U.length = nU) => (both32 [traA, traB lo k] _ 2 2 hT2 (by omega) (fun t ht => hbd t (by simp at ht ⊢; rcases ht with h | h; exact .inl h; exact .inr (.inl h))) (U := U) (V := []) (nU := nU) (nV := 0) (k := kk) (by rw [h1]) (by rw [h1]) (by rw [h1]) h2 rfl X2 (sat_heapF X2)).1)
      have HV3 : Hid (∀ (X : World), Below X2.heap.size X2 X → TrsV (heapF X) [traA, traB lo k, traC] [.slice Aa na ca, .slice none 0 0, .slice Ab nb cb, .slice none 0 0, .slice (some ⟨wr.heap.size, 0, none⟩) 1 1, .slice none 0 0]) := Lib.hid (fun X hX => by
        have q0 := TrsV.nil (F := heapF X)
        have q1 := TrsV.cons traC [] (some ⟨wr.heap.size, 0, none⟩) 1 none 0 _ (Nat.le_refl _) (Nat.le_refl _) (strs_blk (ss := traC.1) (hS.call hX) rfl) ⟨rfl, fun h => absurd h (Nat.lt_irrefl _)⟩ q0
        exact (hv2 X (bthen hb2 hX)).append q1)
      have HA := Lib.hid (hA.call hb2)
      have HB := Lib.hid (hB.call hb2)
      have HC := Lib.hid hC
      have HX2 := Lib.hid hX2
      have HBL := Lib.hid (bthen hbl hb2)
      clear hA hB hC hD hS hOA hOB hap hbl hra hrb hv2 hb1 hb2 hX2 hT2 hbd hla hlb hA1 hB1 HNN
      by_cases h64 : 64 < k
      · have h64I : (64 : Int) < (k : Int) := by omega
        have HM2' := Lib.hid (HM2.out [] 0 4 (by rw [mergeAB lo k hlo3 hlo40 hk62 hk66, if_pos h64]) rfl)
        clear HM2
        go_wp2_with (first
          | (go_at_call 8; refine (HAW.out _).mono ?_; rintro e w4 ⟨rfl, hb4⟩)
          | (have q1 := HW1; go_at_call 9; refine (HM3.out _ (some ⟨w1.heap.size + 1, 0, none⟩) 3 HT3.out).mono ?_; rintro e w2 ⟨Bn, dn, Be, de, rfl, hdn, hde, hb2', hrn2, hev2⟩; have hR2 := HR1.out.call hb2'; obtain ⟨k0, k1, _, _⟩ := blk2E hR2; have hk2 := hR2.lt)
          | (rw [HX2.out]; go_at_call 9; refine HM2'.out.mono ?_; rintro e w1 ⟨An, cn, Ae, ce, rfl, hcn, hce, hb1', hrn, hev⟩; have HW1 := Lib.hid hb1'; obtain ⟨a0, a1, _, _⟩ := blk2E (HA.out.call hb1'); obtain ⟨b0, b1, _, _⟩ := blk2E (HB.out.call hb1'); obtain ⟨c0, c1, _, _⟩ := blk2E (HC.out.call hb1'); have hga1 := (HA.out.call hb1').lt; have hgb1 := (HB.out.call hb1').lt; have hgc1 := (HC.out.call hb1').lt; have HR1 : Hid (Blk ((w1.alloc (.cells #[.slice An 0 cn, .slice Ae 0 ce] 27)).alloc (.cells #[.slice Aa na ca, .slice none 0 0, .slice Ab nb cb, .slice none 0 0, .slice (some ⟨wr.heap.size, 0, none⟩) 1 1, .slice none 0 0] 27)) w1.heap.size 27 #[.slice An 0 cn, .slice Ae 0 ce]) := Lib.hid ((Blk.new _ _ _).alloc _); have HB3 : Hid (Below w1.heap.size w1 ((w1.alloc (.cells #[.slice An 0 cn, .slice Ae 0 ce] 27)).alloc (.cells #[.slice Aa na ca, .slice none 0 0, .slice Ab nb cb, .slice none 0 0, .slice (some ⟨wr.heap.size, 0, none⟩) 1 1, .slice none 0 0] 27))) := Lib.hid ((balloc _ _).alloc (by simp) _); have HT3 := Lib.hid (trs_blk (xs := [.slice Aa na ca, .slice none 0 0, .slice Ab nb cb, .slice none 0 0, .slice (some ⟨wr.heap.size, 0, none⟩) 1 1, .slice none 0 0]) (Blk.new2 w1 (.cells #[.slice An 0 cn, .slice Ae 0 ce] 27) 27 #[.slice Aa na ca, .slice none 0 0, .slice Ab nb cb, .slice none 0 0, .slice (some ⟨wr.heap.size, 0, none⟩) 1 1, .slice none 0 0]) (HV3.out _ (bthen hb1' HB3.out)) rfl)))
        go_ret
        exact ⟨rfl, bthen HBL.out (bthen HW1.out (bthen HB3.out (bthen hb2' (bthen (balloc _ _) hb4))))⟩
      · have h64I : ¬ (64 : Int) < (k : Int) := by omega
        have HM2' := Lib.hid (HM2.out ((List.range' 0 k).map nmF) k 0 (by rw [mergeAB lo k hlo3 hlo40 hk62 hk66, if_neg h64]) (by simp))
        clear HM2
        go_wp2_with (first
          | (go_at_call 8; refine (HAW.out _).mono ?_; rintro e w4 ⟨rfl, hb4⟩)
          | (have q1 := HW1; go_at_call 9; (refine (HM3.out _ (some ⟨w1.heap.size + 1, 0, none⟩) 3 HT3.out).mono ?_; rintro e w2 ⟨Bn, dn, Be, de, rfl, hdn, hde, hb2', hrn2, hev2⟩; have hR2 := HR1.out.call hb2'; obtain ⟨k0, k1, _, _⟩ := blk2E hR2; have hk2 := hR2.lt; have hbX := bthen HB3.out (bthen hb2' (balloc w2 (.cells #[.slice Bn 0 dn, .slice Be 0 de] 27))); obtain ⟨ax, v0, rfl, hv0, hc0⟩ := HRN.out.at1 (show 0 < k by omega); have hnz : (((List.range' 0 k).map nmF).map Value.string)[0]? = some (.string ⟨#[110, 97, 97]⟩) := (by rw [List.getElem?_map, List.getElem?_map, List.getElem?_range' (by omega)]; rfl); rw [hnz] at hv0; injection hv0 with hv0; subst hv0; have hz0 := ((sat_heapF w1).below hbX).cell hc0; rw [show ax.add 0 = ax from if_pos rfl] at hz0))
          | (rw [HX2.out]; go_at_call 9; refine HM2'.out.mono ?_; rintro e w1 ⟨An, cn, Ae, ce, rfl, hcn, hce, hb1', hrn, hev⟩; have HW1 := Lib.hid hb1'; have HRN := Lib.hid hrn; obtain ⟨a0, a1, _, _⟩ := blk2E (HA.out.call hb1'); obtain ⟨b0, b1, _, _⟩ := blk2E (HB.out.call hb1'); obtain ⟨c0, c1, _, _⟩ := blk2E (HC.out.call hb1'); have hga1 := (HA.out.call hb1').lt; have hgb1 := (HB.out.call hb1').lt; have hgc1 := (HC.out.call hb1').lt; have HR1 : Hid (Blk ((w1.alloc (.cells #[.slice An k cn, .slice Ae 0 ce] 27)).alloc (.cells #[.slice Aa na ca, .slice none 0 0, .slice Ab nb cb, .slice none 0 0, .slice (some ⟨wr.heap.size, 0, none⟩) 1 1, .slice none 0 0] 27)) w1.heap.size 27 #[.slice An k cn, .slice Ae 0 ce]) := Lib.hid ((Blk.new _ _ _).alloc _); have HB3 : Hid (Below w1.heap.size w1 ((w1.alloc (.cells #[.slice An k cn, .slice Ae 0 ce] 27)).alloc (.cells #[.slice Aa na ca, .slice none 0 0, .slice Ab nb cb, .slice none 0 0, .slice (some ⟨wr.heap.size, 0, none⟩) 1 1, .slice none 0 0] 27))) := Lib.hid ((balloc _ _).alloc (by simp) _); have HT3 := Lib.hid (trs_blk (xs := [.slice Aa na ca, .slice none 0 0, .slice Ab nb cb, .slice none 0 0, .slice (some ⟨wr.heap.size, 0, none⟩) 1 1, .slice none 0 0]) (Blk.new2 w1 (.cells #[.slice An k cn, .slice Ae 0 ce] 27) 27 #[.slice Aa na ca, .slice none 0 0, .slice Ab nb cb, .slice none 0 0, .slice (some ⟨wr.heap.size, 0, none⟩) 1 1, .slice none 0 0]) (HV3.out _ (bthen hb1' HB3.out)) rfl)))
        go_ret
        exact ⟨rfl, bthen HBL.out (bthen HW1.out (bthen HB3.out (bthen hb2' (bthen (balloc _ _) hb4))))⟩
end Go.Proofs.Ytgmbicjcfhmcdaa
