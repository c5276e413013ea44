/- The walks of bits.Of and of the law's held: the tests that hold. -/
import Derived.Test.YtdbbooibkiicnaaTabW
import Derived.Test.YtdbbooibkiicnaaOfW
import Derived.Test.YtdbbooibkiicnaaSteps1
import Derived.Test.YtdbbooibkiicnaaOwn
import Derived.Test.YtdbbooibkiicnaaPlanO
set_option linter.unusedVariables false
set_option linter.unusedSimpArgs false
/-! The walks of bits.Of and of the law's held: the tests that hold. -/
namespace Go.Proofs.Ytdbbooibkiicnaa
open Go.RowKit
attribute [local go_sem ↓] bits_and bits_or not_bits arith_add arith_sub shift_l shift_r shift_lu shift_ru shift_int conv_uu shift_l1 shift_l1u bits_and1 arith_sub1
attribute [local go_sem] uz_toNat uz_nonneg
section
variable {F : Fz} {w : World} {B : Nat} {e : TypeId} {g n c : Nat} {xs : List Value}
theorem ownAddr {A : Option Addr} (h : Own F w B e 1 (.slice A n c) n xs) (hn : 0 < n) : ∃ g, A = some ⟨g, 0, none⟩ := by
  obtain ⟨⟨hl, h1⟩, h2⟩ := h
  rcases h1 with ⟨h3, h4⟩ | ⟨g', cap, cur, h3, hbase, hb, h5, h6, h7, h8⟩
  · omega
  · injection h3 with h3
    exact ⟨g', h3⟩
theorem ownCell (h : Own F w B e 1 (.slice (some ⟨g, 0, none⟩) n c) n xs) {i : Nat} (hi : i < n) : w.cell? ⟨g, i, none⟩ = xs[i]? ∧ w.frozen? ⟨g, i, none⟩ = false ∧ B ≤ g := by
  obtain ⟨⟨hl, h1⟩, h2⟩ := h
  rcases h1 with ⟨h3, _⟩ | ⟨g', cap, cur, h3, hbase, hb, h5, h6, h7, h8⟩
  · cases h3
  · injection h3 with h3 _ h4
    injection h3 with h3
    injection h3 with h3
    subst h3 h4
    have hB : Blk w g e cur := hb
    refine ⟨?_, hB.frozen i, hbase⟩
    rw [hB.cell, ← h8, List.getElem?_take_of_lt (by omega), Array.getElem?_toList]
theorem ownStore (h : Own F w B e 1 (.slice (some ⟨g, 0, none⟩) n c) n xs) {i : Nat} (hi : i < n) (y : Value) : Own F (w.setCell ⟨g, i, none⟩ y) B e 1 (.slice (some ⟨g, 0, none⟩) n c) n (xs.set i y) := by
  obtain ⟨⟨hl, h1⟩, h2⟩ := h
  rcases h1 with ⟨h3, _⟩ | ⟨g', cap, cur, h3, hbase, hb, h5, h6, h7, h8⟩
  · cases h3
  · injection h3 with h3 _ h4
    injection h3 with h3
    injection h3 with h3
    subst h3 h4
    have hB : Blk w g e cur := hb
    refine ⟨⟨by simpa using hl, .inr ⟨g, c, _, rfl, hbase, hB.set_ i y, h5, h6, by simpa using h7, ?_⟩⟩, h2⟩
    rw [Array.toList_setIfInBounds, ← h8, List.take_set]
end
theorem wpList_pushU {w : World} {ops : Array Oper} {rest : List Oper} {o : Oper} {a : Act} {Q : Exit → Act → World → Prop} (hgd : o.guard = none) (s x : Operand)
    (ho : o.op = .call { callee := .builtin .append, args := #[s, x], argTypes := #[58, 58] })
    {F : Fz} {B n : Nat} {v : Value} {xs : List (BitVec 64)} (hown : Own F w B 37 1 v n (xs.map u)) (hF : Sat F w) (hs : a.eval s = v)
    (g c : Nat) (y : BitVec 64) (hx : a.eval x = .slice (some ⟨g, 0, none⟩) 1 c) (hg : Blk w g 37 #[u y]) (hn : n + 1 ≤ 1000000) (hB : B ≤ w.heap.size)
    (h : ∀ v' w', Own F w' B 37 1 v' (n + 1) ((xs ++ [y]).map u) → Sat F w' → Below B w w' → w.grownBy w' v.ownBlock → (v'.ownBlock = v.ownBlock ∨ v'.ownBlock = some w.heap.size) → wpList Try.prog ops Q rest (a.put o.dst v') w') :
    wpList Try.prog ops Q (o :: rest) a w := by
  refine wpList_push hgd s x _ ho 37 (.int .u64 0) 1 8 Try.underlying58 (by kernel_rfl) rfl (by omega) hown hF hs g c #[u y] hx hg rfl (by intro v hv; simp at hv; subst hv; rfl) (by simp [maxLen]; omega) (by omega) hB ?_
  intro v' w' h1 h2 h3 h4 h5
  exact h v' w' (by rw [List.map_append]; exact h1) h2 h3 h4 h5
theorem bit_snoc0 (ws : List (BitVec 64)) (q : Nat) : bitAt (ws ++ [0#64]) q = bitAt ws q := by
  unfold bitAt
  rw [List.getD, List.getD]
  by_cases h : q / 64 < ws.length
  · rw [List.getElem?_append_left h]
  · rw [List.getElem?_append_right (by omega), List.getElem?_eq_none (l := ws) (by omega)]
    by_cases h2 : q / 64 - ws.length = 0
    · rw [h2]; simp
    · rw [List.getElem?_eq_none (by simp; omega)]
set_option maxRecDepth 100000 in
set_option maxHeartbeats 4000000 in
theorem pOf_w {F Fs : Fz} {w : World} (hF : Sat F w) (hFs : Sat Fs w) (xs : List Nat) (hx : ∀ x ∈ xs, x ≤ 4095) (A : Option Addr) (n c : Nat) (hf : Rd Fs 1 A n ((zs xs).map encI)) (hn : n ≤ 100000) :
    Calls Try.prog 67 #[.slice A n c] w fun e w' => ∃ A c gs, e = .returned (.slice A gs.length c) ∧ gs.length ≤ c ∧ gs.length ≤ 64 ∧ Own F w' w.heap.size 37 1 (.slice A gs.length c) gs.length (gs.map u) ∧ (∀ q, bitAt gs q = xs.contains q) ∧ Sat F w' ∧ Below w.heap.size w w' := by
  have hlen : n = xs.length := by have := hf.1; simp [zs] at this; omega
  have HLEN := Lib.hid hlen
  have HX := Lib.hid hx
  clear hlen hx
  go_enter Try.func67, Try.ntmps67
  go_wp2_with fail
  go_loopw [3, 5, 8] (fun v3 _ i wr => ∃ (m k : Nat) (ws : List (BitVec 64)) (B : Option Addr) (d : Nat), m ≤ n ∧ i = .int .i64 m ∧ v3 = .slice B k d ∧ k ≤ d ∧ k ≤ 64 ∧ Hid (ws.length = k) ∧ Hid (∀ q, bitAt ws q = (xs.take m).contains q) ∧ Own F wr w.heap.size 37 1 (.slice B k d) k (ws.map u) ∧ Sat F wr ∧ Below w.heap.size w wr) (fun _ _ i _ => n - (intOf i).toNat)
  case atStart => exact ⟨0, 0, [], none, 0, Nat.zero_le _, rfl, rfl, Nat.le_refl _, by omega, Lib.hid rfl, Lib.hid (fun q => bit_nil q), Own.nil _ _ _ _ _, hF, Below.refl _ _⟩
  case round =>
    obtain ⟨m, k, ws, B, d, hm, rfl, rfl, hkd, hk64, HL, HB, hO, hFr, hbl⟩ := hrel
    by_cases hmn : m < n
    · have hmI : (m : Int) < (n : Int) := by omega
      have hml : m < xs.length := by rw [← HLEN.out]; exact hmn
      obtain ⟨a0, v0, rfl, hv0, hc0⟩ := hf.at1 hmn
      have hv1 : ((zs xs).map encI)[m]? = some (encI ((xs[m] : Nat) : Int)) := by simp [zs, hml]
      rw [hv1] at hv0
      injection hv0 with hv0
      subst hv0
      have hz0 := (hFs.below hbl).cell hc0
      have hxb := HX.out _ (List.getElem_mem hml)
      have htk : xs.take (m + 1) = xs.take m ++ [xs[m]] := List.take_succ_eq_append_getElem hml
      generalize xs[m] = x at *
      have hx0 : decide ((x : Int) < 0) = false := decide_eq_false (by omega)
      have hx1 : decide ((4095 : Int) < (x : Int)) = false := decide_eq_false (by omega)
      obtain ⟨y, hy⟩ : ∃ y, x / 64 = y := ⟨_, rfl⟩
      have hyI : (x : Int) / 64 = (y : Int) := by omega
      have hy64 : y < 64 := by omega
      have hx5 : 0 ≤ (x : Int) % 64 := by omega
      have hx6 : (x : Int) % 64 < 64 := by omega
      have hx7 : ((x : Int) % 64).toNat = x % 64 := by omega
      have hx8 : x % 64 < 64 := by omega
      have hxx : x ≤ 4095 := hxb
      have HTK := Lib.hid htk
      have HY := Lib.hid hy
      have HO := Lib.hid hO
      have HFr := Lib.hid hFr
      have HBL := Lib.hid hbl
      clear htk hv1 hy hO hFr hbl hxb hc0
      go_wp2_with fail
      go_loopw [3] (fun v3 wr => ∃ (k : Nat) (ws : List (BitVec 64)) (B : Option Addr) (d : Nat), v3 = .slice B k d ∧ k ≤ d ∧ k ≤ 64 ∧ Hid (ws.length = k) ∧ Hid (∀ q, bitAt ws q = (xs.take m).contains q) ∧ Own F wr w.heap.size 37 1 (.slice B k d) k (ws.map u) ∧ Sat F wr ∧ Below w.heap.size w wr) (fun v3 _ => 64 - lenV v3)
      case atStart => exact ⟨k, ws, B, d, rfl, hkd, hk64, HL, HB, HO.out, HFr.out, HBL.out⟩
      case round =>
        clear HO HFr HBL HL HB hkd hk64
        obtain ⟨k, ws, B, d, rfl, hkd, hk64, HL, HB, hO, hFr, hbl⟩ := hrel
        by_cases hky : k ≤ y
        · have hkyI : (k : Int) ≤ (y : Int) := by omega
          have HO := Lib.hid (hO.alloc (.cells #[.int .u64 0] 37))
          have hF2 := hFr.alloc (.cells #[.int .u64 0] 37)
          have HBL : Hid (Below w.heap.size w (wr.alloc (.cells #[.int .u64 0] 37))) := Lib.hid (hbl.alloc hbl.size _)
          have hzl := hbl.size
          clear hO hFr hbl
          go_wp2_with (at_builtin; refine wpList_pushU rfl (.tmp 23) (.tmp 24) rfl HO.out hF2 (by rfl) wr.heap.size 1 (0#64) (by rfl) (Blk.new _ _ _) (by omega) (by simp; omega) ?_; intro v2 w2 hO2 hF3 hb2 hg2 hat2)
          obtain ⟨B2, d2, rfl, hd2⟩ := hO2.shape
          go_roundw
          case rel => exact ⟨k + 1, ws ++ [0#64], B2, d2, rfl, hd2, by omega, Lib.hid (by simp [HL.out]), Lib.hid (fun q => by rw [bit_snoc0, HB.out]), hO2, hF3, HBL.out.trans hb2⟩
          case measure => simp [lenV]; omega
        · have hkyI : decide ((k : Int) ≤ (y : Int)) = false := decide_eq_false (by omega)
          obtain ⟨g, rfl⟩ := ownAddr hO (by omega)
          have hyk : (y : Int) < (k : Int) := by omega
          have hyw : y < ws.length := by rw [HL.out]; omega
          have hcl := ownCell hO (i := y) (by omega)
          rw [List.getElem?_map, List.getElem?_eq_getElem hyw] at hcl
          obtain ⟨hc1, hfz, hBg⟩ := hcl
          have hc1 : wr.cell? ⟨g, y, none⟩ = some (u ws[y]) := hc1
          have hgd : ws.getD y 0#64 = ws[y] := by rw [List.getD, List.getElem?_eq_getElem hyw]; rfl
          have hst := ownStore hO (i := y) (by omega) (u (ws[y] ||| 1#64 <<< (x % 64)))
          have HS : Hid (∀ q, bitAt (ws.set y (ws[y] ||| 1#64 <<< (x % 64))) q = (xs.take (m + 1)).contains q) := Lib.hid (fun q => by
            have h := bit_set (ws := ws) (x := x) (by rw [HY.out]; exact hyw) q
            rw [HY.out, hgd] at h
            rw [h, HB.out, HTK.out]
            simp [List.contains_append, Bool.or_comm]
            congr 1 <;> (rw [Bool.eq_iff_iff]; simp [eq_comm]))
          rw [show (ws.map u).set y (u (ws[y] ||| 1#64 <<< (x % 64))) = (ws.set y (ws[y] ||| 1#64 <<< (x % 64))).map u by rw [List.map_set]] at hst
          have HL2 : Hid ((ws.set y (ws[y] ||| 1#64 <<< (x % 64))).length = k) := Lib.hid (by rw [List.length_set, HL.out])
          have HST := Lib.hid hst
          have HFS : Hid (∀ v, Sat F (wr.setCell ⟨g, y, none⟩ v)) := Lib.hid (fun v => hFr.setCell (p := ⟨g, y, none⟩) (hO.2 g (by rfl)) v)
          have HBL := Lib.hid (fun v => hbl.setCell (p := ⟨g, y, none⟩) hBg v)
          generalize ws.set y (ws[y] ||| 1#64 <<< (x % 64)) = ws2 at *
          generalize ws[y] = z at *
          clear hst hO hFr hbl hgd hyw
          go_wp2_with fail
          go_region
          go_wp2_with fail
          go_roundw
          case rel => exact ⟨m + 1, k, ws2, some ⟨g, 0, none⟩, d, by omega, by go_num, rfl, hkd, hk64, HL2, HS, HST.out, HFS.out _, bel_drew (HBL.out _)⟩
          case measure => simp [intOf]; omega
    · obtain rfl : m = n := by omega
      have hdec : decide ((m : Int) < (m : Int)) = false := decide_eq_false (by omega)
      have HT : Hid (xs.take m = xs) := Lib.hid (by rw [HLEN.out, List.take_length])
      go_wp2_with fail
      go_ret
      exact ⟨B, d, ws, by rw [HL.out]; rfl, by rw [HL.out]; exact hkd, by rw [HL.out]; exact hk64, by rw [HL.out]; exact hO, fun q => by rw [HB.out, HT.out], hFr, hbl⟩
set_option maxRecDepth 100000 in
set_option maxHeartbeats 4000000 in
theorem held_w {F : Fz} {w : World} (hF : Sat F w) (m : Nat) (hm : m ≤ 10) (X : Nat) (hX : X < 2 ^ m) (ts : List (List (BitVec 64))) (A : Option Addr) (n c : Nat) (hts : RdR F A n ts) (hn : n ≤ 100) (htl : ∀ g ∈ ts, g.length ≤ 100) :
    Calls Try.prog 36 #[.int .i64 m, .int .u64 X, .slice A n c] w (RetS w fun q => bitAt (ts.getD q []) X) := by
  obtain ⟨hlen, hrow⟩ := hts
  have HLEN := Lib.hid hlen
  have HROW := Lib.hid hrow
  have HTL := Lib.hid htl
  have HX : Hid (decide (X < 2 ^ m) = true) := Lib.hid (decide_eq_true hX)
  clear hlen hrow htl hX
  go_enter Try.func36, Try.ntmps36
  go_wp2_with fail
  go_loopw [7, 8, 9, 12] (fun v7 _ _ i wr => ∃ (j k : Nat) (xs : List Nat) (B : Option Addr) (d : Nat), j ≤ n ∧ i = .int .i64 j ∧ v7 = .slice B k d ∧ k ≤ d ∧ k ≤ j ∧ Hid (k = xs.length) ∧ Hid (xs = (List.range j).filter fun q => bitAt (ts.getD q []) X) ∧ Own F wr w.heap.size 3 1 (.slice B k d) k ((zs xs).map encI) ∧ Sat F wr ∧ Below w.heap.size w wr) (fun _ _ _ i _ => n - (intOf i).toNat)
  case atStart => exact ⟨0, 0, [], none, 0, Nat.zero_le _, rfl, rfl, Nat.le_refl _, Nat.le_refl _, Lib.hid rfl, Lib.hid (by simp), Own.nil _ _ _ _ _, hF, Below.refl _ _⟩
  case round =>
    obtain ⟨j, k, xs, B, d, hj, rfl, rfl, hkd, hkj, HK, HXS, hO, hFr, hbl⟩ := hrel
    by_cases hlt : j < n
    · have hjI : (j : Int) < (n : Int) := by omega
      obtain ⟨ad, Ai, ni, ci, rfl, hcell, hrd⟩ := HROW.out j (by rw [← HLEN.out]; exact hlt)
      have hc := hFr.cell hcell
      have hgm : (ts.getD j []).length ≤ 1000 := Nat.le_trans (HTL.out _ (by rw [List.getD, List.getElem?_eq_getElem (by rw [← HLEN.out]; exact hlt)]; exact List.getElem_mem _)) (by omega)
      have hA := at_any hFr m hm _ hgm Ai ni ci hrd (X : Int) (Int.natCast_nonneg _)
      rw [Int.toNat_natCast, HX.out, Bool.true_and] at hA
      have hstep : (List.range (j + 1)).filter (fun q => bitAt (ts.getD q []) X) = xs ++ if bitAt (ts.getD j []) X = true then [j] else [] := by
        rw [List.range_succ, List.filter_append, ← HXS.out, List.filter_cons, List.filter_nil]
      cases hb : bitAt (ts.getD j []) X
      · rw [hb] at hA hstep
        have HA := Lib.hid hA
        have HS : Hid (xs = (List.range (j + 1)).filter fun q => bitAt (ts.getD q []) X) := Lib.hid (by rw [hstep]; simp)
        clear hA hb hstep hcell hrd hgm
        go_wp2_with (go_at_call 38; refine HA.out.mono ?_; rintro e w' ⟨rfl, rfl⟩)
        go_roundw
        case rel => exact ⟨j + 1, k, xs, B, d, by omega, by go_num, rfl, hkd, by omega, HK, HS, hO, hFr, hbl⟩
        case measure => simp [intOf]; omega
      · rw [hb] at hA hstep
        have HA := Lib.hid hA
        have HS : Hid (xs ++ [j] = (List.range (j + 1)).filter fun q => bitAt (ts.getD q []) X) := Lib.hid (by rw [hstep]; simp)
        have HZ : Hid (zs xs ++ [(j : Int)] = zs (xs ++ [j])) := Lib.hid (by rw [zs_snoc])
        have HO := Lib.hid (hO.alloc (.cells #[.int .i64 j] 3))
        have hF2 := hFr.alloc (.cells #[.int .i64 j] 3)
        have HBL : Hid (Below w.heap.size w (wr.alloc (.cells #[.int .i64 j] 3))) := Lib.hid (hbl.alloc hbl.size _)
        have hzl := hbl.size
        clear hA hb hstep hcell hrd hgm hO hFr hbl
        go_wp2_with (first
          | (go_at_call 38; refine HA.out.mono ?_; rintro e w' ⟨rfl, rfl⟩)
          | (at_builtin; refine wpList_pushI rfl (.tmp 21) (.tmp 23) rfl HO.out hF2 (by rfl) _ 1 (j : Int) (by rfl) (Blk.new _ _ _) (by omega) (by simp; omega) ?_; intro v2 w2 hO2 hF3 hb2 hg2 hat2))
        rw [HZ.out] at hO2
        obtain ⟨B2, d2, rfl, hd2⟩ := hO2.shape
        go_roundw
        case rel => exact ⟨j + 1, k + 1, _, B2, d2, by omega, by go_num, rfl, hd2, by omega, Lib.hid (by rw [HK.out]; simp), HS, hO2, hF3, HBL.out.trans hb2⟩
        case measure => simp [intOf]; omega
    · obtain rfl : j = n := by omega
      have hdec : decide ((j : Int) < (j : Int)) = false := decide_eq_false (by omega)
      obtain ⟨B', d', eB, _, hrd⟩ := hO.rdH
      injection eB with e1 e2 e3
      subst e1 e3
      clear e2
      have HO := Lib.hid (pOf_w (sat_heapF wr) (sat_heapF wr) xs (fun x hx => by rw [HXS.out] at hx; have := List.mem_range.1 (List.mem_filter.1 hx).1; omega) B k d hrd (by omega))
      have HBL := Lib.hid hbl
      clear hO hrd hbl
      go_wp2_with (go_at_call 67; refine HO.out.mono ?_; rintro e w1 ⟨C, f, gs, rfl, hf, hg64, hO1, hq, hS1, hb1⟩)
      obtain ⟨C', f', eC, _, hrd⟩ := hO1.rdH
      injection eC with e1 e2 e3
      subst e1 e3
      clear e2
      obtain ⟨K, hK⟩ : ∃ K, gs.length = K := ⟨_, rfl⟩
      rw [hK] at hf hg64 hO1 hrd ⊢
      have HQ := Lib.hid hq
      clear hq hK
      go_wp2_with fail
      go_ret
      refine ⟨_, rfl, bthen HBL.out hb1, gs, C, K, f, rfl, hf, by omega, hrd, fun q => ?_⟩
      rw [HQ.out, HXS.out, Bool.eq_iff_iff, List.contains_iff_mem, List.mem_filter, List.mem_range]
      by_cases hq : q < j
      · exact ⟨fun h => h.2, fun h => ⟨hq, h⟩⟩
      · have e : ts.getD q [] = [] := by rw [List.getD, List.getElem?_eq_none (by rw [← HLEN.out]; omega)]; rfl
        have e2 : bitAt (ts.getD q []) X = false := by rw [e, bit_nil]
        exact ⟨fun h => absurd h.1 hq, fun h => by have h : bitAt (ts.getD q []) X = true := h; rw [e2] at h; cases h⟩
end Go.Proofs.Ytdbbooibkiicnaa
