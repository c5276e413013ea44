/- The walks of the reference's functions on sets by words: Trim, Of, List, Cut. -/
import Derived.Test.YtkhhjihbahdepaaHasW
import Derived.Test.YtkhhjihbahdepaaApp
import Derived.Test.YtkhhjihbahdepaaOwn
import Derived.Test.YtkhhjihbahdepaaPoints
import Derived.Test.YtkhhjihbahdepaaPathsSteps
import Derived.Test.YtkhhjihbahdepaaRPaths
set_option linter.unusedVariables false
set_option linter.unusedSimpArgs false
/-! The walks of the reference's functions on sets by words: Trim, Of, List, Cut. -/
namespace Go.Proofs.Ytkhhjihbahdepaa
open Go.RowKit
attribute [local go_sem ↓] bits_and bits_or not_bits arith_add arith_sub shift_l shift_r shift_lu shift_ru shift_int conv_uu shift_l1 shift_l1u bits_and1 arith_sub1
attribute [local go_sem] uz_toNat uz_nonneg
/-- What a function that gives a set leaves: its words, of which P holds. -/
def RetU (F : Fz) (w : World) (P : List (BitVec 64) → Prop) (e : Ending) (w' : World) : Prop := ∃ gs A c F', e = .returned (.slice A gs.length c) ∧ gs.length ≤ c ∧ Rd F' 1 A gs.length (gs.map u) ∧ Below w.heap.size w w' ∧ Sat F' w' ∧ Fle w F F' ∧ P gs
theorem wpList_allU {w : World} {ops : Array Oper} {rest : List Oper} {o : Oper} {a : Act} {Q : Exit → Act → World → Prop} (hgd : o.guard = none) (s x : Operand)
    (ho : o.op = .call { callee := .builtin .append, args := #[s, x], argTypes := #[23, 23] })
    {F F' : Fz} {B n : Nat} {v : Value} {xs : List (BitVec 64)} (hown : Own F w B 62 1 v n (xs.map u)) (hF : Sat F w) (hs : a.eval s = v)
    (A : Option Addr) (m c : Nat) (ys : List (BitVec 64)) (hx : a.eval x = .slice A m c) (hF' : Sat F' w) (hr : Rd F' 1 A m (ys.map u)) (hn : n + m ≤ 1000000) (hB : B ≤ w.heap.size)
    (h : ∀ v' w', Own F w' B 62 1 v' (n + m) ((xs ++ ys).map u) → Sat F w' → Below B w w' → w.grownBy w' v.ownBlock → (v'.ownBlock = v.ownBlock ∨ v'.ownBlock = some w.heap.size) → wpList Try.prog ops Q rest (a.put o.dst v') w') :
    wpList Try.prog ops Q (o :: rest) a w := by
  refine wpList_pushAll hgd s x _ ho 62 (.int .u64 0) 1 8 Try.underlying23 (by kernel_rfl) rfl (by omega) hown hF hs A m c _ hx hF' hr (ones_u ys) (by simp [maxLen]; omega) (by omega) hB ?_
  intro v' w' h1 h2 h3 h4 h5
  exact h v' w' (by rw [List.map_append]; exact h1) h2 h3 h4 h5
theorem bit_take {fs : List (BitVec 64)} {k : Nat} (h : ∀ j, k ≤ j → fs.getD j 0#64 = 0#64) (q : Nat) : bitAt (fs.take k) q = bitAt fs q := by
  unfold bitAt
  by_cases hq : q / 64 < k
  · rw [List.getD, List.getElem?_take_of_lt hq]; rfl
  · rw [h (q / 64) (by omega), List.getD, List.getElem?_eq_none (by simp; omega)]; simp
set_option maxRecDepth 100000 in
set_option maxHeartbeats 2000000 in
theorem trim_w {F Fs : Fz} {w : World} (hF : Sat F w) (hFs : Sat Fs w) (fs : List (BitVec 64)) (ad : Addr) (n c : Nat) (hc : n ≤ c) (hf : Rd Fs 1 (some ad) n (fs.map u)) (hn : n ≤ 1000) :
    Calls Try.prog 61 #[.slice (some ad) n c] w (RetU F w fun gs => gs.length ≤ fs.length ∧ ∀ q, bitAt gs q = bitAt fs q) := by
  have hlen := Lib.hid (rd_len hf)
  go_enter Try.func61, Try.ntmps61
  go_wp2_with fail
  go_loop [3] (fun v => ∃ k : Nat, k ≤ n ∧ v = .int .i64 k ∧ Hid (∀ j, k ≤ j → fs.getD j 0#64 = 0#64)) (fun v => (intOf v).toNat)
  case atStart => exact ⟨n, Nat.le_refl _, rfl, Lib.hid (fun j hj => by rw [List.getD, List.getElem?_eq_none (by rw [← hlen.out]; exact hj)]; rfl)⟩
  case round =>
    obtain ⟨k, hk, rfl, HZ⟩ := hrel
    have hpre := hf.pre hk
    rw [Nat.mul_one, ← List.map_take] at hpre
    have hkc : (k : Int) ≤ (c : Int) := by omega
    have hk1 : k ≤ 1000 := by omega
    have hfin : ∀ (v : Value) (w2 : World), Own F w2 w.heap.size 62 1 v (0 + k) (([] ++ fs.take k).map u) → Below w.heap.size (w.alloc (.cells #[] 62)) w2 → Sat F w2 → RetU F w (fun gs => gs.length ≤ fs.length ∧ ∀ q, bitAt gs q = bitAt fs q) (.returned v) w2 := by
      intro v w2 hO hb hS
      obtain ⟨F2, A, d, e1, hd, hr, hS2, hle, _⟩ := hO.freeze hS w (Nat.le_refl _)
      rw [List.nil_append] at hr
      have hl : (fs.take k).length = k := by rw [List.length_take, ← hlen.out]; omega
      rw [Nat.zero_add] at e1 hd hr
      refine ⟨fs.take k, A, d, F2, by rw [e1, hl], by rw [hl]; exact hd, by rw [hl]; exact hr, (balloc _ _).trans hb, hS2, hle, by rw [List.length_take]; omega, fun q => bit_take HZ.out q⟩
    have HF := Lib.hid hfin
    clear hfin
    rcases k with _ | j
    · go_wp2_with (at_builtin; refine wpList_allU rfl (.tmp 18) (.tmp 21) rfl (xs := []) (B := w.heap.size) (Own.empty F w w.heap.size _ 1 hF rfl (Nat.le_refl _)) (hF.alloc _) (by rfl) (some ad) 0 c (fs.take 0) (by rfl) (hFs.alloc _) hpre (by omega) (by simp) ?_; intro v2 w2 hO2 hF2 hb2 hg2 hat2)
      go_ret
      exact HF.out v2 w2 hO2 hb2 hF2
    · have hjn : j < n := by omega
      have hjl : j < fs.length := by rw [← hlen.out]; exact hjn
      have hjI : (j : Int) < (n : Int) := by omega
      obtain ⟨ad2, v, e2, hv, hcell⟩ := hf.at1 hjn
      injection e2 with e2
      subst e2
      rw [List.getElem?_map, List.getElem?_eq_getElem hjl] at hv
      injection hv with hv
      subst hv
      have hz := hFs.cell hcell
      have hgd : fs.getD j 0#64 = fs[j] := by rw [List.getD, List.getElem?_eq_getElem hjl]; rfl
      generalize fs[j] = x at *
      clear hcell
      by_cases hx : x = 0#64
      · have hxb : (uz x == 0) = true := by rw [hx]; rfl
        have hnx : ∀ i, j ≤ i → fs.getD i 0#64 = 0#64 := fun i hi => by
          by_cases e : i = j
          · rw [e, hgd, hx]
          · exact HZ.out i (by omega)
        have HNX := Lib.hid hnx
        clear hnx hx hgd
        go_wp2_with fail
        go_round
        case rel => exact ⟨j, by omega, by go_num, HNX⟩
        case measure => simp [intOf]
      · have hxb : (uz x == 0) = false := by rw [beq_eq_false_iff_ne]; exact fun e => hx (uz_inj e)
        clear hx hgd
        go_wp2_with (at_builtin; refine wpList_allU rfl (.tmp 18) (.tmp 21) rfl (xs := []) (B := w.heap.size) (Own.empty F w w.heap.size _ 1 hF rfl (Nat.le_refl _)) (hF.alloc _) (by rfl) (some ad) (j + 1) c (fs.take (j + 1)) (by rfl) (hFs.alloc _) hpre (by omega) (by simp) ?_; intro v2 w2 hO2 hF2 hb2 hg2 hat2)
        go_ret
        exact HF.out v2 w2 hO2 hb2 hF2
theorem bit_set {ws : List (BitVec 64)} {x : Nat} (hx : x / 64 < ws.length) (q : Nat) : bitAt (ws.set (x / 64) (ws.getD (x / 64) 0#64 ||| 1#64 <<< (x % 64))) q = (bitAt ws q || q == x) := by
  unfold bitAt
  by_cases h : q / 64 = x / 64
  · rw [h, List.getD, List.getElem?_set_self (by exact hx)]
    simp only [Option.getD_some, BitVec.getLsbD_or, BitVec.getLsbD_shiftLeft]
    rw [show (q == x) = decide (q % 64 = x % 64) from by rw [Bool.eq_iff_iff, beq_iff_eq, decide_eq_true_eq]; omega]
    congr 1
    rw [Bool.eq_iff_iff]
    simp only [Bool.and_eq_true, decide_eq_true_eq, Bool.not_eq_true', decide_eq_false_iff_not, BitVec.getLsbD_one]
    omega
  · have e : (ws.set (x / 64) (ws.getD (x / 64) 0#64 ||| 1#64 <<< (x % 64))).getD (q / 64) 0#64 = ws.getD (q / 64) 0#64 := by
      rw [List.getD, List.getElem?_set_ne (fun e => h e.symm)]; rfl
    rw [e, show (q == x) = false from by rw [beq_eq_false_iff_ne]; intro e; exact h (by rw [e]), Bool.or_false]
theorem make64 (w : World) : (Instr.makeSlice 23 (.int .i64 64) (.int .i64 64)).run Try.prog w = .ok (.slice (some ⟨w.heap.size, 0, none⟩) 64 64) (w.alloc (.cells ((List.replicate 64 0#64).map u).toArray 62)) := by
  have h := run_make1 (P := Try.prog) 23 62 (.int .u64 0) 8 Try.underlying23 (by kernel_rfl) rfl 64 (by omega) (by omega) w
  have e : zeros (.int .u64 0) 64 = ((List.replicate 64 0#64).map u).toArray := by unfold zeros; rw [List.map_replicate]; rfl
  rw [e] at h
  exact h
set_option maxRecDepth 100000 in
set_option maxHeartbeats 2000000 in
theorem of_w {F Fs : Fz} {w : World} (hF : Sat F w) (hFs : Sat Fs w) (xs : List Nat) (hx : ∀ x ∈ xs, x ≤ 4095) (A : Option Addr) (n c : Nat) (hf : Rd Fs 1 A n ((zs xs).map encI)) (hn : n ≤ 100000) :
    Calls Try.prog 35 #[.slice A n c] w (RetU F w fun gs => gs.length ≤ 64 ∧ ∀ q, bitAt gs q = xs.contains q) := by
  have hlen : n = xs.length := by have := hf.1; simp [zs] at this; omega
  have HLEN := Lib.hid hlen
  have HX := Lib.hid hx
  have hmk := make64
  clear hlen hx
  go_enter Try.func35, Try.ntmps35
  go_wp2_with fail
  go_loopw [5, 9] (fun _ i wr => ∃ (m : Nat) (ws : List (BitVec 64)), m ≤ n ∧ i = .int .i64 m ∧ Hid (ws.length = 64) ∧ Hid (∀ q, bitAt ws q = (xs.take m).contains q) ∧ Blk wr w.heap.size 62 (ws.map u).toArray ∧ Below w.heap.size w wr) (fun _ i _ => n - (intOf i).toNat)
  case atStart => exact ⟨0, List.replicate 64 0#64, Nat.zero_le _, rfl, Lib.hid (by simp), Lib.hid (fun q => by
    unfold bitAt
    rw [List.getD, List.getElem?_replicate]
    split <;> simp), Blk.new _ _ _, balloc _ _⟩
  case round =>
    obtain ⟨m, ws, hm, rfl, HL, HB, hB, hbl⟩ := hrel
    by_cases hmn : m < n
    · have hmI : (m : Int) < (n : Int) := by omega
      have hml : m < xs.length := by rw [← HLEN.out]; exact hmn
      obtain ⟨a0, v0, rfl, hv0, hc0⟩ := hf.at1 hmn
      have hv1 : ((zs xs).map encI)[m]? = some (encI ((xs[m] : Nat) : Int)) := by simp [zs, hml]
      rw [hv1] at hv0
      injection hv0 with hv0
      subst hv0
      have hz0 := (hFs.below hbl).cell hc0
      have hxb := HX.out _ (List.getElem_mem hml)
      have htk : xs.take (m + 1) = xs.take m ++ [xs[m]] := List.take_succ_eq_append_getElem hml
      generalize xs[m] = x at *
      have hx1 : (x : Int) ≤ 4095 := by omega
      have hx2 : x / 64 < ws.length := by rw [HL.out]; omega
      have hx3 : (x : Int) / 64 < 64 := by omega
      have hx4 : ((x : Int) / 64).toNat = x / 64 := by omega
      have hx5 : 0 ≤ (x : Int) % 64 := by omega
      have hx6 : (x : Int) % 64 < 64 := by omega
      have hx7 : ((x : Int) % 64).toNat = x % 64 := by omega
      have hx8 : x % 64 < 64 := by omega
      have hc1 := hB.cellL (k := x / 64) (x := ws.getD (x / 64) 0#64) (by rw [List.getD, List.getElem?_eq_getElem hx2]; rfl)
      have hfz := hB.frozen (x / 64)
      have hst := hB.setL (x / 64) (ws.getD (x / 64) 0#64 ||| 1#64 <<< (x % 64)) rfl
      have hbs := fun u => hbl.setCell (p := ⟨w.heap.size, x / 64, none⟩) (Nat.le_refl _) u
      have HS : Hid (∀ q, bitAt (ws.set (x / 64) (ws.getD (x / 64) 0#64 ||| 1#64 <<< (x % 64))) q = (xs.take (m + 1)).contains q) := Lib.hid (fun q => by
        rw [bit_set hx2, HB.out, htk]
        simp [List.contains_append, Bool.or_comm]
        congr 1 <;> (rw [Bool.eq_iff_iff]; simp [eq_comm]))
      have HL2 : Hid ((ws.set (x / 64) (ws.getD (x / 64) 0#64 ||| 1#64 <<< (x % 64))).length = 64) := Lib.hid (by rw [List.length_set, HL.out])
      have HST := Lib.hid hst
      generalize ws.set (x / 64) (ws.getD (x / 64) 0#64 ||| 1#64 <<< (x % 64)) = ws2 at *
      generalize ws.getD (x / 64) 0#64 = y at *
      clear hst htk hc0 hv1 hx2
      go_wp2_with fail
      go_roundw
      case rel => exact ⟨m + 1, ws2, by omega, by go_num, HL2, HS, HST.out, hbs _⟩
      case measure => simp [intOf]; omega
    · obtain rfl : m = n := by omega
      have hdec : decide ((m : Int) < (m : Int)) = false := decide_eq_false (by omega)
      have HT : Hid (xs.take m = xs) := Lib.hid (by rw [HLEN.out, List.take_length])
      have hr := hB.rdH
      rw [HL.out] at hr
      have hTr := Lib.hid (trim_w (hF.below hbl) (sat_heapF wr) ws ⟨w.heap.size, 0, none⟩ 64 64 (by omega) hr (by omega))
      clear hr
      go_wp2_with fail
      go_at_call 61
      refine hTr.out.mono ?_
      rintro e w2 ⟨gs, B, d, F2, rfl, hd, hrd, hb2, hS2, hle2, hg1, hg2⟩
      obtain ⟨K, hK⟩ : ∃ K, gs.length = K := ⟨_, rfl⟩
      have HK := Lib.hid hK
      rw [hK] at hd hrd hg1
      rw [HK.out]
      have HG := Lib.hid hg2
      clear hK hg2
      go_wp2_with fail
      go_ret
      exact ⟨gs, B, d, F2, by rw [HK.out]; rfl, by rw [HK.out]; exact hd, by rw [HK.out]; exact hrd, hbl.trans (hb2.mono hbl.size), hS2, hle2.old hbl.size, by rw [HK.out, ← HL.out]; exact hg1, fun q => by rw [HG.out, HB.out, HT.out]⟩
/-- All numbers of a set, rising. -/
def bitsL (fs : List (BitVec 64)) : List Nat := (List.range (64 * fs.length)).filter (bitAt fs)
theorem mem_bitsL {fs : List (BitVec 64)} {q : Nat} : q ∈ bitsL fs ↔ bitAt fs q = true := by
  unfold bitsL
  rw [List.mem_filter, List.mem_range]
  constructor
  · exact fun h => h.2
  · intro h
    refine ⟨?_, h⟩
    by_cases hq : q < 64 * fs.length
    · exact hq
    · rw [bit_out fs q (by omega)] at h; cases h
/-- What List leaves: a row of numbers of its own. -/
def RetIO (F : Fz) (w : World) (xs : List Int) (e : Ending) (w' : World) : Prop := ∃ A c, e = .returned (.slice A xs.length c) ∧ xs.length ≤ c ∧ Own F w' w.heap.size 3 1 (.slice A xs.length c) xs.length (xs.map encI) ∧ Below w.heap.size w w'
set_option maxRecDepth 100000 in
set_option maxHeartbeats 2000000 in
theorem list_w {F F' : Fz} {w : World} (hF : Sat F w) (hF' : Sat F' w) (fs : List (BitVec 64)) (A : Option Addr) (n c : Nat) (hf : Rd F' 1 A n (fs.map u)) (hn : n ≤ 64) :
    Calls Try.prog 37 #[.slice A n c] w (RetIO F w (zs (bitsL fs))) := by
  have hlen := rd_len hf
  have HLEN := Lib.hid hlen
  clear hlen
  go_enter Try.func37, Try.ntmps37
  go_wp2_with fail
  go_loopw [3, 4, 5, 8] (fun v3 _ _ i wr => ∃ (m : Nat) (xs : List Nat) (A3 : Option Addr) (n3 c3 : Nat), m ≤ n ∧ i = .int .i64 m ∧ v3 = .slice A3 n3 c3 ∧ n3 ≤ 64 * m ∧ n3 ≤ c3 ∧ Hid (n3 = xs.length) ∧ Hid (xs = (List.range (64 * m)).filter (bitAt fs)) ∧ Own F wr w.heap.size 3 1 (.slice A3 n3 c3) n3 ((zs xs).map encI) ∧ Sat F wr ∧ Below w.heap.size w wr) (fun _ _ _ i _ => n - (intOf i).toNat)
  case atStart => exact ⟨0, [], none, 0, 0, Nat.zero_le _, rfl, rfl, Nat.zero_le _, Nat.le_refl _, Lib.hid rfl, Lib.hid (by simp), Own.nil _ _ _ _ _, hF, Below.refl _ _⟩
  case round =>
    obtain ⟨m, xs, A3, n3, c3, hm, rfl, rfl, hn3, hc3, H3, HX, hO, hFr, hbl⟩ := hrel
    by_cases hmn : m < n
    · have hmI : (m : Int) < (n : Int) := by omega
      have hml : m < fs.length := by rw [← HLEN.out]; exact hmn
      obtain ⟨a0, v0, rfl, hv0, hc0⟩ := hf.at1 hmn
      rw [List.getElem?_map, List.getElem?_eq_getElem hml] at hv0
      injection hv0 with hv0
      subst hv0
      have hbx : ∀ b, b < 64 → bitAt fs (64 * m + b) = fs[m].getLsbD b := fun b hb => by
        unfold bitAt
        rw [show (64 * m + b) / 64 = m by omega, show (64 * m + b) % 64 = b by omega, List.getD, List.getElem?_eq_getElem hml]; rfl
      have HBX := Lib.hid hbx
      generalize fs[m] = x at *
      have HX0 : Hid (xs = (List.range (64 * m + 0)).filter (bitAt fs)) := Lib.hid (by rw [Nat.add_zero]; exact HX.out)
      clear hbx
      go_wp2_with fail
      go_loopw [3, 5, 11] (fun v3 _ i wr => ∃ (b : Nat) (xs : List Nat) (A3 : Option Addr) (n3 c3 : Nat), b ≤ 64 ∧ i = .int .i64 b ∧ v3 = .slice A3 n3 c3 ∧ n3 ≤ 64 * m + b ∧ n3 ≤ c3 ∧ Hid (n3 = xs.length) ∧ Hid (xs = (List.range (64 * m + b)).filter (bitAt fs)) ∧ Own F wr w.heap.size 3 1 (.slice A3 n3 c3) n3 ((zs xs).map encI) ∧ Sat F wr ∧ Below w.heap.size w wr) (fun _ _ i _ => 64 - (intOf i).toNat)
      case atStart => exact ⟨0, xs, A3, n3, c3, by omega, rfl, rfl, by omega, hc3, H3, HX0, hO, hFr, hbl⟩
      case round =>
        clear hO hFr hbl H3 HX HX0 hn3 hc3
        obtain ⟨b, xs, A3, n3, c3, hb, rfl, rfl, hn3, hc3, H3, HX, hO, hFr, hbl⟩ := hrel
        by_cases hb64 : b < 64
        · have hbI : (b : Int) < 64 := by omega
          have hz0 := (hF'.below hbl).cell hc0
          have hzl := hbl.size
          have hv := HBX.out b hb64
          have hstep : (List.range (64 * m + (b + 1))).filter (bitAt fs) = xs ++ if x.getLsbD b = true then [64 * m + b] else [] := by
            rw [show 64 * m + (b + 1) = (64 * m + b) + 1 by omega, List.range_succ, List.filter_append, ← HX.out, List.filter_cons, List.filter_nil, hv]
          have htb := test_bit x b
          have hmb : (m : Int) ≤ 64 := by omega
          have hcast : (64 * (m : Int) + (b : Int)) = ((64 * m + b : Nat) : Int) := by omega
          cases hx : x.getLsbD b
          · rw [hx] at htb hstep
            have HS : Hid (xs = (List.range (64 * m + (b + 1))).filter (bitAt fs)) := Lib.hid (by rw [hstep]; simp)
            clear hstep hv hx hc0
            go_wp2_with fail
            go_roundw
            case rel => exact ⟨b + 1, xs, A3, n3, c3, by omega, by go_num, rfl, by omega, hc3, H3, HS, hO, hFr, hbl⟩
            case measure => simp [intOf]; omega
          · rw [hx] at htb hstep
            have HS : Hid (xs ++ [64 * m + b] = (List.range (64 * m + (b + 1))).filter (bitAt fs)) := Lib.hid (by rw [hstep]; simp)
            have HZ : Hid (zs xs ++ [((64 * m + b : Nat) : Int)] = zs (xs ++ [64 * m + b])) := Lib.hid (by rw [zs_snoc])
            obtain ⟨p, hp⟩ : ∃ p, 64 * m + b = p := ⟨_, rfl⟩
            rw [hp] at HS HZ hcast
            clear hstep hv hx hc0
            go_wp2_with (at_builtin; refine wpList_pushI rfl (.tmp 23) (.tmp 28) rfl (hO.alloc _) (hFr.alloc _) (by rfl) wr.heap.size 1 (p : Int) (by rfl) (Blk.new _ _ _) (by omega) (by simp; omega) ?_; intro v2 w2 hO2 hF2 hb2 hg2 hat2)
            rw [HZ.out] at hO2
            obtain ⟨A2, c2, rfl, hc2⟩ := hO2.shape
            have hS2 := (hbl.alloc hzl (.cells #[.int .i64 (p : Int)] 3)).trans hb2
            go_roundw
            case rel => exact ⟨b + 1, _, A2, n3 + 1, c2, by omega, by go_num, rfl, by omega, hc2, Lib.hid (by rw [H3.out]; simp), HS, hO2, hF2, hS2⟩
            case measure => simp [intOf]; omega
        · obtain rfl : b = 64 := by omega
          go_wp2_with fail
          go_roundw
          case rel => exact ⟨m + 1, xs, A3, n3, c3, by omega, by go_num, rfl, by omega, hc3, H3, Lib.hid (by rw [HX.out, Nat.mul_add]), hO, hFr, hbl⟩
          case measure => simp [intOf]; omega
    · obtain rfl : m = n := by omega
      have hdec : decide ((m : Int) < (m : Int)) = false := decide_eq_false (by omega)
      have HT : Hid (xs = bitsL fs) := Lib.hid (by rw [HX.out, HLEN.out]; rfl)
      have HN : Hid ((zs (bitsL fs)).length = n3) := Lib.hid (by rw [length_zs, ← HT.out, H3.out])
      go_wp2_with fail
      go_ret
      rw [HT.out] at hO
      exact ⟨A3, c3, by rw [HN.out]; rfl, by rw [HN.out]; exact hc3, by rw [HN.out]; exact hO, hbl⟩
end Go.Proofs.Ytkhhjihbahdepaa
/-! The walk of the reference's Cut. -/
namespace Go.Proofs.Ytkhhjihbahdepaa
open Go.RowKit
attribute [local go_sem ↓] bits_and bits_or not_bits arith_add arith_sub shift_l shift_r shift_lu shift_ru shift_int conv_uu shift_l1 shift_l1u bits_and1 arith_sub1
attribute [local go_sem] uz_toNat uz_nonneg
section
variable {F : Fz} {w : World} {B : Nat} {e : TypeId} {g n c : Nat} {xs : List Value}
theorem Own.cellAt (h : Own F w B e 1 (.slice (some ⟨g, 0, none⟩) n c) n xs) {i : Nat} (hi : i < n) : w.cell? ⟨g, i, none⟩ = xs[i]? ∧ w.frozen? ⟨g, i, none⟩ = false ∧ B ≤ g := by
  obtain ⟨⟨hl, h1⟩, h2⟩ := h
  rcases h1 with ⟨h3, _⟩ | ⟨g', cap, cur, h3, hbase, hb, h5, h6, h7, h8⟩
  · cases h3
  · injection h3 with h3 _ h4
    injection h3 with h3
    injection h3 with h3
    subst h3 h4
    have hB : Blk w g e cur := hb
    refine ⟨?_, hB.frozen i, hbase⟩
    rw [hB.cell, ← h8, List.getElem?_take_of_lt (by omega), Array.getElem?_toList]
theorem Own.store (h : Own F w B e 1 (.slice (some ⟨g, 0, none⟩) n c) n xs) {i : Nat} (hi : i < n) (y : Value) : Own F (w.setCell ⟨g, i, none⟩ y) B e 1 (.slice (some ⟨g, 0, none⟩) n c) n (xs.set i y) := by
  obtain ⟨⟨hl, h1⟩, h2⟩ := h
  rcases h1 with ⟨h3, _⟩ | ⟨g', cap, cur, h3, hbase, hb, h5, h6, h7, h8⟩
  · cases h3
  · injection h3 with h3 _ h4
    injection h3 with h3
    injection h3 with h3
    subst h3 h4
    have hB : Blk w g e cur := hb
    refine ⟨⟨by simpa using hl, .inr ⟨g, c, _, rfl, hbase, hB.set_ i y, h5, h6, by simpa using h7, ?_⟩⟩, h2⟩
    rw [Array.toList_setIfInBounds, ← h8, List.take_set]
end
def cutW (n j : Nat) (x : BitVec 64) : BitVec 64 := if n = 0 ∨ n / 64 < j then 0#64 else if n / 64 = j then x &&& (1#64 <<< (n % 64) - 1#64) else x
theorem cut_bit (n : Nat) (fs : List (BitVec 64)) (q : Nat) : bitAt (fs.mapIdx (cutW n)) q = (bitAt fs q && decide (q < n)) := by
  unfold bitAt
  rw [List.getD, List.getElem?_mapIdx, List.getD]
  cases hx : fs[q / 64]? with
  | none => simp
  | some x =>
    simp only [Option.map_some, Option.getD_some]
    unfold cutW
    by_cases h1 : n = 0 ∨ n / 64 < q / 64
    · rw [if_pos h1, show decide (q < n) = false from decide_eq_false (by omega)]; simp
    · rw [if_neg h1]
      by_cases h2 : n / 64 = q / 64
      · rw [if_pos h2, BitVec.getLsbD_and, mask_bit _ _ (by omega)]
        congr 1
        rw [decide_eq_decide]
        omega
      · rw [if_neg h2, show decide (q < n) = true from decide_eq_true (by omega), Bool.and_true]
theorem trim_nil {F : Fz} {w : World} (hF : Sat F w) : Calls Try.prog 61 #[.slice none 0 0] w (RetU F w fun gs => gs.length ≤ 0 ∧ ∀ q, bitAt gs q = bitAt [] q) := by
  go_enter Try.func61, Try.ntmps61
  go_wp2_with fail
  go_loop [3] (fun v => v = .int .i64 0) (fun v => 0)
  case atStart => rfl
  case round =>
    subst hrel
    go_wp2_with (at_builtin; refine wpList_allU rfl (.tmp 18) (.tmp 21) rfl (xs := []) (B := w.heap.size) (Own.empty F w w.heap.size _ 1 hF rfl (Nat.le_refl _)) (hF.alloc _) (by rfl) none 0 0 [] (by rfl) (hF.alloc _) Rd.nil (by omega) (by simp) ?_; intro v2 w2 hO2 hF2 hb2 hg2 hat2)
    obtain ⟨F2, A, d, rfl, hd, hr, hS2, hle, _⟩ := hO2.freeze hF2 w (Nat.le_refl _)
    go_ret
    exact ⟨[], A, d, F2, rfl, Nat.zero_le _, hr, (balloc _ _).trans hb2, hS2, hle, by simp, fun q => rfl⟩
set_option maxRecDepth 100000 in
set_option maxHeartbeats 4000000 in
theorem cut_w {F F' : Fz} {w : World} (hF : Sat F w) (hF' : Sat F' w) (fs : List (BitVec 64)) (A : Option Addr) (n c : Nat) (hf : Rd F' 1 A n (fs.map u)) (hn : n ≤ 64) (k : Nat) (hk : k ≤ 1000) :
    Calls Try.prog 38 #[.slice A n c, .int .i64 k] w (RetU F w fun gs => gs.length ≤ n ∧ ∀ q, bitAt gs q = (bitAt fs q && decide (q < k))) := by
  have hlen := rd_len hf
  have HLEN := Lib.hid hlen
  clear hlen
  go_enter Try.func38, Try.ntmps38
  go_wp2_with (at_builtin; refine wpList_allU rfl (.tmp 7) (.tmp 8) rfl (xs := []) (B := w.heap.size) (Own.empty F w w.heap.size _ 1 hF rfl (Nat.le_refl _)) (hF.alloc _) (by rfl) A n c fs (by rfl) (hF'.alloc _) hf (by omega) (by simp) ?_; intro v2 w2 hO2 hF2 hb2 hg2 hat2; obtain ⟨A2, c2, rfl, hc2⟩ := hO2.shape)
  rw [List.nil_append, Nat.zero_add] at hO2
  rw [Nat.zero_add] at hc2
  have hset0 : ∀ (xs : List (BitVec 64)) (i : Nat) (a : BitVec 64), xs[i]? = some a → xs.set i a = xs := fun xs i a h => by
    apply List.ext_getElem?
    intro j
    rw [List.getElem?_set]
    by_cases e : i = j
    · subst e
      rw [if_pos rfl, h]
      have := (List.getElem?_eq_some_iff.1 h).1
      rw [if_pos this]
    · rw [if_neg e]
  have HS0 := Lib.hid hset0
  clear hset0
  have hbl2 := (balloc w (.cells #[] 62)).trans hb2
  have HU := Lib.hid (uptoI_zero (cutW k) fs)
  go_loopw [6, 12] (fun _ i wr => ∃ m : Nat, m ≤ n ∧ i = .int .i64 m ∧ Own F wr w.heap.size 62 1 (.slice A2 n c2) n ((uptoI (cutW k) m fs).map u) ∧ Below w.heap.size w wr) (fun _ i _ => n - (intOf i).toNat)
  case atStart => exact ⟨0, Nat.zero_le _, rfl, by rw [HU.out]; exact hO2, hbl2⟩
  case round =>
    clear hO2 hbl2
    obtain ⟨m, hm, rfl, hO, hbl⟩ := hrel
    by_cases hmn : m < n
    · have hmI : (m : Int) < (n : Int) := by omega
      have hml : m < fs.length := by rw [← HLEN.out]; exact hmn
      have hsome : ∃ g, A2 = some ⟨g, 0, none⟩ := by
        rcases hO.1.2 with ⟨h1, h2⟩ | ⟨g, cap, cur, h1, _⟩
        · omega
        · injection h1 with h1; exact ⟨g, h1⟩
      obtain ⟨g, rfl⟩ := hsome
      obtain ⟨hc1, hfz, hBg⟩ := hO.cellAt hmn
      rw [List.getElem?_map, uptoI_get (cutW k) hml] at hc1
      simp only [Option.map_some] at hc1
      have hset : ∀ y, cutW k m fs[m] = y → Own F (wr.setCell ⟨g, m, none⟩ (u y)) w.heap.size 62 1 (.slice (some ⟨g, 0, none⟩) n c2) n ((uptoI (cutW k) (m + 1) fs).map u) := fun y hy => by
        have := hO.store hmn (u y)
        rw [← hy, ← List.map_set, uptoI_set (cutW k) hml] at this
        rw [← hy]
        exact this
      have hsame : cutW k m fs[m] = fs[m] → Own F wr w.heap.size 62 1 (.slice (some ⟨g, 0, none⟩) n c2) n ((uptoI (cutW k) (m + 1) fs).map u) := fun hy => by
        rw [← uptoI_set (cutW k) hml, hy, HS0.out _ _ _ (uptoI_get (cutW k) hml)]
        exact hO
      have hbs := fun y => hbl.setCell (p := ⟨g, m, none⟩) hBg y
      have hk1 : (k : Int) ≤ 1000 := by omega
      have hq1 : ((k / 64 : Nat) : Int) = (k : Int) / 64 := by omega
      generalize fs[m] = x at *
      have HSET := Lib.hid hset
      have HSAME := Lib.hid hsame
      clear hset hsame
      by_cases hk0 : k = 0
      · have H := HSET.out 0#64 (by unfold cutW; rw [if_pos (.inl hk0)])
        have hk0I : (k : Int) ≤ 0 := by omega
        have hk0D : decide ((k : Int) ≤ 0) = true := decide_eq_true hk0I
        have hk0N : decide (k = 0) = true := decide_eq_true hk0
        have HH := Lib.hid H
        clear H hk0 hk0I
        go_wp2_with fail
        go_roundw
        case rel => exact ⟨m + 1, by omega, by go_num, HH.out, hbs _⟩
        case measure => simp [intOf]; omega
      · have hk0I : decide ((k : Int) ≤ 0) = false := decide_eq_false (by omega)
        have hk0N : decide (k = 0) = false := decide_eq_false hk0
        rcases Nat.lt_trichotomy (k / 64) m with hq | hq | hq
        · have H := Lib.hid (HSET.out 0#64 (by unfold cutW; rw [if_pos (.inr hq)]))
          have hqI : (k : Int) / 64 < (m : Int) := by omega
          clear hq hk0
          go_wp2_with fail
          go_roundw
          case rel => exact ⟨m + 1, by omega, by go_num, H.out, hbs _⟩
          case measure => simp [intOf]; omega
        · have H := Lib.hid (HSET.out (x &&& (1#64 <<< (k % 64) - 1#64)) (by unfold cutW; rw [if_neg (by omega), if_pos hq]))
          have hqI : decide ((k : Int) / 64 < (m : Int)) = false := decide_eq_false (by omega)
          have hqE : ((k : Int) / 64 == (m : Int)) = true := by rw [beq_iff_eq]; omega
          have h5 : 0 ≤ (k : Int) % 64 := by omega
          have h6 : (k : Int) % 64 < 64 := by omega
          have h7 : ((k : Int) % 64).toNat = k % 64 := by omega
          have h8 : k % 64 < 64 := by omega
          clear hq hk0
          go_wp2_with fail
          go_roundw
          case rel => exact ⟨m + 1, by omega, by go_num, H.out, hbs _⟩
          case measure => simp [intOf]; omega
        · have H := Lib.hid (HSAME.out (by unfold cutW; rw [if_neg (by omega), if_neg (by omega)]))
          have hqI : decide ((k : Int) / 64 < (m : Int)) = false := decide_eq_false (by omega)
          have hqE : ((k : Int) / 64 == (m : Int)) = false := by rw [beq_eq_false_iff_ne]; omega
          clear hq hk0
          go_wp2_with fail
          go_roundw
          case rel => exact ⟨m + 1, by omega, by go_num, H.out, hbl⟩
          case measure => simp [intOf]; omega
    · obtain rfl : m = n := by omega
      have hdec : decide ((m : Int) < (m : Int)) = false := decide_eq_false (by omega)
      rw [uptoI_all (cutW k) (by rw [HLEN.out]; exact Nat.le_refl _)] at hO
      have hT : Calls Try.prog 61 #[.slice A2 m c2] wr (RetU F wr fun gs => gs.length ≤ m ∧ ∀ q, bitAt gs q = (bitAt fs q && decide (q < k))) := by
        have hr0 := hO.rdH
        rcases hO.1.2 with ⟨h1, h2⟩ | ⟨g, cap, cur, h1, _⟩
        · injection h1 with h1 h3 h4
          subst h1 h4
          subst h2
          have hfs : fs = [] := List.eq_nil_of_length_eq_zero (by rw [← HLEN.out])
          refine (trim_nil (hF.below hbl)).mono fun e w' ⟨gs, B, d, F2, he, hd, hr, hb, hS2, hle, hl, hq⟩ => ⟨gs, B, d, F2, he, hd, hr, hb, hS2, hle, hl, fun q => ?_⟩
          rw [hq q, hfs]
          unfold bitAt; simp
        · injection h1 with h1 h3 h4
          subst h1
          obtain ⟨B, d, e1, hd, hr⟩ := hr0
          injection e1 with e1 _ e3
          subst e1 e3
          refine (trim_w (hF.below hbl) (sat_heapF wr) _ ⟨g, 0, none⟩ m c2 hd hr (by omega)).mono fun e w' ⟨gs, B, d, F2, he, hd, hr, hb, hS2, hle, hl, hq⟩ => ⟨gs, B, d, F2, he, hd, hr, hb, hS2, hle, ?_, fun q => ?_⟩
          · rw [List.length_mapIdx, ← HLEN.out] at hl; exact hl
          · rw [hq q, cut_bit]
      have HT := Lib.hid hT
      clear hT hO
      go_wp2_with fail
      go_at_call 61
      refine HT.out.mono ?_
      rintro e w2 ⟨gs, B, d, F2, rfl, hd, hrd, hb2', hS2, hle2, hg1, hg2⟩
      obtain ⟨K, hK⟩ : ∃ K, gs.length = K := ⟨_, rfl⟩
      have HK := Lib.hid hK
      rw [hK] at hd hrd hg1
      rw [HK.out]
      have HG := Lib.hid hg2
      clear hK hg2
      go_wp2_with fail
      go_ret
      exact ⟨gs, B, d, F2, by rw [HK.out]; rfl, by rw [HK.out]; exact hd, by rw [HK.out]; exact hrd, hbl.trans (hb2'.mono hbl.size), hS2, hle2.old hbl.size, by rw [HK.out]; exact hg1, HG.out⟩
end Go.Proofs.Ytkhhjihbahdepaa
/-! The walk of law 14's Beside. -/
namespace Go.Proofs.Ytkhhjihbahdepaa
open Go.RowKit
/-- The cells of rows of words. -/
def RowsG (F : Fz) (xs : List Value) (rows : List (List (BitVec 64))) : Prop := xs.length = rows.length ∧ ∀ i (h : i < rows.length), ∃ Ai ni ci, xs[i]? = some (.slice Ai ni ci) ∧ Rd F 1 Ai ni (rows[i].map u)
theorem RowsG.cle {F F' : Fz} {xs : List Value} {rows : List (List (BitVec 64))} (h : RowsG F xs rows) (hle : CLe F F') : RowsG F' xs rows := ⟨h.1, fun i hi => let ⟨Ai, ni, ci, a, b⟩ := h.2 i hi; ⟨Ai, ni, ci, a, Rd.cle b hle⟩⟩
theorem RowsG.snoc {F : Fz} {xs : List Value} {rows : List (List (BitVec 64))} (h : RowsG F xs rows) {r : List (BitVec 64)} {A : Option Addr} {n c : Nat} (hx : Rd F 1 A n (r.map u)) : RowsG F (xs ++ [.slice A n c]) (rows ++ [r]) := by
  obtain ⟨h1, h2⟩ := h
  refine ⟨by simp [h1], fun i hi => ?_⟩
  by_cases h3 : i < rows.length
  · obtain ⟨Ai, ni, ci, h4, h5⟩ := h2 i h3
    refine ⟨Ai, ni, ci, by rw [List.getElem?_append_left (by omega)]; exact h4, ?_⟩
    rw [List.getElem_append_left h3]
    exact h5
  · simp at hi
    obtain rfl : i = rows.length := by omega
    refine ⟨A, n, c, by rw [List.getElem?_append_right (by omega)]; simp [h1], ?_⟩
    rw [List.getElem_append_right (Nat.le_refl _)]
    simpa using hx
theorem RowsG.rdR {F : Fz} {xs : List Value} {rows : List (List (BitVec 64))} (h : RowsG F xs rows) {B : Option Addr} (hr : Rd F 1 B rows.length xs) : RdR F B rows.length rows := by
  refine ⟨rfl, fun i hi => ?_⟩
  obtain ⟨Ai, ni, ci, h4, h5⟩ := h.2 i hi
  obtain ⟨ad, v, rfl, hv, hc⟩ := hr.at1 hi
  rw [h4] at hv
  injection hv with hv
  subst hv
  refine ⟨ad, Ai, ni, ci, rfl, hc, ?_⟩
  rw [List.getD, List.getElem?_eq_getElem hi]
  exact h5
/-- Of two sets of tests, the second one's told from ta on. -/
def bes (ta : Nat) (x y : BitVec 64) (q : Nat) : Bool := (bitAt [x] q && decide (q < ta)) || (decide (ta ≤ q) && bitAt [y] (q - ta))
theorem bes_list (ta : Nat) (x y : BitVec 64) (gs : List (BitVec 64)) (h : ∀ q, bitAt gs q = (bitAt [x] q && decide (q < ta))) (q : Nat) : (bitsL gs ++ (bitsL [y]).map (ta + ·)).contains q = bes ta x y q := by
  rw [Bool.eq_iff_iff, List.contains_iff_mem, List.mem_append, mem_bitsL, h, List.mem_map, bes, Bool.or_eq_true, Bool.and_eq_true (decide (ta ≤ q)), decide_eq_true_eq]
  apply or_congr Iff.rfl
  constructor
  · rintro ⟨b, hb, rfl⟩
    rw [mem_bitsL] at hb
    exact ⟨by omega, by rw [Nat.add_sub_cancel_left]; exact hb⟩
  · rintro ⟨h1, h2⟩
    exact ⟨q - ta, mem_bitsL.2 h2, by omega⟩
theorem bitsL_lt {fs : List (BitVec 64)} {q : Nat} (h : q ∈ bitsL fs) : q < 64 * fs.length := by
  unfold bitsL at h
  rw [List.mem_filter, List.mem_range] at h
  exact h.1
theorem bitsL_len (fs : List (BitVec 64)) : (bitsL fs).length ≤ 64 * fs.length := by
  unfold bitsL
  exact Nat.le_trans (List.length_filter_le _ _) (by simp)
theorem Own.le3 {F F' : Fz} {w : World} {B : Nat} {e : TypeId} {size n : Nat} {v : Value} {xs : List Value} (h : Own F w B e size v n xs) (hv : ∀ g, v.ownBlock = some g → F' g = F g) : Own F' w B e size v n xs := ⟨h.1, fun g hg => (hv g hg).trans (h.2 g hg)⟩
set_option maxRecDepth 100000 in
set_option maxHeartbeats 4000000 in
theorem beside_w {F : Fz} {w : World} (hF : Sat F w) (ta : Nat) (hta : ta ≤ 100) (fa fb : List (BitVec 64)) (PA PB : Option Addr) (na nb ca cb : Nat) (hga : RdR F PA na (fa.map fun x => [x])) (hgb : RdR F PB nb (fb.map fun x => [x])) (N : Nat) (hN : min na nb = N) (hN9 : N ≤ 9) :
    Calls Try.prog 13 #[.int .i64 ta, .slice PA na ca, .slice PB nb cb] w fun e w' => ∃ B d rows, e = .returned (.slice B N d) ∧ N ≤ d ∧ RdR (heapF w') B N rows ∧ (∀ i, i < N → ∀ q, bitAt (rows.getD i []) q = bes ta (fa.getD i 0#64) (fb.getD i 0#64) q) ∧ Below w.heap.size w w' := by
  have hmin : min (na : Int) (nb : Int) = (N : Int) := by omega
  have hla : fa.length = na := by have := hga.1; simpa using this.symm
  have hlb : fb.length = nb := by have := hgb.1; simpa using this.symm
  have HLA := Lib.hid hla
  have HLB := Lib.hid hlb
  have hNa : N ≤ na := by omega
  have hNb : N ≤ nb := by omega
  have HGA := Lib.hid hga
  have HGB := Lib.hid hgb
  clear hla hlb hN hga hgb
  go_enter Try.func13, Try.ntmps13
  go_wp2_with fail
  go_loopw [7, 8, 9, 11, 17] (fun v7 _ _ _ i wr => ∃ (m : Nat) (F' : Fz) (xs : List Value) (rows : List (List (BitVec 64))) (A7 : Option Addr) (c7 : Nat), m ≤ N ∧ i = .int .i64 m ∧ v7 = .slice A7 m c7 ∧ m ≤ c7 ∧ Own F' wr w.heap.size 23 1 (.slice A7 m c7) m xs ∧ RowsG F' xs rows ∧ Hid (rows.length = m) ∧ Hid (∀ i, i < m → ∀ q, bitAt (rows.getD i []) q = bes ta (fa.getD i 0#64) (fb.getD i 0#64) q) ∧ Sat F' wr ∧ Fle w F F' ∧ Below w.heap.size w wr) (fun _ _ _ _ i _ => N - (intOf i).toNat)
  case atStart => exact ⟨0, F, [], [], none, 0, Nat.zero_le _, rfl, rfl, Nat.le_refl _, Own.nil _ _ _ _ _, ⟨rfl, fun i h => by simp at h⟩, Lib.hid rfl, Lib.hid (fun i h => by omega), hF, Fle.refl _ _, Below.refl _ _⟩
  case round =>
    obtain ⟨m, F', xs, rows, A7, c7, hm, rfl, rfl, hc7, hO, hR, HRL, HRB, hF', hle, hbl⟩ := hrel
    obtain ⟨WR, hWR⟩ : ∃ W, W = wr := ⟨_, rfl⟩
    subst hWR
    by_cases hmN : m < N
    · have hmI : (m : Int) < (N : Int) := by omega
      have hmaI : (m : Int) < (na : Int) := by omega
      have hmbI : (m : Int) < (nb : Int) := by omega
      have hma : m < fa.length := by rw [HLA.out]; omega
      have hmb : m < fb.length := by rw [HLB.out]; omega
      obtain ⟨ada, Aa, na1, ca1, rfl, hca, hra⟩ := HGA.out.2 m (by simpa using hma)
      obtain ⟨adb, Ab, nb1, cb1, rfl, hcb, hrb⟩ := HGB.out.2 m (by simpa using hmb)
      have ea : (fa.map fun x => [x]).getD m [] = [fa.getD m 0#64] := by simp [List.getD, hma]
      have eb : (fb.map fun x => [x]).getD m [] = [fb.getD m 0#64] := by simp [List.getD, hmb]
      rw [ea] at hra
      rw [eb] at hrb
      have HX0 : Hid (∀ q, bes ta (fa.getD m 0#64) (fb.getD m 0#64) q = bes ta (fa.getD m 0#64) (fb.getD m 0#64) q) := Lib.hid fun _ => rfl
      obtain ⟨x, hx⟩ : ∃ x, fa.getD m 0#64 = x := ⟨_, rfl⟩
      obtain ⟨y, hy⟩ : ∃ y, fb.getD m 0#64 = y := ⟨_, rfl⟩
      rw [hx] at hra
      rw [hy] at hrb
      have HXX := Lib.hid hx
      have HYY := Lib.hid hy
      have hn1 := rd_len hra
      have hn2 := rd_len hrb
      have hFw := hF.below hbl
      have hza := hFw.cell hca
      have HC := Lib.hid (cut_w hF' hFw [x] Aa na1 ca1 hra (by simp at hn1; omega) ta (by omega))
      have hna1 : na1 ≤ 1 := by simp at hn1; omega
      have hnb1 : nb1 ≤ 1 := by simp at hn2; omega
      have hzl := hbl.size
      clear hx hy hn1 hn2 ea eb HX0 hra
      go_wp2_with fail
      go_at_call 38
      refine HC.out.mono ?_
      rintro e w2 ⟨gs1, A1, c1, F2, rfl, hc1, hr1, hb2, hS2, hle2, hg1, hg2⟩
      have hgl : (bitsL gs1).length ≤ 64 := by have := bitsL_len gs1; omega
      have HG1 := Lib.hid hg1
      have HG2 := Lib.hid hg2
      have hL1 := list_w hS2 hS2 gs1 A1 gs1.length c1 hr1 (by omega)
      generalize gs1.length = k1 at hL1 hc1 hr1 hg1 ⊢
      obtain ⟨n1, hn1⟩ : ∃ n1, (zs (bitsL gs1)).length = n1 := ⟨_, rfl⟩
      have hn1b : n1 ≤ 64 := by rw [← hn1, length_zs]; exact hgl
      have HN1 := Lib.hid hn1
      have HL1 := Lib.hid hL1
      clear hn1 hL1 hg2 hgl
      go_wp2_with fail
      go_at_call 37
      refine HL1.out.mono ?_
      rintro e w3 ⟨A2, c2, rfl, hc2, hO2, hb3⟩
      rw [HN1.out] at hO2 hc2
      rw [HN1.out]
      have hS3 := hS2.below hb3
      have hq3 := bthen hb2 hb3
      have hFw3 := hFw.below hq3
      have hzb := hFw3.cell hcb
      have hL2 := list_w hS3 hFw3 [y] Ab nb1 cb1 hrb (by omega)
      obtain ⟨n2, hn2⟩ : ∃ n2, (zs (bitsL [y])).length = n2 := ⟨_, rfl⟩
      have hn2b : n2 ≤ 64 := by rw [← hn2, length_zs]; exact bitsL_len [y]
      have HN2 := Lib.hid hn2
      have HL2 := Lib.hid hL2
      clear hn2 hL2 hrb hcb
      go_wp2_with fail
      go_at_call 37
      refine HL2.out.mono ?_
      rintro e w4 ⟨A3, c3, rfl, hc3, hO3, hb4⟩
      rw [HN2.out] at hO3 hc3
      rw [HN2.out]
      have hS4 := hS3.below hb4
      have hO24 := hO2.call hb4
      have hlt2 := fun g (h : (Value.slice A2 n1 c2).ownBlock = some g) => (hO2.1.lt g h).2
      have hge3 := fun g (h : (Value.slice A3 n2 c3).ownBlock = some g) => (hO3.1.lt g h).1
      obtain ⟨F3, A3', c3', e3, hc3', hr3, hS3', hle3, hne3⟩ := hO3.freeze hS4 w3 (Nat.le_refl _)
      injection e3 with e31 e32 e33
      subst e31 e33
      have hO25 := hO24.le3 (F' := F3) (fun g hg => hne3 g (by intro h; have := hlt2 g hg; have := hge3 g h; omega))
      have hq4 := bthen hb3 hb4
      have hm1 : ∀ q ∈ bitsL gs1, q < 64 := fun q hq => by have := bitsL_lt hq; have := HG1.out; omega
      have hm2 : ∀ q ∈ bitsL [y], q < 64 := fun q hq => by have := bitsL_lt hq; simpa using this
      have hbl3 := fun gs5 (h : ∀ q, bitAt gs5 q = (bitsL gs1 ++ (bitsL [y]).map (ta + ·)).contains q) q => (h q).trans (bes_list ta x y gs1 HG2.out q)
      have HN2l : Hid ((bitsL [y]).length = n2) := Lib.hid (by rw [← length_zs]; exact HN2.out)
      have HN1l : Hid ((bitsL gs1).length = n1) := Lib.hid (by rw [← length_zs]; exact HN1.out)
      generalize bitsL gs1 = L1 at *
      generalize bitsL [y] = L2 at *
      have HM1 := Lib.hid hm1
      have HM2 := Lib.hid hm2
      have HB3 := Lib.hid hbl3
      clear hm1 hm2 hbl3 hO24 hO2 hO3 hlt2 hge3 hne3
      go_wp2_with fail
      go_loopw [9, 11, 33] (fun v9 _ i wx => ∃ (j n9 : Nat) (A9 : Option Addr) (c9 : Nat), j ≤ n2 ∧ n9 = n1 + j ∧ i = .int .i64 j ∧ v9 = .slice A9 n9 c9 ∧ n9 ≤ c9 ∧ Own F3 wx w2.heap.size 3 1 (.slice A9 n9 c9) n9 ((zs (L1 ++ (L2.take j).map (ta + ·))).map encI) ∧ Sat F3 wx ∧ Below w2.heap.size w2 wx) (fun _ _ i _ => n2 - (intOf i).toNat)
      case atStart => exact ⟨0, n1, A2, c2, Nat.zero_le _, rfl, rfl, rfl, hc2, by simpa using hO25, hS3', hq4⟩
      case round =>
        clear hO25 hS3' hq4
        obtain ⟨j, n9, A9, c9, hj, hn9, rfl, rfl, hc9, hO9, hSx, hbx⟩ := hrel
        have hn9b : n9 ≤ 128 := by omega
        have hzx := hbx.size
        by_cases hjn : j < n2
        · have hjI : (j : Int) < (n2 : Int) := by omega
          have hjl : j < L2.length := by rw [HN2l.out]; exact hjn
          obtain ⟨a3, v3, rfl, hv3, hc3c⟩ := hr3.at1 hjn
          have hv4 : ((zs L2).map encI)[j]? = some (encI ((L2[j] : Nat) : Int)) := by simp [zs, hjl]
          rw [hv4] at hv3
          injection hv3 with hv3
          subst hv3
          have hz3 := hSx.cell hc3c
          have hx64 := HM2.out _ (List.getElem_mem hjl)
          have HTK : Hid (zs (L1 ++ (L2.take j).map (ta + ·)) ++ [((ta + L2[j] : Nat) : Int)] = zs (L1 ++ (L2.take (j + 1)).map (ta + ·))) := Lib.hid (by rw [List.take_succ_eq_append_getElem hjl, List.map_append, ← List.append_assoc, List.map_cons, List.map_nil, zs_snoc])
          obtain ⟨b, hb⟩ : ∃ b, L2[j] = b := ⟨_, rfl⟩
          rw [hb] at hz3 HTK hx64
          obtain ⟨p, hp⟩ : ∃ p, ta + b = p := ⟨_, rfl⟩
          have hpI : (ta : Int) + (b : Int) = (p : Int) := by omega
          rw [hp] at HTK
          clear hv4 hc3c hb hp
          go_wp2_with (at_builtin; refine wpList_pushI rfl (.tmp 37) (.tmp 41) rfl (hO9.alloc _) (hSx.alloc _) (by rfl) wr.heap.size 1 (p : Int) (by rfl) (Blk.new _ _ _) (by omega) (by simp; omega) ?_; intro v2 w6 hO2 hF2 hb6 hg2 hat2)
          rw [HTK.out] at hO2
          obtain ⟨A6, c6, rfl, hc6⟩ := hO2.shape
          have hS6 := (hbx.alloc hzx (.cells #[.int .i64 (p : Int)] 3)).trans hb6
          go_roundw
          case rel => exact ⟨j + 1, n9 + 1, A6, c6, by omega, by omega, by go_num, rfl, hc6, hO2, hF2, hS6⟩
          case measure => simp [intOf]; omega
        · obtain rfl : j = n2 := by omega
          have hdec : decide ((j : Int) < (j : Int)) = false := decide_eq_false (by omega)
          have htl : L2.take j = L2 := by rw [← HN2l.out, List.take_length]
          rw [htl] at hO9
          obtain ⟨A9', c9', e9, hc9', hr9⟩ := hO9.rdH
          injection e9 with e91 e92 e93
          subst e91 e93
          clear e92
          have hOf := Lib.hid (of_w hSx (sat_heapF wr) (L1 ++ L2.map (ta + ·)) (fun q hq => by
            rcases List.mem_append.1 hq with h | h
            · have := HM1.out q h; omega
            · obtain ⟨b, hb, rfl⟩ := List.mem_map.1 h
              have := HM2.out b hb; omega) A9 n9 c9 hr9 (by omega))
          clear htl hr9 hn9
          go_wp2_with fail
          go_at_call 35
          refine hOf.out.mono ?_
          rintro e w5 ⟨gs5, A5, c5, F5, rfl, hc5, hr5, hb5, hS5, hle5, hg5, hg6⟩
          obtain ⟨k5, hk5⟩ : ∃ k5, gs5.length = k5 := ⟨_, rfl⟩
          have HK5 := Lib.hid hk5
          rw [hk5] at hc5 hr5 hg5
          rw [HK5.out]
          have hz2 := hb2.size
          have hz3s := hb3.size
          have hz5 := hb5.size
          have hq5 : Below WR.heap.size WR w5 := bthen (bthen hb2 hbx) hb5
          have hleA : Fle WR F' F5 := (hle2.trans hle3 (by omega)).trans hle5 (by omega)
          have hO7 := (hO.le hleA).call hq5
          have hRR := (hR.cle hleA.cle).snoc (c := c5) (r := gs5) (A := A5) (n := k5) hr5
          have HRL2 : Hid ((rows ++ [gs5]).length = m + 1) := Lib.hid (by rw [List.length_append, HRL.out]; rfl)
          have HRB2 : Hid (∀ i, i < m + 1 → ∀ q, bitAt ((rows ++ [gs5]).getD i []) q = bes ta (fa.getD i 0#64) (fb.getD i 0#64) q) := Lib.hid (fun i hi q => by
            by_cases him : i < m
            · rw [← HRB.out i him q]
              congr 1
              rw [List.getD, List.getElem?_append_left (by rw [HRL.out]; exact him)]; rfl
            · obtain rfl : i = m := by omega
              have e1 : (rows ++ [gs5]).getD i [] = gs5 := by rw [List.getD, List.getElem?_append_right (by rw [HRL.out]; exact Nat.le_refl _), HRL.out, Nat.sub_self]; rfl
              rw [e1, HXX.out, HYY.out]
              exact HB3.out gs5 hg6 q)
          have hleF := hle.trans hleA hbl.size
          have hbl5 := hbl.trans (hq5.mono hbl.size)
          have HRR := Lib.hid hRR
          clear hRR hR hO hk5 hle2 hle3 hle5 hleA HC HL1 HL2 hOf hg6 hO9 hr5
          go_wp2_with (at_builtin; refine wpList_push rfl (.tmp 44) (.tmp 47) _ rfl 23 (.slice none 0 0) 1 24 Try.underlying26 (by kernel_rfl) rfl (by omega) (hO7.alloc _) (hS5.alloc _) (by rfl) w5.heap.size 1 #[.slice A5 k5 c5] (by rfl) (Blk.new _ _ _) rfl (by intro u hu; simp at hu; subst hu; rfl) (by unfold maxLen; omega) (by omega) (by have := hbl5.size; simp; omega) ?_; intro v7 w7 hO8 hF8 hb8 hg8 hat8)
          obtain ⟨A8, c8, rfl, hc8⟩ := hO8.shape
          go_roundw
          case rel => exact ⟨m + 1, F5, _, rows ++ [gs5], A8, c8, by omega, by go_num, rfl, hc8, hO8, HRR.out, HRL2, HRB2, hF8, hleF, (hbl5.alloc hbl5.size _).trans hb8⟩
          case measure => simp [intOf]; omega
    · obtain rfl : m = N := by omega
      have hdec : decide ((m : Int) < (m : Int)) = false := decide_eq_false (by omega)
      obtain ⟨F2, A2, c2, e2, hc2, hr2, hS2, hle2, _⟩ := hO.freeze hF' w (Nat.le_refl _)
      injection e2 with e21 e22 e23
      subst e21 e23
      have hRR := (hR.cle hle2.cle).rdR (B := A7) (by rw [HRL.out]; exact hr2)
      rw [HRL.out] at hRR
      have HRR := Lib.hid (hRR.cle hS2.cle)
      clear hRR hR hO e22
      go_wp2_with fail
      go_ret
      exact ⟨A7, c7, rows, rfl, hc7, HRR.out, HRB.out, hbl⟩
end Go.Proofs.Ytkhhjihbahdepaa
/-! The walk of the law PathsUnion. -/
namespace Go.Proofs.Ytkhhjihbahdepaa
open Go.RowKit
def nd20 : Nd := ⟨20, ⟨#[]⟩, 0, 0, []⟩
theorem alt_reach {n : Nat} {va vb v : Nat → Nat → Bool} {ta tb : Tr} (ha : ∀ i, i < n → ∀ q, q < testsT ta → v i q = va i q) (hb : ∀ i, i < n → ∀ q, q < testsT tb → v i (testsT ta + q) = vb i q) :
    EqM n (reachT n v (.bin nd20 ta tb) 0) (orM (reachT n va ta 0) (reachT n vb tb 0)) ∧ EqM n (reachT n v (.bin nd21 ta tb) 0) (prodM n (reachT n va ta 0) (reachT n vb tb 0)) := by
  have h1 := reach_congr n v va ta 0 0 (fun i hi q hq => by simpa using ha i hi q hq)
  have h2 := reach_congr n v vb tb (0 + testsT ta) 0 (fun i hi q hq => by simpa using hb i hi q hq)
  exact ⟨orM_congr h1 h2, prod_congr h1 h2⟩
theorem RdR.preR {F : Fz} {A : Option Addr} {n : Nat} {gs : List (List (BitVec 64))} (h : RdR F A n gs) {k : Nat} (hk : k ≤ n) : RdR F A k (gs.take k) := by
  obtain ⟨h1, h2⟩ := h
  refine ⟨by rw [List.length_take]; omega, fun j hj => ?_⟩
  rw [List.length_take] at hj
  obtain ⟨ad, Ai, ni, ci, rfl, h3, h4⟩ := h2 j (by omega)
  refine ⟨ad, Ai, ni, ci, rfl, h3, ?_⟩
  have e : (gs.take k).getD j [] = gs.getD j [] := by rw [List.getD, List.getElem?_take_of_lt (by omega)]; rfl
  rw [e]; exact h4
theorem valS_pre (gs : List (List (BitVec 64))) (k x q : Nat) (hx : x < k) : valS (gs.take k) x q = valS gs x q := by
  unfold valS
  rw [List.getD, List.getElem?_take_of_lt hx]; rfl
theorem valS_one (fs : List (BitVec 64)) (i q : Nat) (hi : i < fs.length) : valS (fs.map fun x => [x]) i q = bitAt [fs.getD i 0#64] q := by
  unfold valS
  congr 1
  simp [List.getD, hi]
theorem any_succ (f : Nat → Bool) (l : Nat) : (List.range (l + 1)).any f = ((List.range l).any f || f l) := by rw [List.range_succ, List.any_append]; simp
/-- Tests of the two, told one behind the other. -/
theorem bes_vals {ta : Nat} {fa fb : List (BitVec 64)} {rows : List (List (BitVec 64))} {n : Nat} (ha : n ≤ fa.length) (hb : n ≤ fb.length) (h : ∀ i, i < n → ∀ q, bitAt (rows.getD i []) q = bes ta (fa.getD i 0#64) (fb.getD i 0#64) q) :
    (∀ i, i < n → ∀ q, q < ta → valS rows i q = valS ((fa.map fun x => [x]).take n) i q) ∧ ∀ i, i < n → ∀ q, valS rows i (ta + q) = valS ((fb.map fun x => [x]).take n) i q := by
  refine ⟨fun i hi q hq => ?_, fun i hi q => ?_⟩
  · rw [valS_pre _ _ _ _ hi, valS_one _ _ _ (by omega)]
    show bitAt (rows.getD i []) q = _
    rw [h i hi]
    unfold bes
    simp [hq, show ¬ ta ≤ q by omega]
  · rw [valS_pre _ _ _ _ hi, valS_one _ _ _ (by omega)]
    show bitAt (rows.getD i []) (ta + q) = _
    rw [h i hi]
    unfold bes
    simp [show ¬ ta + q < ta by omega]
end Go.Proofs.Ytkhhjihbahdepaa
