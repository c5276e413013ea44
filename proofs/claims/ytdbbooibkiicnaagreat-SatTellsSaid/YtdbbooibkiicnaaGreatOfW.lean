/- The walks of the reference's Trim and Of. -/
import Derived.Test.YtdbbooibkiicnaaGreatTab1
import Derived.Test.YtdbbooibkiicnaaGreatApp
import Derived.Test.YtdbbooibkiicnaaGreatOwn
import Derived.Test.YtdbbooibkiicnaaGreatRReach
set_option linter.unusedVariables false
set_option linter.unusedSimpArgs false
/-! The walks of the reference's functions on sets by words: Trim, Of, List, Cut. -/
/-! The walks of the reference's functions on sets by words: Trim, Of, List, Cut. -/
namespace Go.Proofs.YtdbbooibkiicnaaGreat
open Go.RowKit
attribute [local go_sem ↓] bits_and bits_or not_bits arith_add arith_sub shift_l shift_r shift_lu shift_ru shift_int conv_uu shift_l1 shift_l1u bits_and1 arith_sub1
attribute [local go_sem] uz_toNat uz_nonneg
/-- What a function that gives a set leaves: its words, of which P holds. -/
def RetU (F : Fz) (w : World) (P : List (BitVec 64) → Prop) (e : Ending) (w' : World) : Prop := ∃ gs A c F', e = .returned (.slice A gs.length c) ∧ gs.length ≤ c ∧ Rd F' 1 A gs.length (gs.map u) ∧ Below w.heap.size w w' ∧ Sat F' w' ∧ Fle w F F' ∧ P gs
theorem wpList_allU {w : World} {ops : Array Oper} {rest : List Oper} {o : Oper} {a : Act} {Q : Exit → Act → World → Prop} (hgd : o.guard = none) (s x : Operand)
    (ho : o.op = .call { callee := .builtin .append, args := #[s, x], argTypes := #[33, 33] })
    {F F' : Fz} {B n : Nat} {v : Value} {xs : List (BitVec 64)} (hown : Own F w B 44 1 v n (xs.map u)) (hF : Sat F w) (hs : a.eval s = v)
    (A : Option Addr) (m c : Nat) (ys : List (BitVec 64)) (hx : a.eval x = .slice A m c) (hF' : Sat F' w) (hr : Rd F' 1 A m (ys.map u)) (hn : n + m ≤ 1000000) (hB : B ≤ w.heap.size)
    (h : ∀ v' w', Own F w' B 44 1 v' (n + m) ((xs ++ ys).map u) → Sat F w' → Below B w w' → w.grownBy w' v.ownBlock → (v'.ownBlock = v.ownBlock ∨ v'.ownBlock = some w.heap.size) → wpList Tryz.prog ops Q rest (a.put o.dst v') w') :
    wpList Tryz.prog ops Q (o :: rest) a w := by
  refine wpList_pushAll hgd s x _ ho 44 (.int .u64 0) 1 8 Tryz.underlying33 (by kernel_rfl) rfl (by omega) hown hF hs A m c _ hx hF' hr (ones_u ys) (by simp [maxLen]; omega) (by omega) hB ?_
  intro v' w' h1 h2 h3 h4 h5
  exact h v' w' (by rw [List.map_append]; exact h1) h2 h3 h4 h5
theorem bit_take {fs : List (BitVec 64)} {k : Nat} (h : ∀ j, k ≤ j → fs.getD j 0#64 = 0#64) (q : Nat) : bitAt (fs.take k) q = bitAt fs q := by
  unfold bitAt
  by_cases hq : q / 64 < k
  · rw [List.getD, List.getElem?_take_of_lt hq]; rfl
  · rw [h (q / 64) (by omega), List.getD, List.getElem?_eq_none (by simp; omega)]; simp
set_option maxRecDepth 100000 in
set_option maxHeartbeats 2000000 in
theorem trim_w {F Fs : Fz} {w : World} (hF : Sat F w) (hFs : Sat Fs w) (fs : List (BitVec 64)) (ad : Addr) (n c : Nat) (hc : n ≤ c) (hf : Rd Fs 1 (some ad) n (fs.map u)) (hn : n ≤ 1000) :
    Calls Tryz.prog 149 #[.slice (some ad) n c] w (RetU F w fun gs => gs.length ≤ fs.length ∧ ∀ q, bitAt gs q = bitAt fs q) := by
  have hlen := Lib.hid (rd_len hf)
  go_enter Tryz.func149, Tryz.ntmps149
  go_wp2_with fail
  go_loop [3] (fun v => ∃ k : Nat, k ≤ n ∧ v = .int .i64 k ∧ Hid (∀ j, k ≤ j → fs.getD j 0#64 = 0#64)) (fun v => (intOf v).toNat)
  case atStart => exact ⟨n, Nat.le_refl _, rfl, Lib.hid (fun j hj => by rw [List.getD, List.getElem?_eq_none (by rw [← hlen.out]; exact hj)]; rfl)⟩
  case round =>
    obtain ⟨k, hk, rfl, HZ⟩ := hrel
    have hpre := hf.pre hk
    rw [Nat.mul_one, ← List.map_take] at hpre
    have hkc : (k : Int) ≤ (c : Int) := by omega
    have hk1 : k ≤ 1000 := by omega
    have hfin : ∀ (v : Value) (w2 : World), Own F w2 w.heap.size 44 1 v (0 + k) (([] ++ fs.take k).map u) → Below w.heap.size (w.alloc (.cells #[] 44)) w2 → Sat F w2 → RetU F w (fun gs => gs.length ≤ fs.length ∧ ∀ q, bitAt gs q = bitAt fs q) (.returned v) w2 := by
      intro v w2 hO hb hS
      obtain ⟨F2, A, d, e1, hd, hr, hS2, hle, _⟩ := hO.freeze hS w (Nat.le_refl _)
      rw [List.nil_append] at hr
      have hl : (fs.take k).length = k := by rw [List.length_take, ← hlen.out]; omega
      rw [Nat.zero_add] at e1 hd hr
      refine ⟨fs.take k, A, d, F2, by rw [e1, hl], by rw [hl]; exact hd, by rw [hl]; exact hr, (balloc _ _).trans hb, hS2, hle, by rw [List.length_take]; omega, fun q => bit_take HZ.out q⟩
    have HF := Lib.hid hfin
    clear hfin
    rcases k with _ | j
    · go_wp2_with (at_builtin; refine wpList_allU rfl (.tmp 18) (.tmp 21) rfl (xs := []) (B := w.heap.size) (Own.empty F w w.heap.size _ 1 hF rfl (Nat.le_refl _)) (hF.alloc _) (by rfl) (some ad) 0 c (fs.take 0) (by rfl) (hFs.alloc _) hpre (by omega) (by simp) ?_; intro v2 w2 hO2 hF2 hb2 hg2 hat2)
      go_ret
      exact HF.out v2 w2 hO2 hb2 hF2
    · have hjn : j < n := by omega
      have hjl : j < fs.length := by rw [← hlen.out]; exact hjn
      have hjI : (j : Int) < (n : Int) := by omega
      obtain ⟨ad2, v, e2, hv, hcell⟩ := hf.at1 hjn
      injection e2 with e2
      subst e2
      rw [List.getElem?_map, List.getElem?_eq_getElem hjl] at hv
      injection hv with hv
      subst hv
      have hz := hFs.cell hcell
      have hgd : fs.getD j 0#64 = fs[j] := by rw [List.getD, List.getElem?_eq_getElem hjl]; rfl
      generalize fs[j] = x at *
      clear hcell
      by_cases hx : x = 0#64
      · have hxb : (uz x == 0) = true := by rw [hx]; rfl
        have hnx : ∀ i, j ≤ i → fs.getD i 0#64 = 0#64 := fun i hi => by
          by_cases e : i = j
          · rw [e, hgd, hx]
          · exact HZ.out i (by omega)
        have HNX := Lib.hid hnx
        clear hnx hx hgd
        go_wp2_with fail
        go_round
        case rel => exact ⟨j, by omega, by go_num, HNX⟩
        case measure => simp [intOf]
      · have hxb : (uz x == 0) = false := by rw [beq_eq_false_iff_ne]; exact fun e => hx (uz_inj e)
        clear hx hgd
        go_wp2_with (at_builtin; refine wpList_allU rfl (.tmp 18) (.tmp 21) rfl (xs := []) (B := w.heap.size) (Own.empty F w w.heap.size _ 1 hF rfl (Nat.le_refl _)) (hF.alloc _) (by rfl) (some ad) (j + 1) c (fs.take (j + 1)) (by rfl) (hFs.alloc _) hpre (by omega) (by simp) ?_; intro v2 w2 hO2 hF2 hb2 hg2 hat2)
        go_ret
        exact HF.out v2 w2 hO2 hb2 hF2
theorem bit_set {ws : List (BitVec 64)} {x : Nat} (hx : x / 64 < ws.length) (q : Nat) : bitAt (ws.set (x / 64) (ws.getD (x / 64) 0#64 ||| 1#64 <<< (x % 64))) q = (bitAt ws q || q == x) := by
  unfold bitAt
  by_cases h : q / 64 = x / 64
  · rw [h, List.getD, List.getElem?_set_self (by exact hx)]
    simp only [Option.getD_some, BitVec.getLsbD_or, BitVec.getLsbD_shiftLeft]
    rw [show (q == x) = decide (q % 64 = x % 64) from by rw [Bool.eq_iff_iff, beq_iff_eq, decide_eq_true_eq]; omega]
    congr 1
    rw [Bool.eq_iff_iff]
    simp only [Bool.and_eq_true, decide_eq_true_eq, Bool.not_eq_true', decide_eq_false_iff_not, BitVec.getLsbD_one]
    omega
  · have e : (ws.set (x / 64) (ws.getD (x / 64) 0#64 ||| 1#64 <<< (x % 64))).getD (q / 64) 0#64 = ws.getD (q / 64) 0#64 := by
      rw [List.getD, List.getElem?_set_ne (fun e => h e.symm)]; rfl
    rw [e, show (q == x) = false from by rw [beq_eq_false_iff_ne]; intro e; exact h (by rw [e]), Bool.or_false]
theorem make64 (w : World) : (Instr.makeSlice 33 (.int .i64 64) (.int .i64 64)).run Tryz.prog w = .ok (.slice (some ⟨w.heap.size, 0, none⟩) 64 64) (w.alloc (.cells ((List.replicate 64 0#64).map u).toArray 44)) := by
  have h := run_make1 (P := Tryz.prog) 33 44 (.int .u64 0) 8 Tryz.underlying33 (by kernel_rfl) rfl 64 (by omega) (by omega) w
  have e : zeros (.int .u64 0) 64 = ((List.replicate 64 0#64).map u).toArray := by unfold zeros; rw [List.map_replicate]; rfl
  rw [e] at h
  exact h
set_option maxRecDepth 100000 in
set_option maxHeartbeats 2000000 in
theorem rOf_w {F Fs : Fz} {w : World} (hF : Sat F w) (hFs : Sat Fs w) (xs : List Nat) (hx : ∀ x ∈ xs, x ≤ 4095) (A : Option Addr) (n c : Nat) (hf : Rd Fs 1 A n ((zs xs).map encI)) (hn : n ≤ 100000) :
    Calls Tryz.prog 133 #[.slice A n c] w (RetU F w fun gs => gs.length ≤ 64 ∧ ∀ q, bitAt gs q = xs.contains q) := by
  have hlen : n = xs.length := by have := hf.1; simp [zs] at this; omega
  have HLEN := Lib.hid hlen
  have HX := Lib.hid hx
  have hmk := make64
  clear hlen hx
  go_enter Tryz.func133, Tryz.ntmps133
  go_wp2_with fail
  go_loopw [5, 9] (fun _ i wr => ∃ (m : Nat) (ws : List (BitVec 64)), m ≤ n ∧ i = .int .i64 m ∧ Hid (ws.length = 64) ∧ Hid (∀ q, bitAt ws q = (xs.take m).contains q) ∧ Blk wr w.heap.size 44 (ws.map u).toArray ∧ Below w.heap.size w wr) (fun _ i _ => n - (intOf i).toNat)
  case atStart => exact ⟨0, List.replicate 64 0#64, Nat.zero_le _, rfl, Lib.hid (by simp), Lib.hid (fun q => by
    unfold bitAt
    rw [List.getD, List.getElem?_replicate]
    split <;> simp), Blk.new _ _ _, balloc _ _⟩
  case round =>
    obtain ⟨m, ws, hm, rfl, HL, HB, hB, hbl⟩ := hrel
    by_cases hmn : m < n
    · have hmI : (m : Int) < (n : Int) := by omega
      have hml : m < xs.length := by rw [← HLEN.out]; exact hmn
      obtain ⟨a0, v0, rfl, hv0, hc0⟩ := hf.at1 hmn
      have hv1 : ((zs xs).map encI)[m]? = some (encI ((xs[m] : Nat) : Int)) := by simp [zs, hml]
      rw [hv1] at hv0
      injection hv0 with hv0
      subst hv0
      have hz0 := (hFs.below hbl).cell hc0
      have hxb := HX.out _ (List.getElem_mem hml)
      have htk : xs.take (m + 1) = xs.take m ++ [xs[m]] := List.take_succ_eq_append_getElem hml
      generalize xs[m] = x at *
      have hx1 : (x : Int) ≤ 4095 := by omega
      have hx2 : x / 64 < ws.length := by rw [HL.out]; omega
      have hx3 : (x : Int) / 64 < 64 := by omega
      have hx4 : ((x : Int) / 64).toNat = x / 64 := by omega
      have hx5 : 0 ≤ (x : Int) % 64 := by omega
      have hx6 : (x : Int) % 64 < 64 := by omega
      have hx7 : ((x : Int) % 64).toNat = x % 64 := by omega
      have hx8 : x % 64 < 64 := by omega
      have hc1 := hB.cellL (k := x / 64) (x := ws.getD (x / 64) 0#64) (by rw [List.getD, List.getElem?_eq_getElem hx2]; rfl)
      have hfz := hB.frozen (x / 64)
      have hst := hB.setL (x / 64) (ws.getD (x / 64) 0#64 ||| 1#64 <<< (x % 64)) rfl
      have hbs := fun u => hbl.setCell (p := ⟨w.heap.size, x / 64, none⟩) (Nat.le_refl _) u
      have HS : Hid (∀ q, bitAt (ws.set (x / 64) (ws.getD (x / 64) 0#64 ||| 1#64 <<< (x % 64))) q = (xs.take (m + 1)).contains q) := Lib.hid (fun q => by
        rw [bit_set hx2, HB.out, htk]
        simp [List.contains_append, Bool.or_comm]
        congr 1 <;> (rw [Bool.eq_iff_iff]; simp [eq_comm]))
      have HL2 : Hid ((ws.set (x / 64) (ws.getD (x / 64) 0#64 ||| 1#64 <<< (x % 64))).length = 64) := Lib.hid (by rw [List.length_set, HL.out])
      have HST := Lib.hid hst
      generalize ws.set (x / 64) (ws.getD (x / 64) 0#64 ||| 1#64 <<< (x % 64)) = ws2 at *
      generalize ws.getD (x / 64) 0#64 = y at *
      clear hst htk hc0 hv1 hx2
      go_wp2_with fail
      go_roundw
      case rel => exact ⟨m + 1, ws2, by omega, by go_num, HL2, HS, HST.out, hbs _⟩
      case measure => simp [intOf]; omega
    · obtain rfl : m = n := by omega
      have hdec : decide ((m : Int) < (m : Int)) = false := decide_eq_false (by omega)
      have HT : Hid (xs.take m = xs) := Lib.hid (by rw [HLEN.out, List.take_length])
      have hr := hB.rdH
      rw [HL.out] at hr
      have hTr := Lib.hid (trim_w (hF.below hbl) (sat_heapF wr) ws ⟨w.heap.size, 0, none⟩ 64 64 (by omega) hr (by omega))
      clear hr
      go_wp2_with fail
      go_at_call 149
      refine hTr.out.mono ?_
      rintro e w2 ⟨gs, B, d, F2, rfl, hd, hrd, hb2, hS2, hle2, hg1, hg2⟩
      obtain ⟨K, hK⟩ : ∃ K, gs.length = K := ⟨_, rfl⟩
      have HK := Lib.hid hK
      rw [hK] at hd hrd hg1
      rw [HK.out]
      have HG := Lib.hid hg2
      clear hK hg2
      go_wp2_with fail
      go_ret
      exact ⟨gs, B, d, F2, by rw [HK.out]; rfl, by rw [HK.out]; exact hd, by rw [HK.out]; exact hrd, hbl.trans (hb2.mono hbl.size), hS2, hle2.old hbl.size, by rw [HK.out, ← HL.out]; exact hg1, fun q => by rw [HG.out, HB.out, HT.out]⟩
end Go.Proofs.YtdbbooibkiicnaaGreat
