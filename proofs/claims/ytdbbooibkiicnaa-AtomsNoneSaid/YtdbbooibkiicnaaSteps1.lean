/- Sets by words: the walks of bits.trim, bits.Or, steps.one. -/
import Derived.Test.YtdbbooibkiicnaaTabW
import Derived.Test.YtdbbooibkiicnaaOfW
set_option linter.unusedVariables false
set_option linter.unusedSimpArgs false
/-! Sets by words: the walks of bits.trim, bits.Or, steps.one. -/
namespace Go.Proofs.Ytdbbooibkiicnaa
open Go.RowKit
attribute [local go_sem ↓] bits_and bits_or not_bits arith_add arith_sub shift_l shift_r shift_lu shift_ru shift_int conv_uu shift_l1 shift_l1u bits_and1 arith_sub1
attribute [local go_sem] uz_toNat uz_nonneg
/-- A value is a set by words. -/
def SetV (F : Fz) (v : Value) (P : Nat → Bool) : Prop := ∃ (gs : List (BitVec 64)) (A : Option Addr) (n c : Nat), v = .slice A n c ∧ n ≤ c ∧ n ≤ 1000 ∧ Rd F 1 A n (gs.map u) ∧ ∀ q, bitAt gs q = P q
theorem SetV.nil (F : Fz) : SetV F (.slice none 0 0) fun _ => false := ⟨[], none, 0, 0, rfl, Nat.le_refl _, by omega, Rd.nil, bit_nil⟩
theorem SetV.eq {F : Fz} {v : Value} {P Q : Nat → Bool} (h : SetV F v P) (e : ∀ q, P q = Q q) : SetV F v Q := let ⟨gs, A, n, c, h1, h2, h3, h4, h5⟩ := h; ⟨gs, A, n, c, h1, h2, h3, h4, fun q => (h5 q).trans (e q)⟩
theorem SetV.cle {F F' : Fz} {v : Value} {P : Nat → Bool} (h : SetV F v P) (e : CLe F F') : SetV F' v P := let ⟨gs, A, n, c, h1, h2, h3, h4, h5⟩ := h; ⟨gs, A, n, c, h1, h2, h3, h4.cle e, h5⟩
theorem SetV.heap {F : Fz} {w : World} {v : Value} {P : Nat → Bool} (h : SetV F v P) (hF : Sat F w) : SetV (heapF w) v P := let ⟨gs, A, n, c, h1, h2, h3, h4, h5⟩ := h; ⟨gs, A, n, c, h1, h2, h3, h4.heap hF, h5⟩
/-- A set is handed back. -/
def RetS (w : World) (P : Nat → Bool) (e : Ending) (w' : World) : Prop := ∃ v, e = .returned v ∧ Below w.heap.size w w' ∧ SetV (heapF w') v P
/-- What has been made since w. -/
def newF (w w' : World) : Fz := fun b => if b < w.heap.size then none else w'.heap[b]?
theorem sat_newF (w w' : World) : Sat (newF w w') w' := fun b o h => by
  unfold newF at h
  split at h
  · cases h
  · exact h
theorem SetV.new {w w' : World} {v : Value} {P : Nat → Bool} (h : SetV (newF w w') v P) : SetV (heapF w') v P := h.heap (sat_newF w w')
theorem rd_new {w w' : World} {g : Nat} {t : TypeId} {xs : List (BitVec 64)} (h : Blk w' g t (xs.map u).toArray) (hg : w.heap.size ≤ g) : Rd (newF w w') 1 (some ⟨g, 0, none⟩) xs.length (xs.map u) := by
  refine ⟨by simp, fun _ => ⟨_, rfl, fun j u hu => ?_⟩⟩
  rw [add_lit0]
  unfold Fz.cell newF
  dsimp only
  rw [if_neg (by omega), h]
  simpa using hu
/-- A set is handed back, made since. -/
def RetMk (w : World) (P : Nat → Bool) (e : Ending) (w' : World) : Prop := ∃ v, e = .returned v ∧ Below w.heap.size w w' ∧ SetV (newF w w') v P
set_option maxRecDepth 100000 in
set_option maxHeartbeats 2000000 in
theorem btrim_w {F : Fz} {w : World} (hF : Sat F w) (fs : List (BitVec 64)) (A : Option Addr) (n c : Nat) (hc : n ≤ c) (hf : Rd F 1 A n (fs.map u)) (hn : n ≤ 1000) :
    Calls Try.prog 106 #[.slice A n c] w fun e w' => ∃ v, e = .returned v ∧ w' = w ∧ SetV F v (bitAt fs) := by
  have hlen := Lib.hid (rd_len hf)
  go_enter Try.func106, Try.ntmps106
  go_wp2_with fail
  go_loop [0] (fun v => ∃ k : Nat, k ≤ n ∧ v = .slice A k c ∧ Hid (∀ j, k ≤ j → fs.getD j 0#64 = 0#64)) (fun v => lenV v)
  case atStart => exact ⟨n, Nat.le_refl _, rfl, Lib.hid (fun j hj => by rw [List.getD, List.getElem?_eq_none (by rw [← hlen.out]; exact hj)]; rfl)⟩
  case round =>
    obtain ⟨k, hk, rfl, HZ⟩ := hrel
    have hpre := hf.pre hk
    rw [Nat.mul_one, ← List.map_take] at hpre
    have hkc : (k : Int) ≤ (c : Int) := by omega
    have hk1 : k ≤ 1000 := by omega
    have HF : Hid (SetV F (.slice A k c) (bitAt fs)) := Lib.hid ⟨fs.take k, A, k, c, rfl, by omega, hk1, hpre, fun q => bit_take HZ.out q⟩
    clear hpre
    rcases k with _ | j
    · have HN : Hid (SetV F (.slice none 0 0) (bitAt fs)) := Lib.hid ((SetV.nil F).eq fun q => by
        unfold bitAt; rw [HZ.out _ (Nat.zero_le _)]; simp)
      go_wp2_with fail
      go_ret
      exact ⟨_, rfl, rfl, HN.out⟩
    · have hjn : j < n := by omega
      have hjl : j < fs.length := by rw [← hlen.out]; exact hjn
      have hjI : (j : Int) < (n : Int) := by omega
      obtain ⟨ad, v, rfl, hv, hcell⟩ := hf.at1 hjn
      rw [List.getElem?_map, List.getElem?_eq_getElem hjl] at hv
      injection hv with hv
      subst hv
      have hz := hF.cell hcell
      have hgd : fs.getD j 0#64 = fs[j] := by rw [List.getD, List.getElem?_eq_getElem hjl]; rfl
      generalize fs[j] = x at *
      clear hcell
      by_cases hx : x = 0#64
      · have hxb : (uz x == 0) = true := by rw [hx]; rfl
        have hnx : ∀ i, j ≤ i → fs.getD i 0#64 = 0#64 := fun i hi => by
          by_cases e : i = j
          · rw [e, hgd, hx]
          · exact HZ.out i (by omega)
        have HNX := Lib.hid hnx
        clear hnx hx hgd
        go_wp2_with fail
        go_round
        case rel => exact ⟨j, by omega, by go_num, HNX⟩
        case measure => simp [lenV]
      · have hxb : (uz x == 0) = false := by rw [beq_eq_false_iff_ne]; exact fun e => hx (uz_inj e)
        clear hx hgd
        go_wp2_with fail
        go_ret
        exact ⟨_, rfl, rfl, HF.out⟩
theorem bit_or (fs gs : List (BitVec 64)) (K : Nat) (hf : fs.length ≤ K) (hg : gs.length ≤ K) (q : Nat) : bitAt (uptoI (fun i _ => fs.getD i 0#64 ||| gs.getD i 0#64) K (List.replicate K 0#64)) q = (bitAt fs q || bitAt gs q) := by
  rw [uptoI_all _ (by simp)]
  unfold bitAt
  rw [List.getD, List.getElem?_mapIdx]
  by_cases h : q / 64 < K
  · rw [List.getElem?_replicate, if_pos h]
    simp
  · rw [List.getElem?_eq_none (by simp; omega)]
    have e1 : fs.getD (q / 64) 0#64 = 0#64 := by rw [List.getD, List.getElem?_eq_none (by omega)]; rfl
    have e2 : gs.getD (q / 64) 0#64 = 0#64 := by rw [List.getD, List.getElem?_eq_none (by omega)]; rfl
    rw [e1, e2]; simp
theorem zeros_u (n : Nat) : zeros (u 0#64) n = ((List.replicate n 0#64).map u).toArray := by unfold zeros; rw [List.map_replicate]
set_option maxRecDepth 100000 in
set_option maxHeartbeats 2000000 in
theorem bor_w {F : Fz} {w : World} (hF : Sat F w) (fs gs : List (BitVec 64)) (A B : Option Addr) (n c m d : Nat) (hf : Rd F 1 A n (fs.map u)) (hg : Rd F 1 B m (gs.map u)) (hn : n ≤ 1000) (hm : m ≤ 1000) :
    Calls Try.prog 68 #[.slice A n c, .slice B m d] w (RetMk w fun q => bitAt fs q || bitAt gs q) := by
  have hl1 := Lib.hid (rd_len hf)
  have hl2 := Lib.hid (rd_len hg)
  obtain ⟨K, hK, hK1, hK2, hKI⟩ : ∃ K : Nat, K ≤ 1000 ∧ n ≤ K ∧ m ≤ K ∧ Max.max (n : Int) (m : Int) = (K : Int) := ⟨Max.max n m, by omega, by omega, by omega, by omega⟩
  have hmk := makeW K (by omega) w
  rw [zeros_u] at hmk
  have HA := Lib.hid (fun (X : World) (hX : Sat F X) (k : Nat) => bitsAt_w hX fs A n c hf k)
  have HB := Lib.hid (fun (X : World) (hX : Sat F X) (k : Nat) => bitsAt_w hX gs B m d hg k)
  clear hf hg
  go_enter Try.func68, Try.ntmps68
  go_wp2_with fail
  go_loopw [6, 15] (fun _ v wr => ∃ k : Nat, k ≤ K ∧ v = .int .i64 k ∧ Blk wr w.heap.size 37 ((uptoI (fun i _ => fs.getD i 0#64 ||| gs.getD i 0#64) k (List.replicate K 0#64)).map u).toArray ∧ Below w.heap.size w wr) (fun _ v _ => K - (intOf v).toNat)
  case atStart => exact ⟨0, Nat.zero_le _, rfl, by rw [uptoI_zero, List.map_replicate]; exact Blk.new _ _ _, balloc _ _⟩
  case round =>
    obtain ⟨k, hk, rfl, hB, hbl⟩ := hrel
    by_cases hlt : k < K
    · have hltI : (k : Int) < (K : Int) := by omega
      have hkr : k < (List.replicate K 0#64).length := by simpa using hlt
      have hc := hB.cellL (uptoI_get _ hkr)
      have hfz := hB.frozen k
      have hst := hB.setL k (fs.getD k 0#64 ||| gs.getD k 0#64) (uptoI_set (fun i _ => fs.getD i 0#64 ||| gs.getD i 0#64) hkr)
      have HST := Lib.hid hst
      have H1 := Lib.hid (HA.out wr (hF.below hbl) k)
      have H2 := Lib.hid (HB.out wr (hF.below hbl) k)
      have HBL := Lib.hid (hbl.setCell (p := ⟨w.heap.size, k, none⟩) (Nat.le_refl _) (u (fs.getD k 0#64 ||| gs.getD k 0#64)))
      generalize (List.replicate K 0#64)[k] = y at *
      generalize fs.getD k 0#64 = x1 at *
      generalize gs.getD k 0#64 = x2 at *
      clear hst hbl hB
      go_wp2_with fail
      go_at_call 69
      refine H1.out.mono ?_
      rintro e w1 ⟨rfl, rfl⟩
      go_wp2_with fail
      go_at_call 69
      refine H2.out.mono ?_
      rintro e w2 ⟨rfl, rfl⟩
      go_wp2_with fail
      go_roundw
      case rel => exact ⟨k + 1, by omega, by go_num, HST.out, HBL.out⟩
      case measure => simp [intOf]; omega
    · obtain rfl : k = K := by omega
      have hdec : decide ((k : Int) < (k : Int)) = false := decide_eq_false (by omega)
      obtain ⟨ws, hws⟩ : ∃ ws, uptoI (fun i _ => fs.getD i 0#64 ||| gs.getD i 0#64) k (List.replicate k 0#64) = ws := ⟨_, rfl⟩
      have HB : Hid (∀ q, bitAt ws q = (bitAt fs q || bitAt gs q)) := Lib.hid (fun q => by rw [← hws]; exact bit_or fs gs k (by rw [← hl1.out]; exact hK1) (by rw [← hl2.out]; exact hK2) q)
      have hwl : ws.length = k := by rw [← hws, length_uptoI]; simp
      rw [hws] at hB
      have hr := rd_new hB (Nat.le_refl _)
      rw [hwl] at hr
      have hT := Lib.hid (btrim_w (sat_newF w wr) ws (some ⟨w.heap.size, 0, none⟩) k k (Nat.le_refl _) hr hK)
      clear hr hwl hws hB
      go_wp2_with fail
      go_at_call 106
      refine hT.out.mono ?_
      rintro e w2 ⟨v, rfl, rfl, hv⟩
      go_wp2_with fail
      go_ret
      exact ⟨_, rfl, hbl, hv.eq HB.out⟩
theorem setV_orN {F F' : Fz} {w : World} (hF : Sat F w) (hF' : Sat F' w) {v v' : Value} {P Q : Nat → Bool} (h : SetV F v P) (h' : SetV F' v' Q) : Calls Try.prog 68 #[v, v'] w (RetMk w fun q => P q || Q q) := by
  obtain ⟨fs, A, n, c, rfl, h1, h2, h3, h4⟩ := h.heap hF
  obtain ⟨gs, B, m, d, rfl, g1, g2, g3, g4⟩ := h'.heap hF'
  refine (bor_w (sat_heapF w) fs gs A B n c m d h3 g3 h2 g2).mono ?_
  rintro e w' ⟨v, rfl, hb, hv⟩
  exact ⟨v, rfl, hb, hv.eq fun q => by rw [h4, g4]⟩
theorem setV_or {F F' : Fz} {w : World} (hF : Sat F w) (hF' : Sat F' w) {v v' : Value} {P Q : Nat → Bool} (h : SetV F v P) (h' : SetV F' v' Q) : Calls Try.prog 68 #[v, v'] w (RetS w fun q => P q || Q q) :=
  (setV_orN hF hF' h h').mono fun _ _ ⟨v, e, hb, hv⟩ => ⟨v, e, hb, hv.new⟩
set_option maxRecDepth 100000 in
set_option maxHeartbeats 2000000 in
theorem sone_w {w : World} (k : Nat) (hk : k ≤ 2000) : Calls Try.prog 123 #[.int .i64 k] w (RetMk w fun q => decide (k ≠ 0) && (q == k)) := by
  by_cases h0 : k = 0
  · subst h0
    go_enter Try.func123, Try.ntmps123
    go_wp2_with fail
    go_ret
    exact ⟨_, rfl, Below.refl _ _, (SetV.nil _).eq fun q => by simp⟩
  · have h0I : ((k : Int) == 0) = false := by rw [beq_eq_false_iff_ne]; omega
    obtain ⟨j, hj⟩ : ∃ j, k / 64 = j := ⟨_, rfl⟩
    have hjI : (k : Int) / 64 = (j : Int) := by omega
    have hjb : j ≤ 40 := by omega
    have hmk := makeW (j + 1) (by omega) w
    rw [zeros_u] at hmk
    have hq : ((j + 1 : Nat) : Int) = (j : Int) + 1 := by omega
    rw [hq] at hmk
    have h5 : 0 ≤ (k : Int) % 64 := by omega
    have h6 : (k : Int) % 64 < 64 := by omega
    have h7 : ((k : Int) % 64).toNat = k % 64 := by omega
    have h8 : k % 64 < 64 := by omega
    have hlt : (j : Int) < (j : Int) + 1 := by omega
    have hB := Blk.new w 37 ((List.replicate (j + 1) 0#64).map u).toArray
    have hc := hB.cellL (k := j) (x := 0#64) (by rw [List.getElem?_replicate, if_pos (by omega)])
    have hfz := hB.frozen j
    have hl : k / 64 < (List.replicate (j + 1) 0#64).length := by simp; omega
    have hst := hB.setL j (1#64 <<< (k % 64)) rfl
    have hbl := (balloc w (.cells ((List.replicate (j + 1) 0#64).map u).toArray 37)).setCell (p := ⟨w.heap.size, j, none⟩) (Nat.le_refl _) (u (1#64 <<< (k % 64)))
    have hbit : ∀ q, bitAt ((List.replicate (j + 1) 0#64).set j (1#64 <<< (k % 64))) q = (decide (k ≠ 0) && (q == k)) := fun q => by
      have h := bit_set hl q
      rw [hj] at h
      have e : (List.replicate (j + 1) 0#64).getD j 0#64 = 0#64 := by rw [List.getD, List.getElem?_replicate, if_pos (by omega)]; rfl
      have e2 : bitAt (List.replicate (j + 1) 0#64) q = false := by unfold bitAt; rw [List.getD, List.getElem?_replicate]; split <;> simp
      rw [e, e2, BitVec.zero_or, Bool.false_or] at h
      rw [h]; simp [h0]
    have hwl : ((List.replicate (j + 1) 0#64).set j (1#64 <<< (k % 64))).length = j + 1 := by simp
    obtain ⟨w1, hw1⟩ : ∃ w1, w.alloc (.cells ((List.replicate (j + 1) 0#64).map u).toArray 37) = w1 := ⟨_, rfl⟩
    rw [hw1] at hmk hc hfz hst hbl
    have HB := Lib.hid hbit
    have HST := Lib.hid hst
    have HBL := Lib.hid hbl
    have HWL := Lib.hid hwl
    clear hbit hst hbl hwl hB hq hl hj h0 hk hw1
    go_enter Try.func123, Try.ntmps123
    go_wp2_with fail
    go_ret
    refine ⟨_, rfl, HBL.out, _, some ⟨w.heap.size, 0, none⟩, j + 1, j + 1, by rfl, Nat.le_refl _, by omega, ?_, HB.out⟩
    have hr := rd_new HST.out (Nat.le_refl _)
    rwa [HWL.out] at hr
end Go.Proofs.Ytdbbooibkiicnaa
